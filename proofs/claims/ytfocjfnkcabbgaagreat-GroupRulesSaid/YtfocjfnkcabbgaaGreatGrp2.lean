/- group.Group. -/
import Derived.Test.YtfocjfnkcabbgaaGreatGrpC
import Derived.Deep.CutRange
set_option linter.unusedVariables false
set_option linter.unusedSimpArgs false
namespace Go.Proofs.YtfocjfnkcabbgaaGreat
open Go.RowKit Go.Shelf

/-- What group.Group leaves. -/
def GroupPost (w : World) (rs : List Rw) (ag : Ag) (k : Nat) (e : Ending) (w' : World) : Prop := ∃ v' m res, e = .returned v' ∧ IsMerge (trn k rs) m ∧ IsMerge ((grp ag m).map (bck k)) res ∧ RowSl w' v' res ∧ New w w'

set_option maxHeartbeats 8000000 in
set_option maxRecDepth 100000 in
theorem group_rows (w : World) (ag : Ag) (k : Nat) (hk : 1 ≤ k) (hk2 : k ≤ 1000) (v : Value) (rs : List Rw) (h : RowSl w v rs) :
    Calls Tryz.prog 12 #[.string (agName ag), .int .i64 k, v] w (GroupPost w rs ag k) := by
  obtain ⟨ld, cd, hvd, hn1000⟩ := h.form
  subst hvd
  obtain ⟨n, hn⟩ : ∃ n, rs.length = n := ⟨_, rfl⟩
  rw [hn] at h hn1000 ⊢
  obtain ⟨nm, hnm⟩ : ∃ s, agName ag = s := ⟨_, rfl⟩
  have hf := folds_any w ag
  rw [hnm] at hf ⊢
  have HF := Lib.hid hf
  have Hn := Lib.hid hn
  have HR := Lib.hid h
  have dk : decide ((k : Int) < 1) = false := decide_eq_false (by omega)
  clear hf hn h hnm
  go_enter Tryz.func12, Tryz.ntmps12
  go_wp2_with fail
  refine HF.out.mono ?_
  rintro e w1 ⟨fv, rfl, hfa, hN1⟩
  have hfa0 := hfa
  obtain ⟨gf, lbf, rfl, hgf⟩ := hfa0
  clear hgf
  have HFa := Lib.hid hfa
  have HR1 := Lib.hid (HR.out.chg hN1)
  have HN1 := Lib.hid hN1
  have hnf : ∀ w, (binOp BinOp.eql 72 (.func (.func gf) #[] lbf) .nilFunc).run Tryz.prog w = .ok (.bool false) w := fun _ => by kernel_rfl
  clear hfa hN1 HF HR
  go_wp2_with fail
  go_loopw [8, 29] (fun u8 u29 wr => ∃ (i : Nat) (cso : List (List Value)), i ≤ n ∧ u29 = .int .i64 i ∧ Own wr w1.heap.size 44 3 u8 cso ∧ RowsOwn wr w1.heap.size cso (trn k (rs.take i)) ∧ New w1 wr) (fun _ u _ => n - (intOf u).toNat)
  case atStart => exact ⟨0, [], Nat.zero_le _, rfl, Own.nil _ _ _ _, ⟨rfl, fun i cs h => by simp at h⟩, Chg.refl _ _⟩
  case round =>
    obtain ⟨i, cso, hin, rfl, hov, hro, hN⟩ := hrel
    have hcl : cso.length ≤ 1000000 := by
      rw [hro.1]
      have h1 := trn_len k (rs.take i)
      have h2 : (rs.take i).length ≤ i := List.length_take_le _ _
      omega
    have HOv := Lib.hid hov
    have HRo := Lib.hid hro
    have HNw := Lib.hid hN
    clear hov hro hN
    by_cases hlt : i < n
    · obtain ⟨r, hr⟩ : ∃ r, rs[i]? = some r := ⟨_, List.getElem?_eq_getElem (by rw [Hn.out]; exact hlt)⟩
      obtain ⟨ad, cs, rfl, hat, hk3, hrow⟩ := HR1.out.row hr
      have hrw := hrow.chg HNw.out
      have hatw := hat.chg HNw.out id
      have htt := trn_take (k := k) hr
      obtain ⟨X, xd, rfl, hla1000, hlax, hxm, _⟩ := hrow
      obtain ⟨la, hla⟩ : ∃ l, r.args.length = l := ⟨_, rfl⟩
      rw [hla] at hatw hrw hla1000 hlax
      obtain ⟨w2, hw2⟩ : ∃ w2, w2 = wr.alloc (.cells #[.string r.name, .slice X la xd, .int .i64 r.stamp] 44) := ⟨_, rfl⟩
      have hN2 : New wr w2 := by rw [hw2]; exact (Chg.refl _ _).alloc _
      have hB2 : Blk w2 wr.heap.size 44 #[.string r.name, .slice X la xd, .int .i64 r.stamp] := by rw [hw2]; exact Blk.new wr _ _
      have e1 := hB2.cell 1
      simp only [List.getElem?_toArray, List.getElem?_cons_zero, List.getElem?_cons_succ] at e1
      have Hat := Lib.hid hatw
      have Htt := Lib.hid htt
      have HN2 := Lib.hid (HNw.out.trans hN2 (fun _ _ x => x))
      have HNa := Lib.hid hN2
      have HRw := Lib.hid (hrw.chg hN2)
      have Hbt := Lib.hid (show At w2 ⟨wr.heap.size, 0, none⟩ [.string r.name, .slice X la xd, .int .i64 r.stamp] from hB2.at_)
      have HW2 := Lib.hid hw2
      have Hla := Lib.hid hla
      have q0 : (0 : Int) ≤ (i : Int) := by omega
      have q1 : (i : Int) < (n : Int) := by omega
      clear hat hatw hrw htt hN2 hB2 hw2 hr hla
      go_upto_region 8 with ((with_reducible refine wpl_load rfl (.tmp 31) 44 rfl stRow (ad.add (i * 3)) [.string r.name, .slice X la xd, .int .i64 r.stamp] ?_ rfl Hat.out ?_); exact rfl)
      rw [← HW2.out]
      by_cases hka : k < la
      · obtain ⟨x, hx⟩ : ∃ x, r.args[k]? = some x := ⟨_, List.getElem?_eq_getElem (by rw [Hla.out]; exact hka)⟩
        have hah : Calls Tryz.prog 25 #[.agg #[.string r.name, .slice X la xd, .int .i64 r.stamp], .int .i64 k] w2 fun e w' => ∃ v, e = .returned (.agg #[.string r.name, v, .int .i64 r.stamp]) ∧ Own w' w2.heap.size 40 4 v ((ahd r k x).args.map vcs) ∧ New w2 w' := ahead_row w2 [.string r.name, .slice X la xd, .int .i64 r.stamp] r HRw.out k x hx
        have hal : (ahd r k x).args.length ≤ 1000 := by
          have hxl := (List.getElem?_eq_some_iff.1 hx).1
          show (r.args.eraseIdx k ++ [x]).length ≤ 1000
          rw [List.length_append, List.length_eraseIdx, if_pos hxl, Hla.out]
          simp; omega
        have HT2 := Lib.hid (show trn k (rs.take (i + 1)) = trn k (rs.take i) ++ [ahd r k x] by rw [Htt.out, hx]; rfl)
        have HAh := Lib.hid hah
        have d1 : decide ((k : Int) < (la : Int)) = true := decide_eq_true (by omega)
        have d2 : decide (k < la) = true := decide_eq_true hka
        clear hah hx
        have hsz2 := HN2.out.size
        go_wp2_with ((with_reducible refine wpl_load rfl (.tmp 10) 44 rfl stRow ⟨wr.heap.size, 0, none⟩ [.string r.name, .slice X la xd, .int .i64 r.stamp] ?_ rfl Hbt.out ?_); exact rfl)
        refine HAh.out.mono ?_
        rintro e w3 ⟨v', rfl, hov', hN3⟩
        obtain ⟨A', c', hv', _, _⟩ := hov'.form
        obtain ⟨la', hla'⟩ : ∃ l, (List.map vcs (ahd r k x).args).length = l := ⟨_, rfl⟩
        rw [hla'] at hv'
        subst hv'
        obtain ⟨w4, hw4⟩ : ∃ w4, w4 = w3.alloc (.cells #[.string r.name, .slice A' la' c', .int .i64 r.stamp] 44) := ⟨_, rfl⟩
        have hN4 : New w3 w4 := by rw [hw4]; exact (Chg.refl _ _).alloc _
        have hB4 : Blk w4 w3.heap.size 44 [Value.string r.name, .slice A' la' c', .int .i64 r.stamp].toArray := by rw [hw4]; exact Blk.new w3 _ _
        have hN34 := hN3.trans hN4 (fun _ _ x => x)
        have hN24 := HNa.out.trans hN34 (fun _ _ x => x)
        have hN14 := HN2.out.trans hN34 (fun _ _ x => x)
        have hov4 := HOv.out.chg hN24 (fun _ _ x => x)
        obtain ⟨v1, W', hrun, hown, hchg, hblk⟩ := elRow.appendS hov4 hN14.size (some ⟨w3.heap.size, 0, none⟩) 1 1 [[.string r.name, .slice A' la' c', .int .i64 r.stamp]] rfl (fun cs hc => by simp only [List.mem_cons, List.not_mem_nil, or_false] at hc; subst hc; rfl) (fun cs hc u hu => by
          simp only [List.mem_cons, List.not_mem_nil, or_false] at hc
          subst hc
          simp only [List.mem_cons, List.not_mem_nil, or_false] at hu
          rcases hu with rfl | rfl | rfl <;> rfl) (fun _ => ⟨_, rfl, fun j cs hj => by
          match j, hj with
          | 0, hj => cases hj; exact ⟨rfl, by rw [Nat.zero_mul]; exact hB4.at_⟩
          | j + 1, hj => simp at hj⟩) (by omega) (by unfold maxLen; omega) 29
        have hor : OwnRow w4 w1.heap.size [.string r.name, .slice A' la' c', .int .i64 r.stamp] (ahd r k x) (.slice A' la' c') := ⟨rfl, hal, (hov'.base hsz2).chg hN4 (fun _ _ x => x)⟩
        have hro4 := (HRo.out.new hN24)
        have HRn := Lib.hid (show RowsOwn W' w1.heap.size (cso ++ [[.string r.name, .slice A' la' c', .int .i64 r.stamp]]) (trn k (rs.take (i + 1))) by
          rw [HT2.out]
          exact (hro4.chg hov4 (by decide) hchg).snoc (hor.chg hchg (fun g hg hg' => own_ne_own hov4 hor.2.2 (by decide) hg' hg)))
        have HOn := Lib.hid hown
        have HNn := Lib.hid (hN14.trans hchg (fun g hg h => absurd ((hov4.lt h).1) (by omega)))
        have Hrun := Lib.hid hrun
        have HW4 := Lib.hid hw4
        clear hN4 hB4 hN34 hN24 hN14 hov4 hrun hown hchg hblk hor hro4 hw4 hov' hN3 hla'
        go_wp2_with (first | (rw [← HW4.out]; ((with_reducible refine wpl_append rfl (.tmp 38) (.tmp 42) 29 29 rfl ?_ ?_ Hrun.out ?_); exact rfl; exact rfl)))
        go_roundw
        case rel => exact ⟨i + 1, _, by omega, by go_num, HOn.out, HRn.out, HNn.out⟩
        case measure => simp only [intOf]; omega
      · have d1 : decide ((k : Int) < (la : Int)) = false := decide_eq_false (by omega)
        have d2 : decide (k < la) = false := decide_eq_false hka
        have hx : r.args[k]? = none := List.getElem?_eq_none (by rw [Hla.out]; omega)
        have HT2 := Lib.hid (show RowsOwn w2 w1.heap.size cso (trn k (rs.take (i + 1))) by rw [Htt.out, hx]; simp only [Option.map_none, Option.toList_none, List.append_nil]; exact HRo.out.new HNa.out)
        have HOn := Lib.hid (HOv.out.chg HNa.out (fun _ _ x => x))
        clear hx
        go_wp2_with fail
        go_roundw
        case rel => exact ⟨i + 1, cso, by omega, by go_num, HOn.out, HT2.out, HN2.out⟩
        case measure => simp only [intOf]; omega
    · have HT := Lib.hid (show RowsOwn wr w1.heap.size cso (trn k rs) by
        have := HRo.out
        rw [List.take_of_length_le (by rw [Hn.out]; omega)] at this
        exact this)
      have hlt' : (trn k rs).length ≤ 1000000 := by have := trn_len k rs; have := Hn.out; omega
      have HM := Lib.hid (merge_raw wr u8 (trn k rs) (HOv.out.rowSl HT.out.cs hlt'))
      clear HRo HT HOv hlt'
      go_wp2_with fail
      refine HM.out.mono ?_
      intro e w5 hp
      obtain ⟨m, hm, hN5, hcase⟩ := hp
      have HMm := Lib.hid hm
      have HN5 := Lib.hid (HNw.out.trans hN5 (fun _ _ x => x))
      have hm1000 : m.length ≤ 1000000 := merge_len hm 1000000 (by have := trn_len k rs; have := Hn.out; omega)
      have hsz5 := HNw.out.size
      rcases hcase with ⟨rfl, rfl⟩ | ⟨g, c5, css5, rest5, vs5, B5, rfl, hl5, hc5m, hg5, hv5, htab⟩
      · clear hm hN5 HM
        go_wp2_with fail
        go_loopw [11, 48] (fun u11 u48 wx => u11 = .slice none 0 0 ∧ u48 = .int .i64 0 ∧ wx = w5) (fun _ _ _ => 0)
        case atStart => exact ⟨rfl, rfl, rfl⟩
        case round =>
          obtain ⟨rfl, rfl, rfl⟩ := hrel
          go_wp2_with fail
          go_loopw [113] (fun u113 wx => u113 = .int .i64 0 ∧ wx = wr) (fun _ _ => 0)
          case atStart => exact ⟨rfl, rfl⟩
          case round =>
            obtain ⟨rfl, rfl⟩ := hrel
            have HMl := Lib.hid (merge_sl wr _ [] (RowSl.nil _))
            go_wp2_with fail
            refine HMl.out.mono ?_
            rintro e w6 ⟨v', res, rfl, hres, hrsl, hN6⟩
            have HRes := Lib.hid hres
            have HRsl := Lib.hid hrsl
            have HN6 := Lib.hid ((HN1.out.trans HN5.out (fun _ _ x => x)).trans hN6 (fun _ _ x => x))
            clear hres hrsl hN6
            go_wp2_with fail
            go_ret
            exact ⟨_, [], res, rfl, HMm.out, HRes.out, HRsl.out, HN6.out⟩
      · obtain ⟨n2, hn2⟩ : ∃ n, m.length = n := ⟨_, rfl⟩
        rw [hn2] at hl5 hv5 htab hm1000 ⊢
        have hst := GrpSt.start (c := c5) htab hv5 hn2
        have HTab := Lib.hid htab.tab
        have hgB := htab.gB
        have hg5s := htab.tab.blk.lt
        have Hn2 := Lib.hid hn2
        have hmb := trn_args (rs := rs) hk (fun r hr => by
          obtain ⟨i', hi', rfl⟩ := List.getElem_of_mem hr
          obtain ⟨_, _, _, _, _, hrow⟩ := HR1.out.row (List.getElem?_eq_getElem hi')
          obtain ⟨_, _, _, h9, _⟩ := hrow
          exact h9)
        have HMb := Lib.hid (show ∀ x ∈ m, k < x.args.length ∧ x.args.length ≤ 1000 from fun x hx => hmb x (hm.sub x hx))
        have HSt := Lib.hid hst
        clear hst htab hm hN5 HM hn2 hmb
        go_wp2_with fail
        go_loopw [11, 48] (fun u11 u48 wx => ∃ (i : Nat) (cso : List (List Value)) (us : List Value), i ≤ n2 ∧ u48 = .int .i64 i ∧ GrpSt wx w5.heap.size B5 css5 m vs5 i u11 cso (grp ag (m.take i)) us ∧ Tab wx g n2 css5 rest5 ∧ New w1 wx ∧ w5.heap.size ≤ wx.heap.size) (fun _ u _ => n2 - (intOf u).toNat)
        case atStart => exact ⟨0, [], [], Nat.zero_le _, rfl, HSt.out, HTab.out, HN5.out, Nat.le_refl _⟩
        case round =>
          obtain ⟨i, cso, us, hi2, rfl, hst, htab, hN, hszw⟩ := hrel
          have HSw := Lib.hid hst
          have HTw := Lib.hid htab
          have HNw := Lib.hid hN
          clear hst htab hN HSt HTab
          by_cases hlt2 : i < n2
          · obtain ⟨x, hx⟩ : ∃ x, m[i]? = some x := ⟨_, List.getElem?_eq_getElem (by rw [Hn2.out]; exact hlt2)⟩
            obtain ⟨cs, hcs, _, _⟩ := HTw.out.cs hlt2
            obtain ⟨hx2, hx1000⟩ := HMb.out x (List.mem_of_getElem? hx)
            obtain ⟨last, hlast⟩ : ∃ l, x.args.length = l + 1 := ⟨x.args.length - 1, by omega⟩
            have htk := HSw.out.take hcs (last := last) (fun r hr => by rw [hx] at hr; cases hr; exact hlast)
            obtain ⟨x', vx, gx, capx, curx, zx, e1, hvx, hor, hvxe, hBx, hgx, hxz, hblkx, hatx, hfitx, htake⟩ := htk
            obtain rfl : x = x' := by rw [hx] at e1; exact Option.some.inj e1
            have hcsx := hor.1
            have hat := HTw.out.get hcs
            have hrowx := hor.row
            have hgt := grp_take (ag := ag) hx
            subst hvxe
            subst hcsx
            obtain ⟨Ao, co, hvo, hco, hcm⟩ := HSw.out.out.form
            have hlo := HSw.out.len.1
            obtain ⟨gs, hgs⟩ : ∃ gs, grp ag (m.take i) = gs := ⟨_, rfl⟩
            have hgk := grp_ok (ag := ag) HMb.out i
            rw [hgs] at hgk hlo
            rw [hgs] at HSw htake hgt
            obtain ⟨lo, hloe⟩ : ∃ l, cso.length = l := ⟨_, rfl⟩
            rw [hloe] at hvo hco hlo
            subst hvo
            have hgl : gs.length ≤ i := by rw [← hgs]; exact grp_len ag m i
            obtain ⟨w2, hw2⟩ : ∃ w2, w2 = wr.alloc (.cells #[.string x.name, .slice (some ⟨gx, 0, none⟩) (last + 1) capx, .int .i64 x.stamp] 44) := ⟨_, rfl⟩
            have hN2 : New wr w2 := by rw [hw2]; exact (Chg.refl _ _).alloc _
            have hB2 : Blk w2 wr.heap.size 44 #[.string x.name, .slice (some ⟨gx, 0, none⟩) (last + 1) capx, .int .i64 x.stamp] := by rw [hw2]; exact Blk.new wr _ _
            have hs2 := HSw.out.new hN2
            have ec1 := hB2.cell 1
            simp only [List.getElem?_toArray, List.getElem?_cons_zero, List.getElem?_cons_succ] at ec1
            have hbt : At w2 ⟨wr.heap.size, 0, none⟩ [.string x.name, .slice (some ⟨gx, 0, none⟩) (last + 1) capx, .int .i64 x.stamp] := hB2.at_
            have hrow2 := hrowx.chg hN2
            have hsl := hs2.cs
            have eg65 := enters_of Tryz.func28 (by kernel_rfl) rfl
            have hidx := idxRow w2 Ao lo co cso hloe.symm (by unfold maxLen; omega) (hs2.out.rows (by rw [← hloe])).2 28 #[.pointer (some ⟨wr.heap.size, 0, none⟩)] eg65 (fun cs' => alikeB x (rowOf w2 cs')) (fun _ => False) (fun cs' hcs' W hW => by
              have hra := hsl.at_ hcs'
              obtain ⟨q', hq', rfl⟩ := List.getElem_of_mem hcs'
              obtain ⟨r', hr', hrow'⟩ := hsl.2 q' _ (List.getElem?_eq_getElem hq')
              have := (hgk r' (List.mem_of_getElem? hr')).two
              rw [hrow'.of]
              exact look_row W wr.heap.size [.string x.name, .slice (some ⟨gx, 0, none⟩) (last + 1) capx, .int .i64 x.stamp] _ x r' (hbt.chg hW id) (hrow2.chg hW) (hrow'.chg hW) (by omega) (by omega))
            have hfi : cso.findIdx? (fun cs' => alikeB x (rowOf w2 cs')) = gs.findIdx? (alikeB x) := by
              rw [← hsl.map, List.findIdx?_map]
              rfl
            have HIdx := Lib.hid hidx
            have HFi := Lib.hid hfi
            have HHat := Lib.hid hat
            have HS2 := Lib.hid hs2
            have HB2 := Lib.hid hB2
            have HN2 := Lib.hid hN2
            have HW2 := Lib.hid hw2
            have HGt := Lib.hid hgt
            have HGk := Lib.hid hgk
            have HXz := Lib.hid hxz
            have HAtx := Lib.hid hatx
            have HVx := Lib.hid hvx
            have HXl := Lib.hid hlast
            have HCs := Lib.hid hcs
            have HX := Lib.hid hx
            have Hlo := Lib.hid hlo
            have Hloe := Lib.hid hloe
            have HSl := Lib.hid hsl
            have hl999 : last ≤ 999 := by omega
            have hwrs := hszw
            have hboxlt : wr.heap.size < w2.heap.size := hB2.lt
            have q0 : (0 : Int) ≤ (i : Int) := by omega
            have q1 : (i : Int) < (n2 : Int) := by omega
            clear hidx hfi hat hs2 hB2 hN2 hw2 hgt hgk hxz hatx hvx hlast hcs hx hsl hbt hrow2 hrowx hor e1 htake hblkx eg65 hlo hloe hgs
            go_upto_region 15 with ((with_reducible refine wpl_load rfl (.tmp 50) 44 rfl stRow ⟨g, i * 3, none⟩ [.string x.name, .slice (some ⟨gx, 0, none⟩) (last + 1) capx, .int .i64 x.stamp] ?_ rfl HHat.out ?_); exact rfl)
            rw [← HW2.out]
            go_wp2_with fail
            refine HIdx.out.mono ?_
            intro e w3 hp
            rcases hp with ⟨q, hq, rfl, hN3⟩ | ⟨hq, rfl, hN3⟩
            · rw [HFi.out] at hq
              clear HIdx HHat HSl
              obtain ⟨y, hy, hyal⟩ := findIdx_get hq
              have hyl : y.args.length = last + 1 := by rw [← alikeB_len hyal, HXl.out]
              have hql := (List.getElem?_eq_some_iff.1 hy).1
              obtain ⟨st, hst⟩ : ∃ s, s = if y.stamp < x.stamp then x.stamp else y.stamp := ⟨_, rfl⟩
              have hs3 := (HS2.out.new hN3).new (show New w3 w3.drew from (Chg.refl _ _).drew)
              have hN3d := hN3.trans (show New w3 w3.drew from (Chg.refl _ _).drew) (fun _ _ x => x)
              obtain ⟨go, co', csy, vy, hvo', hgo, hcq, huq, hory, haty, ⟨tgo, curo, hblko⟩, hst4⟩ := hs3.stamp hy st
              simp only [Value.slice.injEq] at hvo'
              obtain ⟨rfl, hlg, rfl⟩ := hvo'
              clear hlg
              have hgoW := hs3.out.lt (g := go) rfl
              have hcsy := hory.1
              subst hcsy
              have hbx3 := HB2.out.chg hN3d id
              have hco2 := haty 2 _ rfl
              rw [Addr.add_lit] at hco2
              have hfo2 := hblko.frozen (q * 3 + 2)
              have hcx2 := hbx3.cell 2
              simp only [List.getElem?_toArray, List.getElem?_cons_zero, List.getElem?_cons_succ] at hcx2
              have hgoR := (HSw.out.out.lt (g := go) rfl)
              have HN3d := Lib.hid hN3d
              have HS3 := Lib.hid hs3
              have HS4 := Lib.hid hst4
              have Hst := Lib.hid hst
              have Hco2 := Lib.hid hco2
              have Hcx2 := Lib.hid hcx2
              have Hbx3 := Lib.hid hbx3
              have HY := Lib.hid hy
              have HYl := Lib.hid hyl
              have HQ := Lib.hid hq
              have p0 : (0 : Int) ≤ (q : Int) := by omega
              have p1 : (q : Int) < (lo : Int) := by have := Hlo.out; omega
              have p2 : q < lo := by have := Hlo.out; omega
              have p3 : decide (0 ≤ (q : Int)) = true := decide_eq_true p0
              clear hN3d hs3 hst4 hst hco2 hcx2 hbx3 hy hyl hq hN3 haty hory hyal hcq huq hblko
              go_upto_region 19 with fail
              refine wp_region_at (by kernel_rfl) ?_
              generalize w3.drew = wd3 at HN3d HS3 HS4 Hco2 Hcx2 Hbx3 hfo2 hgoW ⊢
              refine AtN.segQ2 0 10 (fun
                | 0 => .pointer (some ⟨go, q * 3, none⟩)
                | 1 => .pointer (some ⟨go, q * 3, none⟩)
                | 2 => .pointer (some ⟨go, q * 3, none⟩)
                | 3 => .pointer (some ⟨go, q * 3 + 2, none⟩)
                | 4 => .int .i64 y.stamp
                | 5 => .pointer (some ⟨wr.heap.size, 2, none⟩)
                | 6 => .int .i64 x.stamp
                | 7 => .int .i64 st
                | 8 => .pointer (some ⟨go, q * 3, none⟩)
                | _ => .pointer (some ⟨go, q * 3 + 2, none⟩))
                [(64, .pointer (some ⟨go, q * 3, none⟩)), (65, .pointer (some ⟨go, q * 3, none⟩)), (66, .pointer (some ⟨go, q * 3, none⟩)), (67, .pointer (some ⟨go, q * 3 + 2, none⟩)), (68, .int .i64 y.stamp), (69, .pointer (some ⟨wr.heap.size, 2, none⟩)), (70, .int .i64 x.stamp), (71, .int .i64 st), (72, .pointer (some ⟨go, q * 3, none⟩)), (73, .pointer (some ⟨go, q * 3 + 2, none⟩))] (by kernel_rfl) (by kernel_rfl) (by kernel_rfl) (by kernel_rfl) rfl (fun i hn hi o ho A0 hin hk => ?_) ?_
              · rcases (show i = 0 ∨ i = 1 ∨ i = 2 ∨ i = 3 ∨ i = 4 ∨ i = 5 ∨ i = 6 ∨ i = 7 ∨ i = 8 ∨ i = 9 by omega) with rfl | rfl | rfl | rfl | rfl | rfl | rfl | rfl | rfl | rfl
                · cases ho
                  exact exec_move 16 _ rfl (hk 16 (by kernel_rfl))
                · cases ho
                  exact exec_move 16 _ rfl (hk 16 (by kernel_rfl))
                · cases ho
                  have h65 : A0.tmps[65]?.getD undef = .pointer (some ⟨go, q * 3, none⟩) := hin 1 65 (by kernel_rfl)
                  exact by simp [go_sem, h65]
                · cases ho
                  have h66 : A0.tmps[66]?.getD undef = .pointer (some ⟨go, q * 3, none⟩) := hin 2 66 (by kernel_rfl)
                  exact by simp [go_sem, h66]
                · cases ho
                  have h67 : A0.tmps[67]?.getD undef = .pointer (some ⟨go, q * 3 + 2, none⟩) := hin 3 67 (by kernel_rfl)
                  exact by simp [go_sem, h67, Hco2.out]
                · cases ho
                  have h13 : A0.tmps[13]?.getD undef = .pointer (some ⟨wr.heap.size, 0, none⟩) := hk 13 (by kernel_rfl)
                  exact by simp [go_sem, h13]
                · cases ho
                  have h69 : A0.tmps[69]?.getD undef = .pointer (some ⟨wr.heap.size, 2, none⟩) := hin 5 69 (by kernel_rfl)
                  exact by simp [go_sem, h69, Hcx2.out]
                · cases ho
                  have h68 : A0.tmps[68]?.getD undef = .int .i64 y.stamp := hin 4 68 (by kernel_rfl)
                  have h70 : A0.tmps[70]?.getD undef = .int .i64 x.stamp := hin 6 70 (by kernel_rfl)
                  exact by simp [go_sem, h68, h70, Hst.out]
                · cases ho
                  have h64 : A0.tmps[64]?.getD undef = .pointer (some ⟨go, q * 3, none⟩) := hin 0 64 (by kernel_rfl)
                  exact by simp [go_sem, h64]
                · cases ho
                  have h72 : A0.tmps[72]?.getD undef = .pointer (some ⟨go, q * 3, none⟩) := hin 8 72 (by kernel_rfl)
                  exact by simp [go_sem, h72]
              simp only [putsL, Act.put, List.setIfInBounds_toArray, List.set_cons_succ, List.set_cons_zero]
              refine AtN.list 10 11 (by kernel_rfl) ?_
              change wpList _ _ _ [_] _ _
              have c9 := Hco2.out
              go_wp2_with fail
              change AtN _ _ _ 11 _ _
              refine AtN.done rfl ?_
              obtain ⟨w4, hw4⟩ : ∃ w4, w4 = wd3.setCell ⟨go, q * 3 + 2, none⟩ (.int .i64 st) := ⟨_, rfl⟩
              have hN14 := (HNw.out.trans HN2.out (fun _ _ x => x)).trans HN3d.out (fun _ _ x => x)
              have hc34 : Chg wd3 w4 (fun b => b = go) := by rw [hw4]; exact (Chg.refl _ _).setCell _ _ (fun _ => rfl)
              have hNd4 : New w4 w4.drew := (Chg.refl _ _).drew
              have hN15 : New w1 w4.drew := (hN14.trans hc34 (fun b hb e => by omega)).trans hNd4 (fun _ _ x => x)
              have hs5 := HS4.out
              rw [← hw4] at hs5
              have hs5 := hs5.new hNd4
              have htab5 := (((HTw.out.chg HN2.out id).chg HN3d.out id).chg hc34 (by omega)).chg hNd4 id
              have hbx5 := (Hbx3.out.chg hc34 (by omega)).chg hNd4 id
              have hatx5 := ((((HAtx.out.chg HN2.out id).chg HN3d.out id).chg hc34 (by show ¬ gx = go; omega)).chg hNd4 id)
              change At _ _ [.int .i64 zx.k, .int .i64 zx.i, .string zx.t, .slice none 0 0] at hatx5
              have hcx1 := hbx5.cell 1
              simp only [List.getElem?_toArray, List.getElem?_cons_zero, List.getElem?_cons_succ] at hcx1
              obtain ⟨y', hy'⟩ : ∃ y', y' = (⟨y.name, y.args, st⟩ : Rw) := ⟨_, rfl⟩
              have hgq : (gs.set q ⟨y.name, y.args, st⟩)[q]? = some y' := by rw [List.getElem?_set, if_pos rfl, if_pos hql, hy']
              have hyl' : y'.args.length = last + 1 := by rw [hy']; exact HYl.out
              obtain ⟨cs5, v5, gy, capy, cury, zy, hc5, hu5, ho5, hv5, hBy, hgy, hyz, hblky, haty5, hfity, _⟩ := hs5.fold hgq hyl'
              change At _ _ [.int .i64 zy.k, .int .i64 zy.i, .string zy.t, .slice none 0 0] at haty5
              obtain ⟨go2, cap2, rest2, hv2, _, _, hat2, _, _⟩ := hs5.out.get hc5
              simp only [Value.slice.injEq, Option.some.injEq, Addr.mk.injEq, and_true] at hv2
              obtain ⟨rfl, _, _⟩ := hv2
              have hcs5 := ho5.1
              subst hv5
              subst hcs5
              have hco1 := hat2 1 _ rfl
              rw [Addr.add_lit] at hco1
              obtain ⟨zn, hzn⟩ : ∃ z, foldV ag zy zx false = z := ⟨_, rfl⟩
              have hfold := HFa.out
              obtain ⟨gf', lbf', hfe, egf, hcall⟩ := hfold
              simp only [Value.func.injEq, Fn.func.injEq, true_and] at hfe
              obtain ⟨rfl, rfl⟩ := hfe
              have hcnt : ag = .count → (false = false) → 0 ≤ zy.i ∧ zy.i ≤ 1000000 := fun e _ => by
                have h9 := (HGk.out y (List.mem_of_getElem? HY.out)).cnt e
                have h8 : lastV y = zy := by rw [← lastV_of' hyz, hy']; rfl
                rw [h8] at h9
                omega
              have HCall := Lib.hid (fun W hW => hcall W hW zy zx false hcnt)
              have HN15 := Lib.hid hN15
              have HS5 := Lib.hid hs5
              have HTab5 := Lib.hid htab5
              have HBx5 := Lib.hid hbx5
              have HAx5 := Lib.hid hatx5
              have HAy5 := Lib.hid haty5
              have Hcx1 := Lib.hid hcx1
              have Hco1 := Lib.hid hco1
              have Hzn := Lib.hid hzn
              have HGq := Lib.hid hgq
              have HYe := Lib.hid hy'
              have HYl' := Lib.hid hyl'
              have HYz := Lib.hid hyz
              have HU5 := Lib.hid hu5
              have HBky := Lib.hid hblky
              have HW4 := Lib.hid hw4
              unfold Enters at egf
              clear hw4 hN14 hc34 hNd4 hN15 hs5 htab5 hbx5 hatx5 hcx1 hy' hgq hyl' hyz ho5 hc5 hu5 haty5 hat2 hco1 hzn hcall hcnt hblky HS3 HS4 Hco2 Hcx2 Hbx3 hfo2 c9
              go_upto_region 20 with fail
              rw [← HW4.out]
              refine wp_region_at (by kernel_rfl) ?_
              clear HW4
              generalize w4.drew = wd4 at HN15 HS5 HTab5 HBx5 HAx5 HAy5 Hcx1 Hco1 HBky ⊢
              have z0 : (0 : Int) ≤ (last : Int) := by omega
              have z1 : (last : Int) < ((last + 1 : Nat) : Int) := by omega
              have z2 : (last : Int) < (last : Int) + 1 := by omega
              have z3 : last < last + 1 := by omega
              refine AtN.segN2 0 20 [74, 75, 76, 77, 78, 79, 80, 81, 82, 83, 84, 85, 86, 87, 88, 89, 90, 91, 92, 93] (fun
                | 0 => fun v _ => v = .pointer (some ⟨go, q * 3, none⟩)
                | 1 => fun v _ => v = .pointer (some ⟨go, q * 3, none⟩)
                | 2 => fun v _ => v = .pointer (some ⟨go, q * 3 + 1, none⟩)
                | 3 => fun v _ => v = .slice (some ⟨gy, 0, none⟩) (last + 1) capy
                | 4 => fun v _ => v = .int .i64 last
                | 5 => fun v _ => v = .func (.func gf) #[] lbf
                | 6 => fun v _ => v = .pointer (some ⟨go, q * 3, none⟩)
                | 7 => fun v _ => v = .pointer (some ⟨go, q * 3, none⟩)
                | 8 => fun v _ => v = .pointer (some ⟨go, q * 3 + 1, none⟩)
                | 9 => fun v _ => v = .slice (some ⟨gy, 0, none⟩) (last + 1) capy
                | 10 => fun v _ => v = .int .i64 last
                | 11 => fun v _ => v = .pointer (some ⟨gy, last * 4, none⟩)
                | 12 => fun v _ => v = .agg #[.int .i64 zy.k, .int .i64 zy.i, .string zy.t, .slice none 0 0]
                | 13 => fun v _ => v = .pointer (some ⟨wr.heap.size, 1, none⟩)
                | 14 => fun v _ => v = .slice (some ⟨gx, 0, none⟩) (last + 1) capx
                | 15 => fun v _ => v = .int .i64 last
                | 16 => fun v _ => v = .pointer (some ⟨gx, last * 4, none⟩)
                | 17 => fun v _ => v = .agg #[.int .i64 zx.k, .int .i64 zx.i, .string zx.t, .slice none 0 0]
                | 18 => fun v _ => v = .agg #[.int .i64 zn.k, .int .i64 zn.i, .string zn.t, .slice none 0 0]
                | 19 => fun v _ => v = .pointer (some ⟨gy, last * 4, none⟩)
                | _ => fun _ _ => True) (by kernel_rfl) (by kernel_rfl) (by kernel_rfl) (by kernel_rfl) (fun j v w1 w2 hc h => ?_) (fun i hn hi o ho A0 W hN hin hk => ?_) (fun l W6 hN hl hΦ => ?_)
              · match j with
                | 0 | 1 | 2 | 3 | 4 | 5 | 6 | 7 | 8 | 9 | 10 | 11 | 12 | 13 | 14 | 15 | 16 | 17 | 18 | 19 => exact h
                | _ + 20 => trivial
              · rcases (show i = 0 ∨ i = 1 ∨ i = 2 ∨ i = 3 ∨ i = 4 ∨ i = 5 ∨ i = 6 ∨ i = 7 ∨ i = 8 ∨ i = 9 ∨ i = 10 ∨ i = 11 ∨ i = 12 ∨ i = 13 ∨ i = 14 ∨ i = 15 ∨ i = 16 ∨ i = 17 ∨ i = 18 ∨ i = 19 by omega) with rfl | rfl | rfl | rfl | rfl | rfl | rfl | rfl | rfl | rfl | rfl | rfl | rfl | rfl | rfl | rfl | rfl | rfl | rfl | rfl
                · cases ho
                  exact .same (exec_move 16 _ rfl (hk 16 (by kernel_rfl))) rfl
                · cases ho
                  have h74 : A0.tmps[74]?.getD undef = .pointer (some ⟨go, q * 3, none⟩) := hin 0 74 (by kernel_rfl)
                  exact .same (by simp [go_sem, h74]) rfl
                · cases ho
                  have h75 : A0.tmps[75]?.getD undef = .pointer (some ⟨go, q * 3, none⟩) := hin 1 75 (by kernel_rfl)
                  exact .same (by simp [go_sem, h75]) rfl
                · cases ho
                  have h76 : A0.tmps[76]?.getD undef = .pointer (some ⟨go, q * 3 + 1, none⟩) := hin 2 76 (by kernel_rfl)
                  have hcc := hN.cellS Hco1.out id
                  exact .same (v := .slice (some ⟨gy, 0, none⟩) (last + 1) capy) (by simp [go_sem, h76, hcc]) rfl
                · cases ho
                  exact .same (exec_move 14 _ rfl (hk 14 (by kernel_rfl))) rfl
                · cases ho
                  exact .same (exec_move 7 _ rfl (hk 7 (by kernel_rfl))) rfl
                · cases ho
                  exact .same (exec_move 16 _ rfl (hk 16 (by kernel_rfl))) rfl
                · cases ho
                  have h80 : A0.tmps[80]?.getD undef = .pointer (some ⟨go, q * 3, none⟩) := hin 6 80 (by kernel_rfl)
                  exact .same (by simp [go_sem, h80]) rfl
                · cases ho
                  have h81 : A0.tmps[81]?.getD undef = .pointer (some ⟨go, q * 3, none⟩) := hin 7 81 (by kernel_rfl)
                  exact .same (by simp [go_sem, h81]) rfl
                · cases ho
                  have h82 : A0.tmps[82]?.getD undef = .pointer (some ⟨go, q * 3 + 1, none⟩) := hin 8 82 (by kernel_rfl)
                  have hcc := hN.cellS Hco1.out id
                  exact .same (v := .slice (some ⟨gy, 0, none⟩) (last + 1) capy) (by simp [go_sem, h82, hcc]) rfl
                · cases ho
                  exact .same (exec_move 14 _ rfl (hk 14 (by kernel_rfl))) rfl
                · cases ho
                  have h83 : A0.tmps[83]?.getD undef = .slice (some ⟨gy, 0, none⟩) (last + 1) capy := hin 9 83 (by kernel_rfl)
                  have h84 : A0.tmps[84]?.getD undef = .int .i64 last := hin 10 84 (by kernel_rfl)
                  exact .same (by simp [go_sem, h83, h84, z0, z1, z2, z3]) rfl
                · cases ho
                  have h85 : A0.tmps[85]?.getD undef = .pointer (some ⟨gy, last * 4, none⟩) := hin 11 85 (by kernel_rfl)
                  exact .same (exec_load 85 _ rfl stVal4 ⟨gy, last * 4, none⟩ [.int .i64 zy.k, .int .i64 zy.i, .string zy.t, .slice none 0 0] h85 rfl (HAy5.out.chg hN id)) rfl
                · cases ho
                  have h13 : A0.tmps[13]?.getD undef = .pointer (some ⟨wr.heap.size, 0, none⟩) := hk 13 (by kernel_rfl)
                  exact .same (by simp [go_sem, h13]) rfl
                · cases ho
                  have h87 : A0.tmps[87]?.getD undef = .pointer (some ⟨wr.heap.size, 1, none⟩) := hin 13 87 (by kernel_rfl)
                  have hcc := hN.cellS Hcx1.out id
                  exact .same (v := .slice (some ⟨gx, 0, none⟩) (last + 1) capx) (by simp [go_sem, h87, hcc]) rfl
                · cases ho
                  exact .same (exec_move 14 _ rfl (hk 14 (by kernel_rfl))) rfl
                · cases ho
                  have h88 : A0.tmps[88]?.getD undef = .slice (some ⟨gx, 0, none⟩) (last + 1) capx := hin 14 88 (by kernel_rfl)
                  have h89 : A0.tmps[89]?.getD undef = .int .i64 last := hin 15 89 (by kernel_rfl)
                  exact .same (by simp [go_sem, h88, h89, z0, z1, z2, z3]) rfl
                · cases ho
                  have h90 : A0.tmps[90]?.getD undef = .pointer (some ⟨gx, last * 4, none⟩) := hin 16 90 (by kernel_rfl)
                  exact .same (exec_load 90 _ rfl stVal4 ⟨gx, last * 4, none⟩ [.int .i64 zx.k, .int .i64 zx.i, .string zx.t, .slice none 0 0] h90 rfl (HAx5.out.chg hN id)) rfl
                · cases ho
                  have h79 : A0.tmps[79]?.getD undef = .func (.func gf) #[] lbf := hin 5 79 (by kernel_rfl)
                  have h86 : A0.tmps[86]?.getD undef = .agg #[.int .i64 zy.k, .int .i64 zy.i, .string zy.t, .slice none 0 0] := hin 12 86 (by kernel_rfl)
                  have h91 : A0.tmps[91]?.getD undef = .agg #[.int .i64 zx.k, .int .i64 zx.i, .string zx.t, .slice none 0 0] := hin 17 91 (by kernel_rfl)
                  refine .call (f := gf) (args := #[vval zy, vval zx, .bool false] ++ lbf) (W' := W) ?_ ((HCall.out W (HN15.out.trans hN (fun _ _ x => x))).mono ?_)
                  · have e86 : A0.tmps[86]?.getD undef = vval zy := h86
                    have e91 : A0.tmps[91]?.getD undef = vval zx := h91
                    clear h86 h91
                    simp [go_sem, h79, e86, e91, egf]
                  · rintro e w' ⟨rfl, hc⟩
                    exact ⟨_, rfl, hc, by rw [Hzn.out]; rfl⟩
                · cases ho
                  have h77 : A0.tmps[77]?.getD undef = .slice (some ⟨gy, 0, none⟩) (last + 1) capy := hin 3 77 (by kernel_rfl)
                  have h78 : A0.tmps[78]?.getD undef = .int .i64 last := hin 4 78 (by kernel_rfl)
                  exact .same (by simp [go_sem, h77, h78, z0, z1, z2, z3]) rfl
              obtain ⟨x74, x75, x76, x77, x78, x79, x80, x81, x82, x83, x84, x85, x86, x87, x88, x89, x90, x91, x92, x93, rfl⟩ : ∃ x74 x75 x76 x77 x78 x79 x80 x81 x82 x83 x84 x85 x86 x87 x88 x89 x90 x91 x92 x93, l = [x74, x75, x76, x77, x78, x79, x80, x81, x82, x83, x84, x85, x86, x87, x88, x89, x90, x91, x92, x93] := by
                match l, hl with
                | [x74, x75, x76, x77, x78, x79, x80, x81, x82, x83, x84, x85, x86, x87, x88, x89, x90, x91, x92, x93], _ => exact ⟨_, _, _, _, _, _, _, _, _, _, _, _, _, _, _, _, _, _, _, _, rfl⟩
              obtain rfl : x74 = .pointer (some ⟨go, q * 3, none⟩) := hΦ 0 (by decide)
              obtain rfl : x75 = .pointer (some ⟨go, q * 3, none⟩) := hΦ 1 (by decide)
              obtain rfl : x76 = .pointer (some ⟨go, q * 3 + 1, none⟩) := hΦ 2 (by decide)
              obtain rfl : x77 = .slice (some ⟨gy, 0, none⟩) (last + 1) capy := hΦ 3 (by decide)
              obtain rfl : x78 = .int .i64 last := hΦ 4 (by decide)
              obtain rfl : x79 = .func (.func gf) #[] lbf := hΦ 5 (by decide)
              obtain rfl : x80 = .pointer (some ⟨go, q * 3, none⟩) := hΦ 6 (by decide)
              obtain rfl : x81 = .pointer (some ⟨go, q * 3, none⟩) := hΦ 7 (by decide)
              obtain rfl : x82 = .pointer (some ⟨go, q * 3 + 1, none⟩) := hΦ 8 (by decide)
              obtain rfl : x83 = .slice (some ⟨gy, 0, none⟩) (last + 1) capy := hΦ 9 (by decide)
              obtain rfl : x84 = .int .i64 last := hΦ 10 (by decide)
              obtain rfl : x85 = .pointer (some ⟨gy, last * 4, none⟩) := hΦ 11 (by decide)
              obtain rfl : x86 = .agg #[.int .i64 zy.k, .int .i64 zy.i, .string zy.t, .slice none 0 0] := hΦ 12 (by decide)
              obtain rfl : x87 = .pointer (some ⟨wr.heap.size, 1, none⟩) := hΦ 13 (by decide)
              obtain rfl : x88 = .slice (some ⟨gx, 0, none⟩) (last + 1) capx := hΦ 14 (by decide)
              obtain rfl : x89 = .int .i64 last := hΦ 15 (by decide)
              obtain rfl : x90 = .pointer (some ⟨gx, last * 4, none⟩) := hΦ 16 (by decide)
              obtain rfl : x91 = .agg #[.int .i64 zx.k, .int .i64 zx.i, .string zx.t, .slice none 0 0] := hΦ 17 (by decide)
              obtain rfl : x92 = .agg #[.int .i64 zn.k, .int .i64 zn.i, .string zn.t, .slice none 0 0] := hΦ 18 (by decide)
              obtain rfl : x93 = .pointer (some ⟨gy, last * 4, none⟩) := hΦ 19 (by decide)
              simp only [putsL, List.zip_cons_cons, List.zip_nil_left, List.zip_nil_right, List.zip, List.zipWith, Act.put, List.setIfInBounds_toArray, List.set_cons_succ, List.set_cons_zero]
              clear hΦ hl
              have hs6 := HS5.out.new hN
              obtain ⟨cs6, v6, gy6, cap6, cur6, z6, hc6, hu6, ho6, hv6, _, _, _, hblk6, _, hfit6, hset6⟩ := hs6.fold HGq.out HYl'.out
              obtain rfl : v6 = .slice (some ⟨gy, 0, none⟩) (last + 1) capy := by rw [HU5.out] at hu6; exact (Option.some.inj hu6).symm
              simp only [Value.slice.injEq, Option.some.injEq, Addr.mk.injEq, and_true, true_and] at hv6
              obtain ⟨rfl, _⟩ := hv6
              have hs7 := (hset6 zn).next
              have hgl7 : (gs.set q ⟨y.name, y.args, st⟩).set q ⟨y'.name, y'.args.dropLast ++ [zn], y'.stamp⟩ = grp ag (m.take (i + 1)) := by
                rw [HGt.out, List.set_set]
                unfold gstep
                rw [HQ.out]
                simp only [HY.out]
                unfold gmerge
                have h8 : lastV y = zy := by rw [← lastV_of' HYz.out, HYe.out]; rfl
                rw [h8, lastV_of' HXz.out, Hzn.out, HYe.out, ← Hst.out]
              rw [hgl7] at hs7
              have HS7 := Lib.hid hs7
              have hcW : Chg W6 (W6.setRow gy (layA cur6 (last * 4) (vcs zn))) (fun b => b = gy) := (Chg.refl _ _).setRow _ _ (fun _ => rfl)
              have HT7 := Lib.hid ((HTab5.out.chg hN id).chg hcW (by omega))
              have hN17 := HN15.out.trans hN (fun _ _ x => x)
              have HN17 := Lib.hid (hN17.trans hcW (fun b hb e => by omega))
              have HBk6 := Lib.hid hblk6
              have hszf : w5.heap.size ≤ (W6.setRow gy (layA cur6 (last * 4) (vcs zn))).heap.size := by
                have h1 := HN2.out.size
                have h2 := HN3d.out.size
                have h3 := hgoW
                have h4 := (HBx5.out.chg hN id).lt
                have h5 := hcW.size
                omega
              clear hs6 hc6 hu6 ho6 hset6 hs7 hgl7 hcW hN17 hN hblk6
              refine AtN.list 20 21 (by kernel_rfl) ?_
              change wpList _ _ _ [_] _ _
              refine wpl_store rfl (.tmp 93) (.tmp 92) 40 rfl stVal4 gy (last * 4) 40 cur6 (vcs zn) rfl rfl HBk6.out rfl hfit6 (vcs_one [zn] _ (by simp)) ?_
              refine AtN.done rfl ?_
              simp only [Act.put]
              go_wp2_with fail
              go_roundw
              case rel => exact ⟨i + 1, _, us, by omega, by go_num, HS7.out, HT7.out, HN17.out, hszf⟩
              case measure => simp only [intOf]; omega
            · rw [HFi.out] at hq
              have hN3d := hN3.trans (show New w3 w3.drew from (Chg.refl _ _).drew) (fun _ _ x => x)
              have hs3 := HS2.out.new hN3d
              have hbx3 := HB2.out.chg hN3d id
              have hcx1 := hbx3.cell 1
              simp only [List.getElem?_toArray, List.getElem?_cons_zero, List.getElem?_cons_succ] at hcx1
              have hN15 := (HNw.out.trans HN2.out (fun _ _ x => x)).trans hN3d (fun _ _ x => x)
              have hatx5 := ((HAtx.out.chg HN2.out id).chg hN3d id)
              change At _ _ [.int .i64 zx.k, .int .i64 zx.i, .string zx.t, .slice none 0 0] at hatx5
              have htab5 := ((HTw.out.chg HN2.out id).chg hN3d id)
              obtain ⟨zn, hzn⟩ : ∃ z, foldV ag zeroV zx true = z := ⟨_, rfl⟩
              have hfold := HFa.out
              obtain ⟨gf', lbf', hfe, egf, hcall⟩ := hfold
              simp only [Value.func.injEq, Fn.func.injEq, true_and] at hfe
              obtain ⟨rfl, rfl⟩ := hfe
              have HCall := Lib.hid (fun W hW => hcall W hW zeroV zx true (fun _ h => by cases h))
              have HN15 := Lib.hid hN15
              have HS5 := Lib.hid hs3
              have HTab5 := Lib.hid htab5
              have HBx5 := Lib.hid hbx3
              have HAx5 := Lib.hid hatx5
              have Hcx1 := Lib.hid hcx1
              have Hzn := Lib.hid hzn
              have HQ := Lib.hid hq
              have hsz3 := HN2.out.size
              have hsz4 := hN3d.size
              unfold Enters at egf
              clear hN15 hs3 htab5 hbx3 hatx5 hcx1 hzn hcall hq hN3 hN3d HIdx HHat HSl
              go_upto_region 21 with fail
              refine wp_region_at (by kernel_rfl) ?_
              generalize w3.drew = wd4 at HN15 HS5 HTab5 HBx5 HAx5 Hcx1 hsz4 ⊢
              have z0 : (0 : Int) ≤ (last : Int) := by omega
              have z1 : (last : Int) < ((last + 1 : Nat) : Int) := by omega
              have z2 : (last : Int) < (last : Int) + 1 := by omega
              have z3 : last < last + 1 := by omega
              refine AtN.segN2 0 12 [94, 95, 96, 97, 98, 99, 100, 101, 102, 103, 104, 105] (fun
                | 0 => fun v _ => v = .pointer (some ⟨wr.heap.size, 1, none⟩)
                | 1 => fun v _ => v = .slice (some ⟨gx, 0, none⟩) (last + 1) capx
                | 2 => fun v _ => v = .int .i64 last
                | 3 => fun v _ => v = .func (.func gf) #[] lbf
                | 4 => fun v _ => v = .agg #[.int .i64 0, .int .i64 0, .string ⟨#[]⟩, .slice none 0 0]
                | 5 => fun v _ => v = .pointer (some ⟨wr.heap.size, 1, none⟩)
                | 6 => fun v _ => v = .slice (some ⟨gx, 0, none⟩) (last + 1) capx
                | 7 => fun v _ => v = .int .i64 last
                | 8 => fun v _ => v = .pointer (some ⟨gx, last * 4, none⟩)
                | 9 => fun v _ => v = .agg #[.int .i64 zx.k, .int .i64 zx.i, .string zx.t, .slice none 0 0]
                | 10 => fun v _ => v = .agg #[.int .i64 zn.k, .int .i64 zn.i, .string zn.t, .slice none 0 0]
                | 11 => fun v _ => v = .pointer (some ⟨gx, last * 4, none⟩)
                | _ => fun _ _ => True) (by kernel_rfl) (by kernel_rfl) (by kernel_rfl) (by kernel_rfl) (fun j v w1 w2 hc h => ?_) (fun i hn hi o ho A0 W hN hin hk => ?_) (fun l W6 hN hl hΦ => ?_)
              · match j with
                | 0 | 1 | 2 | 3 | 4 | 5 | 6 | 7 | 8 | 9 | 10 | 11 => exact h
                | _ + 12 => trivial
              · rcases (show i = 0 ∨ i = 1 ∨ i = 2 ∨ i = 3 ∨ i = 4 ∨ i = 5 ∨ i = 6 ∨ i = 7 ∨ i = 8 ∨ i = 9 ∨ i = 10 ∨ i = 11 by omega) with rfl | rfl | rfl | rfl | rfl | rfl | rfl | rfl | rfl | rfl | rfl | rfl
                · cases ho
                  have h13 : A0.tmps[13]?.getD undef = .pointer (some ⟨wr.heap.size, 0, none⟩) := hk 13 (by kernel_rfl)
                  exact .same (by simp [go_sem, h13]) rfl
                · cases ho
                  have h94 : A0.tmps[94]?.getD undef = .pointer (some ⟨wr.heap.size, 1, none⟩) := hin 0 94 (by kernel_rfl)
                  have hcc := hN.cellS Hcx1.out id
                  exact .same (v := .slice (some ⟨gx, 0, none⟩) (last + 1) capx) (by simp [go_sem, h94, hcc]) rfl
                · cases ho
                  exact .same (exec_move 14 _ rfl (hk 14 (by kernel_rfl))) rfl
                · cases ho
                  exact .same (exec_move 7 _ rfl (hk 7 (by kernel_rfl))) rfl
                · cases ho
                  exact .same (by simp [go_sem, ]) rfl
                · cases ho
                  have h13 : A0.tmps[13]?.getD undef = .pointer (some ⟨wr.heap.size, 0, none⟩) := hk 13 (by kernel_rfl)
                  exact .same (by simp [go_sem, h13]) rfl
                · cases ho
                  have h99 : A0.tmps[99]?.getD undef = .pointer (some ⟨wr.heap.size, 1, none⟩) := hin 5 99 (by kernel_rfl)
                  have hcc := hN.cellS Hcx1.out id
                  exact .same (v := .slice (some ⟨gx, 0, none⟩) (last + 1) capx) (by simp [go_sem, h99, hcc]) rfl
                · cases ho
                  exact .same (exec_move 14 _ rfl (hk 14 (by kernel_rfl))) rfl
                · cases ho
                  have h100 : A0.tmps[100]?.getD undef = .slice (some ⟨gx, 0, none⟩) (last + 1) capx := hin 6 100 (by kernel_rfl)
                  have h101 : A0.tmps[101]?.getD undef = .int .i64 last := hin 7 101 (by kernel_rfl)
                  exact .same (by simp [go_sem, h100, h101, z0, z1, z2, z3]) rfl
                · cases ho
                  have h102 : A0.tmps[102]?.getD undef = .pointer (some ⟨gx, last * 4, none⟩) := hin 8 102 (by kernel_rfl)
                  exact .same (exec_load 102 _ rfl stVal4 ⟨gx, last * 4, none⟩ [.int .i64 zx.k, .int .i64 zx.i, .string zx.t, .slice none 0 0] h102 rfl (HAx5.out.chg hN id)) rfl
                · cases ho
                  have h97 : A0.tmps[97]?.getD undef = .func (.func gf) #[] lbf := hin 3 97 (by kernel_rfl)
                  have h98 : A0.tmps[98]?.getD undef = .agg #[.int .i64 0, .int .i64 0, .string ⟨#[]⟩, .slice none 0 0] := hin 4 98 (by kernel_rfl)
                  have h103 : A0.tmps[103]?.getD undef = .agg #[.int .i64 zx.k, .int .i64 zx.i, .string zx.t, .slice none 0 0] := hin 9 103 (by kernel_rfl)
                  refine .call (f := gf) (args := #[vval zeroV, vval zx, .bool true] ++ lbf) (W' := W) ?_ ((HCall.out W (HN15.out.trans hN (fun _ _ x => x))).mono ?_)
                  · have e98 : A0.tmps[98]?.getD undef = vval zeroV := h98
                    have e103 : A0.tmps[103]?.getD undef = vval zx := h103
                    clear h98 h103
                    simp [go_sem, h97, e98, e103, egf]
                  · rintro e w' ⟨rfl, hc⟩
                    exact ⟨_, rfl, hc, by rw [Hzn.out]; rfl⟩
                · cases ho
                  have h95 : A0.tmps[95]?.getD undef = .slice (some ⟨gx, 0, none⟩) (last + 1) capx := hin 1 95 (by kernel_rfl)
                  have h96 : A0.tmps[96]?.getD undef = .int .i64 last := hin 2 96 (by kernel_rfl)
                  exact .same (by simp [go_sem, h95, h96, z0, z1, z2, z3]) rfl
              obtain ⟨x94, x95, x96, x97, x98, x99, x100, x101, x102, x103, x104, x105, rfl⟩ : ∃ x94 x95 x96 x97 x98 x99 x100 x101 x102 x103 x104 x105, l = [x94, x95, x96, x97, x98, x99, x100, x101, x102, x103, x104, x105] := by
                match l, hl with
                | [x94, x95, x96, x97, x98, x99, x100, x101, x102, x103, x104, x105], _ => exact ⟨_, _, _, _, _, _, _, _, _, _, _, _, rfl⟩
              obtain rfl : x94 = .pointer (some ⟨wr.heap.size, 1, none⟩) := hΦ 0 (by decide)
              obtain rfl : x95 = .slice (some ⟨gx, 0, none⟩) (last + 1) capx := hΦ 1 (by decide)
              obtain rfl : x96 = .int .i64 last := hΦ 2 (by decide)
              obtain rfl : x97 = .func (.func gf) #[] lbf := hΦ 3 (by decide)
              obtain rfl : x98 = .agg #[.int .i64 0, .int .i64 0, .string ⟨#[]⟩, .slice none 0 0] := hΦ 4 (by decide)
              obtain rfl : x99 = .pointer (some ⟨wr.heap.size, 1, none⟩) := hΦ 5 (by decide)
              obtain rfl : x100 = .slice (some ⟨gx, 0, none⟩) (last + 1) capx := hΦ 6 (by decide)
              obtain rfl : x101 = .int .i64 last := hΦ 7 (by decide)
              obtain rfl : x102 = .pointer (some ⟨gx, last * 4, none⟩) := hΦ 8 (by decide)
              obtain rfl : x103 = .agg #[.int .i64 zx.k, .int .i64 zx.i, .string zx.t, .slice none 0 0] := hΦ 9 (by decide)
              obtain rfl : x104 = .agg #[.int .i64 zn.k, .int .i64 zn.i, .string zn.t, .slice none 0 0] := hΦ 10 (by decide)
              obtain rfl : x105 = .pointer (some ⟨gx, last * 4, none⟩) := hΦ 11 (by decide)
              simp only [putsL, List.zip_cons_cons, List.zip_nil_left, List.zip_nil_right, List.zip, List.zipWith, Act.put, List.setIfInBounds_toArray, List.set_cons_succ, List.set_cons_zero]
              clear hΦ hl
              have hs6 := HS5.out.new hN
              have htk6 := hs6.take HCs.out (last := last) (fun r hr => by rw [HX.out] at hr; cases hr; exact HXl.out)
              obtain ⟨x6, v6, gx6, capx6, curx6, zx6, e6, hvx6, hor6, hvxe6, _, _, hxz6, hblk6, _, hfit6, htake6⟩ := htk6
              obtain rfl : x = x6 := by rw [HX.out] at e6; exact Option.some.inj e6
              have hve : v6 = .slice (some ⟨gx, 0, none⟩) (last + 1) capx := by rw [HVx.out] at hvx6; exact (Option.some.inj hvx6).symm
              subst hve
              simp only [Value.slice.injEq, Option.some.injEq, Addr.mk.injEq, and_true, true_and] at hvxe6
              obtain ⟨rfl, rfl⟩ := hvxe6
              obtain ⟨w7, hw7⟩ : ∃ w7, w7 = W6.setRow gx (layA curx6 (last * 4) (vcs zn)) := ⟨_, rfl⟩
              have hcW : Chg W6 w7 (fun b => b = gx) := by rw [hw7]; exact (Chg.refl _ _).setRow _ _ (fun _ => rfl)
              obtain ⟨hst7, hor7⟩ := htake6 zn
              rw [← hw7] at hst7 hor7
              have hbx7 := (HBx5.out.chg hN id).chg hcW (by omega)
              obtain ⟨w8, hw8⟩ : ∃ w8, w8 = w7.alloc (.cells #[.string x.name, .slice (some ⟨gx, 0, none⟩) (last + 1) capx, .int .i64 x.stamp] 44) := ⟨_, rfl⟩
              have hN8 : New w7 w8 := by rw [hw8]; exact (Chg.refl _ _).alloc _
              have hB8 : Blk w8 w7.heap.size 44 ([.string x.name, .slice (some ⟨gx, 0, none⟩) (last + 1) capx, .int .i64 x.stamp] : List Value).toArray := by rw [hw8]; exact Blk.new w7 _ _
              have hst8 := hst7.new hN8
              have hbx8lt := hbx7.lt
              have hsz8 := hN8.size
              obtain ⟨v1, W9, hrun, hown, hchg, hblk⟩ := elRow.appendS hst8.out (by omega) (some ⟨w7.heap.size, 0, none⟩) 1 1 [[.string x.name, .slice (some ⟨gx, 0, none⟩) (last + 1) capx, .int .i64 x.stamp]] rfl (fun cs hc => by simp only [List.mem_cons, List.not_mem_nil, or_false] at hc; subst hc; rfl) (fun cs hc u hu => by
                simp only [List.mem_cons, List.not_mem_nil, or_false] at hc
                subst hc
                simp only [List.mem_cons, List.not_mem_nil, or_false] at hu
                rcases hu with rfl | rfl | rfl <;> rfl) (fun _ => ⟨_, rfl, fun j cs hj => by
                match j, hj with
                | 0, hj => cases hj; exact ⟨rfl, by rw [Nat.zero_mul]; exact hB8.at_⟩
                | j + 1, hj => simp at hj⟩) (by rw [Hloe.out, Hlo.out]; omega) (by rw [Hloe.out, Hlo.out]; unfold maxLen; omega) 29
              have hst9 := hst8.add (vo' := v1) (hor7.chg hN8 (fun _ _ x => x)) HVx.out (fun q u a b h1 h2 h3 => hs6.low q i u _ a b (Nat.le_refl _) h1 HVx.out h2 h3) hown hchg
              have hgl9 : gs ++ [⟨x.name, x.args.dropLast ++ [zn], x.stamp⟩] = grp ag (m.take (i + 1)) := by
                rw [HGt.out]
                unfold gstep
                rw [HQ.out]
                simp only []
                unfold gfirst
                rw [lastV_of' HXz.out, Hzn.out]
              rw [hgl9] at hst9
              have hvlt : ∀ b, (Value.slice Ao lo co).ownBlock = some b → w5.heap.size ≤ b := fun b hb => (hst8.out.lt hb).1
              have HT9 := Lib.hid ((((HTab5.out.chg hN id).chg hcW (by omega)).chg hN8 id).chg hchg (fun h => by have := hvlt g h; omega))
              have HN19 := Lib.hid ((((HN15.out.trans hN (fun _ _ x => x)).trans hcW (fun b hb e => by omega)).trans hN8 (fun _ _ x => x)).trans hchg (fun b hb h => by have := hvlt b h; omega))
              have hszf : w5.heap.size ≤ W9.heap.size := by
                have := hchg.size
                omega
              have HS9 := Lib.hid hst9
              have HBk6 := Lib.hid hblk6
              have Hbt7 := Lib.hid (show At w7 ⟨wr.heap.size, 0, none⟩ [.string x.name, .slice (some ⟨gx, 0, none⟩) (last + 1) capx, .int .i64 x.stamp] from hbx7.at_)
              have Hrun := Lib.hid hrun
              have HW7 := Lib.hid hw7
              have HW8 := Lib.hid hw8
              clear hs6 hor6 hst7 hor7 hbx7 hN8 hB8 hst8 hrun hown hchg hblk hst9 hgl9 hvlt hcW hw7 hw8 htake6 hN hblk6 e6 hvx6 hxz6
              refine AtN.list 12 13 (by kernel_rfl) ?_
              change wpList _ _ _ [_] _ _
              refine wpl_store rfl (.tmp 105) (.tmp 104) 40 rfl stVal4 gx (last * 4) 40 curx6 (vcs zn) rfl rfl HBk6.out rfl hfit6 (vcs_one [zn] _ (by simp)) ?_
              refine AtN.done rfl ?_
              simp only [Act.put]
              rw [← HW7.out]
              go_wp2_with (first | ((with_reducible refine wpl_load rfl (.tmp 13) 44 rfl stRow ⟨wr.heap.size, 0, none⟩ [.string x.name, .slice (some ⟨gx, 0, none⟩) (last + 1) capx, .int .i64 x.stamp] ?_ rfl Hbt7.out ?_); exact rfl) | (rw [← HW8.out]; ((with_reducible refine wpl_append rfl (.tmp 106) (.tmp 108) 29 29 rfl ?_ ?_ Hrun.out ?_); exact rfl; exact rfl)))
              go_roundw
              case rel => exact ⟨i + 1, _, _, by omega, by go_num, HS9.out, HT9.out, HN19.out, hszf⟩
              case measure => simp only [intOf]; omega
          · have hgm : m.take i = m := List.take_of_length_le (by rw [Hn2.out]; omega)
            rw [hgm] at HSw
            obtain ⟨gs, hgs⟩ : ∃ gs, grp ag m = gs := ⟨_, rfl⟩
            have hgk := grp_ok (ag := ag) HMb.out i
            rw [hgm, hgs] at hgk
            rw [hgs] at HSw
            have hgl : gs.length ≤ 1000000 := by
              have := grp_len ag m i
              rw [hgm, hgs] at this
              omega
            obtain ⟨Ao, co, hvo, hco, hcm⟩ := HSw.out.out.form
            have hlo := HSw.out.len.1
            obtain ⟨lo, hloe⟩ : ∃ l, cso.length = l := ⟨_, rfl⟩
            rw [hloe] at hvo hco hlo
            subst hvo
            have hlo1000 : lo ≤ 1000000 := by omega
            have HRs := Lib.hid (HSw.out.rows (B' := w1.heap.size) (by omega))
            have HOs := Lib.hid (HSw.out.out.base (b := w1.heap.size) (by omega))
            have HGs := Lib.hid hgs
            have HGk := Lib.hid hgk
            have Hlo := Lib.hid hlo
            have Hloe := Lib.hid hloe
            clear hgm hgs hgk hlo hloe HSw HTw
            go_wp2_with fail
            go_loopw [113] (fun u113 wx => ∃ (i : Nat) (cso' : List (List Value)), i ≤ lo ∧ u113 = .int .i64 i ∧ Own wx w1.heap.size 44 3 (.slice Ao lo co) cso' ∧ RowsOwn wx w1.heap.size cso' ((gs.take i).map (bck k) ++ gs.drop i) ∧ New w1 wx) (fun u _ => lo - (intOf u).toNat)
            case atStart => exact ⟨0, cso, Nat.zero_le _, rfl, HOs.out, HRs.out, HNw.out⟩
            case round =>
              obtain ⟨i, cso', hi3, rfl, hov, hro, hN⟩ := hrel
              have HOv3 := Lib.hid hov
              have HRo3 := Lib.hid hro
              have HN3 := Lib.hid hN
              clear hov hro hN HNw
              by_cases hlt3 : i < lo
              · obtain ⟨r, hr⟩ : ∃ r, gs[i]? = some r := ⟨_, List.getElem?_eq_getElem (by have := Hlo.out; omega)⟩
                obtain ⟨hmg, hms⟩ := mix_get (f := bck k) hr
                obtain ⟨cs, hcs⟩ : ∃ cs, cso'[i]? = some cs := ⟨_, List.getElem?_eq_getElem (by rw [HRo3.out.1]; exact (List.getElem?_eq_some_iff.1 hmg).1)⟩
                obtain ⟨r', v, hr', hor⟩ := HRo3.out.2 i cs hcs
                obtain rfl : r = r' := by rw [hmg] at hr'; exact Option.some.inj hr'
                obtain ⟨go, cap, rest, hve, _, _, hat, _, _⟩ := HOv3.out.get hcs
                simp only [Value.slice.injEq] at hve
                obtain ⟨rfl, hl9, rfl⟩ := hve
                clear hl9
                have hcse := hor.1
                have hrow := hor.row
                obtain ⟨hk3, hk4, _⟩ := HGk.out r (List.mem_of_getElem? hr)
                obtain ⟨Av, cv, hvf, _, _⟩ := hor.2.2.form
                rw [List.length_map] at hvf
                obtain ⟨lr, hlr⟩ : ∃ l, r.args.length = l := ⟨_, rfl⟩
                rw [hlr] at hvf hk3 hk4
                subst hvf
                subst hcse
                have hne : r.args ≠ [] := by intro e; rw [e] at hlr; simp at hlr; omega
                have hlz : r.args = r.args.dropLast ++ [lastV r] := by
                  have h9 := (List.dropLast_concat_getLast hne).symm
                  rw [lastV_of' h9]
                  exact h9
                obtain ⟨w2, hw2⟩ : ∃ w2, w2 = wr.alloc (.cells #[.string r.name, .slice Av lr cv, .int .i64 r.stamp] 44) := ⟨_, rfl⟩
                have hN2 : New wr w2 := by rw [hw2]; exact (Chg.refl _ _).alloc _
                have hbt : At w2 ⟨wr.heap.size, 0, none⟩ [.string r.name, .slice Av lr cv, .int .i64 r.stamp] := (show Blk w2 wr.heap.size 44 ([.string r.name, .slice Av lr cv, .int .i64 r.stamp] : List Value).toArray by rw [hw2]; exact Blk.new wr _ _).at_
                have hbk := back_row w2 [.string r.name, .slice Av lr cv, .int .i64 r.stamp] r (hrow.chg hN2) r.args.dropLast (lastV r) hlz k (by rw [List.length_dropLast, hlr]; omega)
                have hbk2 : Calls Tryz.prog 30 #[.agg #[.string r.name, .slice Av lr cv, .int .i64 r.stamp], .int .i64 k] w2 fun e w' => ∃ v, e = .returned (.agg #[.string r.name, v, .int .i64 r.stamp]) ∧ Own w' w2.heap.size 40 4 v ((bck k r).args.map vcs) ∧ New w2 w' := hbk
                have hbl : (bck k r).args.length ≤ 1000 := by
                  show (r.args.dropLast.take k ++ lastV r :: r.args.dropLast.drop k).length ≤ 1000
                  rw [List.length_append, List.length_cons, List.length_take, List.length_drop, List.length_dropLast, hlr]
                  omega
                have HBk := Lib.hid hbk2
                have Hbt := Lib.hid hbt
                have Hat := Lib.hid hat
                have HN2 := Lib.hid hN2
                have HW2 := Lib.hid hw2
                have Hms := Lib.hid hms
                have Hmg := Lib.hid hmg
                have HCs := Lib.hid hcs
                have q0 : (0 : Int) ≤ (i : Int) := by omega
                have q1 : (i : Int) < (lo : Int) := by omega
                clear hr hmg hms hcs hr' hor hat hrow hlr hne hlz hw2 hN2 hbt hbk hbk2
                go_upto_region 27 with ((with_reducible refine wpl_load rfl (.tmp 116) 44 rfl stRow ⟨go, i * 3, none⟩ [.string r.name, .slice Av lr cv, .int .i64 r.stamp] ?_ rfl Hat.out ?_); exact rfl)
                rw [← HW2.out]
                go_wp2_with ((with_reducible refine wpl_load rfl (.tmp 18) 44 rfl stRow ⟨wr.heap.size, 0, none⟩ [.string r.name, .slice Av lr cv, .int .i64 r.stamp] ?_ rfl Hbt.out ?_); exact rfl)
                refine HBk.out.mono ?_
                rintro e w3 ⟨v', rfl, hov', hN23⟩
                obtain ⟨A', c', hv', _, _⟩ := hov'.form
                obtain ⟨la', hla'⟩ : ∃ l, (List.map vcs (bck k r).args).length = l := ⟨_, rfl⟩
                rw [hla'] at hv'
                subst hv'
                have hN13 := HN2.out.trans hN23 (fun _ _ x => x)
                have hov3 := HOv3.out.chg hN13 (fun _ _ x => x)
                obtain ⟨go2, cap2, rest2, hve2, _, hblk3, _, hfit3, hset3, _⟩ := hov3.get HCs.out
                simp only [Value.slice.injEq, Option.some.injEq, Addr.mk.injEq, and_true] at hve2
                obtain ⟨rfl, hl9, hl10⟩ := hve2
                clear hl9 hl10
                have hown4 := hset3 [.string r.name, .slice A' la' c', .int .i64 r.stamp] rfl
                obtain ⟨cur3, hcur3⟩ : ∃ c, (cso'.flatten ++ rest2).toArray = c := ⟨_, rfl⟩
                rw [hcur3] at hown4 hblk3 hfit3
                have hcW : Chg w3 (w3.setRow go (layA cur3 (i * 3) [.string r.name, .slice A' la' c', .int .i64 r.stamp])) (fun g => (Value.slice (some ⟨go, 0, none⟩) lo co).ownBlock = some g) := (Chg.refl _ _).setRow _ _ (fun _ => rfl)
                have hor4 : OwnRow w3 w1.heap.size [.string r.name, .slice A' la' c', .int .i64 r.stamp] (bck k r) (.slice A' la' c') := ⟨rfl, hbl, hov'.base (by have := HN3.out.size; have := HN2.out.size; omega)⟩
                have hro4 := ((HRo3.out.new hN13).set (i := i) (by have := (List.getElem?_eq_some_iff.1 Hmg.out).1; exact this) hor4).chg hov3 (by decide) hcW
                rw [Hms.out] at hro4
                have HRo4 := Lib.hid hro4
                have HOv4 := Lib.hid hown4
                have HBk3 := Lib.hid hblk3
                have HN4 := Lib.hid ((HN3.out.trans hN13 (fun _ _ x => x)).trans hcW (fun b hb h => by
                  have h1 := (HOv3.out.lt (g := b) h).1
                  omega))
                have Hone := Lib.hid (show ∀ u ∈ [Value.string r.name, .slice A' la' c', .int .i64 r.stamp], u.oneCell' = true from fun u hu => by
                  simp only [List.mem_cons, List.not_mem_nil, or_false] at hu
                  rcases hu with rfl | rfl | rfl <;> rfl)
                clear hN13 hov3 hblk3 hset3 hown4 hcur3 hcW hor4 hro4 hov' hN23 hla'
                go_wp2_with ((with_reducible refine wpl_store rfl (.tmp 123) (.tmp 122) 44 rfl stRow go (i * 3) 44 cur3 [.string r.name, .slice A' la' c', .int .i64 r.stamp] ?_ ?_ HBk3.out rfl hfit3 Hone.out ?_); exact rfl; exact rfl)
                go_roundw
                case rel => exact ⟨i + 1, _, by omega, by go_num, HOv4.out, HRo4.out, HN4.out⟩
                case measure => simp only [intOf]; omega
              · have hLe : (gs.take i).map (bck k) ++ gs.drop i = gs.map (bck k) := by
                  have h1 : gs.length ≤ i := by have := Hlo.out; omega
                  rw [List.take_of_length_le h1, List.drop_of_length_le h1, List.append_nil]
                rw [hLe] at HRo3
                have HMl := Lib.hid (merge_sl wr _ _ (HOv3.out.rowSl HRo3.out.cs (by rw [List.length_map]; exact hgl)))
                clear hLe
                go_wp2_with fail
                refine HMl.out.mono ?_
                rintro e w6 ⟨v', res, rfl, hres, hrsl, hN6⟩
                have HRes := Lib.hid (show IsMerge ((grp ag m).map (bck k)) res by rw [HGs.out]; exact hres)
                have HRsl := Lib.hid hrsl
                have HN6 := Lib.hid ((HN1.out.trans HN3.out (fun _ _ x => x)).trans hN6 (fun _ _ x => x))
                clear hres hrsl hN6
                go_wp2_with fail
                go_ret
                exact ⟨_, m, res, rfl, HMm.out, HRes.out, HRsl.out, HN6.out⟩
end Go.Proofs.YtfocjfnkcabbgaaGreat
