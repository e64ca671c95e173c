/- fire: goes at LitTest, LitAssign. -/
import Derived.Test.YtenkobgeflckdabG44a
set_option linter.unusedVariables false
set_option linter.unusedSimpArgs false
namespace Go.Proofs.Ytenkobgeflckdab
open Go.RowKit Go.Shelf

set_option maxHeartbeats 8000000 in
set_option maxRecDepth 100000 in
theorem goes_test (jt bm : Nat) (w0 w : World) (hw0 : New w0 w) (S1 : Nat → Prop) (hS1 : ∀ k, S1 k → k < w.heap.size) (A : Option Addr) (n c : Nat) (css : List (List Value)) (ts : List Tm) (hn : n = ts.length) (hnm : n ≤ 1000) (hts : TmsAt w0 A css ts) (hokt : ∀ t ∈ ts, okTm t)
    (s : Sta) (Ae : Option Addr) (ce : Nat) (hst : StAt s (.agg #[.slice Ae s.1.length ce, .int .i64 s.2]) S1 w) (hok : okEnv s.1) (hsl : s.1.length ≤ 999) (fs : List (Option Vl)) (hfs : fs = ts.map (evalT s.1)) (o : Option Sta) (hnone : allO fs = none → o = none) (h2 : n = 2) (hsome : ∀ x y, allO fs = some [x, y] → o = if testV jt x y then some s else none) (hokx : ∀ us, allO fs = some us → ∀ u ∈ us, okW u) :
    Calls Try.prog 44 #[.map (some bm), .agg #[.int .i64 3, .string (opT jt), .slice A n c], .agg #[.slice Ae s.1.length ce, .int .i64 s.2]] w (GoesPost w S1 o) := by
  have Hnone := Lib.hid hnone
  have Hsome := Lib.hid hsome
  have HOkx := Lib.hid hokx
  have H2 := Lib.hid h2
  clear hnone hsome hokx h2
  obtain ⟨w1, hw1⟩ : ∃ w1, w1 = (((w.alloc (.cells #[.int .i64 3, .string (opT jt), .slice A n c] 40)).alloc (.cells #[.slice Ae s.1.length ce, .int .i64 s.2] 75)).alloc (.cells #[.slice none 0 0, .int .i64 0] 75)).alloc (.cells #[.bool false] 4) := ⟨_, rfl⟩
  obtain ⟨hN1, b4, b5, b6, b7, hz1⟩ := boxes4 _ _ _ _ _ _ _ _ _ w1 hw1
  have hev : ∀ (k : Nat) (t : Tm) (cs : List Value) (W : World), css[k]? = some cs → ts[k]? = some t → New w1 W → Calls Try.prog 45 #[.agg cs.toArray, .slice Ae s.1.length ce] W fun e W' => e = .returned (optV (evalT s.1 t)) ∧ New W W' := by
    intro k t cs W hcs ht hW
    obtain ⟨A', c', he, _, _, hse, _⟩ := hst
    obtain ⟨rfl, rfl⟩ : Ae = A' ∧ ce = c' := by
      injection he with he
      injection he with he
      injection he with h1 h2
      injection h1 with h1 _ h3
      exact ⟨h1, h3⟩
    have hww := (hN1.trans hW (fun _ _ x => x))
    exact bEval Ae s.1.length ce s.1 rfl (by omega) hok t (hokt t (List.mem_of_getElem? ht)) W cs (hse.chg hww (fun _ _ => id)) ((hts.at_ k cs t hcs ht).chg ((hw0.trans hww (fun _ _ x => x))))
  have hone : ∀ (k : Nat) (t : Tm) (cs : List Value), css[k]? = some cs → ts[k]? = some t → ∀ u ∈ cs, u.oneCell' = true := fun k t cs h1 h2 => (hts.at_ k cs t h1 h2).one
  have hsrc := hts.src.chg (hw0.trans hN1 (fun _ _ x => x)) (fun _ _ => id)
  have hlen := hts.len
  have hseven : ∀ (k : Nat) (t : Tm) (cs : List Value), css[k]? = some cs → ts[k]? = some t → ∃ t0 t1 t2 t3 t4 t5 t6, cs = [t0, t1, t2, t3, t4, t5, t6] := fun k t cs h1 h2 => (hts.at_ k cs t h1 h2).seven
  have HEv := Lib.hid hev
  have HOne := Lib.hid hone
  have HSeven := Lib.hid hseven
  have HSrc := Lib.hid hsrc
  have HLen := Lib.hid hlen
  have HW := Lib.hid hw1
  have HN1 := Lib.hid hN1
  have B4 := Lib.hid b4
  have B5 := Lib.hid b5
  have B6 := Lib.hid b6
  have B7 := Lib.hid b7
  have HZ := Lib.hid hz1
  have HSt := Lib.hid hst
  have HN := Lib.hid hn
  have Hfs := Lib.hid hfs
  clear hev hone hseven hsrc hlen hw1 hN1 b4 b5 b6 b7 hz1 hst hts hokt hok hw0 hn hfs
  go_enter Try.func44, Try.ntmps44
  go_upto_region 3 with fail
  rw [← HW.out]
  have e2 := (B4.out).cell 2
  simp only [List.getElem?_toArray, List.getElem?_cons_zero, List.getElem?_cons_succ] at e2
  go_wp2_with fail
  clear HW e2
  go_loopw [8, 21] (fun u8 u21 wr => ∃ (k : Nat) (us : List Vl), k ≤ n ∧ u21 = .int .i64 k ∧ allO (fs.take k) = some us ∧ us.length = k ∧ Own wr w1.heap.size 46 4 u8 (us.map vcs) ∧ New w1 wr) (fun _ u _ => n - (intOf u).toNat)
  case atStart => exact ⟨0, [], Nat.zero_le _, rfl, rfl, rfl, Own.nil _ _ _ _, Chg.refl _ _⟩
  case round =>
    obtain ⟨k, us, hk, rfl, ha, hl, hov, hNr⟩ := hrel
    obtain ⟨Ao, co, rfl, hc1, hc2⟩ := hov.form
    rw [List.length_map] at hov ⊢
    have Ha := Lib.hid ha
    have HOv := Lib.hid hov
    have HNw := Lib.hid hNr
    have Hl := Lib.hid hl
    clear ha hov hNr hl hc1 hc2
    by_cases hlt : k < n
    · obtain ⟨t, ht⟩ : ∃ t, ts[k]? = some t := ⟨_, List.getElem?_eq_getElem (by rw [← HN.out]; exact hlt)⟩
      obtain ⟨cs, hcs⟩ : ∃ cs, css[k]? = some cs := ⟨_, List.getElem?_eq_getElem (by rw [HLen.out, ← HN.out]; exact hlt)⟩
      obtain ⟨ad, rfl, hrw⟩ := HSrc.out (by rw [HLen.out, ← HN.out]; omega)
      have hat := (hrw k cs hcs).2.chg HNw.out id
      have h1c := HOne.out k t cs hcs ht
      have hek := fun W h => HEv.out k t cs W hcs ht h
      obtain ⟨o1, ho1⟩ : ∃ o1, evalT s.1 t = o1 := ⟨_, rfl⟩
      have hfk : fs[k]? = some o1 := by rw [Hfs.out, List.getElem?_map, ht, ← ho1]; rfl
      rw [ho1] at hek
      obtain ⟨t0, t1, t2, t3, t4, t5, t6, rfl⟩ := HSeven.out k t cs hcs ht
      have Hat := Lib.hid hat
      have H1c := Lib.hid h1c
      have Hek := Lib.hid hek
      have Hfk := Lib.hid hfk
      clear hat h1c hek hfk hrw hcs ht ho1
      have e5 := (B5.out.chg HNw.out id).cell 0
      simp only [List.getElem?_toArray, List.getElem?_cons_zero] at e5
      cases o1 with
      | none =>
        unfold optV at Hek
        dsimp only [Option.getD, Option.isSome, vval, zV] at Hek
        go_wp2_with first
          | ((with_reducible refine wpl_load rfl (.tmp 23) 48 rfl stTerm (ad.add (k * 7)) _ ?_ rfl Hat.out ?_); exact rfl)
          | ((with_reducible refine wpl_box rfl rfl 10 (.tmp 24) 48 rfl rfl rfl rfl stTerm elTerm.zero [t0, t1, t2, t3, t4, t5, t6] ?_ ?_ rfl H1c.out ?_); exact (by decide : 10 < 104); exact rfl; intro w2 hc2 hb2 hs2; have e6 := hc2.cellS e5 id; have Hc2 := Lib.hid hc2; have Hb2 := Lib.hid (Blk.at_ (cs := [t0, t1, t2, t3, t4, t5, t6]) hb2); clear hc2 hb2 hs2)
          | ((with_reducible refine wpl_load rfl (.tmp 10) 48 rfl stTerm ⟨wr.heap.size, 0, none⟩ _ ?_ rfl Hb2.out ?_); exact rfl)
          | (go_at_call 45; refine (Hek.out _ (HNw.out.trans Hc2.out (fun _ _ x => x))).mono ?_; rintro e w3 ⟨rfl, hc3⟩; have HN3 := Lib.hid ((HNw.out.trans Hc2.out (fun _ _ x => x)).trans hc3 (fun _ _ x => x)); clear hc3 e5 e6)
          | ((with_reducible refine wpl_box rfl rfl 11 (.tmp 30) 46 rfl rfl rfl rfl stVal4 elValue.zero (vcs zV) ?_ ?_ (vcl_len _) (vcl_one _) ?_); exact (by decide : 11 < 104); exact rfl; intro w4 hc4 hb4 hs4; have HN4 := Lib.hid (HN3.out.trans hc4 (fun _ _ x => x)); clear hc4 hb4 hs4)
          | ((with_reducible refine wpl_load rfl (.tmp 5) 75 rfl stSta ⟨w.heap.size + 1, 0, none⟩ [.slice Ae s.1.length ce, .int .i64 s.2] ?_ rfl (B5.out.chg HN4.out id).at_ ?_); exact rfl)
          | ((with_reducible refine wpl_set rfl (.tmp 6) (.tmp 34) 75 rfl rfl stSta (w.heap.size + 1 + 1) 75 _ [.slice Ae s.1.length ce, .int .i64 s.2] ?_ ?_ (B6.out.chg HN4.out id) rfl rfl (sta_one _ _ _ _) ?_); exact rfl; exact rfl; intro w5 hc5 hb5 hs5; have h75 := (B7.out.chg HN4.out id).chg hc5 (by omega); have HN5 := Lib.hid ((HN1.out.trans HN4.out (fun _ _ x => x)).put hc5 (by omega)); have HB5 := Lib.hid hb5; have H75 := Lib.hid h75; have c7 := h75.cell 0; have f7 := h75.frozen 0; simp only [List.getElem?_toArray, List.getElem?_cons_zero] at c7; clear hc5 hb5 hs5 h75)
        refine bodyPost_ret (res_cells stSta rfl Try.underlying4 _ _ ⟨w.heap.size + 1 + 1, 0, none⟩ ⟨w.heap.size + 1 + 1 + 1, 0, none⟩ [.slice Ae s.1.length ce, .int .i64 s.2] false rfl (Blk.at_ (HB5.out.far (by simp) _)) rfl rfl (by have := H75.out.setCell 0 (.bool false); exact (this.cell 0).trans rfl)) rfl ?_
        exact ⟨HN5.out.setCell _ _ (fun h => absurd h (by simp; omega)), .inl ⟨Hnone.out (allO_none Hfk.out), _, _, rfl, rfl, rfl⟩⟩
      | some x =>
        unfold optV at Hek
        dsimp only [Option.getD, Option.isSome, vval] at Hek
        go_upto_region 9 with first
          | ((with_reducible refine wpl_load rfl (.tmp 23) 48 rfl stTerm (ad.add (k * 7)) _ ?_ rfl Hat.out ?_); exact rfl)
          | ((with_reducible refine wpl_box rfl rfl 10 (.tmp 24) 48 rfl rfl rfl rfl stTerm elTerm.zero [t0, t1, t2, t3, t4, t5, t6] ?_ ?_ rfl H1c.out ?_); exact (by decide : 10 < 104); exact rfl; intro w2 hc2 hb2 hs2; have e6 := hc2.cellS e5 id; have Hc2 := Lib.hid hc2; have Hb2 := Lib.hid (Blk.at_ (cs := [t0, t1, t2, t3, t4, t5, t6]) hb2); clear hc2 hb2 hs2)
          | ((with_reducible refine wpl_load rfl (.tmp 10) 48 rfl stTerm ⟨wr.heap.size, 0, none⟩ _ ?_ rfl Hb2.out ?_); exact rfl)
          | (go_at_call 45; refine (Hek.out _ (HNw.out.trans Hc2.out (fun _ _ x => x))).mono ?_; rintro e w3 ⟨rfl, hc3⟩; have HN3 := Lib.hid (Hc2.out.trans hc3 (fun _ _ x => x)); clear hc3 e5 e6)
          | ((with_reducible refine wpl_box rfl rfl 11 (.tmp 30) 46 rfl rfl rfl rfl stVal4 elValue.zero (vcs x) ?_ ?_ (vcl_len _) (vcl_one _) ?_); exact (by decide : 11 < 104); exact rfl; intro w4 hc4 hb4 hs4; have HN4 := Lib.hid (HN3.out.trans hc4 (fun _ _ x => x)); have Hb4 := Lib.hid (show At w4 ⟨w3.heap.size, 0, none⟩ [.int .i64 x.k, .int .i64 x.i, .string x.t, .slice none 0 0] from Blk.at_ (cs := vcs x) hb4); clear hc4 hb4 hs4)
        have HOv4 := Lib.hid (HOv.out.chg HN4.out (fun _ _ x => x))
        have HW4 := Lib.hid (HNw.out.trans HN4.out (fun _ _ x => x))
        have hul : us.length ≤ 1000 := by have := Hl.out; have := HN.out; omega
        have HA4 := Lib.hid (allO_take Ha.out Hfk.out)
        obtain ⟨w5, hw5⟩ : ∃ w5, w5 = w4.alloc (.cells #[.int .i64 x.k, .int .i64 x.i, .string x.t, .slice none 0 0] 46) := ⟨_, rfl⟩
        have hn5 : New w4 w5 := by rw [hw5]; exact (Chg.refl _ _).alloc _
        have hb5 : Blk w5 w4.heap.size 46 #[.int .i64 x.k, .int .i64 x.i, .string x.t, .slice none 0 0] := by rw [hw5]; exact Blk.new _ _ _
        have hrun := elValue.appendS (HOv4.out.chg hn5 (fun _ _ x => x)) (Nat.le_trans HW4.out.size hn5.size) (some ⟨w4.heap.size, 0, none⟩) 1 1 [vcs x] rfl (fun cs hc => by rw [List.mem_singleton.1 hc]; rfl) (fun cs hc => by rw [List.mem_singleton.1 hc]; exact vcl_one x) (src_one (Blk.vcs hb5) (vcl_len x)) (by rw [List.length_map]; omega) (by rw [List.length_map]; unfold maxLen; omega) 28
        rw [hw5] at hrun
        obtain ⟨v6, w6, hrun, hown6, hc6, -⟩ := hrun
        have Hrun := Lib.hid hrun
        have Hown6 := Lib.hid hown6
        have HC6 := Lib.hid ((hn5.mono (T' := fun k => (Value.slice Ao us.length co).ownBlock = some k) (fun _ _ x => x.elim)).trans (hw5 ▸ hc6) (fun _ _ x => x))
        clear hrun hb5 hn5 hw5 hown6 hc6
        clear HOv HN3 HNw Hc2 Hat H1c Ha Hek
        go_wp2_with first
          | ((with_reducible refine wpl_load rfl (.tmp 11) 46 rfl stVal4 ⟨w3.heap.size, 0, none⟩ [.int .i64 x.k, .int .i64 x.i, .string x.t, .slice none 0 0] ?_ rfl Hb4.out ?_); exact rfl)
          | ((with_reducible refine wpl_append rfl (.tmp 35) (.tmp 37) 28 28 rfl ?_ ?_ Hrun.out ?_); exact rfl; exact rfl)
        go_roundw
        case rel =>
          refine ⟨k + 1, us ++ [x], by omega, by go_num, HA4.out, by rw [List.length_append, Hl.out]; rfl, by rw [List.map_append]; exact Hown6.out, HW4.out.trans HC6.out (fun k hk h => ?_)⟩
          have := (HOv4.out.lt h).1
          omega
        case measure => simp [intOf]; omega
    · have hfull : allO fs = some us := by
        have h := Ha.out
        rwa [List.take_of_length_le (by rw [Hfs.out, List.length_map, ← HN.out]; omega)] at h
      obtain ⟨x, y, rfl⟩ : ∃ x y, us = [x, y] := by
        have := Hl.out
        have := H2.out
        match us, (show us.length = 2 by omega) with
        | [x, y], _ => exact ⟨x, y, rfl⟩
      obtain ⟨q, hq⟩ : ∃ q, testV jt x y = q := ⟨_, rfl⟩
      have okx := HOkx.out _ hfull x (by simp)
      have oky := HOkx.out _ hfull y (by simp)
      have ht := fun W => test_val W jt x y okx.1 oky.1 okx.2.1 okx.2.2 oky.2.1 oky.2.2
      rw [hq] at ht
      have hso := Hsome.out x y hfull
      rw [hq] at hso
      have HT := Lib.hid ht
      have HSo := Lib.hid hso
      have e0 := (B4.out.chg HNw.out id).cell 0
      simp only [List.getElem?_toArray, List.getElem?_cons_zero] at e0
      obtain ⟨B, hB, hr⟩ := (HOv.out.rows rfl).2 (by simp)
      subst hB
      have hHR := Lib.hid hr
      clear hfull Ha HOv Hsome Hnone HOkx HEv HOne HSeven HSrc HLen ht hso hq okx oky hr
      rw [show ([x, y] : List Vl).length = 2 from rfl]
      go_upto_region 16 with fail
      refine wp_region_at (by kernel_rfl) ?_
      have hnd : New w1 wr.drew := HNw.out.drew
      have D4 := Lib.hid (B4.out.chg hnd id)
      have D5 := Lib.hid (B5.out.chg hnd id)
      have D6 := Lib.hid (B6.out.chg hnd id)
      have D7 := Lib.hid (B7.out.chg hnd id)
      have DR := Lib.hid (hHR.out.chg (Chg.refl wr (fun _ => False)).drew id)
      have DN := Lib.hid (HN1.out.trans hnd (fun _ _ x => x))
      clear hnd e0 HNw hHR
      generalize wr.drew = wd at D4 D5 D6 D7 DR DN ⊢
      have hx := (DR.out 0 _ rfl).2
      have hy := (DR.out 1 _ rfl).2
      have Hx := Lib.hid hx
      have Hy := Lib.hid hy
      clear hx hy DR
      have eg51 : ∀ (args : Array Value) (w : World), (callFunc 51 args).run Try.prog w = .ok (.enter 51 args) w := enters_of Try.func51 (by kernel_rfl) rfl
      refine AtN.segN2 0 10 [60, 61, 62, 63, 64, 65, 66, 67, 68, 69] (fun
        | 0 => fun v _ => v = .agg #[.slice Ae s.1.length ce, .int .i64 s.2]
        | 1 => fun v _ => v = .pointer (some ⟨w.heap.size, 1, none⟩)
        | 2 => fun v _ => v = .string (opT jt)
        | 3 => fun v _ => v = .slice (some B) 2 co
        | 4 => fun v _ => v = .pointer (some (B.add 0))
        | 5 => fun v _ => v = .agg #[.int .i64 x.k, .int .i64 x.i, .string x.t, .slice none 0 0]
        | 6 => fun v _ => v = .slice (some B) 2 co
        | 7 => fun v _ => v = .pointer (some (B.add 4))
        | 8 => fun v _ => v = .agg #[.int .i64 y.k, .int .i64 y.i, .string y.t, .slice none 0 0]
        | 9 => fun v _ => v = .bool q
        | _ => fun _ _ => True) (by kernel_rfl) (by kernel_rfl) (by kernel_rfl) (by kernel_rfl) (fun j v w1 w2 hc h => ?_) (fun i hn hi o ho A0 W hN hin hk => ?_) (fun l W5 hN hl hΦ => ?_)
      · match j with
        | 0 | 1 | 2 | 3 | 4 | 5 | 6 | 7 | 8 | 9 => exact h
        | _ + 10 => trivial
      · rcases (show i = 0 ∨ i = 1 ∨ i = 2 ∨ i = 3 ∨ i = 4 ∨ i = 5 ∨ i = 6 ∨ i = 7 ∨ i = 8 ∨ i = 9 by omega) with rfl | rfl | rfl | rfl | rfl | rfl | rfl | rfl | rfl | rfl
        · cases ho
          have h5 : A0.tmps[5]?.getD undef = .pointer (some ⟨w.heap.size + 1, 0, none⟩) := hk 5 (by kernel_rfl)
          exact .same (exec_load 5 _ rfl stSta ⟨w.heap.size + 1, 0, none⟩ [.slice Ae s.1.length ce, .int .i64 s.2] h5 rfl (D5.out.chg hN id).at_) rfl
        · cases ho
          have h4 : A0.tmps[4]?.getD undef = .pointer (some ⟨w.heap.size, 0, none⟩) := hk 4 (by kernel_rfl)
          exact .same (by simp [go_sem, h4]) rfl
        · cases ho
          have h61 : A0.tmps[61]?.getD undef = .pointer (some ⟨w.heap.size, 1, none⟩) := hin 1 61 (by kernel_rfl)
          have hcx : W.cell? ⟨w.heap.size, 1, none⟩ = some (.string (opT jt)) := (D4.out.chg hN id).cell 1
          exact .same (v := .string (opT jt)) (by simp [go_sem, h61, hcx]) rfl
        · cases ho
          exact .same (exec_move 8 _ rfl (hk 8 (by kernel_rfl))) rfl
        · cases ho
          have h63 : A0.tmps[63]?.getD undef = .slice (some B) 2 co := hin 3 63 (by kernel_rfl)
          exact .same (by simp [go_sem, h63]) rfl
        · cases ho
          have h64 : A0.tmps[64]?.getD undef = .pointer (some (B.add 0)) := hin 4 64 (by kernel_rfl)
          exact .same (exec_load 64 _ rfl stVal4 (B.add (0 * 4)) (vcs x) h64 (vcl_len x) (Hx.out.chg hN id)) rfl
        · cases ho
          exact .same (exec_move 8 _ rfl (hk 8 (by kernel_rfl))) rfl
        · cases ho
          have h66 : A0.tmps[66]?.getD undef = .slice (some B) 2 co := hin 6 66 (by kernel_rfl)
          exact .same (by simp [go_sem, h66]) rfl
        · cases ho
          have h67 : A0.tmps[67]?.getD undef = .pointer (some (B.add 4)) := hin 7 67 (by kernel_rfl)
          exact .same (exec_load 67 _ rfl stVal4 (B.add (1 * 4)) (vcs y) h67 (vcl_len y) (Hy.out.chg hN id)) rfl
        · cases ho
          have h62 : A0.tmps[62]?.getD undef = .string (opT jt) := hin 2 62 (by kernel_rfl)
          have h65 : A0.tmps[65]?.getD undef = .agg #[.int .i64 x.k, .int .i64 x.i, .string x.t, .slice none 0 0] := hin 5 65 (by kernel_rfl)
          have h68 : A0.tmps[68]?.getD undef = .agg #[.int .i64 y.k, .int .i64 y.i, .string y.t, .slice none 0 0] := hin 8 68 (by kernel_rfl)
          refine .call (f := 51) (args := #[.string (opT jt), .agg #[.int .i64 x.k, .int .i64 x.i, .string x.t, .slice none 0 0], .agg #[.int .i64 y.k, .int .i64 y.i, .string y.t, .slice none 0 0]]) (W' := W) ?_ ((HT.out W).mono ?_)
          · simp [go_sem, h62, h65, h68, eg51]
          · rintro e w' ⟨rfl, hc⟩
            exact ⟨_, rfl, hc, rfl⟩
      obtain ⟨x60, x61, x62, x63, x64, x65, x66, x67, x68, x69, rfl⟩ : ∃ x60 x61 x62 x63 x64 x65 x66 x67 x68 x69, l = [x60, x61, x62, x63, x64, x65, x66, x67, x68, x69] := by
        match l, hl with
        | [x60, x61, x62, x63, x64, x65, x66, x67, x68, x69], _ => exact ⟨_, _, _, _, _, _, _, _, _, _, rfl⟩
      obtain rfl : x60 = .agg #[.slice Ae s.1.length ce, .int .i64 s.2] := hΦ 0 (by decide)
      obtain rfl : x61 = .pointer (some ⟨w.heap.size, 1, none⟩) := hΦ 1 (by decide)
      obtain rfl : x62 = .string (opT jt) := hΦ 2 (by decide)
      obtain rfl : x63 = .slice (some B) 2 co := hΦ 3 (by decide)
      obtain rfl : x64 = .pointer (some (B.add 0)) := hΦ 4 (by decide)
      obtain rfl : x65 = .agg #[.int .i64 x.k, .int .i64 x.i, .string x.t, .slice none 0 0] := hΦ 5 (by decide)
      obtain rfl : x66 = .slice (some B) 2 co := hΦ 6 (by decide)
      obtain rfl : x67 = .pointer (some (B.add 4)) := hΦ 7 (by decide)
      obtain rfl : x68 = .agg #[.int .i64 y.k, .int .i64 y.i, .string y.t, .slice none 0 0] := hΦ 8 (by decide)
      obtain rfl : x69 = .bool q := hΦ 9 (by decide)
      simp only [putsL, List.zip_cons_cons, List.zip_nil_left, List.zip_nil_right, List.zip, List.zipWith, Act.put, List.setIfInBounds_toArray, List.set_cons_succ, List.set_cons_zero]
      clear hΦ hl
      have F6 := Lib.hid (D6.out.chg hN id)
      have F7 := Lib.hid (D7.out.chg hN id)
      have FN := Lib.hid (DN.out.trans hN (fun _ _ x => x))
      clear D4 D5 D6 D7 DN hN
      refine AtN.list 10 12 (by kernel_rfl) ?_
      change wpList _ _ _ [_, _] _ _
      go_wp2_with ((with_reducible refine wpl_set rfl (.tmp 6) (.tmp 60) 75 rfl rfl stSta (w.heap.size + 1 + 1) 75 _ [.slice Ae s.1.length ce, .int .i64 s.2] ?_ ?_ F6.out rfl rfl (sta_one _ _ _ _) ?_); exact rfl; exact rfl; intro w5 hc5 hb5 hs5; have h75 := F7.out.chg hc5 (by omega); have HN5 := Lib.hid (FN.out.put hc5 (by omega)); have HB5 := Lib.hid hb5; have H75 := Lib.hid h75; have c7 := h75.cell 0; have f7 := h75.frozen 0; simp only [List.getElem?_toArray, List.getElem?_cons_zero] at c7; clear hc5 hb5 hs5 h75)
      change AtN _ _ _ 12 _ _
      refine AtN.done rfl ?_
      go_wp2_with fail
      refine bodyPost_ret (res_cells stSta rfl Try.underlying4 _ _ ⟨w.heap.size + 1 + 1, 0, none⟩ ⟨w.heap.size + 1 + 1 + 1, 0, none⟩ [.slice Ae s.1.length ce, .int .i64 s.2] q rfl (Blk.at_ (HB5.out.far (by simp) _)) rfl rfl (by have := H75.out.setCell 0 (.bool q); exact (this.cell 0).trans rfl)) rfl ?_
      refine ⟨HN5.out.setCell _ _ (fun h => absurd h (by simp; omega)), ?_⟩
      cases q with
      | true => exact .inr ⟨s, _, HSo.out, rfl, HSt.out.new (HN5.out.setCell _ _ (fun h => absurd h (by simp; omega)))⟩
      | false => exact .inl ⟨HSo.out, _, _, rfl, rfl, rfl⟩
end Go.Proofs.Ytenkobgeflckdab
