/- fire: goes at LitAssign. -/
import Derived.Test.YtenkobgeflckdabG44b
import Derived.ArgAppend
set_option linter.unusedVariables false
set_option linter.unusedSimpArgs false
namespace Go.Proofs.Ytenkobgeflckdab
open Go.RowKit Go.Shelf

/-- append to what is clipped. -/
theorem append_clip (W : World) (Ae : Option Addr) (n : Nat) (env : Env) (hn : n = env.length) (hs : SrcAt W Ae 5 (env.map bcs)) (rb : Nat) (p : ByteArray × Vl) (hb : Blk W rb 101 (bcs p).toArray) (hm : n ≤ 999) :
    ∃ v' W', (Builtin.append_ #[73, 73] 73 #[.slice Ae n n, .slice (some ⟨rb, 0, none⟩) 1 1]).run Try.prog W = .ok v' W' ∧ New W W' ∧ Own W' W.heap.size 101 5 v' ((env ++ [p]).map bcs) := by
  cases Ae with
  | none =>
    have h0 : env = [] := by
      cases env with
      | nil => rfl
      | cons x l => obtain ⟨a, h, _⟩ := hs (by simp); cases h
    subst h0
    obtain rfl : n = 0 := hn
    obtain ⟨v', W', h1, h2, h3, _⟩ := elBind.appendS (Own.nil W W.heap.size 101 5) (Nat.le_refl _) (some ⟨rb, 0, none⟩) 1 1 [bcs p] rfl (fun cs hc => by rw [List.mem_singleton.1 hc]; rfl) (fun cs hc => bcs_one [p] cs hc) (src_one (Blk.at_ hb) rfl) (by simp) (by simp [maxLen]) 73
    exact ⟨v', W', h1, h3.mono (fun k _ h => by cases h), h2⟩
  | some a =>
    obtain ⟨i, z, hi, hz, hsz, hby, hzz, hzl⟩ := elBind.info
    have hk : ∀ cs ∈ env.map bcs, cs.length = 5 := fun cs hc => by obtain ⟨q, _, rfl⟩ := List.mem_map.1 hc; rfl
    obtain ⟨v', W', h1, h2, h3⟩ := run_append_arg_grows (P := Try.prog) W 73 73 101 i z 5 72 elBind.und hi hz hsz hby (by rw [← Array.length_toList, hzz, hzl]) (by omega) a n n (env.map bcs).flatten (by rw [flatten_len hk, List.length_map, ← hn]) (fun j u hj => by
        have hlt : j < (env.map bcs).flatten.length := (List.getElem?_eq_some_iff.1 hj).1
        rw [flatten_len hk, List.length_map] at hlt
        obtain ⟨a', ha, hr⟩ := hs (by rw [List.length_map]; omega)
        obtain rfl := Option.some.inj ha
        have hq : j / 5 < (env.map bcs).length := by rw [List.length_map]; exact Nat.div_lt_of_lt_mul (by rw [Nat.mul_comm]; exact hlt)
        have hrr := hr (j / 5) _ (List.getElem?_eq_getElem hq)
        have hjr : j % 5 < ((env.map bcs)[j / 5]).length := by rw [hrr.1]; exact Nat.mod_lt _ (by omega)
        have hu : (env.map bcs).flatten[j / 5 * 5 + j % 5]? = some ((env.map bcs)[j / 5][j % 5]) := flatten_get hk (List.getElem?_eq_getElem hq) (List.getElem?_eq_getElem hjr)
        have hjj : j / 5 * 5 + j % 5 = j := by rw [Nat.mul_comm]; exact Nat.div_add_mod j 5
        rw [hjj] at hu
        rw [hu] at hj
        have hcell := hrr.2 (j % 5) _ (List.getElem?_eq_getElem hjr)
        rw [add_add, hjj] at hcell
        rw [hcell]
        exact hj) ⟨rb, 0, none⟩ 1 1 (bcs p) rfl (fun j u hj => Blk.at_ hb j u hj) (by omega) (by unfold maxLen; omega) (by omega)
    refine ⟨v', W', h1, (Chg.of_grown h3).mono (fun k _ h => by cases h), ?_, ?_⟩
    · rw [List.map_append, List.length_append, List.flatten_append, List.length_map, ← hn]
      simpa using h2
    · intro cs hc; obtain ⟨q, _, rfl⟩ := List.mem_map.1 hc; rfl

set_option maxHeartbeats 8000000 in
set_option maxRecDepth 100000 in
theorem goes_assign (nm : ByteArray) (bm : Nat) (w0 w : World) (hw0 : New w0 w) (S1 : Nat → Prop) (hS1 : ∀ k, S1 k → k < w.heap.size) (A : Option Addr) (n c : Nat) (css : List (List Value)) (ts : List Tm) (hn : n = ts.length) (hnm : n ≤ 1000) (hts : TmsAt w0 A css ts) (hokt : ∀ t ∈ ts, okTm t)
    (s : Sta) (Ae : Option Addr) (ce : Nat) (hst : StAt s (.agg #[.slice Ae s.1.length ce, .int .i64 s.2]) S1 w) (hok : okEnv s.1) (hsl : s.1.length ≤ 999) (fs : List (Option Vl)) (hfs : fs = ts.map (evalT s.1)) (o : Option Sta) (hnone : allO fs = none → o = none) (h2 : n = 1) (hsome : ∀ x, allO fs = some [x] → o = if (lookE s.1 nm).isSome then none else some (s.1 ++ [(nm, x)], s.2)) :
    Calls Try.prog 44 #[.map (some bm), .agg #[.int .i64 4, .string nm, .slice A n c], .agg #[.slice Ae s.1.length ce, .int .i64 s.2]] w (GoesPost w S1 o) := by
  have Hnone := Lib.hid hnone
  have Hsome := Lib.hid hsome
  have H2 := Lib.hid h2
  clear hnone hsome h2
  obtain ⟨w1, hw1⟩ : ∃ w1, w1 = (((w.alloc (.cells #[.int .i64 4, .string nm, .slice A n c] 40)).alloc (.cells #[.slice Ae s.1.length ce, .int .i64 s.2] 75)).alloc (.cells #[.slice none 0 0, .int .i64 0] 75)).alloc (.cells #[.bool false] 4) := ⟨_, rfl⟩
  obtain ⟨hN1, b4, b5, b6, b7, hz1⟩ := boxes4 _ _ _ _ _ _ _ _ _ w1 hw1
  have hev : ∀ (k : Nat) (t : Tm) (cs : List Value) (W : World), css[k]? = some cs → ts[k]? = some t → New w1 W → Calls Try.prog 45 #[.agg cs.toArray, .slice Ae s.1.length ce] W fun e W' => e = .returned (optV (evalT s.1 t)) ∧ New W W' := by
    intro k t cs W hcs ht hW
    obtain ⟨A', c', he, _, _, hse, _⟩ := hst
    obtain ⟨rfl, rfl⟩ : Ae = A' ∧ ce = c' := by
      injection he with he
      injection he with he
      injection he with h1 h2
      injection h1 with h1 _ h3
      exact ⟨h1, h3⟩
    have hww := (hN1.trans hW (fun _ _ x => x))
    exact bEval Ae s.1.length ce s.1 rfl (by omega) hok t (hokt t (List.mem_of_getElem? ht)) W cs (hse.chg hww (fun _ _ => id)) ((hts.at_ k cs t hcs ht).chg ((hw0.trans hww (fun _ _ x => x))))
  have hone : ∀ (k : Nat) (t : Tm) (cs : List Value), css[k]? = some cs → ts[k]? = some t → ∀ u ∈ cs, u.oneCell' = true := fun k t cs h1 h2 => (hts.at_ k cs t h1 h2).one
  have hsrc := hts.src.chg (hw0.trans hN1 (fun _ _ x => x)) (fun _ _ => id)
  have hlen := hts.len
  have hseven : ∀ (k : Nat) (t : Tm) (cs : List Value), css[k]? = some cs → ts[k]? = some t → ∃ t0 t1 t2 t3 t4 t5 t6, cs = [t0, t1, t2, t3, t4, t5, t6] := fun k t cs h1 h2 => (hts.at_ k cs t h1 h2).seven
  have HEv := Lib.hid hev
  have HOne := Lib.hid hone
  have HSeven := Lib.hid hseven
  have HSrc := Lib.hid hsrc
  have HLen := Lib.hid hlen
  have HW := Lib.hid hw1
  have HN1 := Lib.hid hN1
  have B4 := Lib.hid b4
  have B5 := Lib.hid b5
  have B6 := Lib.hid b6
  have B7 := Lib.hid b7
  have HZ := Lib.hid hz1
  have HSt := Lib.hid hst
  have HN := Lib.hid hn
  have Hfs := Lib.hid hfs
  clear hev hone hseven hsrc hlen hw1 hN1 b4 b5 b6 b7 hz1 hst hts hokt hok hw0 hn hfs
  go_enter Try.func44, Try.ntmps44
  go_upto_region 3 with fail
  rw [← HW.out]
  have e2 := (B4.out).cell 2
  simp only [List.getElem?_toArray, List.getElem?_cons_zero, List.getElem?_cons_succ] at e2
  go_wp2_with fail
  clear HW e2
  go_loopw [8, 21] (fun u8 u21 wr => ∃ (k : Nat) (us : List Vl), k ≤ n ∧ u21 = .int .i64 k ∧ allO (fs.take k) = some us ∧ us.length = k ∧ Own wr w1.heap.size 46 4 u8 (us.map vcs) ∧ New w1 wr) (fun _ u _ => n - (intOf u).toNat)
  case atStart => exact ⟨0, [], Nat.zero_le _, rfl, rfl, rfl, Own.nil _ _ _ _, Chg.refl _ _⟩
  case round =>
    obtain ⟨k, us, hk, rfl, ha, hl, hov, hNr⟩ := hrel
    obtain ⟨Ao, co, rfl, hc1, hc2⟩ := hov.form
    rw [List.length_map] at hov ⊢
    have Ha := Lib.hid ha
    have HOv := Lib.hid hov
    have HNw := Lib.hid hNr
    have Hl := Lib.hid hl
    clear ha hov hNr hl hc1 hc2
    by_cases hlt : k < n
    · obtain ⟨t, ht⟩ : ∃ t, ts[k]? = some t := ⟨_, List.getElem?_eq_getElem (by rw [← HN.out]; exact hlt)⟩
      obtain ⟨cs, hcs⟩ : ∃ cs, css[k]? = some cs := ⟨_, List.getElem?_eq_getElem (by rw [HLen.out, ← HN.out]; exact hlt)⟩
      obtain ⟨ad, rfl, hrw⟩ := HSrc.out (by rw [HLen.out, ← HN.out]; omega)
      have hat := (hrw k cs hcs).2.chg HNw.out id
      have h1c := HOne.out k t cs hcs ht
      have hek := fun W h => HEv.out k t cs W hcs ht h
      obtain ⟨o1, ho1⟩ : ∃ o1, evalT s.1 t = o1 := ⟨_, rfl⟩
      have hfk : fs[k]? = some o1 := by rw [Hfs.out, List.getElem?_map, ht, ← ho1]; rfl
      rw [ho1] at hek
      obtain ⟨t0, t1, t2, t3, t4, t5, t6, rfl⟩ := HSeven.out k t cs hcs ht
      have Hat := Lib.hid hat
      have H1c := Lib.hid h1c
      have Hek := Lib.hid hek
      have Hfk := Lib.hid hfk
      clear hat h1c hek hfk hrw hcs ht ho1
      have e5 := (B5.out.chg HNw.out id).cell 0
      simp only [List.getElem?_toArray, List.getElem?_cons_zero] at e5
      cases o1 with
      | none =>
        unfold optV at Hek
        dsimp only [Option.getD, Option.isSome, vval, zV] at Hek
        go_wp2_with first
          | ((with_reducible refine wpl_load rfl (.tmp 23) 48 rfl stTerm (ad.add (k * 7)) _ ?_ rfl Hat.out ?_); exact rfl)
          | ((with_reducible refine wpl_box rfl rfl 10 (.tmp 24) 48 rfl rfl rfl rfl stTerm elTerm.zero [t0, t1, t2, t3, t4, t5, t6] ?_ ?_ rfl H1c.out ?_); exact (by decide : 10 < 104); exact rfl; intro w2 hc2 hb2 hs2; have e6 := hc2.cellS e5 id; have Hc2 := Lib.hid hc2; have Hb2 := Lib.hid (Blk.at_ (cs := [t0, t1, t2, t3, t4, t5, t6]) hb2); clear hc2 hb2 hs2)
          | ((with_reducible refine wpl_load rfl (.tmp 10) 48 rfl stTerm ⟨wr.heap.size, 0, none⟩ _ ?_ rfl Hb2.out ?_); exact rfl)
          | (go_at_call 45; refine (Hek.out _ (HNw.out.trans Hc2.out (fun _ _ x => x))).mono ?_; rintro e w3 ⟨rfl, hc3⟩; have HN3 := Lib.hid ((HNw.out.trans Hc2.out (fun _ _ x => x)).trans hc3 (fun _ _ x => x)); clear hc3 e5 e6)
          | ((with_reducible refine wpl_box rfl rfl 11 (.tmp 30) 46 rfl rfl rfl rfl stVal4 elValue.zero (vcs zV) ?_ ?_ (vcl_len _) (vcl_one _) ?_); exact (by decide : 11 < 104); exact rfl; intro w4 hc4 hb4 hs4; have HN4 := Lib.hid (HN3.out.trans hc4 (fun _ _ x => x)); clear hc4 hb4 hs4)
          | ((with_reducible refine wpl_load rfl (.tmp 5) 75 rfl stSta ⟨w.heap.size + 1, 0, none⟩ [.slice Ae s.1.length ce, .int .i64 s.2] ?_ rfl (B5.out.chg HN4.out id).at_ ?_); exact rfl)
          | ((with_reducible refine wpl_set rfl (.tmp 6) (.tmp 34) 75 rfl rfl stSta (w.heap.size + 1 + 1) 75 _ [.slice Ae s.1.length ce, .int .i64 s.2] ?_ ?_ (B6.out.chg HN4.out id) rfl rfl (sta_one _ _ _ _) ?_); exact rfl; exact rfl; intro w5 hc5 hb5 hs5; have h75 := (B7.out.chg HN4.out id).chg hc5 (by omega); have HN5 := Lib.hid ((HN1.out.trans HN4.out (fun _ _ x => x)).put hc5 (by omega)); have HC5 := Lib.hid hc5; have HB5 := Lib.hid hb5; have H75 := Lib.hid h75; have c7 := h75.cell 0; have f7 := h75.frozen 0; simp only [List.getElem?_toArray, List.getElem?_cons_zero] at c7; clear hc5 hb5 hs5 h75)
        refine bodyPost_ret (res_cells stSta rfl Try.underlying4 _ _ ⟨w.heap.size + 1 + 1, 0, none⟩ ⟨w.heap.size + 1 + 1 + 1, 0, none⟩ [.slice Ae s.1.length ce, .int .i64 s.2] false rfl (Blk.at_ (HB5.out.far (by simp) _)) rfl rfl (by have := H75.out.setCell 0 (.bool false); exact (this.cell 0).trans rfl)) rfl ?_
        exact ⟨HN5.out.setCell _ _ (fun h => absurd h (by simp; omega)), .inl ⟨Hnone.out (allO_none Hfk.out), _, _, rfl, rfl, rfl⟩⟩
      | some x =>
        unfold optV at Hek
        dsimp only [Option.getD, Option.isSome, vval] at Hek
        go_upto_region 9 with first
          | ((with_reducible refine wpl_load rfl (.tmp 23) 48 rfl stTerm (ad.add (k * 7)) _ ?_ rfl Hat.out ?_); exact rfl)
          | ((with_reducible refine wpl_box rfl rfl 10 (.tmp 24) 48 rfl rfl rfl rfl stTerm elTerm.zero [t0, t1, t2, t3, t4, t5, t6] ?_ ?_ rfl H1c.out ?_); exact (by decide : 10 < 104); exact rfl; intro w2 hc2 hb2 hs2; have e6 := hc2.cellS e5 id; have Hc2 := Lib.hid hc2; have Hb2 := Lib.hid (Blk.at_ (cs := [t0, t1, t2, t3, t4, t5, t6]) hb2); clear hc2 hb2 hs2)
          | ((with_reducible refine wpl_load rfl (.tmp 10) 48 rfl stTerm ⟨wr.heap.size, 0, none⟩ _ ?_ rfl Hb2.out ?_); exact rfl)
          | (go_at_call 45; refine (Hek.out _ (HNw.out.trans Hc2.out (fun _ _ x => x))).mono ?_; rintro e w3 ⟨rfl, hc3⟩; have HN3 := Lib.hid (Hc2.out.trans hc3 (fun _ _ x => x)); clear hc3 e5 e6)
          | ((with_reducible refine wpl_box rfl rfl 11 (.tmp 30) 46 rfl rfl rfl rfl stVal4 elValue.zero (vcs x) ?_ ?_ (vcl_len _) (vcl_one _) ?_); exact (by decide : 11 < 104); exact rfl; intro w4 hc4 hb4 hs4; have HN4 := Lib.hid (HN3.out.trans hc4 (fun _ _ x => x)); have Hb4 := Lib.hid (show At w4 ⟨w3.heap.size, 0, none⟩ [.int .i64 x.k, .int .i64 x.i, .string x.t, .slice none 0 0] from Blk.at_ (cs := vcs x) hb4); clear hc4 hb4 hs4)
        have HOv4 := Lib.hid (HOv.out.chg HN4.out (fun _ _ x => x))
        have HW4 := Lib.hid (HNw.out.trans HN4.out (fun _ _ x => x))
        have hul : us.length ≤ 1000 := by have := Hl.out; have := HN.out; omega
        have HA4 := Lib.hid (allO_take Ha.out Hfk.out)
        obtain ⟨w5, hw5⟩ : ∃ w5, w5 = w4.alloc (.cells #[.int .i64 x.k, .int .i64 x.i, .string x.t, .slice none 0 0] 46) := ⟨_, rfl⟩
        have hn5 : New w4 w5 := by rw [hw5]; exact (Chg.refl _ _).alloc _
        have hb5 : Blk w5 w4.heap.size 46 #[.int .i64 x.k, .int .i64 x.i, .string x.t, .slice none 0 0] := by rw [hw5]; exact Blk.new _ _ _
        have hrun := elValue.appendS (HOv4.out.chg hn5 (fun _ _ x => x)) (Nat.le_trans HW4.out.size hn5.size) (some ⟨w4.heap.size, 0, none⟩) 1 1 [vcs x] rfl (fun cs hc => by rw [List.mem_singleton.1 hc]; rfl) (fun cs hc => by rw [List.mem_singleton.1 hc]; exact vcl_one x) (src_one (Blk.vcs hb5) (vcl_len x)) (by rw [List.length_map]; omega) (by rw [List.length_map]; unfold maxLen; omega) 28
        rw [hw5] at hrun
        obtain ⟨v6, w6, hrun, hown6, hc6, -⟩ := hrun
        have Hrun := Lib.hid hrun
        have Hown6 := Lib.hid hown6
        have HC6 := Lib.hid ((hn5.mono (T' := fun k => (Value.slice Ao us.length co).ownBlock = some k) (fun _ _ x => x.elim)).trans (hw5 ▸ hc6) (fun _ _ x => x))
        clear hrun hb5 hn5 hw5 hown6 hc6
        clear HOv HN3 HNw Hc2 Hat H1c Ha Hek
        go_wp2_with first
          | ((with_reducible refine wpl_load rfl (.tmp 11) 46 rfl stVal4 ⟨w3.heap.size, 0, none⟩ [.int .i64 x.k, .int .i64 x.i, .string x.t, .slice none 0 0] ?_ rfl Hb4.out ?_); exact rfl)
          | ((with_reducible refine wpl_append rfl (.tmp 35) (.tmp 37) 28 28 rfl ?_ ?_ Hrun.out ?_); exact rfl; exact rfl)
        go_roundw
        case rel =>
          refine ⟨k + 1, us ++ [x], by omega, by go_num, HA4.out, by rw [List.length_append, Hl.out]; rfl, by rw [List.map_append]; exact Hown6.out, HW4.out.trans HC6.out (fun k hk h => ?_)⟩
          have := (HOv4.out.lt h).1
          omega
        case measure => simp [intOf]; omega
    · have hfull : allO fs = some us := by
        have h := Ha.out
        rwa [List.take_of_length_le (by rw [Hfs.out, List.length_map, ← HN.out]; omega)] at h
      obtain ⟨x, rfl⟩ : ∃ x, us = [x] := by
        have := Hl.out
        have := H2.out
        match us, (show us.length = 1 by omega) with
        | [x], _ => exact ⟨x, rfl⟩
      obtain ⟨o2, ho2⟩ : ∃ o2, lookE s.1 nm = o2 := ⟨_, rfl⟩
      have hso := Hsome.out x hfull
      rw [ho2] at hso
      have hlk : ∀ W, New w1 W → Calls Try.prog 52 #[.slice Ae s.1.length ce, .string nm] W fun e W' => e = .returned (optV o2) ∧ New W W' := fun W hW => by
        rw [← ho2]
        obtain ⟨A', c', he, _, _, hse, _⟩ := HSt.out
        obtain ⟨rfl, rfl⟩ : Ae = A' ∧ ce = c' := by
          injection he with he
          injection he with he
          injection he with h1 h2
          injection h1 with h1 _ h3
          exact ⟨h1, h3⟩
        exact bLookup Ae s.1.length ce s.1 rfl (by omega) nm W (hse.chg (HN1.out.trans hW (fun _ _ x => x)) (fun _ _ => id))
      have HLk := Lib.hid hlk
      have HSo := Lib.hid hso
      have e0 := (B4.out.chg HNw.out id).cell 0
      have e1 := (B4.out.chg HNw.out id).cell 1
      have e5 := (B5.out.chg HNw.out id).cell 0
      simp only [List.getElem?_toArray, List.getElem?_cons_zero, List.getElem?_cons_succ] at e0 e1 e5
      obtain ⟨B, hB, hr⟩ := (HOv.out.rows rfl).2 (by simp)
      subst hB
      have hHR := Lib.hid hr
      clear hfull Ha HOv Hsome Hnone HEv HOne HSeven HSrc HLen hso hr hlk ho2
      rw [show ([x] : List Vl).length = 1 from rfl]
      cases o2 with
      | some y =>
        have hLk := HLk.out wr HNw.out
        unfold optV at hLk
        dsimp only [Option.getD, Option.isSome, vval] at hLk
        have HLk1 := Lib.hid hLk
        clear hLk
        go_wp2_with first
          | (go_at_call 52; refine HLk1.out.mono ?_; rintro e w3 ⟨rfl, hc3⟩; have HN3 := Lib.hid (HNw.out.trans hc3 (fun _ _ x => x)); clear hc3)
          | ((with_reducible refine wpl_box rfl rfl 13 (.tmp 85) 46 rfl rfl rfl rfl stVal4 elValue.zero (vcs y) ?_ ?_ (vcl_len _) (vcl_one _) ?_); exact (by decide : 13 < 104); exact rfl; intro w4 hc4 hb4 hs4; have HN4 := Lib.hid (HN3.out.trans hc4 (fun _ _ x => x)); clear hc4 hb4 hs4)
          | ((with_reducible refine wpl_load rfl (.tmp 5) 75 rfl stSta ⟨w.heap.size + 1, 0, none⟩ [.slice Ae s.1.length ce, .int .i64 s.2] ?_ rfl (B5.out.chg HN4.out id).at_ ?_); exact rfl)
          | ((with_reducible refine wpl_set rfl (.tmp 6) (.tmp 88) 75 rfl rfl stSta (w.heap.size + 1 + 1) 75 _ [.slice Ae s.1.length ce, .int .i64 s.2] ?_ ?_ (B6.out.chg HN4.out id) rfl rfl (sta_one _ _ _ _) ?_); exact rfl; exact rfl; intro w5 hc5 hb5 hs5; have h75 := (B7.out.chg HN4.out id).chg hc5 (by omega); have HN5 := Lib.hid ((HN1.out.trans HN4.out (fun _ _ x => x)).put hc5 (by omega)); have HC5 := Lib.hid hc5; have HB5 := Lib.hid hb5; have H75 := Lib.hid h75; have c7 := h75.cell 0; have f7 := h75.frozen 0; simp only [List.getElem?_toArray, List.getElem?_cons_zero] at c7; clear hc5 hb5 hs5 h75)
        refine bodyPost_ret (res_cells stSta rfl Try.underlying4 _ _ ⟨w.heap.size + 1 + 1, 0, none⟩ ⟨w.heap.size + 1 + 1 + 1, 0, none⟩ [.slice Ae s.1.length ce, .int .i64 s.2] false rfl (Blk.at_ (HB5.out.far (by simp) _)) rfl rfl (by have := H75.out.setCell 0 (.bool false); exact (this.cell 0).trans rfl)) rfl ?_
        exact ⟨HN5.out.setCell _ _ (fun h => absurd h (by simp; omega)), .inl ⟨HSo.out, _, _, rfl, rfl, rfl⟩⟩
      | none =>
        have hLk := HLk.out wr HNw.out
        unfold optV at hLk
        dsimp only [Option.getD, Option.isSome, vval, zV] at hLk
        have HLk1 := Lib.hid hLk
        clear hLk
        go_upto_region 21 with first
          | (go_at_call 52; refine HLk1.out.mono ?_; rintro e w3 ⟨rfl, hc3⟩; have HN3 := Lib.hid hc3; clear hc3)
          | ((with_reducible refine wpl_box rfl rfl 13 (.tmp 85) 46 rfl rfl rfl rfl stVal4 elValue.zero (vcs zV) ?_ ?_ (vcl_len _) (vcl_one _) ?_); exact (by decide : 13 < 104); exact rfl; intro w4 hc4 hb4 hs4; have HN4 := Lib.hid (HN3.out.trans hc4 (fun _ _ x => x)); clear hc4 hb4 hs4)
        refine wp_region_at (by kernel_rfl) ?_
        have hnw : New wr w4.drew := HN4.out.drew
        have hnd : New w1 w4.drew := HNw.out.trans hnw (fun _ _ x => x)
        have D4 := Lib.hid (B4.out.chg hnd id)
        have D5 := Lib.hid (B5.out.chg hnd id)
        have D6 := Lib.hid (B6.out.chg hnd id)
        have D7 := Lib.hid (B7.out.chg hnd id)
        have DR := Lib.hid (hHR.out.chg hnw id)
        have DN := Lib.hid (HN1.out.trans hnd (fun _ _ x => x))
        have Dz := Lib.hid hnd.size
        clear hnd hnw e0 e1 e5 HNw hHR HN3 HN4
        generalize w4.drew = wd at D4 D5 D6 D7 DR DN Dz ⊢
        have hx := (DR.out 0 _ rfl).2
        have Hx := Lib.hid hx
        obtain ⟨A', c', hee, hle, hcm, hse, _⟩ := HSt.out
        obtain ⟨rfl, rfl⟩ : Ae = A' ∧ ce = c' := by
          injection hee with he
          injection he with he
          injection he with h1 h2
          injection h1 with h1 _ h3
          exact ⟨h1, h3⟩
        have HSe := Lib.hid (hse.chg DN.out (fun _ _ => id))
        have Hle := Lib.hid hle
        have Hcm := Lib.hid hcm
        clear hx DR hee hle hcm hse
        have eg53 : ∀ (args : Array Value) (w : World), (callFunc 53 args).run Try.prog w = .ok (.enter 53 args) w := enters_of Try.func53 (by kernel_rfl) rfl
        refine AtN.segN2 0 14 [89, 90, 91, 92, 93, 94, 95, 96, 97, 98, 99, 100, 101, 102] (fun
          | 0 => fun v _ => v = .pointer (some ⟨w.heap.size + 1, 0, none⟩)
          | 1 => fun v _ => v = .slice Ae s.1.length ce
          | 2 => fun v _ => v = .slice Ae s.1.length s.1.length
          | 3 => fun v _ => v = .pointer (some ⟨w.heap.size, 1, none⟩)
          | 4 => fun v _ => v = .string nm
          | 5 => fun v _ => v = .slice (some B) 1 co
          | 6 => fun v _ => v = .pointer (some (B.add 0))
          | 7 => fun v _ => v = .agg #[.int .i64 x.k, .int .i64 x.i, .string x.t, .slice none 0 0]
          | 8 => fun v _ => v = .agg #[.string nm, .int .i64 x.k, .int .i64 x.i, .string x.t, .slice none 0 0]
          | 9 => fun v W => ∃ rb, v = .slice (some ⟨rb, 0, none⟩) 1 1 ∧ Blk W rb 101 #[.string nm, .int .i64 x.k, .int .i64 x.i, .string x.t, .slice none 0 0]
          | 10 => fun v W => ∃ Av cv, v = .slice Av (s.1.length + 1) cv ∧ s.1.length + 1 ≤ cv ∧ cv ≤ maxLen ∧ SrcAt W Av 5 ((s.1 ++ [(nm, x)]).map bcs) ∧ ∀ a, Av = some a → a.block < W.heap.size ∧ wd.heap.size ≤ a.block
          | 11 => fun v _ => v = .pointer (some ⟨w.heap.size + 1, 1, none⟩)
          | 12 => fun v _ => v = .int .i64 s.2
          | 13 => fun v W => ∃ Av cv, v = .agg #[.slice Av (s.1.length + 1) cv, .int .i64 s.2] ∧ s.1.length + 1 ≤ cv ∧ cv ≤ maxLen ∧ SrcAt W Av 5 ((s.1 ++ [(nm, x)]).map bcs) ∧ ∀ a, Av = some a → a.block < W.heap.size ∧ wd.heap.size ≤ a.block
          | _ => fun _ _ => True) (by kernel_rfl) (by kernel_rfl) (by kernel_rfl) (by kernel_rfl) (fun j v w1 w2 hc h => ?_) (fun i hn hi o ho A0 W hN hin hk => ?_) (fun l W5 hN hl hΦ => ?_)
        · match j with
          | 9 => exact h.imp fun b h => ⟨h.1, h.2.chg hc id⟩
          | 10 => exact h.imp fun Av h => h.imp fun cv h => ⟨h.1, h.2.1, h.2.2.1, h.2.2.2.1.chg hc (fun _ _ => id), fun a ha => ⟨Nat.lt_of_lt_of_le (h.2.2.2.2 a ha).1 hc.size, (h.2.2.2.2 a ha).2⟩⟩
          | 13 => exact h.imp fun Av h => h.imp fun cv h => ⟨h.1, h.2.1, h.2.2.1, h.2.2.2.1.chg hc (fun _ _ => id), fun a ha => ⟨Nat.lt_of_lt_of_le (h.2.2.2.2 a ha).1 hc.size, (h.2.2.2.2 a ha).2⟩⟩
          | 0 | 1 | 2 | 3 | 4 | 5 | 6 | 7 | 8 | 11 | 12 => exact h
          | _ + 14 => trivial
        · rcases (show i = 0 ∨ i = 1 ∨ i = 2 ∨ i = 3 ∨ i = 4 ∨ i = 5 ∨ i = 6 ∨ i = 7 ∨ i = 8 ∨ i = 9 ∨ i = 10 ∨ i = 11 ∨ i = 12 ∨ i = 13 by omega) with rfl | rfl | rfl | rfl | rfl | rfl | rfl | rfl | rfl | rfl | rfl | rfl | rfl | rfl
          · cases ho
            have h5 : A0.tmps[5]?.getD undef = .pointer (some ⟨w.heap.size + 1, 0, none⟩) := hk 5 (by kernel_rfl)
            exact .same (by simp [go_sem, h5]) rfl
          · cases ho
            have h89 : A0.tmps[89]?.getD undef = .pointer (some ⟨w.heap.size + 1, 0, none⟩) := hin 0 89 (by kernel_rfl)
            have hcx : W.cell? ⟨w.heap.size + 1, 0, none⟩ = some (.slice Ae s.1.length ce) := (D5.out.chg hN id).cell 0
            exact .same (v := .slice Ae s.1.length ce) (by simp [go_sem, h89, hcx]) rfl
          · cases ho
            have h90 : A0.tmps[90]?.getD undef = .slice Ae s.1.length ce := hin 1 90 (by kernel_rfl)
            refine .call (f := 53) (args := #[.slice Ae s.1.length ce]) (W' := W) ?_ ((clip_env W Ae s.1.length ce Hle.out Hcm.out).mono ?_)
            · simp [go_sem, h90, eg53]
            · rintro e w' ⟨rfl, rfl⟩
              exact ⟨_, rfl, Chg.refl _ _, rfl⟩
          · cases ho
            have h4 : A0.tmps[4]?.getD undef = .pointer (some ⟨w.heap.size, 0, none⟩) := hk 4 (by kernel_rfl)
            exact .same (by simp [go_sem, h4]) rfl
          · cases ho
            have h92 : A0.tmps[92]?.getD undef = .pointer (some ⟨w.heap.size, 1, none⟩) := hin 3 92 (by kernel_rfl)
            have hcx : W.cell? ⟨w.heap.size, 1, none⟩ = some (.string nm) := (D4.out.chg hN id).cell 1
            exact .same (v := .string nm) (by simp [go_sem, h92, hcx]) rfl
          · cases ho
            exact .same (exec_move 8 _ rfl (hk 8 (by kernel_rfl))) rfl
          · cases ho
            have h94 : A0.tmps[94]?.getD undef = .slice (some B) 1 co := hin 5 94 (by kernel_rfl)
            exact .same (by simp [go_sem, h94]) rfl
          · cases ho
            have h95 : A0.tmps[95]?.getD undef = .pointer (some (B.add 0)) := hin 6 95 (by kernel_rfl)
            exact .same (exec_load 95 _ rfl stVal4 (B.add (0 * 4)) (vcs x) h95 (vcl_len x) (Hx.out.chg hN id)) rfl
          · cases ho
            have h93 : A0.tmps[93]?.getD undef = .string nm := hin 4 93 (by kernel_rfl)
            have h96 : A0.tmps[96]?.getD undef = .agg #[.int .i64 x.k, .int .i64 x.i, .string x.t, .slice none 0 0] := hin 7 96 (by kernel_rfl)
            exact .same (by simp [go_sem, h93, h96]) rfl
          · cases ho
            have h97 : A0.tmps[97]?.getD undef = .agg #[.string nm, .int .i64 x.k, .int .i64 x.i, .string x.t, .slice none 0 0] := hin 8 97 (by kernel_rfl)
            exact .value (W' := W.alloc (.cells #[.string nm, .int .i64 x.k, .int .i64 x.i, .string x.t, .slice none 0 0] 101)) (by simp [go_sem, h97]) ⟨(Chg.refl _ _).alloc _, _, rfl, Blk.new _ _ _⟩
          · cases ho
            have h91 : A0.tmps[91]?.getD undef = .slice Ae s.1.length s.1.length := hin 2 91 (by kernel_rfl)
            have h98 := hin 9 98 (by kernel_rfl)
            obtain ⟨rb, e98, hb⟩ := h98
            obtain ⟨v1, W', hrun, hnew, hown⟩ := append_clip W Ae s.1.length s.1 rfl (HSe.out.chg hN (fun _ _ => id)) rb (nm, x) hb hsl
            obtain ⟨Av, cv, hv, hv1, hv2⟩ := hown.form
            rw [List.length_map, List.length_append] at hv hv1
            refine .value (exec_append _ _ _ _ rfl (by simpa [Act.eval] using h91) (by simpa [Act.eval] using e98) hrun) ⟨hnew, Av, cv, hv, hv1, hv2, (hown.rows hv).2, fun a ha => ?_⟩
            have := hown.lt (g := a.block) (by rw [hv, ha]; rfl)
            exact ⟨this.2, Nat.le_trans hN.size this.1⟩
          · cases ho
            have h5 : A0.tmps[5]?.getD undef = .pointer (some ⟨w.heap.size + 1, 0, none⟩) := hk 5 (by kernel_rfl)
            exact .same (by simp [go_sem, h5]) rfl
          · cases ho
            have h100 : A0.tmps[100]?.getD undef = .pointer (some ⟨w.heap.size + 1, 1, none⟩) := hin 11 100 (by kernel_rfl)
            have hcx : W.cell? ⟨w.heap.size + 1, 1, none⟩ = some (.int .i64 s.2) := (D5.out.chg hN id).cell 1
            exact .same (v := .int .i64 s.2) (by simp [go_sem, h100, hcx]) rfl
          · cases ho
            have h99 := hin 10 99 (by kernel_rfl)
            have h101 : A0.tmps[101]?.getD undef = .int .i64 s.2 := hin 12 101 (by kernel_rfl)
            obtain ⟨Av, cv, e99, hr⟩ := h99
            exact .same (v := .agg #[.slice Av (s.1.length + 1) cv, .int .i64 s.2]) (by simp [go_sem, e99, h101]) ⟨Av, cv, rfl, hr⟩
        obtain ⟨x89, x90, x91, x92, x93, x94, x95, x96, x97, x98, x99, x100, x101, x102, rfl⟩ : ∃ x89 x90 x91 x92 x93 x94 x95 x96 x97 x98 x99 x100 x101 x102, l = [x89, x90, x91, x92, x93, x94, x95, x96, x97, x98, x99, x100, x101, x102] := by
          match l, hl with
          | [x89, x90, x91, x92, x93, x94, x95, x96, x97, x98, x99, x100, x101, x102], _ => exact ⟨_, _, _, _, _, _, _, _, _, _, _, _, _, _, rfl⟩
        obtain rfl : x89 = .pointer (some ⟨w.heap.size + 1, 0, none⟩) := hΦ 0 (by decide)
        obtain rfl : x90 = .slice Ae s.1.length ce := hΦ 1 (by decide)
        obtain rfl : x91 = .slice Ae s.1.length s.1.length := hΦ 2 (by decide)
        obtain rfl : x92 = .pointer (some ⟨w.heap.size, 1, none⟩) := hΦ 3 (by decide)
        obtain rfl : x93 = .string nm := hΦ 4 (by decide)
        obtain rfl : x94 = .slice (some B) 1 co := hΦ 5 (by decide)
        obtain rfl : x95 = .pointer (some (B.add 0)) := hΦ 6 (by decide)
        obtain rfl : x96 = .agg #[.int .i64 x.k, .int .i64 x.i, .string x.t, .slice none 0 0] := hΦ 7 (by decide)
        obtain rfl : x97 = .agg #[.string nm, .int .i64 x.k, .int .i64 x.i, .string x.t, .slice none 0 0] := hΦ 8 (by decide)
        have hx98 := hΦ 9 (by decide)
        have hx99 := hΦ 10 (by decide)
        obtain rfl : x100 = .pointer (some ⟨w.heap.size + 1, 1, none⟩) := hΦ 11 (by decide)
        obtain rfl : x101 = .int .i64 s.2 := hΦ 12 (by decide)
        have hx102 := hΦ 13 (by decide)
        simp only [putsL, List.zip_cons_cons, List.zip_nil_left, List.zip_nil_right, List.zip, List.zipWith, Act.put, List.setIfInBounds_toArray, List.set_cons_succ, List.set_cons_zero]
        clear hΦ hl
        have F6 := Lib.hid (D6.out.chg hN id)
        have F7 := Lib.hid (D7.out.chg hN id)
        have FN := Lib.hid (DN.out.trans hN (fun _ _ x => x))
        obtain ⟨Av, cv, rfl, hv1, hv2, hv3, hv4⟩ := hx102
        obtain ⟨Aw, cw, rfl, _⟩ := hx99
        obtain ⟨rb, rfl, _⟩ := hx98
        have HV3 := Lib.hid hv3
        have HV4 := Lib.hid hv4
        have HDz := Dz
        clear D4 D5 D6 D7 DN hN hv3 hv4 HSe
        refine AtN.list 14 16 (by kernel_rfl) ?_
        change wpList _ _ _ [_, _] _ _
        go_wp2_with ((with_reducible refine wpl_set rfl (.tmp 6) (.tmp 102) 75 rfl rfl stSta (w.heap.size + 1 + 1) 75 _ [.slice Av (s.1.length + 1) cv, .int .i64 s.2] ?_ ?_ F6.out rfl rfl (sta_one _ _ _ _) ?_); exact rfl; exact rfl; intro w5 hc5 hb5 hs5; have h75 := F7.out.chg hc5 (by omega); have HN5 := Lib.hid (FN.out.put hc5 (by omega)); have HC5 := Lib.hid hc5; have HB5 := Lib.hid hb5; have H75 := Lib.hid h75; have c7 := h75.cell 0; have f7 := h75.frozen 0; simp only [List.getElem?_toArray, List.getElem?_cons_zero] at c7; clear hc5 hb5 hs5 h75)
        change AtN _ _ _ 16 _ _
        refine AtN.done rfl ?_
        go_wp2_with fail
        refine bodyPost_ret (res_cells stSta rfl Try.underlying4 _ _ ⟨w.heap.size + 1 + 1, 0, none⟩ ⟨w.heap.size + 1 + 1 + 1, 0, none⟩ [.slice Av (s.1.length + 1) cv, .int .i64 s.2] true rfl (Blk.at_ (HB5.out.far (by simp) _)) rfl rfl (by have := H75.out.setCell 0 (.bool true); exact (this.cell 0).trans rfl)) rfl ?_
        refine ⟨HN5.out.setCell _ _ (fun h => absurd h (by simp; omega)), .inr ⟨(s.1 ++ [(nm, x)], s.2), _, by rw [HSo.out]; rfl, rfl, Av, cv, by rw [List.length_append]; rfl, by rw [List.length_append]; exact hv1, hv2, ?_, fun a ha => ?_⟩⟩
        · exact HV3.out.chg (((Chg.refl W5 (fun k => w.heap.size + 1 + 1 ≤ k ∧ k < wd.heap.size)).trans HC5.out (fun k hk h => by subst h; exact ⟨Nat.le_refl _, by have := HDz.out; have := HZ.out; omega⟩)).setCell _ _ (fun _ => ⟨by simp, by have := HDz.out; have := HZ.out; simp; omega⟩)) (fun a ha h => by have := (HV4.out a ha).2; omega)
        · obtain ⟨k1, k2⟩ := HV4.out a ha
          refine ⟨by rw [World.size_setCell]; have := HC5.out.size; omega, fun h => ?_⟩
          have := hS1 _ h
          have := HDz.out
          have := HZ.out
          omega
end Go.Proofs.Ytenkobgeflckdab
