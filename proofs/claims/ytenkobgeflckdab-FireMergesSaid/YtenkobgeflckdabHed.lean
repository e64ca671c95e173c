/- fire.head. -/
import Derived.Test.YtenkobgeflckdabG41
set_option linter.unusedVariables false
set_option linter.unusedSimpArgs false
namespace Go.Proofs.Ytenkobgeflckdab
open Go.RowKit Go.Shelf

def headV (h : ByteArray) (ts : List Tm) (s : Sta) : Option Rw := (allO (ts.map (evalT s.1))).map (fun us => ⟨h, us, s.2⟩)
def HeadPost (w : World) (o : Option Rw) (e : Ending) (w' : World) : Prop :=
  New w w' ∧ ((o = none ∧ ∃ a b c, a.oneCell' = true ∧ b.oneCell' = true ∧ c.oneCell' = true ∧ e = .returned (.tuple #[.agg #[a, b, c], .bool false])) ∨
    ∃ r v, o = some r ∧ OwnRow w' w.heap.size [.string r.name, v, .int .i64 r.stamp] r v ∧ e = .returned (.tuple #[.agg #[.string r.name, v, .int .i64 r.stamp], .bool true]))
theorem own_slice {w : World} {b : Nat} {e : TypeId} {k : Nat} {v : Value} {css : List (List Value)} (h : Own w b e k v css) : v.oneCell' = true := by
  obtain ⟨A, c, rfl, _⟩ := h.form
  rfl
theorem three_one {a b c : Value} (ha : a.oneCell' = true) (hb : b.oneCell' = true) (hc : c.oneCell' = true) : ∀ u ∈ [a, b, c], u.oneCell' = true := by
  intro u hu
  simp only [List.mem_cons, List.not_mem_nil, or_false] at hu
  rcases hu with rfl | rfl | rfl
  · exact ha
  · exact hb
  · exact hc

set_option maxHeartbeats 8000000 in
set_option maxRecDepth 100000 in
theorem head_val (w0 w : World) (hw0 : New w0 w) (S1 : Nat → Prop) (h : ByteArray) (r0 r3 r4 r5 : Value) (A : Option Addr) (n c : Nat) (css : List (List Value)) (ts : List Tm) (hn : n = ts.length) (hnm : n ≤ 1000) (hts : TmsAt w0 A css ts) (hokt : ∀ t ∈ ts, okTm t)
    (s : Sta) (Ae : Option Addr) (ce : Nat) (hst : StAt s (.agg #[.slice Ae s.1.length ce, .int .i64 s.2]) S1 w) (hok : okEnv s.1) (hsl : s.1.length ≤ 1000) :
    Calls Try.prog 29 #[.agg #[r0, .string h, .slice A n c, r3, r4, r5], .agg #[.slice Ae s.1.length ce, .int .i64 s.2]] w (HeadPost w (headV h ts s)) := by
  obtain ⟨fs, hfs⟩ : ∃ fs, fs = ts.map (evalT s.1) := ⟨_, rfl⟩
  have hres : headV h ts s = (allO fs).map (fun us => ⟨h, us, s.2⟩) := by rw [hfs]; rfl
  rw [hres]
  obtain ⟨w1, hw1⟩ : ∃ w1, w1 = ((w.alloc (.cells #[r0, .string h, .slice A n c, r3, r4, r5] 37)).alloc (.cells #[.slice Ae s.1.length ce, .int .i64 s.2] 75)).alloc (.cells #[.string ⟨#[]⟩, .slice none 0 0, .int .i64 0] 30) := ⟨_, rfl⟩
  obtain ⟨hN1, b2, b3, b4, hz1⟩ := boxes3 _ _ _ _ _ _ _ w1 hw1
  have hev : ∀ (k : Nat) (t : Tm) (cs : List Value) (W : World), css[k]? = some cs → ts[k]? = some t → New w W → Calls Try.prog 45 #[.agg cs.toArray, .slice Ae s.1.length ce] W fun e W' => e = .returned (optV (evalT s.1 t)) ∧ New W W' := by
    intro k t cs W hcs ht hW
    obtain ⟨A', c', he, _, _, hse, _⟩ := hst
    obtain ⟨rfl, rfl⟩ : Ae = A' ∧ ce = c' := by
      injection he with he
      injection he with he
      injection he with h1 h2
      injection h1 with h1 _ h3
      exact ⟨h1, h3⟩
    exact bEval Ae s.1.length ce s.1 rfl hsl hok t (hokt t (List.mem_of_getElem? ht)) W cs (hse.chg hW (fun _ _ => id)) ((hts.at_ k cs t hcs ht).chg ((hw0.trans hW (fun _ _ x => x))))
  have hone : ∀ (k : Nat) (t : Tm) (cs : List Value), css[k]? = some cs → ts[k]? = some t → ∀ u ∈ cs, u.oneCell' = true := fun k t cs h1 h2 => (hts.at_ k cs t h1 h2).one
  have hsrc := hts.src.chg hw0 (fun _ _ => id)
  have hlen := hts.len
  have hseven : ∀ (k : Nat) (t : Tm) (cs : List Value), css[k]? = some cs → ts[k]? = some t → ∃ t0 t1 t2 t3 t4 t5 t6, cs = [t0, t1, t2, t3, t4, t5, t6] := fun k t cs h1 h2 => (hts.at_ k cs t h1 h2).seven
  have HEv := Lib.hid hev
  have HOne := Lib.hid hone
  have HSeven := Lib.hid hseven
  have HSrc := Lib.hid hsrc
  have HLen := Lib.hid hlen
  have HW := Lib.hid hw1
  have HN1 := Lib.hid hN1
  have B2 := Lib.hid b2
  have B3 := Lib.hid b3
  have B4 := Lib.hid b4
  have HZ := Lib.hid hz1
  have HN := Lib.hid hn
  have Hfs := Lib.hid hfs
  clear hev hone hseven hsrc hlen hw1 hN1 b2 b3 b4 hz1 hst hts hokt hok hw0 hn hfs hres
  go_enter Try.func29, Try.ntmps29
  go_upto_region 1 with fail
  rw [← HW.out]
  have c1 := B2.out.cell 1
  have c2 := B2.out.cell 2
  have c3 := B3.out.cell 1
  simp only [List.getElem?_toArray, List.getElem?_cons_zero, List.getElem?_cons_succ] at c1 c2 c3
  go_wp2_with ((with_reducible refine wpl_set rfl (.tmp 4) (.tmp 14) 30 rfl rfl stRow (w.heap.size + 1 + 1) 30 _ [.string h, .slice none 0 0, .int .i64 s.2] ?_ ?_ B4.out rfl rfl (row_one _ _ _ _ _) ?_); exact rfl; exact rfl; intro w2 hc2 hb2 hs2; have c5 := (B2.out.chg hc2 (by omega)).cell 2; have HC2 := Lib.hid hc2; have HB2 := Lib.hid hb2; simp only [List.getElem?_toArray, List.getElem?_cons_zero, List.getElem?_cons_succ] at c5; clear hc2 hb2 hs2 c1 c2 c3)
  clear HW c5
  go_loopw [18] (fun u18 wr => ∃ (k : Nat) (us : List Vl) (v : Value), k ≤ n ∧ u18 = .int .i64 k ∧ allO (fs.take k) = some us ∧ us.length = k ∧ Blk wr (w.heap.size + 1 + 1) 30 #[.string h, v, .int .i64 s.2] ∧ Own wr w1.heap.size 46 4 v (us.map vcs) ∧ Chg w1 wr (fun k => k = w.heap.size + 1 + 1)) (fun u _ => n - (intOf u).toNat)
  case atStart => exact ⟨0, [], _, Nat.zero_le _, rfl, rfl, rfl, HB2.out, Own.nil _ _ _ _, HC2.out⟩
  case round =>
    obtain ⟨k, us, v, hk, rfl, ha, hl, hbk, hov, hNr⟩ := hrel
    obtain ⟨Ao, co, rfl, hc1, hc2⟩ := hov.form
    rw [List.length_map] at hov hbk
    have Ha := Lib.hid ha
    have HOv := Lib.hid hov
    have HBk := Lib.hid hbk
    have HNw := Lib.hid hNr
    have HNf := Lib.hid (show New w wr from HN1.out.put hNr (by omega))
    have Hl := Lib.hid hl
    clear ha hov hNr hl hc1 hc2 hbk
    by_cases hlt : k < n
    · obtain ⟨t, ht⟩ : ∃ t, ts[k]? = some t := ⟨_, List.getElem?_eq_getElem (by rw [← HN.out]; exact hlt)⟩
      obtain ⟨cs, hcs⟩ : ∃ cs, css[k]? = some cs := ⟨_, List.getElem?_eq_getElem (by rw [HLen.out, ← HN.out]; exact hlt)⟩
      obtain ⟨ad, rfl, hrw⟩ := HSrc.out (by rw [HLen.out, ← HN.out]; omega)
      have hat := (hrw k cs hcs).2.chg HNf.out id
      have h1c := HOne.out k t cs hcs ht
      have hek := fun W h => HEv.out k t cs W hcs ht h
      obtain ⟨o1, ho1⟩ : ∃ o1, evalT s.1 t = o1 := ⟨_, rfl⟩
      have hfk : fs[k]? = some o1 := by rw [Hfs.out, List.getElem?_map, ht, ← ho1]; rfl
      rw [ho1] at hek
      obtain ⟨t0, t1, t2, t3, t4, t5, t6, rfl⟩ := HSeven.out k t cs hcs ht
      have Hat := Lib.hid hat
      have H1c := Lib.hid h1c
      have Hek := Lib.hid hek
      have Hfk := Lib.hid hfk
      clear hat h1c hek hfk hrw hcs ht ho1
      have e5 := (B3.out.chg HNw.out (by omega)).cell 0
      simp only [List.getElem?_toArray, List.getElem?_cons_zero] at e5
      cases o1 with
      | none =>
        unfold optV at Hek
        dsimp only [Option.getD, Option.isSome, vval, zV] at Hek
        go_wp2_with first
          | ((with_reducible refine wpl_load rfl (.tmp 20) 48 rfl stTerm (ad.add (k * 7)) _ ?_ rfl Hat.out ?_); exact rfl)
          | ((with_reducible refine wpl_box rfl rfl 7 (.tmp 21) 48 rfl rfl rfl rfl stTerm elTerm.zero [t0, t1, t2, t3, t4, t5, t6] ?_ ?_ rfl H1c.out ?_); exact (by decide : 7 < 40); exact rfl; intro w2 hc2 hb2 hs2; have e6 := hc2.cellS e5 id; have Hc2 := Lib.hid hc2; have Hb2 := Lib.hid (Blk.at_ (cs := [t0, t1, t2, t3, t4, t5, t6]) hb2); clear hc2 hb2 hs2)
          | ((with_reducible refine wpl_load rfl (.tmp 7) 48 rfl stTerm ⟨wr.heap.size, 0, none⟩ _ ?_ rfl Hb2.out ?_); exact rfl)
          | (go_at_call 45; refine (Hek.out _ (HNf.out.trans Hc2.out (fun _ _ x => x))).mono ?_; rintro e w3 ⟨rfl, hc3⟩; have HN3 := Lib.hid (Hc2.out.trans hc3 (fun _ _ x => x)); clear hc3 e5 e6)
          | ((with_reducible refine wpl_box rfl rfl 8 (.tmp 27) 46 rfl rfl rfl rfl stVal4 elValue.zero (vcs zV) ?_ ?_ (vcl_len _) (vcl_one _) ?_); exact (by decide : 8 < 40); exact rfl; intro w4 hc4 hb4 hs4; have HN4 := Lib.hid (HN3.out.trans hc4 (fun _ _ x => x)); clear hc4 hb4 hs4)
          | ((with_reducible refine wpl_load rfl (.tmp 4) 30 rfl stRow ⟨w.heap.size + 1 + 1, 0, none⟩ [.string h, .slice Ao us.length co, .int .i64 s.2] ?_ rfl (HBk.out.chg HN4.out id).at_ ?_); exact rfl)
          | ((with_reducible refine wpl_set rfl (.tmp 4) (.tmp 31) 30 rfl rfl stRow (w.heap.size + 1 + 1) 30 _ [.string h, .slice Ao us.length co, .int .i64 s.2] ?_ ?_ (HBk.out.chg HN4.out id) rfl rfl (row_one _ _ _ _ _) ?_); exact rfl; exact rfl; intro w5 hc5 hb5 hs5; have HN5 := Lib.hid ((HNf.out.trans HN4.out (fun _ _ x => x)).put hc5 (by omega)); have HB5 := Lib.hid hb5; clear hc5 hb5 hs5)
        refine bodyPost_ret (v := .tuple #[.agg #[.string h, .slice Ao us.length co, .int .i64 s.2], .bool false]) (res_cell2 (p := 4) (q := 5) stRow rfl _ _ ⟨w.heap.size + 1 + 1, 0, none⟩ [.string h, .slice Ao us.length co, .int .i64 s.2] rfl (Blk.at_ HB5.out) rfl) rfl ?_
        exact ⟨HN5.out, .inl ⟨by rw [allO_none Hfk.out]; rfl, _, _, _, rfl, rfl, rfl, rfl⟩⟩
      | some x =>
        unfold optV at Hek
        dsimp only [Option.getD, Option.isSome, vval] at Hek
        go_upto_region 8 with first
          | ((with_reducible refine wpl_load rfl (.tmp 20) 48 rfl stTerm (ad.add (k * 7)) _ ?_ rfl Hat.out ?_); exact rfl)
          | ((with_reducible refine wpl_box rfl rfl 7 (.tmp 21) 48 rfl rfl rfl rfl stTerm elTerm.zero [t0, t1, t2, t3, t4, t5, t6] ?_ ?_ rfl H1c.out ?_); exact (by decide : 7 < 40); exact rfl; intro w2 hc2 hb2 hs2; have e6 := hc2.cellS e5 id; have Hc2 := Lib.hid hc2; have Hb2 := Lib.hid (Blk.at_ (cs := [t0, t1, t2, t3, t4, t5, t6]) hb2); clear hc2 hb2 hs2)
          | ((with_reducible refine wpl_load rfl (.tmp 7) 48 rfl stTerm ⟨wr.heap.size, 0, none⟩ _ ?_ rfl Hb2.out ?_); exact rfl)
          | (go_at_call 45; refine (Hek.out _ (HNf.out.trans Hc2.out (fun _ _ x => x))).mono ?_; rintro e w3 ⟨rfl, hc3⟩; have HN3 := Lib.hid (Hc2.out.trans hc3 (fun _ _ x => x)); clear hc3 e5 e6)
          | ((with_reducible refine wpl_box rfl rfl 8 (.tmp 27) 46 rfl rfl rfl rfl stVal4 elValue.zero (vcs x) ?_ ?_ (vcl_len _) (vcl_one _) ?_); exact (by decide : 8 < 40); exact rfl; intro w4 hc4 hb4 hs4; have HN4 := Lib.hid (HN3.out.trans hc4 (fun _ _ x => x)); have Hb4 := Lib.hid (show At w4 ⟨w3.heap.size, 0, none⟩ [.int .i64 x.k, .int .i64 x.i, .string x.t, .slice none 0 0] from Blk.at_ (cs := vcs x) hb4); clear hc4 hb4 hs4)
        have HOv4 := Lib.hid (HOv.out.chg HN4.out (fun _ _ x => x))
        have HBk4 := Lib.hid (HBk.out.chg HN4.out id)
        have HW4 := Lib.hid (HNw.out.trans HN4.out (fun _ _ x => x.elim))
        have hul : us.length ≤ 1000 := by have := Hl.out; have := HN.out; omega
        have HA4 := Lib.hid (allO_take Ha.out Hfk.out)
        obtain ⟨w5, hw5⟩ : ∃ w5, w5 = w4.alloc (.cells #[.int .i64 x.k, .int .i64 x.i, .string x.t, .slice none 0 0] 46) := ⟨_, rfl⟩
        have hn5 : New w4 w5 := by rw [hw5]; exact (Chg.refl _ _).alloc _
        have hb5 : Blk w5 w4.heap.size 46 #[.int .i64 x.k, .int .i64 x.i, .string x.t, .slice none 0 0] := by rw [hw5]; exact Blk.new _ _ _
        have hrun := elValue.appendS (HOv4.out.chg hn5 (fun _ _ x => x)) (Nat.le_trans HW4.out.size hn5.size) (some ⟨w4.heap.size, 0, none⟩) 1 1 [vcs x] rfl (fun cs hc => by rw [List.mem_singleton.1 hc]; rfl) (fun cs hc => by rw [List.mem_singleton.1 hc]; exact vcl_one x) (src_one (Blk.vcs hb5) (vcl_len x)) (by rw [List.length_map]; omega) (by rw [List.length_map]; unfold maxLen; omega) 28
        rw [hw5] at hrun
        obtain ⟨v6, w6, hrun, hown6, hc6, -⟩ := hrun
        have hown7 : ∀ g, (Value.slice Ao us.length co).ownBlock = some g → w1.heap.size ≤ g := fun g hg => (HOv4.out.lt hg).1
        have hb46 := (hn5.mono (T' := fun k => (Value.slice Ao us.length co).ownBlock = some k) (fun _ _ x => x.elim)).trans (hw5 ▸ hc6) (fun _ _ x => x)
        have hbk6 := HBk4.out.chg hb46 (fun h => by have := hown7 _ h; have := HZ.out; omega)
        obtain ⟨A6, k6, rfl, _, _⟩ := hown6.form
        have Hrun := Lib.hid hrun
        have Hown6 := Lib.hid hown6
        have HC6 := Lib.hid (HW4.out.trans hb46 (fun k hk h => by have := hown7 _ h; omega))
        have HBk6 := Lib.hid hbk6
        have c46 := HBk4.out.cell 1
        have c66 := hbk6.cell 1
        have f66 := hbk6.frozen 1
        simp only [List.getElem?_toArray, List.getElem?_cons_zero, List.getElem?_cons_succ] at c46 c66
        clear hrun hb5 hn5 hw5 hown6 hc6 hb46 hbk6 hown7
        clear HOv HN3 HNw Hc2 Hat H1c Ha Hek
        go_wp2_with first
          | ((with_reducible refine wpl_load rfl (.tmp 8) 46 rfl stVal4 ⟨w3.heap.size, 0, none⟩ [.int .i64 x.k, .int .i64 x.i, .string x.t, .slice none 0 0] ?_ rfl Hb4.out ?_); exact rfl)
          | ((with_reducible refine wpl_append rfl (.tmp 33) (.tmp 35) 28 28 rfl ?_ ?_ Hrun.out ?_); exact rfl; exact rfl)
        go_roundw
        case rel =>
          refine ⟨k + 1, us ++ [x], _, by omega, by go_num, HA4.out, by rw [List.length_append, Hl.out]; rfl, by simpa using HBk6.out.setCell 1 (.slice A6 (us.length + 1) k6), ?_, HC6.out.setCell _ _ (fun _ => rfl)⟩
          have ho := Hown6.out
          simp only [List.length_append, List.length_map, List.length_cons, List.length_nil] at ho
          rw [List.map_append]
          exact ho.chg (T := fun k => k = w.heap.size + 1 + 1) ((Chg.refl _ _).setCell _ _ (fun _ => rfl)) (fun g hg e => by have := (ho.lt hg).1; have := HZ.out; omega)
        case measure => simp [intOf]; omega
    · have hfull : allO fs = some us := by
        have h := Ha.out
        rwa [List.take_of_length_le (by rw [Hfs.out, List.length_map, ← HN.out]; omega)] at h
      have HOf := Lib.hid (HOv.out.base (Nat.le_trans HN1.out.size (Nat.le_refl _)))
      go_wp2_with first
        | ((with_reducible refine wpl_load rfl (.tmp 4) 30 rfl stRow ⟨w.heap.size + 1 + 1, 0, none⟩ [.string h, .slice Ao us.length co, .int .i64 s.2] ?_ rfl HBk.out.at_ ?_); exact rfl)
        | ((with_reducible refine wpl_set rfl (.tmp 4) (.tmp 39) 30 rfl rfl stRow (w.heap.size + 1 + 1) 30 _ [.string h, .slice Ao us.length co, .int .i64 s.2] ?_ ?_ HBk.out rfl rfl (row_one _ _ _ _ _) ?_); exact rfl; exact rfl; intro w5 hc5 hb5 hs5; have HN5 := Lib.hid (HNf.out.put hc5 (by omega)); have HC5 := Lib.hid hc5; have HB5 := Lib.hid hb5; clear hc5 hb5 hs5)
      refine bodyPost_ret (v := .tuple #[.agg #[.string h, .slice Ao us.length co, .int .i64 s.2], .bool true]) (res_cell2 (p := 4) (q := 5) stRow rfl _ _ ⟨w.heap.size + 1 + 1, 0, none⟩ [.string h, .slice Ao us.length co, .int .i64 s.2] rfl (Blk.at_ HB5.out) rfl) rfl ?_
      refine ⟨HN5.out, .inr ⟨⟨h, us, s.2⟩, _, by rw [hfull]; rfl, ⟨rfl, ?_, ?_⟩, rfl⟩⟩
      · have := Hl.out; show us.length ≤ 1000; omega
      · exact HOf.out.chg HC5.out (fun g hg e => by have := (HOv.out.lt hg).1; have := HZ.out; omega)
end Go.Proofs.Ytenkobgeflckdab
