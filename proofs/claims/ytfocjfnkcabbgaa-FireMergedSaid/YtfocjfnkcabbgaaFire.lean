/- fire.head; A map from names is written; rows by their names; fire.Fire: rows by their names; fire.Fire. -/
import Derived.Test.YtfocjfnkcabbgaaG41
import Derived.Test.YtfocjfnkcabbgaaRaws
set_option linter.unusedVariables false
set_option linter.unusedSimpArgs false
namespace Go.Proofs.Ytfocjfnkcabbgaa
open Go.RowKit Go.Shelf

def headV (h : ByteArray) (ts : List Tm) (s : Sta) : Option Rw := (allO (ts.map (evalT s.1))).map (fun us => ⟨h, us, s.2⟩)
def HeadPost (w : World) (o : Option Rw) (e : Ending) (w' : World) : Prop :=
  New w w' ∧ ((o = none ∧ ∃ a b c, a.oneCell' = true ∧ b.oneCell' = true ∧ c.oneCell' = true ∧ e = .returned (.tuple #[.agg #[a, b, c], .bool false])) ∨
    ∃ r v, o = some r ∧ OwnRow w' w.heap.size [.string r.name, v, .int .i64 r.stamp] r v ∧ e = .returned (.tuple #[.agg #[.string r.name, v, .int .i64 r.stamp], .bool true]))
theorem own_slice {w : World} {b : Nat} {e : TypeId} {k : Nat} {v : Value} {css : List (List Value)} (h : Own w b e k v css) : v.oneCell' = true := by
  obtain ⟨A, c, rfl, _⟩ := h.form
  rfl
theorem three_one {a b c : Value} (ha : a.oneCell' = true) (hb : b.oneCell' = true) (hc : c.oneCell' = true) : ∀ u ∈ [a, b, c], u.oneCell' = true := by
  intro u hu
  simp only [List.mem_cons, List.not_mem_nil, or_false] at hu
  rcases hu with rfl | rfl | rfl
  · exact ha
  · exact hb
  · exact hc

set_option maxHeartbeats 8000000 in
set_option maxRecDepth 100000 in
theorem head_val (w0 w : World) (hw0 : New w0 w) (S1 : Nat → Prop) (h : ByteArray) (r0 r3 r4 r5 : Value) (A : Option Addr) (n c : Nat) (css : List (List Value)) (ts : List Tm) (hn : n = ts.length) (hnm : n ≤ 1000) (hts : TmsAt w0 A css ts) (hokt : ∀ t ∈ ts, okTm t)
    (s : Sta) (Ae : Option Addr) (ce : Nat) (hst : StAt s (.agg #[.slice Ae s.1.length ce, .int .i64 s.2]) S1 w) (hok : okEnv s.1) (hsl : s.1.length ≤ 1000) :
    Calls Try.prog 20 #[.agg #[r0, .string h, .slice A n c, r3, r4, r5], .agg #[.slice Ae s.1.length ce, .int .i64 s.2]] w (HeadPost w (headV h ts s)) := by
  obtain ⟨fs, hfs⟩ : ∃ fs, fs = ts.map (evalT s.1) := ⟨_, rfl⟩
  have hres : headV h ts s = (allO fs).map (fun us => ⟨h, us, s.2⟩) := by rw [hfs]; rfl
  rw [hres]
  obtain ⟨w1, hw1⟩ : ∃ w1, w1 = ((w.alloc (.cells #[r0, .string h, .slice A n c, r3, r4, r5] 27)).alloc (.cells #[.slice Ae s.1.length ce, .int .i64 s.2] 66)).alloc (.cells #[.string ⟨#[]⟩, .slice none 0 0, .int .i64 0] 45) := ⟨_, rfl⟩
  obtain ⟨hN1, b2, b3, b4, hz1⟩ := boxes3 _ _ _ _ _ _ _ w1 hw1
  have hev : ∀ (k : Nat) (t : Tm) (cs : List Value) (W : World), css[k]? = some cs → ts[k]? = some t → New w W → Calls Try.prog 40 #[.agg cs.toArray, .slice Ae s.1.length ce] W fun e W' => e = .returned (optV (evalT s.1 t)) ∧ New W W' := by
    intro k t cs W hcs ht hW
    obtain ⟨A', c', he, _, _, hse, _⟩ := hst
    obtain ⟨rfl, rfl⟩ : Ae = A' ∧ ce = c' := by
      injection he with he
      injection he with he
      injection he with h1 h2
      injection h1 with h1 _ h3
      exact ⟨h1, h3⟩
    exact bEval Ae s.1.length ce s.1 rfl hsl hok t (hokt t (List.mem_of_getElem? ht)) W cs (hse.chg hW (fun _ _ => id)) ((hts.at_ k cs t hcs ht).chg ((hw0.trans hW (fun _ _ x => x))))
  have hone : ∀ (k : Nat) (t : Tm) (cs : List Value), css[k]? = some cs → ts[k]? = some t → ∀ u ∈ cs, u.oneCell' = true := fun k t cs h1 h2 => (hts.at_ k cs t h1 h2).one
  have hsrc := hts.src.chg hw0 (fun _ _ => id)
  have hlen := hts.len
  have hseven : ∀ (k : Nat) (t : Tm) (cs : List Value), css[k]? = some cs → ts[k]? = some t → ∃ t0 t1 t2 t3 t4 t5 t6, cs = [t0, t1, t2, t3, t4, t5, t6] := fun k t cs h1 h2 => (hts.at_ k cs t h1 h2).seven
  have HEv := Lib.hid hev
  have HOne := Lib.hid hone
  have HSeven := Lib.hid hseven
  have HSrc := Lib.hid hsrc
  have HLen := Lib.hid hlen
  have HW := Lib.hid hw1
  have HN1 := Lib.hid hN1
  have B2 := Lib.hid b2
  have B3 := Lib.hid b3
  have B4 := Lib.hid b4
  have HZ := Lib.hid hz1
  have HN := Lib.hid hn
  have Hfs := Lib.hid hfs
  clear hev hone hseven hsrc hlen hw1 hN1 b2 b3 b4 hz1 hst hts hokt hok hw0 hn hfs hres
  go_enter Try.func20, Try.ntmps20
  go_upto_region 1 with fail
  rw [← HW.out]
  have c1 := B2.out.cell 1
  have c2 := B2.out.cell 2
  have c3 := B3.out.cell 1
  simp only [List.getElem?_toArray, List.getElem?_cons_zero, List.getElem?_cons_succ] at c1 c2 c3
  go_wp2_with ((with_reducible refine wpl_set rfl (.tmp 4) (.tmp 14) 45 rfl rfl stRow (w.heap.size + 1 + 1) 45 _ [.string h, .slice none 0 0, .int .i64 s.2] ?_ ?_ B4.out rfl rfl (row_one _ _ _ _ _) ?_); exact rfl; exact rfl; intro w2 hc2 hb2 hs2; have c5 := (B2.out.chg hc2 (by omega)).cell 2; have HC2 := Lib.hid hc2; have HB2 := Lib.hid hb2; simp only [List.getElem?_toArray, List.getElem?_cons_zero, List.getElem?_cons_succ] at c5; clear hc2 hb2 hs2 c1 c2 c3)
  clear HW c5
  go_loopw [18] (fun u18 wr => ∃ (k : Nat) (us : List Vl) (v : Value), k ≤ n ∧ u18 = .int .i64 k ∧ allO (fs.take k) = some us ∧ us.length = k ∧ Blk wr (w.heap.size + 1 + 1) 45 #[.string h, v, .int .i64 s.2] ∧ Own wr w1.heap.size 37 4 v (us.map vcs) ∧ Chg w1 wr (fun k => k = w.heap.size + 1 + 1)) (fun u _ => n - (intOf u).toNat)
  case atStart => exact ⟨0, [], _, Nat.zero_le _, rfl, rfl, rfl, HB2.out, Own.nil _ _ _ _, HC2.out⟩
  case round =>
    obtain ⟨k, us, v, hk, rfl, ha, hl, hbk, hov, hNr⟩ := hrel
    obtain ⟨Ao, co, rfl, hc1, hc2⟩ := hov.form
    rw [List.length_map] at hov hbk
    have Ha := Lib.hid ha
    have HOv := Lib.hid hov
    have HBk := Lib.hid hbk
    have HNw := Lib.hid hNr
    have HNf := Lib.hid (show New w wr from HN1.out.put hNr (by omega))
    have Hl := Lib.hid hl
    clear ha hov hNr hl hc1 hc2 hbk
    by_cases hlt : k < n
    · obtain ⟨t, ht⟩ : ∃ t, ts[k]? = some t := ⟨_, List.getElem?_eq_getElem (by rw [← HN.out]; exact hlt)⟩
      obtain ⟨cs, hcs⟩ : ∃ cs, css[k]? = some cs := ⟨_, List.getElem?_eq_getElem (by rw [HLen.out, ← HN.out]; exact hlt)⟩
      obtain ⟨ad, rfl, hrw⟩ := HSrc.out (by rw [HLen.out, ← HN.out]; omega)
      have hat := (hrw k cs hcs).2.chg HNf.out id
      have h1c := HOne.out k t cs hcs ht
      have hek := fun W h => HEv.out k t cs W hcs ht h
      obtain ⟨o1, ho1⟩ : ∃ o1, evalT s.1 t = o1 := ⟨_, rfl⟩
      have hfk : fs[k]? = some o1 := by rw [Hfs.out, List.getElem?_map, ht, ← ho1]; rfl
      rw [ho1] at hek
      obtain ⟨t0, t1, t2, t3, t4, t5, t6, rfl⟩ := HSeven.out k t cs hcs ht
      have Hat := Lib.hid hat
      have H1c := Lib.hid h1c
      have Hek := Lib.hid hek
      have Hfk := Lib.hid hfk
      clear hat h1c hek hfk hrw hcs ht ho1
      have e5 := (B3.out.chg HNw.out (by omega)).cell 0
      simp only [List.getElem?_toArray, List.getElem?_cons_zero] at e5
      cases o1 with
      | none =>
        unfold optV at Hek
        dsimp only [Option.getD, Option.isSome, vval, zV] at Hek
        go_wp2_with first
          | ((with_reducible refine wpl_load rfl (.tmp 20) 39 rfl stTerm (ad.add (k * 7)) _ ?_ rfl Hat.out ?_); exact rfl)
          | ((with_reducible refine wpl_box rfl rfl 7 (.tmp 21) 39 rfl rfl rfl rfl stTerm elTerm.zero [t0, t1, t2, t3, t4, t5, t6] ?_ ?_ rfl H1c.out ?_); exact (by decide : 7 < 40); exact rfl; intro w2 hc2 hb2 hs2; have e6 := hc2.cellS e5 id; have Hc2 := Lib.hid hc2; have Hb2 := Lib.hid (Blk.at_ (cs := [t0, t1, t2, t3, t4, t5, t6]) hb2); clear hc2 hb2 hs2)
          | ((with_reducible refine wpl_load rfl (.tmp 7) 39 rfl stTerm ⟨wr.heap.size, 0, none⟩ _ ?_ rfl Hb2.out ?_); exact rfl)
          | (go_at_call 40; refine (Hek.out _ (HNf.out.trans Hc2.out (fun _ _ x => x))).mono ?_; rintro e w3 ⟨rfl, hc3⟩; have HN3 := Lib.hid (Hc2.out.trans hc3 (fun _ _ x => x)); clear hc3 e5 e6)
          | ((with_reducible refine wpl_box rfl rfl 8 (.tmp 27) 37 rfl rfl rfl rfl stVal4 elValue.zero (vcs zV) ?_ ?_ (vcl_len _) (vcl_one _) ?_); exact (by decide : 8 < 40); exact rfl; intro w4 hc4 hb4 hs4; have HN4 := Lib.hid (HN3.out.trans hc4 (fun _ _ x => x)); clear hc4 hb4 hs4)
          | ((with_reducible refine wpl_load rfl (.tmp 4) 45 rfl stRow ⟨w.heap.size + 1 + 1, 0, none⟩ [.string h, .slice Ao us.length co, .int .i64 s.2] ?_ rfl (HBk.out.chg HN4.out id).at_ ?_); exact rfl)
          | ((with_reducible refine wpl_set rfl (.tmp 4) (.tmp 31) 45 rfl rfl stRow (w.heap.size + 1 + 1) 45 _ [.string h, .slice Ao us.length co, .int .i64 s.2] ?_ ?_ (HBk.out.chg HN4.out id) rfl rfl (row_one _ _ _ _ _) ?_); exact rfl; exact rfl; intro w5 hc5 hb5 hs5; have HN5 := Lib.hid ((HNf.out.trans HN4.out (fun _ _ x => x)).put hc5 (by omega)); have HB5 := Lib.hid hb5; clear hc5 hb5 hs5)
        refine bodyPost_ret (v := .tuple #[.agg #[.string h, .slice Ao us.length co, .int .i64 s.2], .bool false]) (res_cell2 (p := 4) (q := 5) stRow rfl _ _ ⟨w.heap.size + 1 + 1, 0, none⟩ [.string h, .slice Ao us.length co, .int .i64 s.2] rfl (Blk.at_ HB5.out) rfl) rfl ?_
        exact ⟨HN5.out, .inl ⟨by rw [allO_none Hfk.out]; rfl, _, _, _, rfl, rfl, rfl, rfl⟩⟩
      | some x =>
        unfold optV at Hek
        dsimp only [Option.getD, Option.isSome, vval] at Hek
        go_upto_region 8 with first
          | ((with_reducible refine wpl_load rfl (.tmp 20) 39 rfl stTerm (ad.add (k * 7)) _ ?_ rfl Hat.out ?_); exact rfl)
          | ((with_reducible refine wpl_box rfl rfl 7 (.tmp 21) 39 rfl rfl rfl rfl stTerm elTerm.zero [t0, t1, t2, t3, t4, t5, t6] ?_ ?_ rfl H1c.out ?_); exact (by decide : 7 < 40); exact rfl; intro w2 hc2 hb2 hs2; have e6 := hc2.cellS e5 id; have Hc2 := Lib.hid hc2; have Hb2 := Lib.hid (Blk.at_ (cs := [t0, t1, t2, t3, t4, t5, t6]) hb2); clear hc2 hb2 hs2)
          | ((with_reducible refine wpl_load rfl (.tmp 7) 39 rfl stTerm ⟨wr.heap.size, 0, none⟩ _ ?_ rfl Hb2.out ?_); exact rfl)
          | (go_at_call 40; refine (Hek.out _ (HNf.out.trans Hc2.out (fun _ _ x => x))).mono ?_; rintro e w3 ⟨rfl, hc3⟩; have HN3 := Lib.hid (Hc2.out.trans hc3 (fun _ _ x => x)); clear hc3 e5 e6)
          | ((with_reducible refine wpl_box rfl rfl 8 (.tmp 27) 37 rfl rfl rfl rfl stVal4 elValue.zero (vcs x) ?_ ?_ (vcl_len _) (vcl_one _) ?_); exact (by decide : 8 < 40); exact rfl; intro w4 hc4 hb4 hs4; have HN4 := Lib.hid (HN3.out.trans hc4 (fun _ _ x => x)); have Hb4 := Lib.hid (show At w4 ⟨w3.heap.size, 0, none⟩ [.int .i64 x.k, .int .i64 x.i, .string x.t, .slice none 0 0] from Blk.at_ (cs := vcs x) hb4); clear hc4 hb4 hs4)
        have HOv4 := Lib.hid (HOv.out.chg HN4.out (fun _ _ x => x))
        have HBk4 := Lib.hid (HBk.out.chg HN4.out id)
        have HW4 := Lib.hid (HNw.out.trans HN4.out (fun _ _ x => x.elim))
        have hul : us.length ≤ 1000 := by have := Hl.out; have := HN.out; omega
        have HA4 := Lib.hid (allO_take Ha.out Hfk.out)
        obtain ⟨w5, hw5⟩ : ∃ w5, w5 = w4.alloc (.cells #[.int .i64 x.k, .int .i64 x.i, .string x.t, .slice none 0 0] 37) := ⟨_, rfl⟩
        have hn5 : New w4 w5 := by rw [hw5]; exact (Chg.refl _ _).alloc _
        have hb5 : Blk w5 w4.heap.size 37 #[.int .i64 x.k, .int .i64 x.i, .string x.t, .slice none 0 0] := by rw [hw5]; exact Blk.new _ _ _
        have hrun := elValue.appendS (HOv4.out.chg hn5 (fun _ _ x => x)) (Nat.le_trans HW4.out.size hn5.size) (some ⟨w4.heap.size, 0, none⟩) 1 1 [vcs x] rfl (fun cs hc => by rw [List.mem_singleton.1 hc]; rfl) (fun cs hc => by rw [List.mem_singleton.1 hc]; exact vcl_one x) (src_one (Blk.vcs hb5) (vcl_len x)) (by rw [List.length_map]; omega) (by rw [List.length_map]; unfold maxLen; omega) 35
        rw [hw5] at hrun
        obtain ⟨v6, w6, hrun, hown6, hc6, -⟩ := hrun
        have hown7 : ∀ g, (Value.slice Ao us.length co).ownBlock = some g → w1.heap.size ≤ g := fun g hg => (HOv4.out.lt hg).1
        have hb46 := (hn5.mono (T' := fun k => (Value.slice Ao us.length co).ownBlock = some k) (fun _ _ x => x.elim)).trans (hw5 ▸ hc6) (fun _ _ x => x)
        have hbk6 := HBk4.out.chg hb46 (fun h => by have := hown7 _ h; have := HZ.out; omega)
        obtain ⟨A6, k6, rfl, _, _⟩ := hown6.form
        have Hrun := Lib.hid hrun
        have Hown6 := Lib.hid hown6
        have HC6 := Lib.hid (HW4.out.trans hb46 (fun k hk h => by have := hown7 _ h; omega))
        have HBk6 := Lib.hid hbk6
        have c46 := HBk4.out.cell 1
        have c66 := hbk6.cell 1
        have f66 := hbk6.frozen 1
        simp only [List.getElem?_toArray, List.getElem?_cons_zero, List.getElem?_cons_succ] at c46 c66
        clear hrun hb5 hn5 hw5 hown6 hc6 hb46 hbk6 hown7
        clear HOv HN3 HNw Hc2 Hat H1c Ha Hek
        go_wp2_with first
          | ((with_reducible refine wpl_load rfl (.tmp 8) 37 rfl stVal4 ⟨w3.heap.size, 0, none⟩ [.int .i64 x.k, .int .i64 x.i, .string x.t, .slice none 0 0] ?_ rfl Hb4.out ?_); exact rfl)
          | ((with_reducible refine wpl_append rfl (.tmp 33) (.tmp 35) 35 35 rfl ?_ ?_ Hrun.out ?_); exact rfl; exact rfl)
        go_roundw
        case rel =>
          refine ⟨k + 1, us ++ [x], _, by omega, by go_num, HA4.out, by rw [List.length_append, Hl.out]; rfl, by simpa using HBk6.out.setCell 1 (.slice A6 (us.length + 1) k6), ?_, HC6.out.setCell _ _ (fun _ => rfl)⟩
          have ho := Hown6.out
          simp only [List.length_append, List.length_map, List.length_cons, List.length_nil] at ho
          rw [List.map_append]
          exact ho.chg (T := fun k => k = w.heap.size + 1 + 1) ((Chg.refl _ _).setCell _ _ (fun _ => rfl)) (fun g hg e => by have := (ho.lt hg).1; have := HZ.out; omega)
        case measure => simp [intOf]; omega
    · have hfull : allO fs = some us := by
        have h := Ha.out
        rwa [List.take_of_length_le (by rw [Hfs.out, List.length_map, ← HN.out]; omega)] at h
      have HOf := Lib.hid (HOv.out.base (Nat.le_trans HN1.out.size (Nat.le_refl _)))
      go_wp2_with first
        | ((with_reducible refine wpl_load rfl (.tmp 4) 45 rfl stRow ⟨w.heap.size + 1 + 1, 0, none⟩ [.string h, .slice Ao us.length co, .int .i64 s.2] ?_ rfl HBk.out.at_ ?_); exact rfl)
        | ((with_reducible refine wpl_set rfl (.tmp 4) (.tmp 39) 45 rfl rfl stRow (w.heap.size + 1 + 1) 45 _ [.string h, .slice Ao us.length co, .int .i64 s.2] ?_ ?_ HBk.out rfl rfl (row_one _ _ _ _ _) ?_); exact rfl; exact rfl; intro w5 hc5 hb5 hs5; have HN5 := Lib.hid (HNf.out.put hc5 (by omega)); have HC5 := Lib.hid hc5; have HB5 := Lib.hid hb5; clear hc5 hb5 hs5)
      refine bodyPost_ret (v := .tuple #[.agg #[.string h, .slice Ao us.length co, .int .i64 s.2], .bool true]) (res_cell2 (p := 4) (q := 5) stRow rfl _ _ ⟨w.heap.size + 1 + 1, 0, none⟩ [.string h, .slice Ao us.length co, .int .i64 s.2] rfl (Blk.at_ HB5.out) rfl) rfl ?_
      refine ⟨HN5.out, .inr ⟨⟨h, us, s.2⟩, _, by rw [hfull]; rfl, ⟨rfl, ?_, ?_⟩, rfl⟩⟩
      · have := Hl.out; show us.length ≤ 1000; omega
      · exact HOf.out.chg HC5.out (fun g hg e => by have := (HOv.out.lt hg).1; have := HZ.out; omega)
end Go.Proofs.Ytfocjfnkcabbgaa

set_option linter.unusedVariables false
set_option linter.unusedSimpArgs false
namespace Go.Proofs.Ytfocjfnkcabbgaa
open Go.RowKit Go.Shelf

theorem find_now2 (s : ByteArray) : ∀ (es : List MapEntry) (m : List (ByteArray × Value)) (i : Nat), es.map (fun e => (e.key, e.val)) = m.map (fun p => (Value.string p.1, p.2)) →
    (∃ n v, Instr.findNow .string (.string s) es i = some (some (i + n, v)) ∧ n < m.length ∧ ∀ v', (∀ t, lookM (m.set n (s, v')) t = if t = s then v' else lookM m t) ∧ (∀ e, es[n]? = some e → e.key = .string s)) ∨
    (Instr.findNow .string (.string s) es i = some none ∧ ∀ v' t, lookM (m ++ [(s, v')]) t = if t = s then v' else lookM m t)
  | [], [], i, h => .inr ⟨rfl, fun v' t => by
      by_cases ht : t = s
      · subst ht; simp [lookM]
      · have hs : ¬ s = t := fun e => ht e.symm
        simp [lookM, ht, hs]⟩
  | [], p :: m, i, h => by cases h
  | e :: es, [], i, h => by cases h
  | e :: es, p :: m, i, h => by
    simp only [List.map_cons, List.cons.injEq, Prod.mk.injEq] at h
    obtain ⟨⟨hk, hv⟩, ht⟩ := h
    by_cases hs : p.1 = s
    · refine .inl ⟨0, e.val, ?_, by simp, fun v' => ⟨fun t => ?_, fun e' he' => ?_⟩⟩
      · unfold Instr.findNow
        rw [hk]
        simp only [Instr.sameNow]
        rw [show (s == p.1) = true by rw [beqB, hs]; exact decide_eq_true rfl]
        rfl
      · rw [List.set_cons_zero]
        by_cases h2 : t = s
        · subst h2; simp [lookM]
        · have h3 : ¬ s = t := fun e => h2 e.symm
          have h4 : ¬ p.1 = t := fun e => h3 (hs ▸ e)
          simp [lookM, h2, h3, h4]
      · cases he'
        rw [hk, hs]
    · have hf : Instr.findNow .string (.string s) (e :: es) i = Instr.findNow .string (.string s) es (i + 1) := by
        conv => lhs; unfold Instr.findNow
        rw [hk]
        simp only [Instr.sameNow]
        rw [show (s == p.1) = false by rw [beqB]; exact decide_eq_false (fun h => hs h.symm)]
      have hl : ∀ m' t, lookM (p :: m') t = if p.1 = t then p.2 else lookM m' t := fun m' t => by
        by_cases h2 : p.1 = t <;> simp [lookM, h2]
      rcases find_now2 s es m (i + 1) ht with ⟨n, v, h1, h2, h3⟩ | ⟨h1, h2⟩
      · refine .inl ⟨n + 1, v, by rw [hf, h1, show i + 1 + n = i + (n + 1) by omega], by simp; exact h2, fun v' => ⟨fun t => ?_, fun e' he' => (h3 v').2 e' (by simpa using he')⟩⟩
        rw [List.set_cons_succ, hl, hl, (h3 v').1 t]
        by_cases h4 : p.1 = t
        · rw [if_pos h4, if_pos h4]
          rw [if_neg (fun e => hs (h4.trans e))]
        · rw [if_neg h4, if_neg h4]
      · refine .inr ⟨by rw [hf, h1], fun v' t => ?_⟩
        rw [List.cons_append, hl, hl, h2 v' t]
        by_cases h4 : p.1 = t
        · rw [if_pos h4, if_pos h4]
          rw [if_neg (fun e => hs (h4.trans e))]
        · rw [if_neg h4, if_neg h4]

theorem run_updM {w : World} {b : Nat} {m : List (ByteArray × Value)} (h : MapAt w b m) (s : ByteArray) (v : Value) :
    ∃ w' m', (Instr.mapUpdate 60 (.map (some b)) (.string s) v).run Try.prog w = .ok () w' ∧ MapAt w' b m' ∧ (∀ t, lookM m' t = if t = s then v else lookM m t) ∧ Chg w w' (fun k => k = b) := by
  obtain ⟨es, cl, hb, hm⟩ := h
  have ht := Try.underlying60
  have hk := Try.underlying9
  generalize Try.prog = P at ht hk ⊢
  have hck : ∀ e, (Instr.checkKey e 10000 9 (.string s)).run P w = .ok () w := fun e => by
    rw [show (10000 : Nat) = 9999 + 1 from rfl]
    unfold Instr.checkKey
    simp [underlying, hk]
  have hgo : (getObj b).run P w = .ok (.map es cl) w := by simp [getObj, Sem.run, hb]
  have hset : ∀ es' cl', (setObj b (.map es' cl')).run P w = .ok () (w.putObj b (.map es' cl')) := fun es' cl' => by simp [setObj, Sem.run, hb, World.putObj]
  have hc : ∀ o, Chg w (w.putObj b o) (fun k => k = b) := fun o => (Chg.of_grown (grownBy_putObj' w b o)).mono fun k _ h => by cases h; rfl
  have hbs : b < w.heap.size := lt_of_heap hb
  rcases find_now2 s es.toList m 0 hm with ⟨n, u, h1, h2, h3⟩ | ⟨h1, h2⟩
  · have hlen : n < es.size := by
      have := congrArg List.length hm
      simp at this
      omega
    have hkey : (((es[n]?).map (·.key)).getD (.string s)) = .string s := by
      have he : es[n]? = some es[n] := by simp [hlen]
      rw [he]
      exact (h3 v).2 es[n] (by rw [Array.getElem?_toList]; exact he)
    have hstay : (Instr.keyThatStays (.string s) (.string s)).run P w = .ok (.string s) w := by
      unfold Instr.keyThatStays
      rw [show (10000 : Nat) = 9999 + 1 from rfl]
      unfold Instr.sameBits
      simp [beqB]
    refine ⟨w.putObj b (.map (es.modify n fun e => { e with key := .string s, val := v }) cl), m.set n (s, v), ?_, ⟨_, cl, World.putObj_heap_same hbs, ?_⟩, (h3 v).1, hc _⟩
    · rw [Nat.zero_add] at h1
      unfold Instr.mapUpdate
      simp [underlying, ht, hk, hck, hgo, Instr.findKey, h1, hkey, hstay, hset]
    · apply List.ext_getElem?
      intro j
      have hmj := congrArg (fun l => l[j]?) hm
      simp only [List.getElem?_map] at hmj
      simp only [List.getElem?_map, Array.toList_modify, List.getElem?_modify, List.getElem?_set]
      by_cases hj : n = j
      · subst hj
        have he : es.toList[n]? = some es[n] := by rw [Array.getElem?_toList]; simp [hlen]
        simp [he, h2]
      · simp only [hj, if_false]
        simpa using hmj
  · refine ⟨w.putObj b (.map (es.push { key := .string s, val := v, born := cl }) (cl + 1)), m ++ [(s, v)], ?_, ⟨_, _, World.putObj_heap_same hbs, ?_⟩, h2 v, hc _⟩
    · unfold Instr.mapUpdate
      simp [underlying, ht, hk, hck, hgo, Instr.findKey, h1, hset]
    · rw [Array.toList_push, List.map_append, List.map_append, hm]
      rfl
end Go.Proofs.Ytfocjfnkcabbgaa

set_option linter.unusedVariables false
set_option linter.unusedSimpArgs false
namespace Go.Proofs.Ytfocjfnkcabbgaa
open Go.RowKit Go.Shelf

theorem mrg_get {w w' : World} {rs : List Rw} {e : Ending} (h : MrgPost w rs e w') : ∃ A c css out, e = .returned (.slice A out.length c) ∧ out.length ≤ c ∧ c ≤ maxLen ∧ out.length ≤ rs.length ∧ SrcAt w' A 3 css ∧ RowsCs w' css out ∧ IsMerge rs out ∧ New w w' ∧ ∀ a, A = some a → a.block < w'.heap.size ∧ w.heap.size ≤ a.block := by
  rcases h with ⟨rfl, rfl, hN⟩ | ⟨g, c, css, rest, rfl, h1, h2, h3, h4, hT, ⟨out, hr, hm⟩, hN⟩
  · exact ⟨none, 0, [], [], rfl, Nat.le_refl _, by unfold maxLen; omega, Nat.le_refl _, fun h => (by simp at h), ⟨rfl, fun i cs h => (by simp at h)⟩, merge_self List.Pairwise.nil, hN, fun a h => (by cases h)⟩
  · refine ⟨some ⟨g, 0, none⟩, c, css, out, by rw [hr.1], by rw [← hr.1]; exact h1, h2, by rw [← hr.1]; exact h3, fun hp => ⟨_, rfl, fun i cs hi => ⟨hT.k3 cs (List.mem_of_getElem? hi), ?_⟩⟩, hr.chg hN, hm, hN, fun a ha => ?_⟩
    · have := hT.get hi
      rwa [Addr.add_lit, Nat.zero_add]
    · cases ha
      exact ⟨hT.blk.lt, h4⟩

/-- Rows abide what writes no cells of theirs. -/
theorem RowsCs.chgT {w w' : World} {css : List (List Value)} {rs : List Rw} {T : Nat → Prop} (h : RowsCs w css rs) (hc : Chg w w' T) (ht : ∀ k, T k → ∃ es cl, w.heap[k]? = some (.map es cl)) : RowsCs w' css rs := ⟨h.1, fun i cs hi => by
  obtain ⟨r, hr, A, c, h1, h2, h3, h4, h5, h6⟩ := h.2 i cs hi
  refine ⟨r, hr, A, c, h1, h2, h3, h4, fun hp => ?_, fun a ha => Nat.lt_of_lt_of_le (h6 a ha) hc.size⟩
  obtain ⟨a, ha, hrw⟩ := h5 hp
  refine ⟨a, ha, hrw.chg hc (fun e => ?_)⟩
  obtain ⟨es, cl, hm⟩ := ht _ e
  obtain ⟨cs0, hcs⟩ : ∃ cs, (r.args.map vcs)[0]? = some cs := ⟨_, List.getElem?_eq_getElem hp⟩
  obtain ⟨hlen, hat⟩ := hrw 0 cs0 hcs
  obtain ⟨u, hu⟩ : ∃ u, cs0[0]? = some u := ⟨_, List.getElem?_eq_getElem (by omega)⟩
  have hce := hat 0 u hu
  unfold World.cell? at hce
  rw [add_block, add_block, hm] at hce
  cases hce⟩

/-- The cells of the rows of one name. -/
def selN (css : List (List Value)) (rs : List Rw) (nm : ByteArray) : List (List Value) := (css.zip rs).filterMap (fun p => if p.2.name = nm then some p.1 else none)
theorem selN_snoc {css : List (List Value)} {rs : List Rw} (hl : css.length = rs.length) (cs : List Value) (r : Rw) (nm : ByteArray) : selN (css ++ [cs]) (rs ++ [r]) nm = if r.name = nm then selN css rs nm ++ [cs] else selN css rs nm := by
  unfold selN
  rw [List.zip_append hl, List.filterMap_append]
  by_cases h : r.name = nm <;> simp [h]
theorem selN_cs {W : World} : ∀ {css : List (List Value)} {rs : List Rw}, RowsCs W css rs → ∀ nm, RowsCs W (selN css rs nm) (named rs nm)
  | [], [], h, nm => ⟨rfl, fun i cs hi => by simp [selN] at hi⟩
  | [], r :: rs, h, nm => by have := h.1; simp at this
  | cs :: css, [], h, nm => by have := h.1; simp at this
  | cs :: css, r :: rs, h, nm => by
    have ht : RowsCs W css rs := ⟨by have := h.1; simpa using this, fun i c hi => h.2 (i + 1) c (by simpa using hi)⟩
    have ih := selN_cs ht nm
    obtain ⟨r', hr', hrow⟩ := h.2 0 cs rfl
    cases hr'
    by_cases hn : r.name = nm
    · have e1 : selN (cs :: css) (r :: rs) nm = cs :: selN css rs nm := by simp [selN, hn]
      have e2 : named (r :: rs) nm = r :: named rs nm := by simp [named, hn]
      rw [e1, e2]
      refine ⟨by simp [ih.1], fun i c hi => ?_⟩
      cases i with
      | zero => cases hi; exact ⟨r, rfl, hrow⟩
      | succ i => obtain ⟨r', h1, h2⟩ := ih.2 i c (by simpa using hi); exact ⟨r', by simpa using h1, h2⟩
    · have e1 : selN (cs :: css) (r :: rs) nm = selN css rs nm := by simp [selN, hn]
      have e2 : named (r :: rs) nm = named rs nm := by simp [named, hn]
      rw [e1, e2]
      exact ih

/-- Rows by their names: each name's in a row of its own. -/
structure ByName (W : World) (B bm : Nat) (m : List (ByteArray × Value)) (css : List (List Value)) (rs : List Rw) : Prop where
  map : MapAt W bm m
  own : ∀ nm, Own W B 45 3 (lookM m nm) (selN css rs nm)
  apart : ∀ a b g, (lookM m a).ownBlock = some g → (lookM m b).ownBlock = some g → a = b
theorem ByName.new {W W' : World} {B bm : Nat} {m : List (ByteArray × Value)} {css : List (List Value)} {rs : List Rw} (h : ByName W B bm m css rs) (hc : New W W') : ByName W' B bm m css rs :=
  ⟨h.map.chg hc id, fun nm => (h.own nm).chg hc (fun _ _ x => x), h.apart⟩
theorem ByName.step {W W1 W2 : World} {B bm : Nat} {m m' : List (ByteArray × Value)} {css : List (List Value)} {rs : List Rw} (h : ByName W B bm m css rs) (hl : css.length = rs.length) (hbm : bm < B) {cs : List Value} {r : Rw} {v : Value}
    (hv : Own W1 B 45 3 v (selN css rs r.name ++ [cs])) (hc : Chg W W1 (fun k => (lookM m r.name).ownBlock = some k)) (hb : ∀ k, v.ownBlock = some k → (lookM m r.name).ownBlock = some k ∨ W.heap.size ≤ k)
    (hm : MapAt W2 bm m') (hlk : ∀ t, lookM m' t = if t = r.name then v else lookM m t) (hc2 : Chg W1 W2 (fun k => k = bm)) : ByName W2 B bm m' (css ++ [cs]) (rs ++ [r]) := by
  refine ⟨hm, fun nm => ?_, fun a b g ha hb' => ?_⟩
  · rw [hlk, selN_snoc hl]
    by_cases hn : nm = r.name
    · subst hn
      rw [if_pos rfl, if_pos rfl]
      exact hv.chg hc2 (fun g hg e => by have := (hv.lt hg).1; omega)
    · rw [if_neg hn, if_neg (fun e => hn e.symm)]
      have h1 := (h.own nm).chg hc (fun g hg e => hn (h.apart _ _ g hg e))
      exact h1.chg hc2 (fun g hg e => by have := (h1.lt hg).1; omega)
  · rw [hlk] at ha hb'
    have hlt : ∀ t g, (lookM m t).ownBlock = some g → g < W.heap.size := fun t g hg => ((h.own t).lt hg).2
    by_cases h1 : a = r.name
    · by_cases h2 : b = r.name
      · rw [h1, h2]
      · rw [if_pos h1] at ha
        rw [if_neg h2] at hb'
        rcases hb g ha with h3 | h3
        · exact absurd (h.apart _ _ g hb' h3) h2
        · have := hlt _ _ hb'; omega
    · rw [if_neg h1] at ha
      by_cases h2 : b = r.name
      · rw [if_pos h2] at hb'
        rcases hb g hb' with h3 | h3
        · exact absurd (h.apart _ _ g ha h3) h1
        · have := hlt _ _ ha; omega
      · rw [if_neg h2] at hb'
        exact h.apart _ _ g ha hb'
theorem ByName.dat {W : World} {B bm : Nat} {m : List (ByteArray × Value)} {css : List (List Value)} {rs : List Rw} (h : ByName W B bm m css rs) (hr : RowsCs W css rs) (hl : rs.length ≤ 1000000) (hok : ∀ r ∈ rs, ∀ v ∈ r.args, okW v) : Dat W bm m rs :=
  ⟨h.map, fun nm => (h.own nm).rowSl (selN_cs hr nm) (Nat.le_trans (List.length_filter_le _ _) hl), hok⟩
end Go.Proofs.Ytfocjfnkcabbgaa

set_option linter.unusedVariables false
set_option linter.unusedSimpArgs false
namespace Go.Proofs.Ytfocjfnkcabbgaa
open Go.RowKit Go.Shelf

def forever : Int := 1099511627776
def fireV (h : ByteArray) (ts : List Tm) (Ls : List Lt) (rows : List Rw) : List Rw := (waysV rows Ls ([], forever)).filterMap (headV h ts)
def FirePost (w : World) (h : ByteArray) (ts : List Tm) (Ls : List Lt) (rows : List Rw) (e : Ending) (w' : World) : Prop :=
  ∃ m v out, IsMerge rows m ∧ IsMerge (fireV h ts Ls m) out ∧ e = .returned v ∧ RowSl w' v out ∧ New w w'
theorem stRule : StT Try.prog 27 6 := ⟨⟨_, Try.underlying27⟩, by kernel_rfl⟩

/-- The blocks that Fire's loop writes. -/
def FS (b8 : Nat) (v : Value) (cso : List (List Value)) : Nat → Prop := fun k => k = b8 ∨ v.ownBlock = some k ∨ ∃ cs ∈ cso, ∃ u ∈ cs, u.ownBlock = some k
/-- The state of Fire's loop. -/
def FJ (wl : World) (B b8 : Nat) (h : ByteArray) (ts : List Tm) : List Sta → (Nat → Prop) → World → Prop := fun zs S W =>
  ∃ v cso, S = FS b8 v cso ∧ Blk W b8 29 #[v] ∧ Own W B 45 3 v cso ∧ RowsOwn W B cso (zs.filterMap (headV h ts)) ∧ Chg wl W (fun k => k = b8)
theorem FJ.acc {wl : World} {B b8 : Nat} {h : ByteArray} {ts : List Tm} (hB : wl.heap.size ≤ B) (hb : b8 < wl.heap.size) : Acc wl.heap.size (FJ wl B b8 h ts) := by
  constructor
  · rintro zs S W ⟨v, cso, rfl, h1, h2, h3, h4⟩ k (rfl | hk | ⟨cs, hcs, u, hu, hk⟩)
    · exact h1.lt
    · exact (h2.lt hk).2
    · obtain ⟨i, hi, rfl⟩ := List.getElem_of_mem hcs
      obtain ⟨r, v', _, ho⟩ := h3.2 i _ (List.getElem?_eq_getElem hi)
      rw [ho.1] at hu
      simp only [List.mem_cons, List.not_mem_nil, or_false] at hu
      rcases hu with rfl | rfl | rfl
      · cases hk
      · exact (ho.2.2.lt hk).2
      · cases hk
  · rintro zs S W W' ⟨v, cso, rfl, h1, h2, h3, h4⟩ hc
    refine ⟨v, cso, rfl, h1.chg hc (fun e => e.2 (.inl rfl)), h2.chg hc (fun g hg e => e.2 (.inr (.inl hg))), ⟨h3.1, fun i cs hi => ?_⟩, h4.trans hc (fun k hk e => absurd hk (Nat.not_lt.2 e.1))⟩
    obtain ⟨r, v', hr, ho⟩ := h3.2 i cs hi
    exact ⟨r, v', hr, ho.chg hc (fun g hg e => e.2 (.inr (.inr ⟨cs, List.mem_of_getElem? hi, v', by rw [ho.1]; simp, hg⟩)))⟩

theorem leave_one {P : Program} {fn : Func} {q : Tmp} (hr : fn.results = #[.tmp q]) {R : Ending → World → Prop} {D : Nat} {W : World} {tmps : Array Value} (hD : W.heap[D]? = some (.deferred (some []))) (h : R (.returned (tmps.getD q undef)) (W.putObj D (.deferred none))) :
    LeavesInM Fence.wide 0 P fn tmps R [{ target := .collected D, args := #[] }] .returning W :=
  ⟨by simp, .inl ⟨_, _, rfl, run_takeDeferred hD, _, results_tmp hr _ _ _, h⟩⟩
/-- Cells abide the deferred calls' block. -/
theorem at_chgD {w w' : World} {D : Nat} {k : Nat} {a : Addr} {css : List (List Value)} (hk : 0 < k) (h : RowsAt w a k css) (hp : 0 < css.length) (hc : Chg w w' (fun j => j = D)) (hD : w.heap[D]? = some (.deferred (some []))) : RowsAt w' a k css := by
  refine h.chg hc (fun e => ?_)
  obtain ⟨cs0, hcs⟩ : ∃ cs, css[0]? = some cs := ⟨_, List.getElem?_eq_getElem hp⟩
  obtain ⟨hlen, hat⟩ := h 0 cs0 hcs
  obtain ⟨u, hu⟩ : ∃ u, cs0[0]? = some u := ⟨_, List.getElem?_eq_getElem (by omega)⟩
  have hce := hat 0 u hu
  unfold World.cell? at hce
  rw [add_block, add_block, show a.block = D from e, hD] at hce
  cases hce
theorem srcAt_chgD {w w' : World} {D : Nat} {A : Option Addr} {css : List (List Value)} (h : SrcAt w A 3 css) (hp : 0 < css.length) (hc : Chg w w' (fun j => j = D)) (hD : w.heap[D]? = some (.deferred (some []))) : ∃ a, A = some a ∧ RowsAt w' a 3 css := by
  obtain ⟨a, ha, hr⟩ := h hp
  exact ⟨a, ha, at_chgD (by omega) hr hp hc hD⟩
theorem RowsCs.chgD {w w' : World} {D : Nat} {css : List (List Value)} {rs : List Rw} (h : RowsCs w css rs) (hc : Chg w w' (fun j => j = D)) (hD : w.heap[D]? = some (.deferred (some []))) : RowsCs w' css rs := ⟨h.1, fun i cs hi => by
  obtain ⟨r, hr, A, c, h1, h2, h3, h4, h5, h6⟩ := h.2 i cs hi
  refine ⟨r, hr, A, c, h1, h2, h3, h4, fun hp => ?_, fun a ha => Nat.lt_of_lt_of_le (h6 a ha) hc.size⟩
  obtain ⟨a, ha, hrw⟩ := h5 hp
  exact ⟨a, ha, at_chgD (by omega) hrw hp hc hD⟩⟩
theorem LtsAt.chg {w w' : World} {A : Option Addr} {css : List (List Value)} {Ls : List Lt} (h : LtsAt w A css Ls) (hc : New w w') : LtsAt w' A css Ls :=
  ⟨h.len, h.src.chg hc (fun _ _ => id), fun j cs L h1 h2 => (h.at_ j cs L h1 h2).chg hc⟩
theorem ways_ok {rows : List Rw} (hr : ∀ r ∈ rows, ∀ v ∈ r.args, okW v) : ∀ {Ls : List Lt}, (∀ L ∈ Ls, okLt L) → ∀ {s x : Sta}, okEnv s.1 → x ∈ waysV rows Ls s → okEnv x.1 ∧ x.1.length ≤ s.1.length + (Ls.map Lt.size).sum
  | [], _, s, x, hs, hx => by
    rw [List.mem_singleton.1 (show x ∈ [s] from hx)]
    exact ⟨hs, by simp⟩
  | L :: Ls, hL, s, x, hs, hx => by
    obtain ⟨t, ht, hx⟩ := List.mem_flatMap.1 (show x ∈ (nextV rows L s).flatMap (waysV rows Ls) from hx)
    have h1 := next_ok hr (hL L (List.mem_cons_self ..)) hs ht
    have h2 := ways_ok hr (fun L' h => hL L' (List.mem_cons_of_mem _ h)) h1.1 hx
    refine ⟨h2.1, ?_⟩
    simp only [List.map_cons, List.sum_cons]
    have := h1.2
    have := h2.2
    omega
theorem rule_one {r0 r3 r4 : Value} {h : ByteArray} {A Ab : Option Addr} {n c nb cb : Nat} (h0 : r0.oneCell' = true) (h3 : r3.oneCell' = true) (h4 : r4.oneCell' = true) : ∀ u ∈ [r0, .string h, .slice A n c, r3, r4, .slice Ab nb cb], u.oneCell' = true := by
  intro u hu
  simp only [List.mem_cons, List.not_mem_nil, or_false] at hu
  rcases hu with rfl | rfl | rfl | rfl | rfl | rfl
  · exact h0
  · rfl
  · rfl
  · exact h3
  · exact h4
  · rfl
theorem row_oneV (s : ByteArray) (i : Int) {v : Value} (hv : v.oneCell' = true) : ∀ u ∈ [.string s, v, .int .i64 i], u.oneCell' = true := three_one rfl hv rfl
theorem RowsOwn.chgB {W W' : World} {B : Nat} {cso : List (List Value)} {rs : List Rw} {T : Nat → Prop} (h : RowsOwn W B cso rs) (hc : Chg W W' T) (hT : ∀ k, T k → k < B) : RowsOwn W' B cso rs := ⟨h.1, fun i cs hi => by
  obtain ⟨r, v, h1, h2⟩ := h.2 i cs hi
  exact ⟨r, v, h1, h2.chg hc (fun g hg e => by have := (h2.2.2.lt hg).1; have := hT g e; omega)⟩⟩
theorem FJ.new {wl : World} {B b8 : Nat} {h : ByteArray} {ts : List Tm} {pre : List Sta} {x : Sta} {S : Nat → Prop} {W W' : World} (hb : b8 < wl.heap.size) (hB : wl.heap.size ≤ B) (hj : FJ wl B b8 h ts pre S W) (hc : New W W') (hx : headV h ts x = none) : Stp (FJ wl B b8 h ts) (pre ++ [x]) S W W' := by
  obtain ⟨v, cso, rfl, h1, h2, h3, h4⟩ := hj
  refine ⟨_, ⟨v, cso, rfl, h1.chg hc id, h2.chg hc (fun _ _ x => x), ?_, h4.trans hc (fun _ _ h => h.elim)⟩, hc.mono (fun _ _ h => h.elim), fun k hk => .inl hk⟩
  rw [List.filterMap_append, List.filterMap_cons_none hx, List.filterMap_nil, List.append_nil]
  exact h3.new hc

set_option maxHeartbeats 8000000 in
set_option maxRecDepth 100000 in
theorem fire_val (w : World) (h : ByteArray) (r0 r3 r4 : Value) (A : Option Addr) (n c : Nat) (css : List (List Value)) (ts : List Tm) (hn : n = ts.length) (hnm : n ≤ 1000) (hts : TmsAt w A css ts) (hokt : ∀ t ∈ ts, okTm t)
    (Ab : Option Addr) (nb cb : Nat) (cssb : List (List Value)) (Ls : List Lt) (hnb : nb = Ls.length) (hnc : nb ≤ cb) (hcm : cb ≤ maxLen) (hLs : LtsAt w Ab cssb Ls) (hokL : ∀ L ∈ Ls, okLt L) (hsz : (Ls.map Lt.size).sum ≤ 1000)
    (h0 : r0.oneCell' = true) (h3 : r3.oneCell' = true) (h4 : r4.oneCell' = true)
    (vr : Value) (rows : List Rw) (hrs : RowSl w vr rows) (hokr : ∀ r ∈ rows, ∀ v ∈ r.args, okW v) (hmany : ∀ m, IsMerge rows m → (waysV m Ls ([], forever)).length ≤ 1000000) :
    Calls Try.prog 7 #[.agg #[r0, .string h, .slice A n c, r3, r4, .slice Ab nb cb], vr] w (FirePost w h ts Ls rows) := by
  obtain ⟨Ar, cr, cssr, rfl, hr1, hr2, hr3, hrsrc, hrcs, hra⟩ := hrs
  obtain ⟨w1, hw1⟩ : ∃ w1, w1 = (w.alloc (.cells #[r0, .string h, .slice A n c, r3, r4, .slice Ab nb cb] 27)).alloc (.map #[] 0) := ⟨_, rfl⟩
  have hN1 : New w w1 := by rw [hw1]; exact ((Chg.refl w _).alloc _).alloc _
  have hb2 : Blk w1 w.heap.size 27 #[r0, .string h, .slice A n c, r3, r4, .slice Ab nb cb] := by rw [hw1]; exact (Blk.new w _ _).alloc _
  have hmap : MapAt w1 (w.heap.size + 1) [] := by
    refine ⟨#[], 0, ?_, rfl⟩
    rw [hw1]
    have := World.alloc_heap_new (w.alloc (.cells #[r0, .string h, .slice A n c, r3, r4, .slice Ab nb cb] 27)) (.map #[] 0)
    rwa [World.size_alloc] at this
  have hsz1 : w1.heap.size = w.heap.size + 2 := by rw [hw1]; simp
  have hmg := merged_rows w1 Ar cr cssr rows hr1 hr2 hr3 (hrsrc.chg hN1 (fun _ _ => id)) (hrcs.chg hN1) (fun a ha => Nat.lt_of_lt_of_le (hra a ha) hN1.size)
  have hmg2 := hmg.mono (fun e w' hp => mrg_get hp)
  have HMg := Lib.hid hmg2
  have HW := Lib.hid hw1
  have HN1 := Lib.hid hN1
  have HB2 := Lib.hid hb2
  have HMap := Lib.hid hmap
  have HZ1 := Lib.hid hsz1
  have HTs := Lib.hid hts
  have HLs := Lib.hid hLs
  have HOkt := Lib.hid hokt
  have HOkL := Lib.hid hokL
  have HOkr := Lib.hid hokr
  have HMany := Lib.hid hmany
  have Hn := Lib.hid hn
  have Hnb := Lib.hid hnb
  have Hsz := Lib.hid hsz
  clear hmg hmg2 hw1 hN1 hb2 hmap hsz1 hts hLs hokt hokL hokr hmany hn hnb hsz hrsrc hrcs hra hr2 hr3
  refine (callsIn_wide (n := 0)).1 (callsIn_of_wp_marks Try.func7 rfl trivial ?_ rfl)
  refine wpIn_wide.2 ?_
  simp only [Try.ntmps7, List.size_toArray, List.length_cons, List.length_nil, Nat.reduceAdd, Nat.reduceSub, Array.replicate_succ, Array.replicate_zero, List.push_toArray, List.append_toArray, List.nil_append, List.cons_append]
  have hmk : ∀ w, (Instr.makeMap 60 none).run Try.prog w = .ok (.map (some w.heap.size)) (w.alloc (.map #[] 0)) := fun w => rfl
  go_upto_region 2 with fail
  rw [← HW.out]
  clear hmk
  go_wp2_with (go_at_call 18; refine HMg.out.mono ?_; rintro e wm ⟨Am, cm, cssm, mr, rfl, hm1, hm2, hm3, hmsrc, hmcs, hmg, hN2, hmb⟩; have HMsrc := Lib.hid hmsrc; have HMcs := Lib.hid hmcs; have HMrg := Lib.hid hmg; have HN2 := Lib.hid hN2; have HMb := Lib.hid hmb; clear hmsrc hmcs hmg hN2 hmb)
  clear HMg HW
  go_loopw [16] (fun u16 wr => ∃ (k : Nat) (m : List (ByteArray × Value)), k ≤ mr.length ∧ u16 = .int .i64 k ∧ ByName wr wm.heap.size (w.heap.size + 1) m (cssm.take k) (mr.take k) ∧ Chg wm wr (fun k => k = w.heap.size + 1)) (fun u _ => mr.length - (intOf u).toNat)
  case atStart => exact ⟨0, [], Nat.zero_le _, rfl, ⟨HMap.out.chg HN2.out id, fun nm => Own.nil _ _ _ _, fun a b g ha => (by cases ha)⟩, Chg.refl _ _⟩
  case round =>
    obtain ⟨k, m, hk, rfl, hbn, hcr⟩ := hrel
    have HBn := Lib.hid hbn
    have HCr := Lib.hid hcr
    clear hbn hcr
    by_cases hlt : k < mr.length
    · obtain ⟨r, hr⟩ : ∃ r, mr[k]? = some r := ⟨_, List.getElem?_eq_getElem hlt⟩
      obtain ⟨cs, hcs⟩ : ∃ cs, cssm[k]? = some cs := ⟨_, List.getElem?_eq_getElem (by rw [HMcs.out.1]; exact hlt)⟩
      obtain ⟨ar, rfl, hrw⟩ := HMsrc.out (by rw [HMcs.out.1]; omega)
      obtain ⟨hab1, hab2⟩ := HMb.out ar rfl
      have hat := (hrw k cs hcs).2.chg HCr.out (fun e => by rw [add_block] at e; have := HZ1.out; omega)
      obtain ⟨r', hr', hrow⟩ := HMcs.out.2 k cs hcs
      obtain rfl : r = r' := Option.some.inj (hr.symm.trans hr')
      obtain ⟨Aa, ca, rfl, ha1, ha2, ha3, hasrc, hab⟩ := hrow
      have Hat := Lib.hid hat
      have Hr := Lib.hid hr
      have Hcs := Lib.hid hcs
      clear hat hr' hrw hasrc hab hr hcs
      obtain ⟨vL, hvL⟩ : ∃ vL, lookM m r.name = vL := ⟨_, rfl⟩
      have hov := HBn.out.own r.name
      rw [hvL] at hov
      obtain ⟨AL, cL, rfl, hL1, hL2⟩ := hov.form
      obtain ⟨nL, hnL⟩ : ∃ nL, (selN (cssm.take k) (mr.take k) r.name).length = nL := ⟨_, rfl⟩
      rw [hnL] at hov hvL hL1
      have hnLk : nL ≤ k := by
        rw [← hnL]
        unfold selN
        refine Nat.le_trans (List.length_filterMap_le _ _) ?_
        rw [List.length_zip, List.length_take, List.length_take]
        omega
      have Hov := Lib.hid hov
      have HvL := Lib.hid hvL
      clear hov hvL hnL hL1 hL2
      go_upto_region 5 with first
        | ((with_reducible refine wpl_load rfl (.tmp 18) 45 rfl stRow (ar.add (k * 3)) _ ?_ rfl Hat.out ?_); exact rfl)
        | ((with_reducible refine wpl_box rfl rfl 7 (.tmp 19) 45 rfl rfl rfl rfl stRow zRow [.string r.name, .slice Aa r.args.length ca, .int .i64 r.stamp] ?_ ?_ rfl (row_one _ _ _ _ _) ?_); exact (by decide : 7 < 50); exact rfl; intro w4 hc4 hb4 hs4; have HC4 := Lib.hid hc4; have HB4 := Lib.hid hb4; clear hc4 hb4 hs4)
      refine wp_region_at (by kernel_rfl) ?_
      have hcd := HC4.out.drew
      have HB7 := Lib.hid (show Blk w4.drew wr.heap.size 45 #[.string r.name, .slice Aa r.args.length ca, .int .i64 r.stamp] from HB4.out.chg (Chg.refl _ (fun _ => False)).drew id)
      have HBd := Lib.hid (HBn.out.new hcd)
      have HOd := Lib.hid (Hov.out.chg hcd (fun _ _ x => x))
      have HCd := Lib.hid (HCr.out.trans hcd (fun _ _ x => x.elim))
      have hlr := HCr.out.size
      obtain ⟨b7, hb7⟩ : ∃ b, wr.heap.size = b := ⟨_, rfl⟩
      have hne7 : ∀ g, (Value.slice AL nL cL).ownBlock = some g → g ≠ b7 := fun g hg e => by
        have := (Hov.out.lt hg).2
        omega
      have hbmlt : w.heap.size + 1 < wm.heap.size := by have := HN2.out.size; have := HZ1.out; omega
      rw [hb7] at HB7 ⊢
      have Hb7 := Lib.hid hb7
      clear hcd HC4 HB4 hb7 Hat
      generalize w4.drew = wd at HB7 HBd HOd HCd ⊢
      have hlw := HCd.out.size
      have hst : ∀ jj uu w1 w2, New w1 w2 → (fun
          | 0 => fun v _ => v = .map (some (w.heap.size + 1))
          | 1 => fun v _ => v = .pointer (some ⟨b7, 0, none⟩)
          | 2 => fun v _ => v = .string r.name
          | 3 => fun v _ => v = .map (some (w.heap.size + 1))
          | 4 => fun v _ => v = .pointer (some ⟨b7, 0, none⟩)
          | 5 => fun v _ => v = .string r.name
          | 6 => fun v _ => v = .slice AL nL cL
          | 7 => fun v _ => v = .agg #[.string r.name, .slice Aa r.args.length ca, .int .i64 r.stamp]
          | 8 => fun v W => ∃ rb, v = .slice (some ⟨rb, 0, none⟩) 1 1 ∧ Blk W rb 45 #[.string r.name, .slice Aa r.args.length ca, .int .i64 r.stamp]
          | 9 => fun v W => Own W wm.heap.size 45 3 v (selN (cssm.take k) (mr.take k) r.name ++ [[.string r.name, .slice Aa r.args.length ca, .int .i64 r.stamp]]) ∧ ∀ k, v.ownBlock = some k → (Value.slice AL nL cL).ownBlock = some k ∨ wd.heap.size ≤ k
          | _ => fun _ _ => True : Nat → Value → World → Prop) jj uu w1 → (fun
          | 0 => fun v _ => v = .map (some (w.heap.size + 1))
          | 1 => fun v _ => v = .pointer (some ⟨b7, 0, none⟩)
          | 2 => fun v _ => v = .string r.name
          | 3 => fun v _ => v = .map (some (w.heap.size + 1))
          | 4 => fun v _ => v = .pointer (some ⟨b7, 0, none⟩)
          | 5 => fun v _ => v = .string r.name
          | 6 => fun v _ => v = .slice AL nL cL
          | 7 => fun v _ => v = .agg #[.string r.name, .slice Aa r.args.length ca, .int .i64 r.stamp]
          | 8 => fun v W => ∃ rb, v = .slice (some ⟨rb, 0, none⟩) 1 1 ∧ Blk W rb 45 #[.string r.name, .slice Aa r.args.length ca, .int .i64 r.stamp]
          | 9 => fun v W => Own W wm.heap.size 45 3 v (selN (cssm.take k) (mr.take k) r.name ++ [[.string r.name, .slice Aa r.args.length ca, .int .i64 r.stamp]]) ∧ ∀ k, v.ownBlock = some k → (Value.slice AL nL cL).ownBlock = some k ∨ wd.heap.size ≤ k
          | _ => fun _ _ => True : Nat → Value → World → Prop) jj uu w2 := by
        intro j uu w1 w2 hc h
        match j with
        | 8 => exact h.imp fun b h => ⟨h.1, h.2.chg hc id⟩
        | 9 => exact ⟨h.1.chg hc (fun _ _ x => x), h.2⟩
        | 0 | 1 | 2 | 3 | 4 | 5 | 6 | 7 => exact h
        | _ + 10 => trivial
      refine AtN.segX2 0 10 9 [20, 21, 22, 23, 24, 25, 26, 27, 28, 29] (fun k => (Value.slice AL nL cL).ownBlock = some k) (fun
          | 8 => 9
          | _ => 999) (fun
          | 0 => fun v _ => v = .map (some (w.heap.size + 1))
          | 1 => fun v _ => v = .pointer (some ⟨b7, 0, none⟩)
          | 2 => fun v _ => v = .string r.name
          | 3 => fun v _ => v = .map (some (w.heap.size + 1))
          | 4 => fun v _ => v = .pointer (some ⟨b7, 0, none⟩)
          | 5 => fun v _ => v = .string r.name
          | 6 => fun v _ => v = .slice AL nL cL
          | 7 => fun v _ => v = .agg #[.string r.name, .slice Aa r.args.length ca, .int .i64 r.stamp]
          | 8 => fun v W => ∃ rb, v = .slice (some ⟨rb, 0, none⟩) 1 1 ∧ Blk W rb 45 #[.string r.name, .slice Aa r.args.length ca, .int .i64 r.stamp]
          | 9 => fun v W => Own W wm.heap.size 45 3 v (selN (cssm.take k) (mr.take k) r.name ++ [[.string r.name, .slice Aa r.args.length ca, .int .i64 r.stamp]]) ∧ ∀ k, v.ownBlock = some k → (Value.slice AL nL cL).ownBlock = some k ∨ wd.heap.size ≤ k
          | _ => fun _ _ => True : Nat → Value → World → Prop) (by kernel_rfl) (by kernel_rfl) (by kernel_rfl) (by kernel_rfl) (fun i hn hi o ho A0 W b hJ hμ hin hk => ?_) (fun l W3 hJ hl hΦ => ?_)
      · rcases (show i = 0 ∨ i = 1 ∨ i = 2 ∨ i = 3 ∨ i = 4 ∨ i = 5 ∨ i = 6 ∨ i = 7 ∨ i = 8 ∨ i = 9 by omega) with rfl | rfl | rfl | rfl | rfl | rfl | rfl | rfl | rfl | rfl
        · cases ho
          refine .newX (i := 0) hJ hst ?_
          exact .same (exec_move 5 (.map (some (w.heap.size + 1))) rfl (hk 5 (by kernel_rfl))) rfl
        · cases ho
          have h7 : A0.tmps[7]?.getD undef = .pointer (some ⟨b7, 0, none⟩) := hk 7 (by kernel_rfl)
          refine .newX (i := 1) hJ hst ?_
          exact .same (v := .pointer (some ⟨b7, 0, none⟩)) (by simp [go_sem, h7]) rfl
        · cases ho
          have h21 : A0.tmps[21]?.getD undef = .pointer (some ⟨b7, 0, none⟩) := hin 1 21 (by kernel_rfl)
          refine .newX (i := 2) hJ hst ?_
          have hc : W.cell? ⟨b7, 0, none⟩ = some (.string r.name) := (HB7.out.chg hJ.1 (fun h => hne7 _ h rfl)).cell 0
          exact .same (v := .string r.name) (by simp [go_sem, h21, hc]) rfl
        · cases ho
          refine .newX (i := 3) hJ hst ?_
          exact .same (exec_move 5 (.map (some (w.heap.size + 1))) rfl (hk 5 (by kernel_rfl))) rfl
        · cases ho
          have h7 : A0.tmps[7]?.getD undef = .pointer (some ⟨b7, 0, none⟩) := hk 7 (by kernel_rfl)
          refine .newX (i := 4) hJ hst ?_
          exact .same (v := .pointer (some ⟨b7, 0, none⟩)) (by simp [go_sem, h7]) rfl
        · cases ho
          have h24 : A0.tmps[24]?.getD undef = .pointer (some ⟨b7, 0, none⟩) := hin 4 24 (by kernel_rfl)
          refine .newX (i := 5) hJ hst ?_
          have hc : W.cell? ⟨b7, 0, none⟩ = some (.string r.name) := (HB7.out.chg hJ.1 (fun h => hne7 _ h rfl)).cell 0
          exact .same (v := .string r.name) (by simp [go_sem, h24, hc]) rfl
        · cases ho
          have h23 : A0.tmps[23]?.getD undef = .map (some (w.heap.size + 1)) := hin 3 23 (by kernel_rfl)
          have h25 : A0.tmps[25]?.getD undef = .string r.name := hin 5 25 (by kernel_rfl)
          refine .newX (i := 6) hJ hst ?_
          have hlk := run_lookM (HBd.out.map.chg hJ.1 (fun h => by have := (HOd.out.lt h).1; omega)) r.name
          rw [HvL.out] at hlk
          exact .same (v := .slice AL nL cL) (by simp [go_sem, h23, h25, hlk]) rfl
        · cases ho
          have h7 : A0.tmps[7]?.getD undef = .pointer (some ⟨b7, 0, none⟩) := hk 7 (by kernel_rfl)
          refine .newX (i := 7) hJ hst ?_
          exact .same (exec_load 7 _ rfl stRow ⟨b7, 0, none⟩ [.string r.name, .slice Aa r.args.length ca, .int .i64 r.stamp] h7 rfl (HB7.out.chg hJ.1 (fun h => hne7 _ h rfl)).at_) rfl
        · cases ho
          have h27 : A0.tmps[27]?.getD undef = .agg #[.string r.name, .slice Aa r.args.length ca, .int .i64 r.stamp] := hin 7 27 (by kernel_rfl)
          refine .newX (i := 8) hJ hst ?_
          exact .value (W' := W.alloc (.cells #[.string r.name, .slice Aa r.args.length ca, .int .i64 r.stamp] 45)) (v := .slice (some ⟨W.heap.size, 0, none⟩) 1 1) (by simp [go_sem, h27]) ⟨(Chg.refl _ _).alloc _, _, rfl, Blk.new _ _ _⟩
        · cases ho
          have h26 : A0.tmps[26]?.getD undef = .slice AL nL cL := hin 6 26 (by kernel_rfl)
          have h28 := hin 8 28 (by kernel_rfl)
          obtain ⟨ro, eo, hb⟩ := h28
          have hbf : b = false := hμ rfl
          have hNn : New wd W := hJ.2 hbf
          obtain ⟨v1, W', hrun, hown, hchg, hblk⟩ := elRow.appendS (HOd.out.chg hNn (fun _ _ x => x)) (Nat.le_trans hlw hJ.1.size) (some ⟨ro, 0, none⟩) 1 1 [[.string r.name, .slice Aa r.args.length ca, .int .i64 r.stamp]] rfl (fun cs hc => by rw [List.mem_singleton.1 hc]; rfl) (fun cs hc => by rw [List.mem_singleton.1 hc]; exact row_one _ _ _ _ _) (src_one hb.at_ rfl) (by have := HOd.out.1.1; have h9 := HOd.out.rows (A := AL) (n := nL) (c := cL) rfl; have := h9.1; omega) (by have h9 := HOd.out.rows (A := AL) (n := nL) (c := cL) rfl; have := h9.1; unfold maxLen; omega) 29
          refine .value (exec_append _ _ _ _ rfl (by simpa [Act.eval] using h26) (by simpa [Act.eval] using eo) hrun) ⟨hJ.turn hchg (fun _ _ x => x), ⟨hown, fun k hk => (hblk k hk).imp id (fun h => Nat.le_trans hJ.1.size h)⟩, fun k u hki hkx hka hkb h => ?_⟩
          match k with
          | 8 => exact absurd rfl hkx
          | 9 => exact absurd rfl hki
          | 0 | 1 | 2 | 3 | 4 | 5 | 6 | 7 => exact h
          | _ + 10 => trivial
      obtain ⟨x20, x21, x22, x23, x24, x25, x26, x27, x28, x29, rfl⟩ : ∃ x20 x21 x22 x23 x24 x25 x26 x27 x28 x29, l = [x20, x21, x22, x23, x24, x25, x26, x27, x28, x29] := by
        match l, hl with
        | [x20, x21, x22, x23, x24, x25, x26, x27, x28, x29], _ => exact ⟨_, _, _, _, _, _, _, _, _, _, rfl⟩
      obtain rfl : x20 = .map (some (w.heap.size + 1)) := hΦ 0 (by decide) (by decide)
      obtain rfl : x21 = .pointer (some ⟨b7, 0, none⟩) := hΦ 1 (by decide) (by decide)
      obtain rfl : x22 = .string r.name := hΦ 2 (by decide) (by decide)
      obtain rfl : x23 = .map (some (w.heap.size + 1)) := hΦ 3 (by decide) (by decide)
      obtain rfl : x24 = .pointer (some ⟨b7, 0, none⟩) := hΦ 4 (by decide) (by decide)
      obtain rfl : x25 = .string r.name := hΦ 5 (by decide) (by decide)
      obtain rfl : x26 = .slice AL nL cL := hΦ 6 (by decide) (by decide)
      obtain rfl : x27 = .agg #[.string r.name, .slice Aa r.args.length ca, .int .i64 r.stamp] := hΦ 7 (by decide) (by decide)
      have hx29 : (fun v W => Own W wm.heap.size 45 3 v (selN (cssm.take k) (mr.take k) r.name ++ [[.string r.name, .slice Aa r.args.length ca, .int .i64 r.stamp]]) ∧ ∀ k, v.ownBlock = some k → (Value.slice AL nL cL).ownBlock = some k ∨ wd.heap.size ≤ k : Value → World → Prop) x29 W3 := hΦ 9 (by decide) (by decide)
      simp only [putsL, List.zip_cons_cons, List.zip_nil_left, List.zip_nil_right, List.zip, List.zipWith, Act.put, List.setIfInBounds_toArray, List.set_cons_succ, List.set_cons_zero]
      clear hΦ hl hst
      obtain ⟨hown, hblk⟩ := hx29
      obtain ⟨W4, m', hrun, hm4, hlk4, hc4⟩ := run_updM (HBd.out.map.chg hJ.1 (fun h => by have := (HOd.out.lt h).1; omega)) r.name x29
      have hbn4 := HBd.out.step (W1 := W3) (W2 := W4) (by rw [List.length_take, List.length_take, HMcs.out.1]) hbmlt hown (by rw [HvL.out]; exact hJ.1) (by rw [HvL.out]; exact hblk) hm4 hlk4 hc4
      rw [← take_succ_get Hcs.out, ← take_succ_get Hr.out] at hbn4
      have hcn : Chg wm W4 (fun k => k = w.heap.size + 1) := (HCd.out.trans hJ.1 (fun k hk h => by have := (HOd.out.lt h).1; omega)).trans hc4 (fun k _ h => h)
      have HBn4 := Lib.hid hbn4
      have HCn := Lib.hid hcn
      obtain ⟨A9, n9, c9, rfl⟩ : ∃ A n c, x29 = .slice A n c := by obtain ⟨A, c, h, _⟩ := hown.form; exact ⟨A, _, c, h⟩
      clear hown hblk hm4 hlk4 hc4 hbn4 hcn hJ HBd HOd HCd HB7
      refine AtN.list 10 11 (by kernel_rfl) ?_
      change wpList _ _ _ [_] _ _
      go_wp2_with fail
      change AtN _ _ _ 11 _ _
      refine AtN.done rfl ?_
      go_wp2_with fail
      go_roundw
      case rel => exact ⟨k + 1, m', by omega, by go_num, HBn4.out, HCn.out⟩
      case measure => simp [intOf]; omega
    · have hbn : ByName wr wm.heap.size (w.heap.size + 1) m cssm mr := by
        have h := HBn.out
        rwa [List.take_of_length_le (by rw [HMcs.out.1]; omega), List.take_of_length_le (by omega)] at h
      have hbmlt : w.heap.size + 1 < wm.heap.size := by have := HN2.out.size; have := HZ1.out; omega
      have hN1m : New w wm := HN1.out.trans HN2.out (fun _ _ x => x)
      have hNr : New w wr := hN1m.put HCr.out (by omega)
      have hokm : ∀ r ∈ mr, ∀ v ∈ r.args, okW v := fun r hr => HOkr.out r (HMrg.out.sub r hr)
      have hD : Dat wr (w.heap.size + 1) m mr := hbn.dat (HMcs.out.chgT HCr.out (fun k hk => by subst hk; obtain ⟨es, cl, hh, _⟩ := HMap.out.chg HN2.out id; exact ⟨es, cl, hh⟩)) (Nat.le_trans hm3 hr1) hokm
      have HD := Lib.hid hD
      have HNr := Lib.hid hNr
      have HOkm := Lib.hid hokm
      obtain ⟨w4, hw4⟩ : ∃ w4, w4 = wr.alloc (.cells #[.slice none 0 0] 29) := ⟨_, rfl⟩
      have hn4 : New wr w4 := by rw [hw4]; exact (Chg.refl _ _).alloc _
      have hb8 : Blk w4 wr.heap.size 29 #[.slice none 0 0] := by rw [hw4]; exact Blk.new _ _ _
      have hb24 := ((HB2.out.chg HN2.out id).chg HCr.out (by omega)).chg hn4 id
      have c5 := hb24.cell 5
      simp only [List.getElem?_toArray, List.getElem?_cons_zero, List.getElem?_cons_succ] at c5
      have HW4 := Lib.hid hw4
      have HN4 := Lib.hid hn4
      have HB8 := Lib.hid hb8
      have HB24 := Lib.hid hb24
      obtain ⟨b8, hbe⟩ : ∃ b, wr.heap.size = b := ⟨_, rfl⟩
      have Hbe := Lib.hid hbe
      have hzr := HCr.out.size
      clear hbn hbmlt hN1m hNr hokm hD hw4 hn4 hb8 hb24 hbe HBn HCr
      go_upto_region 8 with fail
      rw [← HW4.out]
      rw [Hbe.out] at HB8 ⊢
      go_wp2_with (go_at_call 19; refine (ways_made _ _ _ _ _ _ _).mono ?_; rintro e w5 ⟨rfl, hN5, k1, k2, k3, k4⟩; have HN5 := Lib.hid hN5; have J1 := Lib.hid k1; have J2 := Lib.hid k2; have J3 := Lib.hid k3; have J4 := Lib.hid k4; clear hN5 k1 k2 k3 k4 c5)
      have HN45 := Lib.hid (HN4.out.trans HN5.out (fun _ _ x => x))
      have HNw5 := Lib.hid (HNr.out.trans HN45.out (fun _ _ x => x))
      have hb8l : b8 < w4.heap.size := HB8.out.lt
      have hb8r := Hbe.out
      have hb8w : w.heap.size < b8 := by have := HN2.out.size; have := HZ1.out; omega
      have HB85 := Lib.hid (HB8.out.chg HN5.out id)
      have HB25 := Lib.hid (HB24.out.chg HN5.out id)
      have h5l : b8 < w5.heap.size := Nat.lt_of_lt_of_le hb8l HN5.out.size
      have hFS0 : ∀ k, FS b8 (.slice none 0 0) [] k → k = b8 := fun k hk => by
        rcases hk with h | h | ⟨cs, hcs, _⟩
        · exact h
        · cases h
        · cases hcs
      have HFS0 := Lib.hid hFS0
      refine wp_range (gf := 36) (lb := #[.pointer (some ⟨w4.heap.size + 1, 0, none⟩), .pointer (some ⟨w4.heap.size + 1 + 1, 0, none⟩), .pointer (some ⟨w4.heap.size, 0, none⟩)]) (enc := StAt) (xs := waysV mr Ls ([], forever)) (S := FS b8 (.slice none 0 0) []) rfl (enters_of Try.func36 (by kernel_rfl) rfl)
        (FJ w5 w5.heap.size b8 h ts) (fun _ _ _ _ => False) (FJ.acc (Nat.le_refl _) h5l) (fun c => ⟨fun h => h.elim, fun h => h.elim⟩) ?hseq ⟨.slice none 0 0, [], rfl, HB85.out, Own.nil _ _ _ _, ⟨rfl, fun i cs hi => by simp at hi⟩, Chg.refl _ _⟩ (fun h hs => h.less hs) ?round ?done ?stop
      case hseq =>
        intro Jx' hJx'
        have hok0 : okEnv ([] : Env) := fun p hp => by cases hp
        exact ways_gives HD.out Ls HOkL.out w5 HN45.out _ (fun k hk => by have := hFS0 k hk; omega) Jx' hJx' _ _ _ Ab nb cb cssb J2.out (fun h => by have := hFS0 _ h; omega) Hnb.out hnc hcm (HLs.out.chg HNr.out) ([], forever) none 0 J3.out (fun h => by have := hFS0 _ h; omega) ⟨none, 0, rfl, Nat.le_refl _, by unfold maxLen; omega, fun hp => by simp at hp, fun a ha => by cases ha⟩ hok0 J1.out (fun h => by have := hFS0 _ h; omega) (by have := Hsz.out; simpa using this)
      case stop =>
        rintro D0 c0 pre x rest S' W hx hD hDe hf
        exact hf.elim
      case done =>
        rintro D0 S' W hD hDe ⟨v, cso, rfl, h1, h2, h3, h4⟩ hc hs hnD
        have hrl : cso.length ≤ 1000000 := by
          have h9 := HMany.out mr HMrg.out
          have h10 := h3.1
          have h11 := List.length_filterMap_le (headV h ts) (waysV mr Ls ([], forever))
          omega
        have hNW : New w W := HNw5.out.trans h4 (fun k hk h => by omega)
        have hrs := h2.rowSl h3.cs (by rw [← h3.1]; exact hrl)
        obtain ⟨Ao, co, csso, rfl, q1, q2, q3, q4, q5, q6⟩ := hrs
        have hmg := (merged_rows W Ao co csso _ q1 q2 q3 q4 q5 q6).mono (fun e w' hp => mrg_get hp)
        have c8 := h1.cell 0
        simp only [List.getElem?_toArray, List.getElem?_cons_zero] at c8
        have HMg2 := Lib.hid hmg
        have HNW := Lib.hid hNW
        have HDe := Lib.hid hDe
        clear hmg h1 h2 h3 h4 hc hs hnD hDe q4 q5 q6
        go_wp2_with (go_at_call 18; refine HMg2.out.mono ?_; rintro e W8 ⟨A8, c8', css8, out, rfl, p1, p2, p3, p4, p5, p6, p7, p8⟩; have P1 := Lib.hid p1; have P2 := Lib.hid p2; have P4 := Lib.hid p4; have P5 := Lib.hid p5; have P6 := Lib.hid p6; have P7 := Lib.hid p7; have P8 := Lib.hid p8; clear p1 p2 p4 p5 p6 p7 p8 c8)
        have hde8 := (P7.out.block D0 (lt_of_heap HDe.out) id).trans HDe.out
        refine leave_one rfl hde8 ?_
        have hcp : Chg W8 (W8.putObj D0 (.deferred none)) (fun k => k = D0) := (Chg.of_grown (grownBy_putObj' W8 D0 _)).mono fun k _ h => by cases h; rfl
        refine ⟨mr, _, out, HMrg.out, P6.out, rfl, ⟨A8, c8', css8, rfl, Nat.le_trans p3 q1, P1.out, P2.out, fun hp => ?_, P5.out.chgD hcp hde8, fun a ha => Nat.lt_of_lt_of_le (P8.out a ha).1 hcp.size⟩, Chg.put (HNW.out.trans P7.out (fun _ _ x => x)) hcp (by have := HNw5.out.size; omega)⟩
        exact srcAt_chgD P4.out hp hcp hde8
      case round =>
        rintro l1 pre x rest S1 v Wr hx hl1 hl2 hlr hl3 hI hsv
        obtain ⟨Ax, cx, rfl⟩ := hsv.cells
        have hokx := ways_ok HOkm.out HOkL.out (s := ([], forever)) (fun p hp => by cases hp) (show x ∈ waysV mr Ls ([], forever) by rw [hx]; simp)
        have hlen : pre.length ≤ 1000000 := by
          have := HMany.out mr HMrg.out
          rw [hx, List.length_append] at this
          omega
        have Hsv := Lib.hid hsv
        have HLr := Lib.hid hlr
        have HOkx := Lib.hid hokx
        clear hsv hlr hokx hx hI
        simp only [List.setIfInBounds_toArray, List.set_cons_succ, List.set_cons_zero]
        refine wpIn_region_lit ?_
        refine liftK (Wd.round l1) 2 (by rfl) ?_
        change wpList _ _ _ [_, _] _ _
        go_wp2_with ((with_reducible refine wpl_box rfl rfl 9 (.tmp 36) 66 rfl rfl rfl rfl stSta zSta [.slice Ax x.1.length cx, .int .i64 x.2] ?_ ?_ rfl (sta_one _ _ _ _) ?_); exact (by decide : 9 < 50); exact rfl; intro w6 hc6 hb6 hs6; have HC6 := Lib.hid hc6; have HB9 := Lib.hid hb6; clear hc6 hb6 hs6)
        refine wpListIn_nil ?_
        refine ⟨HC6.out, fun W2 hcW hcA rr hrr hI2 => ?_⟩
        have HB9b := Lib.hid (HB9.out.chg hcA (fun h => by omega))
        have HSx := Lib.hid (Hsv.out.rec HLr.out hcW)
        have HI2 := Lib.hid hI2
        obtain ⟨v2, cso, hS1, k1, k2, k3, k4⟩ := hI2
        have hNW : New w W2 := HNw5.out.trans k4 (fun k hk h => by omega)
        have HNW := Lib.hid hNW
        have HB22 := Lib.hid (HB25.out.chg k4 (by omega))
        have hst2 := HSx.out
        have hxl : x.1.length ≤ 1000 := by
          have h9 : x.1.length ≤ (Ls.map Lt.size).sum := by simpa using HOkx.out.2
          have := Hsz.out
          omega
        have HHd := Lib.hid (head_val w W2 hNW S1 h r0 r3 r4 (.slice Ab nb cb) A n c css ts Hn.out hnm HTs.out HOkt.out x Ax cx hst2 HOkx.out.1 hxl)
        obtain ⟨b9, hb9⟩ : ∃ b, Wr.heap.size = b := ⟨_, rfl⟩
        rw [hb9] at HB9b ⊢
        have K1 := Lib.hid k1
        have K2 := Lib.hid k2
        have K3 := Lib.hid k3
        have K4 := Lib.hid k4
        have HS1 := Lib.hid hS1
        clear hcW hcA hrr hNW hst2 HB9 HC6 k1 k2 k3 k4 hS1
        gi_step
        gi_step
        gi_step
        refine wpIn_region_lit ?_
        refine liftK (Wd.round l1) 9 (by rfl) ?_
        change wpList _ _ _ [_, _, _, _, _, _, _, _, _] _ _
        obtain ⟨o, ho⟩ : ∃ o, headV h ts x = o := ⟨_, rfl⟩
        rw [ho] at HHd
        have Ho := Lib.hid ho
        clear ho
        cases o with
        | none =>
          go_wp2_with first
            | ((with_reducible refine wpl_load rfl (.tmp 2) 27 rfl stRule ⟨w.heap.size, 0, none⟩ [r0, .string h, .slice A n c, r3, r4, .slice Ab nb cb] ?_ rfl HB22.out.at_ ?_); exact rfl)
            | ((with_reducible refine wpl_load rfl (.tmp 9) 66 rfl stSta ⟨b9, 0, none⟩ [.slice Ax x.1.length cx, .int .i64 x.2] ?_ rfl HB9b.out.at_ ?_); exact rfl)
            | (go_at_call 20; refine HHd.out.mono ?_; rintro e W6 ⟨hc6, ⟨_, ya, yb, yc, ha, hb, hcc, rfl⟩ | ⟨_, _, hx, _⟩⟩; (rotate_left; cases hx); have HC6 := Lib.hid hc6; have Hya := Lib.hid ha; have Hyb := Lib.hid hb; have Hyc := Lib.hid hcc; clear hc6 ha hb hcc)
            | ((with_reducible refine wpl_box rfl rfl 10 (.tmp 41) 45 rfl rfl rfl rfl stRow zRow [ya, yb, yc] ?_ ?_ rfl (three_one Hya.out Hyb.out Hyc.out) ?_); exact (by decide : 10 < 50); exact rfl; intro W7 hc7 hb7 hs7; have HC7 := Lib.hid (HC6.out.trans hc7 (fun _ _ x => x)); clear hc7 hb7 hs7)
          refine wpListIn_nil ?_
          gi_wp2
          exact FJ.new h5l (Nat.le_refl _) ⟨v2, cso, HS1.out, K1.out, K2.out, K3.out, K4.out⟩ HC7.out Ho.out
        | some r =>
          go_wp2_with first
            | ((with_reducible refine wpl_load rfl (.tmp 2) 27 rfl stRule ⟨w.heap.size, 0, none⟩ [r0, .string h, .slice A n c, r3, r4, .slice Ab nb cb] ?_ rfl HB22.out.at_ ?_); exact rfl)
            | ((with_reducible refine wpl_load rfl (.tmp 9) 66 rfl stSta ⟨b9, 0, none⟩ [.slice Ax x.1.length cx, .int .i64 x.2] ?_ rfl HB9b.out.at_ ?_); exact rfl)
            | (go_at_call 20; refine HHd.out.mono ?_; rintro e W6 ⟨hc6, ⟨hx, _⟩ | ⟨r', va, hx, hro, rfl⟩⟩; (cases hx); obtain rfl := Option.some.inj hx; clear hx; have HC6 := Lib.hid hc6; have HRo := Lib.hid hro; have Hva := Lib.hid (own_slice hro.2.2); clear hc6 hro)
            | ((with_reducible refine wpl_box rfl rfl 10 (.tmp 41) 45 rfl rfl rfl rfl stRow zRow [.string r.name, va, .int .i64 r.stamp] ?_ ?_ rfl (row_oneV _ _ Hva.out) ?_); exact (by decide : 10 < 50); exact rfl; intro W7 hc7 hb7 hs7; have HC7 := Lib.hid (HC6.out.trans hc7 (fun _ _ x => x)); have HB10 := Lib.hid hb7; have HRo7 := Lib.hid (HRo.out.chg hc7 (fun _ _ x => x)); clear hc7 hb7 hs7)
          refine wpListIn_nil ?_
          obtain ⟨b10, hb10⟩ : ∃ b, W6.heap.size = b := ⟨_, rfl⟩
          rw [hb10] at HB10 ⊢
          clear hb10
          have c8 := (K1.out.chg HC7.out id).cell 0
          simp only [List.getElem?_toArray, List.getElem?_cons_zero] at c8
          gi_step
          gi_step
          gi_step
          refine wpIn_region_lit ?_
          refine liftK (Wd.round l1) 1 (by rfl) ?_
          change wpList _ _ _ [_] _ _
          go_wp2_with fail
          refine wpListIn_nil ?_
          gi_step
          gi_step
          gi_step
          refine wpIn_region_lit ?_
          refine liftK (Wd.round l1) 5 (by rfl) ?_
          change wpList _ _ _ [_, _, _, _, _] _ _
          have hk7 : cso.length ≤ 1000000 := by
            have h1 := K3.out.1
            have h2 := List.length_filterMap_le (headV h ts) pre
            omega
          obtain ⟨w8, hw8⟩ : ∃ w8, w8 = W7.alloc (.cells #[.string r.name, va, .int .i64 r.stamp] 45) := ⟨_, rfl⟩
          have hn8 : New W7 w8 := by rw [hw8]; exact (Chg.refl _ _).alloc _
          have hbr : Blk w8 W7.heap.size 45 #[.string r.name, va, .int .i64 r.stamp] := by rw [hw8]; exact Blk.new _ _ _
          have hc78 := HC7.out.trans hn8 (fun _ _ x => x)
          have hz5 := K4.out.size
          have hrun := elRow.appendS (K2.out.chg hc78 (fun _ _ x => x)) (Nat.le_trans hz5 hc78.size) (some ⟨W7.heap.size, 0, none⟩) 1 1 [[.string r.name, va, .int .i64 r.stamp]] rfl (fun cs hc => by rw [List.mem_singleton.1 hc]; rfl) (fun cs hc => by rw [List.mem_singleton.1 hc]; exact row_oneV _ _ Hva.out) (src_one hbr.at_ rfl) (by omega) (by unfold maxLen; omega) 29
          obtain ⟨v9, w9, hrun, hown9, hc9, hblk9⟩ := hrun
          have hlt2 : ∀ g, v2.ownBlock = some g → w5.heap.size ≤ g ∧ g < W2.heap.size := fun g hg => K2.out.lt hg
          have hb89 := (K1.out.chg hc78 id).chg hc9 (fun e => by have := (hlt2 _ e).1; omega)
          have hrows9 := (K3.out.new hc78).chg (K2.out.chg hc78 (fun _ _ x => x)) (by decide) hc9
          have hro9 : OwnRow w9 w5.heap.size [.string r.name, va, .int .i64 r.stamp] r va := by
            obtain ⟨q1, q2, q3⟩ := (HRo7.out.chg hn8 (fun _ _ x => x)).chg hc9 (fun g hg e => own_ne_own (K2.out.chg hc78 (fun _ _ x => x)) (HRo7.out.chg hn8 (fun _ _ x => x)).2.2 (by decide) e hg)
            exact ⟨q1, q2, q3.base hz5⟩
          have hval : ∀ g, va.ownBlock = some g → W2.heap.size ≤ g := fun g hg => (HRo7.out.2.2.lt hg).1
          obtain ⟨A9, c9, rfl, _, _⟩ := hown9.form
          rw [hw8] at hrun
          have Hrun := Lib.hid hrun
          have Hown9 := Lib.hid hown9
          have Hrows9 := Lib.hid (hrows9.snoc hro9)
          have HB89 := Lib.hid hb89
          have HC29 := Lib.hid ((hc78.mono (T' := fun k => v2.ownBlock = some k) fun _ _ h => h.elim).trans hc9 (fun k _ h => h))
          have HC59 := Lib.hid ((K4.out.trans (hc78.mono (T' := fun k => k = b8) fun _ _ h => h.elim) (fun k _ h => h)).trans hc9 (fun k hk e => by have := (hlt2 _ e).1; omega))
          have Hblk9 := Lib.hid hblk9
          have c89 := hb89.cell 0
          have f89 := hb89.frozen 0
          simp only [List.getElem?_toArray, List.getElem?_cons_zero] at c89
          have Hz8 := Lib.hid (hc78.size)
          clear hw8 hn8 hbr hc78 hrun hown9 hc9 hblk9 hb89 hrows9 hro9
          go_wp2_with first
            | ((with_reducible refine wpl_load rfl (.tmp 10) 45 rfl stRow ⟨b10, 0, none⟩ [.string r.name, va, .int .i64 r.stamp] ?_ rfl HB10.out.at_ ?_); exact rfl)
            | ((with_reducible refine wpl_append rfl (.tmp 44) (.tmp 46) 29 29 rfl ?_ ?_ Hrun.out ?_); exact rfl; exact rfl)
          refine wpListIn_nil ?_
          gi_wp2
          have hs1 := HS1.out
          have hfin : Stp (FJ w5 w5.heap.size b8 h ts) (pre ++ [x]) S1 W2 (w9.setCell ⟨b8, 0, none⟩ (.slice A9 (cso.length + 1) c9)) := by
            have ho := Hown9.out
            rw [List.length_append] at ho
            have hcb : Chg w9 (w9.setCell ⟨b8, 0, none⟩ (.slice A9 (cso.length + 1) c9)) (fun k => k = b8) := (Chg.refl _ _).setCell _ _ (fun _ => rfl)
            refine ⟨FS b8 (.slice A9 (cso.length + 1) c9) (cso ++ [[.string r.name, va, .int .i64 r.stamp]]), ⟨_, _, rfl, by simpa using HB89.out.setCell 0 (.slice A9 (cso.length + 1) c9), ho.chg hcb (fun g hg e => by have := (ho.lt hg).1; omega), ?_, HC59.out.trans hcb (fun k _ h => h)⟩, ?_, ?_⟩
            · rw [List.filterMap_append, List.filterMap_cons_some Ho.out, List.filterMap_nil]
              exact Hrows9.out.chgB hcb (fun k e => by omega)
            · refine (HC29.out.mono fun k _ e => ?_).trans hcb (fun k _ e => ?_)
              · rw [hs1]; exact .inr (.inl e)
              · rw [hs1]; exact .inl e
            · rintro k (rfl | e | ⟨cs, hcs, u, hu, e⟩)
              · rw [hs1]; exact .inl (.inl rfl)
              · rcases Hblk9.out k (by rw [List.length_append]; exact e) with e | e
                · rw [hs1]; exact .inl (.inr (.inl e))
                · exact .inr (Nat.le_trans Hz8.out e)
              · rcases List.mem_append.1 hcs with hcs | hcs
                · rw [hs1]; exact .inl (.inr (.inr ⟨cs, hcs, u, hu, e⟩))
                · rw [List.mem_singleton.1 hcs] at hu
                  simp only [List.mem_cons, List.not_mem_nil, or_false] at hu
                  rcases hu with rfl | rfl | rfl
                  · cases e
                  · exact .inr (hval k e)
                  · cases e
          exact hfin
end Go.Proofs.Ytfocjfnkcabbgaa
