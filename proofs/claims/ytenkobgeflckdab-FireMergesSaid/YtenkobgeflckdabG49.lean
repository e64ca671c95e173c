/- fire: atoms$1. -/
import Derived.Test.YtenkobgeflckdabGvP
import Derived.Test.YtenkobgeflckdabMrgW
set_option linter.unusedVariables false
set_option linter.unusedSimpArgs false
namespace Go.Proofs.Ytenkobgeflckdab
open Go.RowKit Go.Shelf

theorem row_one (s : ByteArray) (A : Option Addr) (n c : Nat) (i : Int) : ∀ u ∈ [Value.string s, Value.slice A n c, .int .i64 i], u.oneCell' = true := by
  intro u hu
  simp only [List.mem_cons, List.not_mem_nil, or_false] at hu
  rcases hu with rfl | rfl | rfl <;> rfl

set_option maxHeartbeats 4000000 in
set_option maxRecDepth 100000 in
theorem g49 (w0 w : World) (hw0 : New w0 w) (S : Nat → Prop) (hS0 : ∀ k, S k → w0.heap.size ≤ k) (Jx : List Sta → (Nat → Prop) → World → Prop) (b1 b2 b3 bm : Nat) (m : List (ByteArray × Value)) (rs : List Rw)
    (h1 : w.cell? ⟨b1, 0, none⟩ = some (.map (some bm))) (n1 : ¬ S b1) (hm : MapAt w0 bm m) (kd : Int) (nm : ByteArray) (A : Option Addr) (n c : Nat) (css : List (List Value)) (ts : List Tm)
    (h2 : At w ⟨b2, 0, none⟩ [.int .i64 kd, .string nm, .slice A n c]) (n2 : ¬ S b2) (hn : n = ts.length) (hts : TmsAt w0 A css ts) (hokt : ∀ t ∈ ts, okTm t)
    (hrs : RowSl w0 (lookM m nm) rs) (hokr : ∀ r ∈ rs, ∀ v ∈ r.args, okW v)
    (s : Sta) (Ae : Option Addr) (ce : Nat) (h3 : At w ⟨b3, 0, none⟩ [.slice Ae s.1.length ce, .int .i64 s.2]) (n3 : ¬ S b3) (hst : StAt s (.agg #[.slice Ae s.1.length ce, .int .i64 s.2]) S w) (hok : okEnv s.1) (hm1 : s.1.length + ts.length ≤ 1000) :
    ItGives Try.prog 49 #[.pointer (some ⟨b1, 0, none⟩), .pointer (some ⟨b2, 0, none⟩), .pointer (some ⟨b3, 0, none⟩)] StAt (rs.filterMap (atomS ts s)) S w Jx := by
  intro l J S' W hA hJ hc hS hy
  have hS0' : ∀ k, S' k → w0.heap.size ≤ k := fun k hk => by
    rcases hS k hk with h | h
    · exact hS0 k h
    · exact Nat.le_trans hw0.size h
  have hN0 : New w0 W := hw0.trans hc (fun k hk h => by have := hS0 k h; omega)
  have hst' := hst.chg hc hS
  have c1 := hc.cellS h1 n1
  have c2 := h2.chg hc n2
  have c3 := h3.chg hc n3
  have l2 : b2 < w.heap.size := World.block_lt_of_cell? w _ (h2 0 _ rfl)
  have l3 : b3 < w.heap.size := World.block_lt_of_cell? w _ (h3 0 _ rfl)
  have n2' : ¬ S' b2 := fun h => by rcases hS _ h with h | h; exact n2 h; omega
  have n3' : ¬ S' b3 := fun h => by rcases hS _ h with h | h; exact n3 h; omega
  obtain ⟨Ar, cr, rcs, hrv, hrl, hrc, hrm, hrsrc, hrcs, hra⟩ := hrs
  have hlk := run_lookM (hm.chg hN0 id) nm
  rw [hrv] at hlk
  obtain ⟨mr, hmr⟩ : ∃ mr, rs.length = mr := ⟨_, rfl⟩
  rw [hmr] at hlk hrl hrc
  have HN0 := Lib.hid hN0
  have HLk := Lib.hid hlk
  have HMr := Lib.hid hmr
  have HC2 := Lib.hid c2
  have HC3 := Lib.hid c3
  have HY := Lib.hid hy
  have HA := Lib.hid hA
  have HJ := Lib.hid hJ
  have HSt := Lib.hid hst'
  have HS0 := Lib.hid hS0'
  have Hrs := Lib.hid hrsrc
  have Hrc := Lib.hid hrcs
  have HN := Lib.hid hn
  have Hts := Lib.hid hts
  have Hokt := Lib.hid hokt
  have Hokr := Lib.hid hokr
  have Hok := Lib.hid hok
  have Hc := Lib.hid hc
  have HSS := Lib.hid hS
  have e2 := c2 1 _ rfl
  rw [Addr.add_lit] at e2
  clear hN0 hlk hmr c2 c3 hy hA hJ hst' hS0' hrsrc hrcs hn hts hokt hokr hok hc hS hrv hra hm h1 h2 h3 hst hw0 hS0
  refine callsIn_of_wp Try.func49 rfl trivial ?_ rfl
  refine wpIn_wide.2 ?_
  simp only [Try.ntmps49, List.size_toArray, List.length_cons, List.length_nil, Nat.reduceAdd, Nat.reduceSub, Array.replicate_succ, Array.replicate_zero, List.push_toArray, List.append_toArray, List.nil_append, List.cons_append]
  have hlk := HLk.out
  go_wp2_with fail
  clear hlk HLk c1 e2
  go_loopw [14] (fun u14 wr => ∃ k : Nat, k ≤ mr ∧ u14 = .int .i64 k ∧ Stp J ((rs.take k).filterMap (atomS ts s)) S' W wr) (fun u _ => mr - (intOf u).toNat)
  case atStart => exact ⟨0, Nat.zero_le _, rfl, S', HJ.out, Chg.refl _ _, fun k hk => .inl hk⟩
  case round =>
    obtain ⟨k, hk, rfl, S1, hJ1, hc1, hS1⟩ := hrel
    have HJ1 := Lib.hid hJ1
    have HC1 := Lib.hid hc1
    have HS1 := Lib.hid hS1
    have hn0 : New w0 wr := HN0.out.trans hc1 (fun k hk h => by have := HS0.out k h; omega)
    have HN1 := Lib.hid hn0
    clear hJ1 hc1 hS1 hn0
    by_cases hlt : k < mr
    · obtain ⟨r, hr⟩ : ∃ r, rs[k]? = some r := ⟨_, List.getElem?_eq_getElem (by rw [HMr.out]; exact hlt)⟩
      obtain ⟨cs, hcs⟩ : ∃ cs, rcs[k]? = some cs := ⟨_, List.getElem?_eq_getElem (by rw [Hrc.out.1, HMr.out]; exact hlt)⟩
      obtain ⟨ar, rfl, hrw⟩ := Hrs.out (by rw [Hrc.out.1, HMr.out]; omega)
      have hat := (hrw k cs hcs).2.chg HN1.out id
      obtain ⟨r', hr', hrow⟩ := Hrc.out.2 k cs hcs
      obtain rfl : r = r' := Option.some.inj (hr.symm.trans hr')
      obtain ⟨Aa, ca, rfl, ha1, ha2, ha3, hasrc, hab⟩ := hrow
      have hokr := Hokr.out r (List.mem_of_getElem? hr)
      have Hat := Lib.hid hat
      have Hasrc := Lib.hid (hasrc.chg HN1.out (fun _ _ => id))
      have HC21 := Lib.hid (HC2.out.chg HC1.out n2')
      have HC31 := Lib.hid (HC3.out.chg HC1.out n3')
      have hst1 := HSt.out.chg HC1.out HS1.out
      have HSt1 := Lib.hid hst1
      have Hr := Lib.hid hr
      have HokR := Lib.hid hokr
      clear hat hasrc hr' hrw hcs hst1 hr hokr hab
      have e2 := HC21.out 2 _ rfl
      have e3 := HC31.out 0 _ rfl
      have e4 := HC31.out 1 _ rfl
      rw [Addr.add_lit] at e2 e3 e4
      have hM : ∀ w4, New wr w4 → Calls Try.prog 50 #[.slice A n c, .slice Aa r.args.length ca, .slice Ae s.1.length ce] w4 (MatchPost w4 (matchV ts r.args s.1)) := fun w4 h4 => by
        obtain ⟨A', c', he, _, _, hse, hbe⟩ := HSt1.out
        obtain ⟨rfl, rfl⟩ : Ae = A' ∧ ce = c' := by
          injection he with he
          injection he with he
          injection he with h1 h2
          injection h1 with h1 _ h3
          exact ⟨h1, h3⟩
        exact match_env w4 A n c css ts HN.out (Hts.out.chg (HN1.out.trans h4 (fun _ _ x => x))) Hokt.out Aa r.args.length ca r.args rfl (Hasrc.out.chg h4 (fun _ _ => id)) HokR.out Ae s.1.length ce s.1 rfl (hse.chg h4 (fun _ _ => id)) (fun a ha => Nat.lt_of_lt_of_le (hbe a ha).1 h4.size) Hok.out hm1 (by unfold maxLen; omega)
      have HM := Lib.hid hM
      obtain ⟨o, ho⟩ : ∃ o, matchV ts r.args s.1 = o := ⟨_, rfl⟩
      have hos : atomS ts s r = o.map (fun e => (e, minI s.2 r.stamp)) := by unfold atomS; rw [ho]
      rw [ho] at HM
      have Hos := Lib.hid hos
      clear hM ho hos
      cases o with
      | none =>
        go_wp2_with first
          | ((with_reducible refine wpl_load rfl (.tmp 16) 30 rfl stRow (ar.add (k * 3)) _ ?_ rfl Hat.out ?_); exact rfl)
          | ((with_reducible refine wpl_box rfl rfl 6 (.tmp 17) 30 rfl rfl rfl rfl stRow zRow [.string r.name, .slice Aa r.args.length ca, .int .i64 r.stamp] ?_ ?_ rfl (row_one _ _ _ _ _) ?_); exact (by decide : 6 < 42); exact rfl; intro w4 hc4 hb4 hs4; have HC4 := Lib.hid hc4; have HB4 := Lib.hid hb4; have g2 := hc4.cellS e2 id; have g3 := hc4.cellS e3 id; have g4 := hc4.cellS e4 id; have g5 := hb4.cell 1; have g6 := hb4.cell 2; simp only [List.getElem?_toArray, List.getElem?_cons_zero, List.getElem?_cons_succ] at g5 g6; clear hc4 hb4 hs4)
          | (go_at_call 50; refine (HM.out _ HC4.out).mono ?_; rintro e w5 ⟨hc5, ⟨_, rfl⟩ | ⟨_, _, hx, _⟩⟩; (rotate_left; cases hx); have HC5 := Lib.hid (HC4.out.trans hc5 (fun _ _ x => x)); clear hc5 g2 g3 g4 g5 g6)
        go_roundw
        case rel => exact ⟨k + 1, by omega, by go_num, by rw [filterMap_take_none Hr.out Hos.out]; exact ⟨S1, HA.out.chg HJ1.out (HC5.out.mono fun _ _ h => h.elim), HC1.out.trans HC5.out (fun _ _ h => h.elim), HS1.out⟩⟩
        case measure => simp [intOf]; omega
      | some e =>
        go_upto_region 4 with first
          | ((with_reducible refine wpl_load rfl (.tmp 16) 30 rfl stRow (ar.add (k * 3)) _ ?_ rfl Hat.out ?_); exact rfl)
          | ((with_reducible refine wpl_box rfl rfl 6 (.tmp 17) 30 rfl rfl rfl rfl stRow zRow [.string r.name, .slice Aa r.args.length ca, .int .i64 r.stamp] ?_ ?_ rfl (row_one _ _ _ _ _) ?_); exact (by decide : 6 < 42); exact rfl; intro w4 hc4 hb4 hs4; have HC4 := Lib.hid hc4; have HB4 := Lib.hid hb4; have g2 := hc4.cellS e2 id; have g3 := hc4.cellS e3 id; have g4 := hc4.cellS e4 id; have g5 := hb4.cell 1; have g6 := hb4.cell 2; simp only [List.getElem?_toArray, List.getElem?_cons_zero, List.getElem?_cons_succ] at g5 g6; clear hc4 hb4 hs4)
          | (go_at_call 50; refine (HM.out _ HC4.out).mono ?_; rintro e w5 ⟨hc5, ⟨hx, _⟩ | ⟨e', v, hx, rfl, hown⟩⟩; (cases hx); obtain rfl := Option.some.inj hx; obtain ⟨Av, cv, rfl, hv1, hv2⟩ := hown.form; have hvr := (hown.rows rfl).2; have hvb := fun g hg => hown.lt (g := g) hg; rw [List.length_map] at hv1; have HVr := Lib.hid hvr; have HVb := Lib.hid hvb; have HC5 := Lib.hid (HC4.out.trans hc5 (fun _ _ x => x)); have HL4 := Lib.hid HC4.out.size; have k3 := hc5.cellS g3 id; have k4 := hc5.cellS g4 id; have k6 := hc5.cellS g6 id; clear hc5 g2 g3 g4 g5 g6 hx hown hvr hvb HB4 HC4)
        have hJ5 : J ((rs.take k).filterMap (atomS ts s)) S1 w5 := HA.out.chg HJ1.out (HC5.out.mono fun _ _ h => h.elim)
        have hst5 : StAt (e, minI s.2 r.stamp) (.agg #[.slice Av e.length cv, .int .i64 (minI s.2 r.stamp)]) S1 w5 := by
          refine ⟨Av, cv, rfl, hv1, hv2, ?_, fun a ha => ?_⟩
          · exact HVr.out
          · obtain ⟨hb1, hb2⟩ := HVb.out a.block (by rw [ha]; rfl)
            refine ⟨hb2, fun h => ?_⟩
            have := HA.out.lt HJ1.out _ h
            have := HL4.out
            omega
        have hyl := HY.out _ _ _ S1 _ w5 (filterMap_at Hr.out Hos.out) hJ5 hst5
        obtain ⟨mi, hmi⟩ : ∃ mi, minI s.2 r.stamp = mi := ⟨_, rfl⟩
        rw [hmi] at hyl
        have hos' : atomS ts s r = some (e, mi) := by rw [Hos.out]; exact congrArg (fun i => some (e, i)) hmi
        have HOs' := Lib.hid hos'
        clear hos'
        have HYl := Lib.hid hyl
        have Hmi := Lib.hid hmi
        have HSt5 := Lib.hid hst5
        clear hJ5 hst5 hyl hmi
        refine (wpIn_wide (n := 0)).1 ?_
        refine wpIn_region_lit ?_
        refine liftK Wd.wide 10 (by rfl) ?_
        change wpList _ _ _ [_, _, _, _, _, _, _, _, _, _] _ _
        go_wp2_with fail
        all_goals
          have hmm := Hmi.out
          unfold minI at hmm
          first | (rw [if_pos (by omega)] at hmm) | (rw [if_neg (by omega)] at hmm)
          subst hmm
          refine wplI_yield Wd.wide rfl (.tmp 30) (.tmp 37) 75 rfl rfl rfl HYl.out ?_
          rintro b W2 hb
          have hbt : b = true → Stp J _ S1 w5 W2 := fun h => by rw [if_pos h] at hb; exact hb
          have hbf : b = false → Stp Jx _ S1 w5 W2 := fun h => by rw [if_neg (by rw [h]; exact Bool.false_ne_true)] at hb; exact hb
          have HBt := Lib.hid hbt
          have HBf := Lib.hid hbf
          clear hbt hbf
          clear hb HYl
          refine liftK Wd.wide 2 (by rfl) ?_
          change wpList _ _ _ [_, _] _ _
          cases b with
          | true =>
            go_wp2_with fail
            refine wpListIn_nil ?_
            go_wp2_with fail
            go_roundw
            case rel =>
              refine ⟨k + 1, by omega, by go_num, ?_⟩
              rw [filterMap_take_some Hr.out HOs'.out]
              exact Stp.then HC1.out HS1.out HC5.out (HBt.out (by trivial))
            case measure => simp [intOf]; omega
          | false =>
            go_wp2_with fail
            refine wpListIn_nil ?_
            go_wp2_with fail
            refine bodyPost_ret (results_none rfl _ _ _) rfl ?_
            exact ⟨⟨_, rfl⟩, .inr ⟨_, _, _, filterMap_at Hr.out HOs'.out, Stp.then HC1.out HS1.out HC5.out (HBf.out (by trivial))⟩⟩
    · go_wp2_with fail
      go_end0
      refine ⟨⟨_, rfl⟩, .inl ⟨S1, ?_, HC1.out, HS1.out⟩⟩
      have h := HJ1.out
      rwa [List.take_of_length_le (by rw [HMr.out]; omega)] at h
end Go.Proofs.Ytenkobgeflckdab
