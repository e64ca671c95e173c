/- fire: atoms$1; fire: atoms; goes at LitNot; fire: goes at LitTest, LitAssign; fire: goes at LitAssign. -/
import Derived.Test.YtfocjfnkcabbgaaGvP
import Derived.Test.YtfocjfnkcabbgaaMrgW
import Derived.ArgAppend
set_option linter.unusedVariables false
set_option linter.unusedSimpArgs false
namespace Go.Proofs.Ytfocjfnkcabbgaa
open Go.RowKit Go.Shelf

theorem row_one (s : ByteArray) (A : Option Addr) (n c : Nat) (i : Int) : ∀ u ∈ [Value.string s, Value.slice A n c, .int .i64 i], u.oneCell' = true := by
  intro u hu
  simp only [List.mem_cons, List.not_mem_nil, or_false] at hu
  rcases hu with rfl | rfl | rfl <;> rfl

set_option maxHeartbeats 4000000 in
set_option maxRecDepth 100000 in
theorem g49 (w0 w : World) (hw0 : New w0 w) (S : Nat → Prop) (hS0 : ∀ k, S k → w0.heap.size ≤ k) (Jx : List Sta → (Nat → Prop) → World → Prop) (b1 b2 b3 bm : Nat) (m : List (ByteArray × Value)) (rs : List Rw)
    (h1 : w.cell? ⟨b1, 0, none⟩ = some (.map (some bm))) (n1 : ¬ S b1) (hm : MapAt w0 bm m) (kd : Int) (nm : ByteArray) (A : Option Addr) (n c : Nat) (css : List (List Value)) (ts : List Tm)
    (h2 : At w ⟨b2, 0, none⟩ [.int .i64 kd, .string nm, .slice A n c]) (n2 : ¬ S b2) (hn : n = ts.length) (hts : TmsAt w0 A css ts) (hokt : ∀ t ∈ ts, okTm t)
    (hrs : RowSl w0 (lookM m nm) rs) (hokr : ∀ r ∈ rs, ∀ v ∈ r.args, okW v)
    (s : Sta) (Ae : Option Addr) (ce : Nat) (h3 : At w ⟨b3, 0, none⟩ [.slice Ae s.1.length ce, .int .i64 s.2]) (n3 : ¬ S b3) (hst : StAt s (.agg #[.slice Ae s.1.length ce, .int .i64 s.2]) S w) (hok : okEnv s.1) (hm1 : s.1.length + ts.length ≤ 1000) :
    ItGives Try.prog 45 #[.pointer (some ⟨b1, 0, none⟩), .pointer (some ⟨b2, 0, none⟩), .pointer (some ⟨b3, 0, none⟩)] StAt (rs.filterMap (atomS ts s)) S w Jx := by
  intro l J S' W hA hJ hc hS hy
  have hS0' : ∀ k, S' k → w0.heap.size ≤ k := fun k hk => by
    rcases hS k hk with h | h
    · exact hS0 k h
    · exact Nat.le_trans hw0.size h
  have hN0 : New w0 W := hw0.trans hc (fun k hk h => by have := hS0 k h; omega)
  have hst' := hst.chg hc hS
  have c1 := hc.cellS h1 n1
  have c2 := h2.chg hc n2
  have c3 := h3.chg hc n3
  have l2 : b2 < w.heap.size := World.block_lt_of_cell? w _ (h2 0 _ rfl)
  have l3 : b3 < w.heap.size := World.block_lt_of_cell? w _ (h3 0 _ rfl)
  have n2' : ¬ S' b2 := fun h => by rcases hS _ h with h | h; exact n2 h; omega
  have n3' : ¬ S' b3 := fun h => by rcases hS _ h with h | h; exact n3 h; omega
  obtain ⟨Ar, cr, rcs, hrv, hrl, hrc, hrm, hrsrc, hrcs, hra⟩ := hrs
  have hlk := run_lookM (hm.chg hN0 id) nm
  rw [hrv] at hlk
  obtain ⟨mr, hmr⟩ : ∃ mr, rs.length = mr := ⟨_, rfl⟩
  rw [hmr] at hlk hrl hrc
  have HN0 := Lib.hid hN0
  have HLk := Lib.hid hlk
  have HMr := Lib.hid hmr
  have HC2 := Lib.hid c2
  have HC3 := Lib.hid c3
  have HY := Lib.hid hy
  have HA := Lib.hid hA
  have HJ := Lib.hid hJ
  have HSt := Lib.hid hst'
  have HS0 := Lib.hid hS0'
  have Hrs := Lib.hid hrsrc
  have Hrc := Lib.hid hrcs
  have HN := Lib.hid hn
  have Hts := Lib.hid hts
  have Hokt := Lib.hid hokt
  have Hokr := Lib.hid hokr
  have Hok := Lib.hid hok
  have Hc := Lib.hid hc
  have HSS := Lib.hid hS
  have e2 := c2 1 _ rfl
  rw [Addr.add_lit] at e2
  clear hN0 hlk hmr c2 c3 hy hA hJ hst' hS0' hrsrc hrcs hn hts hokt hokr hok hc hS hrv hra hm h1 h2 h3 hst hw0 hS0
  refine callsIn_of_wp Try.func45 rfl trivial ?_ rfl
  refine wpIn_wide.2 ?_
  simp only [Try.ntmps45, List.size_toArray, List.length_cons, List.length_nil, Nat.reduceAdd, Nat.reduceSub, Array.replicate_succ, Array.replicate_zero, List.push_toArray, List.append_toArray, List.nil_append, List.cons_append]
  have hlk := HLk.out
  go_wp2_with fail
  clear hlk HLk c1 e2
  go_loopw [14] (fun u14 wr => ∃ k : Nat, k ≤ mr ∧ u14 = .int .i64 k ∧ Stp J ((rs.take k).filterMap (atomS ts s)) S' W wr) (fun u _ => mr - (intOf u).toNat)
  case atStart => exact ⟨0, Nat.zero_le _, rfl, S', HJ.out, Chg.refl _ _, fun k hk => .inl hk⟩
  case round =>
    obtain ⟨k, hk, rfl, S1, hJ1, hc1, hS1⟩ := hrel
    have HJ1 := Lib.hid hJ1
    have HC1 := Lib.hid hc1
    have HS1 := Lib.hid hS1
    have hn0 : New w0 wr := HN0.out.trans hc1 (fun k hk h => by have := HS0.out k h; omega)
    have HN1 := Lib.hid hn0
    clear hJ1 hc1 hS1 hn0
    by_cases hlt : k < mr
    · obtain ⟨r, hr⟩ : ∃ r, rs[k]? = some r := ⟨_, List.getElem?_eq_getElem (by rw [HMr.out]; exact hlt)⟩
      obtain ⟨cs, hcs⟩ : ∃ cs, rcs[k]? = some cs := ⟨_, List.getElem?_eq_getElem (by rw [Hrc.out.1, HMr.out]; exact hlt)⟩
      obtain ⟨ar, rfl, hrw⟩ := Hrs.out (by rw [Hrc.out.1, HMr.out]; omega)
      have hat := (hrw k cs hcs).2.chg HN1.out id
      obtain ⟨r', hr', hrow⟩ := Hrc.out.2 k cs hcs
      obtain rfl : r = r' := Option.some.inj (hr.symm.trans hr')
      obtain ⟨Aa, ca, rfl, ha1, ha2, ha3, hasrc, hab⟩ := hrow
      have hokr := Hokr.out r (List.mem_of_getElem? hr)
      have Hat := Lib.hid hat
      have Hasrc := Lib.hid (hasrc.chg HN1.out (fun _ _ => id))
      have HC21 := Lib.hid (HC2.out.chg HC1.out n2')
      have HC31 := Lib.hid (HC3.out.chg HC1.out n3')
      have hst1 := HSt.out.chg HC1.out HS1.out
      have HSt1 := Lib.hid hst1
      have Hr := Lib.hid hr
      have HokR := Lib.hid hokr
      clear hat hasrc hr' hrw hcs hst1 hr hokr hab
      have e2 := HC21.out 2 _ rfl
      have e3 := HC31.out 0 _ rfl
      have e4 := HC31.out 1 _ rfl
      rw [Addr.add_lit] at e2 e3 e4
      have hM : ∀ w4, New wr w4 → Calls Try.prog 46 #[.slice A n c, .slice Aa r.args.length ca, .slice Ae s.1.length ce] w4 (MatchPost w4 (matchV ts r.args s.1)) := fun w4 h4 => by
        obtain ⟨A', c', he, _, _, hse, hbe⟩ := HSt1.out
        obtain ⟨rfl, rfl⟩ : Ae = A' ∧ ce = c' := by
          injection he with he
          injection he with he
          injection he with h1 h2
          injection h1 with h1 _ h3
          exact ⟨h1, h3⟩
        exact match_env w4 A n c css ts HN.out (Hts.out.chg (HN1.out.trans h4 (fun _ _ x => x))) Hokt.out Aa r.args.length ca r.args rfl (Hasrc.out.chg h4 (fun _ _ => id)) HokR.out Ae s.1.length ce s.1 rfl (hse.chg h4 (fun _ _ => id)) (fun a ha => Nat.lt_of_lt_of_le (hbe a ha).1 h4.size) Hok.out hm1 (by unfold maxLen; omega)
      have HM := Lib.hid hM
      obtain ⟨o, ho⟩ : ∃ o, matchV ts r.args s.1 = o := ⟨_, rfl⟩
      have hos : atomS ts s r = o.map (fun e => (e, minI s.2 r.stamp)) := by unfold atomS; rw [ho]
      rw [ho] at HM
      have Hos := Lib.hid hos
      clear hM ho hos
      cases o with
      | none =>
        go_wp2_with first
          | ((with_reducible refine wpl_load rfl (.tmp 16) 45 rfl stRow (ar.add (k * 3)) _ ?_ rfl Hat.out ?_); exact rfl)
          | ((with_reducible refine wpl_box rfl rfl 6 (.tmp 17) 45 rfl rfl rfl rfl stRow zRow [.string r.name, .slice Aa r.args.length ca, .int .i64 r.stamp] ?_ ?_ rfl (row_one _ _ _ _ _) ?_); exact (by decide : 6 < 42); exact rfl; intro w4 hc4 hb4 hs4; have HC4 := Lib.hid hc4; have HB4 := Lib.hid hb4; have g2 := hc4.cellS e2 id; have g3 := hc4.cellS e3 id; have g4 := hc4.cellS e4 id; have g5 := hb4.cell 1; have g6 := hb4.cell 2; simp only [List.getElem?_toArray, List.getElem?_cons_zero, List.getElem?_cons_succ] at g5 g6; clear hc4 hb4 hs4)
          | (go_at_call 46; refine (HM.out _ HC4.out).mono ?_; rintro e w5 ⟨hc5, ⟨_, rfl⟩ | ⟨_, _, hx, _⟩⟩; (rotate_left; cases hx); have HC5 := Lib.hid (HC4.out.trans hc5 (fun _ _ x => x)); clear hc5 g2 g3 g4 g5 g6)
        go_roundw
        case rel => exact ⟨k + 1, by omega, by go_num, by rw [filterMap_take_none Hr.out Hos.out]; exact ⟨S1, HA.out.chg HJ1.out (HC5.out.mono fun _ _ h => h.elim), HC1.out.trans HC5.out (fun _ _ h => h.elim), HS1.out⟩⟩
        case measure => simp [intOf]; omega
      | some e =>
        go_upto_region 4 with first
          | ((with_reducible refine wpl_load rfl (.tmp 16) 45 rfl stRow (ar.add (k * 3)) _ ?_ rfl Hat.out ?_); exact rfl)
          | ((with_reducible refine wpl_box rfl rfl 6 (.tmp 17) 45 rfl rfl rfl rfl stRow zRow [.string r.name, .slice Aa r.args.length ca, .int .i64 r.stamp] ?_ ?_ rfl (row_one _ _ _ _ _) ?_); exact (by decide : 6 < 42); exact rfl; intro w4 hc4 hb4 hs4; have HC4 := Lib.hid hc4; have HB4 := Lib.hid hb4; have g2 := hc4.cellS e2 id; have g3 := hc4.cellS e3 id; have g4 := hc4.cellS e4 id; have g5 := hb4.cell 1; have g6 := hb4.cell 2; simp only [List.getElem?_toArray, List.getElem?_cons_zero, List.getElem?_cons_succ] at g5 g6; clear hc4 hb4 hs4)
          | (go_at_call 46; refine (HM.out _ HC4.out).mono ?_; rintro e w5 ⟨hc5, ⟨hx, _⟩ | ⟨e', v, hx, rfl, hown⟩⟩; (cases hx); obtain rfl := Option.some.inj hx; obtain ⟨Av, cv, rfl, hv1, hv2⟩ := hown.form; have hvr := (hown.rows rfl).2; have hvb := fun g hg => hown.lt (g := g) hg; rw [List.length_map] at hv1; have HVr := Lib.hid hvr; have HVb := Lib.hid hvb; have HC5 := Lib.hid (HC4.out.trans hc5 (fun _ _ x => x)); have HL4 := Lib.hid HC4.out.size; have k3 := hc5.cellS g3 id; have k4 := hc5.cellS g4 id; have k6 := hc5.cellS g6 id; clear hc5 g2 g3 g4 g5 g6 hx hown hvr hvb HB4 HC4)
        have hJ5 : J ((rs.take k).filterMap (atomS ts s)) S1 w5 := HA.out.chg HJ1.out (HC5.out.mono fun _ _ h => h.elim)
        have hst5 : StAt (e, minI s.2 r.stamp) (.agg #[.slice Av e.length cv, .int .i64 (minI s.2 r.stamp)]) S1 w5 := by
          refine ⟨Av, cv, rfl, hv1, hv2, ?_, fun a ha => ?_⟩
          · exact HVr.out
          · obtain ⟨hb1, hb2⟩ := HVb.out a.block (by rw [ha]; rfl)
            refine ⟨hb2, fun h => ?_⟩
            have := HA.out.lt HJ1.out _ h
            have := HL4.out
            omega
        have hyl := HY.out _ _ _ S1 _ w5 (filterMap_at Hr.out Hos.out) hJ5 hst5
        obtain ⟨mi, hmi⟩ : ∃ mi, minI s.2 r.stamp = mi := ⟨_, rfl⟩
        rw [hmi] at hyl
        have hos' : atomS ts s r = some (e, mi) := by rw [Hos.out]; exact congrArg (fun i => some (e, i)) hmi
        have HOs' := Lib.hid hos'
        clear hos'
        have HYl := Lib.hid hyl
        have Hmi := Lib.hid hmi
        have HSt5 := Lib.hid hst5
        clear hJ5 hst5 hyl hmi
        refine (wpIn_wide (n := 0)).1 ?_
        refine wpIn_region_lit ?_
        refine liftK Wd.wide 10 (by rfl) ?_
        change wpList _ _ _ [_, _, _, _, _, _, _, _, _, _] _ _
        go_wp2_with fail
        all_goals
          have hmm := Hmi.out
          unfold minI at hmm
          first | (rw [if_pos (by omega)] at hmm) | (rw [if_neg (by omega)] at hmm)
          subst hmm
          refine wplI_yield Wd.wide rfl (.tmp 30) (.tmp 37) 66 rfl rfl rfl HYl.out ?_
          rintro b W2 hb
          have hbt : b = true → Stp J _ S1 w5 W2 := fun h => by rw [if_pos h] at hb; exact hb
          have hbf : b = false → Stp Jx _ S1 w5 W2 := fun h => by rw [if_neg (by rw [h]; exact Bool.false_ne_true)] at hb; exact hb
          have HBt := Lib.hid hbt
          have HBf := Lib.hid hbf
          clear hbt hbf
          clear hb HYl
          refine liftK Wd.wide 2 (by rfl) ?_
          change wpList _ _ _ [_, _] _ _
          cases b with
          | true =>
            go_wp2_with fail
            refine wpListIn_nil ?_
            go_wp2_with fail
            go_roundw
            case rel =>
              refine ⟨k + 1, by omega, by go_num, ?_⟩
              rw [filterMap_take_some Hr.out HOs'.out]
              exact Stp.then HC1.out HS1.out HC5.out (HBt.out (by trivial))
            case measure => simp [intOf]; omega
          | false =>
            go_wp2_with fail
            refine wpListIn_nil ?_
            go_wp2_with fail
            refine bodyPost_ret (results_none rfl _ _ _) rfl ?_
            exact ⟨⟨_, rfl⟩, .inr ⟨_, _, _, filterMap_at Hr.out HOs'.out, Stp.then HC1.out HS1.out HC5.out (HBf.out (by trivial))⟩⟩
    · go_wp2_with fail
      go_end0
      refine ⟨⟨_, rfl⟩, .inl ⟨S1, ?_, HC1.out, HS1.out⟩⟩
      have h := HJ1.out
      rwa [List.take_of_length_le (by rw [HMr.out]; omega)] at h
end Go.Proofs.Ytfocjfnkcabbgaa

set_option linter.unusedVariables false
set_option linter.unusedSimpArgs false
namespace Go.Proofs.Ytfocjfnkcabbgaa
open Go.RowKit Go.Shelf

theorem res_cells {P : Program} {f : Func} {p q : Nat} {ty ty2 : TypeId} {k : Nat} (hS : StT P ty k) (hr : f.results = #[.cell p ty, .cell q ty2]) (hb : P.underlying ty2 = some .bool) (W : World) (tmps : Array Value) (ad g : Addr) (cs : List Value) (b : Bool) (h2 : tmps.getD p undef = .pointer (some ad)) (hc : At W ad cs) (hl : cs.length = k)
    (h3 : tmps.getD q undef = .pointer (some g)) (hg : W.cell? g = some (.bool b)) :
    (results f tmps).run P W = .ok (.tuple #[.agg cs.toArray, .bool b]) W := by
  have hl := run_loadK (P := P) (w := W) hS ad cs hl hc
  have ha : (asAddr (.pointer (some ad))).run P W = .ok ad W := rfl
  have ha2 : (asAddr (.pointer (some g))).run P W = .ok g W := rfl
  have h2' : tmps[p]?.getD undef = .pointer (some ad) := by simpa using h2
  have h3' : tmps[q]?.getD undef = .pointer (some g) := by simpa using h3
  have hl2 : (loadVar ty2 g).run P W = .ok (.bool b) W := by
    have hagg : (isAgg ty2).run P W = .ok false W := by
      unfold isAgg
      rw [Sem.run_bind, run_underlying hb W]
      simp
    simp [loadVar, Sem.run_bind, hagg, hg, go_sem]
  simp [results, hr, Sem.run_bind, h2', h3', ha, ha2, hl, hl2]

theorem boxes3 (w : World) (c1 c2 c3 : Array Value) (t1 t2 t3 : TypeId) (w1 : World) (h : w1 = ((w.alloc (.cells c1 t1)).alloc (.cells c2 t2)).alloc (.cells c3 t3)) :
    New w w1 ∧ Blk w1 w.heap.size t1 c1 ∧ Blk w1 (w.heap.size + 1) t2 c2 ∧ Blk w1 (w.heap.size + 1 + 1) t3 c3 ∧ w1.heap.size = w.heap.size + 3 := by
  subst h
  refine ⟨(((Chg.refl w _).alloc _).alloc _).alloc _, ((Blk.new w _ _).alloc _).alloc _, ?_, ?_, by simp⟩
  · have := (Blk.new (w.alloc (.cells c1 t1)) t2 c2).alloc (.cells c3 t3)
    rwa [World.size_alloc] at this
  · have := Blk.new ((w.alloc (.cells c1 t1)).alloc (.cells c2 t2)) t3 c3
    rwa [World.size_alloc, World.size_alloc] at this
theorem boxes4 (w : World) (c1 c2 c3 c4 : Array Value) (t1 t2 t3 t4 : TypeId) (w1 : World) (h : w1 = (((w.alloc (.cells c1 t1)).alloc (.cells c2 t2)).alloc (.cells c3 t3)).alloc (.cells c4 t4)) :
    New w w1 ∧ Blk w1 w.heap.size t1 c1 ∧ Blk w1 (w.heap.size + 1) t2 c2 ∧ Blk w1 (w.heap.size + 1 + 1) t3 c3 ∧ Blk w1 (w.heap.size + 1 + 1 + 1) t4 c4 ∧ w1.heap.size = w.heap.size + 4 := by
  obtain ⟨h1, h2, h3, h4, h5⟩ := boxes3 w c1 c2 c3 t1 t2 t3 _ rfl
  subst h
  refine ⟨h1.alloc _, h2.alloc _, h3.alloc _, h4.alloc _, ?_, by simp⟩
  have := Blk.new (((w.alloc (.cells c1 t1)).alloc (.cells c2 t2)).alloc (.cells c3 t3)) t4 c4
  rwa [h5] at this

set_option maxHeartbeats 1000000 in
set_option maxRecDepth 100000 in
theorem clip_env (w : World) (A : Option Addr) (n c : Nat) (hn : n ≤ c) (hc : c ≤ maxLen) : Calls Try.prog 49 #[.slice A n c] w fun e w' => e = .returned (.slice A n n) ∧ w = w' := by
  unfold maxLen at hc
  go_enter Try.func49, Try.ntmps49
  go_wp2_with fail
  go_ret
  exact ⟨rfl, rfl⟩

set_option maxHeartbeats 1000000 in
set_option maxRecDepth 100000 in
/-- relations.atoms: the closure. -/
theorem atoms_made (w : World) (bm : Nat) (l1 l2 l3 s1 s2 : Value) : Calls Try.prog 37 #[.map (some bm), .agg #[l1, l2, l3], .agg #[s1, s2]] w fun e w' =>
    e = .returned (.func (.func 45) #[] #[.pointer (some ⟨w.heap.size, 0, none⟩), .pointer (some ⟨w.heap.size + 1, 0, none⟩), .pointer (some ⟨w.heap.size + 1 + 1, 0, none⟩)]) ∧
    New w w' ∧ w'.cell? ⟨w.heap.size, 0, none⟩ = some (.map (some bm)) ∧ At w' ⟨w.heap.size + 1, 0, none⟩ [l1, l2, l3] ∧ At w' ⟨w.heap.size + 1 + 1, 0, none⟩ [s1, s2] ∧ w'.heap.size = w.heap.size + 3 := by
  go_enter Try.func37, Try.ntmps37
  go_wp2_with fail
  go_ret
  obtain ⟨hN, b1, b2, b3, hs⟩ := boxes3 w #[.map (some bm)] #[l1, l2, l3] #[s1, s2] 60 43 66 _ rfl
  exact ⟨rfl, hN, b1.cell 0, Blk.at_ b2, Blk.at_ b3, hs⟩

theorem goes_leave {w W : World} {S1 : Nat → Prop} {o : Option Sta} {s : Sta} {Ae : Option Addr} {ce D g6 g7 : Nat} {q : Bool} {tmps : Array Value} (hD : W.heap[D]? = some (.deferred (some []))) (hDw : w.heap.size ≤ D)
    (h6 : Blk W g6 66 #[.slice Ae s.1.length ce, .int .i64 s.2]) (h7 : Blk W g7 4 #[.bool q]) (hN : New w W) (hst : StAt s (.agg #[.slice Ae s.1.length ce, .int .i64 s.2]) S1 w)
    (hq : (q = true ∧ o = some s) ∨ (q = false ∧ o = none)) (ht6 : tmps.getD 6 undef = .pointer (some ⟨g6, 0, none⟩)) (ht7 : tmps.getD 7 undef = .pointer (some ⟨g7, 0, none⟩)) :
    LeavesInM Fence.wide 0 Try.prog Try.f39 tmps (GoesPost w S1 o) [{ target := .collected D, args := #[] }] .returning W := by
  have hd6 : g6 ≠ D := fun h => by subst h; have := Option.some.inj (hD.symm.trans h6); cases this
  have hd7 : g7 ≠ D := fun h => by subst h; have := Option.some.inj (hD.symm.trans h7); cases this
  refine ⟨by simp, .inl ⟨_, _, rfl, run_takeDeferred hD, ?_⟩⟩
  have hc : ∀ ob, Chg W (W.putObj D ob) (fun k => k = D) := fun ob => (Chg.of_grown (grownBy_putObj' W D ob)).mono fun k _ h => by cases h; rfl
  refine ⟨_, res_cells stSta rfl Try.underlying4 _ _ ⟨g6, 0, none⟩ ⟨g7, 0, none⟩ [.slice Ae s.1.length ce, .int .i64 s.2] q ht6 (Blk.at_ (h6.chg (hc _) hd6)) rfl ht7 ((h7.chg (hc _) hd7).cell 0), ?_⟩
  refine ⟨Chg.put hN (hc _) hDw, ?_⟩
  rcases hq with ⟨rfl, rfl⟩ | ⟨rfl, rfl⟩
  · exact .inr ⟨s, _, rfl, rfl, hst.new (Chg.put hN (hc _) hDw)⟩
  · exact .inl ⟨rfl, _, _, rfl, rfl, rfl⟩

set_option maxHeartbeats 4000000 in
set_option maxRecDepth 100000 in
/-- relations.goes at LitNot. -/
theorem goes_not (w0 w : World) (hw0 : New w0 w) (S1 : Nat → Prop) (bm : Nat) (m : List (ByteArray × Value)) (rs : List Rw) (hm : MapAt w0 bm m)
    (nm : ByteArray) (A : Option Addr) (n c : Nat) (css : List (List Value)) (ts : List Tm) (hn : n = ts.length) (hts : TmsAt w0 A css ts) (hokt : ∀ t ∈ ts, okTm t)
    (hrs : RowSl w0 (lookM m nm) rs) (hokr : ∀ r ∈ rs, ∀ v ∈ r.args, okW v)
    (s : Sta) (Ae : Option Addr) (ce : Nat) (hst : StAt s (.agg #[.slice Ae s.1.length ce, .int .i64 s.2]) S1 w) (hok : okEnv s.1) (hm1 : s.1.length + ts.length ≤ 1000) :
    Calls Try.prog 39 #[.map (some bm), .agg #[.int .i64 2, .string nm, .slice A n c], .agg #[.slice Ae s.1.length ce, .int .i64 s.2]] w (GoesPost w S1 (if (rs.filterMap (atomS ts s)).isEmpty then some s else none)) := by
  obtain ⟨xs, hxs⟩ : ∃ xs, rs.filterMap (atomS ts s) = xs := ⟨_, rfl⟩
  obtain ⟨S0, hS0⟩ : ∃ S0 : Nat → Prop, S0 = fun k => k = w.heap.size + 1 + 1 ∨ k = w.heap.size + 1 + 1 + 1 := ⟨_, rfl⟩
  have hS0' : ∀ k, S0 k ↔ k = w.heap.size + 1 + 1 ∨ k = w.heap.size + 1 + 1 + 1 := fun k => by rw [hS0]
  obtain ⟨o, ho⟩ : ∃ o, (if xs.isEmpty then some s else none) = o := ⟨_, rfl⟩
  have ho1 : xs = [] → o = some s := fun h => by rw [← ho, h]; rfl
  have ho2 : ∀ pre x rest, xs = pre ++ x :: rest → o = none := fun pre x rest h => by rw [← ho, h]; cases pre <;> rfl
  have HS0 := Lib.hid hS0'
  have HO1 := Lib.hid ho1
  have HO2 := Lib.hid ho2
  obtain ⟨w1, hw1⟩ : ∃ w1, w1 = (((w.alloc (.cells #[.int .i64 2, .string nm, .slice A n c] 43)).alloc (.cells #[.slice Ae s.1.length ce, .int .i64 s.2] 66)).alloc (.cells #[.slice none 0 0, .int .i64 0] 66)).alloc (.cells #[.bool false] 4) := ⟨_, rfl⟩
  obtain ⟨hN1, b4, b5, b6, b7, hz1⟩ := boxes4 _ _ _ _ _ _ _ _ _ w1 hw1
  have hit : ∀ w2 Jx, New w1 w2 → w2.heap.size = w1.heap.size + 3 → w2.cell? ⟨w1.heap.size, 0, none⟩ = some (.map (some bm)) → At w2 ⟨w1.heap.size + 1, 0, none⟩ [.int .i64 2, .string nm, .slice A n c] → At w2 ⟨w1.heap.size + 1 + 1, 0, none⟩ [.slice Ae s.1.length ce, .int .i64 s.2] →
      ItGives Try.prog 45 #[.pointer (some ⟨w1.heap.size, 0, none⟩), .pointer (some ⟨w1.heap.size + 1, 0, none⟩), .pointer (some ⟨w1.heap.size + 1 + 1, 0, none⟩)] StAt xs S0 w2 Jx := by
    intro w2 Jx h2 hz h1' h2' h3'
    rw [← hxs, hS0]
    have hlw := hw0.size
    refine g49 w0 w2 ((hw0.trans hN1 (fun _ _ x => x)).trans h2 (fun _ _ x => x)) _ (fun k hk => by omega) Jx _ _ _ bm m rs h1' (by omega) hm 2 nm A n c css ts h2' (by omega) hn hts hokt hrs hokr s Ae ce h3' (by omega) ?_ hok hm1
    obtain ⟨A', c', he, k1, k2, k3, k4⟩ := hst
    exact ⟨A', c', he, k1, k2, k3.chg (hN1.trans h2 (fun _ _ x => x)) (fun _ _ => id), fun a ha => ⟨by have := (k4 a ha).1; omega, by have := (k4 a ha).1; omega⟩⟩
  have HIt := Lib.hid hit
  have HW := Lib.hid hw1
  have HN1 := Lib.hid hN1
  have B4 := Lib.hid b4
  have B5 := Lib.hid b5
  have B6 := Lib.hid b6
  have B7 := Lib.hid b7
  have HZ := Lib.hid hz1
  have HSt := Lib.hid hst
  rw [hxs, ho]
  clear hit hw1 hN1 b4 b5 b6 b7 hz1 hst hn hts hokt hrs hokr hok hm1 hm hw0 hxs ho ho1 ho2 hS0 hS0'
  refine (callsIn_wide (n := 0)).1 (callsIn_of_wp_marks Try.func39 rfl trivial ?_ rfl)
  refine wpIn_wide.2 ?_
  simp only [Try.ntmps39, List.size_toArray, List.length_cons, List.length_nil, Nat.reduceAdd, Nat.reduceSub, Array.replicate_succ, Array.replicate_zero, List.push_toArray, List.append_toArray, List.nil_append, List.cons_append]
  go_upto_region 12 with fail
  rw [← HW.out]
  go_wp2_with first
    | ((with_reducible refine wpl_load rfl (.tmp 4) 43 rfl stLit ⟨w.heap.size, 0, none⟩ [.int .i64 2, .string nm, .slice A n c] ?_ rfl B4.out.at_ ?_); exact rfl)
    | ((with_reducible refine wpl_load rfl (.tmp 5) 66 rfl stSta ⟨w.heap.size + 1, 0, none⟩ [.slice Ae s.1.length ce, .int .i64 s.2] ?_ rfl B5.out.at_ ?_); exact rfl)
    | (go_at_call 37; refine (atoms_made _ _ _ _ _ _ _).mono ?_; rintro e w2 ⟨rfl, hN2, k1, k2, k3, k4⟩; have HN2 := Lib.hid hN2; have K1 := Lib.hid k1; have K2 := Lib.hid k2; have K3 := Lib.hid k3; have K4 := Lib.hid k4; clear hN2 k1 k2 k3 k4)
  refine wp_range (gf := 45) (lb := #[.pointer (some ⟨w1.heap.size, 0, none⟩), .pointer (some ⟨w1.heap.size + 1, 0, none⟩), .pointer (some ⟨w1.heap.size + 1 + 1, 0, none⟩)]) (enc := StAt) (xs := xs) (S := S0) rfl (enters_of Try.func45 (by kernel_rfl) rfl)
    (fun pre S' W => pre = [] ∧ S' = S0 ∧ Chg w2 W S0 ∧ Blk W (w.heap.size + 1 + 1) 66 #[.slice none 0 0, .int .i64 0] ∧ Blk W (w.heap.size + 1 + 1 + 1) 4 #[.bool false])
    (fun c pre S' W => c = Code.ret ∧ S' = S0 ∧ Blk W (w.heap.size + 1 + 1) 66 #[.slice Ae s.1.length ce, .int .i64 s.2] ∧ Blk W (w.heap.size + 1 + 1 + 1) 4 #[.bool false])
    ?hI ?hIx (fun Jx _ => HIt.out w2 Jx HN2.out K4.out K1.out K2.out K3.out) ⟨rfl, rfl, Chg.refl _ _, B6.out.chg HN2.out id, B7.out.chg HN2.out id⟩ (fun h hs => h.less hs) ?round ?done ?stop
  case hI =>
    constructor
    · rintro pre S' W ⟨_, rfl, _, h6, h7⟩ k hk
      rcases (HS0.out k).1 hk with rfl | rfl
      · exact h6.lt
      · exact h7.lt
    · rintro pre S' W W' ⟨h1, rfl, h3, h6, h7⟩ hc
      exact ⟨h1, rfl, h3.trans hc (fun k hk h => absurd hk (Nat.not_lt.2 h.1)), h6.chg hc (fun h => h.2 ((HS0.out _).2 (.inl rfl))), h7.chg hc (fun h => h.2 ((HS0.out _).2 (.inr rfl)))⟩
  case hIx =>
    intro c
    constructor
    · rintro pre S' W ⟨_, rfl, h6, h7⟩ k hk
      rcases (HS0.out k).1 hk with rfl | rfl
      · exact h6.lt
      · exact h7.lt
    · rintro pre S' W W' ⟨h1, rfl, h6, h7⟩ hc
      exact ⟨h1, rfl, h6.chg hc (fun h => h.2 ((HS0.out _).2 (.inl rfl))), h7.chg hc (fun h => h.2 ((HS0.out _).2 (.inr rfl)))⟩
  case round =>
    rintro l pre x rest S1' v W hx hl1 hl2 hlr hl3 ⟨rfl, rfl, hcw, h6, h7⟩ hsv
    refine wpIn_skip ?_
    refine ⟨Chg.refl _ _, fun W2 hc1 hc2 _ hI2 => ?_⟩
    obtain ⟨_, _, hcw2, h62, h72⟩ := hI2
    have H5 := Lib.hid ((B5.out.chg HN2.out id).chg hcw2 (fun h => by have := (HS0.out _).1 h; omega))
    have H6 := Lib.hid h62
    have H7 := Lib.hid h72
    clear hc1 hc2 hcw hcw2 h6 h7 h62 h72 hsv
    simp only [List.setIfInBounds_toArray, List.set_cons_succ, List.set_cons_zero]
    gi_step
    gi_step
    gi_step
    refine wpIn_region_lit ?_
    refine liftK (Wd.round l) 3 (by rfl) ?_
    change wpList _ _ _ [_, _, _] _ _
    go_wp2_with first
      | ((with_reducible refine wpl_load rfl (.tmp 5) 66 rfl stSta ⟨w.heap.size + 1, 0, none⟩ [.slice Ae s.1.length ce, .int .i64 s.2] ?_ rfl H5.out.at_ ?_); exact rfl)
      | ((with_reducible refine wpl_set rfl (.tmp 6) (.tmp 49) 66 rfl rfl stSta (w.heap.size + 1 + 1) 66 _ [.slice Ae s.1.length ce, .int .i64 s.2] ?_ ?_ H6.out rfl rfl (sta_one _ _ _ _) ?_); exact rfl; exact rfl; intro w3 hc3 hb3 hs3; have h73 := H7.out.chg hc3 (by omega); have HC3 := Lib.hid hc3; have HB3 := Lib.hid hb3; have H73 := Lib.hid h73; have c7 := h73.cell 0; have f7 := h73.frozen 0; simp only [List.getElem?_toArray, List.getElem?_cons_zero] at c7; clear hc3 hb3 hs3 h73)
    refine wpListIn_nil ?_
    gi_wp2
    refine ⟨_, ⟨rfl, rfl, HB3.out.far (by simp) _, by simpa using H73.out.setCell 0 (.bool false)⟩, ?_, fun k hk => .inl hk⟩
    exact (HC3.out.mono (fun k _ h => (HS0.out k).2 (.inl h))).setCell _ _ (fun _ => (HS0.out _).2 (.inr rfl))
  case done =>
    rintro D S' W hD hDe ⟨hxe, rfl, hcw, h6, h7⟩ hc hs hnD
    have H5 := Lib.hid ((B5.out.chg HN2.out id).chg hcw (fun h => by have := (HS0.out _).1 h; omega))
    have H6 := Lib.hid h6
    have H7 := Lib.hid h7
    have HX := Lib.hid hxe
    have HD := Lib.hid hD
    have HDe := Lib.hid hDe
    have HNW := Lib.hid ((HN1.out.trans HN2.out (fun _ _ x => x)).trans hcw (fun k hk h => by have := (HS0.out _).1 h; omega))
    have hnd6 : D ≠ w.heap.size + 1 + 1 := fun h => hnD ((HS0.out _).2 (.inl h))
    have hnd7 : D ≠ w.heap.size + 1 + 1 + 1 := fun h => hnD ((HS0.out _).2 (.inr h))
    clear hcw h6 h7 hc hs hnD hxe hD hDe
    go_wp2_with first
      | ((with_reducible refine wpl_load rfl (.tmp 5) 66 rfl stSta ⟨w.heap.size + 1, 0, none⟩ [.slice Ae s.1.length ce, .int .i64 s.2] ?_ rfl H5.out.at_ ?_); exact rfl)
      | ((with_reducible refine wpl_set rfl (.tmp 6) (.tmp 50) 66 rfl rfl stSta (w.heap.size + 1 + 1) 66 _ [.slice Ae s.1.length ce, .int .i64 s.2] ?_ ?_ H6.out rfl rfl (sta_one _ _ _ _) ?_); exact rfl; exact rfl; intro w3 hc3 hb3 hs3; have h73 := H7.out.chg hc3 (by omega); have HN3 := Lib.hid (HNW.out.put hc3 (by omega)); have HB3 := Lib.hid hb3; have H73 := Lib.hid h73; have HD3 := Lib.hid ((hc3.block D (lt_of_heap HDe.out) hnd6).trans HDe.out); have c7 := h73.cell 0; have f7 := h73.frozen 0; simp only [List.getElem?_toArray, List.getElem?_cons_zero] at c7; clear hc3 hb3 hs3 h73)
    exact goes_leave (q := true) ((Below.heap_setCell w3 ⟨_, 0, none⟩ _ D hnd7).trans HD3.out) (by have := HD.out; have := HN2.out.size; have := HN1.out.size; omega) (HB3.out.far (by simp) _) (by simpa using H73.out.setCell 0 (.bool true)) (HN3.out.setCell _ _ (fun h => absurd h (by simp; omega))) HSt.out (.inl ⟨rfl, HO1.out HX.out⟩) rfl rfl
  case stop =>
    rintro D c pre x rest S' W hx hD hDe ⟨rfl, rfl, h6, h7⟩ hc hs hnD
    have HNW := Lib.hid ((HN1.out.trans HN2.out (fun _ _ x => x)).trans hc (fun k hk h => by have := (HS0.out _).1 h; omega))
    have hDw : w.heap.size ≤ D := by have := HN2.out.size; have := HN1.out.size; omega
    clear hc hs
    go_wp2_with fail
    exact goes_leave (q := false) hDe hDw h6 h7 HNW.out HSt.out (.inr ⟨rfl, HO2.out _ _ _ hx⟩) rfl rfl
end Go.Proofs.Ytfocjfnkcabbgaa

set_option linter.unusedVariables false
set_option linter.unusedSimpArgs false
namespace Go.Proofs.Ytfocjfnkcabbgaa
open Go.RowKit Go.Shelf

set_option maxHeartbeats 8000000 in
set_option maxRecDepth 100000 in
theorem goes_test (jt bm : Nat) (w0 w : World) (hw0 : New w0 w) (S1 : Nat → Prop) (hS1 : ∀ k, S1 k → k < w.heap.size) (A : Option Addr) (n c : Nat) (css : List (List Value)) (ts : List Tm) (hn : n = ts.length) (hnm : n ≤ 1000) (hts : TmsAt w0 A css ts) (hokt : ∀ t ∈ ts, okTm t)
    (s : Sta) (Ae : Option Addr) (ce : Nat) (hst : StAt s (.agg #[.slice Ae s.1.length ce, .int .i64 s.2]) S1 w) (hok : okEnv s.1) (hsl : s.1.length ≤ 999) (fs : List (Option Vl)) (hfs : fs = ts.map (evalT s.1)) (o : Option Sta) (hnone : allO fs = none → o = none) (h2 : n = 2) (hsome : ∀ x y, allO fs = some [x, y] → o = if testV jt x y then some s else none) (hokx : ∀ us, allO fs = some us → ∀ u ∈ us, okW u) :
    Calls Try.prog 39 #[.map (some bm), .agg #[.int .i64 3, .string (opT jt), .slice A n c], .agg #[.slice Ae s.1.length ce, .int .i64 s.2]] w (GoesPost w S1 o) := by
  have Hnone := Lib.hid hnone
  have Hsome := Lib.hid hsome
  have HOkx := Lib.hid hokx
  have H2 := Lib.hid h2
  clear hnone hsome hokx h2
  obtain ⟨w1, hw1⟩ : ∃ w1, w1 = (((w.alloc (.cells #[.int .i64 3, .string (opT jt), .slice A n c] 43)).alloc (.cells #[.slice Ae s.1.length ce, .int .i64 s.2] 66)).alloc (.cells #[.slice none 0 0, .int .i64 0] 66)).alloc (.cells #[.bool false] 4) := ⟨_, rfl⟩
  obtain ⟨hN1, b4, b5, b6, b7, hz1⟩ := boxes4 _ _ _ _ _ _ _ _ _ w1 hw1
  have hev : ∀ (k : Nat) (t : Tm) (cs : List Value) (W : World), css[k]? = some cs → ts[k]? = some t → New w1 W → Calls Try.prog 40 #[.agg cs.toArray, .slice Ae s.1.length ce] W fun e W' => e = .returned (optV (evalT s.1 t)) ∧ New W W' := by
    intro k t cs W hcs ht hW
    obtain ⟨A', c', he, _, _, hse, _⟩ := hst
    obtain ⟨rfl, rfl⟩ : Ae = A' ∧ ce = c' := by
      injection he with he
      injection he with he
      injection he with h1 h2
      injection h1 with h1 _ h3
      exact ⟨h1, h3⟩
    have hww := (hN1.trans hW (fun _ _ x => x))
    exact bEval Ae s.1.length ce s.1 rfl (by omega) hok t (hokt t (List.mem_of_getElem? ht)) W cs (hse.chg hww (fun _ _ => id)) ((hts.at_ k cs t hcs ht).chg ((hw0.trans hww (fun _ _ x => x))))
  have hone : ∀ (k : Nat) (t : Tm) (cs : List Value), css[k]? = some cs → ts[k]? = some t → ∀ u ∈ cs, u.oneCell' = true := fun k t cs h1 h2 => (hts.at_ k cs t h1 h2).one
  have hsrc := hts.src.chg (hw0.trans hN1 (fun _ _ x => x)) (fun _ _ => id)
  have hlen := hts.len
  have hseven : ∀ (k : Nat) (t : Tm) (cs : List Value), css[k]? = some cs → ts[k]? = some t → ∃ t0 t1 t2 t3 t4 t5 t6, cs = [t0, t1, t2, t3, t4, t5, t6] := fun k t cs h1 h2 => (hts.at_ k cs t h1 h2).seven
  have HEv := Lib.hid hev
  have HOne := Lib.hid hone
  have HSeven := Lib.hid hseven
  have HSrc := Lib.hid hsrc
  have HLen := Lib.hid hlen
  have HW := Lib.hid hw1
  have HN1 := Lib.hid hN1
  have B4 := Lib.hid b4
  have B5 := Lib.hid b5
  have B6 := Lib.hid b6
  have B7 := Lib.hid b7
  have HZ := Lib.hid hz1
  have HSt := Lib.hid hst
  have HN := Lib.hid hn
  have Hfs := Lib.hid hfs
  clear hev hone hseven hsrc hlen hw1 hN1 b4 b5 b6 b7 hz1 hst hts hokt hok hw0 hn hfs
  go_enter Try.func39, Try.ntmps39
  go_upto_region 3 with fail
  rw [← HW.out]
  have e2 := (B4.out).cell 2
  simp only [List.getElem?_toArray, List.getElem?_cons_zero, List.getElem?_cons_succ] at e2
  go_wp2_with fail
  clear HW e2
  go_loopw [8, 21] (fun u8 u21 wr => ∃ (k : Nat) (us : List Vl), k ≤ n ∧ u21 = .int .i64 k ∧ allO (fs.take k) = some us ∧ us.length = k ∧ Own wr w1.heap.size 37 4 u8 (us.map vcs) ∧ New w1 wr) (fun _ u _ => n - (intOf u).toNat)
  case atStart => exact ⟨0, [], Nat.zero_le _, rfl, rfl, rfl, Own.nil _ _ _ _, Chg.refl _ _⟩
  case round =>
    obtain ⟨k, us, hk, rfl, ha, hl, hov, hNr⟩ := hrel
    obtain ⟨Ao, co, rfl, hc1, hc2⟩ := hov.form
    rw [List.length_map] at hov ⊢
    have Ha := Lib.hid ha
    have HOv := Lib.hid hov
    have HNw := Lib.hid hNr
    have Hl := Lib.hid hl
    clear ha hov hNr hl hc1 hc2
    by_cases hlt : k < n
    · obtain ⟨t, ht⟩ : ∃ t, ts[k]? = some t := ⟨_, List.getElem?_eq_getElem (by rw [← HN.out]; exact hlt)⟩
      obtain ⟨cs, hcs⟩ : ∃ cs, css[k]? = some cs := ⟨_, List.getElem?_eq_getElem (by rw [HLen.out, ← HN.out]; exact hlt)⟩
      obtain ⟨ad, rfl, hrw⟩ := HSrc.out (by rw [HLen.out, ← HN.out]; omega)
      have hat := (hrw k cs hcs).2.chg HNw.out id
      have h1c := HOne.out k t cs hcs ht
      have hek := fun W h => HEv.out k t cs W hcs ht h
      obtain ⟨o1, ho1⟩ : ∃ o1, evalT s.1 t = o1 := ⟨_, rfl⟩
      have hfk : fs[k]? = some o1 := by rw [Hfs.out, List.getElem?_map, ht, ← ho1]; rfl
      rw [ho1] at hek
      obtain ⟨t0, t1, t2, t3, t4, t5, t6, rfl⟩ := HSeven.out k t cs hcs ht
      have Hat := Lib.hid hat
      have H1c := Lib.hid h1c
      have Hek := Lib.hid hek
      have Hfk := Lib.hid hfk
      clear hat h1c hek hfk hrw hcs ht ho1
      have e5 := (B5.out.chg HNw.out id).cell 0
      simp only [List.getElem?_toArray, List.getElem?_cons_zero] at e5
      cases o1 with
      | none =>
        unfold optV at Hek
        dsimp only [Option.getD, Option.isSome, vval, zV] at Hek
        go_wp2_with first
          | ((with_reducible refine wpl_load rfl (.tmp 23) 39 rfl stTerm (ad.add (k * 7)) _ ?_ rfl Hat.out ?_); exact rfl)
          | ((with_reducible refine wpl_box rfl rfl 10 (.tmp 24) 39 rfl rfl rfl rfl stTerm elTerm.zero [t0, t1, t2, t3, t4, t5, t6] ?_ ?_ rfl H1c.out ?_); exact (by decide : 10 < 104); exact rfl; intro w2 hc2 hb2 hs2; have e6 := hc2.cellS e5 id; have Hc2 := Lib.hid hc2; have Hb2 := Lib.hid (Blk.at_ (cs := [t0, t1, t2, t3, t4, t5, t6]) hb2); clear hc2 hb2 hs2)
          | ((with_reducible refine wpl_load rfl (.tmp 10) 39 rfl stTerm ⟨wr.heap.size, 0, none⟩ _ ?_ rfl Hb2.out ?_); exact rfl)
          | (go_at_call 40; refine (Hek.out _ (HNw.out.trans Hc2.out (fun _ _ x => x))).mono ?_; rintro e w3 ⟨rfl, hc3⟩; have HN3 := Lib.hid ((HNw.out.trans Hc2.out (fun _ _ x => x)).trans hc3 (fun _ _ x => x)); clear hc3 e5 e6)
          | ((with_reducible refine wpl_box rfl rfl 11 (.tmp 30) 37 rfl rfl rfl rfl stVal4 elValue.zero (vcs zV) ?_ ?_ (vcl_len _) (vcl_one _) ?_); exact (by decide : 11 < 104); exact rfl; intro w4 hc4 hb4 hs4; have HN4 := Lib.hid (HN3.out.trans hc4 (fun _ _ x => x)); clear hc4 hb4 hs4)
          | ((with_reducible refine wpl_load rfl (.tmp 5) 66 rfl stSta ⟨w.heap.size + 1, 0, none⟩ [.slice Ae s.1.length ce, .int .i64 s.2] ?_ rfl (B5.out.chg HN4.out id).at_ ?_); exact rfl)
          | ((with_reducible refine wpl_set rfl (.tmp 6) (.tmp 34) 66 rfl rfl stSta (w.heap.size + 1 + 1) 66 _ [.slice Ae s.1.length ce, .int .i64 s.2] ?_ ?_ (B6.out.chg HN4.out id) rfl rfl (sta_one _ _ _ _) ?_); exact rfl; exact rfl; intro w5 hc5 hb5 hs5; have h75 := (B7.out.chg HN4.out id).chg hc5 (by omega); have HN5 := Lib.hid ((HN1.out.trans HN4.out (fun _ _ x => x)).put hc5 (by omega)); have HB5 := Lib.hid hb5; have H75 := Lib.hid h75; have c7 := h75.cell 0; have f7 := h75.frozen 0; simp only [List.getElem?_toArray, List.getElem?_cons_zero] at c7; clear hc5 hb5 hs5 h75)
        refine bodyPost_ret (res_cells stSta rfl Try.underlying4 _ _ ⟨w.heap.size + 1 + 1, 0, none⟩ ⟨w.heap.size + 1 + 1 + 1, 0, none⟩ [.slice Ae s.1.length ce, .int .i64 s.2] false rfl (Blk.at_ (HB5.out.far (by simp) _)) rfl rfl (by have := H75.out.setCell 0 (.bool false); exact (this.cell 0).trans rfl)) rfl ?_
        exact ⟨HN5.out.setCell _ _ (fun h => absurd h (by simp; omega)), .inl ⟨Hnone.out (allO_none Hfk.out), _, _, rfl, rfl, rfl⟩⟩
      | some x =>
        unfold optV at Hek
        dsimp only [Option.getD, Option.isSome, vval] at Hek
        go_upto_region 9 with first
          | ((with_reducible refine wpl_load rfl (.tmp 23) 39 rfl stTerm (ad.add (k * 7)) _ ?_ rfl Hat.out ?_); exact rfl)
          | ((with_reducible refine wpl_box rfl rfl 10 (.tmp 24) 39 rfl rfl rfl rfl stTerm elTerm.zero [t0, t1, t2, t3, t4, t5, t6] ?_ ?_ rfl H1c.out ?_); exact (by decide : 10 < 104); exact rfl; intro w2 hc2 hb2 hs2; have e6 := hc2.cellS e5 id; have Hc2 := Lib.hid hc2; have Hb2 := Lib.hid (Blk.at_ (cs := [t0, t1, t2, t3, t4, t5, t6]) hb2); clear hc2 hb2 hs2)
          | ((with_reducible refine wpl_load rfl (.tmp 10) 39 rfl stTerm ⟨wr.heap.size, 0, none⟩ _ ?_ rfl Hb2.out ?_); exact rfl)
          | (go_at_call 40; refine (Hek.out _ (HNw.out.trans Hc2.out (fun _ _ x => x))).mono ?_; rintro e w3 ⟨rfl, hc3⟩; have HN3 := Lib.hid (Hc2.out.trans hc3 (fun _ _ x => x)); clear hc3 e5 e6)
          | ((with_reducible refine wpl_box rfl rfl 11 (.tmp 30) 37 rfl rfl rfl rfl stVal4 elValue.zero (vcs x) ?_ ?_ (vcl_len _) (vcl_one _) ?_); exact (by decide : 11 < 104); exact rfl; intro w4 hc4 hb4 hs4; have HN4 := Lib.hid (HN3.out.trans hc4 (fun _ _ x => x)); have Hb4 := Lib.hid (show At w4 ⟨w3.heap.size, 0, none⟩ [.int .i64 x.k, .int .i64 x.i, .string x.t, .slice none 0 0] from Blk.at_ (cs := vcs x) hb4); clear hc4 hb4 hs4)
        have HOv4 := Lib.hid (HOv.out.chg HN4.out (fun _ _ x => x))
        have HW4 := Lib.hid (HNw.out.trans HN4.out (fun _ _ x => x))
        have hul : us.length ≤ 1000 := by have := Hl.out; have := HN.out; omega
        have HA4 := Lib.hid (allO_take Ha.out Hfk.out)
        obtain ⟨w5, hw5⟩ : ∃ w5, w5 = w4.alloc (.cells #[.int .i64 x.k, .int .i64 x.i, .string x.t, .slice none 0 0] 37) := ⟨_, rfl⟩
        have hn5 : New w4 w5 := by rw [hw5]; exact (Chg.refl _ _).alloc _
        have hb5 : Blk w5 w4.heap.size 37 #[.int .i64 x.k, .int .i64 x.i, .string x.t, .slice none 0 0] := by rw [hw5]; exact Blk.new _ _ _
        have hrun := elValue.appendS (HOv4.out.chg hn5 (fun _ _ x => x)) (Nat.le_trans HW4.out.size hn5.size) (some ⟨w4.heap.size, 0, none⟩) 1 1 [vcs x] rfl (fun cs hc => by rw [List.mem_singleton.1 hc]; rfl) (fun cs hc => by rw [List.mem_singleton.1 hc]; exact vcl_one x) (src_one (Blk.vcs hb5) (vcl_len x)) (by rw [List.length_map]; omega) (by rw [List.length_map]; unfold maxLen; omega) 35
        rw [hw5] at hrun
        obtain ⟨v6, w6, hrun, hown6, hc6, -⟩ := hrun
        have Hrun := Lib.hid hrun
        have Hown6 := Lib.hid hown6
        have HC6 := Lib.hid ((hn5.mono (T' := fun k => (Value.slice Ao us.length co).ownBlock = some k) (fun _ _ x => x.elim)).trans (hw5 ▸ hc6) (fun _ _ x => x))
        clear hrun hb5 hn5 hw5 hown6 hc6
        clear HOv HN3 HNw Hc2 Hat H1c Ha Hek
        go_wp2_with first
          | ((with_reducible refine wpl_load rfl (.tmp 11) 37 rfl stVal4 ⟨w3.heap.size, 0, none⟩ [.int .i64 x.k, .int .i64 x.i, .string x.t, .slice none 0 0] ?_ rfl Hb4.out ?_); exact rfl)
          | ((with_reducible refine wpl_append rfl (.tmp 35) (.tmp 37) 35 35 rfl ?_ ?_ Hrun.out ?_); exact rfl; exact rfl)
        go_roundw
        case rel =>
          refine ⟨k + 1, us ++ [x], by omega, by go_num, HA4.out, by rw [List.length_append, Hl.out]; rfl, by rw [List.map_append]; exact Hown6.out, HW4.out.trans HC6.out (fun k hk h => ?_)⟩
          have := (HOv4.out.lt h).1
          omega
        case measure => simp [intOf]; omega
    · have hfull : allO fs = some us := by
        have h := Ha.out
        rwa [List.take_of_length_le (by rw [Hfs.out, List.length_map, ← HN.out]; omega)] at h
      obtain ⟨x, y, rfl⟩ : ∃ x y, us = [x, y] := by
        have := Hl.out
        have := H2.out
        match us, (show us.length = 2 by omega) with
        | [x, y], _ => exact ⟨x, y, rfl⟩
      obtain ⟨q, hq⟩ : ∃ q, testV jt x y = q := ⟨_, rfl⟩
      have okx := HOkx.out _ hfull x (by simp)
      have oky := HOkx.out _ hfull y (by simp)
      have ht := fun W => test_val W jt x y okx.1 oky.1 okx.2.1 okx.2.2 oky.2.1 oky.2.2
      rw [hq] at ht
      have hso := Hsome.out x y hfull
      rw [hq] at hso
      have HT := Lib.hid ht
      have HSo := Lib.hid hso
      have e0 := (B4.out.chg HNw.out id).cell 0
      simp only [List.getElem?_toArray, List.getElem?_cons_zero] at e0
      obtain ⟨B, hB, hr⟩ := (HOv.out.rows rfl).2 (by simp)
      subst hB
      have hHR := Lib.hid hr
      clear hfull Ha HOv Hsome Hnone HOkx HEv HOne HSeven HSrc HLen ht hso hq okx oky hr
      rw [show ([x, y] : List Vl).length = 2 from rfl]
      go_upto_region 16 with fail
      refine wp_region_at (by kernel_rfl) ?_
      have hnd : New w1 wr.drew := HNw.out.drew
      have D4 := Lib.hid (B4.out.chg hnd id)
      have D5 := Lib.hid (B5.out.chg hnd id)
      have D6 := Lib.hid (B6.out.chg hnd id)
      have D7 := Lib.hid (B7.out.chg hnd id)
      have DR := Lib.hid (hHR.out.chg (Chg.refl wr (fun _ => False)).drew id)
      have DN := Lib.hid (HN1.out.trans hnd (fun _ _ x => x))
      clear hnd e0 HNw hHR
      generalize wr.drew = wd at D4 D5 D6 D7 DR DN ⊢
      have hx := (DR.out 0 _ rfl).2
      have hy := (DR.out 1 _ rfl).2
      have Hx := Lib.hid hx
      have Hy := Lib.hid hy
      clear hx hy DR
      have eg51 : ∀ (args : Array Value) (w : World), (callFunc 47 args).run Try.prog w = .ok (.enter 47 args) w := enters_of Try.func47 (by kernel_rfl) rfl
      refine AtN.segN2 0 10 [60, 61, 62, 63, 64, 65, 66, 67, 68, 69] (fun
        | 0 => fun v _ => v = .agg #[.slice Ae s.1.length ce, .int .i64 s.2]
        | 1 => fun v _ => v = .pointer (some ⟨w.heap.size, 1, none⟩)
        | 2 => fun v _ => v = .string (opT jt)
        | 3 => fun v _ => v = .slice (some B) 2 co
        | 4 => fun v _ => v = .pointer (some (B.add 0))
        | 5 => fun v _ => v = .agg #[.int .i64 x.k, .int .i64 x.i, .string x.t, .slice none 0 0]
        | 6 => fun v _ => v = .slice (some B) 2 co
        | 7 => fun v _ => v = .pointer (some (B.add 4))
        | 8 => fun v _ => v = .agg #[.int .i64 y.k, .int .i64 y.i, .string y.t, .slice none 0 0]
        | 9 => fun v _ => v = .bool q
        | _ => fun _ _ => True) (by kernel_rfl) (by kernel_rfl) (by kernel_rfl) (by kernel_rfl) (fun j v w1 w2 hc h => ?_) (fun i hn hi o ho A0 W hN hin hk => ?_) (fun l W5 hN hl hΦ => ?_)
      · match j with
        | 0 | 1 | 2 | 3 | 4 | 5 | 6 | 7 | 8 | 9 => exact h
        | _ + 10 => trivial
      · rcases (show i = 0 ∨ i = 1 ∨ i = 2 ∨ i = 3 ∨ i = 4 ∨ i = 5 ∨ i = 6 ∨ i = 7 ∨ i = 8 ∨ i = 9 by omega) with rfl | rfl | rfl | rfl | rfl | rfl | rfl | rfl | rfl | rfl
        · cases ho
          have h5 : A0.tmps[5]?.getD undef = .pointer (some ⟨w.heap.size + 1, 0, none⟩) := hk 5 (by kernel_rfl)
          exact .same (exec_load 5 _ rfl stSta ⟨w.heap.size + 1, 0, none⟩ [.slice Ae s.1.length ce, .int .i64 s.2] h5 rfl (D5.out.chg hN id).at_) rfl
        · cases ho
          have h4 : A0.tmps[4]?.getD undef = .pointer (some ⟨w.heap.size, 0, none⟩) := hk 4 (by kernel_rfl)
          exact .same (by simp [go_sem, h4]) rfl
        · cases ho
          have h61 : A0.tmps[61]?.getD undef = .pointer (some ⟨w.heap.size, 1, none⟩) := hin 1 61 (by kernel_rfl)
          have hcx : W.cell? ⟨w.heap.size, 1, none⟩ = some (.string (opT jt)) := (D4.out.chg hN id).cell 1
          exact .same (v := .string (opT jt)) (by simp [go_sem, h61, hcx]) rfl
        · cases ho
          exact .same (exec_move 8 _ rfl (hk 8 (by kernel_rfl))) rfl
        · cases ho
          have h63 : A0.tmps[63]?.getD undef = .slice (some B) 2 co := hin 3 63 (by kernel_rfl)
          exact .same (by simp [go_sem, h63]) rfl
        · cases ho
          have h64 : A0.tmps[64]?.getD undef = .pointer (some (B.add 0)) := hin 4 64 (by kernel_rfl)
          exact .same (exec_load 64 _ rfl stVal4 (B.add (0 * 4)) (vcs x) h64 (vcl_len x) (Hx.out.chg hN id)) rfl
        · cases ho
          exact .same (exec_move 8 _ rfl (hk 8 (by kernel_rfl))) rfl
        · cases ho
          have h66 : A0.tmps[66]?.getD undef = .slice (some B) 2 co := hin 6 66 (by kernel_rfl)
          exact .same (by simp [go_sem, h66]) rfl
        · cases ho
          have h67 : A0.tmps[67]?.getD undef = .pointer (some (B.add 4)) := hin 7 67 (by kernel_rfl)
          exact .same (exec_load 67 _ rfl stVal4 (B.add (1 * 4)) (vcs y) h67 (vcl_len y) (Hy.out.chg hN id)) rfl
        · cases ho
          have h62 : A0.tmps[62]?.getD undef = .string (opT jt) := hin 2 62 (by kernel_rfl)
          have h65 : A0.tmps[65]?.getD undef = .agg #[.int .i64 x.k, .int .i64 x.i, .string x.t, .slice none 0 0] := hin 5 65 (by kernel_rfl)
          have h68 : A0.tmps[68]?.getD undef = .agg #[.int .i64 y.k, .int .i64 y.i, .string y.t, .slice none 0 0] := hin 8 68 (by kernel_rfl)
          refine .call (f := 47) (args := #[.string (opT jt), .agg #[.int .i64 x.k, .int .i64 x.i, .string x.t, .slice none 0 0], .agg #[.int .i64 y.k, .int .i64 y.i, .string y.t, .slice none 0 0]]) (W' := W) ?_ ((HT.out W).mono ?_)
          · simp [go_sem, h62, h65, h68, eg51]
          · rintro e w' ⟨rfl, hc⟩
            exact ⟨_, rfl, hc, rfl⟩
      obtain ⟨x60, x61, x62, x63, x64, x65, x66, x67, x68, x69, rfl⟩ : ∃ x60 x61 x62 x63 x64 x65 x66 x67 x68 x69, l = [x60, x61, x62, x63, x64, x65, x66, x67, x68, x69] := by
        match l, hl with
        | [x60, x61, x62, x63, x64, x65, x66, x67, x68, x69], _ => exact ⟨_, _, _, _, _, _, _, _, _, _, rfl⟩
      obtain rfl : x60 = .agg #[.slice Ae s.1.length ce, .int .i64 s.2] := hΦ 0 (by decide)
      obtain rfl : x61 = .pointer (some ⟨w.heap.size, 1, none⟩) := hΦ 1 (by decide)
      obtain rfl : x62 = .string (opT jt) := hΦ 2 (by decide)
      obtain rfl : x63 = .slice (some B) 2 co := hΦ 3 (by decide)
      obtain rfl : x64 = .pointer (some (B.add 0)) := hΦ 4 (by decide)
      obtain rfl : x65 = .agg #[.int .i64 x.k, .int .i64 x.i, .string x.t, .slice none 0 0] := hΦ 5 (by decide)
      obtain rfl : x66 = .slice (some B) 2 co := hΦ 6 (by decide)
      obtain rfl : x67 = .pointer (some (B.add 4)) := hΦ 7 (by decide)
      obtain rfl : x68 = .agg #[.int .i64 y.k, .int .i64 y.i, .string y.t, .slice none 0 0] := hΦ 8 (by decide)
      obtain rfl : x69 = .bool q := hΦ 9 (by decide)
      simp only [putsL, List.zip_cons_cons, List.zip_nil_left, List.zip_nil_right, List.zip, List.zipWith, Act.put, List.setIfInBounds_toArray, List.set_cons_succ, List.set_cons_zero]
      clear hΦ hl
      have F6 := Lib.hid (D6.out.chg hN id)
      have F7 := Lib.hid (D7.out.chg hN id)
      have FN := Lib.hid (DN.out.trans hN (fun _ _ x => x))
      clear D4 D5 D6 D7 DN hN
      refine AtN.list 10 12 (by kernel_rfl) ?_
      change wpList _ _ _ [_, _] _ _
      go_wp2_with ((with_reducible refine wpl_set rfl (.tmp 6) (.tmp 60) 66 rfl rfl stSta (w.heap.size + 1 + 1) 66 _ [.slice Ae s.1.length ce, .int .i64 s.2] ?_ ?_ F6.out rfl rfl (sta_one _ _ _ _) ?_); exact rfl; exact rfl; intro w5 hc5 hb5 hs5; have h75 := F7.out.chg hc5 (by omega); have HN5 := Lib.hid (FN.out.put hc5 (by omega)); have HB5 := Lib.hid hb5; have H75 := Lib.hid h75; have c7 := h75.cell 0; have f7 := h75.frozen 0; simp only [List.getElem?_toArray, List.getElem?_cons_zero] at c7; clear hc5 hb5 hs5 h75)
      change AtN _ _ _ 12 _ _
      refine AtN.done rfl ?_
      go_wp2_with fail
      refine bodyPost_ret (res_cells stSta rfl Try.underlying4 _ _ ⟨w.heap.size + 1 + 1, 0, none⟩ ⟨w.heap.size + 1 + 1 + 1, 0, none⟩ [.slice Ae s.1.length ce, .int .i64 s.2] q rfl (Blk.at_ (HB5.out.far (by simp) _)) rfl rfl (by have := H75.out.setCell 0 (.bool q); exact (this.cell 0).trans rfl)) rfl ?_
      refine ⟨HN5.out.setCell _ _ (fun h => absurd h (by simp; omega)), ?_⟩
      cases q with
      | true => exact .inr ⟨s, _, HSo.out, rfl, HSt.out.new (HN5.out.setCell _ _ (fun h => absurd h (by simp; omega)))⟩
      | false => exact .inl ⟨HSo.out, _, _, rfl, rfl, rfl⟩
end Go.Proofs.Ytfocjfnkcabbgaa

set_option linter.unusedVariables false
set_option linter.unusedSimpArgs false
namespace Go.Proofs.Ytfocjfnkcabbgaa
open Go.RowKit Go.Shelf

/-- append to what is clipped. -/
theorem append_clip (W : World) (Ae : Option Addr) (n : Nat) (env : Env) (hn : n = env.length) (hs : SrcAt W Ae 5 (env.map bcs)) (rb : Nat) (p : ByteArray × Vl) (hb : Blk W rb 98 (bcs p).toArray) (hm : n ≤ 999) :
    ∃ v' W', (Builtin.append_ #[64, 64] 64 #[.slice Ae n n, .slice (some ⟨rb, 0, none⟩) 1 1]).run Try.prog W = .ok v' W' ∧ New W W' ∧ Own W' W.heap.size 98 5 v' ((env ++ [p]).map bcs) := by
  cases Ae with
  | none =>
    have h0 : env = [] := by
      cases env with
      | nil => rfl
      | cons x l => obtain ⟨a, h, _⟩ := hs (by simp); cases h
    subst h0
    obtain rfl : n = 0 := hn
    obtain ⟨v', W', h1, h2, h3, _⟩ := elBind.appendS (Own.nil W W.heap.size 98 5) (Nat.le_refl _) (some ⟨rb, 0, none⟩) 1 1 [bcs p] rfl (fun cs hc => by rw [List.mem_singleton.1 hc]; rfl) (fun cs hc => bcs_one [p] cs hc) (src_one (Blk.at_ hb) rfl) (by simp) (by simp [maxLen]) 64
    exact ⟨v', W', h1, h3.mono (fun k _ h => by cases h), h2⟩
  | some a =>
    obtain ⟨i, z, hi, hz, hsz, hby, hzz, hzl⟩ := elBind.info
    have hk : ∀ cs ∈ env.map bcs, cs.length = 5 := fun cs hc => by obtain ⟨q, _, rfl⟩ := List.mem_map.1 hc; rfl
    obtain ⟨v', W', h1, h2, h3⟩ := run_append_arg_grows (P := Try.prog) W 64 64 98 i z 5 72 elBind.und hi hz hsz hby (by rw [← Array.length_toList, hzz, hzl]) (by omega) a n n (env.map bcs).flatten (by rw [flatten_len hk, List.length_map, ← hn]) (fun j u hj => by
        have hlt : j < (env.map bcs).flatten.length := (List.getElem?_eq_some_iff.1 hj).1
        rw [flatten_len hk, List.length_map] at hlt
        obtain ⟨a', ha, hr⟩ := hs (by rw [List.length_map]; omega)
        obtain rfl := Option.some.inj ha
        have hq : j / 5 < (env.map bcs).length := by rw [List.length_map]; exact Nat.div_lt_of_lt_mul (by rw [Nat.mul_comm]; exact hlt)
        have hrr := hr (j / 5) _ (List.getElem?_eq_getElem hq)
        have hjr : j % 5 < ((env.map bcs)[j / 5]).length := by rw [hrr.1]; exact Nat.mod_lt _ (by omega)
        have hu : (env.map bcs).flatten[j / 5 * 5 + j % 5]? = some ((env.map bcs)[j / 5][j % 5]) := flatten_get hk (List.getElem?_eq_getElem hq) (List.getElem?_eq_getElem hjr)
        have hjj : j / 5 * 5 + j % 5 = j := by rw [Nat.mul_comm]; exact Nat.div_add_mod j 5
        rw [hjj] at hu
        rw [hu] at hj
        have hcell := hrr.2 (j % 5) _ (List.getElem?_eq_getElem hjr)
        rw [add_add, hjj] at hcell
        rw [hcell]
        exact hj) ⟨rb, 0, none⟩ 1 1 (bcs p) rfl (fun j u hj => Blk.at_ hb j u hj) (by omega) (by unfold maxLen; omega) (by omega)
    refine ⟨v', W', h1, (Chg.of_grown h3).mono (fun k _ h => by cases h), ?_, ?_⟩
    · rw [List.map_append, List.length_append, List.flatten_append, List.length_map, ← hn]
      simpa using h2
    · intro cs hc; obtain ⟨q, _, rfl⟩ := List.mem_map.1 hc; rfl

set_option maxHeartbeats 8000000 in
set_option maxRecDepth 100000 in
theorem goes_assign (nm : ByteArray) (bm : Nat) (w0 w : World) (hw0 : New w0 w) (S1 : Nat → Prop) (hS1 : ∀ k, S1 k → k < w.heap.size) (A : Option Addr) (n c : Nat) (css : List (List Value)) (ts : List Tm) (hn : n = ts.length) (hnm : n ≤ 1000) (hts : TmsAt w0 A css ts) (hokt : ∀ t ∈ ts, okTm t)
    (s : Sta) (Ae : Option Addr) (ce : Nat) (hst : StAt s (.agg #[.slice Ae s.1.length ce, .int .i64 s.2]) S1 w) (hok : okEnv s.1) (hsl : s.1.length ≤ 999) (fs : List (Option Vl)) (hfs : fs = ts.map (evalT s.1)) (o : Option Sta) (hnone : allO fs = none → o = none) (h2 : n = 1) (hsome : ∀ x, allO fs = some [x] → o = if (lookE s.1 nm).isSome then none else some (s.1 ++ [(nm, x)], s.2)) :
    Calls Try.prog 39 #[.map (some bm), .agg #[.int .i64 4, .string nm, .slice A n c], .agg #[.slice Ae s.1.length ce, .int .i64 s.2]] w (GoesPost w S1 o) := by
  have Hnone := Lib.hid hnone
  have Hsome := Lib.hid hsome
  have H2 := Lib.hid h2
  clear hnone hsome h2
  obtain ⟨w1, hw1⟩ : ∃ w1, w1 = (((w.alloc (.cells #[.int .i64 4, .string nm, .slice A n c] 43)).alloc (.cells #[.slice Ae s.1.length ce, .int .i64 s.2] 66)).alloc (.cells #[.slice none 0 0, .int .i64 0] 66)).alloc (.cells #[.bool false] 4) := ⟨_, rfl⟩
  obtain ⟨hN1, b4, b5, b6, b7, hz1⟩ := boxes4 _ _ _ _ _ _ _ _ _ w1 hw1
  have hev : ∀ (k : Nat) (t : Tm) (cs : List Value) (W : World), css[k]? = some cs → ts[k]? = some t → New w1 W → Calls Try.prog 40 #[.agg cs.toArray, .slice Ae s.1.length ce] W fun e W' => e = .returned (optV (evalT s.1 t)) ∧ New W W' := by
    intro k t cs W hcs ht hW
    obtain ⟨A', c', he, _, _, hse, _⟩ := hst
    obtain ⟨rfl, rfl⟩ : Ae = A' ∧ ce = c' := by
      injection he with he
      injection he with he
      injection he with h1 h2
      injection h1 with h1 _ h3
      exact ⟨h1, h3⟩
    have hww := (hN1.trans hW (fun _ _ x => x))
    exact bEval Ae s.1.length ce s.1 rfl (by omega) hok t (hokt t (List.mem_of_getElem? ht)) W cs (hse.chg hww (fun _ _ => id)) ((hts.at_ k cs t hcs ht).chg ((hw0.trans hww (fun _ _ x => x))))
  have hone : ∀ (k : Nat) (t : Tm) (cs : List Value), css[k]? = some cs → ts[k]? = some t → ∀ u ∈ cs, u.oneCell' = true := fun k t cs h1 h2 => (hts.at_ k cs t h1 h2).one
  have hsrc := hts.src.chg (hw0.trans hN1 (fun _ _ x => x)) (fun _ _ => id)
  have hlen := hts.len
  have hseven : ∀ (k : Nat) (t : Tm) (cs : List Value), css[k]? = some cs → ts[k]? = some t → ∃ t0 t1 t2 t3 t4 t5 t6, cs = [t0, t1, t2, t3, t4, t5, t6] := fun k t cs h1 h2 => (hts.at_ k cs t h1 h2).seven
  have HEv := Lib.hid hev
  have HOne := Lib.hid hone
  have HSeven := Lib.hid hseven
  have HSrc := Lib.hid hsrc
  have HLen := Lib.hid hlen
  have HW := Lib.hid hw1
  have HN1 := Lib.hid hN1
  have B4 := Lib.hid b4
  have B5 := Lib.hid b5
  have B6 := Lib.hid b6
  have B7 := Lib.hid b7
  have HZ := Lib.hid hz1
  have HSt := Lib.hid hst
  have HN := Lib.hid hn
  have Hfs := Lib.hid hfs
  clear hev hone hseven hsrc hlen hw1 hN1 b4 b5 b6 b7 hz1 hst hts hokt hok hw0 hn hfs
  go_enter Try.func39, Try.ntmps39
  go_upto_region 3 with fail
  rw [← HW.out]
  have e2 := (B4.out).cell 2
  simp only [List.getElem?_toArray, List.getElem?_cons_zero, List.getElem?_cons_succ] at e2
  go_wp2_with fail
  clear HW e2
  go_loopw [8, 21] (fun u8 u21 wr => ∃ (k : Nat) (us : List Vl), k ≤ n ∧ u21 = .int .i64 k ∧ allO (fs.take k) = some us ∧ us.length = k ∧ Own wr w1.heap.size 37 4 u8 (us.map vcs) ∧ New w1 wr) (fun _ u _ => n - (intOf u).toNat)
  case atStart => exact ⟨0, [], Nat.zero_le _, rfl, rfl, rfl, Own.nil _ _ _ _, Chg.refl _ _⟩
  case round =>
    obtain ⟨k, us, hk, rfl, ha, hl, hov, hNr⟩ := hrel
    obtain ⟨Ao, co, rfl, hc1, hc2⟩ := hov.form
    rw [List.length_map] at hov ⊢
    have Ha := Lib.hid ha
    have HOv := Lib.hid hov
    have HNw := Lib.hid hNr
    have Hl := Lib.hid hl
    clear ha hov hNr hl hc1 hc2
    by_cases hlt : k < n
    · obtain ⟨t, ht⟩ : ∃ t, ts[k]? = some t := ⟨_, List.getElem?_eq_getElem (by rw [← HN.out]; exact hlt)⟩
      obtain ⟨cs, hcs⟩ : ∃ cs, css[k]? = some cs := ⟨_, List.getElem?_eq_getElem (by rw [HLen.out, ← HN.out]; exact hlt)⟩
      obtain ⟨ad, rfl, hrw⟩ := HSrc.out (by rw [HLen.out, ← HN.out]; omega)
      have hat := (hrw k cs hcs).2.chg HNw.out id
      have h1c := HOne.out k t cs hcs ht
      have hek := fun W h => HEv.out k t cs W hcs ht h
      obtain ⟨o1, ho1⟩ : ∃ o1, evalT s.1 t = o1 := ⟨_, rfl⟩
      have hfk : fs[k]? = some o1 := by rw [Hfs.out, List.getElem?_map, ht, ← ho1]; rfl
      rw [ho1] at hek
      obtain ⟨t0, t1, t2, t3, t4, t5, t6, rfl⟩ := HSeven.out k t cs hcs ht
      have Hat := Lib.hid hat
      have H1c := Lib.hid h1c
      have Hek := Lib.hid hek
      have Hfk := Lib.hid hfk
      clear hat h1c hek hfk hrw hcs ht ho1
      have e5 := (B5.out.chg HNw.out id).cell 0
      simp only [List.getElem?_toArray, List.getElem?_cons_zero] at e5
      cases o1 with
      | none =>
        unfold optV at Hek
        dsimp only [Option.getD, Option.isSome, vval, zV] at Hek
        go_wp2_with first
          | ((with_reducible refine wpl_load rfl (.tmp 23) 39 rfl stTerm (ad.add (k * 7)) _ ?_ rfl Hat.out ?_); exact rfl)
          | ((with_reducible refine wpl_box rfl rfl 10 (.tmp 24) 39 rfl rfl rfl rfl stTerm elTerm.zero [t0, t1, t2, t3, t4, t5, t6] ?_ ?_ rfl H1c.out ?_); exact (by decide : 10 < 104); exact rfl; intro w2 hc2 hb2 hs2; have e6 := hc2.cellS e5 id; have Hc2 := Lib.hid hc2; have Hb2 := Lib.hid (Blk.at_ (cs := [t0, t1, t2, t3, t4, t5, t6]) hb2); clear hc2 hb2 hs2)
          | ((with_reducible refine wpl_load rfl (.tmp 10) 39 rfl stTerm ⟨wr.heap.size, 0, none⟩ _ ?_ rfl Hb2.out ?_); exact rfl)
          | (go_at_call 40; refine (Hek.out _ (HNw.out.trans Hc2.out (fun _ _ x => x))).mono ?_; rintro e w3 ⟨rfl, hc3⟩; have HN3 := Lib.hid ((HNw.out.trans Hc2.out (fun _ _ x => x)).trans hc3 (fun _ _ x => x)); clear hc3 e5 e6)
          | ((with_reducible refine wpl_box rfl rfl 11 (.tmp 30) 37 rfl rfl rfl rfl stVal4 elValue.zero (vcs zV) ?_ ?_ (vcl_len _) (vcl_one _) ?_); exact (by decide : 11 < 104); exact rfl; intro w4 hc4 hb4 hs4; have HN4 := Lib.hid (HN3.out.trans hc4 (fun _ _ x => x)); clear hc4 hb4 hs4)
          | ((with_reducible refine wpl_load rfl (.tmp 5) 66 rfl stSta ⟨w.heap.size + 1, 0, none⟩ [.slice Ae s.1.length ce, .int .i64 s.2] ?_ rfl (B5.out.chg HN4.out id).at_ ?_); exact rfl)
          | ((with_reducible refine wpl_set rfl (.tmp 6) (.tmp 34) 66 rfl rfl stSta (w.heap.size + 1 + 1) 66 _ [.slice Ae s.1.length ce, .int .i64 s.2] ?_ ?_ (B6.out.chg HN4.out id) rfl rfl (sta_one _ _ _ _) ?_); exact rfl; exact rfl; intro w5 hc5 hb5 hs5; have h75 := (B7.out.chg HN4.out id).chg hc5 (by omega); have HN5 := Lib.hid ((HN1.out.trans HN4.out (fun _ _ x => x)).put hc5 (by omega)); have HC5 := Lib.hid hc5; have HB5 := Lib.hid hb5; have H75 := Lib.hid h75; have c7 := h75.cell 0; have f7 := h75.frozen 0; simp only [List.getElem?_toArray, List.getElem?_cons_zero] at c7; clear hc5 hb5 hs5 h75)
        refine bodyPost_ret (res_cells stSta rfl Try.underlying4 _ _ ⟨w.heap.size + 1 + 1, 0, none⟩ ⟨w.heap.size + 1 + 1 + 1, 0, none⟩ [.slice Ae s.1.length ce, .int .i64 s.2] false rfl (Blk.at_ (HB5.out.far (by simp) _)) rfl rfl (by have := H75.out.setCell 0 (.bool false); exact (this.cell 0).trans rfl)) rfl ?_
        exact ⟨HN5.out.setCell _ _ (fun h => absurd h (by simp; omega)), .inl ⟨Hnone.out (allO_none Hfk.out), _, _, rfl, rfl, rfl⟩⟩
      | some x =>
        unfold optV at Hek
        dsimp only [Option.getD, Option.isSome, vval] at Hek
        go_upto_region 9 with first
          | ((with_reducible refine wpl_load rfl (.tmp 23) 39 rfl stTerm (ad.add (k * 7)) _ ?_ rfl Hat.out ?_); exact rfl)
          | ((with_reducible refine wpl_box rfl rfl 10 (.tmp 24) 39 rfl rfl rfl rfl stTerm elTerm.zero [t0, t1, t2, t3, t4, t5, t6] ?_ ?_ rfl H1c.out ?_); exact (by decide : 10 < 104); exact rfl; intro w2 hc2 hb2 hs2; have e6 := hc2.cellS e5 id; have Hc2 := Lib.hid hc2; have Hb2 := Lib.hid (Blk.at_ (cs := [t0, t1, t2, t3, t4, t5, t6]) hb2); clear hc2 hb2 hs2)
          | ((with_reducible refine wpl_load rfl (.tmp 10) 39 rfl stTerm ⟨wr.heap.size, 0, none⟩ _ ?_ rfl Hb2.out ?_); exact rfl)
          | (go_at_call 40; refine (Hek.out _ (HNw.out.trans Hc2.out (fun _ _ x => x))).mono ?_; rintro e w3 ⟨rfl, hc3⟩; have HN3 := Lib.hid (Hc2.out.trans hc3 (fun _ _ x => x)); clear hc3 e5 e6)
          | ((with_reducible refine wpl_box rfl rfl 11 (.tmp 30) 37 rfl rfl rfl rfl stVal4 elValue.zero (vcs x) ?_ ?_ (vcl_len _) (vcl_one _) ?_); exact (by decide : 11 < 104); exact rfl; intro w4 hc4 hb4 hs4; have HN4 := Lib.hid (HN3.out.trans hc4 (fun _ _ x => x)); have Hb4 := Lib.hid (show At w4 ⟨w3.heap.size, 0, none⟩ [.int .i64 x.k, .int .i64 x.i, .string x.t, .slice none 0 0] from Blk.at_ (cs := vcs x) hb4); clear hc4 hb4 hs4)
        have HOv4 := Lib.hid (HOv.out.chg HN4.out (fun _ _ x => x))
        have HW4 := Lib.hid (HNw.out.trans HN4.out (fun _ _ x => x))
        have hul : us.length ≤ 1000 := by have := Hl.out; have := HN.out; omega
        have HA4 := Lib.hid (allO_take Ha.out Hfk.out)
        obtain ⟨w5, hw5⟩ : ∃ w5, w5 = w4.alloc (.cells #[.int .i64 x.k, .int .i64 x.i, .string x.t, .slice none 0 0] 37) := ⟨_, rfl⟩
        have hn5 : New w4 w5 := by rw [hw5]; exact (Chg.refl _ _).alloc _
        have hb5 : Blk w5 w4.heap.size 37 #[.int .i64 x.k, .int .i64 x.i, .string x.t, .slice none 0 0] := by rw [hw5]; exact Blk.new _ _ _
        have hrun := elValue.appendS (HOv4.out.chg hn5 (fun _ _ x => x)) (Nat.le_trans HW4.out.size hn5.size) (some ⟨w4.heap.size, 0, none⟩) 1 1 [vcs x] rfl (fun cs hc => by rw [List.mem_singleton.1 hc]; rfl) (fun cs hc => by rw [List.mem_singleton.1 hc]; exact vcl_one x) (src_one (Blk.vcs hb5) (vcl_len x)) (by rw [List.length_map]; omega) (by rw [List.length_map]; unfold maxLen; omega) 35
        rw [hw5] at hrun
        obtain ⟨v6, w6, hrun, hown6, hc6, -⟩ := hrun
        have Hrun := Lib.hid hrun
        have Hown6 := Lib.hid hown6
        have HC6 := Lib.hid ((hn5.mono (T' := fun k => (Value.slice Ao us.length co).ownBlock = some k) (fun _ _ x => x.elim)).trans (hw5 ▸ hc6) (fun _ _ x => x))
        clear hrun hb5 hn5 hw5 hown6 hc6
        clear HOv HN3 HNw Hc2 Hat H1c Ha Hek
        go_wp2_with first
          | ((with_reducible refine wpl_load rfl (.tmp 11) 37 rfl stVal4 ⟨w3.heap.size, 0, none⟩ [.int .i64 x.k, .int .i64 x.i, .string x.t, .slice none 0 0] ?_ rfl Hb4.out ?_); exact rfl)
          | ((with_reducible refine wpl_append rfl (.tmp 35) (.tmp 37) 35 35 rfl ?_ ?_ Hrun.out ?_); exact rfl; exact rfl)
        go_roundw
        case rel =>
          refine ⟨k + 1, us ++ [x], by omega, by go_num, HA4.out, by rw [List.length_append, Hl.out]; rfl, by rw [List.map_append]; exact Hown6.out, HW4.out.trans HC6.out (fun k hk h => ?_)⟩
          have := (HOv4.out.lt h).1
          omega
        case measure => simp [intOf]; omega
    · have hfull : allO fs = some us := by
        have h := Ha.out
        rwa [List.take_of_length_le (by rw [Hfs.out, List.length_map, ← HN.out]; omega)] at h
      obtain ⟨x, rfl⟩ : ∃ x, us = [x] := by
        have := Hl.out
        have := H2.out
        match us, (show us.length = 1 by omega) with
        | [x], _ => exact ⟨x, rfl⟩
      obtain ⟨o2, ho2⟩ : ∃ o2, lookE s.1 nm = o2 := ⟨_, rfl⟩
      have hso := Hsome.out x hfull
      rw [ho2] at hso
      have hlk : ∀ W, New w1 W → Calls Try.prog 48 #[.slice Ae s.1.length ce, .string nm] W fun e W' => e = .returned (optV o2) ∧ New W W' := fun W hW => by
        rw [← ho2]
        obtain ⟨A', c', he, _, _, hse, _⟩ := HSt.out
        obtain ⟨rfl, rfl⟩ : Ae = A' ∧ ce = c' := by
          injection he with he
          injection he with he
          injection he with h1 h2
          injection h1 with h1 _ h3
          exact ⟨h1, h3⟩
        exact bLookup Ae s.1.length ce s.1 rfl (by omega) nm W (hse.chg (HN1.out.trans hW (fun _ _ x => x)) (fun _ _ => id))
      have HLk := Lib.hid hlk
      have HSo := Lib.hid hso
      have e0 := (B4.out.chg HNw.out id).cell 0
      have e1 := (B4.out.chg HNw.out id).cell 1
      have e5 := (B5.out.chg HNw.out id).cell 0
      simp only [List.getElem?_toArray, List.getElem?_cons_zero, List.getElem?_cons_succ] at e0 e1 e5
      obtain ⟨B, hB, hr⟩ := (HOv.out.rows rfl).2 (by simp)
      subst hB
      have hHR := Lib.hid hr
      clear hfull Ha HOv Hsome Hnone HEv HOne HSeven HSrc HLen hso hr hlk ho2
      rw [show ([x] : List Vl).length = 1 from rfl]
      cases o2 with
      | some y =>
        have hLk := HLk.out wr HNw.out
        unfold optV at hLk
        dsimp only [Option.getD, Option.isSome, vval] at hLk
        have HLk1 := Lib.hid hLk
        clear hLk
        go_wp2_with first
          | (go_at_call 48; refine HLk1.out.mono ?_; rintro e w3 ⟨rfl, hc3⟩; have HN3 := Lib.hid (HNw.out.trans hc3 (fun _ _ x => x)); clear hc3)
          | ((with_reducible refine wpl_box rfl rfl 13 (.tmp 85) 37 rfl rfl rfl rfl stVal4 elValue.zero (vcs y) ?_ ?_ (vcl_len _) (vcl_one _) ?_); exact (by decide : 13 < 104); exact rfl; intro w4 hc4 hb4 hs4; have HN4 := Lib.hid (HN3.out.trans hc4 (fun _ _ x => x)); clear hc4 hb4 hs4)
          | ((with_reducible refine wpl_load rfl (.tmp 5) 66 rfl stSta ⟨w.heap.size + 1, 0, none⟩ [.slice Ae s.1.length ce, .int .i64 s.2] ?_ rfl (B5.out.chg HN4.out id).at_ ?_); exact rfl)
          | ((with_reducible refine wpl_set rfl (.tmp 6) (.tmp 88) 66 rfl rfl stSta (w.heap.size + 1 + 1) 66 _ [.slice Ae s.1.length ce, .int .i64 s.2] ?_ ?_ (B6.out.chg HN4.out id) rfl rfl (sta_one _ _ _ _) ?_); exact rfl; exact rfl; intro w5 hc5 hb5 hs5; have h75 := (B7.out.chg HN4.out id).chg hc5 (by omega); have HN5 := Lib.hid ((HN1.out.trans HN4.out (fun _ _ x => x)).put hc5 (by omega)); have HC5 := Lib.hid hc5; have HB5 := Lib.hid hb5; have H75 := Lib.hid h75; have c7 := h75.cell 0; have f7 := h75.frozen 0; simp only [List.getElem?_toArray, List.getElem?_cons_zero] at c7; clear hc5 hb5 hs5 h75)
        refine bodyPost_ret (res_cells stSta rfl Try.underlying4 _ _ ⟨w.heap.size + 1 + 1, 0, none⟩ ⟨w.heap.size + 1 + 1 + 1, 0, none⟩ [.slice Ae s.1.length ce, .int .i64 s.2] false rfl (Blk.at_ (HB5.out.far (by simp) _)) rfl rfl (by have := H75.out.setCell 0 (.bool false); exact (this.cell 0).trans rfl)) rfl ?_
        exact ⟨HN5.out.setCell _ _ (fun h => absurd h (by simp; omega)), .inl ⟨HSo.out, _, _, rfl, rfl, rfl⟩⟩
      | none =>
        have hLk := HLk.out wr HNw.out
        unfold optV at hLk
        dsimp only [Option.getD, Option.isSome, vval, zV] at hLk
        have HLk1 := Lib.hid hLk
        clear hLk
        go_upto_region 21 with first
          | (go_at_call 48; refine HLk1.out.mono ?_; rintro e w3 ⟨rfl, hc3⟩; have HN3 := Lib.hid hc3; clear hc3)
          | ((with_reducible refine wpl_box rfl rfl 13 (.tmp 85) 37 rfl rfl rfl rfl stVal4 elValue.zero (vcs zV) ?_ ?_ (vcl_len _) (vcl_one _) ?_); exact (by decide : 13 < 104); exact rfl; intro w4 hc4 hb4 hs4; have HN4 := Lib.hid (HN3.out.trans hc4 (fun _ _ x => x)); clear hc4 hb4 hs4)
        refine wp_region_at (by kernel_rfl) ?_
        have hnw : New wr w4.drew := HN4.out.drew
        have hnd : New w1 w4.drew := HNw.out.trans hnw (fun _ _ x => x)
        have D4 := Lib.hid (B4.out.chg hnd id)
        have D5 := Lib.hid (B5.out.chg hnd id)
        have D6 := Lib.hid (B6.out.chg hnd id)
        have D7 := Lib.hid (B7.out.chg hnd id)
        have DR := Lib.hid (hHR.out.chg hnw id)
        have DN := Lib.hid (HN1.out.trans hnd (fun _ _ x => x))
        have Dz := Lib.hid hnd.size
        clear hnd hnw e0 e1 e5 HNw hHR HN3 HN4
        generalize w4.drew = wd at D4 D5 D6 D7 DR DN Dz ⊢
        have hx := (DR.out 0 _ rfl).2
        have Hx := Lib.hid hx
        obtain ⟨A', c', hee, hle, hcm, hse, _⟩ := HSt.out
        obtain ⟨rfl, rfl⟩ : Ae = A' ∧ ce = c' := by
          injection hee with he
          injection he with he
          injection he with h1 h2
          injection h1 with h1 _ h3
          exact ⟨h1, h3⟩
        have HSe := Lib.hid (hse.chg DN.out (fun _ _ => id))
        have Hle := Lib.hid hle
        have Hcm := Lib.hid hcm
        clear hx DR hee hle hcm hse
        have eg53 : ∀ (args : Array Value) (w : World), (callFunc 49 args).run Try.prog w = .ok (.enter 49 args) w := enters_of Try.func49 (by kernel_rfl) rfl
        refine AtN.segN2 0 14 [89, 90, 91, 92, 93, 94, 95, 96, 97, 98, 99, 100, 101, 102] (fun
          | 0 => fun v _ => v = .pointer (some ⟨w.heap.size + 1, 0, none⟩)
          | 1 => fun v _ => v = .slice Ae s.1.length ce
          | 2 => fun v _ => v = .slice Ae s.1.length s.1.length
          | 3 => fun v _ => v = .pointer (some ⟨w.heap.size, 1, none⟩)
          | 4 => fun v _ => v = .string nm
          | 5 => fun v _ => v = .slice (some B) 1 co
          | 6 => fun v _ => v = .pointer (some (B.add 0))
          | 7 => fun v _ => v = .agg #[.int .i64 x.k, .int .i64 x.i, .string x.t, .slice none 0 0]
          | 8 => fun v _ => v = .agg #[.string nm, .int .i64 x.k, .int .i64 x.i, .string x.t, .slice none 0 0]
          | 9 => fun v W => ∃ rb, v = .slice (some ⟨rb, 0, none⟩) 1 1 ∧ Blk W rb 98 #[.string nm, .int .i64 x.k, .int .i64 x.i, .string x.t, .slice none 0 0]
          | 10 => fun v W => ∃ Av cv, v = .slice Av (s.1.length + 1) cv ∧ s.1.length + 1 ≤ cv ∧ cv ≤ maxLen ∧ SrcAt W Av 5 ((s.1 ++ [(nm, x)]).map bcs) ∧ ∀ a, Av = some a → a.block < W.heap.size ∧ wd.heap.size ≤ a.block
          | 11 => fun v _ => v = .pointer (some ⟨w.heap.size + 1, 1, none⟩)
          | 12 => fun v _ => v = .int .i64 s.2
          | 13 => fun v W => ∃ Av cv, v = .agg #[.slice Av (s.1.length + 1) cv, .int .i64 s.2] ∧ s.1.length + 1 ≤ cv ∧ cv ≤ maxLen ∧ SrcAt W Av 5 ((s.1 ++ [(nm, x)]).map bcs) ∧ ∀ a, Av = some a → a.block < W.heap.size ∧ wd.heap.size ≤ a.block
          | _ => fun _ _ => True) (by kernel_rfl) (by kernel_rfl) (by kernel_rfl) (by kernel_rfl) (fun j v w1 w2 hc h => ?_) (fun i hn hi o ho A0 W hN hin hk => ?_) (fun l W5 hN hl hΦ => ?_)
        · match j with
          | 9 => exact h.imp fun b h => ⟨h.1, h.2.chg hc id⟩
          | 10 => exact h.imp fun Av h => h.imp fun cv h => ⟨h.1, h.2.1, h.2.2.1, h.2.2.2.1.chg hc (fun _ _ => id), fun a ha => ⟨Nat.lt_of_lt_of_le (h.2.2.2.2 a ha).1 hc.size, (h.2.2.2.2 a ha).2⟩⟩
          | 13 => exact h.imp fun Av h => h.imp fun cv h => ⟨h.1, h.2.1, h.2.2.1, h.2.2.2.1.chg hc (fun _ _ => id), fun a ha => ⟨Nat.lt_of_lt_of_le (h.2.2.2.2 a ha).1 hc.size, (h.2.2.2.2 a ha).2⟩⟩
          | 0 | 1 | 2 | 3 | 4 | 5 | 6 | 7 | 8 | 11 | 12 => exact h
          | _ + 14 => trivial
        · rcases (show i = 0 ∨ i = 1 ∨ i = 2 ∨ i = 3 ∨ i = 4 ∨ i = 5 ∨ i = 6 ∨ i = 7 ∨ i = 8 ∨ i = 9 ∨ i = 10 ∨ i = 11 ∨ i = 12 ∨ i = 13 by omega) with rfl | rfl | rfl | rfl | rfl | rfl | rfl | rfl | rfl | rfl | rfl | rfl | rfl | rfl
          · cases ho
            have h5 : A0.tmps[5]?.getD undef = .pointer (some ⟨w.heap.size + 1, 0, none⟩) := hk 5 (by kernel_rfl)
            exact .same (by simp [go_sem, h5]) rfl
          · cases ho
            have h89 : A0.tmps[89]?.getD undef = .pointer (some ⟨w.heap.size + 1, 0, none⟩) := hin 0 89 (by kernel_rfl)
            have hcx : W.cell? ⟨w.heap.size + 1, 0, none⟩ = some (.slice Ae s.1.length ce) := (D5.out.chg hN id).cell 0
            exact .same (v := .slice Ae s.1.length ce) (by simp [go_sem, h89, hcx]) rfl
          · cases ho
            have h90 : A0.tmps[90]?.getD undef = .slice Ae s.1.length ce := hin 1 90 (by kernel_rfl)
            refine .call (f := 49) (args := #[.slice Ae s.1.length ce]) (W' := W) ?_ ((clip_env W Ae s.1.length ce Hle.out Hcm.out).mono ?_)
            · simp [go_sem, h90, eg53]
            · rintro e w' ⟨rfl, rfl⟩
              exact ⟨_, rfl, Chg.refl _ _, rfl⟩
          · cases ho
            have h4 : A0.tmps[4]?.getD undef = .pointer (some ⟨w.heap.size, 0, none⟩) := hk 4 (by kernel_rfl)
            exact .same (by simp [go_sem, h4]) rfl
          · cases ho
            have h92 : A0.tmps[92]?.getD undef = .pointer (some ⟨w.heap.size, 1, none⟩) := hin 3 92 (by kernel_rfl)
            have hcx : W.cell? ⟨w.heap.size, 1, none⟩ = some (.string nm) := (D4.out.chg hN id).cell 1
            exact .same (v := .string nm) (by simp [go_sem, h92, hcx]) rfl
          · cases ho
            exact .same (exec_move 8 _ rfl (hk 8 (by kernel_rfl))) rfl
          · cases ho
            have h94 : A0.tmps[94]?.getD undef = .slice (some B) 1 co := hin 5 94 (by kernel_rfl)
            exact .same (by simp [go_sem, h94]) rfl
          · cases ho
            have h95 : A0.tmps[95]?.getD undef = .pointer (some (B.add 0)) := hin 6 95 (by kernel_rfl)
            exact .same (exec_load 95 _ rfl stVal4 (B.add (0 * 4)) (vcs x) h95 (vcl_len x) (Hx.out.chg hN id)) rfl
          · cases ho
            have h93 : A0.tmps[93]?.getD undef = .string nm := hin 4 93 (by kernel_rfl)
            have h96 : A0.tmps[96]?.getD undef = .agg #[.int .i64 x.k, .int .i64 x.i, .string x.t, .slice none 0 0] := hin 7 96 (by kernel_rfl)
            exact .same (by simp [go_sem, h93, h96]) rfl
          · cases ho
            have h97 : A0.tmps[97]?.getD undef = .agg #[.string nm, .int .i64 x.k, .int .i64 x.i, .string x.t, .slice none 0 0] := hin 8 97 (by kernel_rfl)
            exact .value (W' := W.alloc (.cells #[.string nm, .int .i64 x.k, .int .i64 x.i, .string x.t, .slice none 0 0] 98)) (by simp [go_sem, h97]) ⟨(Chg.refl _ _).alloc _, _, rfl, Blk.new _ _ _⟩
          · cases ho
            have h91 : A0.tmps[91]?.getD undef = .slice Ae s.1.length s.1.length := hin 2 91 (by kernel_rfl)
            have h98 := hin 9 98 (by kernel_rfl)
            obtain ⟨rb, e98, hb⟩ := h98
            obtain ⟨v1, W', hrun, hnew, hown⟩ := append_clip W Ae s.1.length s.1 rfl (HSe.out.chg hN (fun _ _ => id)) rb (nm, x) hb hsl
            obtain ⟨Av, cv, hv, hv1, hv2⟩ := hown.form
            rw [List.length_map, List.length_append] at hv hv1
            refine .value (exec_append _ _ _ _ rfl (by simpa [Act.eval] using h91) (by simpa [Act.eval] using e98) hrun) ⟨hnew, Av, cv, hv, hv1, hv2, (hown.rows hv).2, fun a ha => ?_⟩
            have := hown.lt (g := a.block) (by rw [hv, ha]; rfl)
            exact ⟨this.2, Nat.le_trans hN.size this.1⟩
          · cases ho
            have h5 : A0.tmps[5]?.getD undef = .pointer (some ⟨w.heap.size + 1, 0, none⟩) := hk 5 (by kernel_rfl)
            exact .same (by simp [go_sem, h5]) rfl
          · cases ho
            have h100 : A0.tmps[100]?.getD undef = .pointer (some ⟨w.heap.size + 1, 1, none⟩) := hin 11 100 (by kernel_rfl)
            have hcx : W.cell? ⟨w.heap.size + 1, 1, none⟩ = some (.int .i64 s.2) := (D5.out.chg hN id).cell 1
            exact .same (v := .int .i64 s.2) (by simp [go_sem, h100, hcx]) rfl
          · cases ho
            have h99 := hin 10 99 (by kernel_rfl)
            have h101 : A0.tmps[101]?.getD undef = .int .i64 s.2 := hin 12 101 (by kernel_rfl)
            obtain ⟨Av, cv, e99, hr⟩ := h99
            exact .same (v := .agg #[.slice Av (s.1.length + 1) cv, .int .i64 s.2]) (by simp [go_sem, e99, h101]) ⟨Av, cv, rfl, hr⟩
        obtain ⟨x89, x90, x91, x92, x93, x94, x95, x96, x97, x98, x99, x100, x101, x102, rfl⟩ : ∃ x89 x90 x91 x92 x93 x94 x95 x96 x97 x98 x99 x100 x101 x102, l = [x89, x90, x91, x92, x93, x94, x95, x96, x97, x98, x99, x100, x101, x102] := by
          match l, hl with
          | [x89, x90, x91, x92, x93, x94, x95, x96, x97, x98, x99, x100, x101, x102], _ => exact ⟨_, _, _, _, _, _, _, _, _, _, _, _, _, _, rfl⟩
        obtain rfl : x89 = .pointer (some ⟨w.heap.size + 1, 0, none⟩) := hΦ 0 (by decide)
        obtain rfl : x90 = .slice Ae s.1.length ce := hΦ 1 (by decide)
        obtain rfl : x91 = .slice Ae s.1.length s.1.length := hΦ 2 (by decide)
        obtain rfl : x92 = .pointer (some ⟨w.heap.size, 1, none⟩) := hΦ 3 (by decide)
        obtain rfl : x93 = .string nm := hΦ 4 (by decide)
        obtain rfl : x94 = .slice (some B) 1 co := hΦ 5 (by decide)
        obtain rfl : x95 = .pointer (some (B.add 0)) := hΦ 6 (by decide)
        obtain rfl : x96 = .agg #[.int .i64 x.k, .int .i64 x.i, .string x.t, .slice none 0 0] := hΦ 7 (by decide)
        obtain rfl : x97 = .agg #[.string nm, .int .i64 x.k, .int .i64 x.i, .string x.t, .slice none 0 0] := hΦ 8 (by decide)
        have hx98 := hΦ 9 (by decide)
        have hx99 := hΦ 10 (by decide)
        obtain rfl : x100 = .pointer (some ⟨w.heap.size + 1, 1, none⟩) := hΦ 11 (by decide)
        obtain rfl : x101 = .int .i64 s.2 := hΦ 12 (by decide)
        have hx102 := hΦ 13 (by decide)
        simp only [putsL, List.zip_cons_cons, List.zip_nil_left, List.zip_nil_right, List.zip, List.zipWith, Act.put, List.setIfInBounds_toArray, List.set_cons_succ, List.set_cons_zero]
        clear hΦ hl
        have F6 := Lib.hid (D6.out.chg hN id)
        have F7 := Lib.hid (D7.out.chg hN id)
        have FN := Lib.hid (DN.out.trans hN (fun _ _ x => x))
        obtain ⟨Av, cv, rfl, hv1, hv2, hv3, hv4⟩ := hx102
        obtain ⟨Aw, cw, rfl, _⟩ := hx99
        obtain ⟨rb, rfl, _⟩ := hx98
        have HV3 := Lib.hid hv3
        have HV4 := Lib.hid hv4
        have HDz := Dz
        clear D4 D5 D6 D7 DN hN hv3 hv4 HSe
        refine AtN.list 14 16 (by kernel_rfl) ?_
        change wpList _ _ _ [_, _] _ _
        go_wp2_with ((with_reducible refine wpl_set rfl (.tmp 6) (.tmp 102) 66 rfl rfl stSta (w.heap.size + 1 + 1) 66 _ [.slice Av (s.1.length + 1) cv, .int .i64 s.2] ?_ ?_ F6.out rfl rfl (sta_one _ _ _ _) ?_); exact rfl; exact rfl; intro w5 hc5 hb5 hs5; have h75 := F7.out.chg hc5 (by omega); have HN5 := Lib.hid (FN.out.put hc5 (by omega)); have HC5 := Lib.hid hc5; have HB5 := Lib.hid hb5; have H75 := Lib.hid h75; have c7 := h75.cell 0; have f7 := h75.frozen 0; simp only [List.getElem?_toArray, List.getElem?_cons_zero] at c7; clear hc5 hb5 hs5 h75)
        change AtN _ _ _ 16 _ _
        refine AtN.done rfl ?_
        go_wp2_with fail
        refine bodyPost_ret (res_cells stSta rfl Try.underlying4 _ _ ⟨w.heap.size + 1 + 1, 0, none⟩ ⟨w.heap.size + 1 + 1 + 1, 0, none⟩ [.slice Av (s.1.length + 1) cv, .int .i64 s.2] true rfl (Blk.at_ (HB5.out.far (by simp) _)) rfl rfl (by have := H75.out.setCell 0 (.bool true); exact (this.cell 0).trans rfl)) rfl ?_
        refine ⟨HN5.out.setCell _ _ (fun h => absurd h (by simp; omega)), .inr ⟨(s.1 ++ [(nm, x)], s.2), _, by rw [HSo.out]; rfl, rfl, Av, cv, by rw [List.length_append]; rfl, by rw [List.length_append]; exact hv1, hv2, ?_, fun a ha => ?_⟩⟩
        · exact HV3.out.chg (((Chg.refl W5 (fun k => w.heap.size + 1 + 1 ≤ k ∧ k < wd.heap.size)).trans HC5.out (fun k hk h => by subst h; exact ⟨Nat.le_refl _, by have := HDz.out; have := HZ.out; omega⟩)).setCell _ _ (fun _ => ⟨by simp, by have := HDz.out; have := HZ.out; simp; omega⟩)) (fun a ha h => by have := (HV4.out a ha).2; omega)
        · obtain ⟨k1, k2⟩ := HV4.out a ha
          refine ⟨by rw [World.size_setCell]; have := HC5.out.size; omega, fun h => ?_⟩
          have := hS1 _ h
          have := HDz.out
          have := HZ.out
          omega
end Go.Proofs.Ytfocjfnkcabbgaa
