/- fire: atoms; goes at LitNot. -/
import Derived.Test.YtenkobgeflckdabG49
set_option linter.unusedVariables false
set_option linter.unusedSimpArgs false
namespace Go.Proofs.Ytenkobgeflckdab
open Go.RowKit Go.Shelf

theorem res_cells {P : Program} {f : Func} {p q : Nat} {ty ty2 : TypeId} {k : Nat} (hS : StT P ty k) (hr : f.results = #[.cell p ty, .cell q ty2]) (hb : P.underlying ty2 = some .bool) (W : World) (tmps : Array Value) (ad g : Addr) (cs : List Value) (b : Bool) (h2 : tmps.getD p undef = .pointer (some ad)) (hc : At W ad cs) (hl : cs.length = k)
    (h3 : tmps.getD q undef = .pointer (some g)) (hg : W.cell? g = some (.bool b)) :
    (results f tmps).run P W = .ok (.tuple #[.agg cs.toArray, .bool b]) W := by
  have hl := run_loadK (P := P) (w := W) hS ad cs hl hc
  have ha : (asAddr (.pointer (some ad))).run P W = .ok ad W := rfl
  have ha2 : (asAddr (.pointer (some g))).run P W = .ok g W := rfl
  have h2' : tmps[p]?.getD undef = .pointer (some ad) := by simpa using h2
  have h3' : tmps[q]?.getD undef = .pointer (some g) := by simpa using h3
  have hl2 : (loadVar ty2 g).run P W = .ok (.bool b) W := by
    have hagg : (isAgg ty2).run P W = .ok false W := by
      unfold isAgg
      rw [Sem.run_bind, run_underlying hb W]
      simp
    simp [loadVar, Sem.run_bind, hagg, hg, go_sem]
  simp [results, hr, Sem.run_bind, h2', h3', ha, ha2, hl, hl2]

theorem boxes3 (w : World) (c1 c2 c3 : Array Value) (t1 t2 t3 : TypeId) (w1 : World) (h : w1 = ((w.alloc (.cells c1 t1)).alloc (.cells c2 t2)).alloc (.cells c3 t3)) :
    New w w1 ∧ Blk w1 w.heap.size t1 c1 ∧ Blk w1 (w.heap.size + 1) t2 c2 ∧ Blk w1 (w.heap.size + 1 + 1) t3 c3 ∧ w1.heap.size = w.heap.size + 3 := by
  subst h
  refine ⟨(((Chg.refl w _).alloc _).alloc _).alloc _, ((Blk.new w _ _).alloc _).alloc _, ?_, ?_, by simp⟩
  · have := (Blk.new (w.alloc (.cells c1 t1)) t2 c2).alloc (.cells c3 t3)
    rwa [World.size_alloc] at this
  · have := Blk.new ((w.alloc (.cells c1 t1)).alloc (.cells c2 t2)) t3 c3
    rwa [World.size_alloc, World.size_alloc] at this
theorem boxes4 (w : World) (c1 c2 c3 c4 : Array Value) (t1 t2 t3 t4 : TypeId) (w1 : World) (h : w1 = (((w.alloc (.cells c1 t1)).alloc (.cells c2 t2)).alloc (.cells c3 t3)).alloc (.cells c4 t4)) :
    New w w1 ∧ Blk w1 w.heap.size t1 c1 ∧ Blk w1 (w.heap.size + 1) t2 c2 ∧ Blk w1 (w.heap.size + 1 + 1) t3 c3 ∧ Blk w1 (w.heap.size + 1 + 1 + 1) t4 c4 ∧ w1.heap.size = w.heap.size + 4 := by
  obtain ⟨h1, h2, h3, h4, h5⟩ := boxes3 w c1 c2 c3 t1 t2 t3 _ rfl
  subst h
  refine ⟨h1.alloc _, h2.alloc _, h3.alloc _, h4.alloc _, ?_, by simp⟩
  have := Blk.new (((w.alloc (.cells c1 t1)).alloc (.cells c2 t2)).alloc (.cells c3 t3)) t4 c4
  rwa [h5] at this

set_option maxHeartbeats 1000000 in
set_option maxRecDepth 100000 in
theorem clip_env (w : World) (A : Option Addr) (n c : Nat) (hn : n ≤ c) (hc : c ≤ maxLen) : Calls Try.prog 53 #[.slice A n c] w fun e w' => e = .returned (.slice A n n) ∧ w = w' := by
  unfold maxLen at hc
  go_enter Try.func53, Try.ntmps53
  go_wp2_with fail
  go_ret
  exact ⟨rfl, rfl⟩

set_option maxHeartbeats 1000000 in
set_option maxRecDepth 100000 in
/-- relations.atoms: the closure. -/
theorem atoms_made (w : World) (bm : Nat) (l1 l2 l3 s1 s2 : Value) : Calls Try.prog 42 #[.map (some bm), .agg #[l1, l2, l3], .agg #[s1, s2]] w fun e w' =>
    e = .returned (.func (.func 49) #[] #[.pointer (some ⟨w.heap.size, 0, none⟩), .pointer (some ⟨w.heap.size + 1, 0, none⟩), .pointer (some ⟨w.heap.size + 1 + 1, 0, none⟩)]) ∧
    New w w' ∧ w'.cell? ⟨w.heap.size, 0, none⟩ = some (.map (some bm)) ∧ At w' ⟨w.heap.size + 1, 0, none⟩ [l1, l2, l3] ∧ At w' ⟨w.heap.size + 1 + 1, 0, none⟩ [s1, s2] ∧ w'.heap.size = w.heap.size + 3 := by
  go_enter Try.func42, Try.ntmps42
  go_wp2_with fail
  go_ret
  obtain ⟨hN, b1, b2, b3, hs⟩ := boxes3 w #[.map (some bm)] #[l1, l2, l3] #[s1, s2] 69 40 75 _ rfl
  exact ⟨rfl, hN, b1.cell 0, Blk.at_ b2, Blk.at_ b3, hs⟩

theorem goes_leave {w W : World} {S1 : Nat → Prop} {o : Option Sta} {s : Sta} {Ae : Option Addr} {ce D g6 g7 : Nat} {q : Bool} {tmps : Array Value} (hD : W.heap[D]? = some (.deferred (some []))) (hDw : w.heap.size ≤ D)
    (h6 : Blk W g6 75 #[.slice Ae s.1.length ce, .int .i64 s.2]) (h7 : Blk W g7 4 #[.bool q]) (hN : New w W) (hst : StAt s (.agg #[.slice Ae s.1.length ce, .int .i64 s.2]) S1 w)
    (hq : (q = true ∧ o = some s) ∨ (q = false ∧ o = none)) (ht6 : tmps.getD 6 undef = .pointer (some ⟨g6, 0, none⟩)) (ht7 : tmps.getD 7 undef = .pointer (some ⟨g7, 0, none⟩)) :
    LeavesInM Fence.wide 0 Try.prog Try.f44 tmps (GoesPost w S1 o) [{ target := .collected D, args := #[] }] .returning W := by
  have hd6 : g6 ≠ D := fun h => by subst h; have := Option.some.inj (hD.symm.trans h6); cases this
  have hd7 : g7 ≠ D := fun h => by subst h; have := Option.some.inj (hD.symm.trans h7); cases this
  refine ⟨by simp, .inl ⟨_, _, rfl, run_takeDeferred hD, ?_⟩⟩
  have hc : ∀ ob, Chg W (W.putObj D ob) (fun k => k = D) := fun ob => (Chg.of_grown (grownBy_putObj' W D ob)).mono fun k _ h => by cases h; rfl
  refine ⟨_, res_cells stSta rfl Try.underlying4 _ _ ⟨g6, 0, none⟩ ⟨g7, 0, none⟩ [.slice Ae s.1.length ce, .int .i64 s.2] q ht6 (Blk.at_ (h6.chg (hc _) hd6)) rfl ht7 ((h7.chg (hc _) hd7).cell 0), ?_⟩
  refine ⟨Chg.put hN (hc _) hDw, ?_⟩
  rcases hq with ⟨rfl, rfl⟩ | ⟨rfl, rfl⟩
  · exact .inr ⟨s, _, rfl, rfl, hst.new (Chg.put hN (hc _) hDw)⟩
  · exact .inl ⟨rfl, _, _, rfl, rfl, rfl⟩

set_option maxHeartbeats 4000000 in
set_option maxRecDepth 100000 in
/-- relations.goes at LitNot. -/
theorem goes_not (w0 w : World) (hw0 : New w0 w) (S1 : Nat → Prop) (bm : Nat) (m : List (ByteArray × Value)) (rs : List Rw) (hm : MapAt w0 bm m)
    (nm : ByteArray) (A : Option Addr) (n c : Nat) (css : List (List Value)) (ts : List Tm) (hn : n = ts.length) (hts : TmsAt w0 A css ts) (hokt : ∀ t ∈ ts, okTm t)
    (hrs : RowSl w0 (lookM m nm) rs) (hokr : ∀ r ∈ rs, ∀ v ∈ r.args, okW v)
    (s : Sta) (Ae : Option Addr) (ce : Nat) (hst : StAt s (.agg #[.slice Ae s.1.length ce, .int .i64 s.2]) S1 w) (hok : okEnv s.1) (hm1 : s.1.length + ts.length ≤ 1000) :
    Calls Try.prog 44 #[.map (some bm), .agg #[.int .i64 2, .string nm, .slice A n c], .agg #[.slice Ae s.1.length ce, .int .i64 s.2]] w (GoesPost w S1 (if (rs.filterMap (atomS ts s)).isEmpty then some s else none)) := by
  obtain ⟨xs, hxs⟩ : ∃ xs, rs.filterMap (atomS ts s) = xs := ⟨_, rfl⟩
  obtain ⟨S0, hS0⟩ : ∃ S0 : Nat → Prop, S0 = fun k => k = w.heap.size + 1 + 1 ∨ k = w.heap.size + 1 + 1 + 1 := ⟨_, rfl⟩
  have hS0' : ∀ k, S0 k ↔ k = w.heap.size + 1 + 1 ∨ k = w.heap.size + 1 + 1 + 1 := fun k => by rw [hS0]
  obtain ⟨o, ho⟩ : ∃ o, (if xs.isEmpty then some s else none) = o := ⟨_, rfl⟩
  have ho1 : xs = [] → o = some s := fun h => by rw [← ho, h]; rfl
  have ho2 : ∀ pre x rest, xs = pre ++ x :: rest → o = none := fun pre x rest h => by rw [← ho, h]; cases pre <;> rfl
  have HS0 := Lib.hid hS0'
  have HO1 := Lib.hid ho1
  have HO2 := Lib.hid ho2
  obtain ⟨w1, hw1⟩ : ∃ w1, w1 = (((w.alloc (.cells #[.int .i64 2, .string nm, .slice A n c] 40)).alloc (.cells #[.slice Ae s.1.length ce, .int .i64 s.2] 75)).alloc (.cells #[.slice none 0 0, .int .i64 0] 75)).alloc (.cells #[.bool false] 4) := ⟨_, rfl⟩
  obtain ⟨hN1, b4, b5, b6, b7, hz1⟩ := boxes4 _ _ _ _ _ _ _ _ _ w1 hw1
  have hit : ∀ w2 Jx, New w1 w2 → w2.heap.size = w1.heap.size + 3 → w2.cell? ⟨w1.heap.size, 0, none⟩ = some (.map (some bm)) → At w2 ⟨w1.heap.size + 1, 0, none⟩ [.int .i64 2, .string nm, .slice A n c] → At w2 ⟨w1.heap.size + 1 + 1, 0, none⟩ [.slice Ae s.1.length ce, .int .i64 s.2] →
      ItGives Try.prog 49 #[.pointer (some ⟨w1.heap.size, 0, none⟩), .pointer (some ⟨w1.heap.size + 1, 0, none⟩), .pointer (some ⟨w1.heap.size + 1 + 1, 0, none⟩)] StAt xs S0 w2 Jx := by
    intro w2 Jx h2 hz h1' h2' h3'
    rw [← hxs, hS0]
    have hlw := hw0.size
    refine g49 w0 w2 ((hw0.trans hN1 (fun _ _ x => x)).trans h2 (fun _ _ x => x)) _ (fun k hk => by omega) Jx _ _ _ bm m rs h1' (by omega) hm 2 nm A n c css ts h2' (by omega) hn hts hokt hrs hokr s Ae ce h3' (by omega) ?_ hok hm1
    obtain ⟨A', c', he, k1, k2, k3, k4⟩ := hst
    exact ⟨A', c', he, k1, k2, k3.chg (hN1.trans h2 (fun _ _ x => x)) (fun _ _ => id), fun a ha => ⟨by have := (k4 a ha).1; omega, by have := (k4 a ha).1; omega⟩⟩
  have HIt := Lib.hid hit
  have HW := Lib.hid hw1
  have HN1 := Lib.hid hN1
  have B4 := Lib.hid b4
  have B5 := Lib.hid b5
  have B6 := Lib.hid b6
  have B7 := Lib.hid b7
  have HZ := Lib.hid hz1
  have HSt := Lib.hid hst
  rw [hxs, ho]
  clear hit hw1 hN1 b4 b5 b6 b7 hz1 hst hn hts hokt hrs hokr hok hm1 hm hw0 hxs ho ho1 ho2 hS0 hS0'
  refine (callsIn_wide (n := 0)).1 (callsIn_of_wp_marks Try.func44 rfl trivial ?_ rfl)
  refine wpIn_wide.2 ?_
  simp only [Try.ntmps44, List.size_toArray, List.length_cons, List.length_nil, Nat.reduceAdd, Nat.reduceSub, Array.replicate_succ, Array.replicate_zero, List.push_toArray, List.append_toArray, List.nil_append, List.cons_append]
  go_upto_region 12 with fail
  rw [← HW.out]
  go_wp2_with first
    | ((with_reducible refine wpl_load rfl (.tmp 4) 40 rfl stLit ⟨w.heap.size, 0, none⟩ [.int .i64 2, .string nm, .slice A n c] ?_ rfl B4.out.at_ ?_); exact rfl)
    | ((with_reducible refine wpl_load rfl (.tmp 5) 75 rfl stSta ⟨w.heap.size + 1, 0, none⟩ [.slice Ae s.1.length ce, .int .i64 s.2] ?_ rfl B5.out.at_ ?_); exact rfl)
    | (go_at_call 42; refine (atoms_made _ _ _ _ _ _ _).mono ?_; rintro e w2 ⟨rfl, hN2, k1, k2, k3, k4⟩; have HN2 := Lib.hid hN2; have K1 := Lib.hid k1; have K2 := Lib.hid k2; have K3 := Lib.hid k3; have K4 := Lib.hid k4; clear hN2 k1 k2 k3 k4)
  refine wp_range (gf := 49) (lb := #[.pointer (some ⟨w1.heap.size, 0, none⟩), .pointer (some ⟨w1.heap.size + 1, 0, none⟩), .pointer (some ⟨w1.heap.size + 1 + 1, 0, none⟩)]) (enc := StAt) (xs := xs) (S := S0) rfl (enters_of Try.func49 (by kernel_rfl) rfl)
    (fun pre S' W => pre = [] ∧ S' = S0 ∧ Chg w2 W S0 ∧ Blk W (w.heap.size + 1 + 1) 75 #[.slice none 0 0, .int .i64 0] ∧ Blk W (w.heap.size + 1 + 1 + 1) 4 #[.bool false])
    (fun c pre S' W => c = Code.ret ∧ S' = S0 ∧ Blk W (w.heap.size + 1 + 1) 75 #[.slice Ae s.1.length ce, .int .i64 s.2] ∧ Blk W (w.heap.size + 1 + 1 + 1) 4 #[.bool false])
    ?hI ?hIx (fun Jx _ => HIt.out w2 Jx HN2.out K4.out K1.out K2.out K3.out) ⟨rfl, rfl, Chg.refl _ _, B6.out.chg HN2.out id, B7.out.chg HN2.out id⟩ (fun h hs => h.less hs) ?round ?done ?stop
  case hI =>
    constructor
    · rintro pre S' W ⟨_, rfl, _, h6, h7⟩ k hk
      rcases (HS0.out k).1 hk with rfl | rfl
      · exact h6.lt
      · exact h7.lt
    · rintro pre S' W W' ⟨h1, rfl, h3, h6, h7⟩ hc
      exact ⟨h1, rfl, h3.trans hc (fun k hk h => absurd hk (Nat.not_lt.2 h.1)), h6.chg hc (fun h => h.2 ((HS0.out _).2 (.inl rfl))), h7.chg hc (fun h => h.2 ((HS0.out _).2 (.inr rfl)))⟩
  case hIx =>
    intro c
    constructor
    · rintro pre S' W ⟨_, rfl, h6, h7⟩ k hk
      rcases (HS0.out k).1 hk with rfl | rfl
      · exact h6.lt
      · exact h7.lt
    · rintro pre S' W W' ⟨h1, rfl, h6, h7⟩ hc
      exact ⟨h1, rfl, h6.chg hc (fun h => h.2 ((HS0.out _).2 (.inl rfl))), h7.chg hc (fun h => h.2 ((HS0.out _).2 (.inr rfl)))⟩
  case round =>
    rintro l pre x rest S1' v W hx hl1 hl2 hlr hl3 ⟨rfl, rfl, hcw, h6, h7⟩ hsv
    refine wpIn_skip ?_
    refine ⟨Chg.refl _ _, fun W2 hc1 hc2 _ hI2 => ?_⟩
    obtain ⟨_, _, hcw2, h62, h72⟩ := hI2
    have H5 := Lib.hid ((B5.out.chg HN2.out id).chg hcw2 (fun h => by have := (HS0.out _).1 h; omega))
    have H6 := Lib.hid h62
    have H7 := Lib.hid h72
    clear hc1 hc2 hcw hcw2 h6 h7 h62 h72 hsv
    simp only [List.setIfInBounds_toArray, List.set_cons_succ, List.set_cons_zero]
    gi_step
    gi_step
    gi_step
    refine wpIn_region_lit ?_
    refine liftK (Wd.round l) 3 (by rfl) ?_
    change wpList _ _ _ [_, _, _] _ _
    go_wp2_with first
      | ((with_reducible refine wpl_load rfl (.tmp 5) 75 rfl stSta ⟨w.heap.size + 1, 0, none⟩ [.slice Ae s.1.length ce, .int .i64 s.2] ?_ rfl H5.out.at_ ?_); exact rfl)
      | ((with_reducible refine wpl_set rfl (.tmp 6) (.tmp 49) 75 rfl rfl stSta (w.heap.size + 1 + 1) 75 _ [.slice Ae s.1.length ce, .int .i64 s.2] ?_ ?_ H6.out rfl rfl (sta_one _ _ _ _) ?_); exact rfl; exact rfl; intro w3 hc3 hb3 hs3; have h73 := H7.out.chg hc3 (by omega); have HC3 := Lib.hid hc3; have HB3 := Lib.hid hb3; have H73 := Lib.hid h73; have c7 := h73.cell 0; have f7 := h73.frozen 0; simp only [List.getElem?_toArray, List.getElem?_cons_zero] at c7; clear hc3 hb3 hs3 h73)
    refine wpListIn_nil ?_
    gi_wp2
    refine ⟨_, ⟨rfl, rfl, HB3.out.far (by simp) _, by simpa using H73.out.setCell 0 (.bool false)⟩, ?_, fun k hk => .inl hk⟩
    exact (HC3.out.mono (fun k _ h => (HS0.out k).2 (.inl h))).setCell _ _ (fun _ => (HS0.out _).2 (.inr rfl))
  case done =>
    rintro D S' W hD hDe ⟨hxe, rfl, hcw, h6, h7⟩ hc hs hnD
    have H5 := Lib.hid ((B5.out.chg HN2.out id).chg hcw (fun h => by have := (HS0.out _).1 h; omega))
    have H6 := Lib.hid h6
    have H7 := Lib.hid h7
    have HX := Lib.hid hxe
    have HD := Lib.hid hD
    have HDe := Lib.hid hDe
    have HNW := Lib.hid ((HN1.out.trans HN2.out (fun _ _ x => x)).trans hcw (fun k hk h => by have := (HS0.out _).1 h; omega))
    have hnd6 : D ≠ w.heap.size + 1 + 1 := fun h => hnD ((HS0.out _).2 (.inl h))
    have hnd7 : D ≠ w.heap.size + 1 + 1 + 1 := fun h => hnD ((HS0.out _).2 (.inr h))
    clear hcw h6 h7 hc hs hnD hxe hD hDe
    go_wp2_with first
      | ((with_reducible refine wpl_load rfl (.tmp 5) 75 rfl stSta ⟨w.heap.size + 1, 0, none⟩ [.slice Ae s.1.length ce, .int .i64 s.2] ?_ rfl H5.out.at_ ?_); exact rfl)
      | ((with_reducible refine wpl_set rfl (.tmp 6) (.tmp 50) 75 rfl rfl stSta (w.heap.size + 1 + 1) 75 _ [.slice Ae s.1.length ce, .int .i64 s.2] ?_ ?_ H6.out rfl rfl (sta_one _ _ _ _) ?_); exact rfl; exact rfl; intro w3 hc3 hb3 hs3; have h73 := H7.out.chg hc3 (by omega); have HN3 := Lib.hid (HNW.out.put hc3 (by omega)); have HB3 := Lib.hid hb3; have H73 := Lib.hid h73; have HD3 := Lib.hid ((hc3.block D (lt_of_heap HDe.out) hnd6).trans HDe.out); have c7 := h73.cell 0; have f7 := h73.frozen 0; simp only [List.getElem?_toArray, List.getElem?_cons_zero] at c7; clear hc3 hb3 hs3 h73)
    exact goes_leave (q := true) ((Below.heap_setCell w3 ⟨_, 0, none⟩ _ D hnd7).trans HD3.out) (by have := HD.out; have := HN2.out.size; have := HN1.out.size; omega) (HB3.out.far (by simp) _) (by simpa using H73.out.setCell 0 (.bool true)) (HN3.out.setCell _ _ (fun h => absurd h (by simp; omega))) HSt.out (.inl ⟨rfl, HO1.out HX.out⟩) rfl rfl
  case stop =>
    rintro D c pre x rest S' W hx hD hDe ⟨rfl, rfl, h6, h7⟩ hc hs hnD
    have HNW := Lib.hid ((HN1.out.trans HN2.out (fun _ _ x => x)).trans hc (fun k hk h => by have := (HS0.out _).1 h; omega))
    have hDw : w.heap.size ≤ D := by have := HN2.out.size; have := HN1.out.size; omega
    clear hc hs
    go_wp2_with fail
    exact goes_leave (q := false) hDe hDw h6 h7 HNW.out HSt.out (.inr ⟨rfl, HO2.out _ _ _ hx⟩) rfl rfl
end Go.Proofs.Ytenkobgeflckdab
