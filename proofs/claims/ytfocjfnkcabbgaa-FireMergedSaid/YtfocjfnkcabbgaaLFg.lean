/- FireMerged: the walk. -/
import Derived.Test.YtfocjfnkcabbgaaRulS
import Derived.Test.YtfocjfnkcabbgaaSlT
import Derived.Test.YtfocjfnkcabbgaaAwk10
set_option linter.unusedVariables false
set_option linter.unusedSimpArgs false
namespace Go.Proofs.Ytfocjfnkcabbgaa
open Go.RowKit Go.Shelf

set_option maxHeartbeats 8000000 in
set_option maxRecDepth 100000 in
theorem walk_FireMerged (w : World) (v0 : Value) (n0 : Nat) (X0 : Nat → Int) (hx0 : IntsAt w v0 6 n0 X0) (v1 : Value) (n1 : Nat) (X1 : Nat → Int) (hx1 : IntsAt w v1 6 n1 X1) :
    Calls Try.prog 3 #[v0, v1] w fun e w' => e = .returned (.bool true) ∧ New w w' := by
  have HX0 := Lib.hid hx0
  have HX1 := Lib.hid hx1
  clear hx0 hx1
  go_enter Try.func3, Try.ntmps3
  go_upto_region 3 with first
    | (go_at_call 4; refine (awake10 _).mono ?_; rintro e w1 ⟨rfl, hN1⟩; have HN1 := Lib.hid hN1; clear hN1)
    | (go_at_call 5; refine (rule_sl _ _ _ _ (HX0.out.chg HN1.out) 0 (by unfold B64; omega)).mono ?_; rintro e w2 ⟨vr, r, rfl, hr, hraw, hagg, hN2⟩; obtain ⟨lab, A, c, Ab, cb, rfl⟩ := hr.form; have HR2 := Lib.hid hr; have HRaw := Lib.hid hraw; have HN2 := Lib.hid (HN1.out.trans hN2 (fun _ _ x => x)); clear hr hraw hagg hN2)
    | ((with_reducible refine wpl_box rfl rfl 6 (.tmp 11) 27 rfl rfl rfl rfl stRule zRule [.string lab, .string r.h, .slice A r.ts.length c, .string r.agg, .int .i64 r.at', .slice Ab r.Ls.length cb] ?_ ?_ rfl (rule_one rfl rfl rfl) ?_); exact (by decide : 6 < 47); exact rfl; intro w3 hc3 hb3 hs3; have HB3 := Lib.hid hb3; have HR3 := Lib.hid (HR2.out.chg hc3); have HN3 := Lib.hid (HN2.out.trans hc3 (fun _ _ x => x)); clear hc3 hb3 hs3)
  obtain ⟨b6, hb6⟩ : ∃ b, w2.heap.size = b := ⟨_, rfl⟩
  rw [hb6] at HB3 ⊢
  obtain ⟨nb, hnb⟩ : ∃ nb, r.Ls.length = nb := ⟨_, rfl⟩
  rw [hnb] at HB3 HR3 ⊢
  clear HX0 HN1 HN2 HR2 hb6 hnb
  go_upto_region 4 with (go_at_call 6; refine (rows_sl _ _ _ _ (HX1.out.chg HN3.out)).mono ?_; rintro e w4 ⟨x9, rs, rfl, hsl, h40, hg, hN4⟩; obtain ⟨A4, c4, rfl, hl4⟩ := hsl.form; have HS4 := Lib.hid hsl; have HG4 := Lib.hid hg; have HB4 := Lib.hid (HB3.out.chg hN4 id); have HR4 := Lib.hid (HR3.out.chg hN4); have HN4 := Lib.hid (HN3.out.trans hN4 (fun _ _ x => x)); clear hsl hg hN4)
  clear HB3 HR3 HN3 HX1
  obtain ⟨nr, hnr⟩ : ∃ nr, rs.length = nr := ⟨_, rfl⟩
  rw [hnr] at HS4 hl4 h40 ⊢
  have Hnr := Lib.hid hnr
  clear hnr
  obtain ⟨css4, hcss4⟩ := HS4.out.cells
  have hcap : nr ≤ c4 ∧ c4 ≤ maxLen := by
    obtain ⟨A', c', e, _, h3, h4, _⟩ := hcss4
    simp only [Value.slice.injEq] at e
    have := Hnr.out
    obtain ⟨_, _, rfl⟩ := e
    exact ⟨by omega, h4⟩
  unfold maxLen at hcap
  obtain ⟨m, hm⟩ : ∃ m : Nat, min nr 16 = m := ⟨_, rfl⟩
  have hmi : (if (16 : Int) < (nr : Int) then (16 : Int) else (nr : Int)) = (m : Int) := by split <;> omega
  have hm16 : m ≤ 16 ∧ m ≤ nr := by omega
  have Hx := Lib.hid (hcss4.take (q := m) hm16.2)
  obtain ⟨xs, hxs⟩ : ∃ xs, rs.take m = xs := ⟨_, rfl⟩
  obtain ⟨css, hcss⟩ : ∃ css, css4.take m = css := ⟨_, rfl⟩
  have hxl : xs.length = m := by rw [← hxs, List.length_take, Hnr.out]; omega
  have hgx : ∀ x ∈ xs, Good x := fun x hx => HG4.out x (List.mem_of_mem_take (hxs ▸ hx))
  rw [hxs, hcss] at Hx
  have HGx := Lib.hid hgx
  have Hxl := Lib.hid hxl
  have s0 : (0 : Int) ≤ (m : Int) := by omega
  have s1 : (m : Int) ≤ (c4 : Int) := by omega
  have s2 : m ≤ c4 := by omega
  have s3 : IntKind.i64.wrap (m : Int) = m := by rw [IntKind.wrap_i64]; omega
  have Hm16 := Lib.hid hm16.1
  clear hcss4 hxs hcss hxl hgx HG4 HS4 hm hm16 hcap
  go_upto_region 5 with fail
  try simp only [hmi, Int.toNat_natCast]
  clear hmi
  have hrawx : ∀ x ∈ xs, ∀ u ∈ x.args, rawV u := fun x hx => (HGx.out x hx).raw
  have HRx := Lib.hid hrawx
  have HFx := Lib.hid (fire_sl w4 _ (.slice A4 m c4) r HR4.out HRaw.out xs Hx.out.sl hrawx 0 (fun m' hm' => merge_len hm' 30 (by rw [Hxl.out]; have := Hm16.out; omega)))
  clear hrawx HGx s1 s2
  go_upto_region 6 with first
    | ((with_reducible refine wpl_load rfl (.tmp 6) 27 rfl stRule ⟨b6, 0, none⟩ [.string lab, .string r.h, .slice A r.ts.length c, .string r.agg, .int .i64 r.at', .slice Ab nb cb] ?_ rfl HB4.out.at_ ?_); exact rfl)
    | (go_at_call 7; refine HFx.out.mono ?_; rintro e w5 ⟨m0, va, out, hm0, hout, rfl, hsa, hN5⟩; obtain ⟨Aa, ca, rfl, hla⟩ := hsa.form; have HM0 := Lib.hid hm0; have HOut := Lib.hid hout; have HSa := Lib.hid hsa; have HN45 := Lib.hid hN5; have HN5 := Lib.hid (HN4.out.trans hN5 (fun _ _ x => x)); clear hm0 hout hsa hN5)
  obtain ⟨na, hna⟩ : ∃ n, out.length = n := ⟨_, rfl⟩
  rw [hna] at HSa hla ⊢
  have Hna := Lib.hid hna
  clear hna HFx
  have hcx : ∀ x ∈ xs, canonR x := ok_canon (raw_ok HRx.out)
  have hco : ∀ x ∈ fireR r m0, canonR x := ok_canon (fire_ok HRaw.out.okT HRaw.out.okL (merge_ok HM0.out (raw_ok HRx.out)))
  have hsame : ∀ m' o, IsMerge xs m' → IsMerge (fireR r m') o → o = out := fun m' o h1 h2 => by
    obtain rfl : m' = m0 := merge_uniq hcx h1 HM0.out
    exact merge_uniq hco h2 HOut.out
  have hself : ∀ o, IsMerge out o → o = out := fun o h => merge_uniq (fun x hx => hco x (HOut.out.sub x hx)) h (merge_self HOut.out.up)
  have hmm : ∀ m1 m2, IsMerge xs m1 → IsMerge m1 m2 → IsMerge xs m2 := fun m1 m2 h1 h2 => by
    obtain rfl : m2 = m1 := merge_uniq (fun x hx => hcx x (h1.sub x hx)) h2 (merge_self h1.up)
    exact h1
  have HSame := Lib.hid hsame
  have HSelf := Lib.hid hself
  have HMm := Lib.hid hmm
  clear hsame hself hmm hco hcx
  refine wp_region_at (by kernel_rfl) ?_
  have hnd : New w5 w5.drew := (Chg.refl _ _).drew
  have hn45 := HN45.out.trans hnd (fun _ _ x => x)
  have DX := Lib.hid (Hx.out.chg hn45)
  have DB := Lib.hid (HB4.out.chg hn45 id)
  have DR := Lib.hid (HR4.out.chg hn45)
  have DA := Lib.hid (HSa.out.chg hnd)
  have DN := Lib.hid (HN5.out.trans hnd (fun _ _ x => x))
  clear hnd hn45 Hx HB4 HR4 HSa HN5 HN45 HN4
  generalize w5.drew = wd at DX DB DR DA DN ⊢
  have eg7 : ∀ (args : Array Value) (w : World), (callFunc 7 args).run Try.prog w = .ok (.enter 7 args) w := enters_of Try.func7 (by kernel_rfl) rfl
  have eg8 : ∀ (args : Array Value) (w : World), (callFunc 8 args).run Try.prog w = .ok (.enter 8 args) w := enters_of Try.func8 (by kernel_rfl) rfl
  have eg9 : ∀ (args : Array Value) (w : World), (callFunc 9 args).run Try.prog w = .ok (.enter 9 args) w := enters_of Try.func9 (by kernel_rfl) rfl
  refine AtN.segQ2 0 2 (fun
    | 0 => .bool true
    | _ => .bool true)
    [(22, .bool true), (23, .bool true)] (by kernel_rfl) (by kernel_rfl) (by kernel_rfl) (by kernel_rfl) rfl (fun i hn hi o ho A0 hin hk => ?_) ?_
  · rcases (show i = 0 ∨ i = 1 by omega) with rfl | rfl
    · cases ho
      exact exec_move 5 _ rfl (hk 5 (by kernel_rfl))
    · cases ho
      exact exec_move 22 _ rfl (hin 0 22 (by kernel_rfl))
  simp only [putsL, Act.put, List.setIfInBounds_toArray, List.set_cons_succ, List.set_cons_zero]
  refine AtN.segN2 2 10 [24, 25, 26, 27, 28, 29, 30, 31] (fun
    | 2 => fun v _ => v = .slice Aa na ca
    | 3 => fun v _ => v = .agg #[.string lab, .string r.h, .slice A r.ts.length c, .string r.agg, .int .i64 r.at', .slice Ab nb cb]
    | 4 => fun v _ => v = .slice A4 m c4
    | 5 => fun v W => ∃ m1, IsMerge xs m1 ∧ RowSl W v m1
    | 6 => fun v W => ∃ m2 o, IsMerge xs m2 ∧ IsMerge (fireR r m2) o ∧ RowSl W v o
    | 7 => fun v _ => v = .bool true
    | 8 => fun v _ => v = .bool true
    | 9 => fun v _ => v = .bool true
    | _ => fun _ _ => True) (by kernel_rfl) (by kernel_rfl) (by kernel_rfl) (by kernel_rfl) (fun j v w1 w2 hc h => ?_) (fun i hn hi o ho A0 W hN hin hk => ?_) (fun l W1 hN hl hΦ => ?_)
  · match j with
    | 5 => exact h.imp fun m1 h => ⟨h.1, h.2.chg hc⟩
    | 6 => exact h.imp fun m2 h => h.imp fun o h => ⟨h.1, h.2.1, h.2.2.chg hc⟩
    | 2 | 3 | 4 | 7 | 8 | 9 => exact h
    | 0 | 1 => trivial
    | _ + 10 => trivial
  · rcases (show i = 2 ∨ i = 3 ∨ i = 4 ∨ i = 5 ∨ i = 6 ∨ i = 7 ∨ i = 8 ∨ i = 9 by omega) with rfl | rfl | rfl | rfl | rfl | rfl | rfl | rfl
    · cases ho
      exact .same (exec_move 8 _ rfl (hk 8 (by kernel_rfl))) rfl
    · cases ho
      have h6 : A0.tmps[6]?.getD undef = .pointer (some ⟨b6, 0, none⟩) := hk 6 (by kernel_rfl)
      exact .same (exec_load 6 _ rfl stRule ⟨b6, 0, none⟩ [.string lab, .string r.h, .slice A r.ts.length c, .string r.agg, .int .i64 r.at', .slice Ab nb cb] h6 rfl (DB.out.chg hN id).at_) rfl
    · cases ho
      exact .same (exec_move 7 _ rfl (hk 7 (by kernel_rfl))) rfl
    · cases ho
      have h26 : A0.tmps[26]?.getD undef = .slice A4 m c4 := hin 4 26 (by kernel_rfl)
      refine .call (f := 9) (args := #[.slice A4 m c4]) (W' := W) ?_ ((merge_sl W _ xs (DX.out.sl.chg hN)).mono ?_)
      · simp [go_sem, h26, eg9]
      · rintro e w' ⟨v', m1, rfl, hm, hsl, hc⟩
        exact ⟨_, rfl, hc, m1, hm, hsl⟩
    · cases ho
      have h25 : A0.tmps[25]?.getD undef = .agg #[.string lab, .string r.h, .slice A r.ts.length c, .string r.agg, .int .i64 r.at', .slice Ab nb cb] := hin 3 25 (by kernel_rfl)
      have h27 := hin 5 27 (by kernel_rfl)
      obtain ⟨m1, hm1, hsl1⟩ := h27
      refine .call (f := 7) (args := #[.agg #[.string lab, .string r.h, .slice A r.ts.length c, .string r.agg, .int .i64 r.at', .slice Ab nb cb], A0.tmps[27]?.getD undef]) (W' := W) ?_ ((fire_sl W _ _ r (DR.out.chg hN) HRaw.out m1 hsl1 (fun x hx => HRx.out x (hm1.sub x hx)) 0 (fun m2 hm2 => merge_len (HMm.out m1 m2 hm1 hm2) 30 (by rw [Hxl.out]; have := Hm16.out; omega))).mono ?_)
      · simp [go_sem, h25, eg7]
      · rintro e w' ⟨m2, v', o, hm, ho, rfl, hsl2, hc⟩
        exact ⟨_, rfl, hc, m2, o, HMm.out m1 m2 hm1 hm, ho, hsl2⟩
    · cases ho
      have h24 : A0.tmps[24]?.getD undef = .slice Aa na ca := hin 2 24 (by kernel_rfl)
      have h28 := hin 6 28 (by kernel_rfl)
      obtain ⟨m2, o, hm, ho, hsl⟩ := h28
      obtain rfl := HSame.out m2 o hm ho
      refine .call (f := 8) (args := #[.slice Aa na ca, A0.tmps[28]?.getD undef]) (W' := W) ?_ ((same_sl W _ _ o (by have h := DA.out.chg hN; rw [← Hna.out] at h ⊢; exact h) hsl).mono ?_)
      · simp [go_sem, h24, eg8]
      · rintro e w' ⟨rfl, hc⟩
        exact ⟨_, rfl, hc, rfl⟩
    · cases ho
      have h23 : A0.tmps[23]?.getD undef = .bool true := hk 23 (by kernel_rfl)
      have h29 : A0.tmps[29]?.getD undef = .bool true := hin 7 29 (by kernel_rfl)
      exact .same (by simp [go_sem, h23, h29]) rfl
    · cases ho
      exact .same (exec_move 30 _ rfl (hin 8 30 (by kernel_rfl))) rfl
  obtain ⟨x24, x25, x26, x27, x28, x29, x30, x31, rfl⟩ : ∃ x24 x25 x26 x27 x28 x29 x30 x31, l = [x24, x25, x26, x27, x28, x29, x30, x31] := by
    match l, hl with
    | [x24, x25, x26, x27, x28, x29, x30, x31], _ => exact ⟨_, _, _, _, _, _, _, _, rfl⟩
  obtain rfl : x24 = .slice Aa na ca := hΦ 0 (by decide)
  obtain rfl : x25 = .agg #[.string lab, .string r.h, .slice A r.ts.length c, .string r.agg, .int .i64 r.at', .slice Ab nb cb] := hΦ 1 (by decide)
  obtain rfl : x26 = .slice A4 m c4 := hΦ 2 (by decide)
  have hx27 := hΦ 3 (by decide)
  have hx28 := hΦ 4 (by decide)
  obtain rfl : x29 = .bool true := hΦ 5 (by decide)
  obtain rfl : x30 = .bool true := hΦ 6 (by decide)
  obtain rfl : x31 = .bool true := hΦ 7 (by decide)
  simp only [putsL, List.zip_cons_cons, List.zip_nil_left, List.zip_nil_right, List.zip, List.zipWith, Act.put, List.setIfInBounds_toArray, List.set_cons_succ, List.set_cons_zero]
  clear hΦ hl
  have EX := Lib.hid (DX.out.chg hN)
  have EB := Lib.hid (DB.out.chg hN id)
  have ER := Lib.hid (DR.out.chg hN)
  have EA := Lib.hid (DA.out.chg hN)
  have EN := Lib.hid (DN.out.trans hN (fun _ _ x => x))
  clear hN DX DB DR DA DN hx27 hx28
  have hst : ∀ jj uu w1 w2, New w1 w2 → (fun
      | 10 => fun v _ => v = .slice Aa na ca
      | 11 => fun v _ => v = .agg #[.string lab, .string r.h, .slice A r.ts.length c, .string r.agg, .int .i64 r.at', .slice Ab nb cb]
      | 12 => fun v _ => v = .slice A4 m c4
      | 13 => fun u W => Own W W1.heap.size 45 3 u css
      | 14 => fun v _ => v = .slice A4 m c4
      | 15 => fun u W => RowSl W u (xs ++ xs)
      | 16 => fun v W => ∃ m2 o, IsMerge xs m2 ∧ IsMerge (fireR r m2) o ∧ RowSl W v o
      | 17 => fun v _ => v = .bool true
      | 18 => fun v _ => v = .bool true
      | 19 => fun v _ => v = .bool true
      | _ => fun _ _ => True : Nat → Value → World → Prop) jj uu w1 → (fun
      | 10 => fun v _ => v = .slice Aa na ca
      | 11 => fun v _ => v = .agg #[.string lab, .string r.h, .slice A r.ts.length c, .string r.agg, .int .i64 r.at', .slice Ab nb cb]
      | 12 => fun v _ => v = .slice A4 m c4
      | 13 => fun u W => Own W W1.heap.size 45 3 u css
      | 14 => fun v _ => v = .slice A4 m c4
      | 15 => fun u W => RowSl W u (xs ++ xs)
      | 16 => fun v W => ∃ m2 o, IsMerge xs m2 ∧ IsMerge (fireR r m2) o ∧ RowSl W v o
      | 17 => fun v _ => v = .bool true
      | 18 => fun v _ => v = .bool true
      | 19 => fun v _ => v = .bool true
      | _ => fun _ _ => True : Nat → Value → World → Prop) jj uu w2 := by
    intro j uu w1 w2 hc h
    match j with
    | 13 => exact h.chg hc (fun _ _ x => x)
    | 15 => exact h.chg hc
    | 16 => exact h.imp fun m2 h => h.imp fun o h => ⟨h.1, h.2.1, h.2.2.chg hc⟩
    | 10 | 11 | 12 | 14 | 17 | 18 | 19 => exact h
    | 0 | 1 | 2 | 3 | 4 | 5 | 6 | 7 | 8 | 9 => trivial
    | _ + 20 => trivial
  refine AtN.segX2 10 20 15 [32, 33, 34, 35, 36, 37, 38, 39, 40, 41] (fun _ => False) (fun
      | 13 => 15
      | _ => 999) (fun
      | 10 => fun v _ => v = .slice Aa na ca
      | 11 => fun v _ => v = .agg #[.string lab, .string r.h, .slice A r.ts.length c, .string r.agg, .int .i64 r.at', .slice Ab nb cb]
      | 12 => fun v _ => v = .slice A4 m c4
      | 13 => fun u W => Own W W1.heap.size 45 3 u css
      | 14 => fun v _ => v = .slice A4 m c4
      | 15 => fun u W => RowSl W u (xs ++ xs)
      | 16 => fun v W => ∃ m2 o, IsMerge xs m2 ∧ IsMerge (fireR r m2) o ∧ RowSl W v o
      | 17 => fun v _ => v = .bool true
      | 18 => fun v _ => v = .bool true
      | 19 => fun v _ => v = .bool true
      | _ => fun _ _ => True : Nat → Value → World → Prop) (by kernel_rfl) (by kernel_rfl) (by kernel_rfl) (by kernel_rfl) (fun i hn hi o ho A0 W b hJ hμ hin hk => ?_) (fun l W3 hJ hl hΦ => ?_)
  · rcases (show i = 10 ∨ i = 11 ∨ i = 12 ∨ i = 13 ∨ i = 14 ∨ i = 15 ∨ i = 16 ∨ i = 17 ∨ i = 18 ∨ i = 19 by omega) with rfl | rfl | rfl | rfl | rfl | rfl | rfl | rfl | rfl | rfl
    · cases ho
      refine .newX (i := 10) hJ hst ?_
      exact .same (exec_move 8 (.slice Aa na ca) rfl (hk 8 (by kernel_rfl))) rfl
    · cases ho
      have h6 : A0.tmps[6]?.getD undef = .pointer (some ⟨b6, 0, none⟩) := hk 6 (by kernel_rfl)
      refine .newX (i := 11) hJ hst ?_
      have hN : New W1 W := hJ.1
      exact .same (exec_load 6 _ rfl stRule ⟨b6, 0, none⟩ [.string lab, .string r.h, .slice A r.ts.length c, .string r.agg, .int .i64 r.at', .slice Ab nb cb] h6 rfl (EB.out.chg hN id).at_) rfl
    · cases ho
      refine .newX (i := 12) hJ hst ?_
      exact .same (exec_move 7 (.slice A4 m c4) rfl (hk 7 (by kernel_rfl))) rfl
    · cases ho
      have h34 : A0.tmps[34]?.getD undef = .slice A4 m c4 := hin 12 34 (by kernel_rfl)
      refine .newX (i := 13) hJ hst ?_
      obtain ⟨v1, W', hrun, hown, hchg, hblk⟩ := append_sl (Own.nil W W1.heap.size 45 3) hJ.1.size (EX.out.chg hJ.1) (by simp) 29
      rw [List.nil_append] at hown
      exact .value (exec_append _ _ _ _ rfl (by simp [Act.eval]) (by simpa [Act.eval] using h34) hrun) ⟨hchg.mono (fun k _ h => by cases h), hown⟩
    · cases ho
      refine .newX (i := 14) hJ hst ?_
      exact .same (exec_move 7 (.slice A4 m c4) rfl (hk 7 (by kernel_rfl))) rfl
    · cases ho
      have h35 := hin 13 35 (by kernel_rfl)
      have h36 : A0.tmps[36]?.getD undef = .slice A4 m c4 := hin 14 36 (by kernel_rfl)
      obtain ⟨v1, W', hrun, hown, hchg, hblk⟩ := append_sl h35 hJ.1.size (EX.out.chg hJ.1) (by
        have h9 := EX.out.cs.1
        have h8 := Hxl.out
        have := Hm16.out
        omega) 29
      have hN2 : New W1 W' := hJ.1.trans hchg (fun k hk h => absurd (h35.lt h).1 (by omega))
      refine .value (exec_append _ _ _ _ rfl (by simp [Act.eval]) (by simpa [Act.eval] using h36) hrun) ⟨hJ.turn hchg (fun k hk h => absurd (h35.lt h).1 (by omega)), hown.rowSl ((EX.out.cs.app EX.out.cs).chg hN2) (by
        rw [List.length_append]
        have := Hxl.out
        have := Hm16.out
        omega), fun k u hki hkx hka hkb h => ?_⟩
      match k with
      | 13 => exact absurd rfl hkx
      | 15 => exact absurd rfl hki
      | 16 => exact ahead_no hka (by kernel_rfl)
      | 10 | 11 | 12 | 14 | 17 | 18 | 19 => exact h
      | 0 | 1 | 2 | 3 | 4 | 5 | 6 | 7 | 8 | 9 => trivial
      | _ + 20 => trivial
    · cases ho
      have h33 : A0.tmps[33]?.getD undef = .agg #[.string lab, .string r.h, .slice A r.ts.length c, .string r.agg, .int .i64 r.at', .slice Ab nb cb] := hin 11 33 (by kernel_rfl)
      have h37 := hin 15 37 (by kernel_rfl)
      refine .newX (i := 16) hJ hst ?_
      have hN : New W1 W := hJ.1
      skip
      refine .call (f := 7) (args := #[.agg #[.string lab, .string r.h, .slice A r.ts.length c, .string r.agg, .int .i64 r.at', .slice Ab nb cb], A0.tmps[37]?.getD undef]) (W' := W) ?_ ((fire_sl W _ _ r (ER.out.chg hN) HRaw.out (xs ++ xs) h37 (fun x hx => HRx.out x ((List.mem_append.1 hx).elim id id)) 0 (fun m2 hm2 => merge_len (merge_same (fun x => by rw [List.mem_append]; exact or_self_iff) hm2 : IsMerge xs m2) 30 (by rw [Hxl.out]; have := Hm16.out; omega))).mono ?_)
      · simp [go_sem, h33, eg7]
      · rintro e w' ⟨m2, v', o, hm, ho, rfl, hsl2, hc⟩
        exact ⟨_, rfl, hc, m2, o, merge_same (fun x => by rw [List.mem_append]; exact or_self_iff) hm, ho, hsl2⟩
    · cases ho
      have h32 : A0.tmps[32]?.getD undef = .slice Aa na ca := hin 10 32 (by kernel_rfl)
      have h38 := hin 16 38 (by kernel_rfl)
      refine .newX (i := 17) hJ hst ?_
      have hN : New W1 W := hJ.1
      obtain ⟨m2, o, hm, ho, hsl⟩ := h38
      obtain rfl := HSame.out m2 o hm ho
      refine .call (f := 8) (args := #[.slice Aa na ca, A0.tmps[38]?.getD undef]) (W' := W) ?_ ((same_sl W _ _ o (by have h := EA.out.chg hN; rw [← Hna.out] at h ⊢; exact h) hsl).mono ?_)
      · simp [go_sem, h32, eg8]
      · rintro e w' ⟨rfl, hc⟩
        exact ⟨_, rfl, hc, rfl⟩
    · cases ho
      have h31 : A0.tmps[31]?.getD undef = .bool true := hk 31 (by kernel_rfl)
      have h39 : A0.tmps[39]?.getD undef = .bool true := hin 17 39 (by kernel_rfl)
      refine .newX (i := 18) hJ hst ?_
      exact .same (v := .bool true) (by simp [go_sem, h31, h39]) rfl
    · cases ho
      refine .newX (i := 19) hJ hst ?_
      exact .same (exec_move 40 (.bool true) rfl (hin 18 40 (by kernel_rfl))) rfl
  obtain ⟨x32, x33, x34, x35, x36, x37, x38, x39, x40, x41, rfl⟩ : ∃ x32 x33 x34 x35 x36 x37 x38 x39 x40 x41, l = [x32, x33, x34, x35, x36, x37, x38, x39, x40, x41] := by
    match l, hl with
    | [x32, x33, x34, x35, x36, x37, x38, x39, x40, x41], _ => exact ⟨_, _, _, _, _, _, _, _, _, _, rfl⟩
  obtain rfl : x32 = .slice Aa na ca := hΦ 0 (by decide) (by decide)
  obtain rfl : x33 = .agg #[.string lab, .string r.h, .slice A r.ts.length c, .string r.agg, .int .i64 r.at', .slice Ab nb cb] := hΦ 1 (by decide) (by decide)
  obtain rfl : x34 = .slice A4 m c4 := hΦ 2 (by decide) (by decide)
  obtain rfl : x36 = .slice A4 m c4 := hΦ 4 (by decide) (by decide)
  have hx37 : (fun u W => RowSl W u (xs ++ xs) : Value → World → Prop) x37 W3 := hΦ 5 (by decide) (by decide)
  have hx38 : (fun v W => ∃ m2 o, IsMerge xs m2 ∧ IsMerge (fireR r m2) o ∧ RowSl W v o : Value → World → Prop) x38 W3 := hΦ 6 (by decide) (by decide)
  obtain rfl : x39 = .bool true := hΦ 7 (by decide) (by decide)
  obtain rfl : x40 = .bool true := hΦ 8 (by decide) (by decide)
  obtain rfl : x41 = .bool true := hΦ 9 (by decide) (by decide)
  simp only [putsL, List.zip_cons_cons, List.zip_nil_left, List.zip_nil_right, List.zip, List.zipWith, Act.put, List.setIfInBounds_toArray, List.set_cons_succ, List.set_cons_zero]
  clear hΦ hl hst
  have hN : New W1 W3 := hJ.1
  have GA := Lib.hid (EA.out.chg hN)
  have GN := Lib.hid (EN.out.trans hN (fun _ _ x => x))
  clear hN hJ EX EB ER EA EN hx37 hx38
  refine AtN.segN2 20 26 [42, 43, 44, 45, 46, 4] (fun
    | 20 => fun v _ => v = .slice Aa na ca
    | 21 => fun v _ => v = .slice Aa na ca
    | 22 => fun v W => ∃ o, IsMerge out o ∧ RowSl W v o
    | 23 => fun v _ => v = .bool true
    | 24 => fun v _ => v = .bool true
    | 25 => fun v _ => v = .bool true
    | _ => fun _ _ => True) (by kernel_rfl) (by kernel_rfl) (by kernel_rfl) (by kernel_rfl) (fun j v w1 w2 hc h => ?_) (fun i hn hi o ho A0 W hN hin hk => ?_) (fun l W4 hN hl hΦ => ?_)
  · match j with
    | 22 => exact h.imp fun m1 h => ⟨h.1, h.2.chg hc⟩
    | 20 | 21 | 23 | 24 | 25 => exact h
    | 0 | 1 | 2 | 3 | 4 | 5 | 6 | 7 | 8 | 9 | 10 | 11 | 12 | 13 | 14 | 15 | 16 | 17 | 18 | 19 => trivial
    | _ + 26 => trivial
  · rcases (show i = 20 ∨ i = 21 ∨ i = 22 ∨ i = 23 ∨ i = 24 ∨ i = 25 by omega) with rfl | rfl | rfl | rfl | rfl | rfl
    · cases ho
      exact .same (exec_move 8 _ rfl (hk 8 (by kernel_rfl))) rfl
    · cases ho
      exact .same (exec_move 8 _ rfl (hk 8 (by kernel_rfl))) rfl
    · cases ho
      have h43 : A0.tmps[43]?.getD undef = .slice Aa na ca := hin 21 43 (by kernel_rfl)
      refine .call (f := 9) (args := #[.slice Aa na ca]) (W' := W) ?_ ((merge_sl W _ out (by have h := GA.out.chg hN; rw [← Hna.out] at h ⊢; exact h)).mono ?_)
      · simp [go_sem, h43, eg9]
      · rintro e w' ⟨v', m1, rfl, hm, hsl, hc⟩
        exact ⟨_, rfl, hc, m1, hm, hsl⟩
    · cases ho
      have h42 : A0.tmps[42]?.getD undef = .slice Aa na ca := hin 20 42 (by kernel_rfl)
      have h44 := hin 22 44 (by kernel_rfl)
      obtain ⟨o, ho, hsl⟩ := h44
      obtain rfl := HSelf.out o ho
      refine .call (f := 8) (args := #[.slice Aa na ca, A0.tmps[44]?.getD undef]) (W' := W) ?_ ((same_sl W _ _ o (by have h := GA.out.chg hN; rw [← Hna.out] at h ⊢; exact h) hsl).mono ?_)
      · simp [go_sem, h42, eg8]
      · rintro e w' ⟨rfl, hc⟩
        exact ⟨_, rfl, hc, rfl⟩
    · cases ho
      have h41 : A0.tmps[41]?.getD undef = .bool true := hk 41 (by kernel_rfl)
      have h45 : A0.tmps[45]?.getD undef = .bool true := hin 23 45 (by kernel_rfl)
      exact .same (by simp [go_sem, h41, h45]) rfl
    · cases ho
      have h46 : A0.tmps[46]?.getD undef = .bool true := hin 24 46 (by kernel_rfl)
      exact .same (by simp [go_sem, h46]) rfl
  obtain ⟨x42, x43, x44, x45, x46, x4, rfl⟩ : ∃ x42 x43 x44 x45 x46 x4, l = [x42, x43, x44, x45, x46, x4] := by
    match l, hl with
    | [x42, x43, x44, x45, x46, x4], _ => exact ⟨_, _, _, _, _, _, rfl⟩
  obtain rfl : x42 = .slice Aa na ca := hΦ 0 (by decide)
  obtain rfl : x43 = .slice Aa na ca := hΦ 1 (by decide)
  have hx44 := hΦ 2 (by decide)
  obtain rfl : x45 = .bool true := hΦ 3 (by decide)
  obtain rfl : x46 = .bool true := hΦ 4 (by decide)
  obtain rfl : x4 = .bool true := hΦ 5 (by decide)
  simp only [putsL, List.zip_cons_cons, List.zip_nil_left, List.zip_nil_right, List.zip, List.zipWith, Act.put, List.setIfInBounds_toArray, List.set_cons_succ, List.set_cons_zero]
  clear hΦ hl
  have FN := Lib.hid (GN.out.trans hN (fun _ _ x => x))
  clear hN
  refine AtN.done rfl ?_
  go_wp2_with fail
  go_ret
  exact ⟨rfl, FN.out⟩
end Go.Proofs.Ytfocjfnkcabbgaa
