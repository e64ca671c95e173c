/- GroupRules: the walk. -/
import Derived.Test.YtfocjfnkcabbgaaGreatGRu
import Derived.Test.YtfocjfnkcabbgaaGreatSlT
import Derived.Test.YtfocjfnkcabbgaaGreatAwk11
set_option linter.unusedVariables false
set_option linter.unusedSimpArgs false
namespace Go.Proofs.YtfocjfnkcabbgaaGreat
open Go.RowKit Go.Shelf

set_option maxHeartbeats 8000000 in
set_option maxRecDepth 100000 in
theorem walk_GroupRules (w : World) (v0 : Value) (n0 : Nat) (X0 : Nat → Int) (hx0 : IntsAt w v0 6 n0 X0) (v1 : Value) (n1 : Nat) (X1 : Nat → Int) (hx1 : IntsAt w v1 6 n1 X1) (c2 : Int) (h20 : -9223372036854775808 ≤ c2) (h21 : c2 ≤ 9223372036854775807) :
    Calls Tryz.prog 3 #[v0, v1, .int .i64 c2] w fun e w' => e = .returned (.bool true) ∧ New w w' := by
  have HX0 := Lib.hid hx0
  have HX1 := Lib.hid hx1
  clear hx0 hx1
  have sz9 : (Tryz.prog.info? 9).map (·.size) = some 1 := by kernel_rfl
  have sz3 : (Tryz.prog.info? 3).map (·.size) = some 1 := by kernel_rfl
  go_enter Tryz.func3, Tryz.ntmps3
  go_upto_region 3 with first
    | (go_at_call 4; refine (awake11 _).mono ?_; rintro e w1 ⟨rfl, hN1⟩; have HN1 := Lib.hid hN1; clear hN1)
    | (go_at_call 5; refine (rule_sl _ _ _ _ (HX0.out.chg HN1.out) 0 (by unfold B64; omega)).mono ?_; rintro e w2 ⟨vr, r, rfl, hr, hraw, hagg, hN2⟩; obtain ⟨lab, A, c, Ab, cb, rfl⟩ := hr.form; have HR2 := Lib.hid hr; have HRaw := Lib.hid hraw; have HN2 := Lib.hid (HN1.out.trans hN2 (fun _ _ x => x)); clear hr hraw hagg hN2)
    | ((with_reducible refine wpl_box rfl rfl 8 (.tmp 15) 27 rfl rfl rfl rfl stRule zRule [.string lab, .string r.h, .slice A r.ts.length c, .string r.agg, .int .i64 r.at', .slice Ab r.Ls.length cb] ?_ ?_ rfl (rule_one rfl rfl rfl) ?_); exact (by decide : 8 < 65); exact rfl; intro w3 hc3 hb3 hs3; have HB3 := Lib.hid hb3; have HC3 := Lib.hid hc3; have HR3 := Lib.hid (HR2.out.chg hc3); have HN3 := Lib.hid (HN2.out.trans hc3 (fun _ _ x => x)); clear hc3 hb3 hs3)
  obtain ⟨b8, hb8⟩ : ∃ b, w2.heap.size = b := ⟨_, rfl⟩
  rw [hb8] at HB3 ⊢
  have Hb8 := Lib.hid hb8
  have HN2w := Lib.hid (show w.heap.size ≤ b8 by rw [← hb8]; exact HN2.out.size)
  clear HX0 HN1 HN2 hb8
  go_upto_if 20 with (go_at_call 6; refine (rows_sl _ _ _ _ (HX1.out.chg HN3.out)).mono ?_; rintro e w4 ⟨x9, rs, rfl, hsl, h40, hg, hN4⟩; obtain ⟨A4, c4, rfl, hl4⟩ := hsl.form; have HS4 := Lib.hid hsl; have HG4 := Lib.hid hg; have HB4 := Lib.hid (HB3.out.chg hN4 id); have HR4 := Lib.hid (HR3.out.chg hN4); have HC4 := Lib.hid (HC3.out.trans hN4 (fun _ _ x => x)); have HN4 := Lib.hid (HN3.out.trans hN4 (fun _ _ x => x)); clear hsl hg hN4)
  clear HB3 HR3 HN3 HX1
  obtain ⟨nr, hnr⟩ : ∃ nr, rs.length = nr := ⟨_, rfl⟩
  rw [hnr] at HS4 hl4 h40 ⊢
  have Hnr := Lib.hid hnr
  clear hnr
  go_cut [9] from 20 to 23 (fun u wx => ∃ (xs : List Rw) (c : Nat), xs.length ≤ 14 ∧ u = .slice A4 xs.length c ∧ RowSl w4 u xs ∧ (∀ x ∈ xs, Good x) ∧ wx = w4)
  case first =>
    by_cases h14 : 14 < nr
    · have t16 : decide ((14 : Int) < (nr : Int)) = true := by simp; omega
      have t16' : decide (14 < nr) = true := by simp; omega
      obtain ⟨css, hcss⟩ := HS4.out.cells
      obtain ⟨x0, hx0⟩ : ∃ x, rs[0]? = some x := ⟨_, List.getElem?_eq_getElem (by rw [Hnr.out]; omega)⟩
      obtain ⟨a4, _, rfl, _⟩ := HS4.out.row hx0
      have hcap : nr ≤ c4 := by
        obtain ⟨A', c', e, _, h3, _⟩ := hcss
        simp only [Value.slice.injEq] at e
        have := Hnr.out
        omega
      have htk := (hcss.take (q := 14) (by omega)).sl
      have HTk := Lib.hid htk
      have s1 : (14 : Int) ≤ (c4 : Int) := by omega
      have s2 : 14 ≤ c4 := by omega
      clear hcss hx0 htk
      go_wp2_with fail
      go_meet
      have hl : (rs.take 14).length = 14 := by rw [List.length_take, Hnr.out]; omega
      exact ⟨rs.take 14, c4, by omega, by rw [hl], HTk.out, fun x hx => HG4.out x (List.mem_of_mem_take hx), rfl⟩
    · have t16 : decide ((14 : Int) < (nr : Int)) = false := by simp; omega
      have t16' : decide (14 < nr) = false := by simp; omega
      go_wp2_with fail
      go_meet
      exact ⟨rs, c4, by rw [Hnr.out]; omega, by rw [Hnr.out], HS4.out, HG4.out, rfl⟩
  case rest =>
    obtain ⟨xs, cx, hx16, rfl, hsx, hgx, rfl⟩ := hcut
    obtain ⟨wa, hwa⟩ : ∃ wa, wa = wc := ⟨_, rfl⟩
    rw [← hwa] at HB4 HR4 HN4 HC4 hsx ⊢
    clear hwa HS4 HG4 Hnr
    obtain ⟨nx, hnx⟩ : ∃ nx, xs.length = nx := ⟨_, rfl⟩
    rw [hnx] at hx16 hsx ⊢
    have Hnx := Lib.hid hnx
    have HSx := Lib.hid hsx
    have hrawx : ∀ x ∈ xs, ∀ u ∈ x.args, rawV u := fun x hx => (hgx x hx).raw
    have HRx := Lib.hid hrawx
    have hkx : ∀ m, IsMerge xs m → m.length ≤ 30 := fun m hm => merge_len hm 30 (by rw [hnx]; omega)
    have HKx := Lib.hid hkx
    obtain ⟨r0, hr0⟩ : ∃ r0 : Ru, r0 = { r with agg := ⟨#[]⟩, at' := 0 } := ⟨_, rfl⟩
    have hraw0 : r0.Raw := by rw [hr0]; exact ⟨HRaw.out.rel, HRaw.out.lo, HRaw.out.hi, HRaw.out.fst, HRaw.out.ts, HRaw.out.l1, HRaw.out.l4, HRaw.out.ls⟩
    have hfr0 : ∀ m, fireR r0 m = fireR r m := fun m => by rw [hr0]; rfl
    have hsl0 : ∀ W, New wa W → RuSl W (.agg #[.string lab, .string r.h, .slice A r.ts.length c, .string ⟨#[]⟩, .int .i64 0, .slice Ab r.Ls.length cb]) r0 := fun W hW => by
      obtain ⟨lab', A', Ab', c', cb', css, cssb, h1, h2, h3, h4, h5⟩ := HR4.out.chg hW
      simp only [Value.agg.injEq, Array.mk.injEq, List.cons.injEq, Value.slice.injEq, Value.string.injEq, Value.int.injEq] at h1
      obtain ⟨rfl, -, ⟨rfl, -, rfl⟩, -, -, ⟨rfl, -, rfl⟩, -⟩ := h1
      rw [hr0]
      exact ⟨lab, A, Ab, c, cb, css, cssb, rfl, h2, h3, h4, h5⟩
    have HSl0 := Lib.hid hsl0
    have HRaw0 := Lib.hid hraw0
    have HFr0 := Lib.hid hfr0
    have hag0 : r0.agg = ⟨#[]⟩ := by rw [hr0]
    have HAg0 := Lib.hid hag0
    clear hnx hsx hgx hrawx hkx hr0 hraw0 hfr0 hsl0 hag0
    go_upto_region 10 with first
      | ((with_reducible refine wpl_load rfl (.tmp 8) 27 rfl stRule ⟨b8, 0, none⟩ [.string lab, .string r.h, .slice A r.ts.length c, .string r.agg, .int .i64 r.at', .slice Ab r.Ls.length cb] ?_ rfl HB4.out.at_ ?_); exact rfl)
      | ((with_reducible refine wpl_box rfl rfl 10 (.tmp 23) 27 rfl rfl rfl rfl stRule zRule [.string lab, .string r.h, .slice A r.ts.length c, .string r.agg, .int .i64 r.at', .slice Ab r.Ls.length cb] ?_ ?_ rfl (rule_one rfl rfl rfl) ?_); exact (by decide : 10 < 65); exact rfl; intro w5 hc5 hb5 hs5; have HC5 := Lib.hid hc5; have HB5 := Lib.hid hb5; have HB85 := Lib.hid (HB4.out.chg hc5 id); clear hc5 hb5 hs5)
      | ((with_reducible refine wpl_put rfl (.tmp 24) (.const (.string ⟨#[]⟩)) 9 rfl rfl sz9 wa.heap.size 3 27 _ (.string ⟨#[]⟩) #[.string lab, .string r.h, .slice A r.ts.length c, .string ⟨#[]⟩, .int .i64 r.at', .slice Ab r.Ls.length cb] ?_ ?_ HB5.out ?_ ?_ ?_ ?_); exact rfl; exact rfl; exact (by decide : 3 < 6); exact rfl; exact rfl; intro w6 hc6 hb6 hs6; have HC6 := Lib.hid (HC5.out.trans hc6 (fun k hk e => absurd hk (by omega))); have HB6 := Lib.hid hb6; have HB86 := Lib.hid (HB85.out.chg hc6 (fun e => by have := HB4.out.lt; omega)); clear hc6 hb6 hs6)
      | ((with_reducible refine wpl_put rfl (.tmp 25) (.const (.int .i64 0)) 3 rfl rfl sz3 wa.heap.size 4 27 _ (.int .i64 0) #[.string lab, .string r.h, .slice A r.ts.length c, .string ⟨#[]⟩, .int .i64 0, .slice Ab r.Ls.length cb] ?_ ?_ HB6.out ?_ ?_ ?_ ?_); exact rfl; exact rfl; exact (by decide : 4 < 6); exact rfl; exact rfl; intro w7 hc7 hb7 hs7; have HC7 := Lib.hid (HC6.out.trans hc7 (fun k hk e => absurd hk (by omega))); have HB7 := Lib.hid hb7; have HB87 := Lib.hid (HB86.out.chg hc7 (fun e => by have := HB4.out.lt; omega)); clear hc7 hb7 hs7)
      | ((with_reducible refine wpl_load rfl (.tmp 8) 27 rfl stRule ⟨b8, 0, none⟩ [.string lab, .string r.h, .slice A r.ts.length c, .string r.agg, .int .i64 r.at', .slice Ab r.Ls.length cb] ?_ rfl HB87.out.at_ ?_); exact rfl)
      | (go_at_call 7; refine (fire_sl _ _ (.slice A4 nx cx) r (HR4.out.chg HC7.out) HRaw.out xs (HSx.out.chg HC7.out) HRx.out 0 HKx.out).mono ?_; rintro e w8 ⟨m0, vf, out, hm0, hout, rfl, hsf, hN8⟩; obtain ⟨Af, cf, rfl, hlf⟩ := hsf.form; have HM0 := Lib.hid hm0; have HOut := Lib.hid hout; have HSf := Lib.hid hsf; have HB10 := Lib.hid (HB7.out.chg hN8 id); have HB88 := Lib.hid (HB87.out.chg hN8 id); have HN8 := Lib.hid (HC7.out.trans hN8 (fun _ _ x => x)); clear hm0 hout hsf hN8)
    obtain ⟨b10, hb10⟩ : ∃ b, wa.heap.size = b := ⟨_, rfl⟩
    have hne8 : b8 ≠ b10 := by have := HB4.out.lt; omega
    rw [hb10] at HB10 ⊢
    obtain ⟨nf, hnf⟩ : ∃ n, out.length = n := ⟨_, rfl⟩
    rw [hnf] at HSf hlf ⊢
    have Hnf := Lib.hid hnf
    have hcx : ∀ x ∈ xs, canonR x := ok_canon (raw_ok HRx.out)
    have hco : ∀ x ∈ fireR r m0, canonR x := ok_canon (fire_ok HRaw.out.okT HRaw.out.okL (merge_ok HM0.out (raw_ok HRx.out)))
    have hsame : ∀ m' o, IsMerge xs m' → IsMerge (fireR r m') o → o = out := fun m' o h1 h2 => by
      obtain rfl : m' = m0 := merge_uniq hcx h1 HM0.out
      exact merge_uniq hco h2 HOut.out
    have hcout : ∀ x ∈ out, canonR x := fun x hx => hco x (HOut.out.sub x hx)
    have HSame := Lib.hid hsame
    have HCo := Lib.hid hcout
    clear hnf hsame hcout hco hcx HC5 HC6 HC7 HB5 HB6 HB7 HB85 HB86 HB87 hb10
    have eg7 : ∀ (args : Array Value) (w : World), (callFunc 7 args).run Tryz.prog w = .ok (.enter 7 args) w := enters_of Tryz.func7 (by kernel_rfl) rfl
    have eg8 : ∀ (args : Array Value) (w : World), (callFunc 8 args).run Tryz.prog w = .ok (.enter 8 args) w := enters_of Tryz.func8 (by kernel_rfl) rfl
    have eg9 : ∀ (args : Array Value) (w : World), (callFunc 9 args).run Tryz.prog w = .ok (.enter 9 args) w := enters_of Tryz.func9 (by kernel_rfl) rfl
    have eg12 : ∀ (args : Array Value) (w : World), (callFunc 12 args).run Tryz.prog w = .ok (.enter 12 args) w := enters_of Tryz.func12 (by kernel_rfl) rfl
    refine wp_region_at (by kernel_rfl) ?_
    have hnd : New w8 w8.drew := (Chg.refl _ _).drew
    have hn4 := HN8.out.trans hnd (fun _ _ x => x)
    have DB10 := Lib.hid (HB10.out.chg hnd id)
    have DB8 := Lib.hid (HB88.out.chg hnd id)
    have DN := Lib.hid hn4
    have DF := Lib.hid (HSf.out.chg hnd)
    clear hnd hn4 HB10 HB88 HN8 HSf
    generalize w8.drew = wd at DB10 DB8 DN DF ⊢
    refine AtN.segN2 0 8 [29, 30, 31, 32, 33, 34, 35, 12] (fun
      | 0 => fun v _ => v = .agg #[.string lab, .string r.h, .slice A r.ts.length c, .string ⟨#[]⟩, .int .i64 0, .slice Ab r.Ls.length cb]
      | 1 => fun v _ => v = .slice A4 nx cx
      | 2 => fun v W => ∃ m o, IsMerge xs m ∧ IsMerge (fireR r m) o ∧ RowSl W v o
      | 3 => fun v _ => v = .agg #[.string lab, .string r.h, .slice A r.ts.length c, .string ⟨#[]⟩, .int .i64 0, .slice Ab r.Ls.length cb]
      | 4 => fun v _ => v = .slice A4 nx cx
      | 5 => fun v W => ∃ m o, IsMerge xs m ∧ IsMerge (fireR r m) o ∧ RowSl W v o
      | 6 => fun v _ => v = .bool true
      | 7 => fun v _ => v = .bool true
      | _ => fun _ _ => True) (by kernel_rfl) (by kernel_rfl) (by kernel_rfl) (by kernel_rfl) (fun j v w1 w2 hc h => ?_) (fun i hn hi o ho A0 W hN hin hk => ?_) (fun l W3 hN hl hΦ => ?_)
    · match j with
      | 2 => exact h.imp fun m h => h.imp fun o h => ⟨h.1, h.2.1, h.2.2.chg hc⟩
      | 5 => exact h.imp fun m h => h.imp fun o h => ⟨h.1, h.2.1, h.2.2.chg hc⟩
      | 0 | 1 | 3 | 4 | 6 | 7 => exact h
      | _ + 8 => trivial
    · rcases (show i = 0 ∨ i = 1 ∨ i = 2 ∨ i = 3 ∨ i = 4 ∨ i = 5 ∨ i = 6 ∨ i = 7 by omega) with rfl | rfl | rfl | rfl | rfl | rfl | rfl | rfl
      · cases ho
        have h10 : A0.tmps[10]?.getD undef = .pointer (some ⟨b10, 0, none⟩) := hk 10 (by kernel_rfl)
        exact .same (exec_load 10 _ rfl stRule ⟨b10, 0, none⟩ [.string lab, .string r.h, .slice A r.ts.length c, .string ⟨#[]⟩, .int .i64 0, .slice Ab r.Ls.length cb] h10 rfl (DB10.out.chg hN id).at_) rfl
      · cases ho
        exact .same (exec_move 9 _ rfl (hk 9 (by kernel_rfl))) rfl
      · cases ho
        have h29 : A0.tmps[29]?.getD undef = .agg #[.string lab, .string r.h, .slice A r.ts.length c, .string ⟨#[]⟩, .int .i64 0, .slice Ab r.Ls.length cb] := hin 0 29 (by kernel_rfl)
        have h30 : A0.tmps[30]?.getD undef = .slice A4 nx cx := hin 1 30 (by kernel_rfl)
        have hW := DN.out.trans hN (fun _ _ x => x)
        refine .call (f := 9) (args := #[.agg #[.string lab, .string r.h, .slice A r.ts.length c, .string ⟨#[]⟩, .int .i64 0, .slice Ab r.Ls.length cb], .slice A4 nx cx]) (W' := W) ?_ ((grule_plain W _ _ r0 (HSl0.out W hW) HRaw0.out HAg0.out xs (HSx.out.chg hW) HRx.out HKx.out).mono ?_)
        · simp [go_sem, h29, h30, eg9]
        · rintro e w' ⟨m, v', o, hm, ho, rfl, hsl, hc⟩
          rw [HFr0.out] at ho
          exact ⟨_, rfl, hc, m, o, hm, ho, hsl⟩
      · cases ho
        have h10 : A0.tmps[10]?.getD undef = .pointer (some ⟨b10, 0, none⟩) := hk 10 (by kernel_rfl)
        exact .same (exec_load 10 _ rfl stRule ⟨b10, 0, none⟩ [.string lab, .string r.h, .slice A r.ts.length c, .string ⟨#[]⟩, .int .i64 0, .slice Ab r.Ls.length cb] h10 rfl (DB10.out.chg hN id).at_) rfl
      · cases ho
        exact .same (exec_move 9 _ rfl (hk 9 (by kernel_rfl))) rfl
      · cases ho
        have h32 : A0.tmps[32]?.getD undef = .agg #[.string lab, .string r.h, .slice A r.ts.length c, .string ⟨#[]⟩, .int .i64 0, .slice Ab r.Ls.length cb] := hin 3 32 (by kernel_rfl)
        have h33 : A0.tmps[33]?.getD undef = .slice A4 nx cx := hin 4 33 (by kernel_rfl)
        have hW := DN.out.trans hN (fun _ _ x => x)
        refine .call (f := 7) (args := #[.agg #[.string lab, .string r.h, .slice A r.ts.length c, .string ⟨#[]⟩, .int .i64 0, .slice Ab r.Ls.length cb], .slice A4 nx cx]) (W' := W) ?_ ((fire_sl W _ _ r0 (HSl0.out W hW) HRaw0.out xs (HSx.out.chg hW) HRx.out 0 HKx.out).mono ?_)
        · simp [go_sem, h32, h33, eg7]
        · rintro e w' ⟨m, v', o, hm, ho, rfl, hsl, hc⟩
          rw [HFr0.out] at ho
          exact ⟨_, rfl, hc, m, o, hm, ho, hsl⟩
      · cases ho
        have h31 := hin 2 31 (by kernel_rfl)
        have h34 := hin 5 34 (by kernel_rfl)
        obtain ⟨m, o, hm, ho, hsl⟩ := h31
        obtain ⟨m', o', hm', ho', hsl'⟩ := h34
        obtain rfl := HSame.out m o hm ho
        obtain rfl := HSame.out m' o' hm' ho'
        refine .call (f := 8) (args := #[A0.tmps[31]?.getD undef, A0.tmps[34]?.getD undef]) (W' := W) ?_ ((same_sl W _ _ _ hsl hsl').mono ?_)
        · simp [go_sem, eg8]
        · rintro e w' ⟨rfl, hc⟩
          exact ⟨_, rfl, hc, rfl⟩
      · cases ho
        have h35 : A0.tmps[35]?.getD undef = .bool true := hin 6 35 (by kernel_rfl)
        exact .same (by simp [go_sem, h35]) rfl
    obtain ⟨x29, x30, x31, x32, x33, x34, x35, x12, rfl⟩ : ∃ x29 x30 x31 x32 x33 x34 x35 x12, l = [x29, x30, x31, x32, x33, x34, x35, x12] := by
      match l, hl with
      | [x29, x30, x31, x32, x33, x34, x35, x12], _ => exact ⟨_, _, _, _, _, _, _, _, rfl⟩
    obtain rfl : x29 = .agg #[.string lab, .string r.h, .slice A r.ts.length c, .string ⟨#[]⟩, .int .i64 0, .slice Ab r.Ls.length cb] := hΦ 0 (by decide)
    obtain rfl : x30 = .slice A4 nx cx := hΦ 1 (by decide)
    have hx31 := hΦ 2 (by decide)
    obtain rfl : x32 = .agg #[.string lab, .string r.h, .slice A r.ts.length c, .string ⟨#[]⟩, .int .i64 0, .slice Ab r.Ls.length cb] := hΦ 3 (by decide)
    obtain rfl : x33 = .slice A4 nx cx := hΦ 4 (by decide)
    have hx34 := hΦ 5 (by decide)
    obtain rfl : x35 = .bool true := hΦ 6 (by decide)
    obtain rfl : x12 = .bool true := hΦ 7 (by decide)
    simp only [putsL, List.zip_cons_cons, List.zip_nil_left, List.zip_nil_right, List.zip, List.zipWith, Act.put, List.setIfInBounds_toArray, List.set_cons_succ, List.set_cons_zero]
    clear hΦ hl
    refine AtN.done rfl ?_
    have EB8 := Lib.hid (DB8.out.chg hN id)
    have EN := Lib.hid (DN.out.trans hN (fun _ _ x => x))
    have EF := Lib.hid (DF.out.chg hN)
    have e82 := EB8.out.cell 2
    simp only [List.getElem?_toArray, List.getElem?_cons_zero, List.getElem?_cons_succ] at e82
    clear hN DB10 DB8 DN DF
    have HNw := Lib.hid (HN4.out.trans EN.out (fun _ _ x => x))
    by_cases h2 : r.ts.length < 2
    · have t2 : decide ((r.ts.length : Int) < 2) = true := by simp; omega
      have t2' : decide (r.ts.length < 2) = true := by simp; omega
      go_wp2_with fail
      go_ret
      exact ⟨rfl, HNw.out⟩
    · have t2 : decide ((r.ts.length : Int) < 2) = false := by simp; omega
      have t2' : decide (r.ts.length < 2) = false := by simp; omega
      obtain ⟨a, ha⟩ : ∃ a : Nat, pk c2 3 = a := ⟨(pk c2 3).toNat, by have := pk_lo c2 3 (by omega); omega⟩
      have ha3 : a < 3 := by have := pk_hi c2 3 (by omega); omega
      have hp1 := fun W => pick11 W c2 3 h20 h21 (by omega) (by omega)
      rw [ha] at hp1
      have HP1 := Lib.hid hp1
      clear hp1 ha
      obtain ⟨ag, hag⟩ : ∃ g, agOf a = g := ⟨_, rfl⟩
      obtain ⟨nm, hnm⟩ : ∃ s, agName ag = s := ⟨_, rfl⟩
      have a0 : (0 : Int) ≤ (a : Int) := by omega
      have a1 : (a : Int) < 3 := by omega
      obtain ⟨r1, hr1⟩ : ∃ r1 : Ru, r1 = { r with agg := agName ag, at' := 1 } := ⟨_, rfl⟩
      have hraw1 : r1.Raw := by rw [hr1]; exact ⟨HRaw.out.rel, HRaw.out.lo, HRaw.out.hi, HRaw.out.fst, HRaw.out.ts, HRaw.out.l1, HRaw.out.l4, HRaw.out.ls⟩
      have hsl1 : ∀ W, New w2 W → RuSl W (.agg #[.string lab, .string r.h, .slice A r.ts.length c, .string nm, .int .i64 1, .slice Ab r.Ls.length cb]) r1 := fun W hW => by
        obtain ⟨lab', A', Ab', c', cb', css, cssb, h1, h2, h3, h4, h5⟩ := HR2.out.chg hW
        simp only [Value.agg.injEq, Array.mk.injEq, List.cons.injEq, Value.slice.injEq, Value.string.injEq, Value.int.injEq] at h1
        obtain ⟨rfl, -, ⟨rfl, -, rfl⟩, -, -, ⟨rfl, -, rfl⟩, -⟩ := h1
        rw [hr1]
        exact ⟨lab, A, Ab, c, cb, css, cssb, by rw [hnm], h2, h3, h4, h5⟩
      have hgr := fun W (hW : New w2 W) (hs : RowSl W (.slice A4 nx cx) xs) => grule_agg W (.agg #[.string lab, .string r.h, .slice A r.ts.length c, .string nm, .int .i64 1, .slice Ab r.Ls.length cb]) (.slice A4 nx cx) r1 (hsl1 W hW) hraw1 ag (by rw [hr1]) (by rw [hr1]) xs hs HRx.out HKx.out
      have hfr1 : ∀ m, fireR r1 m = fireR r m := fun m => by rw [hr1]; rfl
      have hgg := fun W h => group_rows W ag 1 (by omega) (by omega) (.slice Af nf cf) out h
      rw [hnm] at hgg
      have HGr := Lib.hid hgr
      have HFr1 := Lib.hid hfr1
      have HGg := Lib.hid hgg
      have Hag := Lib.hid hag
      have Hnm := Lib.hid hnm
      clear hag hnm hr1 hraw1 hsl1 hgr hfr1 hgg
      have h8l := EB8.out.lt
      have HSx3 := Lib.hid (HSx.out.chg EN.out)
      have HC3 := Lib.hid (HC4.out.trans EN.out (fun _ _ x => x))
      go_upto_region 15 with first
        | (go_at_call 10; refine (aggs_any _).mono ?_; rintro e wg ⟨bg, rfl, hbg, hNg⟩; have hcg := ag_cell hbg ha3; rw [Hag.out, Hnm.out] at hcg; have HBg := Lib.hid (EB8.out.chg hNg id); have HNg := Lib.hid hNg; clear hbg hNg)
        | (go_at_call 11; refine (HP1.out _).mono ?_; rintro e w' ⟨rfl, rfl⟩)
        | ((with_reducible refine wpl_put rfl (.tmp 49) (.tmp 48) 9 rfl rfl sz9 b8 3 27 _ (.string nm) #[.string lab, .string r.h, .slice A r.ts.length c, .string nm, .int .i64 r.at', .slice Ab r.Ls.length cb] ?_ ?_ HBg.out ?_ ?_ ?_ ?_); exact rfl; exact rfl; exact (by decide : 3 < 6); exact rfl; exact rfl; intro wh hch hbh hsh; have HCh := Lib.hid hch; have HBh := Lib.hid hbh; clear hch hbh hsh)
        | ((with_reducible refine wpl_put rfl (.tmp 50) (.const (.int .i64 1)) 3 rfl rfl sz3 b8 4 27 _ (.int .i64 1) #[.string lab, .string r.h, .slice A r.ts.length c, .string nm, .int .i64 1, .slice Ab r.Ls.length cb] ?_ ?_ HBh.out ?_ ?_ ?_ ?_); exact rfl; exact rfl; exact (by decide : 4 < 6); exact rfl; exact rfl; intro wi hci hbi hsi; have HCi := Lib.hid hci; have HBi := Lib.hid hbi; clear hci hbi hsi)
      have hb8w := Hb8.out
      have HSxi := Lib.hid (((HSx3.out.chg HNg.out).chgRule HBg.out HCh.out).chgRule HBh.out HCi.out)
      have HSfi := Lib.hid (((EF.out.chg HNg.out).chgRule HBg.out HCh.out).chgRule HBh.out HCi.out)
      have HC2i := Lib.hid (((HC3.out.trans HNg.out (fun _ _ x => x)).trans HCh.out (fun k hk e => by omega)).trans HCi.out (fun k hk e => by omega))
      have hww : New w wi := ((HNw.out.trans HNg.out (fun _ _ x => x)).trans HCh.out (fun k hk e => by have := HN2w.out; omega)).trans HCi.out (fun k hk e => by have := HN2w.out; omega)
      have HNi := Lib.hid hww
      clear hww HSx3 HC3 HNg HBg HCh HBh HCi EB8 EN EF HNw
      refine wp_region_at (by kernel_rfl) ?_
      have hnd : New wi wi.drew := (Chg.refl _ _).drew
      have DB := Lib.hid (HBi.out.chg hnd id)
      have DX := Lib.hid (HSxi.out.chg hnd)
      have DF := Lib.hid (HSfi.out.chg hnd)
      have DC := Lib.hid (HC2i.out.trans hnd (fun _ _ x => x))
      have DN := Lib.hid (HNi.out.trans hnd (fun _ _ x => x))
      clear hnd HBi HSxi HSfi HC2i HNi
      generalize wi.drew = wd at DB DX DF DC DN ⊢
      refine AtN.segQ2 0 2 (fun
        | 0 => .bool true
        | _ => .bool true)
        [(51, .bool true), (52, .bool true)] (by kernel_rfl) (by kernel_rfl) (by kernel_rfl) (by kernel_rfl) rfl (fun i hn hi o ho A0 hin hk => ?_) ?_
      · rcases (show i = 0 ∨ i = 1 by omega) with rfl | rfl
        · cases ho
          exact exec_move 7 _ rfl (hk 7 (by kernel_rfl))
        · cases ho
          exact exec_move 51 _ rfl (hin 0 51 (by kernel_rfl))
      simp only [putsL, Act.put, List.setIfInBounds_toArray, List.set_cons_succ, List.set_cons_zero]
      refine AtN.segQ2 2 5 (fun
        | 2 => .bool true
        | 3 => .bool true
        | _ => .bool true)
        [(53, .bool true), (54, .bool true), (55, .bool true)] (by kernel_rfl) (by kernel_rfl) (by kernel_rfl) (by kernel_rfl) rfl (fun i hn hi o ho A0 hin hk => ?_) ?_
      · rcases (show i = 2 ∨ i = 3 ∨ i = 4 by omega) with rfl | rfl | rfl
        · cases ho
          exact exec_move 12 _ rfl (hk 12 (by kernel_rfl))
        · cases ho
          have h52 : A0.tmps[52]?.getD undef = .bool true := hk 52 (by kernel_rfl)
          have h53 : A0.tmps[53]?.getD undef = .bool true := hin 2 53 (by kernel_rfl)
          exact by simp [go_sem, h52, h53]
        · cases ho
          exact exec_move 54 _ rfl (hin 3 54 (by kernel_rfl))
      simp only [putsL, Act.put, List.setIfInBounds_toArray, List.set_cons_succ, List.set_cons_zero]
      refine AtN.segN2 5 15 [56, 57, 58, 59, 60, 61, 62, 63, 64, 6] (fun
        | 5 => fun v _ => v = .agg #[.string lab, .string r.h, .slice A r.ts.length c, .string nm, .int .i64 1, .slice Ab r.Ls.length cb]
        | 6 => fun v _ => v = .slice A4 nx cx
        | 7 => fun v W => ∃ m o m2 res, IsMerge xs m ∧ IsMerge (fireR r m) o ∧ IsMerge (trn 1 o) m2 ∧ IsMerge ((grp ag m2).map (bck 1)) res ∧ RowSl W v res
        | 8 => fun v _ => v = .pointer (some ⟨b8, 3, none⟩)
        | 9 => fun v _ => v = .string nm
        | 10 => fun v _ => v = .slice Af nf cf
        | 11 => fun v W => ∃ m2 res, IsMerge (trn 1 out) m2 ∧ IsMerge ((grp ag m2).map (bck 1)) res ∧ RowSl W v res
        | 12 => fun v _ => v = .bool true
        | 13 => fun v _ => v = .bool true
        | 14 => fun v _ => v = .bool true
        | _ => fun _ _ => True) (by kernel_rfl) (by kernel_rfl) (by kernel_rfl) (by kernel_rfl) (fun j v w1 w2 hc h => ?_) (fun i hn hi o ho A0 W hN hin hk => ?_) (fun l W4 hN hl hΦ => ?_)
      · match j with
        | 7 => exact h.imp fun m h => h.imp fun o h => h.imp fun m2 h => h.imp fun res h => ⟨h.1, h.2.1, h.2.2.1, h.2.2.2.1, h.2.2.2.2.chg hc⟩
        | 11 => exact h.imp fun m2 h => h.imp fun res h => ⟨h.1, h.2.1, h.2.2.chg hc⟩
        | 5 | 6 | 8 | 9 | 10 | 12 | 13 | 14 => exact h
        | 0 | 1 | 2 | 3 | 4 => trivial
        | _ + 15 => trivial
      · rcases (show i = 5 ∨ i = 6 ∨ i = 7 ∨ i = 8 ∨ i = 9 ∨ i = 10 ∨ i = 11 ∨ i = 12 ∨ i = 13 ∨ i = 14 by omega) with rfl | rfl | rfl | rfl | rfl | rfl | rfl | rfl | rfl | rfl
        · cases ho
          have h8 : A0.tmps[8]?.getD undef = .pointer (some ⟨b8, 0, none⟩) := hk 8 (by kernel_rfl)
          exact .same (exec_load 8 _ rfl stRule ⟨b8, 0, none⟩ [.string lab, .string r.h, .slice A r.ts.length c, .string nm, .int .i64 1, .slice Ab r.Ls.length cb] h8 rfl (DB.out.chg hN id).at_) rfl
        · cases ho
          exact .same (exec_move 9 _ rfl (hk 9 (by kernel_rfl))) rfl
        · cases ho
          have h56 : A0.tmps[56]?.getD undef = .agg #[.string lab, .string r.h, .slice A r.ts.length c, .string nm, .int .i64 1, .slice Ab r.Ls.length cb] := hin 5 56 (by kernel_rfl)
          have h57 : A0.tmps[57]?.getD undef = .slice A4 nx cx := hin 6 57 (by kernel_rfl)
          refine .call (f := 9) (args := #[.agg #[.string lab, .string r.h, .slice A r.ts.length c, .string nm, .int .i64 1, .slice Ab r.Ls.length cb], .slice A4 nx cx]) (W' := W) ?_ ((HGr.out W (DC.out.trans hN (fun _ _ x => x)) (DX.out.chg hN)).mono ?_)
          · simp [go_sem, h56, h57, eg9]
          · rintro e w' ⟨m, o, v', m2, res, hm, ho, hm2, hres, rfl, hsl, hc⟩
            rw [HFr1.out] at ho
            exact ⟨_, rfl, hc, m, o, m2, res, hm, ho, hm2, hres, hsl⟩
        · cases ho
          have h8 : A0.tmps[8]?.getD undef = .pointer (some ⟨b8, 0, none⟩) := hk 8 (by kernel_rfl)
          exact .same (by simp [go_sem, h8]) rfl
        · cases ho
          have h59 : A0.tmps[59]?.getD undef = .pointer (some ⟨b8, 3, none⟩) := hin 8 59 (by kernel_rfl)
          have hc : W.cell? ⟨b8, 3, none⟩ = some (.string nm) := (DB.out.chg hN id).cell 3
          exact .same (v := .string nm) (by simp [go_sem, h59, hc]) rfl
        · cases ho
          exact .same (exec_move 11 _ rfl (hk 11 (by kernel_rfl))) rfl
        · cases ho
          have h60 : A0.tmps[60]?.getD undef = .string nm := hin 9 60 (by kernel_rfl)
          have h61 : A0.tmps[61]?.getD undef = .slice Af nf cf := hin 10 61 (by kernel_rfl)
          refine .call (f := 12) (args := #[.string nm, .int .i64 1, .slice Af nf cf]) (W' := W) ?_ ((HGg.out W (by have h := DF.out.chg hN; exact h)).mono ?_)
          · simp [go_sem, h60, h61, eg12]
          · rintro e w' ⟨v', m2, res, rfl, hm2, hres, hsl, hc⟩
            exact ⟨_, rfl, hc, m2, res, hm2, hres, hsl⟩
        · cases ho
          have h58 := hin 7 58 (by kernel_rfl)
          have h62 := hin 11 62 (by kernel_rfl)
          obtain ⟨m, o, m2, res, hm, ho, hm2, hres, hsl⟩ := h58
          obtain ⟨m3, res3, hm3, hres3, hsl3⟩ := h62
          obtain rfl := HSame.out m o hm ho
          obtain rfl := group_uniq HCo.out hm2 hm3 hres hres3
          refine .call (f := 8) (args := #[A0.tmps[58]?.getD undef, A0.tmps[62]?.getD undef]) (W' := W) ?_ ((same_sl W _ _ _ hsl hsl3).mono ?_)
          · simp [go_sem, eg8]
          · rintro e w' ⟨rfl, hc⟩
            exact ⟨_, rfl, hc, rfl⟩
        · cases ho
          have h55 : A0.tmps[55]?.getD undef = .bool true := hk 55 (by kernel_rfl)
          have h63 : A0.tmps[63]?.getD undef = .bool true := hin 12 63 (by kernel_rfl)
          exact .same (by simp [go_sem, h55, h63]) rfl
        · cases ho
          have h64 : A0.tmps[64]?.getD undef = .bool true := hin 13 64 (by kernel_rfl)
          exact .same (by simp [go_sem, h64]) rfl
      obtain ⟨x56, x57, x58, x59, x60, x61, x62, x63, x64, x6, rfl⟩ : ∃ x56 x57 x58 x59 x60 x61 x62 x63 x64 x6, l = [x56, x57, x58, x59, x60, x61, x62, x63, x64, x6] := by
        match l, hl with
        | [x56, x57, x58, x59, x60, x61, x62, x63, x64, x6], _ => exact ⟨_, _, _, _, _, _, _, _, _, _, rfl⟩
      obtain rfl : x56 = .agg #[.string lab, .string r.h, .slice A r.ts.length c, .string nm, .int .i64 1, .slice Ab r.Ls.length cb] := hΦ 0 (by decide)
      obtain rfl : x57 = .slice A4 nx cx := hΦ 1 (by decide)
      have hx58 := hΦ 2 (by decide)
      obtain rfl : x59 = .pointer (some ⟨b8, 3, none⟩) := hΦ 3 (by decide)
      obtain rfl : x60 = .string nm := hΦ 4 (by decide)
      obtain rfl : x61 = .slice Af nf cf := hΦ 5 (by decide)
      have hx62 := hΦ 6 (by decide)
      obtain rfl : x63 = .bool true := hΦ 7 (by decide)
      obtain rfl : x64 = .bool true := hΦ 8 (by decide)
      obtain rfl : x6 = .bool true := hΦ 9 (by decide)
      simp only [putsL, List.zip_cons_cons, List.zip_nil_left, List.zip_nil_right, List.zip, List.zipWith, Act.put, List.setIfInBounds_toArray, List.set_cons_succ, List.set_cons_zero]
      clear hΦ hl
      refine AtN.done rfl ?_
      have hfin := DN.out.trans hN (fun _ _ x => x)
      clear hN
      go_wp2_with fail
      go_ret
      exact ⟨rfl, hfin⟩
end Go.Proofs.YtfocjfnkcabbgaaGreat
