/- slices.BinarySearchFunc over rows, by fire.Compare; delta.place; delta.missing; delta.Diff; What DeltaDiffs and DeltaNothing ask, in plain Lean. -/
import Derived.Test.YtenkobgeflckdaaMrgW
import Derived.Test.YtenkobgeflckdaaWS
import Derived.Test.YtenkobgeflckdaaOpenR
import Derived.Test.YtenkobgeflckdaaElVR
import Derived.Deep.CutRange
import Derived.Test.YtenkobgeflckdaaOrdP
set_option linter.unusedVariables false
set_option linter.unusedSimpArgs false
namespace Go.Proofs.Ytenkobgeflckdaa
open Go.RowKit Go.Shelf

/-- Does the i-th stand for r? -/
def hitR (rs : List Rw) (r : Rw) (i : Nat) : Bool := match rs[i]? with | some s => decide (cmpR s r = 0) | none => false
/-- Ahead of i all are less, from i on none. -/
def BsPost (w : World) (rs : List Rw) (r : Rw) (e : Ending) (w' : World) : Prop :=
  ∃ i : Nat, e = .returned (.tuple #[.int .i64 i, .bool (hitR rs r i)]) ∧ Bin (fun p => ∃ s, rs[p]? = some s ∧ cmpR s r < 0) (fun p => ∃ s, rs[p]? = some s ∧ Le cmpR r s) 0 rs.length i i ∧ New w w'

set_option maxHeartbeats 4000000 in
set_option maxRecDepth 100000 in
theorem bs_rows (w : World) (A : Option Addr) (n c : Nat) (css : List (List Value)) (rs : List Rw) (hn : n = rs.length) (hnb : n ≤ 1000000) (hA : SrcAt w A 3 css) (hra : RowsCs w css rs) (xc : List Value) (r : Rw) (hx : RowAt w xc r) :
    Calls Try.prog 93 #[.slice A n c, .agg xc.toArray, .func (.func 58) #[] #[]] w (BsPost w rs r) := by
  have eg := enters_of Try.func58 (by kernel_rfl) rfl
  unfold Enters at eg
  obtain ⟨w1, hw1⟩ : ∃ w1, w1 = w.alloc (.cells xc.toArray 58) := ⟨_, rfl⟩
  have hN1 : New w w1 := by rw [hw1]; exact (Chg.refl _ _).alloc _
  have hB1 : Blk w1 w.heap.size 58 xc.toArray := by rw [hw1]; exact Blk.new w _ _
  have Hx := Lib.hid hx
  obtain ⟨X1, xd, hxc, _⟩ := hx
  obtain ⟨L, hL⟩ : ∃ L : Nat → Prop, L = fun p => ∃ s, rs[p]? = some s ∧ cmpR s r < 0 := ⟨_, rfl⟩
  obtain ⟨R, hR⟩ : ∃ R : Nat → Prop, R = fun p => ∃ s, rs[p]? = some s ∧ Le cmpR r s := ⟨_, rfl⟩
  have HL := Lib.hid hL
  have HR := Lib.hid hR
  have HA := Lib.hid hA
  have HN := Lib.hid hn
  have HRa := Lib.hid hra
  have HN1 := Lib.hid hN1
  have HB1 := Lib.hid hB1
  have HW1 := Lib.hid hw1
  have Hxl := Lib.hid Hx.out.cs.1
  subst hxc
  clear hA hn hra hN1 hB1 hL hR
  go_enter Try.func93, Try.ntmps93
  go_upto_region 1 with fail
  rw [← HW1.out]
  clear hw1
  go_wp2_with fail
  generalize w.heap.size = bx at HB1 ⊢
  go_loopw [9, 10] (fun u9 u10 wr => ∃ (i j : Nat), u9 = .int .i64 i ∧ u10 = .int .i64 j ∧ Bin L R 0 n i j ∧ New w1 wr) (fun u9 u10 _ => (intOf u10).toNat - (intOf u9).toNat)
  case atStart => exact ⟨0, n, by go_num, rfl, ⟨Nat.le_refl _, Nat.zero_le _, Nat.le_refl _, .inl rfl, .inl rfl⟩, Chg.refl _ _⟩
  case round =>
    obtain ⟨i, j, rfl, rfl, hB, hN⟩ := hrel
    have hij := hB.ij
    have hj := hB.hi
    have HB := Lib.hid hB
    have HNw := Lib.hid hN
    clear hB hN
    by_cases hlt : i < j
    · obtain ⟨h, hh⟩ : ∃ h : Nat, h = (i + j) / 2 := ⟨_, rfl⟩
      have hhI : ((i : Int) + (j : Int)) / 2 = (h : Int) := by omega
      have hi1 : i ≤ h := by omega
      have hj1 : h < j := by omega
      have HhI := Lib.hid hhI
      clear hh hhI
      obtain ⟨cs, hcs⟩ : ∃ cs, css[h]? = some cs := ⟨_, List.getElem?_eq_getElem (by rw [HRa.out.1, ← HN.out]; omega)⟩
      obtain ⟨s, hs1, hrow⟩ := HRa.out.2 h cs hcs
      obtain ⟨ad, rfl, hrA⟩ := HA.out (by rw [HRa.out.1, ← HN.out]; omega)
      have hNd : New w wr.drew := (HN1.out.trans HNw.out (fun _ _ x => x)).drew
      have hat := (hrA h cs hcs).2.chg hNd id
      obtain ⟨q, hq⟩ : ∃ q, cmpR s r = q := ⟨_, rfl⟩
      have hcall := cmp_row wr.drew cs _ s r (hrow.chg hNd) (Hx.out.chg hNd)
      rw [hq] at hcall
      have Hat := Lib.hid hat
      have Hcl := Lib.hid hrow.cs.1
      have Hbt := Lib.hid ((HB1.out.chg HNw.out.drew id).at_)
      have Hs1 := Lib.hid hs1
      have Hq := Lib.hid hq
      have Hcall := Lib.hid hcall
      have HNd := Lib.hid HNw.out.drew
      clear hat hcs hs1 hrow hrA hNd hq hcall
      have q0 : (0 : Int) ≤ (h : Int) := by omega
      have q1 : (h : Int) < (n : Int) := by omega
      have q2 : h < n := by omega
      go_upto_region 5 with fail
      rw [HhI.out]
      refine wp_region_at (by kernel_rfl) ?_
      generalize wr.drew = wd at Hat Hbt Hcall HNd ⊢
      refine AtN.segQ2 0 6 (fun
        | 0 => .func (.func 58) #[] #[]
        | 1 => .slice (some ad) n c
        | 2 => .int .i64 h
        | 3 => .pointer (some (ad.add (h * 3)))
        | 4 => .agg cs.toArray
        | _ => .agg #[.string r.name, .slice X1 r.args.length xd, .int .i64 r.stamp])
        [(24, .func (.func 58) #[] #[]), (25, .slice (some ad) n c), (26, .int .i64 h), (27, .pointer (some (ad.add (h * 3)))), (28, .agg cs.toArray), (29, .agg #[.string r.name, .slice X1 r.args.length xd, .int .i64 r.stamp])] (by kernel_rfl) (by kernel_rfl) (by kernel_rfl) (by kernel_rfl) rfl (fun i hn hi o ho A0 hin hk => ?_) ?_
      · rcases (show i = 0 ∨ i = 1 ∨ i = 2 ∨ i = 3 ∨ i = 4 ∨ i = 5 by omega) with rfl | rfl | rfl | rfl | rfl | rfl
        · cases ho
          exact exec_move 2 _ rfl (hk 2 (by kernel_rfl))
        · cases ho
          exact exec_move 0 _ rfl (hk 0 (by kernel_rfl))
        · cases ho
          exact exec_move 11 _ rfl (hk 11 (by kernel_rfl))
        · cases ho
          have h25 : A0.tmps[25]?.getD undef = .slice (some ad) n c := hin 1 25 (by kernel_rfl)
          have h26 : A0.tmps[26]?.getD undef = .int .i64 h := hin 2 26 (by kernel_rfl)
          exact by simp [go_sem, h25, h26, q0, q1, q2]
        · cases ho
          have h27 : A0.tmps[27]?.getD undef = .pointer (some (ad.add (h * 3))) := hin 3 27 (by kernel_rfl)
          exact exec_load 27 _ rfl stRow (ad.add (h * 3)) cs h27 Hcl.out Hat.out
        · cases ho
          have h4 : A0.tmps[4]?.getD undef = .pointer (some ⟨bx, 0, none⟩) := hk 4 (by kernel_rfl)
          exact exec_load 4 _ rfl stRow ⟨bx, 0, none⟩ [.string r.name, .slice X1 r.args.length xd, .int .i64 r.stamp] h4 rfl Hbt.out
      simp only [putsL, Act.put, List.setIfInBounds_toArray, List.set_cons_succ, List.set_cons_zero]
      refine AtN.list 6 8 (by kernel_rfl) ?_
      change wpList _ _ _ [_, _] _ _
      go_wp2_with fail
      refine Hcall.out.mono ?_
      rintro e3 W3 ⟨rfl, hN3⟩
      have HN3 := Lib.hid (HNd.out.trans hN3 (fun _ _ x => x))
      clear hN3 Hcall HNd Hat Hbt
      by_cases hcn : q < 0
      · have hcd : decide (q < 0) = true := decide_eq_true hcn
        have HB2 := Lib.hid (HB.out.up hi1 hj1 (by rw [HL.out]; exact ⟨s, Hs1.out, by rw [Hq.out]; exact hcn⟩))
        clear hcn
        go_wp2_with fail
        change AtN _ _ _ 8 _ _
        refine AtN.done rfl ?_
        go_wp2_with fail
        go_roundw
        case rel => first | exact ⟨h + 1, j, by go_num, rfl, HB2.out, HN3.out⟩ | exact ⟨h + 1, by go_num, HB2.out, HN3.out⟩
        case measure => simp only [intOf]; omega
      · have hcd : decide (q < 0) = false := decide_eq_false hcn
        have HB2 := Lib.hid (HB.out.down hi1 hj1 (by rw [HR.out]; exact ⟨s, Hs1.out, by unfold Le; rw [Hq.out]; exact hcn⟩))
        clear hcn
        go_wp2_with fail
        change AtN _ _ _ 8 _ _
        refine AtN.done rfl ?_
        go_wp2_with fail
        go_roundw
        case rel => first | exact ⟨i, h, rfl, rfl, HB2.out, HN3.out⟩ | exact ⟨HB2.out, HN3.out⟩
        case measure => simp only [intOf]; omega
    · obtain rfl : i = j := by omega
      have hbin := HB.out
      rw [HL.out, HR.out, HN.out] at hbin
      have HBin := Lib.hid hbin
      clear hbin hij
      by_cases hin : i < n
      · obtain ⟨cs, hcs⟩ : ∃ cs, css[i]? = some cs := ⟨_, List.getElem?_eq_getElem (by rw [HRa.out.1, ← HN.out]; omega)⟩
        obtain ⟨s, hs1, hrow⟩ := HRa.out.2 i cs hcs
        obtain ⟨ad, rfl, hrA⟩ := HA.out (by rw [HRa.out.1, ← HN.out]; omega)
        have hNd : New w wr.drew := (HN1.out.trans HNw.out (fun _ _ x => x)).drew
        have hat := (hrA i cs hcs).2.chg hNd id
        obtain ⟨q, hq⟩ : ∃ q, cmpR s r = q := ⟨_, rfl⟩
        obtain ⟨b, hb⟩ : ∃ b, decide (q = 0) = b := ⟨_, rfl⟩
        have hb2 : (q == 0) = b := by rw [← hb]; rfl
        have hcall := cmp_row wr.drew cs _ s r (hrow.chg hNd) (Hx.out.chg hNd)
        rw [hq] at hcall
        have hfin : hitR rs r i = b := by unfold hitR; rw [hs1]; simp only [hq, hb]
        have HFin := Lib.hid hfin
        have Hat := Lib.hid hat
        have Hcl := Lib.hid hrow.cs.1
        have Hbt := Lib.hid ((HB1.out.chg HNw.out.drew id).at_)
        have Hcall := Lib.hid hcall
        have HNd := Lib.hid HNw.out.drew
        clear hat hcs hs1 hrow hrA hNd hq hcall hfin hb hlt
        have q0 : (0 : Int) ≤ (i : Int) := by omega
        have q1 : (i : Int) < (n : Int) := by omega
        have q2 : decide ((i : Int) < (n : Int)) = true := decide_eq_true (by omega)
        obtain ⟨J, HJ⟩ : ∃ J : Bool → World → Prop, J = (fun d W => New w1 W ∧ (d = false → W = wr.drew)) := ⟨_, rfl⟩
        go_upto_region 8 with fail
        refine wp_region_at (by kernel_rfl) ?_
        generalize wr.drew = wd at Hat Hbt Hcall HNd HJ ⊢
        refine AtN.segG3 0 15 11 [(4, true)] (fun
          | 0 => .int .i64 i
          | 1 => .int .i64 i
          | 2 => .int .i64 n
          | 3 => .bool true
          | 4 => .bool true
          | 5 => .func (.func 58) #[] #[]
          | 6 => .slice (some ad) n c
          | 7 => .int .i64 i
          | 8 => .pointer (some (ad.add (i * 3)))
          | 9 => .agg cs.toArray
          | 10 => .agg #[.string r.name, .slice X1 r.args.length xd, .int .i64 r.stamp]
          | 11 => .int .i64 q
          | 12 => .bool b
          | 13 => .bool b
          | _ => .int .i64 i)
          [(0, 35), (1, 36), (2, 37), (3, 38), (4, 39), (5, 40), (6, 41), (7, 42), (8, 43), (9, 44), (10, 45), (11, 46), (12, 47), (13, 48), (14, 6)] [(35, .int .i64 i), (36, .int .i64 i), (37, .int .i64 n), (38, .bool true), (39, .bool true), (40, .func (.func 58) #[] #[]), (41, .slice (some ad) n c), (42, .int .i64 i), (43, .pointer (some (ad.add (i * 3)))), (44, .agg cs.toArray), (45, .agg #[.string r.name, .slice X1 r.args.length xd, .int .i64 r.stamp]), (46, .int .i64 q), (47, .bool b), (48, .bool b), (6, .int .i64 i)]
          J (by kernel_rfl) (by kernel_rfl) (by kernel_rfl) (by kernel_rfl) rfl (fun p hp => by simp only [List.mem_cons, List.not_mem_nil, or_false] at hp; rcases hp with rfl <;> rfl) (by rw [HJ]; exact ⟨HNd.out, fun _ => rfl⟩) (fun i hn hi o ho A0 W d hJ hμ hin hk => ?_) (fun W3 hJ => ?_)
        · rcases (show i = 0 ∨ i = 1 ∨ i = 2 ∨ i = 3 ∨ i = 4 ∨ i = 5 ∨ i = 6 ∨ i = 7 ∨ i = 8 ∨ i = 9 ∨ i = 10 ∨ i = 11 ∨ i = 12 ∨ i = 13 ∨ i = 14 by omega) with rfl | rfl | rfl | rfl | rfl | rfl | rfl | rfl | rfl | rfl | rfl | rfl | rfl | rfl | rfl
          · cases ho
            exact .quiet (exec_move 9 _ rfl (hk 9 (by kernel_rfl))) hJ
          · cases ho
            exact .quiet (exec_move 9 _ rfl (hk 9 (by kernel_rfl))) hJ
          · cases ho
            exact .quiet (exec_move 8 _ rfl (hk 8 (by kernel_rfl))) hJ
          · cases ho
            have h36 : A0.tmps[36]?.getD undef = .int .i64 i := hin 1 36 (by kernel_rfl)
            have h37 : A0.tmps[37]?.getD undef = .int .i64 n := hin 2 37 (by kernel_rfl)
            exact .quiet (by simp [go_sem, h36, h37, q1]) hJ
          · cases ho
            exact .quiet (exec_move 38 _ rfl (hin 3 38 (by kernel_rfl))) hJ
          · cases ho
            exact .quiet (exec_move 2 _ rfl (hk 2 (by kernel_rfl))) hJ
          · cases ho
            exact .quiet (exec_move 0 _ rfl (hk 0 (by kernel_rfl))) hJ
          · cases ho
            exact .quiet (exec_move 9 _ rfl (hk 9 (by kernel_rfl))) hJ
          · cases ho
            have h41 : A0.tmps[41]?.getD undef = .slice (some ad) n c := hin 6 41 (by kernel_rfl)
            have h42 : A0.tmps[42]?.getD undef = .int .i64 i := hin 7 42 (by kernel_rfl)
            exact .quiet (by simp [go_sem, h41, h42, q0, q1, hin]) hJ
          · cases ho
            have h43 : A0.tmps[43]?.getD undef = .pointer (some (ad.add (i * 3))) := hin 8 43 (by kernel_rfl)
            rw [HJ] at hJ
            obtain rfl := hJ.2 (hμ (.inr (by kernel_rfl)))
            exact .quiet (exec_load 43 _ rfl stRow (ad.add (i * 3)) cs h43 Hcl.out Hat.out) (by rw [HJ]; exact hJ)
          · cases ho
            have h4 : A0.tmps[4]?.getD undef = .pointer (some ⟨bx, 0, none⟩) := hk 4 (by kernel_rfl)
            rw [HJ] at hJ
            obtain rfl := hJ.2 (hμ (.inr (by kernel_rfl)))
            exact .quiet (exec_load 4 _ rfl stRow ⟨bx, 0, none⟩ [.string r.name, .slice X1 r.args.length xd, .int .i64 r.stamp] h4 rfl Hbt.out) (by rw [HJ]; exact hJ)
          · cases ho
            have h40 : A0.tmps[40]?.getD undef = .func (.func 58) #[] #[] := hin 5 40 (by kernel_rfl)
            have h44 : A0.tmps[44]?.getD undef = .agg cs.toArray := hin 9 44 (by kernel_rfl)
            have h45 : A0.tmps[45]?.getD undef = .agg #[.string r.name, .slice X1 r.args.length xd, .int .i64 r.stamp] := hin 10 45 (by kernel_rfl)
            rw [HJ] at hJ ⊢
            obtain rfl := hJ.2 (hμ (.inl rfl))
            refine .enter (f := 58) (args := #[.agg cs.toArray, .agg #[.string r.name, .slice X1 r.args.length xd, .int .i64 r.stamp]]) (v := .int .i64 q) ?_ (Hcall.out.mono ?_)
            · simp [go_sem, h40, h44, h45, eg]
            · rintro e w' ⟨rfl, hc⟩
              exact ⟨rfl, ⟨hJ.1.trans hc (fun _ _ x => x), fun h => by cases d <;> simp at h⟩, rfl⟩
          · cases ho
            have h46 : A0.tmps[46]?.getD undef = .int .i64 q := hin 11 46 (by kernel_rfl)
            exact .quiet (by simp [go_sem, h46, hb2]) hJ
          · cases ho
            have h39 : A0.tmps[39]?.getD undef = .bool true := hin 4 39 (by kernel_rfl)
            have h47 : A0.tmps[47]?.getD undef = .bool b := hin 12 47 (by kernel_rfl)
            exact .quiet (by simp [go_sem, h39, h47]) hJ
          · cases ho
            have h35 : A0.tmps[35]?.getD undef = .int .i64 i := hin 0 35 (by kernel_rfl)
            exact .quiet (by simp [go_sem, h35]) hJ
        simp only [putsL, Act.put, List.setIfInBounds_toArray, List.set_cons_succ, List.set_cons_zero]
        refine AtN.list 15 16 (by kernel_rfl) ?_
        change wpList _ _ _ [_] _ _
        have hJ1 : New w1 W3 := by
          have := hJ
          rw [HJ] at this
          exact this.1
        have HJ1 := Lib.hid hJ1
        clear hJ1 hJ HJ
        go_wp2_with fail
        change AtN _ _ _ 16 _ _
        refine AtN.done rfl ?_
        go_wp2_with fail
        go_ret2
        exact ⟨i, by rw [HFin.out]; rfl, HBin.out, HN1.out.trans HJ1.out (fun _ _ x => x)⟩
      · have q2 : decide ((i : Int) < (n : Int)) = false := decide_eq_false (by omega)
        have hfin : hitR rs r i = false := by unfold hitR; rw [List.getElem?_eq_none (by rw [← HN.out]; omega)]
        have HFin := Lib.hid hfin
        clear hfin hlt
        go_upto_region 8 with fail
        go_quiet (fail)
        go_wp2_with fail
        go_ret2
        exact ⟨i, by rw [HFin.out]; rfl, HBin.out, (HN1.out.trans HNw.out (fun _ _ x => x)).drewN _⟩
end Go.Proofs.Ytenkobgeflckdaa

set_option linter.unusedVariables false
set_option linter.unusedSimpArgs false
namespace Go.Proofs.Ytenkobgeflckdaa
open Go.RowKit Go.Shelf

set_option maxHeartbeats 4000000 in
set_option maxRecDepth 100000 in
theorem place_rows (w : World) (A : Option Addr) (n c : Nat) (css : List (List Value)) (rs : List Rw) (hn : n = rs.length) (hnb : n ≤ 1000000) (hA : SrcAt w A 3 css) (hra : RowsCs w css rs) (xc : List Value) (r : Rw) (hx : RowAt w xc r) :
    Calls Try.prog 75 #[.slice A n c, .agg xc.toArray] w (BsPost w rs r) := by
  obtain ⟨w1, hw1⟩ : ∃ w1, w1 = w.alloc (.cells xc.toArray 58) := ⟨_, rfl⟩
  have hN1 : New w w1 := by rw [hw1]; exact (Chg.refl _ _).alloc _
  have hbs := bs_rows w1 A n c css rs hn hnb (hA.chg hN1 (fun _ _ x => x)) (hra.chg hN1) xc r (hx.chg hN1)
  obtain ⟨X1, xd, rfl, _⟩ := hx
  have Hbs := Lib.hid hbs
  have HN1 := Lib.hid hN1
  have HW1 := Lib.hid hw1
  clear hbs hN1 hA hra hn hw1
  go_enter Try.func75, Try.ntmps75
  go_wp2_with fail
  rw [← HW1.out]
  refine Hbs.out.mono ?_
  rintro e w' ⟨i, rfl, hb, hc⟩
  have HBn := Lib.hid hb
  have HNn := Lib.hid (HN1.out.trans hc (fun _ _ x => x))
  clear hb hc Hbs HN1 HW1
  obtain ⟨f, hf⟩ : ∃ f, hitR rs r i = f := ⟨_, rfl⟩
  rw [hf]
  have Hf := Lib.hid hf
  clear hf
  go_wp2_with fail
  go_ret2
  exact ⟨i, by rw [Hf.out]; rfl, HBn.out, HNn.out⟩
end Go.Proofs.Ytenkobgeflckdaa

set_option linter.unusedVariables false
set_option linter.unusedSimpArgs false
namespace Go.Proofs.Ytenkobgeflckdaa
open Go.RowKit Go.Shelf

/-- Is a row wanting in others, or there with a lesser stamp? -/
def misB (ss : List Rw) (st : Bool) (r : Rw) : Bool := !(ss.any fun s => decide (cmpR s r = 0)) || (st && ss.any fun s => decide (cmpR s r = 0) && decide (s.stamp < r.stamp))
theorem mis_hit {ss : List Rw} {r : Rw} {i : Nat} (hs : ss.Pairwise (fun a b => cmpR a b < 0)) (hb : Bin (fun p => ∃ s, ss[p]? = some s ∧ cmpR s r < 0) (fun p => ∃ s, ss[p]? = some s ∧ Le cmpR r s) 0 ss.length i i) {p : Nat} {s : Rw} (hp : ss[p]? = some s) (he : cmpR s r = 0) : p = i := by
  have hlt : ∀ a b x y, a < b → ss[a]? = some x → ss[b]? = some y → cmpR x y < 0 := fun a b x y hab hx hy => by
    obtain ⟨h1, rfl⟩ := List.getElem?_eq_some_iff.1 hx
    obtain ⟨h2, rfl⟩ := List.getElem?_eq_some_iff.1 hy
    exact List.pairwise_iff_getElem.1 hs a b h1 h2 hab
  rcases Nat.lt_trichotomy p i with h | h | h
  · exfalso
    obtain ⟨z, hz, hc⟩ := hb.l.resolve_left (by omega)
    by_cases hpi : p = i - 1
    · rw [hpi, hz] at hp
      cases hp
      omega
    · have h1 := hlt p (i - 1) s z (by omega) hp hz
      have a1 := tri_row.anti s z
      have a2 := tri_row.anti z r
      have a3 := tri_row.anti s r
      have := tri_row.trans r s z (by omega) (by omega)
      have a4 := tri_row.anti z r
      omega
  · exact h
  · exfalso
    have hpl := (List.getElem?_eq_some_iff.1 hp).1
    obtain ⟨z, hz, hc⟩ := hb.r.resolve_left (by omega)
    have h1 := hlt i p z s h hz hp
    have h2 : ¬ cmpR z r < 0 := hc
    have a1 := tri_row.anti z s
    have a2 := tri_row.anti z r
    have a3 := tri_row.anti s r
    have := tri_row.trans r z s
    have := tri_row.trans s r z
    omega
theorem mis_of {ss : List Rw} {st : Bool} {r : Rw} {i : Nat} (hs : ss.Pairwise (fun a b => cmpR a b < 0)) (hb : Bin (fun p => ∃ s, ss[p]? = some s ∧ cmpR s r < 0) (fun p => ∃ s, ss[p]? = some s ∧ Le cmpR r s) 0 ss.length i i) :
    (hitR ss r i = false → misB ss st r = true) ∧ (hitR ss r i = true → ∃ s, ss[i]? = some s ∧ misB ss st r = (st && decide (s.stamp < r.stamp))) := by
  constructor
  · intro h
    unfold misB
    have : (ss.any fun s => decide (cmpR s r = 0)) = false := by
      rw [List.any_eq_false]
      intro s hm
      obtain ⟨p, hp, rfl⟩ := List.getElem_of_mem hm
      intro he
      have he' := of_decide_eq_true he
      have hpi := mis_hit hs hb (List.getElem?_eq_getElem hp) he'
      subst hpi
      unfold hitR at h
      rw [List.getElem?_eq_getElem hp] at h
      simp only [he', decide_true] at h
      cases h
    rw [this]; rfl
  · intro h
    unfold hitR at h
    cases hz : ss[i]? with
    | none => rw [hz] at h; cases h
    | some s =>
      rw [hz] at h
      have he := of_decide_eq_true h
      refine ⟨s, rfl, ?_⟩
      unfold misB
      have h1 : (ss.any fun s => decide (cmpR s r = 0)) = true := List.any_eq_true.2 ⟨s, List.mem_of_getElem? hz, decide_eq_true he⟩
      have h2 : (ss.any fun s => decide (cmpR s r = 0) && decide (s.stamp < r.stamp)) = decide (s.stamp < r.stamp) := by
        rw [Bool.eq_iff_iff, List.any_eq_true]
        constructor
        · rintro ⟨z, hm, hzz⟩
          obtain ⟨p, hp, rfl⟩ := List.getElem_of_mem hm
          simp only [Bool.and_eq_true, decide_eq_true_eq] at hzz ⊢
          have hpi := mis_hit hs hb (List.getElem?_eq_getElem hp) hzz.1
          subst hpi
          rw [List.getElem?_eq_getElem hp] at hz
          rw [← Option.some.inj hz]
          exact hzz.2
        · intro hd
          exact ⟨s, List.mem_of_getElem? hz, by rw [decide_eq_true he, hd]; rfl⟩
      rw [h1, h2]; simp
theorem RowsCs.snoc {w : World} {css : List (List Value)} {rs : List Rw} {cs : List Value} {r : Rw} (h : RowsCs w css rs) (hr : RowAt w cs r) : RowsCs w (css ++ [cs]) (rs ++ [r]) := by
  refine ⟨by simp [h.1], fun i c hi => ?_⟩
  by_cases hl : i < css.length
  · rw [List.getElem?_append_left hl] at hi
    obtain ⟨r', h1, h2⟩ := h.2 i c hi
    exact ⟨r', by rw [List.getElem?_append_left (by rw [← h.1]; exact hl)]; exact h1, h2⟩
  · rw [List.getElem?_append_right (by omega)] at hi
    have hz : i = css.length := by
      have := (List.getElem?_eq_some_iff.1 hi).1
      simp at this
      omega
    subst hz
    rw [Nat.sub_self] at hi
    obtain rfl : cs = c := by simpa using hi
    exact ⟨r, by rw [List.getElem?_append_right (by rw [h.1]; exact Nat.le_refl _), h.1, Nat.sub_self]; rfl, hr⟩

/-- What delta.missing leaves. -/
def MisPost (w : World) (out : List Rw) (e : Ending) (w' : World) : Prop := ∃ v cso, e = .returned v ∧ Own w' w.heap.size 58 3 v cso ∧ RowsCs w cso out ∧ New w w'

set_option maxHeartbeats 4000000 in
set_option maxRecDepth 100000 in
theorem missing_rows (w : World) (A : Option Addr) (n c : Nat) (css : List (List Value)) (rs : List Rw) (hn : n = rs.length) (hnb : n ≤ 1000) (hA : SrcAt w A 3 css) (hra : RowsCs w css rs) (B : Option Addr) (m d : Nat) (dss : List (List Value)) (ss : List Rw) (hm : m = ss.length) (hmb : m ≤ 1000) (hB : SrcAt w B 3 dss) (hrb : RowsCs w dss ss) (hsd : ss.Pairwise (fun a b => cmpR a b < 0)) (st : Bool) :
    Calls Try.prog 54 #[.slice A n c, .slice B m d, .bool st] w (MisPost w (rs.filter (misB ss st))) := by
  have HA := Lib.hid hA
  have HB := Lib.hid hB
  have HN := Lib.hid hn
  have HM := Lib.hid hm
  have HRa := Lib.hid hra
  have HRb := Lib.hid hrb
  have HSd := Lib.hid hsd
  clear hA hB hn hm hra hrb hsd
  go_enter Try.func54, Try.ntmps54
  go_wp2_with fail
  go_loopw [6, 13] (fun u6 u13 wr => ∃ (k : Nat) (cso : List (List Value)), k ≤ n ∧ u13 = .int .i64 k ∧ cso.length ≤ k ∧ Own wr w.heap.size 58 3 u6 cso ∧ RowsCs w cso ((rs.take k).filter (misB ss st)) ∧ New w wr) (fun _ u _ => n - (intOf u).toNat)
  case atStart => exact ⟨0, [], Nat.zero_le _, rfl, Nat.le_refl _, Own.nil _ _ _ _, ⟨rfl, fun i cs h => by simp at h⟩, Chg.refl _ _⟩
  case round =>
    obtain ⟨k, cso, hkn, rfl, hcl, ho, hro, hN⟩ := hrel
    have HO := Lib.hid ho
    have HRo := Lib.hid hro
    have HNw := Lib.hid hN
    clear ho hro hN
    by_cases hlt : k < n
    · obtain ⟨cs, hcs⟩ : ∃ cs, css[k]? = some cs := ⟨_, List.getElem?_eq_getElem (by rw [HRa.out.1, ← HN.out]; exact hlt)⟩
      obtain ⟨r, hr1, hrow⟩ := HRa.out.2 k cs hcs
      obtain ⟨ad, rfl, hrA⟩ := HA.out (by rw [HRa.out.1, ← HN.out]; omega)
      have hat := (hrA k cs hcs).2.chg HNw.out id
      have Hrow := Lib.hid hrow
      obtain ⟨X1, xd, hxc, _⟩ := hrow
      subst hxc
      obtain ⟨w1, hw1⟩ : ∃ w1, w1 = wr.alloc (.cells #[.string r.name, .slice X1 r.args.length xd, .int .i64 r.stamp] 58) := ⟨_, rfl⟩
      have hN1 : New wr w1 := by rw [hw1]; exact (Chg.refl _ _).alloc _
      have hB1 : Blk w1 wr.heap.size 58 #[.string r.name, .slice X1 r.args.length xd, .int .i64 r.stamp] := by rw [hw1]; exact Blk.new wr _ _
      have hNw1 := HNw.out.trans hN1 (fun _ _ x => x)
      have hpl := place_rows w1 B m d dss ss HM.out (by omega) (HB.out.chg hNw1 (fun _ _ x => x)) (HRb.out.chg hNw1) _ r (Hrow.out.chg hNw1)
      have Hpl := Lib.hid hpl
      have Hat := Lib.hid hat
      have Hr1 := Lib.hid hr1
      have HB1 := Lib.hid hB1
      have HW1 := Lib.hid hw1
      have HN1 := Lib.hid hNw1
      have HO1 := Lib.hid (HO.out.chg hN1 (fun _ _ x => x))
      have Htk := Lib.hid (show (rs.take (k + 1)).filter (misB ss st) = (rs.take k).filter (misB ss st) ++ [r].filter (misB ss st) by rw [take_succ_get hr1, List.filter_append])
      clear hat hcs hr1 hrA hw1 hN1 hB1 hNw1 hpl
      have k0 : (0 : Int) ≤ (k : Int) := by omega
      have k1 : (k : Int) < (n : Int) := by omega
      go_upto_region 4 with ((with_reducible refine wpl_load rfl (.tmp 15) 58 rfl stRow (ad.add (k * 3)) [.string r.name, .slice X1 r.args.length xd, .int .i64 r.stamp] ?_ rfl Hat.out ?_); exact rfl)
      rw [← HW1.out]
      generalize wr.heap.size = bx at HB1 ⊢
      have Hbt := Lib.hid (show At w1 ⟨bx, 0, none⟩ [.string r.name, .slice X1 r.args.length xd, .int .i64 r.stamp] from HB1.out.at_)
      go_wp2_with ((with_reducible refine wpl_load rfl (.tmp 8) 58 rfl stRow ⟨bx, 0, none⟩ [.string r.name, .slice X1 r.args.length xd, .int .i64 r.stamp] ?_ rfl Hbt.out ?_); exact rfl)
      refine Hpl.out.mono ?_
      rintro e w2 ⟨i, rfl, hbin, hN2⟩
      have hmis := mis_of (st := st) HSd.out hbin
      obtain ⟨f, hf⟩ : ∃ f, hitR ss r i = f := ⟨_, rfl⟩
      rw [hf] at hmis ⊢
      have HNa := Lib.hid (HN1.out.trans hN2 (fun _ _ x => x))
      have HOa := Lib.hid (HO1.out.chg hN2 (fun _ _ x => x))
      have HBa := Lib.hid (HB1.out.chg hN2 id)
      have Hmis := Lib.hid hmis
      clear hmis hf hbin hN2 HO1 HN1 HW1 Hbt Hpl HB1 HO HNw Hat
      obtain ⟨g, hg⟩ : ∃ g, misB ss st r = g := ⟨_, rfl⟩
      have Hg := Lib.hid hg
      clear hg
      go_upto_region 5 with fail
      go_cut [37] from 23 to 37 (fun c wx => c = .bool g ∧ New w2 wx)
      case first =>
        have hg := Hg.out
        cases f with
        | false =>
          obtain rfl : g = true := by rw [← hg]; exact Hmis.out.1 rfl
          clear hg
          go_quiet (fail)
          go_wp2_with fail
          go_meet
          exact ⟨rfl, (Chg.refl _ _).drewN _⟩
        | true =>
          obtain ⟨s, hs, he⟩ := Hmis.out.2 rfl
          rw [hg] at he
          cases st with
          | false =>
            obtain rfl : g = false := by rw [he]; rfl
            clear hg hs he
            go_quiet (fail)
            go_wp2_with fail
            go_meet
            exact ⟨rfl, (Chg.refl _ _).drewN _⟩
          | true =>
            rw [Bool.true_and] at he
            have him : i < m := by rw [HM.out]; exact (List.getElem?_eq_some_iff.1 hs).1
            obtain ⟨ds, hds⟩ : ∃ ds, dss[i]? = some ds := ⟨_, List.getElem?_eq_getElem (by rw [HRb.out.1, ← HM.out]; exact him)⟩
            obtain ⟨s2, hs2, hrow2⟩ := HRb.out.2 i ds hds
            obtain rfl : s = s2 := by rw [hs] at hs2; exact Option.some.inj hs2
            obtain ⟨bd, rfl, hrB⟩ := HB.out (by rw [HRb.out.1, ← HM.out]; omega)
            have hbt := (hrB i ds hds).2.chg HNa.out id
            obtain ⟨X2, xd2, rfl, _⟩ := hrow2
            have y2 := hbt 2 _ rfl
            rw [add_add, add_succ] at y2
            have e2 := HBa.out.cell 2
            simp only [List.getElem?_toArray, List.getElem?_cons_zero, List.getElem?_cons_succ] at e2
            have hBb : (bd.add (i * 3)).block = bd.block := add_block _ _
            have hBp : (bd.add (i * 3)).off + 2 = bd.off + (i * 3 + 1 + 1) := by rw [add_offs]; omega
            have q0 : (0 : Int) ≤ (i : Int) := by omega
            have q1 : (i : Int) < (m : Int) := by omega
            have hdg : decide (s.stamp < r.stamp) = g := he.symm
            clear hg hs he hds hs2 hrB hbt
            go_quiet (fail)
            go_wp2_with fail
            go_meet
            exact ⟨rfl, (Chg.refl _ _).drewN _⟩
      case rest =>
        obtain ⟨rfl, hN3⟩ := hcut
        have HN3 := Lib.hid (HNa.out.trans hN3 (fun _ _ x => x))
        have HO3 := Lib.hid (HOa.out.chg hN3 (fun _ _ x => x))
        have Hbt := Lib.hid (show At wc ⟨bx, 0, none⟩ [.string r.name, .slice X1 r.args.length xd, .int .i64 r.stamp] from (HBa.out.chg hN3 id).at_)
        clear hN3 HNa HOa HBa Hmis
        cases g with
        | false =>
          have HR2 := Lib.hid (show RowsCs w cso ((rs.take (k + 1)).filter (misB ss st)) by
            rw [Htk.out, List.filter_cons, Hg.out]
            simp only [Bool.false_eq_true, if_false, List.filter_nil, List.append_nil]
            exact HRo.out)
          go_wp2_with fail
          go_roundw
          case rel => exact ⟨k + 1, cso, by omega, by go_num, by omega, HO3.out, HR2.out, HN3.out⟩
          case measure => simp only [intOf]; omega
        | true =>
          have HR2 := Lib.hid (show RowsCs w (cso ++ [[.string r.name, .slice X1 r.args.length xd, .int .i64 r.stamp]]) ((rs.take (k + 1)).filter (misB ss st)) by
            rw [Htk.out, List.filter_cons, Hg.out]
            simp only [if_true, List.filter_nil]
            exact HRo.out.snoc Hrow.out)
          have hN4 : New wc (wc.alloc (.cells #[.string r.name, .slice X1 r.args.length xd, .int .i64 r.stamp] 58)) := (Chg.refl _ _).alloc _
          have hB4 : Blk (wc.alloc (.cells #[.string r.name, .slice X1 r.args.length xd, .int .i64 r.stamp] 58)) wc.heap.size 58 ([[.string r.name, .slice X1 r.args.length xd, .int .i64 r.stamp]].flatten).toArray := Blk.new wc _ _
          obtain ⟨v', W', hrun, hown, hchg, hblk⟩ := elRow.appendS (HO3.out.chg hN4 (fun _ _ x => x)) (HN3.out.trans hN4 (fun _ _ x => x)).size (some ⟨wc.heap.size, 0, none⟩) 1 1 [[.string r.name, .slice X1 r.args.length xd, .int .i64 r.stamp]] rfl (fun cs hc => by simp only [List.mem_cons, List.not_mem_nil, or_false] at hc; subst hc; rfl) (fun cs hc => by simp only [List.mem_cons, List.not_mem_nil, or_false] at hc; subst hc; exact Hrow.out.cs.2) (fun _ => ⟨_, rfl, fun j cs hj => by
            match j, hj with
            | 0, hj => cases hj; exact ⟨rfl, by rw [Nat.zero_mul]; exact (show Blk _ _ _ [.string r.name, .slice X1 r.args.length xd, .int .i64 r.stamp].toArray from hB4).at_⟩
            | j + 1, hj => simp at hj⟩) (by omega) (by unfold maxLen; omega) 50
          have HN5 := Lib.hid ((HN3.out.trans hN4 (fun _ _ x => x)).trans hchg (fun q hq h => absurd ((HO3.out.lt h).1) (by omega)))
          have HO5 := Lib.hid hown
          have Hrun := Lib.hid hrun
          clear hN4 hB4 hrun hown hchg hblk
          go_wp2_with (first | ((with_reducible refine wpl_load rfl (.tmp 8) 58 rfl stRow ⟨bx, 0, none⟩ [.string r.name, .slice X1 r.args.length xd, .int .i64 r.stamp] ?_ rfl Hbt.out ?_); exact rfl) | ((with_reducible refine wpl_append rfl (.tmp 38) (.tmp 40) 50 50 rfl ?_ ?_ Hrun.out ?_); exact rfl; exact rfl))
          go_roundw
          case rel => exact ⟨k + 1, _, by omega, by go_num, by simp; omega, HO5.out, HR2.out, HN5.out⟩
          case measure => simp only [intOf]; omega
    · have HF := Lib.hid (show RowsCs w cso (rs.filter (misB ss st)) by have := HRo.out; rw [List.take_of_length_le (by rw [← HN.out]; omega)] at this; exact this)
      go_wp2_with fail
      go_ret
      exact ⟨_, cso, rfl, HO.out, HF.out, HNw.out⟩
end Go.Proofs.Ytenkobgeflckdaa

set_option linter.unusedVariables false
set_option linter.unusedSimpArgs false
namespace Go.Proofs.Ytenkobgeflckdaa
open Go.RowKit Go.Shelf

theorem OwnTab.cs {W : World} {B g m : Nat} {css : List (List Value)} {rest : List Value} {out : List Rw} {vs : List Value} (h : OwnTab W B g m css rest out vs) (hv : vs.length = m) (ho : out.length = m) : RowsCs W css out := by
  refine ⟨by rw [h.tab.len, ho], fun i cs hi => ?_⟩
  have hl := (List.getElem?_eq_some_iff.1 hi).1
  rw [h.tab.len] at hl
  obtain ⟨cs', r, h1, h2, h3⟩ := h.own i vs[i] (List.getElem?_eq_getElem (by omega))
  rw [hi] at h1
  cases h1
  exact ⟨r, h2, h3.row⟩
theorem OwnTab.src {W : World} {B g m : Nat} {css : List (List Value)} {rest : List Value} {out : List Rw} {vs : List Value} (h : OwnTab W B g m css rest out vs) : SrcAt W (some ⟨g, 0, none⟩) 3 css := fun _ => ⟨_, rfl, fun i cs hi => by
  refine ⟨h.tab.k3 cs (List.mem_of_getElem? hi), ?_⟩
  rw [Addr.add_lit, Nat.zero_add]
  exact h.tab.get hi⟩
/-- What a merge leaves, as rows of a slice. -/
theorem MergePost.rows {w w' : World} {rs : List Rw} {e : Ending} (h : MergePost w rs e w') : ∃ A c css out, e = .returned (.slice A out.length c) ∧ IsMerge rs out ∧ New w w' ∧ out.length ≤ c ∧ c ≤ maxLen ∧ SrcAt w' A 3 css ∧ RowsCs w' css out ∧ ∀ a, A = some a → a.block < w'.heap.size := by
  obtain ⟨out, h1, h2, h3⟩ := h
  rcases h3 with ⟨h3, h4⟩ | ⟨g, c, css, rest, vs, B, h3, h4, h5, h6, h7, h8⟩
  · subst h3
    exact ⟨none, 0, [], [], h4, h1, h2, Nat.le_refl _, Nat.zero_le _, fun h => absurd h (by simp), ⟨rfl, fun i cs h => by simp at h⟩, fun a h => by cases h⟩
  · exact ⟨_, c, css, out, h3, h1, h2, h4, h5, h8.src, h8.cs h7 rfl, fun a ha => by cases ha; exact h8.tab.blk.lt⟩
theorem merge_len {rs out : List Rw} (h : IsMerge rs out) : ∀ (k : Nat), rs.length ≤ k → out.length ≤ k := by
  have hnd : out.Nodup := h.up.imp (fun {a b} h e => by rw [e, tri_row.refl] at h; omega)
  have key : ∀ (l m : List Rw), l.Nodup → (∀ x ∈ l, x ∈ m) → l.length ≤ m.length := by
    intro l
    induction l with
    | nil => intro m _ _; exact Nat.zero_le _
    | cons x l ih =>
      intro m hn hs
      have hxm := hs x (by simp)
      have hn2 := List.nodup_cons.1 hn
      have := ih (m.erase x) hn2.2 (fun y hy => (List.mem_erase_of_ne (show y ≠ x by rintro rfl; exact hn2.1 hy)).2 (hs y (by simp [hy])))
      rw [List.length_erase_of_mem hxm] at this
      have hpos : 0 < m.length := List.length_pos_of_mem hxm
      simp only [List.length_cons]
      omega
  exact fun k hk => Nat.le_trans (key out rs hnd h.sub) hk

/-- What delta.Diff gives: of the merged ones those that are wanting in the others. -/
def DiffPost (w : World) (old now : List Rw) (e : Ending) (w' : World) : Prop :=
  ∃ a b v1 v2 cs1 cs2, IsMerge old a ∧ IsMerge now b ∧ e = .returned (.tuple #[v1, v2]) ∧ Own w' w.heap.size 58 3 v1 cs1 ∧ Own w' w.heap.size 58 3 v2 cs2 ∧ RowsCs w' cs1 (b.filter (misB a true)) ∧ RowsCs w' cs2 (a.filter (misB b false)) ∧ New w w'

set_option maxHeartbeats 4000000 in
set_option maxRecDepth 100000 in
theorem diff_rows (w : World) (v1 v2 : Value) (old now : List Rw) (h1 : RowSl w v1 old) (h2 : RowSl w v2 now) :
    Calls Try.prog 35 #[v1, v2] w (DiffPost w old now) := by
  obtain ⟨A, c, css, rfl, a1, a2, a3, a4, a5, a6⟩ := h1
  have Hm1 := Lib.hid (merge_rows w A c css old a1 a2 a3 a4 a5 a6)
  have H2 := Lib.hid h2
  obtain ⟨B, d, dss, rfl, b1, _⟩ := h2
  clear a2 a3 a4 a5 a6
  go_enter Try.func35, Try.ntmps35
  go_wp2_with fail
  refine Hm1.out.mono ?_
  intro e w1 hp
  obtain ⟨Aa, ca, ass, a, rfl, ha1, hN1, ha2, ha3, ha4, ha5, ha6⟩ := hp.rows
  have hal := merge_len ha1 1000 a1
  obtain ⟨B', d', dss', hBv, b1', b2, b3, b4, b5, b6⟩ := H2.out.chg hN1
  simp only [Value.slice.injEq, true_and] at hBv
  obtain ⟨rfl, rfl⟩ := hBv
  have Hm2 := Lib.hid (merge_rows w1 B d dss' now b1 b2 b3 b4 b5 b6)
  have Ha1 := Lib.hid ha1
  have Ha4 := Lib.hid ha4
  have Ha5 := Lib.hid ha5
  have HN1 := Lib.hid hN1
  clear ha1 ha4 ha5 hN1 b2 b3 b4 b5 b6 hp Hm1 H2
  go_wp2_with fail
  refine Hm2.out.mono ?_
  intro e w2 hp
  obtain ⟨Bb, cb, bss, b, rfl, hb1, hN2, hb2, hb3, hb4, hb5, hb6⟩ := hp.rows
  have hbl := merge_len hb1 1000 b1
  have Hb1 := Lib.hid hb1
  have HA4 := Lib.hid (Ha4.out.chg hN2 (fun _ _ x => x))
  have HA5 := Lib.hid (Ha5.out.chg hN2)
  have HB4 := Lib.hid hb4
  have HB5 := Lib.hid hb5
  have HN2 := Lib.hid (HN1.out.trans hN2 (fun _ _ x => x))
  have Hmi1 := Lib.hid (missing_rows w2 Bb b.length cb bss b rfl hbl hb4 hb5 Aa a.length ca ass a rfl hal HA4.out HA5.out Ha1.out.up true)
  clear hb1 hN2 hb4 hb5 hp Hm2 Ha4 Ha5 HN1
  go_wp2_with fail
  refine Hmi1.out.mono ?_
  rintro e w3 ⟨v1, cs1, rfl, ho1, hr1, hN3⟩
  have Hmi2 := Lib.hid (missing_rows w3 Aa a.length ca ass a rfl hal (HA4.out.chg hN3 (fun _ _ x => x)) (HA5.out.chg hN3) Bb b.length cb bss b rfl hbl (HB4.out.chg hN3 (fun _ _ x => x)) (HB5.out.chg hN3) Hb1.out.up false)
  have Ho1 := Lib.hid ho1
  have Hr1 := Lib.hid (hr1.chg hN3)
  have HN3 := Lib.hid hN3
  clear ho1 hr1 hN3 Hmi1
  go_wp2_with fail
  refine Hmi2.out.mono ?_
  rintro e w4 ⟨v2, cs2, rfl, ho2, hr2, hN4⟩
  have Ho2 := Lib.hid ho2
  have Hr2 := Lib.hid (hr2.chg hN4)
  have HN4 := Lib.hid hN4
  clear ho2 hr2 hN4 Hmi2
  go_wp2_with fail
  go_ret2
  exact ⟨a, b, v1, v2, cs1, cs2, Ha1.out, Hb1.out, rfl, (Ho1.out.chg HN4.out (fun _ _ x => x)).base HN2.out.size, Ho2.out.base (Nat.le_trans HN2.out.size HN3.out.size), Hr1.out.chg HN4.out, Hr2.out, (HN2.out.trans HN3.out (fun _ _ x => x)).trans HN4.out (fun _ _ x => x)⟩
end Go.Proofs.Ytenkobgeflckdaa

set_option linter.unusedVariables false
namespace Go.Proofs.Ytenkobgeflckdaa

theorem misB_iff {ss : List Rw} {st : Bool} {r : Rw} : misB ss st r = true ↔ (∀ s ∈ ss, cmpR s r ≠ 0) ∨ (st = true ∧ ∃ s ∈ ss, cmpR s r = 0 ∧ s.stamp < r.stamp) := by
  unfold misB
  rw [Bool.or_eq_true, Bool.and_eq_true]
  constructor
  · rintro (h | ⟨h1, h2⟩)
    · refine .inl fun s hs => ?_
      rw [Bool.not_eq_true', List.any_eq_false] at h
      simpa using h s hs
    · obtain ⟨s, hs, h⟩ := List.any_eq_true.1 h2
      simp only [Bool.and_eq_true, decide_eq_true_eq] at h
      exact .inr ⟨h1, s, hs, h.1, h.2⟩
  · rintro (h | ⟨h1, s, hs, h2, h3⟩)
    · refine .inl ?_
      rw [Bool.not_eq_true', List.any_eq_false]
      intro s hs
      simpa using h s hs
    · exact .inr ⟨h1, List.any_eq_true.2 ⟨s, hs, by simp [h2, h3]⟩⟩
theorem IsMerge.trans {rs m b : List Rw} (h : IsMerge rs m) (h' : IsMerge m b) : IsMerge rs b := ⟨h'.up, fun r hr => h.sub r (h'.sub r hr), fun r hr => by
  obtain ⟨s, hs, e1, l1⟩ := h.all r hr
  obtain ⟨t, ht, e2, l2⟩ := h'.all s hs
  exact ⟨t, ht, eq_trans' e2 e1, by omega⟩⟩
theorem diff_same {rs a b : List Rw} (ha : IsMerge rs a) (hb : IsMerge rs b) (st : Bool) : b.filter (misB a st) = [] := by
  rw [List.filter_eq_nil_iff]
  intro r hr hm
  obtain ⟨s, hs, e, l⟩ := ha.all r (hb.sub r hr)
  rcases misB_iff.1 hm with h | ⟨_, t, ht, e2, l2⟩
  · exact h s hs e
  · have : cmpR r t = 0 := by have := tri_row.anti t r; omega
    have := up_uniq ha.up hs ht (eq_trans' e this)
    subst this
    omega
theorem merge_nil {a : List Rw} (h : IsMerge [] a) : a = [] := by
  cases a with
  | nil => rfl
  | cons x a => have := h.sub x (by simp); cases this
theorem diff_nil (b : List Rw) (st : Bool) : b.filter (misB [] st) = b := by
  rw [List.filter_eq_self]
  intro r _
  exact misB_iff.2 (.inl (by simp))

/-- What DeltaDiffs asks of one row of x. -/
def ddOk (gone y o : List Rw) (r : Rw) : Prop := (0 ≤ findS gone r ∧ findS y r < 0) ∨ (findS gone r < 0 ∧ 0 ≤ findS y r ∧ findS y r ≤ r.stamp ∧ r.stamp = (if findS y r < findS o r then findS o r else findS y r))
theorem dd_all {old now A B x o y : List Rw} (hc : ∀ r ∈ old, canonR r) (hc2 : ∀ r ∈ now, canonR r) (h0 : ∀ r ∈ old, 0 ≤ r.stamp) (h1 : ∀ r ∈ now, 0 ≤ r.stamp)
    (hA : IsMerge old A) (hB : IsMerge now B) (hy : IsMerge now y) (ho : IsMerge old o) (hx : IsMerge (old ++ B.filter (misB A true)) x) :
    (∀ r ∈ x, ddOk (A.filter (misB B false)) y o r) ∧ (x.filter (fun r => decide (findS (A.filter (misB B false)) r < 0))).length = y.length := by
  obtain rfl := merge_uniq hc2 hB hy
  obtain rfl := merge_uniq hc hA ho
  have hgu : (A.filter (misB B false)).Pairwise (fun x y => cmpR x y < 0) := hA.up.filter _
  have hgone : ∀ g, g ∈ A.filter (misB B false) ↔ g ∈ A ∧ ∀ s ∈ B, cmpR s g ≠ 0 := fun g => by
    rw [List.mem_filter, misB_iff]
    simp
  have hcame : ∀ g, g ∈ B.filter (misB A true) ↔ g ∈ B ∧ ((∀ s ∈ A, cmpR s g ≠ 0) ∨ ∃ s ∈ A, cmpR s g = 0 ∧ s.stamp < g.stamp) := fun g => by
    rw [List.mem_filter, misB_iff]
    simp
  have sym : ∀ {a b : Rw}, cmpR a b = 0 → cmpR b a = 0 := fun {a b} h => by have := tri_row.anti a b; omega
  -- where a row of x comes from
  have hxm : ∀ r ∈ x, r ∈ old ∨ r ∈ B.filter (misB A true) := fun r hr => List.mem_append.1 (hx.sub r hr)
  have hg0 : ∀ g ∈ A.filter (misB B false), 0 ≤ g.stamp := fun g hg => h0 g (hA.sub g ((hgone g).1 hg).1)
  have hB0 : ∀ g ∈ B, 0 ≤ g.stamp := fun g hg => h1 g (hB.sub g hg)
  have hbig : ∀ r ∈ x, ∀ t, (t ∈ old ∨ t ∈ B.filter (misB A true)) → cmpR t r = 0 → t.stamp ≤ r.stamp := fun r hr t ht e => by
    obtain ⟨u, hu, e1, l1⟩ := hx.all t (List.mem_append.2 ht)
    have := up_uniq hx.up hu hr (eq_trans' e1 e)
    subst this
    exact l1
  have hin : ∀ r ∈ x, (∀ g ∈ A.filter (misB B false), cmpR g r ≠ 0) → ∃ s ∈ B, cmpR s r = 0 := fun r hr hg => by
    rcases hxm r hr with h | h
    · obtain ⟨a, ha, e, l⟩ := hA.all r h
      have hna := hg a
      by_cases hm : ∃ s ∈ B, cmpR s a = 0
      · obtain ⟨s, hs, e2⟩ := hm
        exact ⟨s, hs, eq_trans' e2 e⟩
      · exfalso
        exact hna ((hgone a).2 ⟨ha, fun s hs e2 => hm ⟨s, hs, e2⟩⟩) e
    · exact ⟨r, ((hcame r).1 h).1, tri_row.refl r⟩
  refine ⟨fun r hr => ?_, ?_⟩
  · unfold ddOk
    rcases findS_cases (A.filter (misB B false)) r with ⟨g, hg, e, hf⟩ | ⟨hn, hf⟩
    · refine .inl ⟨by rw [hf]; exact hg0 g hg, ?_⟩
      rw [findS_none (fun s hs e2 => ((hgone g).1 hg).2 s hs (eq_trans' e2 (sym e)))]
      omega
    · refine .inr ⟨by rw [hf]; omega, ?_⟩
      obtain ⟨s, hs, e⟩ := hin r hr hn
      have hfs := findS_some hB.up hs e
      rw [hfs]
      have hs0 := hB0 s hs
      -- the row of x is as great as s
      have hsr : s.stamp ≤ r.stamp := by
        by_cases hm : ∃ a ∈ A, cmpR a s = 0
        · obtain ⟨a, ha, e2⟩ := hm
          by_cases hl : a.stamp < s.stamp
          · exact hbig r hr s (.inr ((hcame s).2 ⟨hs, .inr ⟨a, ha, e2, hl⟩⟩)) e
          · have := hbig r hr a (.inl (hA.sub a ha)) (eq_trans' e2 e)
            omega
        · exact hbig r hr s (.inr ((hcame s).2 ⟨hs, .inl fun a ha e2 => hm ⟨a, ha, e2⟩⟩)) e
      refine ⟨hs0, hsr, ?_⟩
      rcases findS_cases A r with ⟨a, ha, e2, hf2⟩ | ⟨hn2, hf2⟩
      · rw [hf2]
        have har := hbig r hr a (.inl (hA.sub a ha)) e2
        rcases hxm r hr with h | h
        · obtain ⟨a', ha', e3, l3⟩ := hA.all r h
          have := up_uniq hA.up ha' ha (eq_trans' e3 (sym e2))
          subst this
          split <;> omega
        · have := up_uniq hB.up ((hcame r).1 h).1 hs (sym e)
          subst this
          split <;> omega
      · rw [hf2, if_neg (by omega)]
        rcases hxm r hr with h | h
        · obtain ⟨a', ha', e3, l3⟩ := hA.all r h
          exact absurd e3 (hn2 a' ha')
        · rw [up_uniq hB.up ((hcame r).1 h).1 hs (sym e)]
  · refine classes_len (hx.up.filter _) hB.up (fun r hr => ?_) (fun s hs => ?_)
    · rw [List.mem_filter, decide_eq_true_eq] at hr
      obtain ⟨s, hs, e⟩ := hin r hr.1 (fun g hg e => by
        have := findS_some hgu hg e
        have := hg0 g hg
        omega)
      exact ⟨s, hs, sym e⟩
    · have hex : ∃ t, (t ∈ old ∨ t ∈ B.filter (misB A true)) ∧ cmpR t s = 0 := by
        by_cases hm : ∃ a ∈ A, cmpR a s = 0
        · obtain ⟨a, ha, e2⟩ := hm
          exact ⟨a, .inl (hA.sub a ha), e2⟩
        · exact ⟨s, .inr ((hcame s).2 ⟨hs, .inl fun a ha e2 => hm ⟨a, ha, e2⟩⟩), tri_row.refl s⟩
      obtain ⟨t, ht, e⟩ := hex
      obtain ⟨u, hu, e1, l1⟩ := hx.all t (List.mem_append.2 ht)
      refine ⟨u, List.mem_filter.2 ⟨hu, ?_⟩, eq_trans' e1 e⟩
      rw [decide_eq_true_eq, findS_none (fun g hg e2 => ((hgone g).1 hg).2 s hs ?_)]
      · omega
      · exact sym (eq_trans' e2 (eq_trans' e1 e))
end Go.Proofs.Ytenkobgeflckdaa
