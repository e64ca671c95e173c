/- slices.insertionSortCmpFunc over rows; slices.swapRangeCmpFunc, slices.rotateCmpFunc over rows; slices.symMergeCmpFunc over rows: one element merged; slices.symMergeCmpFunc over rows; slices.SortStableFunc over rows. -/
import Derived.Test.YtfocjfnkcabbgaaApp
import Derived.KernelRfl
import Derived.Deep.CutRange
import Derived.Test.YtfocjfnkcabbgaaSrtP
set_option linter.unusedVariables false
set_option linter.unusedSimpArgs false
namespace Go.Proofs.Ytfocjfnkcabbgaa
open Go.RowKit Go.Shelf

set_option maxHeartbeats 4000000 in
set_option maxRecDepth 100000 in
theorem insSort (w : World) (g n cap a b : Nat) (d : List (List Value)) (rest : List Value) (hT : Tab w g n d rest) (hab : a ≤ b) (hb : b ≤ n) (hn : n ≤ 1000000) (hnc : n ≤ cap) (f : Nat) (lb : Array Value) (eg : Enters Try.prog f) (cf : List Value → List Value → Int) (ho : Ordr cf) (hc : CmpAt w g f lb cf d) :
    Calls Try.prog 53 #[.slice (some ⟨g, 0, none⟩) n cap, .int .i64 a, .int .i64 b, .func (.func f) #[] lb] w (Sorts w g n a b rest cf d) := by
  have egf := eg
  unfold Enters at eg
  have HO := Lib.hid ho
  have HC := Lib.hid hc
  have HT := Lib.hid hT
  clear hT hc ho
  go_enter Try.func53, Try.ntmps53
  go_wp2_with fail
  go_loopw [8] (fun u8 wr => ∃ (i : Nat) (e : List (List Value)), a + 1 ≤ i ∧ (i ≤ b ∨ i = a + 1) ∧ u8 = .int .i64 i ∧ e.Perm d ∧ Mix e d a b ∧ Srt cf e a i ∧ Tab wr g n e rest ∧ Chg w wr (fun k => k = g)) (fun u8 _ => b - (intOf u8).toNat)
  case atStart => exact ⟨a + 1, d, Nat.le_refl _, .inr rfl, by go_num, List.Perm.refl _, Mix.refl _ _ _, Srt.short _ (Nat.le_refl _), HT.out, Chg.refl _ _⟩
  case round =>
    obtain ⟨i, e, hai, hib, rfl, hp, hmx, hs, ht, hch⟩ := hrel
    have HP := Lib.hid hp
    have HM := Lib.hid hmx
    have HS := Lib.hid hs
    have HTe := Lib.hid ht
    have HCh := Lib.hid hch
    clear hp hmx hs ht hch
    by_cases hlt : i < b
    · clear hib
      go_wp2_with fail
      go_loopw [9] (fun u9 wr2 => ∃ (j : Nat) (e : List (List Value)), u9 = .int .i64 j ∧ e.Perm d ∧ Mix e d a b ∧ Ins cf e a i j ∧ Tab wr2 g n e rest ∧ Chg w wr2 (fun k => k = g)) (fun u9 _ => (intOf u9).toNat)
      case atStart => exact ⟨i, e, rfl, HP.out, HM.out, Ins.start HS.out (by omega), HTe.out, HCh.out⟩
      case round =>
        clear HP HM HS HTe HCh
        obtain ⟨j, e, rfl, hp, hmx, hi, ht, hch⟩ := hrel
        have HP := Lib.hid hp
        have HM := Lib.hid hmx
        have HI := Lib.hid hi
        have HTe := Lib.hid ht
        have HCh := Lib.hid hch
        have hja := hi.ja
        have hji := hi.ji
        clear hp hmx hi ht hch
        by_cases hj : j = a
        · have hd1 : decide ((a : Int) < (j : Int)) = false := decide_eq_false (by omega)
          have HF := Lib.hid (HI.out.done HO.out (.inl hj))
          go_wp2_with fail
          go_quiet (fail)
          go_wp2_with fail
          go_roundw
          case rel => exact ⟨i + 1, e, by omega, .inl (by omega), by go_num, HP.out, HM.out, HF.out, HTe.out.chg ((Chg.refl _ (fun _ => False)).drewN _) id, HCh.out.drewN _⟩
          case measure => simp only [intOf]; omega
        · obtain ⟨j, rfl⟩ : ∃ j0, j = j0 + 1 := ⟨j - 1, by omega⟩
          have hd1 : decide ((a : Int) < ((j + 1 : Nat) : Int)) = true := decide_eq_true (by omega)
          obtain ⟨x, hx, hxe, hxr⟩ := HTe.out.cs (i := j + 1) (by omega)
          obtain ⟨y, hy, hye, hyr⟩ := HTe.out.cs (i := j) (by omega)
          have Hx := Lib.hid hx
          have Hy := Lib.hid hy
          have HXr := Lib.hid hxr
          have HYr := Lib.hid hyr
          obtain ⟨c, hcc⟩ : ∃ c, cf x y = c := ⟨_, rfl⟩
          have hcall := (HC.out.perm HP.out) x hxe y hye wr.drew HCh.out.drew
          rw [hcc] at hcall
          have Hcc := Lib.hid hcc
          have Hcall := Lib.hid hcall
          have HTd := Lib.hid (HTe.out.chg ((Chg.refl wr (fun _ => False)).drew) id)
          have HChd := Lib.hid (HCh.out.drew)
          have Hatx := Lib.hid (HTd.out.get hx)
          have Haty := Lib.hid (HTd.out.get hy)
          clear hx hy hxr hyr hcc hcall hxe hye HTe HCh
          go_wp2_with fail
          have hd2 : a < j + 1 := by omega
          refine wp_region_at (by kernel_rfl) ?_
          generalize wr.drew = wd at Hcall HTd HChd Hatx Haty ⊢
          have q0 : (0 : Int) ≤ ((j + 1 : Nat) : Int) := by omega
          have q1 : ((j + 1 : Nat) : Int) < (n : Int) := by omega
          have q2 : (0 : Int) ≤ (j : Int) := by omega
          have q3 : (j : Int) < (n : Int) := by omega
          have q4 : IntKind.i64.wrap (((j + 1 : Nat) : Int) - 1) = (j : Int) := by rw [IntKind.wrap_i64]; omega
          have q5 : j + 1 < n := by omega
          have q6 : (j : Int) + 1 < (n : Int) := by omega
          have q7 : (0 : Int) ≤ (j : Int) + 1 := by omega
          have q8 : IntKind.i64.wrap (j : Int) = (j : Int) := by rw [IntKind.wrap_i64]; omega
          have q9 : j < n := by omega
          have hd3 : (a : Int) < (j : Int) + 1 := by omega
          have q10 : ((j : Int) + 1).toNat = j + 1 := by omega
          refine AtN.segQ2 0 4 (fun
            | 0 => .int .i64 ((j + 1 : Nat) : Int)
            | 1 => .int .i64 a
            | 2 => .bool true
            | _ => .bool true)
            [(18, .int .i64 ((j + 1 : Nat) : Int)), (19, .int .i64 a), (20, .bool true), (21, .bool true)] (by kernel_rfl) (by kernel_rfl) (by kernel_rfl) (by kernel_rfl) rfl (fun i hn hi o ho A0 hin hk => ?_) ?_
          · rcases (show i = 0 ∨ i = 1 ∨ i = 2 ∨ i = 3 by omega) with rfl | rfl | rfl | rfl
            · cases ho
              exact exec_move 9 _ rfl (hk 9 (by kernel_rfl))
            · cases ho
              exact exec_move 1 _ rfl (hk 1 (by kernel_rfl))
            · cases ho
              have h18 : A0.tmps[18]?.getD undef = .int .i64 ((j + 1 : Nat) : Int) := hin 0 18 (by kernel_rfl)
              have h19 : A0.tmps[19]?.getD undef = .int .i64 a := hin 1 19 (by kernel_rfl)
              exact by simp [go_sem, h18, h19, hd1, hd2, hd3]
            · cases ho
              exact exec_move 20 _ rfl (hin 2 20 (by kernel_rfl))
          simp only [putsL, Act.put, List.setIfInBounds_toArray, List.set_cons_succ, List.set_cons_zero]
          refine AtN.segQ2 4 14 (fun
            | 4 => .func (.func f) #[] lb
            | 5 => .slice (some ⟨g, 0, none⟩) n cap
            | 6 => .int .i64 ((j + 1 : Nat) : Int)
            | 7 => .pointer (some ⟨g, (j + 1) * 3, none⟩)
            | 8 => .agg x.toArray
            | 9 => .slice (some ⟨g, 0, none⟩) n cap
            | 10 => .int .i64 ((j + 1 : Nat) : Int)
            | 11 => .int .i64 (j : Int)
            | 12 => .pointer (some ⟨g, j * 3, none⟩)
            | _ => .agg y.toArray)
            [(22, .func (.func f) #[] lb), (23, .slice (some ⟨g, 0, none⟩) n cap), (24, .int .i64 ((j + 1 : Nat) : Int)), (25, .pointer (some ⟨g, (j + 1) * 3, none⟩)), (26, .agg x.toArray), (27, .slice (some ⟨g, 0, none⟩) n cap), (28, .int .i64 ((j + 1 : Nat) : Int)), (29, .int .i64 (j : Int)), (30, .pointer (some ⟨g, j * 3, none⟩)), (31, .agg y.toArray)] (by kernel_rfl) (by kernel_rfl) (by kernel_rfl) (by kernel_rfl) rfl (fun i hn hi o ho A0 hin hk => ?_) ?_
          · rcases (show i = 4 ∨ i = 5 ∨ i = 6 ∨ i = 7 ∨ i = 8 ∨ i = 9 ∨ i = 10 ∨ i = 11 ∨ i = 12 ∨ i = 13 by omega) with rfl | rfl | rfl | rfl | rfl | rfl | rfl | rfl | rfl | rfl
            · cases ho
              exact exec_move 3 _ rfl (hk 3 (by kernel_rfl))
            · cases ho
              exact exec_move 0 _ rfl (hk 0 (by kernel_rfl))
            · cases ho
              exact exec_move 9 _ rfl (hk 9 (by kernel_rfl))
            · cases ho
              have h23 : A0.tmps[23]?.getD undef = .slice (some ⟨g, 0, none⟩) n cap := hin 5 23 (by kernel_rfl)
              have h24 : A0.tmps[24]?.getD undef = .int .i64 ((j + 1 : Nat) : Int) := hin 6 24 (by kernel_rfl)
              exact by simp [go_sem, h23, h24, q0, q1, q2, q3, q4, q5, q6, q7, q8, q9, q10, hd1]
            · cases ho
              have h25 : A0.tmps[25]?.getD undef = .pointer (some ⟨g, (j + 1) * 3, none⟩) := hin 7 25 (by kernel_rfl)
              exact exec_load 25 _ rfl stRow ⟨g, (j + 1) * 3, none⟩ x h25 HXr.out.1 Hatx.out
            · cases ho
              exact exec_move 0 _ rfl (hk 0 (by kernel_rfl))
            · cases ho
              exact exec_move 9 _ rfl (hk 9 (by kernel_rfl))
            · cases ho
              have h28 : A0.tmps[28]?.getD undef = .int .i64 ((j + 1 : Nat) : Int) := hin 10 28 (by kernel_rfl)
              exact by simp [go_sem, h28, q0, q1, q2, q3, q4, q5, q6, q7, q8, q9, q10, hd1]
            · cases ho
              have h27 : A0.tmps[27]?.getD undef = .slice (some ⟨g, 0, none⟩) n cap := hin 9 27 (by kernel_rfl)
              have h29 : A0.tmps[29]?.getD undef = .int .i64 (j : Int) := hin 11 29 (by kernel_rfl)
              exact by simp [go_sem, h27, h29, q0, q1, q2, q3, q4, q5, q6, q7, q8, q9, q10, hd1]
            · cases ho
              have h30 : A0.tmps[30]?.getD undef = .pointer (some ⟨g, j * 3, none⟩) := hin 12 30 (by kernel_rfl)
              exact exec_load 30 _ rfl stRow ⟨g, j * 3, none⟩ y h30 HYr.out.1 Haty.out
          simp only [putsL, Act.put, List.setIfInBounds_toArray, List.set_cons_succ, List.set_cons_zero]
          refine AtN.list 14 17 (by kernel_rfl) ?_
          change wpList _ _ _ [_, _, _] _ _
          go_wp2_with fail
          refine Hcall.out.mono ?_
          rintro e3 W3 ⟨rfl, hN3⟩
          have HT3 := Lib.hid (HTd.out.chg hN3 id)
          have HCh3 := Lib.hid (HChd.out.trans hN3 (fun _ _ x => x.elim))
          clear hN3 Hcall HTd HChd Hatx Haty
          by_cases hcn : c < 0
          · have hcd : decide (c < 0) = true := decide_eq_true hcn
            have HP2 := Lib.hid ((swp_perm Hx.out Hy.out).trans HP.out)
            have HM2 := Lib.hid ((swp_mix (a := a) (b := b) Hx.out Hy.out (by omega) (by omega) (by omega) (by omega)).trans HM.out)
            have HI2 := Lib.hid (HI.out.step' HO.out (by omega) Hx.out Hy.out (by rw [Hcc.out]; exact hcn))
            clear HP HM HI hcn
            go_wp2_with fail
            change AtN _ _ _ 17 _ _
            refine AtN.done rfl ?_
            go_wp2_with fail
            refine wp_region_at (by kernel_rfl) ?_
            have HT4 := Lib.hid (HT3.out.chg ((Chg.refl W3 (fun _ => False)).drew) id)
            have HCh4 := Lib.hid (HCh3.out.drew)
            generalize W3.drew = wd4 at HT4 HCh4 ⊢
            clear HT3 HCh3
            have Hatx := Lib.hid (HT4.out.get Hx.out)
            have Haty := Lib.hid (HT4.out.get Hy.out)
            obtain ⟨W5, hW5⟩ : ∃ W5, W5 = wd4.setRow g (layA (e.flatten ++ rest).toArray ((j + 1) * 3) y) := ⟨_, rfl⟩
            have HT5 := Lib.hid (show Tab W5 g n (e.set (j + 1) y) rest by rw [hW5]; exact HT4.out.set (by omega) HYr.out)
            have HCh5 := Lib.hid (show Chg w W5 (fun k => k = g) by rw [hW5]; exact HCh4.out.setRow _ _ (fun _ => rfl))
            have HW5 := Lib.hid hW5
            clear hW5
            refine AtN.segV3 0 16 15 (fun
              | 0 => .slice (some ⟨g, 0, none⟩) n cap
              | 1 => .int .i64 ((j + 1 : Nat) : Int)
              | 2 => .slice (some ⟨g, 0, none⟩) n cap
              | 3 => .int .i64 ((j + 1 : Nat) : Int)
              | 4 => .int .i64 (j : Int)
              | 5 => .slice (some ⟨g, 0, none⟩) n cap
              | 6 => .int .i64 ((j + 1 : Nat) : Int)
              | 7 => .int .i64 (j : Int)
              | 8 => .pointer (some ⟨g, j * 3, none⟩)
              | 9 => .agg y.toArray
              | 10 => .slice (some ⟨g, 0, none⟩) n cap
              | 11 => .int .i64 ((j + 1 : Nat) : Int)
              | 12 => .pointer (some ⟨g, (j + 1) * 3, none⟩)
              | 13 => .agg x.toArray
              | 14 => .pointer (some ⟨g, (j + 1) * 3, none⟩)
              | _ => undef)
              [(0, 37), (1, 38), (2, 39), (3, 40), (4, 41), (5, 42), (6, 43), (7, 44), (8, 45), (9, 46), (10, 47), (11, 48), (12, 49), (13, 50), (14, 51)] [(37, .slice (some ⟨g, 0, none⟩) n cap), (38, .int .i64 ((j + 1 : Nat) : Int)), (39, .slice (some ⟨g, 0, none⟩) n cap), (40, .int .i64 ((j + 1 : Nat) : Int)), (41, .int .i64 (j : Int)), (42, .slice (some ⟨g, 0, none⟩) n cap), (43, .int .i64 ((j + 1 : Nat) : Int)), (44, .int .i64 (j : Int)), (45, .pointer (some ⟨g, j * 3, none⟩)), (46, .agg y.toArray), (47, .slice (some ⟨g, 0, none⟩) n cap), (48, .int .i64 ((j + 1 : Nat) : Int)), (49, .pointer (some ⟨g, (j + 1) * 3, none⟩)), (50, .agg x.toArray), (51, .pointer (some ⟨g, (j + 1) * 3, none⟩))]
              (JTwo wd4 W5) (by kernel_rfl) (by kernel_rfl) (by kernel_rfl) (by kernel_rfl) rfl (⟨fun _ => rfl, fun h => by cases h⟩) (fun i hn hi o ho A0 W d hJ hμ hin hk => ?_) (fun W6 hJ => ?_)
            · rcases (show i = 0 ∨ i = 1 ∨ i = 2 ∨ i = 3 ∨ i = 4 ∨ i = 5 ∨ i = 6 ∨ i = 7 ∨ i = 8 ∨ i = 9 ∨ i = 10 ∨ i = 11 ∨ i = 12 ∨ i = 13 ∨ i = 14 ∨ i = 15 by omega) with rfl | rfl | rfl | rfl | rfl | rfl | rfl | rfl | rfl | rfl | rfl | rfl | rfl | rfl | rfl | rfl
              · cases ho
                exact .quiet (exec_move 0 _ rfl (hk 0 (by kernel_rfl))) hJ
              · cases ho
                exact .quiet (exec_move 9 _ rfl (hk 9 (by kernel_rfl))) hJ
              · cases ho
                exact .quiet (exec_move 0 _ rfl (hk 0 (by kernel_rfl))) hJ
              · cases ho
                exact .quiet (exec_move 9 _ rfl (hk 9 (by kernel_rfl))) hJ
              · cases ho
                have h40 : A0.tmps[40]?.getD undef = .int .i64 ((j + 1 : Nat) : Int) := hin 3 40 (by kernel_rfl)
                exact .quiet (by simp [go_sem, h40, q0, q1, q2, q3, q4, q5, q6, q7, q8, q9, q10, hd1]) hJ
              · cases ho
                exact .quiet (exec_move 0 _ rfl (hk 0 (by kernel_rfl))) hJ
              · cases ho
                exact .quiet (exec_move 9 _ rfl (hk 9 (by kernel_rfl))) hJ
              · cases ho
                have h43 : A0.tmps[43]?.getD undef = .int .i64 ((j + 1 : Nat) : Int) := hin 6 43 (by kernel_rfl)
                exact .quiet (by simp [go_sem, h43, q0, q1, q2, q3, q4, q5, q6, q7, q8, q9, q10, hd1]) hJ
              · cases ho
                have h42 : A0.tmps[42]?.getD undef = .slice (some ⟨g, 0, none⟩) n cap := hin 5 42 (by kernel_rfl)
                have h44 : A0.tmps[44]?.getD undef = .int .i64 (j : Int) := hin 7 44 (by kernel_rfl)
                exact .quiet (by simp [go_sem, h42, h44, q0, q1, q2, q3, q4, q5, q6, q7, q8, q9, q10, hd1]) hJ
              · cases ho
                have h45 : A0.tmps[45]?.getD undef = .pointer (some ⟨g, j * 3, none⟩) := hin 8 45 (by kernel_rfl)
                obtain rfl : W = wd4 := hJ.1 (hμ (.inr (by kernel_rfl)))
                exact .quiet (exec_load 45 _ rfl stRow ⟨g, j * 3, none⟩ y h45 HYr.out.1 Haty.out) hJ
              · cases ho
                exact .quiet (exec_move 0 _ rfl (hk 0 (by kernel_rfl))) hJ
              · cases ho
                exact .quiet (exec_move 9 _ rfl (hk 9 (by kernel_rfl))) hJ
              · cases ho
                have h47 : A0.tmps[47]?.getD undef = .slice (some ⟨g, 0, none⟩) n cap := hin 10 47 (by kernel_rfl)
                have h48 : A0.tmps[48]?.getD undef = .int .i64 ((j + 1 : Nat) : Int) := hin 11 48 (by kernel_rfl)
                exact .quiet (by simp [go_sem, h47, h48, q0, q1, q2, q3, q4, q5, q6, q7, q8, q9, q10, hd1]) hJ
              · cases ho
                have h49 : A0.tmps[49]?.getD undef = .pointer (some ⟨g, (j + 1) * 3, none⟩) := hin 12 49 (by kernel_rfl)
                obtain rfl : W = wd4 := hJ.1 (hμ (.inr (by kernel_rfl)))
                exact .quiet (exec_load 49 _ rfl stRow ⟨g, (j + 1) * 3, none⟩ x h49 HXr.out.1 Hatx.out) hJ
              · cases ho
                have h37 : A0.tmps[37]?.getD undef = .slice (some ⟨g, 0, none⟩) n cap := hin 0 37 (by kernel_rfl)
                have h38 : A0.tmps[38]?.getD undef = .int .i64 ((j + 1 : Nat) : Int) := hin 1 38 (by kernel_rfl)
                exact .quiet (by simp [go_sem, h37, h38, q0, q1, q2, q3, q4, q5, q6, q7, q8, q9, q10, hd1]) hJ
              · cases ho
                have h46 : A0.tmps[46]?.getD undef = .agg y.toArray := hin 9 46 (by kernel_rfl)
                have h51 : A0.tmps[51]?.getD undef = .pointer (some ⟨g, (j + 1) * 3, none⟩) := hin 14 51 (by kernel_rfl)
                obtain rfl : W = wd4 := hJ.1 (hμ (.inl rfl))
                refine .skip (exec_store (.tmp 51) (.tmp 46) 45 rfl stRow g ((j + 1) * 3) 45 _ y (by simpa [Act.eval] using h51) (by simpa [Act.eval] using h46) HT4.out.blk HYr.out.1 (HT4.out.fit (by omega)) HYr.out.2) ⟨⟨fun h => by cases d <;> simp at h, fun _ => HW5.out.symm⟩, rfl⟩
            simp only [putsL, Act.put, List.setIfInBounds_toArray, List.set_cons_succ, List.set_cons_zero]
            obtain rfl : W6 = W5 := hJ.2 rfl
            clear hJ HT4 HCh4 HW5 Hatx Haty
            refine AtN.list 16 17 (by kernel_rfl) ?_
            change wpList _ _ _ [_] _ _
            go_wp2_with fail
            change AtN _ _ _ 17 _ _
            refine AtN.list 17 18 (by kernel_rfl) ?_
            change wpList _ _ _ [_] _ _
            refine wpl_store rfl (.tmp 52) (.tmp 50) 45 rfl stRow g (j * 3) 45 ((e.set (j + 1) y).flatten ++ rest).toArray x rfl rfl HT5.out.blk HXr.out.1 (HT5.out.fit (by omega)) HXr.out.2 ?_
            have HT6 := Lib.hid (HT5.out.set (i := j) (cs := x) (by omega) HXr.out)
            have HCh6 := Lib.hid (HCh5.out.setRow g (layA ((e.set (j + 1) y).flatten ++ rest).toArray (j * 3) x) (fun _ => rfl))
            refine AtN.done rfl ?_
            clear HT5 HCh5
            simp only [Act.put]
            go_wp2_with fail
            go_roundw
            case rel => exact ⟨j, _, by go_num, HP2.out, HM2.out, HI2.out, HT6.out, HCh6.out⟩
            case measure => simp only [intOf]; omega
          · have hcd : decide (c < 0) = false := decide_eq_false hcn
            have HF := Lib.hid (HI.out.done HO.out (.inr ⟨x, y, Hx.out, Hy.out, by rw [Hcc.out]; exact hcn⟩))
            clear hcn HI
            go_wp2_with fail
            change AtN _ _ _ 17 _ _
            refine AtN.done rfl ?_
            go_wp2_with fail
            go_roundw
            case rel => exact ⟨i + 1, e, by omega, .inl (by omega), by go_num, HP.out, HM.out, HF.out, HT3.out, HCh3.out⟩
            case measure => simp only [intOf]; omega
    · have HSf := Lib.hid (show Srt cf e a b from HS.out.less (Nat.le_refl _) (by omega))
      go_wp2_with fail
      go_end0
      exact ⟨rfl, e, HP.out, HM.out, HSf.out, HTe.out, HCh.out⟩
end Go.Proofs.Ytfocjfnkcabbgaa

set_option linter.unusedVariables false
set_option linter.unusedSimpArgs false
namespace Go.Proofs.Ytfocjfnkcabbgaa
open Go.RowKit Go.Shelf

set_option maxHeartbeats 4000000 in
set_option maxRecDepth 100000 in
theorem swapRng (w : World) (g n cap a b k : Nat) (d : List (List Value)) (rest : List Value) (hT : Tab w g n d rest) (hab : a + k ≤ b) (hb : b + k ≤ n) (hn : n ≤ 1000000) (hnc : n ≤ cap) (v : Value) :
    Calls Try.prog 73 #[.slice (some ⟨g, 0, none⟩) n cap, .int .i64 a, .int .i64 b, .int .i64 k, v] w fun e w' => e = .returned (.tuple #[]) ∧ ∃ d', d'.Perm d ∧ SwR d' d a b k ∧ Tab w' g n d' rest ∧ Chg w w' (fun q => q = g) := by
  have HT := Lib.hid hT
  clear hT
  go_enter Try.func73, Try.ntmps73
  go_wp2_with fail
  go_loopw [10] (fun u10 wr => ∃ (i : Nat) (e : List (List Value)), i ≤ k ∧ u10 = .int .i64 i ∧ e.Perm d ∧ SwR e d a b i ∧ Tab wr g n e rest ∧ Chg w wr (fun k => k = g)) (fun u _ => k - (intOf u).toNat)
  case atStart => exact ⟨0, d, Nat.zero_le _, rfl, List.Perm.refl _, SwR.refl _ _ _, HT.out, Chg.refl _ _⟩
  case round =>
    obtain ⟨i, e, hik, rfl, hp, hs, ht, hch⟩ := hrel
    have HP := Lib.hid hp
    have HS := Lib.hid hs
    have HTe := Lib.hid ht
    have HCh := Lib.hid hch
    clear hp hs ht hch
    by_cases hlt : i < k
    · obtain ⟨x, hx, hxe, hxr⟩ := HTe.out.cs (i := a + i) (by omega)
      obtain ⟨y, hy, hye, hyr⟩ := HTe.out.cs (i := b + i) (by omega)
      have HXr := Lib.hid hxr
      have HYr := Lib.hid hyr
      have HT4 := Lib.hid (HTe.out.chg ((Chg.refl wr (fun _ => False)).drew) id)
      have HCh4 := Lib.hid (HCh.out.drew)
      have Hatx := Lib.hid (HT4.out.get hx)
      have Haty := Lib.hid (HT4.out.get hy)
      have HP2 := Lib.hid ((swp_perm hx hy).trans HP.out)
      have HS2 := Lib.hid (HS.out.step (by omega) hx hy)
      clear hx hy hxr hyr hxe hye HTe HCh HP HS
      go_wp2_with fail
      refine wp_region_at (by kernel_rfl) ?_
      generalize wr.drew = wd4 at HT4 HCh4 Hatx Haty ⊢
      obtain ⟨W5, hW5⟩ : ∃ W5, W5 = wd4.setRow g (layA (e.flatten ++ rest).toArray ((a + i) * 3) y) := ⟨_, rfl⟩
      have HT5 := Lib.hid (show Tab W5 g n (e.set (a + i) y) rest by rw [hW5]; exact HT4.out.set (by omega) HYr.out)
      have HCh5 := Lib.hid (show Chg w W5 (fun k => k = g) by rw [hW5]; exact HCh4.out.setRow _ _ (fun _ => rfl))
      have HW5 := Lib.hid hW5
      clear hW5
      obtain ⟨p, hp⟩ : ∃ p, p = a + i := ⟨_, rfl⟩
      obtain ⟨q, hq⟩ : ∃ q, q = b + i := ⟨_, rfl⟩
      have q0 : (0 : Int) ≤ (p : Int) := by omega
      have q1 : (p : Int) < (n : Int) := by omega
      have q2 : (0 : Int) ≤ (q : Int) := by omega
      have q3 : (q : Int) < (n : Int) := by omega
      have q4 : IntKind.i64.wrap ((a : Int) + (i : Int)) = (p : Int) := by rw [IntKind.wrap_i64]; omega
      have q5 : IntKind.i64.wrap ((b : Int) + (i : Int)) = (q : Int) := by rw [IntKind.wrap_i64]; omega
      have q6 : p < n := by omega
      have q7 : q < n := by omega
      rw [← hp] at Hatx HT5 HW5 HP2 HS2
      rw [← hq] at Haty HP2 HS2
      clear hp hq
      refine AtN.segV3 0 22 21 (fun
        | 0 => .slice (some ⟨g, 0, none⟩) n cap
        | 1 => .int .i64 a
        | 2 => .int .i64 i
        | 3 => .int .i64 p
        | 4 => .slice (some ⟨g, 0, none⟩) n cap
        | 5 => .int .i64 b
        | 6 => .int .i64 i
        | 7 => .int .i64 q
        | 8 => .slice (some ⟨g, 0, none⟩) n cap
        | 9 => .int .i64 b
        | 10 => .int .i64 i
        | 11 => .int .i64 q
        | 12 => .pointer (some ⟨g, q * 3, none⟩)
        | 13 => .agg y.toArray
        | 14 => .slice (some ⟨g, 0, none⟩) n cap
        | 15 => .int .i64 a
        | 16 => .int .i64 i
        | 17 => .int .i64 p
        | 18 => .pointer (some ⟨g, p * 3, none⟩)
        | 19 => .agg x.toArray
        | 20 => .pointer (some ⟨g, p * 3, none⟩)
        | _ => undef)
        [(0, 16), (1, 17), (2, 18), (3, 19), (4, 20), (5, 21), (6, 22), (7, 23), (8, 24), (9, 25), (10, 26), (11, 27), (12, 28), (13, 29), (14, 30), (15, 31), (16, 32), (17, 33), (18, 34), (19, 35), (20, 36)] [(16, .slice (some ⟨g, 0, none⟩) n cap), (17, .int .i64 a), (18, .int .i64 i), (19, .int .i64 p), (20, .slice (some ⟨g, 0, none⟩) n cap), (21, .int .i64 b), (22, .int .i64 i), (23, .int .i64 q), (24, .slice (some ⟨g, 0, none⟩) n cap), (25, .int .i64 b), (26, .int .i64 i), (27, .int .i64 q), (28, .pointer (some ⟨g, q * 3, none⟩)), (29, .agg y.toArray), (30, .slice (some ⟨g, 0, none⟩) n cap), (31, .int .i64 a), (32, .int .i64 i), (33, .int .i64 p), (34, .pointer (some ⟨g, p * 3, none⟩)), (35, .agg x.toArray), (36, .pointer (some ⟨g, p * 3, none⟩))]
        (JTwo wd4 W5) (by kernel_rfl) (by kernel_rfl) (by kernel_rfl) (by kernel_rfl) rfl (⟨fun _ => rfl, fun h => by cases h⟩) (fun i hn hi o ho A0 W d hJ hμ hin hk => ?_) (fun W6 hJ => ?_)
      · rcases (show i = 0 ∨ i = 1 ∨ i = 2 ∨ i = 3 ∨ i = 4 ∨ i = 5 ∨ i = 6 ∨ i = 7 ∨ i = 8 ∨ i = 9 ∨ i = 10 ∨ i = 11 ∨ i = 12 ∨ i = 13 ∨ i = 14 ∨ i = 15 ∨ i = 16 ∨ i = 17 ∨ i = 18 ∨ i = 19 ∨ i = 20 ∨ i = 21 by omega) with rfl | rfl | rfl | rfl | rfl | rfl | rfl | rfl | rfl | rfl | rfl | rfl | rfl | rfl | rfl | rfl | rfl | rfl | rfl | rfl | rfl | rfl
        · cases ho
          exact .quiet (exec_move 0 _ rfl (hk 0 (by kernel_rfl))) hJ
        · cases ho
          exact .quiet (exec_move 1 _ rfl (hk 1 (by kernel_rfl))) hJ
        · cases ho
          exact .quiet (exec_move 10 _ rfl (hk 10 (by kernel_rfl))) hJ
        · cases ho
          have h17 : A0.tmps[17]?.getD undef = .int .i64 a := hin 1 17 (by kernel_rfl)
          have h18 : A0.tmps[18]?.getD undef = .int .i64 i := hin 2 18 (by kernel_rfl)
          exact .quiet (by simp [go_sem, h17, h18, q4]) hJ
        · cases ho
          exact .quiet (exec_move 0 _ rfl (hk 0 (by kernel_rfl))) hJ
        · cases ho
          exact .quiet (exec_move 2 _ rfl (hk 2 (by kernel_rfl))) hJ
        · cases ho
          exact .quiet (exec_move 10 _ rfl (hk 10 (by kernel_rfl))) hJ
        · cases ho
          have h21 : A0.tmps[21]?.getD undef = .int .i64 b := hin 5 21 (by kernel_rfl)
          have h22 : A0.tmps[22]?.getD undef = .int .i64 i := hin 6 22 (by kernel_rfl)
          exact .quiet (by simp [go_sem, h21, h22, q5]) hJ
        · cases ho
          exact .quiet (exec_move 0 _ rfl (hk 0 (by kernel_rfl))) hJ
        · cases ho
          exact .quiet (exec_move 2 _ rfl (hk 2 (by kernel_rfl))) hJ
        · cases ho
          exact .quiet (exec_move 10 _ rfl (hk 10 (by kernel_rfl))) hJ
        · cases ho
          have h25 : A0.tmps[25]?.getD undef = .int .i64 b := hin 9 25 (by kernel_rfl)
          have h26 : A0.tmps[26]?.getD undef = .int .i64 i := hin 10 26 (by kernel_rfl)
          exact .quiet (by simp [go_sem, h25, h26, q5]) hJ
        · cases ho
          have h24 : A0.tmps[24]?.getD undef = .slice (some ⟨g, 0, none⟩) n cap := hin 8 24 (by kernel_rfl)
          have h27 : A0.tmps[27]?.getD undef = .int .i64 q := hin 11 27 (by kernel_rfl)
          exact .quiet (by simp [go_sem, h24, h27, q0, q1, q2, q3, q6, q7]) hJ
        · cases ho
          have h28 : A0.tmps[28]?.getD undef = .pointer (some ⟨g, q * 3, none⟩) := hin 12 28 (by kernel_rfl)
          obtain rfl : W = wd4 := hJ.1 (hμ (.inr (by kernel_rfl)))
          exact .quiet (exec_load 28 _ rfl stRow ⟨g, q * 3, none⟩ y h28 HYr.out.1 Haty.out) hJ
        · cases ho
          exact .quiet (exec_move 0 _ rfl (hk 0 (by kernel_rfl))) hJ
        · cases ho
          exact .quiet (exec_move 1 _ rfl (hk 1 (by kernel_rfl))) hJ
        · cases ho
          exact .quiet (exec_move 10 _ rfl (hk 10 (by kernel_rfl))) hJ
        · cases ho
          have h31 : A0.tmps[31]?.getD undef = .int .i64 a := hin 15 31 (by kernel_rfl)
          have h32 : A0.tmps[32]?.getD undef = .int .i64 i := hin 16 32 (by kernel_rfl)
          exact .quiet (by simp [go_sem, h31, h32, q4]) hJ
        · cases ho
          have h30 : A0.tmps[30]?.getD undef = .slice (some ⟨g, 0, none⟩) n cap := hin 14 30 (by kernel_rfl)
          have h33 : A0.tmps[33]?.getD undef = .int .i64 p := hin 17 33 (by kernel_rfl)
          exact .quiet (by simp [go_sem, h30, h33, q0, q1, q2, q3, q6, q7]) hJ
        · cases ho
          have h34 : A0.tmps[34]?.getD undef = .pointer (some ⟨g, p * 3, none⟩) := hin 18 34 (by kernel_rfl)
          obtain rfl : W = wd4 := hJ.1 (hμ (.inr (by kernel_rfl)))
          exact .quiet (exec_load 34 _ rfl stRow ⟨g, p * 3, none⟩ x h34 HXr.out.1 Hatx.out) hJ
        · cases ho
          have h16 : A0.tmps[16]?.getD undef = .slice (some ⟨g, 0, none⟩) n cap := hin 0 16 (by kernel_rfl)
          have h19 : A0.tmps[19]?.getD undef = .int .i64 p := hin 3 19 (by kernel_rfl)
          exact .quiet (by simp [go_sem, h16, h19, q0, q1, q2, q3, q6, q7]) hJ
        · cases ho
          have h29 : A0.tmps[29]?.getD undef = .agg y.toArray := hin 13 29 (by kernel_rfl)
          have h36 : A0.tmps[36]?.getD undef = .pointer (some ⟨g, p * 3, none⟩) := hin 20 36 (by kernel_rfl)
          obtain rfl : W = wd4 := hJ.1 (hμ (.inl rfl))
          refine .skip (exec_store (.tmp 36) (.tmp 29) 45 rfl stRow g (p * 3) 45 _ y (by simpa [Act.eval] using h36) (by simpa [Act.eval] using h29) HT4.out.blk HYr.out.1 (HT4.out.fit (by omega)) HYr.out.2) ⟨⟨fun h => by cases d <;> simp at h, fun _ => HW5.out.symm⟩, rfl⟩
      simp only [putsL, Act.put, List.setIfInBounds_toArray, List.set_cons_succ, List.set_cons_zero]
      obtain rfl : W6 = W5 := hJ.2 rfl
      clear hJ HT4 HCh4 HW5 Hatx Haty
      refine AtN.list 22 23 (by kernel_rfl) ?_
      change wpList _ _ _ [_] _ _
      go_wp2_with fail
      change AtN _ _ _ 23 _ _
      refine AtN.list 23 24 (by kernel_rfl) ?_
      change wpList _ _ _ [_] _ _
      refine wpl_store rfl (.tmp 37) (.tmp 35) 45 rfl stRow g (q * 3) 45 ((e.set p y).flatten ++ rest).toArray x rfl rfl HT5.out.blk HXr.out.1 (HT5.out.fit (by omega)) HXr.out.2 ?_
      have HT6 := Lib.hid (HT5.out.set (i := q) (cs := x) (by omega) HXr.out)
      have HCh6 := Lib.hid (HCh5.out.setRow g (layA ((e.set p y).flatten ++ rest).toArray (q * 3) x) (fun _ => rfl))
      refine AtN.done rfl ?_
      clear HT5 HCh5
      simp only [Act.put]
      go_wp2_with fail
      go_roundw
      case rel => exact ⟨i + 1, _, by omega, by go_num, HP2.out, HS2.out, HT6.out, HCh6.out⟩
      case measure => simp only [intOf]; omega
    · obtain rfl : i = k := by omega
      go_wp2_with fail
      go_end0
      exact ⟨rfl, e, HP.out, HS.out, HTe.out, HCh.out⟩

set_option maxHeartbeats 4000000 in
set_option maxRecDepth 100000 in
theorem rotRng (w : World) (g n cap a m b : Nat) (d : List (List Value)) (rest : List Value) (hT : Tab w g n d rest) (ham : a < m) (hmb : m < b) (hb : b ≤ n) (hn : n ≤ 1000000) (hnc : n ≤ cap) (v : Value) :
    Calls Try.prog 63 #[.slice (some ⟨g, 0, none⟩) n cap, .int .i64 a, .int .i64 m, .int .i64 b, v] w fun e w' => e = .returned (.tuple #[]) ∧ (rotL d a m b).Perm d ∧ Tab w' g n (rotL d a m b) rest ∧ Chg w w' (fun q => q = g) := by
  have hrs := rotL_start (d := d) (a := a) (m := m) (b := b) (by omega) (by omega) (by rw [hT.len]; exact hb)
  obtain ⟨fin, hfin⟩ : ∃ fin, fin = rotL d a m b := ⟨_, rfl⟩
  rw [← hfin] at hrs ⊢
  have HR := Lib.hid hrs
  have HT := Lib.hid hT
  clear hT hrs hfin
  have q0 : IntKind.i64.wrap ((m : Int) - (a : Int)) = ((m - a : Nat) : Int) := by rw [IntKind.wrap_i64]; omega
  have q1 : IntKind.i64.wrap ((b : Int) - (m : Int)) = ((b - m : Nat) : Int) := by rw [IntKind.wrap_i64]; omega
  go_enter Try.func63, Try.ntmps63
  go_wp2_with fail
  go_loopw [10, 11] (fun u10 u11 wr => ∃ (i j : Nat) (e : List (List Value)), 0 < i ∧ 0 < j ∧ i ≤ m ∧ m + j ≤ b ∧ u10 = .int .i64 i ∧ u11 = .int .i64 j ∧ e.Perm d ∧ Rot e fin m i j ∧ Tab wr g n e rest ∧ Chg w wr (fun k => k = g)) (fun u u1 _ => (intOf u).toNat + (intOf u1).toNat)
  case atStart =>
    refine ⟨m - a, b - m, d, by omega, by omega, by omega, by omega, ?_, ?_, List.Perm.refl _, HR.out, HT.out, Chg.refl _ _⟩
    all_goals go_num
  case round =>
    obtain ⟨i, j, e, hi, hj, him, hjb, rfl, rfl, hp, hs, ht, hch⟩ := hrel
    clear q0 q1
    have HP := Lib.hid hp
    have HS := Lib.hid hs
    have HTe := Lib.hid ht
    have HCh := Lib.hid hch
    clear hp hs ht hch
    have q2 : IntKind.i64.wrap ((m : Int) - (i : Int)) = ((m - i : Nat) : Int) := by rw [IntKind.wrap_i64]; omega
    rcases Nat.lt_trichotomy i j with hlt | heq | hgt
    · have hne : ((i : Int) == (j : Int)) = false := by rw [beq_eq_false_iff_ne]; omega
      have hgt : decide ((j : Int) < (i : Int)) = false := decide_eq_false (by omega)
      have hsw := swapRng wr g n cap (m - i) (m + j - i) i e rest HTe.out (by omega) (by omega) hn hnc v
      have q3 : (m : Int) - (i : Int) = ((m - i : Nat) : Int) := by omega
      have q4 : (m : Int) + (j : Int) - (i : Int) = ((m + j - i : Nat) : Int) := by omega
      have Hsw := Lib.hid hsw
      clear hsw
      go_wp2_with fail
      refine Hsw.out.mono ?_
      rintro e1 W1 ⟨rfl, e2, hp2, hs2, ht2, hc2⟩
      have HP2 := Lib.hid (hp2.trans HP.out)
      have HS2 := Lib.hid (HS.out.right hlt hs2)
      have HT2 := Lib.hid ht2
      have HC2 := Lib.hid (HCh.out.trans hc2 (fun _ _ h => h))
      clear hp2 hs2 ht2 hc2 Hsw
      go_wp2_with fail
      go_roundw
      case rel => exact ⟨i, j - i, e2, by omega, by omega, by omega, by omega, by go_num, by go_num, HP2.out, HS2.out, HT2.out, HC2.out⟩
      case measure => simp only [intOf]; omega
    · subst heq
      have hne : ((i : Int) == (i : Int)) = true := by rw [beq_iff_eq]
      have hsw := swapRng wr g n cap (m - i) m i e rest HTe.out (by omega) (by omega) hn hnc v
      have q3 : (m : Int) - (i : Int) = ((m - i : Nat) : Int) := by omega
      have Hsw := Lib.hid hsw
      clear hsw
      go_wp2_with fail
      refine Hsw.out.mono ?_
      rintro e1 W1 ⟨rfl, e2, hp2, hs2, ht2, hc2⟩
      have hfin := HS.out.last hs2
      subst hfin
      have HP2 := Lib.hid (hp2.trans HP.out)
      have HT2 := Lib.hid ht2
      have HC2 := Lib.hid (HCh.out.trans hc2 (fun _ _ h => h))
      clear hp2 hs2 ht2 hc2 Hsw
      go_wp2_with fail
      go_end0
      exact ⟨rfl, HP2.out, HT2.out, HC2.out⟩
    · have hne : ((i : Int) == (j : Int)) = false := by rw [beq_eq_false_iff_ne]; omega
      have hgt2 : decide ((j : Int) < (i : Int)) = true := decide_eq_true (by omega)
      have hsw := swapRng wr g n cap (m - i) m j e rest HTe.out (by omega) (by omega) hn hnc v
      have q3 : (m : Int) - (i : Int) = ((m - i : Nat) : Int) := by omega
      have Hsw := Lib.hid hsw
      clear hsw
      go_wp2_with fail
      refine Hsw.out.mono ?_
      rintro e1 W1 ⟨rfl, e2, hp2, hs2, ht2, hc2⟩
      have HP2 := Lib.hid (hp2.trans HP.out)
      have HS2 := Lib.hid (HS.out.left hgt hs2)
      have HT2 := Lib.hid ht2
      have HC2 := Lib.hid (HCh.out.trans hc2 (fun _ _ h => h))
      clear hp2 hs2 ht2 hc2 Hsw
      go_wp2_with fail
      go_roundw
      case rel => exact ⟨i - j, j, e2, by omega, by omega, by omega, by omega, by go_num, by go_num, HP2.out, HS2.out, HT2.out, HC2.out⟩
      case measure => simp only [intOf]; omega
end Go.Proofs.Ytfocjfnkcabbgaa

set_option linter.unusedVariables false
set_option linter.unusedSimpArgs false
namespace Go.Proofs.Ytfocjfnkcabbgaa
open Go.RowKit Go.Shelf

set_option maxHeartbeats 4000000 in
set_option maxRecDepth 100000 in
theorem symOne (w : World) (g n cap a b : Nat) (d : List (List Value)) (rest : List Value) (hT : Tab w g n d rest) (hab : a + 1 < b) (hb : b ≤ n) (hn : n ≤ 1000000) (hnc : n ≤ cap) (f : Nat) (lb : Array Value) (eg : Enters Try.prog f) (cf : List Value → List Value → Int) (ho : Ordr cf) (hc : CmpAt w g f lb cf d) (hs : Srt cf d (a + 1) b) :
    Calls Try.prog 54 #[.slice (some ⟨g, 0, none⟩) n cap, .int .i64 a, .int .i64 ((a : Int) + 1), .int .i64 b, .func (.func f) #[] lb] w (Sorts w g n a b rest cf d) := by
  unfold Enters at eg
  have HO := Lib.hid ho
  have HC := Lib.hid hc
  have HT := Lib.hid hT
  have HSd := Lib.hid hs
  obtain ⟨x, hx, hxe, hxr⟩ := hT.cs (i := a) (by omega)
  have Hx := Lib.hid hx
  have Hxe := Lib.hid hxe
  have HXr := Lib.hid hxr
  clear hT hc ho hs hx hxe hxr
  have b0 : (((a : Int) + 1 - (a : Int)) == 1) = true := by rw [beq_iff_eq]; omega
  have b1 : ((a : Int) + 1 - (a : Int)) = 1 := by omega
  go_enter Try.func54, Try.ntmps54
  obtain ⟨L, hL⟩ : ∃ L : Nat → Prop, L = fun p => ∃ y, d[p]? = some y ∧ cf y x < 0 := ⟨_, rfl⟩
  obtain ⟨R, hR⟩ : ∃ R : Nat → Prop, R = fun p => ∃ y, d[p]? = some y ∧ Le cf x y := ⟨_, rfl⟩
  have Hl := Lib.hid hL
  have Hr := Lib.hid hR
  clear hL hR
  go_wp2_with fail
  try simp only [b0, b1]
  clear b0 b1
  go_loopw [10, 11] (fun u10 u11 wr => ∃ (i j : Nat), u10 = .int .i64 i ∧ u11 = .int .i64 j ∧ Bin L R (a + 1) b i j ∧ New w wr) (fun u10 u11 _ => (intOf u11).toNat - (intOf u10).toNat)
  case atStart => exact ⟨a + 1, b, by go_num, rfl, ⟨Nat.le_refl _, by omega, Nat.le_refl _, .inl rfl, .inl rfl⟩, Chg.refl _ _⟩
  case round =>
    obtain ⟨i, j, rfl, rfl, hB, hN⟩ := hrel
    have hi := hB.lo
    have hij := hB.ij
    have hj := hB.hi
    have HB := Lib.hid hB
    have HN := Lib.hid hN
    clear hB hN
    by_cases hlt : i < j
    · obtain ⟨h, hh⟩ : ∃ h : Nat, h = (i + j) / 2 := ⟨_, rfl⟩
      have hhI : ((i : Int) + (j : Int)) / 2 = (h : Int) := by omega
      have hi1 : i ≤ h := by omega
      have hj1 : h < j := by omega
      have HhI := Lib.hid hhI
      clear hh hhI
      obtain ⟨y, hy, hye, hyr⟩ := HT.out.cs (i := h) (by omega)
      obtain ⟨c, hcc⟩ : ∃ c, cf y x = c := ⟨_, rfl⟩
      have hcall := HC.out y hye x Hxe.out wr.drew ((HN.out.drew).mono (fun _ _ x => x.elim))
      rw [hcc] at hcall
      have HTd := Lib.hid (HT.out.chg HN.out.drew id)
      have Hcall := Lib.hid hcall
      have Hcc := Lib.hid hcc
      have Hy := Lib.hid hy
      have HYr := Lib.hid hyr
      have HNd := Lib.hid HN.out.drew
      have Hatx := Lib.hid (HTd.out.get Hx.out)
      have Haty := Lib.hid (HTd.out.get hy)
      clear hy hye hyr hcc hcall HTd HN
      go_upto_region 5 with fail
      rw [HhI.out]
      refine wp_region_at (by kernel_rfl) ?_
      generalize wr.drew = wd at Hcall HNd Hatx Haty ⊢
      have q0 : (0 : Int) ≤ (h : Int) := by omega
      have q1 : (h : Int) < (n : Int) := by omega
      have q2 : (0 : Int) ≤ (a : Int) := by omega
      have q3 : (a : Int) < (n : Int) := by omega
      have q4 : h < n := by omega
      have q5 : a < n := by omega
      refine AtN.segQ2 0 9 (fun
        | 0 => .func (.func f) #[] lb
        | 1 => .slice (some ⟨g, 0, none⟩) n cap
        | 2 => .int .i64 h
        | 3 => .pointer (some ⟨g, h * 3, none⟩)
        | 4 => .agg y.toArray
        | 5 => .slice (some ⟨g, 0, none⟩) n cap
        | 6 => .int .i64 a
        | 7 => .pointer (some ⟨g, a * 3, none⟩)
        | _ => .agg x.toArray)
        [(40, .func (.func f) #[] lb), (41, .slice (some ⟨g, 0, none⟩) n cap), (42, .int .i64 h), (43, .pointer (some ⟨g, h * 3, none⟩)), (44, .agg y.toArray), (45, .slice (some ⟨g, 0, none⟩) n cap), (46, .int .i64 a), (47, .pointer (some ⟨g, a * 3, none⟩)), (48, .agg x.toArray)] (by kernel_rfl) (by kernel_rfl) (by kernel_rfl) (by kernel_rfl) rfl (fun i hn hi o ho A0 hin hk => ?_) ?_
      · rcases (show i = 0 ∨ i = 1 ∨ i = 2 ∨ i = 3 ∨ i = 4 ∨ i = 5 ∨ i = 6 ∨ i = 7 ∨ i = 8 by omega) with rfl | rfl | rfl | rfl | rfl | rfl | rfl | rfl | rfl
        · cases ho
          exact exec_move 4 _ rfl (hk 4 (by kernel_rfl))
        · cases ho
          exact exec_move 0 _ rfl (hk 0 (by kernel_rfl))
        · cases ho
          exact exec_move 12 _ rfl (hk 12 (by kernel_rfl))
        · cases ho
          have h41 : A0.tmps[41]?.getD undef = .slice (some ⟨g, 0, none⟩) n cap := hin 1 41 (by kernel_rfl)
          have h42 : A0.tmps[42]?.getD undef = .int .i64 h := hin 2 42 (by kernel_rfl)
          exact by simp [go_sem, h41, h42, q0, q1, q2, q3, q4, q5]
        · cases ho
          have h43 : A0.tmps[43]?.getD undef = .pointer (some ⟨g, h * 3, none⟩) := hin 3 43 (by kernel_rfl)
          exact exec_load 43 _ rfl stRow ⟨g, h * 3, none⟩ y h43 HYr.out.1 Haty.out
        · cases ho
          exact exec_move 0 _ rfl (hk 0 (by kernel_rfl))
        · cases ho
          exact exec_move 1 _ rfl (hk 1 (by kernel_rfl))
        · cases ho
          have h45 : A0.tmps[45]?.getD undef = .slice (some ⟨g, 0, none⟩) n cap := hin 5 45 (by kernel_rfl)
          have h46 : A0.tmps[46]?.getD undef = .int .i64 a := hin 6 46 (by kernel_rfl)
          exact by simp [go_sem, h45, h46, q0, q1, q2, q3, q4, q5]
        · cases ho
          have h47 : A0.tmps[47]?.getD undef = .pointer (some ⟨g, a * 3, none⟩) := hin 7 47 (by kernel_rfl)
          exact exec_load 47 _ rfl stRow ⟨g, a * 3, none⟩ x h47 HXr.out.1 Hatx.out
      simp only [putsL, Act.put, List.setIfInBounds_toArray, List.set_cons_succ, List.set_cons_zero]
      refine AtN.list 9 11 (by kernel_rfl) ?_
      change wpList _ _ _ [_, _] _ _
      go_wp2_with fail
      refine Hcall.out.mono ?_
      rintro e3 W3 ⟨rfl, hN3⟩
      have HN3 := Lib.hid (HNd.out.trans hN3 (fun _ _ x => x))
      clear hN3 Hcall HNd Hatx Haty
      by_cases hcn : c < 0
      · have hcd : decide (c < 0) = true := decide_eq_true hcn
        have HB2 := Lib.hid (HB.out.up hi1 hj1 (by rw [Hl.out]; exact ⟨y, Hy.out, by rw [Hcc.out]; exact hcn⟩))
        clear hcn
        go_wp2_with fail
        change AtN _ _ _ 11 _ _
        refine AtN.done rfl ?_
        go_wp2_with fail
        go_roundw
        case rel => first | exact ⟨h + 1, j, by go_num, rfl, HB2.out, HN3.out⟩ | exact ⟨h + 1, by go_num, HB2.out, HN3.out⟩
        case measure => simp only [intOf]; omega
      · have hcd : decide (c < 0) = false := decide_eq_false hcn
        have HB2 := Lib.hid (HB.out.down hi1 hj1 (by rw [Hr.out]; exact ⟨y, Hy.out, by unfold Le; rw [Hcc.out]; exact hcn⟩))
        clear hcn
        go_wp2_with fail
        change AtN _ _ _ 11 _ _
        refine AtN.done rfl ?_
        go_wp2_with fail
        go_roundw
        case rel => first | exact ⟨i, h, rfl, rfl, HB2.out, HN3.out⟩ | exact ⟨HB2.out, HN3.out⟩
        case measure => simp only [intOf]; omega
    · obtain rfl : i = j := by omega
      have HTi := Lib.hid (HT.out.chg HN.out id)
      have HCi := Lib.hid (show Chg w wr (fun k => k = g) from HN.out.mono (fun _ _ x => x.elim))
      have hl := HB.out.l
      have hr := HB.out.r
      rw [Hl.out] at hl
      rw [Hr.out] at hr
      have HL := Lib.hid hl
      have HR := Lib.hid hr
      clear hlt hij hl hr HB
      go_wp2_with fail
      go_loopw [13] (fun u13 wr => ∃ (k : Nat) (e : List (List Value)), a ≤ k ∧ k ≤ i - 1 ∧ u13 = .int .i64 k ∧ e.Perm d ∧ Mix e d a b ∧ Mv e d a k ∧ Tab wr g n e rest ∧ Chg w wr (fun k => k = g)) (fun u _ => i - (intOf u).toNat)
      case atStart => exact ⟨a, d, Nat.le_refl _, by omega, rfl, List.Perm.refl _, Mix.refl _ _ _, Mv.refl _ _, HTi.out, HCi.out⟩
      case round =>
        clear HN HTi HCi
        obtain ⟨k, e, hak, hki, rfl, hp, hmx, hmv, ht, hch⟩ := hrel
        have HP := Lib.hid hp
        have HM := Lib.hid hmx
        have HV := Lib.hid hmv
        have HTe := Lib.hid ht
        have HCh := Lib.hid hch
        clear hp hmx hmv ht hch
        by_cases hlt : k < i - 1
        · obtain ⟨z, hz, hze, hzr⟩ := HTe.out.cs (i := k) (by omega)
          obtain ⟨y, hy, hye, hyr⟩ := HTe.out.cs (i := k + 1) (by omega)
          have HT4 := Lib.hid (HTe.out.chg ((Chg.refl wr (fun _ => False)).drew) id)
          have HCh4 := Lib.hid (HCh.out.drew)
          have HP2 := Lib.hid ((swp_perm hz hy).trans HP.out)
          have HM2 := Lib.hid ((swp_mix (a := a) (b := b) hz hy hak (by omega) (by omega) (by omega)).trans HM.out)
          have HV2 := Lib.hid (HV.out.step hak hz hy)
          have HZr := Lib.hid hzr
          have HYr := Lib.hid hyr
          have Hatz := Lib.hid (HT4.out.get hz)
          have Haty := Lib.hid (HT4.out.get hy)
          clear hz hy hze hye hzr hyr HTe HCh HP HM HV
          go_upto_region 11 with fail
          have q0 : (0 : Int) ≤ (k : Int) := by omega
          have q1 : (k : Int) < (n : Int) := by omega
          have q2 : (0 : Int) ≤ (k : Int) + 1 := by omega
          have q3 : (k : Int) + 1 < (n : Int) := by omega
          have q4 : IntKind.i64.wrap ((k : Int) + 1) = (k : Int) + 1 := by rw [IntKind.wrap_i64]; omega
          have q5 : k < n := by omega
          have q6 : k + 1 < n := by omega
          have q7 : ((k : Int) + 1).toNat = k + 1 := by omega
          refine wp_region_at (by kernel_rfl) ?_
          generalize wr.drew = wd4 at HT4 HCh4 Hatz Haty ⊢
          obtain ⟨W5, hW5⟩ : ∃ W5, W5 = wd4.setRow g (layA (e.flatten ++ rest).toArray (k * 3) y) := ⟨_, rfl⟩
          have HT5 := Lib.hid (show Tab W5 g n (e.set (k) y) rest by rw [hW5]; exact HT4.out.set (by omega) HYr.out)
          have HCh5 := Lib.hid (show Chg w W5 (fun k => k = g) by rw [hW5]; exact HCh4.out.setRow _ _ (fun _ => rfl))
          have HW5 := Lib.hid hW5
          clear hW5
          refine AtN.segV3 0 16 15 (fun
            | 0 => .slice (some ⟨g, 0, none⟩) n cap
            | 1 => .int .i64 k
            | 2 => .slice (some ⟨g, 0, none⟩) n cap
            | 3 => .int .i64 k
            | 4 => .int .i64 ((k : Int) + 1)
            | 5 => .slice (some ⟨g, 0, none⟩) n cap
            | 6 => .int .i64 k
            | 7 => .int .i64 ((k : Int) + 1)
            | 8 => .pointer (some ⟨g, (k + 1) * 3, none⟩)
            | 9 => .agg y.toArray
            | 10 => .slice (some ⟨g, 0, none⟩) n cap
            | 11 => .int .i64 k
            | 12 => .pointer (some ⟨g, k * 3, none⟩)
            | 13 => .agg z.toArray
            | 14 => .pointer (some ⟨g, k * 3, none⟩)
            | _ => undef)
            [(0, 61), (1, 62), (2, 63), (3, 64), (4, 65), (5, 66), (6, 67), (7, 68), (8, 69), (9, 70), (10, 71), (11, 72), (12, 73), (13, 74), (14, 75)] [(61, .slice (some ⟨g, 0, none⟩) n cap), (62, .int .i64 k), (63, .slice (some ⟨g, 0, none⟩) n cap), (64, .int .i64 k), (65, .int .i64 ((k : Int) + 1)), (66, .slice (some ⟨g, 0, none⟩) n cap), (67, .int .i64 k), (68, .int .i64 ((k : Int) + 1)), (69, .pointer (some ⟨g, (k + 1) * 3, none⟩)), (70, .agg y.toArray), (71, .slice (some ⟨g, 0, none⟩) n cap), (72, .int .i64 k), (73, .pointer (some ⟨g, k * 3, none⟩)), (74, .agg z.toArray), (75, .pointer (some ⟨g, k * 3, none⟩))]
            (JTwo wd4 W5) (by kernel_rfl) (by kernel_rfl) (by kernel_rfl) (by kernel_rfl) rfl (⟨fun _ => rfl, fun h => by cases h⟩) (fun i hn hi o ho A0 W d hJ hμ hin hk => ?_) (fun W6 hJ => ?_)
          · rcases (show i = 0 ∨ i = 1 ∨ i = 2 ∨ i = 3 ∨ i = 4 ∨ i = 5 ∨ i = 6 ∨ i = 7 ∨ i = 8 ∨ i = 9 ∨ i = 10 ∨ i = 11 ∨ i = 12 ∨ i = 13 ∨ i = 14 ∨ i = 15 by omega) with rfl | rfl | rfl | rfl | rfl | rfl | rfl | rfl | rfl | rfl | rfl | rfl | rfl | rfl | rfl | rfl
            · cases ho
              exact .quiet (exec_move 0 _ rfl (hk 0 (by kernel_rfl))) hJ
            · cases ho
              exact .quiet (exec_move 13 _ rfl (hk 13 (by kernel_rfl))) hJ
            · cases ho
              exact .quiet (exec_move 0 _ rfl (hk 0 (by kernel_rfl))) hJ
            · cases ho
              exact .quiet (exec_move 13 _ rfl (hk 13 (by kernel_rfl))) hJ
            · cases ho
              have h64 : A0.tmps[64]?.getD undef = .int .i64 k := hin 3 64 (by kernel_rfl)
              exact .quiet (by simp [go_sem, h64, q0, q1, q2, q3, q4, q5, q6, q7]) hJ
            · cases ho
              exact .quiet (exec_move 0 _ rfl (hk 0 (by kernel_rfl))) hJ
            · cases ho
              exact .quiet (exec_move 13 _ rfl (hk 13 (by kernel_rfl))) hJ
            · cases ho
              have h67 : A0.tmps[67]?.getD undef = .int .i64 k := hin 6 67 (by kernel_rfl)
              exact .quiet (by simp [go_sem, h67, q0, q1, q2, q3, q4, q5, q6, q7]) hJ
            · cases ho
              have h66 : A0.tmps[66]?.getD undef = .slice (some ⟨g, 0, none⟩) n cap := hin 5 66 (by kernel_rfl)
              have h68 : A0.tmps[68]?.getD undef = .int .i64 ((k : Int) + 1) := hin 7 68 (by kernel_rfl)
              exact .quiet (by simp [go_sem, h66, h68, q0, q1, q2, q3, q4, q5, q6, q7]) hJ
            · cases ho
              have h69 : A0.tmps[69]?.getD undef = .pointer (some ⟨g, (k + 1) * 3, none⟩) := hin 8 69 (by kernel_rfl)
              obtain rfl : W = wd4 := hJ.1 (hμ (.inr (by kernel_rfl)))
              exact .quiet (exec_load 69 _ rfl stRow ⟨g, (k + 1) * 3, none⟩ y h69 HYr.out.1 Haty.out) hJ
            · cases ho
              exact .quiet (exec_move 0 _ rfl (hk 0 (by kernel_rfl))) hJ
            · cases ho
              exact .quiet (exec_move 13 _ rfl (hk 13 (by kernel_rfl))) hJ
            · cases ho
              have h71 : A0.tmps[71]?.getD undef = .slice (some ⟨g, 0, none⟩) n cap := hin 10 71 (by kernel_rfl)
              have h72 : A0.tmps[72]?.getD undef = .int .i64 k := hin 11 72 (by kernel_rfl)
              exact .quiet (by simp [go_sem, h71, h72, q0, q1, q2, q3, q4, q5, q6, q7]) hJ
            · cases ho
              have h73 : A0.tmps[73]?.getD undef = .pointer (some ⟨g, k * 3, none⟩) := hin 12 73 (by kernel_rfl)
              obtain rfl : W = wd4 := hJ.1 (hμ (.inr (by kernel_rfl)))
              exact .quiet (exec_load 73 _ rfl stRow ⟨g, k * 3, none⟩ z h73 HZr.out.1 Hatz.out) hJ
            · cases ho
              have h61 : A0.tmps[61]?.getD undef = .slice (some ⟨g, 0, none⟩) n cap := hin 0 61 (by kernel_rfl)
              have h62 : A0.tmps[62]?.getD undef = .int .i64 k := hin 1 62 (by kernel_rfl)
              exact .quiet (by simp [go_sem, h61, h62, q0, q1, q2, q3, q4, q5, q6, q7]) hJ
            · cases ho
              have h70 : A0.tmps[70]?.getD undef = .agg y.toArray := hin 9 70 (by kernel_rfl)
              have h75 : A0.tmps[75]?.getD undef = .pointer (some ⟨g, k * 3, none⟩) := hin 14 75 (by kernel_rfl)
              obtain rfl : W = wd4 := hJ.1 (hμ (.inl rfl))
              refine .skip (exec_store (.tmp 75) (.tmp 70) 45 rfl stRow g (k * 3) 45 _ y (by simpa [Act.eval] using h75) (by simpa [Act.eval] using h70) HT4.out.blk HYr.out.1 (HT4.out.fit (by omega)) HYr.out.2) ⟨⟨fun h => by cases d <;> simp at h, fun _ => HW5.out.symm⟩, rfl⟩
          simp only [putsL, Act.put, List.setIfInBounds_toArray, List.set_cons_succ, List.set_cons_zero]
          obtain rfl : W6 = W5 := hJ.2 rfl
          clear hJ HT4 HCh4 HW5 Hatz Haty
          refine AtN.list 16 17 (by kernel_rfl) ?_
          change wpList _ _ _ [_] _ _
          go_wp2_with fail
          change AtN _ _ _ 17 _ _
          refine AtN.list 17 18 (by kernel_rfl) ?_
          change wpList _ _ _ [_] _ _
          refine wpl_store rfl (.tmp 76) (.tmp 74) 45 rfl stRow g ((k + 1) * 3) 45 ((e.set (k) y).flatten ++ rest).toArray z rfl rfl HT5.out.blk HZr.out.1 (HT5.out.fit (by omega)) HZr.out.2 ?_
          have HT6 := Lib.hid (HT5.out.set (i := (k + 1)) (cs := z) (by omega) HZr.out)
          have HCh6 := Lib.hid (HCh5.out.setRow g (layA ((e.set (k) y).flatten ++ rest).toArray ((k + 1) * 3) z) (fun _ => rfl))
          refine AtN.done rfl ?_
          clear HT5 HCh5
          simp only [Act.put]
          go_wp2_with fail
          go_roundw
          case rel => exact ⟨k + 1, _, by omega, by omega, by go_num, HP2.out, HM2.out, HV2.out, HT6.out, HCh6.out⟩
          case measure => simp only [intOf]; omega
        · obtain rfl : k = i - 1 := by omega
          have HF := Lib.hid (HV.out.sorted HO.out Hx.out HSd.out hi hj HL.out HR.out)
          go_wp2_with fail
          go_end0
          exact ⟨rfl, e, HP.out, HM.out, HF.out, HTe.out, HCh.out⟩

set_option maxHeartbeats 4000000 in
set_option maxRecDepth 100000 in
theorem symTwo (w : World) (g n cap a m : Nat) (d : List (List Value)) (rest : List Value) (hT : Tab w g n d rest) (ham : a + 1 < m) (hb : m + 1 ≤ n) (hn : n ≤ 1000000) (hnc : n ≤ cap) (f : Nat) (lb : Array Value) (eg : Enters Try.prog f) (cf : List Value → List Value → Int) (ho : Ordr cf) (hc : CmpAt w g f lb cf d) (hs : Srt cf d a m) :
    Calls Try.prog 54 #[.slice (some ⟨g, 0, none⟩) n cap, .int .i64 a, .int .i64 m, .int .i64 ((m : Int) + 1), .func (.func f) #[] lb] w (Sorts w g n a (m + 1) rest cf d) := by
  unfold Enters at eg
  have HO := Lib.hid ho
  have HC := Lib.hid hc
  have HT := Lib.hid hT
  have HSd := Lib.hid hs
  obtain ⟨x, hx, hxe, hxr⟩ := hT.cs (i := m) (by omega)
  have Hx := Lib.hid hx
  have Hxe := Lib.hid hxe
  have HXr := Lib.hid hxr
  clear hT hc ho hs hx hxe hxr
  have b0 : (((m : Int) - (a : Int)) == 1) = false := by rw [beq_eq_false_iff_ne]; omega
  have b1 : ((m : Int) + 1 - (m : Int)) = 1 := by omega
  have b2 : (((m : Int) + 1 - (m : Int)) == 1) = true := by rw [beq_iff_eq]; omega
  obtain ⟨L, hL⟩ : ∃ L : Nat → Prop, L = fun p => ∃ y, d[p]? = some y ∧ Le cf y x := ⟨_, rfl⟩
  obtain ⟨R, hR⟩ : ∃ R : Nat → Prop, R = fun p => ∃ y, d[p]? = some y ∧ cf x y < 0 := ⟨_, rfl⟩
  have Hl := Lib.hid hL
  have Hr := Lib.hid hR
  clear hL hR
  go_enter Try.func54, Try.ntmps54
  go_wp2_with fail
  try simp only [b0, b1, b2]
  clear b0 b1 b2
  go_loopw [14, 15] (fun u14 u15 wr => ∃ (i j : Nat), u14 = .int .i64 i ∧ u15 = .int .i64 j ∧ Bin L R a m i j ∧ New w wr) (fun u14 u15 _ => (intOf u15).toNat - (intOf u14).toNat)
  case atStart => exact ⟨a, m, by go_num, rfl, ⟨Nat.le_refl _, by omega, Nat.le_refl _, .inl rfl, .inl rfl⟩, Chg.refl _ _⟩
  case round =>
    obtain ⟨i, j, rfl, rfl, hB, hN⟩ := hrel
    have hi := hB.lo
    have hij := hB.ij
    have hj := hB.hi
    have HB := Lib.hid hB
    have HN := Lib.hid hN
    clear hB hN
    by_cases hlt : i < j
    · obtain ⟨h, hh⟩ : ∃ h : Nat, h = (i + j) / 2 := ⟨_, rfl⟩
      have hhI : ((i : Int) + (j : Int)) / 2 = (h : Int) := by omega
      have hi1 : i ≤ h := by omega
      have hj1 : h < j := by omega
      have HhI := Lib.hid hhI
      clear hh hhI
      obtain ⟨y, hy, hye, hyr⟩ := HT.out.cs (i := h) (by omega)
      obtain ⟨c, hcc⟩ : ∃ c, cf x y = c := ⟨_, rfl⟩
      have hcall := HC.out x Hxe.out y hye wr.drew ((HN.out.drew).mono (fun _ _ x => x.elim))
      rw [hcc] at hcall
      have HTd := Lib.hid (HT.out.chg HN.out.drew id)
      have Hcall := Lib.hid hcall
      have Hcc := Lib.hid hcc
      have Hy := Lib.hid hy
      have HYr := Lib.hid hyr
      have HNd := Lib.hid HN.out.drew
      have Hatx := Lib.hid (HTd.out.get Hx.out)
      have Haty := Lib.hid (HTd.out.get hy)
      clear hy hye hyr hcc hcall HTd HN
      go_upto_region 17 with fail
      rw [HhI.out]
      refine wp_region_at (by kernel_rfl) ?_
      generalize wr.drew = wd at Hcall HNd Hatx Haty ⊢
      have q0 : (0 : Int) ≤ (h : Int) := by omega
      have q1 : (h : Int) < (n : Int) := by omega
      have q2 : (0 : Int) ≤ (m : Int) := by omega
      have q3 : (m : Int) < (n : Int) := by omega
      have q4 : h < n := by omega
      have q5 : m < n := by omega
      refine AtN.segQ2 0 9 (fun
        | 0 => .func (.func f) #[] lb
        | 1 => .slice (some ⟨g, 0, none⟩) n cap
        | 2 => .int .i64 m
        | 3 => .pointer (some ⟨g, m * 3, none⟩)
        | 4 => .agg x.toArray
        | 5 => .slice (some ⟨g, 0, none⟩) n cap
        | 6 => .int .i64 h
        | 7 => .pointer (some ⟨g, h * 3, none⟩)
        | _ => .agg y.toArray)
        [(92, .func (.func f) #[] lb), (93, .slice (some ⟨g, 0, none⟩) n cap), (94, .int .i64 m), (95, .pointer (some ⟨g, m * 3, none⟩)), (96, .agg x.toArray), (97, .slice (some ⟨g, 0, none⟩) n cap), (98, .int .i64 h), (99, .pointer (some ⟨g, h * 3, none⟩)), (100, .agg y.toArray)] (by kernel_rfl) (by kernel_rfl) (by kernel_rfl) (by kernel_rfl) rfl (fun i hn hi o ho A0 hin hk => ?_) ?_
      · rcases (show i = 0 ∨ i = 1 ∨ i = 2 ∨ i = 3 ∨ i = 4 ∨ i = 5 ∨ i = 6 ∨ i = 7 ∨ i = 8 by omega) with rfl | rfl | rfl | rfl | rfl | rfl | rfl | rfl | rfl
        · cases ho
          exact exec_move 4 _ rfl (hk 4 (by kernel_rfl))
        · cases ho
          exact exec_move 0 _ rfl (hk 0 (by kernel_rfl))
        · cases ho
          exact exec_move 2 _ rfl (hk 2 (by kernel_rfl))
        · cases ho
          have h93 : A0.tmps[93]?.getD undef = .slice (some ⟨g, 0, none⟩) n cap := hin 1 93 (by kernel_rfl)
          have h94 : A0.tmps[94]?.getD undef = .int .i64 m := hin 2 94 (by kernel_rfl)
          exact by simp [go_sem, h93, h94, q0, q1, q2, q3, q4, q5]
        · cases ho
          have h95 : A0.tmps[95]?.getD undef = .pointer (some ⟨g, m * 3, none⟩) := hin 3 95 (by kernel_rfl)
          exact exec_load 95 _ rfl stRow ⟨g, m * 3, none⟩ x h95 HXr.out.1 Hatx.out
        · cases ho
          exact exec_move 0 _ rfl (hk 0 (by kernel_rfl))
        · cases ho
          exact exec_move 16 _ rfl (hk 16 (by kernel_rfl))
        · cases ho
          have h97 : A0.tmps[97]?.getD undef = .slice (some ⟨g, 0, none⟩) n cap := hin 5 97 (by kernel_rfl)
          have h98 : A0.tmps[98]?.getD undef = .int .i64 h := hin 6 98 (by kernel_rfl)
          exact by simp [go_sem, h97, h98, q0, q1, q2, q3, q4, q5]
        · cases ho
          have h99 : A0.tmps[99]?.getD undef = .pointer (some ⟨g, h * 3, none⟩) := hin 7 99 (by kernel_rfl)
          exact exec_load 99 _ rfl stRow ⟨g, h * 3, none⟩ y h99 HYr.out.1 Haty.out
      simp only [putsL, Act.put, List.setIfInBounds_toArray, List.set_cons_succ, List.set_cons_zero]
      refine AtN.list 9 12 (by kernel_rfl) ?_
      change wpList _ _ _ [_, _, _] _ _
      go_wp2_with fail
      refine Hcall.out.mono ?_
      rintro e3 W3 ⟨rfl, hN3⟩
      have HN3 := Lib.hid (HNd.out.trans hN3 (fun _ _ x => x))
      clear hN3 Hcall HNd Hatx Haty
      by_cases hcn : c < 0
      · have hcd : decide (c < 0) = true := decide_eq_true hcn
        have HB2 := Lib.hid (HB.out.down hi1 hj1 (by rw [Hr.out]; exact ⟨y, Hy.out, by rw [Hcc.out]; exact hcn⟩))
        clear hcn
        go_wp2_with fail
        change AtN _ _ _ 12 _ _
        refine AtN.done rfl ?_
        go_wp2_with fail
        go_roundw
        case rel => first | exact ⟨i, h, rfl, rfl, HB2.out, HN3.out⟩ | exact ⟨HB2.out, HN3.out⟩
        case measure => simp only [intOf]; omega
      · have hcd : decide (c < 0) = false := decide_eq_false hcn
        have HB2 := Lib.hid (HB.out.up hi1 hj1 (by rw [Hl.out]; exact ⟨y, Hy.out, by unfold Le; rw [Hcc.out]; exact hcn⟩))
        clear hcn
        go_wp2_with fail
        change AtN _ _ _ 12 _ _
        refine AtN.done rfl ?_
        go_wp2_with fail
        go_roundw
        case rel => first | exact ⟨h + 1, j, by go_num, rfl, HB2.out, HN3.out⟩ | exact ⟨h + 1, by go_num, HB2.out, HN3.out⟩
        case measure => simp only [intOf]; omega
    · obtain rfl : i = j := by omega
      have HTi := Lib.hid (HT.out.chg HN.out id)
      have HCi := Lib.hid (show Chg w wr (fun k => k = g) from HN.out.mono (fun _ _ x => x.elim))
      have hl := HB.out.l
      have hr := HB.out.r
      rw [Hl.out] at hl
      rw [Hr.out] at hr
      have HL := Lib.hid hl
      have HR := Lib.hid hr
      clear hlt hij hl hr HB
      go_wp2_with fail
      go_loopw [17] (fun u17 wr => ∃ (k : Nat) (e : List (List Value)), i ≤ k ∧ k ≤ m ∧ u17 = .int .i64 k ∧ e.Perm d ∧ Mix e d a (m + 1) ∧ Mw e d m k ∧ Tab wr g n e rest ∧ Chg w wr (fun k => k = g)) (fun u _ => (intOf u).toNat)
      case atStart => exact ⟨m, d, by omega, Nat.le_refl _, rfl, List.Perm.refl _, Mix.refl _ _ _, Mw.refl _ _, HTi.out, HCi.out⟩
      case round =>
        clear HN HTi HCi
        obtain ⟨k, e, hik, hkm, rfl, hp, hmx, hmv, ht, hch⟩ := hrel
        have HP := Lib.hid hp
        have HM := Lib.hid hmx
        have HV := Lib.hid hmv
        have HTe := Lib.hid ht
        have HCh := Lib.hid hch
        clear hp hmx hmv ht hch
        by_cases hlt : i < k
        · obtain ⟨k, rfl⟩ : ∃ k0, k = k0 + 1 := ⟨k - 1, by omega⟩
          obtain ⟨z, hz, hze, hzr⟩ := HTe.out.cs (i := k + 1) (by omega)
          obtain ⟨y, hy, hye, hyr⟩ := HTe.out.cs (i := k) (by omega)
          have HT4 := Lib.hid (HTe.out.chg ((Chg.refl wr (fun _ => False)).drew) id)
          have HCh4 := Lib.hid (HCh.out.drew)
          have HP2 := Lib.hid ((swp_perm hz hy).trans HP.out)
          have HM2 := Lib.hid ((swp_mix (a := a) (b := m + 1) hz hy (by omega) (by omega) (by omega) (by omega)).trans HM.out)
          have HV2 := Lib.hid (HV.out.step hkm hz hy)
          have HZr := Lib.hid hzr
          have HYr := Lib.hid hyr
          have Hatz := Lib.hid (HT4.out.get hz)
          have Haty := Lib.hid (HT4.out.get hy)
          clear hz hy hze hye hzr hyr HTe HCh HP HM HV
          go_upto_region 23 with fail
          have q0 : (0 : Int) ≤ (k : Int) := by omega
          have q1 : (k : Int) < (n : Int) := by omega
          have q2 : (0 : Int) ≤ (k : Int) + 1 := by omega
          have q3 : (k : Int) + 1 < (n : Int) := by omega
          have q4 : IntKind.i64.wrap (k : Int) = (k : Int) := by rw [IntKind.wrap_i64]; omega
          have q5 : k < n := by omega
          have q6 : k + 1 < n := by omega
          have q7 : ((k : Int) + 1).toNat = k + 1 := by omega
          have q8 : IntKind.i64.wrap ((k : Int) + 1 - 1) = (k : Int) := by rw [IntKind.wrap_i64]; omega
          refine wp_region_at (by kernel_rfl) ?_
          generalize wr.drew = wd4 at HT4 HCh4 Hatz Haty ⊢
          obtain ⟨W5, hW5⟩ : ∃ W5, W5 = wd4.setRow g (layA (e.flatten ++ rest).toArray ((k + 1) * 3) y) := ⟨_, rfl⟩
          have HT5 := Lib.hid (show Tab W5 g n (e.set (k + 1) y) rest by rw [hW5]; exact HT4.out.set (by omega) HYr.out)
          have HCh5 := Lib.hid (show Chg w W5 (fun k => k = g) by rw [hW5]; exact HCh4.out.setRow _ _ (fun _ => rfl))
          have HW5 := Lib.hid hW5
          clear hW5
          refine AtN.segV3 0 16 15 (fun
            | 0 => .slice (some ⟨g, 0, none⟩) n cap
            | 1 => .int .i64 ((k : Int) + 1)
            | 2 => .slice (some ⟨g, 0, none⟩) n cap
            | 3 => .int .i64 ((k : Int) + 1)
            | 4 => .int .i64 (k : Int)
            | 5 => .slice (some ⟨g, 0, none⟩) n cap
            | 6 => .int .i64 ((k : Int) + 1)
            | 7 => .int .i64 (k : Int)
            | 8 => .pointer (some ⟨g, k * 3, none⟩)
            | 9 => .agg y.toArray
            | 10 => .slice (some ⟨g, 0, none⟩) n cap
            | 11 => .int .i64 ((k : Int) + 1)
            | 12 => .pointer (some ⟨g, (k + 1) * 3, none⟩)
            | 13 => .agg z.toArray
            | 14 => .pointer (some ⟨g, (k + 1) * 3, none⟩)
            | _ => undef)
            [(0, 113), (1, 114), (2, 115), (3, 116), (4, 117), (5, 118), (6, 119), (7, 120), (8, 121), (9, 122), (10, 123), (11, 124), (12, 125), (13, 126), (14, 127)] [(113, .slice (some ⟨g, 0, none⟩) n cap), (114, .int .i64 ((k : Int) + 1)), (115, .slice (some ⟨g, 0, none⟩) n cap), (116, .int .i64 ((k : Int) + 1)), (117, .int .i64 (k : Int)), (118, .slice (some ⟨g, 0, none⟩) n cap), (119, .int .i64 ((k : Int) + 1)), (120, .int .i64 (k : Int)), (121, .pointer (some ⟨g, k * 3, none⟩)), (122, .agg y.toArray), (123, .slice (some ⟨g, 0, none⟩) n cap), (124, .int .i64 ((k : Int) + 1)), (125, .pointer (some ⟨g, (k + 1) * 3, none⟩)), (126, .agg z.toArray), (127, .pointer (some ⟨g, (k + 1) * 3, none⟩))]
            (JTwo wd4 W5) (by kernel_rfl) (by kernel_rfl) (by kernel_rfl) (by kernel_rfl) rfl (⟨fun _ => rfl, fun h => by cases h⟩) (fun i hn hi o ho A0 W d hJ hμ hin hk => ?_) (fun W6 hJ => ?_)
          · rcases (show i = 0 ∨ i = 1 ∨ i = 2 ∨ i = 3 ∨ i = 4 ∨ i = 5 ∨ i = 6 ∨ i = 7 ∨ i = 8 ∨ i = 9 ∨ i = 10 ∨ i = 11 ∨ i = 12 ∨ i = 13 ∨ i = 14 ∨ i = 15 by omega) with rfl | rfl | rfl | rfl | rfl | rfl | rfl | rfl | rfl | rfl | rfl | rfl | rfl | rfl | rfl | rfl
            · cases ho
              exact .quiet (exec_move 0 _ rfl (hk 0 (by kernel_rfl))) hJ
            · cases ho
              exact .quiet (exec_move 17 _ rfl (hk 17 (by kernel_rfl))) hJ
            · cases ho
              exact .quiet (exec_move 0 _ rfl (hk 0 (by kernel_rfl))) hJ
            · cases ho
              exact .quiet (exec_move 17 _ rfl (hk 17 (by kernel_rfl))) hJ
            · cases ho
              have h116 : A0.tmps[116]?.getD undef = .int .i64 ((k : Int) + 1) := hin 3 116 (by kernel_rfl)
              exact .quiet (by simp [go_sem, h116, q0, q1, q2, q3, q4, q5, q6, q7, q8]) hJ
            · cases ho
              exact .quiet (exec_move 0 _ rfl (hk 0 (by kernel_rfl))) hJ
            · cases ho
              exact .quiet (exec_move 17 _ rfl (hk 17 (by kernel_rfl))) hJ
            · cases ho
              have h119 : A0.tmps[119]?.getD undef = .int .i64 ((k : Int) + 1) := hin 6 119 (by kernel_rfl)
              exact .quiet (by simp [go_sem, h119, q0, q1, q2, q3, q4, q5, q6, q7, q8]) hJ
            · cases ho
              have h118 : A0.tmps[118]?.getD undef = .slice (some ⟨g, 0, none⟩) n cap := hin 5 118 (by kernel_rfl)
              have h120 : A0.tmps[120]?.getD undef = .int .i64 (k : Int) := hin 7 120 (by kernel_rfl)
              exact .quiet (by simp [go_sem, h118, h120, q0, q1, q2, q3, q4, q5, q6, q7, q8]) hJ
            · cases ho
              have h121 : A0.tmps[121]?.getD undef = .pointer (some ⟨g, k * 3, none⟩) := hin 8 121 (by kernel_rfl)
              obtain rfl : W = wd4 := hJ.1 (hμ (.inr (by kernel_rfl)))
              exact .quiet (exec_load 121 _ rfl stRow ⟨g, k * 3, none⟩ y h121 HYr.out.1 Haty.out) hJ
            · cases ho
              exact .quiet (exec_move 0 _ rfl (hk 0 (by kernel_rfl))) hJ
            · cases ho
              exact .quiet (exec_move 17 _ rfl (hk 17 (by kernel_rfl))) hJ
            · cases ho
              have h123 : A0.tmps[123]?.getD undef = .slice (some ⟨g, 0, none⟩) n cap := hin 10 123 (by kernel_rfl)
              have h124 : A0.tmps[124]?.getD undef = .int .i64 ((k : Int) + 1) := hin 11 124 (by kernel_rfl)
              exact .quiet (by simp [go_sem, h123, h124, q0, q1, q2, q3, q4, q5, q6, q7, q8]) hJ
            · cases ho
              have h125 : A0.tmps[125]?.getD undef = .pointer (some ⟨g, (k + 1) * 3, none⟩) := hin 12 125 (by kernel_rfl)
              obtain rfl : W = wd4 := hJ.1 (hμ (.inr (by kernel_rfl)))
              exact .quiet (exec_load 125 _ rfl stRow ⟨g, (k + 1) * 3, none⟩ z h125 HZr.out.1 Hatz.out) hJ
            · cases ho
              have h113 : A0.tmps[113]?.getD undef = .slice (some ⟨g, 0, none⟩) n cap := hin 0 113 (by kernel_rfl)
              have h114 : A0.tmps[114]?.getD undef = .int .i64 ((k : Int) + 1) := hin 1 114 (by kernel_rfl)
              exact .quiet (by simp [go_sem, h113, h114, q0, q1, q2, q3, q4, q5, q6, q7, q8]) hJ
            · cases ho
              have h122 : A0.tmps[122]?.getD undef = .agg y.toArray := hin 9 122 (by kernel_rfl)
              have h127 : A0.tmps[127]?.getD undef = .pointer (some ⟨g, (k + 1) * 3, none⟩) := hin 14 127 (by kernel_rfl)
              obtain rfl : W = wd4 := hJ.1 (hμ (.inl rfl))
              refine .skip (exec_store (.tmp 127) (.tmp 122) 45 rfl stRow g ((k + 1) * 3) 45 _ y (by simpa [Act.eval] using h127) (by simpa [Act.eval] using h122) HT4.out.blk HYr.out.1 (HT4.out.fit (by omega)) HYr.out.2) ⟨⟨fun h => by cases d <;> simp at h, fun _ => HW5.out.symm⟩, rfl⟩
          simp only [putsL, Act.put, List.setIfInBounds_toArray, List.set_cons_succ, List.set_cons_zero]
          obtain rfl : W6 = W5 := hJ.2 rfl
          clear hJ HT4 HCh4 HW5 Hatz Haty
          refine AtN.list 16 17 (by kernel_rfl) ?_
          change wpList _ _ _ [_] _ _
          go_wp2_with fail
          change AtN _ _ _ 17 _ _
          refine AtN.list 17 18 (by kernel_rfl) ?_
          change wpList _ _ _ [_] _ _
          refine wpl_store rfl (.tmp 128) (.tmp 126) 45 rfl stRow g (k * 3) 45 ((e.set ((k + 1)) y).flatten ++ rest).toArray z rfl rfl HT5.out.blk HZr.out.1 (HT5.out.fit (by omega)) HZr.out.2 ?_
          have HT6 := Lib.hid (HT5.out.set (i := k) (cs := z) (by omega) HZr.out)
          have HCh6 := Lib.hid (HCh5.out.setRow g (layA ((e.set ((k + 1)) y).flatten ++ rest).toArray (k * 3) z) (fun _ => rfl))
          refine AtN.done rfl ?_
          clear HT5 HCh5
          simp only [Act.put]
          go_wp2_with fail
          go_roundw
          case rel => exact ⟨k, _, by omega, by omega, by go_num, HP2.out, HM2.out, HV2.out, HT6.out, HCh6.out⟩
          case measure => simp only [intOf]; omega
        · obtain rfl : k = i := by omega
          have HF := Lib.hid (HV.out.sorted HO.out Hx.out HSd.out hi hj HL.out HR.out)
          go_wp2_with fail
          go_end0
          exact ⟨rfl, e, HP.out, HM.out, HF.out, HTe.out, HCh.out⟩
end Go.Proofs.Ytfocjfnkcabbgaa

set_option linter.unusedVariables false
set_option linter.unusedSimpArgs false
namespace Go.Proofs.Ytfocjfnkcabbgaa
open Go.RowKit Go.Shelf

/-- What merging two ranges in order does. -/
def Merges (g n cap f : Nat) (lb : Array Value) (rest : List Value) (cf : List Value → List Value → Int) (sz : Nat) : Prop :=
  ∀ (a m b : Nat) (w : World) (d : List (List Value)), b - a < sz → a < m → m < b → b ≤ n → Tab w g n d rest → CmpAt w g f lb cf d → Srt cf d a m → Srt cf d m b →
    Calls Try.prog 54 #[.slice (some ⟨g, 0, none⟩) n cap, .int .i64 a, .int .i64 m, .int .i64 b, .func (.func f) #[] lb] w (Sorts w g n a b rest cf d)

theorem rotL_id {α : Type} {d : List α} {S m E : Nat} (h1 : S ≤ m) (h2 : m ≤ E) (h3 : E ≤ d.length) (h : S = m ∨ E = m) : rotL d S m E = d := by
  apply List.ext_getElem?
  intro p
  rw [rotL_get h1 h2 h3]
  repeat' split
  all_goals first | rfl | (exfalso; omega) | (congr 1; omega)

set_option maxHeartbeats 4000000 in
set_option maxRecDepth 100000 in
theorem symGen (w : World) (g n cap a m b : Nat) (d : List (List Value)) (rest : List Value) (hT : Tab w g n d rest) (ham : a + 1 < m) (hmb : m + 1 < b) (hb : b ≤ n) (hn : n ≤ 1000000) (hnc : n ≤ cap) (f : Nat) (lb : Array Value) (eg : Enters Try.prog f) (cf : List Value → List Value → Int) (ho : Ordr cf) (hc : CmpAt w g f lb cf d) (hs1 : Srt cf d a m) (hs2 : Srt cf d m b)
    (ih : Merges g n cap f lb rest cf (b - a)) :
    Calls Try.prog 54 #[.slice (some ⟨g, 0, none⟩) n cap, .int .i64 a, .int .i64 m, .int .i64 b, .func (.func f) #[] lb] w (Sorts w g n a b rest cf d) := by
  have egf := eg
  unfold Enters at eg
  obtain ⟨mid, hmid⟩ : ∃ mid : Nat, mid = (a + b) / 2 := ⟨_, rfl⟩
  have hmI : ((a : Int) + (b : Int)) / 2 = (mid : Int) := by omega
  obtain ⟨lo, hi, hlh⟩ : ∃ lo hi : Nat, (mid < m ∧ lo + b = mid + m ∧ hi = mid) ∨ (m ≤ mid ∧ lo = a ∧ hi = m) := by
    by_cases h : mid < m
    · exact ⟨mid + m - b, _, .inl ⟨h, by omega, rfl⟩⟩
    · exact ⟨_, _, .inr ⟨by omega, rfl, rfl⟩⟩
  obtain ⟨p0, hp0⟩ : ∃ p0 : Nat, p0 + 1 = mid + m := ⟨mid + m - 1, by omega⟩
  have g1 : a ≤ lo := by omega
  have g2 : lo ≤ hi := by omega
  have g3 : hi ≤ m := by omega
  have g4 : p0 + 1 ≤ b + lo := by omega
  have g5 : m + hi ≤ p0 + 1 := by omega
  have g6 : a < mid := by omega
  have g7 : mid < b := by omega
  have HO := Lib.hid ho
  have HC := Lib.hid hc
  have HT := Lib.hid hT
  have HS1 := Lib.hid hs1
  have HS2 := Lib.hid hs2
  have IH := Lib.hid ih
  have HmI := Lib.hid hmI
  have HLH := Lib.hid hlh
  have HP0 := Lib.hid hp0
  obtain ⟨L, hL⟩ : ∃ L : Nat → Prop, L = fun c => ∃ x y, d[c]? = some x ∧ d[p0 - c]? = some y ∧ Le cf x y := ⟨_, rfl⟩
  obtain ⟨R, hR⟩ : ∃ R : Nat → Prop, R = fun c => ∃ x y, d[c]? = some x ∧ d[p0 - c]? = some y ∧ cf y x < 0 := ⟨_, rfl⟩
  have Hl := Lib.hid hL
  have Hr := Lib.hid hR
  have b0 : (((m : Int) - (a : Int)) == 1) = false := by rw [beq_eq_false_iff_ne]; omega
  have b1 : (((b : Int) - (m : Int)) == 1) = false := by rw [beq_eq_false_iff_ne]; omega
  clear hT hc ho hs1 hs2 ih hL hR hlh hmI hmid hp0
  go_enter Try.func54, Try.ntmps54
  go_upto_region 25 with fail
  rw [HmI.out]
  try simp only [b0, b1]
  clear b0 b1
  obtain ⟨bd, hbd⟩ : ∃ bd : Bool, decide ((mid : Int) < (m : Int)) = bd := ⟨_, rfl⟩
  have Hbd := Lib.hid hbd
  go_upto_if 140 with fail
  try rw [hbd]
  clear hbd
  go_cut [20, 21] from 141 to 146 (fun c20 c21 wx => c20 = .int .i64 lo ∧ c21 = .int .i64 hi ∧ wx = w)
  case first =>
    have hp0 := HP0.out
    have hbd := Hbd.out
    rcases HLH.out with ⟨h1, h2, h3⟩ | ⟨h1, h2, h3⟩
    · obtain rfl : bd = true := by rw [← hbd]; exact decide_eq_true (by omega)
      clear hbd
      go_wp2_with fail
      go_meet
      exact ⟨congrArg (Value.int .i64) (by omega), congrArg (Value.int .i64) (by omega), rfl⟩
    · obtain rfl : bd = false := by rw [← hbd]; exact decide_eq_false (by omega)
      clear hbd
      go_wp2_with fail
      go_meet
      exact ⟨congrArg (Value.int .i64) (by omega), congrArg (Value.int .i64) (by omega), rfl⟩
  case rest =>
    obtain ⟨rfl, rfl, hw⟩ := hcut
    obtain rfl : w = wc := hw.symm
    clear Hbd
    have e1 : (mid : Int) + (m : Int) = (p0 : Int) + 1 := by have := HP0.out; omega
    rw [e1]
    clear e1
    go_wp2_with fail
    go_loopw [20, 21] (fun u20 u21 wr => ∃ (i j : Nat), u20 = .int .i64 i ∧ u21 = .int .i64 j ∧ Bin L R lo hi i j ∧ New w wr) (fun u20 u21 _ => (intOf u21).toNat - (intOf u20).toNat)
    case atStart => exact ⟨lo, hi, rfl, rfl, ⟨Nat.le_refl _, g2, Nat.le_refl _, .inl rfl, .inl rfl⟩, Chg.refl _ _⟩
    case round =>
      obtain ⟨i, j, rfl, rfl, hB, hN⟩ := hrel
      have hi1 := hB.lo
      have hij := hB.ij
      have hj1 := hB.hi
      have HB := Lib.hid hB
      have HN := Lib.hid hN
      clear hB hN
      by_cases hlt : i < j
      · obtain ⟨h, hh⟩ : ∃ h : Nat, h = (i + j) / 2 := ⟨_, rfl⟩
        have hhI : ((i : Int) + (j : Int)) / 2 = (h : Int) := by omega
        have hih : i ≤ h := by omega
        have hhj : h < j := by omega
        have HhI := Lib.hid hhI
        clear hh hhI
        obtain ⟨z, hz⟩ : ∃ z : Nat, z = p0 - h := ⟨_, rfl⟩
        have hzp : z + h = p0 := by omega
        obtain ⟨x, hx, hxe, hxr⟩ := HT.out.cs (i := h) (by omega)
        obtain ⟨y, hy, hye, hyr⟩ := HT.out.cs (i := z) (by omega)
        obtain ⟨c, hcc⟩ : ∃ c, cf y x = c := ⟨_, rfl⟩
        have hcall := HC.out y hye x hxe wr.drew ((HN.out.drew).mono (fun _ _ x => x.elim))
        rw [hcc] at hcall
        have HTd := Lib.hid (HT.out.chg HN.out.drew id)
        have Hcall := Lib.hid hcall
        have Hcc := Lib.hid hcc
        have Hx := Lib.hid hx
        have Hy := Lib.hid (show d[p0 - h]? = some y by rw [← hz]; exact hy)
        have HXr := Lib.hid hxr
        have HYr := Lib.hid hyr
        have HNd := Lib.hid HN.out.drew
        have Hatx := Lib.hid (HTd.out.get hx)
        have Haty := Lib.hid (HTd.out.get hy)
        have q1 : (h : Int) < (n : Int) := by omega
        have q3 : (z : Int) < (n : Int) := by omega
        have q4 : h < n := by omega
        have q5 : z < n := by omega
        have q6 : IntKind.i64.wrap ((p0 : Int) - (h : Int)) = (z : Int) := by rw [IntKind.wrap_i64]; omega
        clear hx hy hxe hye hxr hyr hcc hcall HTd HN hz
        go_upto_region 35 with fail
        rw [HhI.out]
        refine wp_region_at (by kernel_rfl) ?_
        generalize wr.drew = wd at Hcall HNd Hatx Haty ⊢
        have q0 : (0 : Int) ≤ (h : Int) := by omega
        have q2 : (0 : Int) ≤ (z : Int) := by omega
        refine AtN.segQ2 0 11 (fun
          | 0 => .func (.func f) #[] lb
          | 1 => .slice (some ⟨g, 0, none⟩) n cap
          | 2 => .int .i64 p0
          | 3 => .int .i64 h
          | 4 => .int .i64 z
          | 5 => .pointer (some ⟨g, z * 3, none⟩)
          | 6 => .agg y.toArray
          | 7 => .slice (some ⟨g, 0, none⟩) n cap
          | 8 => .int .i64 h
          | 9 => .pointer (some ⟨g, h * 3, none⟩)
          | _ => .agg x.toArray)
          [(158, .func (.func f) #[] lb), (159, .slice (some ⟨g, 0, none⟩) n cap), (160, .int .i64 p0), (161, .int .i64 h), (162, .int .i64 z), (163, .pointer (some ⟨g, z * 3, none⟩)), (164, .agg y.toArray), (165, .slice (some ⟨g, 0, none⟩) n cap), (166, .int .i64 h), (167, .pointer (some ⟨g, h * 3, none⟩)), (168, .agg x.toArray)] (by kernel_rfl) (by kernel_rfl) (by kernel_rfl) (by kernel_rfl) rfl (fun i hn hi o ho A0 hin hk => ?_) ?_
        · rcases (show i = 0 ∨ i = 1 ∨ i = 2 ∨ i = 3 ∨ i = 4 ∨ i = 5 ∨ i = 6 ∨ i = 7 ∨ i = 8 ∨ i = 9 ∨ i = 10 by omega) with rfl | rfl | rfl | rfl | rfl | rfl | rfl | rfl | rfl | rfl | rfl
          · cases ho
            exact exec_move 4 _ rfl (hk 4 (by kernel_rfl))
          · cases ho
            exact exec_move 0 _ rfl (hk 0 (by kernel_rfl))
          · cases ho
            exact exec_move 22 _ rfl (hk 22 (by kernel_rfl))
          · cases ho
            exact exec_move 23 _ rfl (hk 23 (by kernel_rfl))
          · cases ho
            have h160 : A0.tmps[160]?.getD undef = .int .i64 p0 := hin 2 160 (by kernel_rfl)
            have h161 : A0.tmps[161]?.getD undef = .int .i64 h := hin 3 161 (by kernel_rfl)
            exact by simp [go_sem, h160, h161, q6]
          · cases ho
            have h159 : A0.tmps[159]?.getD undef = .slice (some ⟨g, 0, none⟩) n cap := hin 1 159 (by kernel_rfl)
            have h162 : A0.tmps[162]?.getD undef = .int .i64 z := hin 4 162 (by kernel_rfl)
            exact by simp [go_sem, h159, h162, q0, q1, q2, q3, q4, q5]
          · cases ho
            have h163 : A0.tmps[163]?.getD undef = .pointer (some ⟨g, z * 3, none⟩) := hin 5 163 (by kernel_rfl)
            exact exec_load 163 _ rfl stRow ⟨g, z * 3, none⟩ y h163 HYr.out.1 Haty.out
          · cases ho
            exact exec_move 0 _ rfl (hk 0 (by kernel_rfl))
          · cases ho
            exact exec_move 23 _ rfl (hk 23 (by kernel_rfl))
          · cases ho
            have h165 : A0.tmps[165]?.getD undef = .slice (some ⟨g, 0, none⟩) n cap := hin 7 165 (by kernel_rfl)
            have h166 : A0.tmps[166]?.getD undef = .int .i64 h := hin 8 166 (by kernel_rfl)
            exact by simp [go_sem, h165, h166, q0, q1, q2, q3, q4, q5]
          · cases ho
            have h167 : A0.tmps[167]?.getD undef = .pointer (some ⟨g, h * 3, none⟩) := hin 9 167 (by kernel_rfl)
            exact exec_load 167 _ rfl stRow ⟨g, h * 3, none⟩ x h167 HXr.out.1 Hatx.out
        simp only [putsL, Act.put, List.setIfInBounds_toArray, List.set_cons_succ, List.set_cons_zero]
        refine AtN.list 11 14 (by kernel_rfl) ?_
        change wpList _ _ _ [_, _, _] _ _
        go_wp2_with fail
        refine Hcall.out.mono ?_
        rintro e3 W3 ⟨rfl, hN3⟩
        have HN3 := Lib.hid (HNd.out.trans hN3 (fun _ _ x => x))
        clear hN3 Hcall HNd Hatx Haty
        by_cases hcn : c < 0
        · have hcd : decide (c < 0) = true := decide_eq_true hcn
          have HB2 := Lib.hid (HB.out.down hih hhj (by rw [Hr.out]; exact ⟨x, y, Hx.out, Hy.out, by rw [Hcc.out]; exact hcn⟩))
          clear hcn
          go_wp2_with fail
          change AtN _ _ _ 14 _ _
          refine AtN.done rfl ?_
          go_wp2_with fail
          go_roundw
          case rel => first | exact ⟨i, h, rfl, rfl, HB2.out, HN3.out⟩ | exact ⟨HB2.out, HN3.out⟩
          case measure => simp only [intOf]; omega
        · have hcd : decide (c < 0) = false := decide_eq_false hcn
          have HB2 := Lib.hid (HB.out.up hih hhj (by rw [Hl.out]; exact ⟨x, y, Hx.out, Hy.out, by unfold Le; rw [Hcc.out]; exact hcn⟩))
          clear hcn
          go_wp2_with fail
          change AtN _ _ _ 14 _ _
          refine AtN.done rfl ?_
          go_wp2_with fail
          go_roundw
          case rel => first | exact ⟨h + 1, j, by go_num, rfl, HB2.out, HN3.out⟩ | exact ⟨h + 1, by go_num, HB2.out, HN3.out⟩
          case measure => simp only [intOf]; omega
      · obtain rfl : i = j := by omega
        obtain ⟨E, hE⟩ : ∃ E : Nat, E + i = p0 + 1 := ⟨p0 + 1 - i, by omega⟩
        have hiE : (p0 : Int) + 1 - (i : Int) = (E : Int) := by omega
        have k1 : m ≤ E := by omega
        have k2 : E ≤ b := by omega
        have k3 : a ≤ i := by omega
        have k4 : i ≤ m := by omega
        have hmidE : mid = i + (E - m) := by have := HP0.out; omega
        have hleft : i = a ∨ E = b ∨ ∃ x y, d[i - 1]? = some x ∧ d[E]? = some y ∧ ¬ cf y x < 0 := by
          have hp0 := HP0.out
          rcases HB.out.l with h | h
          · rcases HLH.out with ⟨u1, u2, u3⟩ | ⟨u1, u2, u3⟩
            · exact .inr (.inl (by omega))
            · exact .inl (by omega)
          · by_cases hia : i = a
            · exact .inl hia
            · rw [Hl.out] at h
              obtain ⟨x, y, hx, hy, hc⟩ := h
              exact .inr (.inr ⟨x, y, hx, by rw [show E = p0 - (i - 1) by omega]; exact hy, hc⟩)
        have hright : i = m ∨ E = m ∨ ∃ x y, d[i]? = some x ∧ d[E - 1]? = some y ∧ cf y x < 0 := by
          have hp0 := HP0.out
          rcases HB.out.r with h | h
          · rcases HLH.out with ⟨u1, u2, u3⟩ | ⟨u1, u2, u3⟩
            · exact .inr (.inl (by omega))
            · exact .inl (by omega)
          · rw [Hr.out] at h
            obtain ⟨x, y, hx, hy, hc⟩ := h
            exact .inr (.inr ⟨x, y, hx, by rw [show E - 1 = p0 - i by omega]; exact hy, hc⟩)
        have HSym := Lib.hid (sym_turn HO.out HS1.out HS2.out (by rw [HT.out.len]; exact hb) k3 k4 k1 k2 hmidE hleft hright)
        have HTi := Lib.hid (HT.out.chg HN.out id)
        have HCi := Lib.hid (show Chg w wr (fun k => k = g) from HN.out.mono (fun _ _ x => x.elim))
        have HhiE := Lib.hid hiE
        have HmE := Lib.hid hmidE
        clear hleft hright hmidE hlt hij HB HN HT HS1 HS2 hiE hE Hl Hr HP0 HLH
        clear hi1 hj1 g1 g2 g3 g4 g5
        obtain ⟨b1, hb1⟩ : ∃ b1 : Bool, (decide (i < m) && decide (m < E)) = b1 := ⟨_, rfl⟩
        obtain ⟨b2, hb2⟩ : ∃ b2 : Bool, (decide (a < i) && decide (i < mid)) = b2 := ⟨_, rfl⟩
        obtain ⟨b3, hb3⟩ : ∃ b3 : Bool, (decide (mid < E) && decide (E < b)) = b3 := ⟨_, rfl⟩
        have H1 := Lib.hid hb1
        have H2 := Lib.hid hb2
        have H3 := Lib.hid hb3
        clear hb1 hb2 hb3
        obtain ⟨d1, hd1⟩ : ∃ d1, d1 = rotL d i m E := ⟨_, rfl⟩
        have HSym' := HSym
        rw [← hd1] at HSym
        have HD1 := Lib.hid hd1
        clear hd1 HSym'
        go_upto_region 39 with fail
        rw [HhiE.out]
        try rw [show wrap64 (E : Int) = (E : Int) from by unfold wrap64; omega]
        go_cut [185] from 178 to 185 (fun c wx => c = .bool b1 ∧ wx = wr)
        case first =>
          have h1 := H1.out
          by_cases u1 : i < m
          · have v1 : decide ((i : Int) < (m : Int)) = true := decide_eq_true (by omega)
            by_cases u2 : m < E
            · have v2 : decide ((m : Int) < (E : Int)) = true := decide_eq_true (by omega)
              obtain rfl : b1 = true := by rw [← h1]; simp [u1, u2]
              clear h1
              go_wp2_with fail
              go_meet
              exact ⟨rfl, rfl⟩
            · have v2 : decide ((m : Int) < (E : Int)) = false := decide_eq_false (by omega)
              obtain rfl : b1 = false := by rw [← h1]; simp [u2]
              clear h1
              go_wp2_with fail
              go_meet
              exact ⟨rfl, rfl⟩
          · have v1 : decide ((i : Int) < (m : Int)) = false := decide_eq_false (by omega)
            obtain rfl : b1 = false := by rw [← h1]; simp [u1]
            clear h1
            go_wp2_with fail
            go_meet
            exact ⟨rfl, rfl⟩
        case rest =>
          obtain ⟨rfl, hw⟩ := hcut
          obtain rfl : wr = wc := hw.symm
          go_upto_if 185 with fail
          go_cut [191] from 186 to 191 (fun c wx => Tab wx g n d1 rest ∧ d1.Perm d ∧ Chg w wx (fun k => k = g))
          case first =>
            cases b1 with
            | true =>
              have h1 := H1.out
              simp only [Bool.and_eq_true, decide_eq_true_eq] at h1
              have hrot := rotRng wr g n cap i m E d rest HTi.out h1.1 h1.2 (by omega) hn hnc (.func (.func f) #[] lb)
              rw [← HD1.out] at hrot
              have Hrot := Lib.hid hrot
              clear hrot h1
              go_wp2_with fail
              refine Hrot.out.mono ?_
              rintro e W ⟨rfl, hp, ht, hc⟩
              have HX := Lib.hid (show Tab W g n d1 rest ∧ d1.Perm d ∧ Chg w W (fun k => k = g) from ⟨ht, hp, HCi.out.trans hc (fun _ _ h => h)⟩)
              clear hp ht hc
              go_wp2_with fail
              go_meet
              exact HX.out
            | false =>
              have h1 := H1.out
              have hid : d1 = d := by
                rw [HD1.out]
                refine rotL_id k4 k1 (by rw [HTi.out.len]; omega) ?_
                by_cases u1 : i < m
                · right
                  by_cases u2 : m < E
                  · simp [u1, u2] at h1
                  · omega
                · left; omega
              have HX := Lib.hid (show Tab wr g n d1 rest ∧ d1.Perm d ∧ Chg w wr (fun k => k = g) from ⟨by rw [hid]; exact HTi.out, by rw [hid], HCi.out⟩)
              clear hid h1
              go_wp2_with fail
              go_meet
              exact HX.out
          case rest =>
            obtain ⟨ht1, hp1, hc1⟩ := hcut
            have HT1 := Lib.hid ht1
            have HP1 := Lib.hid hp1
            have HC1 := Lib.hid hc1
            clear ht1 hp1 hc1 HTi HCi
            have HL1 := Lib.hid (show d1.length = n from HT1.out.len)
            go_upto_region 41 with fail
            go_cut [199] from 192 to 199 (fun c wy => c = .bool b2 ∧ wy = wc)
            case first =>
              have h1 := H2.out
              by_cases u1 : a < i
              · have v1 : decide ((a : Int) < (i : Int)) = true := decide_eq_true (by omega)
                by_cases u2 : i < mid
                · have v2 : decide ((i : Int) < (mid : Int)) = true := decide_eq_true (by omega)
                  obtain rfl : b2 = true := by rw [← h1]; simp [u1, u2]
                  clear h1
                  go_wp2_with fail
                  go_meet
                  exact ⟨rfl, rfl⟩
                · have v2 : decide ((i : Int) < (mid : Int)) = false := decide_eq_false (by omega)
                  obtain rfl : b2 = false := by rw [← h1]; simp [u2]
                  clear h1
                  go_wp2_with fail
                  go_meet
                  exact ⟨rfl, rfl⟩
              · have v1 : decide ((a : Int) < (i : Int)) = false := decide_eq_false (by omega)
                obtain rfl : b2 = false := by rw [← h1]; simp [u1]
                clear h1
                go_wp2_with fail
                go_meet
                exact ⟨rfl, rfl⟩
            case rest =>
              obtain ⟨rfl, hw⟩ := hcut
              obtain rfl := hw
              go_upto_if 199 with fail
              go_cut [205] from 200 to 205 (fun c wx => ∃ d2, d2.Perm d1 ∧ Mix d2 d1 a mid ∧ Srt cf d2 a mid ∧ Tab wx g n d2 rest ∧ Chg w wx (fun k => k = g))
              case first =>
                cases b2 with
                | true =>
                  have h1 := H2.out
                  simp only [Bool.and_eq_true, decide_eq_true_eq] at h1
                  have hrec := IH.out a i mid _ d1 (by omega) h1.1 h1.2 (by omega) HT1.out ((HC.out.perm HP1.out).chg HC1.out) HSym.out.s1 HSym.out.s2
                  have Hrec := Lib.hid hrec
                  clear hrec h1
                  go_wp2_with fail
                  refine Hrec.out.mono ?_
                  rintro e W ⟨rfl, d2, hp2, hm2, hs2, ht2, hc2⟩
                  have HX := Lib.hid (show ∃ d2, d2.Perm d1 ∧ Mix d2 d1 a mid ∧ Srt cf d2 a mid ∧ Tab W g n d2 rest ∧ Chg w W (fun k => k = g) from ⟨d2, hp2, hm2, hs2, ht2, HC1.out.trans hc2 (fun _ _ h => h)⟩)
                  clear hp2 hm2 hs2 ht2 hc2
                  go_wp2_with fail
                  go_meet
                  exact HX.out
                | false =>
                  have h1 := H2.out
                  have hmE := HmE.out
                  have hs2 : Srt cf d1 a mid := by
                    by_cases u1 : a < i
                    · by_cases u2 : i < mid
                      · simp [u1, u2] at h1
                      · obtain rfl : mid = i := by omega
                        exact HSym.out.s1
                    · obtain rfl : i = a := by omega
                      exact HSym.out.s2
                  have HX := Lib.hid (show ∃ d2, d2.Perm d1 ∧ Mix d2 d1 a mid ∧ Srt cf d2 a mid ∧ Tab _ g n d2 rest ∧ Chg w _ (fun k => k = g) from ⟨d1, List.Perm.refl _, Mix.refl _ _ _, hs2, HT1.out, HC1.out⟩)
                  clear h1 hs2 hmE
                  go_wp2_with fail
                  go_meet
                  exact HX.out
              case rest =>
                obtain ⟨d2, hp2, hm2, hs2, ht2, hc2⟩ := hcut
                have HP2 := Lib.hid hp2
                have HM2 := Lib.hid hm2
                have HS2 := Lib.hid hs2
                have HT2 := Lib.hid ht2
                have HC2 := Lib.hid hc2
                clear hp2 hm2 hs2 ht2 hc2 HT1 HC1
                go_upto_region 43 with fail
                go_cut [213] from 206 to 213 (fun c wz => c = .bool b3 ∧ wz = wc)
                case first =>
                  have h1 := H3.out
                  by_cases u1 : mid < E
                  · have v1 : decide ((mid : Int) < (E : Int)) = true := decide_eq_true (by omega)
                    by_cases u2 : E < b
                    · have v2 : decide ((E : Int) < (b : Int)) = true := decide_eq_true (by omega)
                      obtain rfl : b3 = true := by rw [← h1]; simp [u1, u2]
                      clear h1
                      go_wp2_with fail
                      go_meet
                      exact ⟨rfl, rfl⟩
                    · have v2 : decide ((E : Int) < (b : Int)) = false := decide_eq_false (by omega)
                      obtain rfl : b3 = false := by rw [← h1]; simp [u2]
                      clear h1
                      go_wp2_with fail
                      go_meet
                      exact ⟨rfl, rfl⟩
                  · have v1 : decide ((mid : Int) < (E : Int)) = false := decide_eq_false (by omega)
                    obtain rfl : b3 = false := by rw [← h1]; simp [u1]
                    clear h1
                    go_wp2_with fail
                    go_meet
                    exact ⟨rfl, rfl⟩
                case rest =>
                  obtain ⟨rfl, hw⟩ := hcut
                  obtain rfl := hw
                  have k5 : mid ≤ E := by have := HmE.out; omega
                  have h3s := (HSym.out.s3).same HM2.out.2.1 (.inr (Nat.le_refl _))
                  have h4s := (HSym.out.s4).same HM2.out.2.1 (.inr k5)
                  go_upto_if 213 with fail
                  cases b3 with
                  | true =>
                    have h1 := H3.out
                    simp only [Bool.and_eq_true, decide_eq_true_eq] at h1
                    have hrec := IH.out mid E b _ d2 (by omega) h1.1 h1.2 hb HT2.out ((HC.out.perm (HP2.out.trans HP1.out)).chg HC2.out) h3s h4s
                    have Hrec := Lib.hid hrec
                    clear hrec h1 h3s h4s
                    go_wp2_with fail
                    refine Hrec.out.mono ?_
                    rintro e W ⟨rfl, d3, hp3, hm3, hs3, ht3, hc3⟩
                    have hd := HSym.out.done (by omega) (by omega) HM2.out HS2.out hm3 hs3
                    have HX := Lib.hid (show ∃ d', d'.Perm d ∧ Mix d' d a b ∧ Srt cf d' a b ∧ Tab W g n d' rest ∧ Chg w W (fun k => k = g) from ⟨d3, (hp3.trans HP2.out).trans HP1.out, hd.2, hd.1, ht3, HC2.out.trans hc3 (fun _ _ h => h)⟩)
                    clear hp3 hm3 hs3 ht3 hc3 hd
                    go_wp2_with fail
                    go_end0
                    exact ⟨rfl, HX.out⟩
                  | false =>
                    have h1 := H3.out
                    have hs3 : Srt cf d2 mid b := by
                      by_cases u1 : mid < E
                      · by_cases u2 : E < b
                        · simp [u1, u2] at h1
                        · obtain rfl : E = b := by omega
                          exact h3s
                      · obtain rfl : mid = E := by omega
                        exact h4s
                    have hd := HSym.out.done (by omega) (by omega) HM2.out HS2.out (Mix.refl d2 mid b) hs3
                    have HX := Lib.hid (show ∃ d', d'.Perm d ∧ Mix d' d a b ∧ Srt cf d' a b ∧ Tab _ g n d' rest ∧ Chg w _ (fun k => k = g) from ⟨d2, HP2.out.trans HP1.out, hd.2, hd.1, HT2.out, HC2.out⟩)
                    clear h1 hs3 hd h3s h4s
                    go_wp2_with fail
                    go_end0
                    exact ⟨rfl, HX.out⟩

/-- slices.symMergeCmpFunc(data, a, m, b, cmp). -/
theorem symMerge (g n cap f : Nat) (lb : Array Value) (rest : List Value) (cf : List Value → List Value → Int) (hn : n ≤ 1000000) (hnc : n ≤ cap) (eg : Enters Try.prog f) (ho : Ordr cf) : ∀ sz, Merges g n cap f lb rest cf sz := by
  intro sz
  induction sz with
  | zero => exact fun a m b w d h => absurd h (Nat.not_lt_zero _)
  | succ sz ih =>
    intro a m b w d hsz ham hmb hb hT hc hs1 hs2
    by_cases h1 : m = a + 1
    · subst h1
      by_cases h2 : b = a + 2
      · subst h2
        exact symOne w g n cap a (a + 2) d rest hT (by omega) hb hn hnc f lb eg cf ho hc hs2
      · exact symOne w g n cap a b d rest hT (by omega) hb hn hnc f lb eg cf ho hc hs2
    · by_cases h2 : b = m + 1
      · subst h2
        exact symTwo w g n cap a m d rest hT (by omega) hb hn hnc f lb eg cf ho hc hs1
      · exact symGen w g n cap a m b d rest hT (by omega) (by omega) hb hn hnc f lb eg cf ho hc hs1 hs2 (fun a' m' b' w' d' h => ih a' m' b' w' d' (by omega))
end Go.Proofs.Ytfocjfnkcabbgaa

set_option linter.unusedVariables false
set_option linter.unusedSimpArgs false
namespace Go.Proofs.Ytfocjfnkcabbgaa
open Go.RowKit Go.Shelf

set_option maxHeartbeats 4000000 in
set_option maxRecDepth 100000 in
theorem stableRows (w : World) (g n cap : Nat) (d : List (List Value)) (rest : List Value) (hT : Tab w g n d rest) (hn : n ≤ 1000000) (hnc : n ≤ cap) (f : Nat) (lb : Array Value) (eg : Enters Try.prog f) (cf : List Value → List Value → Int) (ho : Ordr cf) (hc : CmpAt w g f lb cf d) :
    Calls Try.prog 43 #[.slice (some ⟨g, 0, none⟩) n cap, .int .i64 n, .func (.func f) #[] lb] w (Sorts w g n 0 n rest cf d) := by
  have HO := Lib.hid ho
  have HC := Lib.hid hc
  have HT := Lib.hid hT
  have EG := Lib.hid eg
  have HM := Lib.hid (symMerge g n cap f lb rest cf hn hnc eg ho)
  have hlen : d.length = n := hT.len
  clear hT hc ho eg
  go_enter Try.func43, Try.ntmps43
  go_wp2_with fail
  go_loopw [7, 8] (fun u7 u8 wr => ∃ (q a : Nat) (e : List (List Value)), a = q * 20 ∧ a ≤ n ∧ u7 = .int .i64 a ∧ u8 = .int .i64 ((a + 20 : Nat) : Int) ∧ e.Perm d ∧ Done cf e 20 a ∧ Tab wr g n e rest ∧ Chg w wr (fun k => k = g)) (fun u7 _ _ => n - (intOf u7).toNat)
  case atStart => exact ⟨0, 0, d, rfl, Nat.zero_le _, rfl, rfl, List.Perm.refl _, Done.zero _ (by omega), HT.out, Chg.refl _ _⟩
  case round =>
    obtain ⟨q, a, e, hq, han, rfl, rfl, hp, hd, ht, hch⟩ := hrel
    have HP := Lib.hid hp
    have HD := Lib.hid hd
    have HTe := Lib.hid ht
    have HCh := Lib.hid hch
    have Hq := Lib.hid hq
    clear hp hd ht hch hq
    by_cases hlt : a + 20 ≤ n
    · have hins := insSort wr g n cap a (a + 20) e rest HTe.out (by omega) hlt hn hnc f lb EG.out cf HO.out ((HC.out.perm HP.out).chg HCh.out)
      have Hins := Lib.hid hins
      clear hins
      go_wp2_with fail
      refine Hins.out.mono ?_
      rintro e1 W ⟨rfl, e2, hp2, hm2, hs2, ht2, hc2⟩
      have HP2 := Lib.hid (hp2.trans HP.out)
      have HD2 := Lib.hid (HD.out.step Hq.out (by omega) hm2 hs2)
      have HT2 := Lib.hid ht2
      have HC2 := Lib.hid (HCh.out.trans hc2 (fun _ _ h => h))
      have Hq2 := Lib.hid (show a + 20 = (q + 1) * 20 by have := Hq.out; omega)
      clear hp2 hm2 hs2 ht2 hc2 Hins
      go_wp2_with fail
      go_roundw
      case rel => exact ⟨q + 1, a + 20, e2, Hq2.out, hlt, by go_num, by go_num, HP2.out, HD2.out, HT2.out, HC2.out⟩
      case measure => simp only [intOf]; omega
    · have hins := insSort wr g n cap a n e rest HTe.out han (Nat.le_refl _) hn hnc f lb EG.out cf HO.out ((HC.out.perm HP.out).chg HCh.out)
      have Hins := Lib.hid hins
      clear hins
      go_wp2_with fail
      refine Hins.out.mono ?_
      rintro e1 W ⟨rfl, e2, hp2, hm2, hs2, ht2, hc2⟩
      have hd2 : Done cf e2 20 a := fun r hr => (HD.out r hr).same hm2.2.1 (.inl hr)
      have HP2 := Lib.hid (hp2.trans HP.out)
      have HB2 := Lib.hid (blks_of_done Hq.out (by omega) hd2 (by omega) hs2 : Blks cf e2 20 n 0)
      have HT2 := Lib.hid ht2
      have HC2 := Lib.hid (HCh.out.trans hc2 (fun _ _ h => h))
      clear hp2 hm2 hs2 ht2 hc2 Hins hd2 HP HD HTe HCh Hq
      go_wp2_with fail
      go_loopw [6] (fun u6 wr => ∃ (s : Nat) (e : List (List Value)), 20 ≤ s ∧ (s = 20 ∨ s ≤ 2 * n) ∧ u6 = .int .i64 s ∧ e.Perm d ∧ Blks cf e s n 0 ∧ Tab wr g n e rest ∧ Chg w wr (fun k => k = g)) (fun u6 _ => n - (intOf u6).toNat)
      case atStart => exact ⟨20, e2, Nat.le_refl _, .inl rfl, by go_num, HP2.out, HB2.out, HT2.out, HC2.out⟩
      case round =>
        clear HP2 HB2 HT2 HC2
        obtain ⟨s, e, hs20, hsn, rfl, hp, hb, ht, hch⟩ := hrel
        have HP := Lib.hid hp
        have HB := Lib.hid hb
        have HTe := Lib.hid ht
        have HCh := Lib.hid hch
        clear hp hb ht hch
        by_cases hlt2 : s < n
        · go_wp2_with fail
          go_loopw [7, 8] (fun u7 u8 wr => ∃ (q a : Nat) (e : List (List Value)), a = q * (2 * s) ∧ a ≤ n ∧ u7 = .int .i64 a ∧ u8 = .int .i64 ((a + 2 * s : Nat) : Int) ∧ e.Perm d ∧ Done cf e (2 * s) a ∧ Blks cf e s n a ∧ Tab wr g n e rest ∧ Chg w wr (fun k => k = g)) (fun u7 _ _ => n - (intOf u7).toNat)
          case atStart => exact ⟨0, 0, e, by simp, Nat.zero_le _, rfl, by go_num, HP.out, Done.zero _ (by omega), HB.out, HTe.out, HCh.out⟩
          case round =>
            clear HP HB HTe HCh
            obtain ⟨q, a, e, hq, han, rfl, rfl, hp, hd, hb, ht, hch⟩ := hrel
            have HP := Lib.hid hp
            have HD := Lib.hid hd
            have HB := Lib.hid hb
            have HTe := Lib.hid ht
            have HCh := Lib.hid hch
            have Hq := Lib.hid hq
            clear hp hd hb ht hch hq
            by_cases hlt : a + 2 * s ≤ n
            · have h2 := HB.out.two Hq.out hlt
              have hmer := HM.out (2 * s + 1) a (a + s) (a + 2 * s) wr e (by omega) (by omega) (by omega) hlt HTe.out ((HC.out.perm HP.out).chg HCh.out) h2.1 h2.2
              have Hmer := Lib.hid hmer
              clear hmer h2
              go_wp2_with fail
              refine Hmer.out.mono ?_
              rintro e1 W ⟨rfl, e2, hp2, hm2, hs2, ht2, hc2⟩
              have HP2 := Lib.hid (hp2.trans HP.out)
              have HD2 := Lib.hid (HD.out.step Hq.out (by omega) hm2 hs2)
              have HB2 := Lib.hid (HB.out.step hm2)
              have HT2 := Lib.hid ht2
              have HC2 := Lib.hid (HCh.out.trans hc2 (fun _ _ h => h))
              have Hq2 := Lib.hid (show a + 2 * s = (q + 1) * (2 * s) by rw [Nat.add_mul, ← Hq.out]; omega)
              clear hp2 hm2 hs2 ht2 hc2 Hmer
              go_wp2_with fail
              go_roundw
              case rel => exact ⟨q + 1, a + 2 * s, e2, Hq2.out, hlt, by go_num, by go_num, HP2.out, HD2.out, HB2.out, HT2.out, HC2.out⟩
              case measure => simp only [intOf]; omega
            · have h2 := HB.out.end_ Hq.out (by omega)
              by_cases hm : a + s < n
              · have hmer := HM.out (n + 1) a (a + s) n wr e (by omega) (by omega) hm (Nat.le_refl _) HTe.out ((HC.out.perm HP.out).chg HCh.out) (h2.1.less (Nat.le_refl _) (by omega)) h2.2
                have Hmer := Lib.hid hmer
                clear hmer h2
                go_wp2_with fail
                refine Hmer.out.mono ?_
                rintro e1 W ⟨rfl, e2, hp2, hm2, hs2, ht2, hc2⟩
                have hd2 : Done cf e2 (2 * s) a := fun r hr => (HD.out r hr).same hm2.2.1 (.inl hr)
                have HP2 := Lib.hid (hp2.trans HP.out)
                have HB2 := Lib.hid (blks_of_done Hq.out (by omega) hd2 (by omega) hs2 : Blks cf e2 (2 * s) n 0)
                have HT2 := Lib.hid ht2
                have HC2 := Lib.hid (HCh.out.trans hc2 (fun _ _ h => h))
                clear hp2 hm2 hs2 ht2 hc2 hd2 Hmer
                go_wp2_with fail
                go_roundw
                case rel => exact ⟨2 * s, e2, by omega, .inr (by omega), by go_num, HP2.out, HB2.out, HT2.out, HC2.out⟩
                case measure => simp only [intOf]; omega
              · have HB2 := Lib.hid (blks_of_done Hq.out (by omega) HD.out (by omega) (h2.1.less (Nat.le_refl _) (by omega)) : Blks cf e (2 * s) n 0)
                clear h2
                go_wp2_with fail
                go_roundw
                case rel => exact ⟨2 * s, e, by omega, .inr (by omega), by go_num, HP.out, HB2.out, HTe.out, HCh.out⟩
                case measure => simp only [intOf]; omega
        · have HF := Lib.hid (HB.out.whole (by omega))
          have HMx := Lib.hid (show Mix e d 0 n from ⟨by rw [HTe.out.len, hlen], fun p hp => by
            have h1 : n ≤ p := by omega
            rw [List.getElem?_eq_none (by rw [HTe.out.len]; exact h1), List.getElem?_eq_none (by rw [hlen]; exact h1)], fun p x h1 h2 h3 => by
            have hm := HP.out.mem_iff.1 (List.mem_of_getElem? h3)
            obtain ⟨q, hq, rfl⟩ := List.getElem_of_mem hm
            exact ⟨q, Nat.zero_le _, by rw [← hlen]; exact hq, List.getElem?_eq_getElem hq⟩⟩)
          go_wp2_with fail
          go_end0
          exact ⟨rfl, e, HP.out, HMx.out, HF.out, HTe.out, HCh.out⟩

set_option maxHeartbeats 400000 in
theorem sortRows (w : World) (g n cap : Nat) (d : List (List Value)) (rest : List Value) (hT : Tab w g n d rest) (hn : n ≤ 1000000) (hnc : n ≤ cap) (f : Nat) (lb : Array Value) (eg : Enters Try.prog f) (cf : List Value → List Value → Int) (ho : Ordr cf) (hc : CmpAt w g f lb cf d) :
    Calls Try.prog 31 #[.slice (some ⟨g, 0, none⟩) n cap, .func (.func f) #[] lb] w (Sorts w g n 0 n rest cf d) := by
  have hs := Lib.hid (stableRows w g n cap d rest hT hn hnc f lb eg cf ho hc)
  clear hT ho hc eg
  go_enter Try.func31, Try.ntmps31
  go_wp2_with fail
  refine hs.out.mono ?_
  rintro e W ⟨rfl, h⟩
  have H := Lib.hid h
  clear h
  go_wp2_with fail
  go_end0
  exact ⟨rfl, H.out⟩
end Go.Proofs.Ytfocjfnkcabbgaa
