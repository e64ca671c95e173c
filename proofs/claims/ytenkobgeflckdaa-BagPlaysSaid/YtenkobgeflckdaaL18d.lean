/- The walk of BagFull. -/
import Derived.Test.YtenkobgeflckdaaL18c
import Derived.Deep.CutRange
set_option linter.unusedVariables false
set_option linter.unusedSimpArgs false
namespace Go.Proofs.Ytenkobgeflckdaa
open Go.RowKit Go.Shelf

def fullG (k : Nat) : List Gm := (List.range k).map fun (i : Nat) => gramG (i : Int) ((i : Int) + 1)
theorem fullG_len (k : Nat) : (fullG k).length = k := by simp [fullG]
theorem fullG_succ (k : Nat) : fullG (k + 1) = fullG k ++ [gramG k ((k : Int) + 1)] := by simp [fullG, List.range_succ]
theorem fullG_get {k i : Nat} (h : i < k) : (fullG k)[i]? = some (gramG i ((i : Int) + 1)) := by simp [fullG, h]

def againL (gs : List Gm) (most : Int) (i : Nat) : List Gm := match gs[i]? with | some x => putL gs most x | none => gs
def againOk (gs : List Gm) (most : Int) (i : Nat) : Bool := match gs[i]? with | some _ => putOk gs most | none => false
theorem again_s {w W : World} {bb : Nat} {gs : List Gm} {most : Int} {S : Nat → Prop} (h : BagS 72 w W bb gs most S) (i : Nat) :
    Calls Try.prog 24 #[.pointer (some ⟨bb, 0, none⟩), .int .i64 i] W (BagGo 72 w W bb (againL gs most i) most S (.bool (againOk gs most i))) := by
  unfold againL againOk
  cases hx : gs[i]? with
  | some x => exact again_s_yes h i x hx
  | none => exact again_s_no h i (by
      have := List.getElem?_eq_none_iff.1 hx
      simp [okI]; omega)
theorem putOk_full {gs : List Gm} {most : Int} (h : (gs.length : Int) = most) : putOk gs most = false := decide_eq_false (by omega)
theorem putL_full {gs : List Gm} {most : Int} (h : (gs.length : Int) = most) (x : Gm) : putL gs most x = gs := if_neg (by omega)
theorem againOk_full {gs : List Gm} {most : Int} (h : (gs.length : Int) = most) (i : Nat) : againOk gs most i = false := by
  unfold againOk
  split
  · exact putOk_full h
  · rfl
theorem againL_full {gs : List Gm} {most : Int} (h : (gs.length : Int) = most) (i : Nat) : againL gs most i = gs := by
  unfold againL
  split
  · exact putL_full h _
  · rfl

set_option maxHeartbeats 4000000 in
set_option maxRecDepth 100000 in
theorem walk_BagFull (w : World) (m : Int) (h0 : -9223372036854775808 ≤ m) (h1 : m ≤ 9223372036854775807) : Calls Try.prog 6 #[.int .i64 m] w fun e w' => e = .returned (.bool true) ∧ New w w' := by
  obtain ⟨n, hn⟩ : ∃ n : Nat, min (max m 0) 200 = (n : Int) := ⟨(min (max m 0) 200).toNat, by omega⟩
  have hn200 : n ≤ 200 := by omega
  have Hn := Lib.hid hn
  clear hn
  go_enter Try.func6, Try.ntmps6
  go_wp2_with fail
  refine (awake18 w).mono ?_
  rintro e W1 ⟨rfl, hN1⟩
  have HN1 := Lib.hid hN1
  clear hN1
  go_wp2_with fail
  refine (new_s m HN1.out (fun _ => False) (fun k h => h.elim)).mono ?_
  rintro e W2 ⟨rfl, hs2, -⟩
  rw [Hn.out] at hs2
  generalize W1.heap.size = bb at hs2 ⊢
  have HS2 := Lib.hid hs2
  clear hs2 HN1
  go_upto_region 5 with fail
  go_cut [5] from 18 to 20 (fun c wx => c = .int .i64 n ∧ wx = W2)
  case first =>
    have hn := Hn.out
    rcases (show (n = 0 ∧ m ≤ 0) ∨ (n = 200 ∧ 200 ≤ m) ∨ ((n : Int) = m ∧ 0 < m ∧ m < 200) by omega) with ⟨rfl, h⟩ | ⟨rfl, h⟩ | ⟨h, h2, h3⟩
    all_goals (go_wp2_with fail)
    all_goals (go_meet)
    all_goals exact ⟨congrArg (Value.int .i64) (by omega), rfl⟩
  case rest =>
    obtain ⟨rfl, rfl⟩ := hcut
    go_wp2_with fail
    go_loopw [6] (fun i wr => ∃ k : Nat, k ≤ n ∧ i = .int .i64 k ∧ BagS 72 w wr bb (fullG k) n (fun _ => False)) (fun i _ => n - (intOf i).toNat)
    case atStart => exact ⟨0, Nat.zero_le _, rfl, HS2.out⟩
    case round =>
      obtain ⟨k, hk, rfl, hs⟩ := hrel
      have HS := Lib.hid hs
      clear hs
      by_cases hlt : k < n
      · have hg := gram18 wr (k : Int) ((k : Int) + 1) (by omega) (by omega) (by omega) (by omega)
        have HG := Lib.hid hg
        clear hg
        go_wp2_with fail
        refine HG.out.mono ?_
        rintro e W3 ⟨rfl, hN3⟩
        have HS3 := Lib.hid (HS.out.stay hN3)
        clear hN3 HS HG
        go_wp2_with fail
        refine (put_s HS3.out (gramG k ((k : Int) + 1))).mono ?_
        rintro e W4 ⟨rfl, hs4, -⟩
        rw [show putOk (fullG k) n = true by unfold putOk; rw [fullG_len]; exact decide_eq_true (by omega)]
        rw [show putL (fullG k) n (gramG k ((k : Int) + 1)) = fullG (k + 1) by unfold putL; rw [if_pos (by rw [fullG_len]; omega), fullG_succ]] at hs4
        have HS4 := Lib.hid hs4
        clear hs4 HS3
        go_wp2_with fail
        go_roundw
        case rel => exact ⟨k + 1, by omega, by go_num, HS4.out⟩
        case measure => simp [intOf]; omega
      · obtain rfl : k = n := by omega
        have hlen : ((fullG k).length : Int) = k := by rw [fullG_len]
        have hne : ((k : Int) == (k : Int)) = true := by simp
        have HL := Lib.hid hlen
        clear hlen
        go_wp2_with fail
        refine (gram18 wr 0 1 (by omega) (by omega) (by omega) (by omega)).mono ?_
        rintro e W3 ⟨rfl, hN3⟩
        have HS3 := Lib.hid (HS.out.stay hN3)
        clear hN3 HS
        go_wp2_with fail
        refine (put_s HS3.out (gramG 0 1)).mono ?_
        rintro e W4 ⟨rfl, hs4, -⟩
        rw [putOk_full HL.out]
        rw [putL_full HL.out] at hs4
        have HS4 := Lib.hid hs4
        clear hs4 HS3
        go_wp2_with fail
        refine (again_s HS4.out 0).mono ?_
        rintro e W5 ⟨rfl, hs5, -⟩
        rw [againOk_full HL.out]
        rw [againL_full HL.out] at hs5
        have HS5 := Lib.hid hs5
        clear hs5 HS4
        go_wp2_with fail
        refine (all_s HS5.out).mono ?_
        rintro e W6 ⟨v', rfl, ⟨R, c, rfl, -⟩, -, hs6⟩
        rw [fullG_len]
        have HS6 := Lib.hid (hs6.less (S' := fun _ => False) (fun _ h => h.elim))
        clear hs6 HS5
        by_cases hk0 : k = 0
        · subst hk0
          go_wp2_with fail
          go_ret
          exact ⟨rfl, HS6.out.new⟩
        · obtain ⟨j, rfl⟩ : ∃ j, k = j + 1 := ⟨k - 1, by omega⟩
          have hz : (((j + 1 : Nat) : Int) == 0) = false := by rw [beq_eq_false_iff_ne]; omega
          go_wp2_with fail
          refine (take_s_yes HS6.out j (gramG j ((j : Int) + 1)) (fullG_get (by omega))).mono ?_
          rintro e W7 ⟨rfl, hs7, -⟩
          rw [show (fullG (j + 1)).eraseIdx j = fullG j by
            rw [fullG_succ, List.eraseIdx_append_of_length_le (by rw [fullG_len]; exact Nat.le_refl _), fullG_len, Nat.sub_self]; simp] at hs7
          have hgr := fun W => gram18 W (j : Int) ((j : Int) + 1) (by omega) (by omega) (by omega) (by omega)
          generalize gramG (j : Int) ((j : Int) + 1) = x at hgr ⊢
          rw [show gval x = .agg #[.string x.f, .string x.t, .string x.d] from rfl]
          have HS7 := Lib.hid hs7
          have Hgr := Lib.hid hgr
          clear hs7 HS6 hgr HL
          go_wp2_with fail
          obtain ⟨W8, hW8⟩ : ∃ W8, W8 = (W7.alloc (.cells #[.string x.f, .string x.t, .string x.d] 33)).drew := ⟨_, rfl⟩
          have hN78 : New W7 W8 := by rw [hW8]; exact ((Chg.refl _ _).alloc _).drew
          have hC8 : Blk W8 W7.heap.size 33 (gcs x).toArray := by rw [hW8]; exact (Blk.new W7 _ _).chg ((Chg.refl _ (fun _ => False)).drew) id
          have hs8 := HS7.out.add hN78 (fun k => k = W7.heap.size) (fun k hk => ⟨by omega, by rw [hk]; exact hC8.lt⟩)
          generalize hb7 : W7.heap.size = b7 at hC8 hs8 ⊢
          refine wp_region_at (by kernel_rfl) ?_
          rw [← hb7, ← hW8, hb7]
          have HC8 := Lib.hid hC8
          have HS8 := Lib.hid (hs8.less (S' := fun k => k = b7) (fun k hk => .inr hk))
          clear hC8 hs8 hN78 hW8 hb7 HS7
          refine AtN.list 0 2 (by kernel_rfl) ?_
          change wpList _ _ _ [_, _] _ _
          go_wp2_with fail
          change AtN _ _ _ 2 _ _
          have eg := enters_of Try.func20 (by kernel_rfl) rfl
          unfold Enters at eg
          refine AtN.segN 2 7 (fun
            | 2 => fun v _ => v = gval x
            | 3 => fun v _ => v = .int .i64 (j + 1)
            | 4 => fun v _ => v = .int .i64 j
            | 5 => fun v _ => v = .int .i64 (j + 1)
            | 6 => fun v _ => v = gval x
            | _ => fun _ _ => True) (by kernel_rfl) (by kernel_rfl) (by kernel_rfl) ?st ?step ?tail
          case st =>
            intro j v w1 w2 hc h
            match j with
            | 2 | 3 | 4 | 5 | 6 => exact h
            | 0 | 1 => trivial
            | _ + 7 => trivial
          have wrapJ : IntKind.i64.wrap (j : Int) = j := by rw [IntKind.wrap_i64]; omega
          case step =>
            intro i hn hi o ho A2 W hN hin hk
            rcases (show i = 2 ∨ i = 3 ∨ i = 4 ∨ i = 5 ∨ i = 6 by omega) with rfl | rfl | rfl | rfl | rfl
            · cases ho
              exact .same (exec_load 7 _ rfl stGram ⟨b7, 0, none⟩ (gcs x) (hk 7 (by kernel_rfl)) rfl ((HC8.out.chg hN id).at_)) rfl
            · cases ho
              exact .same (exec_move 5 _ rfl (hk 5 (by kernel_rfl))) rfl
            · cases ho
              have h59 : A2.tmps[59]?.getD undef = .int .i64 ((j : Int) + 1) := hin 3 59 (by kernel_rfl)
              exact .same (by simp [go_sem, h59, wrapJ]) rfl
            · cases ho
              exact .same (exec_move 5 _ rfl (hk 5 (by kernel_rfl))) rfl
            · cases ho
              have h60 : A2.tmps[60]?.getD undef = .int .i64 (j : Int) := hin 4 60 (by kernel_rfl)
              have h61 : A2.tmps[61]?.getD undef = .int .i64 ((j : Int) + 1) := hin 5 61 (by kernel_rfl)
              refine .call (f := 20) (args := #[.int .i64 j, .int .i64 ((j : Int) + 1)]) (W' := W) ?_ ((Hgr.out W).mono ?_)
              · simp [go_sem, h60, h61, eg]
              · rintro e w' ⟨rfl, hc⟩
                exact ⟨_, rfl, hc, rfl⟩
          case tail =>
            intro A2 W9 hN9 hdf hsz hout hold
            have s58 : slot A2 58 = .agg #[.string x.f, .string x.t, .string x.d] := hout 2 58 (by kernel_rfl)
            have s62 : slot A2 62 = .agg #[.string x.f, .string x.t, .string x.d] := hout 6 62 (by kernel_rfl)
            have s4 : slot A2 4 = .pointer (some ⟨bb, 0, none⟩) := hold 4 (by kernel_rfl)
            have s5 : slot A2 5 = .int .i64 ((j : Int) + 1) := hold 5 (by kernel_rfl)
            have s7 : slot A2 7 = .pointer (some ⟨b7, 0, none⟩) := hold 7 (by kernel_rfl)
            have s57 : slot A2 57 = .bool true := hold 57 (by kernel_rfl)
            rw [act_eta A2 81 _ hsz hdf, show List.range 81 = [0, 1, 2, 3, 4, 5, 6, 7, 8, 9, 10, 11, 12, 13, 14, 15, 16, 17, 18, 19, 20, 21, 22, 23, 24, 25, 26, 27, 28, 29, 30, 31, 32, 33, 34, 35, 36, 37, 38, 39, 40, 41, 42, 43, 44, 45, 46, 47, 48, 49, 50, 51, 52, 53, 54, 55, 56, 57, 58, 59, 60, 61, 62, 63, 64, 65, 66, 67, 68, 69, 70, 71, 72, 73, 74, 75, 76, 77, 78, 79, 80] from rfl]
            simp only [List.map, s4, s5, s7, s57, s58, s62]
            clear hsz hdf hout hold s4 s5 s7 s57 s58 s62
            have HC9 := Lib.hid (HC8.out.chg hN9 id)
            have HS9 := Lib.hid (HS8.out.stay hN9)
            clear HC8 HS8 hN9 eg
            refine AtN.list 7 10 (by kernel_rfl) ?_
            change wpList _ _ _ [_, _, _] _ _
            go_wp2_with fail
            change AtN _ _ _ 10 _ _
            obtain ⟨b, hb⟩ : ∃ b, decide ((1 : Int) < (j : Int) + 1) = b := ⟨_, rfl⟩
            have hab : againOk (fullG j) ((j + 1 : Nat) : Int) 0 = b := by
              rw [← hb]
              unfold againOk
              rcases Nat.eq_zero_or_pos j with rfl | hj
              · rfl
              · rw [fullG_get hj]
                rw [decide_eq_true (show (1 : Int) < (j : Int) + 1 by omega)]
                exact decide_eq_true (by rw [fullG_len]; omega)
            have eg2 := enters_of Try.func24 (by kernel_rfl) rfl
            unfold Enters at eg2
            obtain ⟨J, HJ⟩ : ∃ J : Bool → World → Prop, J = (fun d W => Blk W b7 33 (gcs x).toArray ∧ BagS 72 w W bb (if d then againL (fullG j) ((j + 1 : Nat) : Int) 0 else fullG j) ((j + 1 : Nat) : Int) (fun k => k = b7)) := ⟨_, rfl⟩
            refine AtN.segV 10 14 11 (fun
              | 10 => .pointer (some ⟨bb, 0, none⟩)
              | 12 => .int .i64 (j + 1)
              | _ => .bool b) J (by kernel_rfl) (by kernel_rfl) (by kernel_rfl) (by rw [HJ]; exact ⟨HC9.out, HS9.out⟩) ?step2 ?tail2
            case step2 =>
              intro i hn hi o ho A3 W d hJ hμ hin hk
              rcases (show i = 10 ∨ i = 11 ∨ i = 12 ∨ i = 13 by omega) with rfl | rfl | rfl | rfl
              · cases ho
                exact .quiet (exec_move 4 _ rfl (hk 4 (by kernel_rfl))) hJ
              · cases ho
                obtain rfl := hμ rfl
                rw [HJ] at hJ ⊢
                have hJ2 := hJ.2
                rw [if_neg (by simp)] at hJ2
                have h66 : A3.tmps[66]?.getD undef = .pointer (some ⟨bb, 0, none⟩) := hin 10 66 (by kernel_rfl)
                refine .enter (f := 24) (args := #[.pointer (some ⟨bb, 0, none⟩), .int .i64 0]) (v := .bool b) ?_ ((again_s hJ2 0).mono ?_)
                · simp [go_sem, h66, eg2]
                · rintro e w' ⟨rfl, hs, hc⟩
                  rw [hab]
                  exact ⟨rfl, ⟨hc.of rfl hJ.1, hs⟩, rfl⟩
              · cases ho
                exact .quiet (exec_move 5 _ rfl (hk 5 (by kernel_rfl))) hJ
              · cases ho
                have h68 : A3.tmps[68]?.getD undef = .int .i64 ((j : Int) + 1) := hin 12 68 (by kernel_rfl)
                exact .quiet (by simp [go_sem, h68, hb]) hJ
            case tail2 =>
              intro A3 W10 hJ hdf hsz hout hold
              have s67 : slot A3 67 = .bool b := hout 11 67 (by kernel_rfl)
              have s69 : slot A3 69 = .bool b := hout 13 69 (by kernel_rfl)
              have s4 : slot A3 4 = .pointer (some ⟨bb, 0, none⟩) := hold 4 (by kernel_rfl)
              have s5 : slot A3 5 = .int .i64 ((j : Int) + 1) := hold 5 (by kernel_rfl)
              have s7 : slot A3 7 = .pointer (some ⟨b7, 0, none⟩) := hold 7 (by kernel_rfl)
              have s65 : slot A3 65 = .bool true := hold 65 (by kernel_rfl)
              rw [act_eta A3 81 _ hsz hdf, show List.range 81 = [0, 1, 2, 3, 4, 5, 6, 7, 8, 9, 10, 11, 12, 13, 14, 15, 16, 17, 18, 19, 20, 21, 22, 23, 24, 25, 26, 27, 28, 29, 30, 31, 32, 33, 34, 35, 36, 37, 38, 39, 40, 41, 42, 43, 44, 45, 46, 47, 48, 49, 50, 51, 52, 53, 54, 55, 56, 57, 58, 59, 60, 61, 62, 63, 64, 65, 66, 67, 68, 69, 70, 71, 72, 73, 74, 75, 76, 77, 78, 79, 80] from rfl]
              simp only [List.map, s4, s5, s7, s65, s67, s69]
              clear hsz hdf hout hold s4 s5 s7 s65 s67 s69
              rw [HJ] at hJ
              obtain ⟨hC10, hs10⟩ := hJ
              rw [show (decide (10 ≤ 11) && decide (11 < 14)) = true from rfl, if_pos rfl] at hs10
              have HC10 := Lib.hid hC10
              have HS10 := Lib.hid hs10
              clear hC10 hs10 HC9 HS9 eg2
              cases b with
              | true =>
                refine AtN.list 14 20 (by kernel_rfl) ?_
                change wpList _ _ _ [_, _, _, _, _, _] _ _
                go_wp2_with fail
                change AtN _ _ _ 20 _ _
                refine AtN.segS 20 22 (by kernel_rfl) (by kernel_rfl) (by kernel_rfl) (fun A4 hdf hsz hold => ?_)
                have s72 : slot A4 72 = .bool true := hold 72 (by kernel_rfl)
                have s73 : slot A4 73 = .int .i64 ((j : Int) + 1) := hold 73 (by kernel_rfl)
                have s75 : slot A4 75 = .bool true := hold 75 (by kernel_rfl)
                rw [act_eta A4 81 _ hsz hdf, show List.range 81 = [0, 1, 2, 3, 4, 5, 6, 7, 8, 9, 10, 11, 12, 13, 14, 15, 16, 17, 18, 19, 20, 21, 22, 23, 24, 25, 26, 27, 28, 29, 30, 31, 32, 33, 34, 35, 36, 37, 38, 39, 40, 41, 42, 43, 44, 45, 46, 47, 48, 49, 50, 51, 52, 53, 54, 55, 56, 57, 58, 59, 60, 61, 62, 63, 64, 65, 66, 67, 68, 69, 70, 71, 72, 73, 74, 75, 76, 77, 78, 79, 80] from rfl]
                simp only [List.map, s72, s73, s75]
                clear hsz hdf hold s72 s73 s75
                refine AtN.list 22 26 (by kernel_rfl) ?_
                change wpList _ _ _ [_, _, _, _] _ _
                go_wp2_with fail
                change AtN _ _ _ 26 _ _
                refine AtN.done rfl ?_
                go_wp2_with fail
                go_ret
                exact ⟨rfl, HS10.out.new⟩
              | false =>
                have hpk : putOk (againL (fullG j) ((j + 1 : Nat) : Int) 0) ((j + 1 : Nat) : Int) = true := by
                  obtain rfl : j = 0 := by
                    have := of_decide_eq_false hb
                    omega
                  rfl
                have Hpk := Lib.hid hpk
                clear hpk
                refine AtN.list 14 20 (by kernel_rfl) ?_
                change wpList _ _ _ [_, _, _, _, _, _] _ _
                go_wp2_with fail
                change AtN _ _ _ 20 _ _
                refine AtN.segQ 20 22 (fun
                  | 20 => .pointer (some ⟨bb, 0, none⟩)
                  | _ => gval x) (by kernel_rfl) (by kernel_rfl) (by kernel_rfl) (fun i hn hi o ho A4 hin hk => ?_) (fun A4 hdf hsz hout hold => ?_)
                · rcases (show i = 20 ∨ i = 21 by omega) with rfl | rfl
                  · cases ho
                    exact exec_move 4 _ rfl (hk 4 (by kernel_rfl))
                  · cases ho
                    exact exec_load 7 _ rfl stGram ⟨b7, 0, none⟩ (gcs x) (hk 7 (by kernel_rfl)) rfl HC10.out.at_
                have s72 : slot A4 72 = .bool true := hold 72 (by kernel_rfl)
                have s73 : slot A4 73 = .int .i64 ((j : Int) + 1) := hold 73 (by kernel_rfl)
                have s75 : slot A4 75 = .bool false := hold 75 (by kernel_rfl)
                have s76 : slot A4 76 = .pointer (some ⟨bb, 0, none⟩) := hout 20 76 (by kernel_rfl)
                have s77 : slot A4 77 = gval x := hout 21 77 (by kernel_rfl)
                rw [act_eta A4 81 _ hsz hdf, show List.range 81 = [0, 1, 2, 3, 4, 5, 6, 7, 8, 9, 10, 11, 12, 13, 14, 15, 16, 17, 18, 19, 20, 21, 22, 23, 24, 25, 26, 27, 28, 29, 30, 31, 32, 33, 34, 35, 36, 37, 38, 39, 40, 41, 42, 43, 44, 45, 46, 47, 48, 49, 50, 51, 52, 53, 54, 55, 56, 57, 58, 59, 60, 61, 62, 63, 64, 65, 66, 67, 68, 69, 70, 71, 72, 73, 74, 75, 76, 77, 78, 79, 80] from rfl]
                simp only [List.map, s72, s73, s75, s76, s77]
                clear hsz hdf hout hold s72 s73 s75 s76 s77
                refine AtN.list 22 26 (by kernel_rfl) ?_
                change wpList _ _ _ [_, _, _, _] _ _
                go_wp2_with fail
                refine (put_s HS10.out x).mono ?_
                rintro e W11 ⟨rfl, hs11, -⟩
                rw [Hpk.out]
                have HN11 := Lib.hid hs11.new
                clear hs11
                go_wp2_with fail
                change AtN _ _ _ 26 _ _
                refine AtN.done rfl ?_
                go_wp2_with fail
                go_ret
                exact ⟨rfl, HN11.out⟩
end Go.Proofs.Ytenkobgeflckdaa
