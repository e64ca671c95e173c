/- The walk of BagQueue. -/
import Derived.Test.YtenkobgeflckdaaL18d
import Derived.Test.YtenkobgeflckdaaInts
import Derived.Test.YtenkobgeflckdaaWe
set_option linter.unusedVariables false
set_option linter.unusedSimpArgs false
namespace Go.Proofs.Ytenkobgeflckdaa
open Go.RowKit Go.Shelf

def qG (X : Nat → Int) (k : Nat) : List Gm := (List.range k).map fun (i : Nat) => gramG (X (i * 2)) (X (i * 2 + 1))
theorem qG_len (X : Nat → Int) (k : Nat) : (qG X k).length = k := by simp [qG]
theorem qG_succ (X : Nat → Int) (k : Nat) : qG X (k + 1) = qG X k ++ [gramG (X (k * 2)) (X (k * 2 + 1))] := by simp [qG, List.range_succ]
theorem qG_get {X : Nat → Int} {k i : Nat} (h : i < k) : (qG X k)[i]? = some (gramG (X (i * 2)) (X (i * 2 + 1))) := by simp [qG, h]

theorem qG_take {X : Nat → Int} {k j : Nat} (h : j ≤ k) : (qG X k).take j = qG X j := by
  simp [qG, ← List.map_take, List.take_range, Nat.min_eq_left h]
theorem qG_erase (X : Nat → Int) (q : Nat) : (qG X (q + 1)).eraseIdx q = qG X q := by
  rw [qG_succ, List.eraseIdx_append_of_length_le (by rw [qG_len]; exact Nat.le_refl _), qG_len, Nat.sub_self]; simp

set_option maxHeartbeats 4000000 in
set_option maxRecDepth 100000 in
theorem walk_BagQueue (w : World) (v : Value) (l : Nat) (X : Nat → Int) (hv : IntsAt w v 2 l X) (back : Bool) : Calls Try.prog 7 #[v, .bool back] w fun e w' => e = .returned (.bool true) ∧ New w w' := by
  obtain ⟨⟨A, c, rfl, hlc, hcm, hx⟩, hX⟩ := hv
  unfold maxLen at hcm
  obtain ⟨n, hn⟩ : ∃ n : Nat, min (l : Int) 60 = (n : Int) := ⟨(min (l : Int) 60).toNat, by omega⟩
  have hnl : n ≤ l := by omega
  have hn60 : n ≤ 60 := by omega
  have Hn := Lib.hid hn
  have Hx := Lib.hid hx
  have HX := Lib.hid hX
  clear hn hx hX
  go_enter Try.func7, Try.ntmps7
  go_wp2_with fail
  refine (awake18 w).mono ?_
  rintro e W1 ⟨rfl, hN1⟩
  have HN1 := Lib.hid hN1
  clear hN1
  go_wp2_with fail
  refine (new_s 200 HN1.out (fun _ => False) (fun k h => h.elim)).mono ?_
  rintro e W2 ⟨rfl, hs2, -⟩
  rw [show min (max (200 : Int) 0) 200 = 200 by decide] at hs2
  generalize W1.heap.size = bb at hs2 ⊢
  have HS2 := Lib.hid hs2
  clear hs2 HN1
  go_upto_region 5 with fail
  go_cut [7] from 24 to 26 (fun c wx => c = .int .i64 n ∧ wx = W2)
  case first =>
    have hn := Hn.out
    rcases (show (n = 60 ∧ 60 ≤ l) ∨ (n = l ∧ l < 60) by omega) with ⟨rfl, h⟩ | ⟨h, h2⟩
    all_goals (go_wp2_with fail)
    all_goals (go_meet)
    all_goals exact ⟨congrArg (Value.int .i64) (by omega), rfl⟩
  case rest =>
    obtain ⟨rfl, rfl⟩ := hcut
    go_wp2_with fail
    go_loopw [8] (fun i wr => ∃ k : Nat, k ≤ n ∧ i = .int .i64 k ∧ BagS 72 w wr bb (qG X k) 200 (fun _ => False)) (fun i _ => n - (intOf i).toNat)
    case atStart => exact ⟨0, Nat.zero_le _, rfl, HS2.out⟩
    case round =>
      obtain ⟨k, hk, rfl, hs⟩ := hrel
      have HS := Lib.hid hs
      clear hs
      by_cases hlt : k < n
      · obtain ⟨ad, rfl, hcell⟩ := Hx.out (by omega)
        obtain ⟨x, hxe⟩ : ∃ x, x = gramG (X (k * 2)) (X (k * 2 + 1)) := ⟨_, rfl⟩
        have hgr := fun W => gram18 W (X (k * 2)) (X (k * 2 + 1)) (HX.out _).1 (HX.out _).2 (HX.out _).1 (HX.out _).2
        rw [← hxe] at hgr
        have hqs := qG_succ X k
        rw [← hxe] at hqs
        have Hqs := Lib.hid hqs
        clear hqs
        have h0 := hcell (k * 2) (by omega)
        have h1 := hcell (k * 2 + 1) (by omega)
        obtain ⟨x0, hx0⟩ : ∃ y, X (k * 2) = y := ⟨_, rfl⟩
        obtain ⟨x1, hx1⟩ : ∃ y, X (k * 2 + 1) = y := ⟨_, rfl⟩
        rw [hx0] at hgr h0
        rw [hx1] at hgr h1
        have Hgr := Lib.hid hgr
        have Hxe := Lib.hid hxe
        have H0 := Lib.hid h0
        rw [add_succ] at h1
        have hAb : (ad.add (k * 2)).block = ad.block := add_block _ _
        have hAo : (ad.add (k * 2)).off + 1 = ad.off + (k * 2 + 1) := by rw [add_offs]; omega
        have H1 := Lib.hid h1
        clear hgr hxe h0 h1 hcell hx0 hx1
        go_wp2_with fail
        have eg := enters_of Try.func20 (by kernel_rfl) rfl
        unfold Enters at eg
        have q0 : (0 : Int) ≤ (k : Int) := by omega
        have q1 : (k : Int) < (l : Int) := by omega
        have q2 : k < l := by omega
        obtain ⟨J, HJ⟩ : ∃ J : Bool → World → Prop, J = (fun _ W => BagS 72 w W bb (qG X k) 200 (fun _ => False)) := ⟨_, rfl⟩
        refine wp_region_at (by kernel_rfl) ?_
        refine AtN.segV2 0 12 12 (fun
          | 0 => .pointer (some ⟨bb, 0, none⟩)
          | 1 => .slice (some ad) l c
          | 2 => .int .i64 k
          | 3 => .pointer (some (ad.add (k * 2)))
          | 4 => .pointer (some (ad.add (k * 2)))
          | 5 => .int .i64 x0
          | 6 => .slice (some ad) l c
          | 7 => .int .i64 k
          | 8 => .pointer (some (ad.add (k * 2)))
          | 9 => .pointer (some ⟨ad.block, ad.off + (k * 2 + 1), none⟩)
          | 10 => .int .i64 x1
          | _ => gval x)
          [(32, .pointer (some ⟨bb, 0, none⟩)), (33, .slice (some ad) l c), (34, .int .i64 k), (35, .pointer (some (ad.add (k * 2)))), (36, .pointer (some (ad.add (k * 2)))), (37, .int .i64 x0), (38, .slice (some ad) l c), (39, .int .i64 k), (40, .pointer (some (ad.add (k * 2)))), (41, .pointer (some ⟨ad.block, ad.off + (k * 2 + 1), none⟩)), (42, .int .i64 x1), (43, gval x)]
          J (by kernel_rfl) (by kernel_rfl) (by kernel_rfl) (by kernel_rfl) rfl (by rw [HJ]; exact HS.out.stay ((Chg.refl _ _).drew)) (fun i hn hi o ho A0 W d hJ hμ hin hk => ?_) (fun W3 hJ => ?_)
        · rcases (show i = 0 ∨ i = 1 ∨ i = 2 ∨ i = 3 ∨ i = 4 ∨ i = 5 ∨ i = 6 ∨ i = 7 ∨ i = 8 ∨ i = 9 ∨ i = 10 ∨ i = 11 by omega) with rfl | rfl | rfl | rfl | rfl | rfl | rfl | rfl | rfl | rfl | rfl | rfl
          · cases ho
            exact .quiet (exec_move 6 _ rfl (hk 6 (by kernel_rfl))) hJ
          · cases ho
            exact .quiet (exec_move 0 _ rfl (hk 0 (by kernel_rfl))) hJ
          · cases ho
            exact .quiet (exec_move 8 _ rfl (hk 8 (by kernel_rfl))) hJ
          · cases ho
            have h33 : A0.tmps[33]?.getD undef = .slice (some ad) l c := hin 1 33 (by kernel_rfl)
            have h34 : A0.tmps[34]?.getD undef = .int .i64 k := hin 2 34 (by kernel_rfl)
            exact .quiet (by simp [go_sem, h33, h34, q0, q1, q2]) hJ
          · cases ho
            have h35 : A0.tmps[35]?.getD undef = .pointer (some (ad.add (k * 2))) := hin 3 35 (by kernel_rfl)
            exact .quiet (by simp [go_sem, h35]) hJ
          · cases ho
            have h36 : A0.tmps[36]?.getD undef = .pointer (some (ad.add (k * 2))) := hin 4 36 (by kernel_rfl)
            have hc : W.cell? (ad.add (k * 2)) = some (.int .i64 x0) := by rw [HJ] at hJ; exact hJ.new.cellS H0.out id
            exact .quiet (by simp [go_sem, h36, hc]) hJ
          · cases ho
            exact .quiet (exec_move 0 _ rfl (hk 0 (by kernel_rfl))) hJ
          · cases ho
            exact .quiet (exec_move 8 _ rfl (hk 8 (by kernel_rfl))) hJ
          · cases ho
            have h38 : A0.tmps[38]?.getD undef = .slice (some ad) l c := hin 6 38 (by kernel_rfl)
            have h39 : A0.tmps[39]?.getD undef = .int .i64 k := hin 7 39 (by kernel_rfl)
            exact .quiet (by simp [go_sem, h38, h39, q0, q1, q2]) hJ
          · cases ho
            have h40 : A0.tmps[40]?.getD undef = .pointer (some (ad.add (k * 2))) := hin 8 40 (by kernel_rfl)
            exact .quiet (by simp [go_sem, h40, hAb, hAo]) hJ
          · cases ho
            have h41 : A0.tmps[41]?.getD undef = .pointer (some ⟨ad.block, ad.off + (k * 2 + 1), none⟩) := hin 9 41 (by kernel_rfl)
            have hc : W.cell? ⟨ad.block, ad.off + (k * 2 + 1), none⟩ = some (.int .i64 x1) := by rw [HJ] at hJ; exact hJ.new.cellS H1.out id
            exact .quiet (by simp [go_sem, h41, hc]) hJ
          · cases ho
            have h37 : A0.tmps[37]?.getD undef = .int .i64 x0 := hin 5 37 (by kernel_rfl)
            have h42 : A0.tmps[42]?.getD undef = .int .i64 x1 := hin 10 42 (by kernel_rfl)
            rw [HJ] at hJ ⊢
            refine .enter (f := 20) (args := #[.int .i64 x0, .int .i64 x1]) (v := gval x) ?_ ((Hgr.out W).mono ?_)
            · simp [go_sem, h37, h42, eg]
            · rintro e w' ⟨rfl, hc⟩
              exact ⟨rfl, hJ.stay hc, rfl⟩
        simp only [putsL, Act.put, List.setIfInBounds_toArray, List.set_cons_succ, List.set_cons_zero]
        refine AtN.list 12 13 (by kernel_rfl) ?_
        change wpList _ _ _ [_] _ _
        go_wp2_with fail
        rw [HJ] at hJ
        refine (put_s hJ x).mono ?_
        rintro e W4 ⟨rfl, hs4, -⟩
        rw [show putOk (qG X k) 200 = true by unfold putOk; rw [qG_len]; exact decide_eq_true (by omega)]
        rw [show putL (qG X k) 200 x = qG X (k + 1) by unfold putL; rw [if_pos (by rw [qG_len]; omega), Hqs.out]] at hs4
        have HS4 := Lib.hid hs4
        clear hs4 hJ HJ HS H0 H1 Hgr eg
        go_wp2_with fail
        change AtN _ _ _ 13 _ _
        refine AtN.done rfl ?_
        go_wp2_with fail
        go_roundw
        case rel => exact ⟨k + 1, by omega, by go_num, HS4.out⟩
        case measure => simp [intOf]; omega
      · obtain rfl : k = n := by omega
        go_wp2_with fail
        go_loopw [9] (fun i wr => ∃ i0 : Nat, i0 ≤ k ∧ i = .int .i64 i0 ∧ BagS 72 w wr bb (if back then (qG X k).take (k - i0) else (qG X k).drop i0) 200 (fun _ => False)) (fun i _ => k - (intOf i).toNat)
        case atStart => exact ⟨0, Nat.zero_le _, rfl, by
          have := HS.out
          cases back
          · exact this
          · rw [if_pos rfl, Nat.sub_zero, List.take_of_length_le (by rw [qG_len]; exact Nat.le_refl _)]
            exact this⟩
        case round =>
          obtain ⟨i0, hi0, rfl, hs⟩ := hrel
          have HS5 := Lib.hid hs
          clear hs
          by_cases hlt2 : i0 < k
          · cases back with
            | false =>
              obtain ⟨q, hq⟩ : ∃ q : Nat, q = i0 := ⟨_, rfl⟩
              obtain ⟨ad, rfl, hcell⟩ := Hx.out (by omega)
              obtain ⟨x, hxe⟩ : ∃ x, x = gramG (X (q * 2)) (X (q * 2 + 1)) := ⟨_, rfl⟩
              have hgr := fun W => gram18 W (X (q * 2)) (X (q * 2 + 1)) (HX.out _).1 (HX.out _).2 (HX.out _).1 (HX.out _).2
              rw [← hxe] at hgr
              have hqk : q < k := by omega
              have hget := qG_get (X := X) hqk
              rw [← hxe] at hget
              have h0 := hcell (q * 2) (by omega)
              have h1 := hcell (q * 2 + 1) (by omega)
              obtain ⟨x0, hx0⟩ : ∃ y, X (q * 2) = y := ⟨_, rfl⟩
              obtain ⟨x1, hx1⟩ : ∃ y, X (q * 2 + 1) = y := ⟨_, rfl⟩
              rw [hx0] at hgr h0
              rw [hx1] at hgr h1
              rw [add_succ] at h1
              have hAb : (ad.add (q * 2)).block = ad.block := add_block _ _
              have hAo : (ad.add (q * 2)).off + 1 = ad.off + (q * 2 + 1) := by rw [add_offs]; omega
              have Hgr := Lib.hid hgr
              have H0 := Lib.hid h0
              have H1 := Lib.hid h1
              have q0 : (0 : Int) ≤ (q : Int) := by omega
              have q1 : (q : Int) < (l : Int) := by omega
              have q2 : q < l := by omega
              have hget2 : ((qG X k).drop i0)[0]? = some x := by rw [List.getElem?_drop, ← hq]; exact hget
              have her : ((qG X k).drop i0).eraseIdx 0 = (qG X k).drop (i0 + 1) := by simp
              have Hget := Lib.hid hget2
              have Her := Lib.hid her
              clear hgr h0 h1 hcell hx0 hx1 hget hget2 her hxe
              obtain rfl : q = i0 := hq
              go_wp2_with fail
              have hs5 := HS5.out
              simp only [Bool.false_eq_true, ↓reduceIte] at hs5
              refine (take_s_yes hs5 0 x Hget.out).mono ?_
              rintro e W5 ⟨rfl, hs6, -⟩
              rw [Her.out] at hs6
              clear hs5
              rw [show gval x = .agg #[.string x.f, .string x.t, .string x.d] from rfl]
              have HS6 := Lib.hid hs6
              clear hs6 HS5 Hget Her
              go_wp2_with fail
              obtain ⟨W6, hW6⟩ : ∃ W6, W6 = (W5.alloc (.cells #[.string x.f, .string x.t, .string x.d] 33)).drew := ⟨_, rfl⟩
              have hN56 : New W5 W6 := by rw [hW6]; exact ((Chg.refl _ _).alloc _).drew
              have hC6 : Blk W6 W5.heap.size 33 (gcs x).toArray := by rw [hW6]; exact (Blk.new W5 _ _).chg ((Chg.refl _ (fun _ => False)).drew) id
              generalize hb7 : W5.heap.size = b7 at hC6 ⊢
              refine wp_region_at (by kernel_rfl) ?_
              rw [← hb7, ← hW6, hb7]
              have HC6 := Lib.hid hC6
              have HS7 := Lib.hid (HS6.out.stay hN56)
              clear hC6 hN56 hW6 hb7 HS6
              have eg := enters_of Try.func20 (by kernel_rfl) rfl
              unfold Enters at eg
              obtain ⟨J, HJ⟩ : ∃ J : Bool → World → Prop, J = (fun _ W => Blk W b7 33 (gcs x).toArray ∧ BagS 72 w W bb ((qG X k).drop (q + 1)) 200 (fun _ => False)) := ⟨_, rfl⟩
              refine AtN.list 0 3 (by kernel_rfl) ?_
              change wpList _ _ _ [_, _, _] _ _
              go_wp2_with fail
              change AtN _ _ _ 3 _ _
              refine AtN.segV2 3 15 15 (fun
                | 3 => .agg #[.string x.f, .string x.t, .string x.d]
                | 4 => .slice (some ad) l c
                | 5 => .int .i64 q
                | 6 => .pointer (some (ad.add (q * 2)))
                | 7 => .pointer (some (ad.add (q * 2)))
                | 8 => .int .i64 x0
                | 9 => .slice (some ad) l c
                | 10 => .int .i64 q
                | 11 => .pointer (some (ad.add (q * 2)))
                | 12 => .pointer (some ⟨ad.block, ad.off + (q * 2 + 1), none⟩)
                | 13 => .int .i64 x1
                | _ => .agg #[.string x.f, .string x.t, .string x.d])
                [(66, .agg #[.string x.f, .string x.t, .string x.d]), (67, .slice (some ad) l c), (68, .int .i64 q), (69, .pointer (some (ad.add (q * 2)))), (70, .pointer (some (ad.add (q * 2)))), (71, .int .i64 x0), (72, .slice (some ad) l c), (73, .int .i64 q), (74, .pointer (some (ad.add (q * 2)))), (75, .pointer (some ⟨ad.block, ad.off + (q * 2 + 1), none⟩)), (76, .int .i64 x1), (77, .agg #[.string x.f, .string x.t, .string x.d])]
                J (by kernel_rfl) (by kernel_rfl) (by kernel_rfl) (by kernel_rfl) rfl (by rw [HJ]; exact ⟨HC6.out, HS7.out⟩) (fun i hn hi o ho A0 W d hJ hμ hin hk => ?_) (fun W7 hJ => ?_)
              · rcases (show i = 3 ∨ i = 4 ∨ i = 5 ∨ i = 6 ∨ i = 7 ∨ i = 8 ∨ i = 9 ∨ i = 10 ∨ i = 11 ∨ i = 12 ∨ i = 13 ∨ i = 14 by omega) with rfl | rfl | rfl | rfl | rfl | rfl | rfl | rfl | rfl | rfl | rfl | rfl
                · cases ho
                  exact .quiet (exec_load 12 _ rfl stGram ⟨b7, 0, none⟩ (gcs x) (hk 12 (by kernel_rfl)) rfl ((by rw [HJ] at hJ; exact hJ.1 : Blk W b7 33 (gcs x).toArray).at_)) hJ
                · cases ho
                  exact .quiet (exec_move 0 _ rfl (hk 0 (by kernel_rfl))) hJ
                · cases ho
                  exact .quiet (exec_move 10 _ rfl (hk 10 (by kernel_rfl))) hJ
                · cases ho
                  have h67 : A0.tmps[67]?.getD undef = .slice (some ad) l c := hin 4 67 (by kernel_rfl)
                  have h68 : A0.tmps[68]?.getD undef = .int .i64 q := hin 5 68 (by kernel_rfl)
                  exact .quiet (by simp [go_sem, h67, h68, q0, q1, q2]) hJ
                · cases ho
                  have h69 : A0.tmps[69]?.getD undef = .pointer (some (ad.add (q * 2))) := hin 6 69 (by kernel_rfl)
                  exact .quiet (by simp [go_sem, h69]) hJ
                · cases ho
                  have h70 : A0.tmps[70]?.getD undef = .pointer (some (ad.add (q * 2))) := hin 7 70 (by kernel_rfl)
                  have hc : W.cell? (ad.add (q * 2)) = some (.int .i64 x0) := by rw [HJ] at hJ; exact hJ.2.new.cellS H0.out id
                  exact .quiet (by simp [go_sem, h70, hc]) hJ
                · cases ho
                  exact .quiet (exec_move 0 _ rfl (hk 0 (by kernel_rfl))) hJ
                · cases ho
                  exact .quiet (exec_move 10 _ rfl (hk 10 (by kernel_rfl))) hJ
                · cases ho
                  have h72 : A0.tmps[72]?.getD undef = .slice (some ad) l c := hin 9 72 (by kernel_rfl)
                  have h73 : A0.tmps[73]?.getD undef = .int .i64 q := hin 10 73 (by kernel_rfl)
                  exact .quiet (by simp [go_sem, h72, h73, q0, q1, q2]) hJ
                · cases ho
                  have h74 : A0.tmps[74]?.getD undef = .pointer (some (ad.add (q * 2))) := hin 11 74 (by kernel_rfl)
                  exact .quiet (by simp [go_sem, h74, hAb, hAo]) hJ
                · cases ho
                  have h75 : A0.tmps[75]?.getD undef = .pointer (some ⟨ad.block, ad.off + (q * 2 + 1), none⟩) := hin 12 75 (by kernel_rfl)
                  have hc : W.cell? ⟨ad.block, ad.off + (q * 2 + 1), none⟩ = some (.int .i64 x1) := by rw [HJ] at hJ; exact hJ.2.new.cellS H1.out id
                  exact .quiet (by simp [go_sem, h75, hc]) hJ
                · cases ho
                  have h71 : A0.tmps[71]?.getD undef = .int .i64 x0 := hin 8 71 (by kernel_rfl)
                  have h76 : A0.tmps[76]?.getD undef = .int .i64 x1 := hin 13 76 (by kernel_rfl)
                  rw [HJ] at hJ ⊢
                  refine .enter (f := 20) (args := #[.int .i64 x0, .int .i64 x1]) (v := .agg #[.string x.f, .string x.t, .string x.d]) ?_ ((Hgr.out W).mono ?_)
                  · simp [go_sem, h71, h76, eg]
                  · rintro e w' ⟨rfl, hc⟩
                    exact ⟨rfl, ⟨hJ.1.chg hc id, hJ.2.stay hc⟩, rfl⟩
              simp only [putsL, Act.put, List.setIfInBounds_toArray, List.set_cons_succ, List.set_cons_zero]
              refine AtN.list 15 17 (by kernel_rfl) ?_
              change wpList _ _ _ [_, _] _ _
              go_wp2_with fail
              change AtN _ _ _ 17 _ _
              refine AtN.done rfl ?_
              rw [HJ] at hJ
              have HS8 := Lib.hid hJ.2
              clear hJ HJ HC6 HS7 H0 H1 Hgr eg
              go_wp2_with fail
              go_roundw
              case rel => exact ⟨q + 1, by omega, by go_num, HS8.out⟩
              case measure => simp [intOf]; omega
            | true =>
              obtain ⟨q, hq⟩ : ∃ q : Nat, q = k - 1 - i0 := ⟨_, rfl⟩
              obtain ⟨ad, rfl, hcell⟩ := Hx.out (by omega)
              obtain ⟨x, hxe⟩ : ∃ x, x = gramG (X (q * 2)) (X (q * 2 + 1)) := ⟨_, rfl⟩
              have hgr := fun W => gram18 W (X (q * 2)) (X (q * 2 + 1)) (HX.out _).1 (HX.out _).2 (HX.out _).1 (HX.out _).2
              rw [← hxe] at hgr
              have hqk : q < k := by omega
              have hget := qG_get (X := X) hqk
              rw [← hxe] at hget
              have h0 := hcell (q * 2) (by omega)
              have h1 := hcell (q * 2 + 1) (by omega)
              obtain ⟨x0, hx0⟩ : ∃ y, X (q * 2) = y := ⟨_, rfl⟩
              obtain ⟨x1, hx1⟩ : ∃ y, X (q * 2 + 1) = y := ⟨_, rfl⟩
              rw [hx0] at hgr h0
              rw [hx1] at hgr h1
              rw [add_succ] at h1
              have hAb : (ad.add (q * 2)).block = ad.block := add_block _ _
              have hAo : (ad.add (q * 2)).off + 1 = ad.off + (q * 2 + 1) := by rw [add_offs]; omega
              have Hgr := Lib.hid hgr
              have H0 := Lib.hid h0
              have H1 := Lib.hid h1
              have q0 : (0 : Int) ≤ (q : Int) := by omega
              have q1 : (q : Int) < (l : Int) := by omega
              have q2 : q < l := by omega
              have hwq : (k : Int) - 1 - (i0 : Int) = (q : Int) := by omega
              have hwk : (k : Int) - 1 = ((k - 1 : Nat) : Int) := by omega
              have hw1 : IntKind.i64.wrap ((k : Int) - 1) = (k : Int) - 1 := by rw [IntKind.wrap_i64]; omega
              have hget2 : ((qG X k).take (k - i0))[q]? = some x := by rw [List.getElem?_take, if_pos (by omega)]; exact hget
              have her : ((qG X k).take (k - i0)).eraseIdx q = (qG X k).take (k - (i0 + 1)) := by
                rw [qG_take (by omega), qG_take (by omega), show k - i0 = q + 1 by omega, show k - (i0 + 1) = q by omega, qG_erase]
              have Hget := Lib.hid hget2
              have Her := Lib.hid her
              have Hq := Lib.hid hq
              clear hgr h0 h1 hcell hx0 hx1 hget hget2 her hwk hxe hq
              go_wp2_with fail
              have hs5 := HS5.out
              simp only [Bool.false_eq_true, ↓reduceIte] at hs5
              refine (take_s_yes hs5 q x Hget.out).mono ?_
              rintro e W5 ⟨rfl, hs6, -⟩
              rw [Her.out] at hs6
              clear hs5
              rw [show gval x = .agg #[.string x.f, .string x.t, .string x.d] from rfl]
              have HS6 := Lib.hid hs6
              clear hs6 HS5 Hget Her
              go_wp2_with fail
              obtain ⟨W6, hW6⟩ : ∃ W6, W6 = (W5.alloc (.cells #[.string x.f, .string x.t, .string x.d] 33)).drew := ⟨_, rfl⟩
              have hN56 : New W5 W6 := by rw [hW6]; exact ((Chg.refl _ _).alloc _).drew
              have hC6 : Blk W6 W5.heap.size 33 (gcs x).toArray := by rw [hW6]; exact (Blk.new W5 _ _).chg ((Chg.refl _ (fun _ => False)).drew) id
              generalize hb7 : W5.heap.size = b7 at hC6 ⊢
              refine wp_region_at (by kernel_rfl) ?_
              rw [← hb7, ← hW6, hb7]
              have HC6 := Lib.hid hC6
              have HS7 := Lib.hid (HS6.out.stay hN56)
              clear hC6 hN56 hW6 hb7 HS6
              have eg := enters_of Try.func20 (by kernel_rfl) rfl
              unfold Enters at eg
              obtain ⟨J, HJ⟩ : ∃ J : Bool → World → Prop, J = (fun _ W => Blk W b7 33 (gcs x).toArray ∧ BagS 72 w W bb ((qG X k).take (k - (i0 + 1))) 200 (fun _ => False)) := ⟨_, rfl⟩
              refine AtN.list 0 3 (by kernel_rfl) ?_
              change wpList _ _ _ [_, _, _] _ _
              go_wp2_with fail
              change AtN _ _ _ 3 _ _
              refine AtN.segV2 3 15 15 (fun
                | 3 => .agg #[.string x.f, .string x.t, .string x.d]
                | 4 => .slice (some ad) l c
                | 5 => .int .i64 q
                | 6 => .pointer (some (ad.add (q * 2)))
                | 7 => .pointer (some (ad.add (q * 2)))
                | 8 => .int .i64 x0
                | 9 => .slice (some ad) l c
                | 10 => .int .i64 q
                | 11 => .pointer (some (ad.add (q * 2)))
                | 12 => .pointer (some ⟨ad.block, ad.off + (q * 2 + 1), none⟩)
                | 13 => .int .i64 x1
                | _ => .agg #[.string x.f, .string x.t, .string x.d])
                [(66, .agg #[.string x.f, .string x.t, .string x.d]), (67, .slice (some ad) l c), (68, .int .i64 q), (69, .pointer (some (ad.add (q * 2)))), (70, .pointer (some (ad.add (q * 2)))), (71, .int .i64 x0), (72, .slice (some ad) l c), (73, .int .i64 q), (74, .pointer (some (ad.add (q * 2)))), (75, .pointer (some ⟨ad.block, ad.off + (q * 2 + 1), none⟩)), (76, .int .i64 x1), (77, .agg #[.string x.f, .string x.t, .string x.d])]
                J (by kernel_rfl) (by kernel_rfl) (by kernel_rfl) (by kernel_rfl) rfl (by rw [HJ]; exact ⟨HC6.out, HS7.out⟩) (fun i hn hi o ho A0 W d hJ hμ hin hk => ?_) (fun W7 hJ => ?_)
              · rcases (show i = 3 ∨ i = 4 ∨ i = 5 ∨ i = 6 ∨ i = 7 ∨ i = 8 ∨ i = 9 ∨ i = 10 ∨ i = 11 ∨ i = 12 ∨ i = 13 ∨ i = 14 by omega) with rfl | rfl | rfl | rfl | rfl | rfl | rfl | rfl | rfl | rfl | rfl | rfl
                · cases ho
                  exact .quiet (exec_load 12 _ rfl stGram ⟨b7, 0, none⟩ (gcs x) (hk 12 (by kernel_rfl)) rfl ((by rw [HJ] at hJ; exact hJ.1 : Blk W b7 33 (gcs x).toArray).at_)) hJ
                · cases ho
                  exact .quiet (exec_move 0 _ rfl (hk 0 (by kernel_rfl))) hJ
                · cases ho
                  exact .quiet (exec_move 10 _ rfl (hk 10 (by kernel_rfl))) hJ
                · cases ho
                  have h67 : A0.tmps[67]?.getD undef = .slice (some ad) l c := hin 4 67 (by kernel_rfl)
                  have h68 : A0.tmps[68]?.getD undef = .int .i64 q := hin 5 68 (by kernel_rfl)
                  exact .quiet (by simp [go_sem, h67, h68, q0, q1, q2]) hJ
                · cases ho
                  have h69 : A0.tmps[69]?.getD undef = .pointer (some (ad.add (q * 2))) := hin 6 69 (by kernel_rfl)
                  exact .quiet (by simp [go_sem, h69]) hJ
                · cases ho
                  have h70 : A0.tmps[70]?.getD undef = .pointer (some (ad.add (q * 2))) := hin 7 70 (by kernel_rfl)
                  have hc : W.cell? (ad.add (q * 2)) = some (.int .i64 x0) := by rw [HJ] at hJ; exact hJ.2.new.cellS H0.out id
                  exact .quiet (by simp [go_sem, h70, hc]) hJ
                · cases ho
                  exact .quiet (exec_move 0 _ rfl (hk 0 (by kernel_rfl))) hJ
                · cases ho
                  exact .quiet (exec_move 10 _ rfl (hk 10 (by kernel_rfl))) hJ
                · cases ho
                  have h72 : A0.tmps[72]?.getD undef = .slice (some ad) l c := hin 9 72 (by kernel_rfl)
                  have h73 : A0.tmps[73]?.getD undef = .int .i64 q := hin 10 73 (by kernel_rfl)
                  exact .quiet (by simp [go_sem, h72, h73, q0, q1, q2]) hJ
                · cases ho
                  have h74 : A0.tmps[74]?.getD undef = .pointer (some (ad.add (q * 2))) := hin 11 74 (by kernel_rfl)
                  exact .quiet (by simp [go_sem, h74, hAb, hAo]) hJ
                · cases ho
                  have h75 : A0.tmps[75]?.getD undef = .pointer (some ⟨ad.block, ad.off + (q * 2 + 1), none⟩) := hin 12 75 (by kernel_rfl)
                  have hc : W.cell? ⟨ad.block, ad.off + (q * 2 + 1), none⟩ = some (.int .i64 x1) := by rw [HJ] at hJ; exact hJ.2.new.cellS H1.out id
                  exact .quiet (by simp [go_sem, h75, hc]) hJ
                · cases ho
                  have h71 : A0.tmps[71]?.getD undef = .int .i64 x0 := hin 8 71 (by kernel_rfl)
                  have h76 : A0.tmps[76]?.getD undef = .int .i64 x1 := hin 13 76 (by kernel_rfl)
                  rw [HJ] at hJ ⊢
                  refine .enter (f := 20) (args := #[.int .i64 x0, .int .i64 x1]) (v := .agg #[.string x.f, .string x.t, .string x.d]) ?_ ((Hgr.out W).mono ?_)
                  · simp [go_sem, h71, h76, eg]
                  · rintro e w' ⟨rfl, hc⟩
                    exact ⟨rfl, ⟨hJ.1.chg hc id, hJ.2.stay hc⟩, rfl⟩
              simp only [putsL, Act.put, List.setIfInBounds_toArray, List.set_cons_succ, List.set_cons_zero]
              refine AtN.list 15 17 (by kernel_rfl) ?_
              change wpList _ _ _ [_, _] _ _
              go_wp2_with fail
              change AtN _ _ _ 17 _ _
              refine AtN.done rfl ?_
              rw [HJ] at hJ
              have HS8 := Lib.hid hJ.2
              clear hJ HJ HC6 HS7 H0 H1 Hgr eg
              go_wp2_with fail
              go_roundw
              case rel => exact ⟨i0 + 1, by omega, by go_num, HS8.out⟩
              case measure => simp [intOf]; omega
          · obtain rfl : i0 = k := by omega
            have hs9 : BagS 72 w wr bb [] 200 (fun _ => False) := by
              have h := HS5.out
              cases back
              · simp only [Bool.false_eq_true, ↓reduceIte] at h
                rwa [List.drop_of_length_le (by rw [qG_len]; exact Nat.le_refl _)] at h
              · simp only [↓reduceIte, Nat.sub_self, List.take_zero] at h
                exact h
            have HS9 := Lib.hid hs9
            clear hs9 HS5
            go_wp2_with fail
            refine (take_s_no HS9.out 0 rfl).mono ?_
            rintro e W9 ⟨rfl, hs10, -⟩
            have HN10 := Lib.hid hs10.new
            clear hs10 HS9
            rw [show gval zeroG = .agg #[.string ⟨#[]⟩, .string ⟨#[]⟩, .string ⟨#[]⟩] from rfl]
            have HNf := Lib.hid (HN10.out.alloc (.cells #[.string ⟨#[]⟩, .string ⟨#[]⟩, .string ⟨#[]⟩] 33))
            go_wp2_with fail
            go_ret
            exact ⟨rfl, HNf.out⟩
end Go.Proofs.Ytenkobgeflckdaa
