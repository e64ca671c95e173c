/- The walk of BagPlays. -/
import Derived.Test.YtenkobgeflckdaaL18g
import Derived.Test.YtenkobgeflckdaaTwo
set_option linter.unusedVariables false
set_option linter.unusedSimpArgs false
namespace Go.Proofs.Ytenkobgeflckdaa
open Go.RowKit Go.Shelf

theorem agg_inj {x : Gm} : gval x = .agg #[.string x.f, .string x.t, .string x.d] := rfl

set_option maxHeartbeats 4000000 in
set_option maxRecDepth 100000 in
theorem walk_BagPlays (w : World) (mo : Int) (v : Value) (l : Nat) (X : Nat → Int) (hv : IntsAt w v 3 l X) : Calls Try.prog 3 #[.int .i64 mo, v] w fun e w' => e = .returned (.bool true) ∧ New w w' := by
  obtain ⟨⟨A, c, rfl, hlc, hcm, hx⟩, hX⟩ := hv
  unfold maxLen at hcm
  obtain ⟨n, hn⟩ : ∃ n : Nat, n = min l 80 := ⟨_, rfl⟩
  have hnl : n ≤ l := by omega
  have hn80 : n ≤ 80 := by omega
  have Hn := Lib.hid hn
  have Hx := Lib.hid hx
  have HX := Lib.hid hX
  clear hn hx hX
  go_enter Try.func3, Try.ntmps3
  go_wp2_with fail
  refine (awake18 w).mono ?_
  rintro e W1 ⟨rfl, hN1⟩
  have HN1 := Lib.hid hN1
  clear hN1
  go_wp2_with fail
  refine (two_new mo HN1.out).mono ?_
  rintro e W2 ⟨rfl, hN2, hr⟩
  have HR := Lib.hid hr
  clear hr hN2
  generalize W1.heap.size = ba at HR ⊢
  go_wp2_with fail
  refine HR.out.mono ?_
  rintro e W3 ⟨rfl, h3⟩
  generalize W2.heap.size = br at h3 ⊢
  generalize min (max mo 0) 200 = mm at h3
  have HM2 := Lib.hid h3
  clear h3 HN1 HR
  go_wp2_with fail
  go_loopw [8] (fun u8 wr => ∃ (k : Nat) (gs : List Gm), k ≤ n ∧ u8 = .int .i64 k ∧ Two w wr ba br gs gs mm (fun _ => False)) (fun i _ => n - (intOf i).toNat)
  case atStart => exact ⟨0, [], Nat.zero_le _, rfl, HM2.out⟩
  case round =>
    obtain ⟨k, gs, hk, rfl, hs⟩ := hrel
    have HS := Lib.hid hs
    clear hs HM2
    by_cases hlt : k < n
    · have hc1 : k < l := by omega
      have hc2 : k < 80 := by omega
      have hd1 : decide ((k : Int) < (l : Int)) = true := decide_eq_true (by omega)
      have hd2 : decide ((k : Int) < 80) = true := decide_eq_true (by omega)
      obtain ⟨ad, rfl, hcell⟩ := Hx.out (by omega)
      obtain ⟨x0, hx0⟩ : ∃ y, X (k * 3) = y := ⟨_, rfl⟩
      obtain ⟨x1, hx1⟩ : ∃ y, X (k * 3 + 1) = y := ⟨_, rfl⟩
      obtain ⟨x2, hx2⟩ : ∃ y, X (k * 3 + 2) = y := ⟨_, rfl⟩
      have b0 := HX.out (k * 3)
      have b1 := HX.out (k * 3 + 1)
      have b2 := HX.out (k * 3 + 2)
      have hat : At wr (ad.add (k * 3)) [.int .i64 x0, .int .i64 x1, .int .i64 x2] := by
        intro j u hj
        rw [add_add]
        match j, hj with
        | 0, hj => cases hj; rw [← hx0]; exact HS.out.new.cellS (hcell (k * 3) (by omega)) id
        | 1, hj => cases hj; rw [← hx1]; exact HS.out.new.cellS (hcell (k * 3 + 1) (by omega)) id
        | 2, hj => cases hj; rw [← hx2]; exact HS.out.new.cellS (hcell (k * 3 + 2) (by omega)) id
        | j + 3, hj => simp at hj
      rw [hx0] at b0
      rw [hx1] at b1
      rw [hx2] at b2
      obtain ⟨q, hq⟩ : ∃ q : Nat, pk x0 9 = q := ⟨(pk x0 9).toNat, by have := pk_lo x0 9 (by omega); omega⟩
      have hq9 : q < 9 := by have := pk_hi x0 9 (by omega); omega
      have hpick := fun W => pick18 W x0 9 b0.1 b0.2 (by omega) (by omega)
      rw [hq] at hpick
      have hgr := fun W => gram18 W x1 x2 b1.1 b1.2 b2.1 b2.2
      obtain ⟨x, hxe⟩ : ∃ x, x = gramG x1 x2 := ⟨_, rfl⟩
      rw [← hxe] at hgr
      have Hat := Lib.hid hat
      have Hp := Lib.hid hpick
      have Hgr := Lib.hid hgr
      clear hat hpick hgr hxe hq b0 b1 b2 hx0 hx1 hx2 hcell
      have q0 : (0 : Int) ≤ (k : Int) := by omega
      have q1 : (k : Int) < (l : Int) := by omega
      go_upto_block 2 with (first | ((with_reducible refine wpl_load rfl (.tmp 40) 29 rfl stOp18 (ad.add (k * 3)) [.int .i64 x0, .int .i64 x1, .int .i64 x2] ?_ rfl Hat.out ?_); exact rfl) | (go_at_call 18; refine (Hp.out _).mono ?_; rintro e w' ⟨rfl, rfl⟩))
      obtain ⟨W3, hW3⟩ : ∃ W3, W3 = wr.alloc (.cells #[.int .i64 x0, .int .i64 x1, .int .i64 x2] 29) := ⟨_, rfl⟩
      rw [← hW3]
      have hN3 : New wr W3 := by rw [hW3]; exact (Chg.refl _ _).alloc _
      have hB3 : Blk W3 wr.heap.size 29 #[.int .i64 x0, .int .i64 x1, .int .i64 x2] := by rw [hW3]; exact Blk.new wr _ _
      have h3 : Two w W3 ba br gs gs mm (fun q => q = wr.heap.size) := HS.out.keep hN3 _ (fun q hq => .inr ⟨by omega, by rw [hq]; exact hB3.lt⟩)
      generalize wr.heap.size = b9 at hB3 h3 ⊢
      have HS3 := Lib.hid h3
      have HB3 := Lib.hid hB3
      clear hB3 h3 hN3 hW3 HS Hat
      go_cut [9, 10, 11, 12, 13, 14, 15, 16] from 45 to 127 (fun z9 z10 z11 z12 z13 z14 z15 z16 wx => ∃ (b : Bool) (gs' : List Gm), z10 = .bool b ∧ z11 = .bool b ∧ Two w wx ba br gs' gs' mm (fun _ => False))
      case first =>
        have c1 := HB3.out.cell 1
        have c2 := HB3.out.cell 2
        simp only [List.getElem?_toArray, List.getElem?_cons_zero, List.getElem?_cons_succ] at c1 c2
        rcases (show q = 0 ∨ q = 1 ∨ q = 2 ∨ q = 3 ∨ q = 4 ∨ q = 5 ∨ q = 6 ∨ q = 7 ∨ q = 8 by omega) with rfl | rfl | rfl | rfl | rfl | rfl | rfl | rfl | rfl
        · go_wp2_with fail
          refine (Hgr.out W3).mono ?_
          rintro e W4 ⟨rfl, hN4⟩
          have HS4 := Lib.hid (HS3.out.stay hN4)
          have HB4 := Lib.hid (HB3.out.chg hN4 id)
          clear hN4 HS3 HB3 c1 c2
          go_wp2_with fail
          refine (HS4.out.opA (fun S' hb => put_s hb x)).mono ?_
          rintro e W5 ⟨rfl, hs5, hc5⟩
          have HS5 := Lib.hid hs5
          have HB5 := Lib.hid (hc5.of rfl HB4.out)
          have c1 := HB5.out.cell 1
          have c2 := HB5.out.cell 2
          simp only [List.getElem?_toArray, List.getElem?_cons_zero, List.getElem?_cons_succ] at c1 c2
          clear hs5 hc5 HS4 HB4
          go_wp2_with fail
          refine (Hgr.out W5).mono ?_
          rintro e W6 ⟨rfl, hN6⟩
          have HS6 := Lib.hid (HS5.out.stay hN6)
          clear hN6 HS5 HB5 c1 c2
          go_wp2_with fail
          refine (HS6.out.opR (fun S' hb => rput_s hb x)).mono ?_
          rintro e W7 ⟨rfl, hs7, -⟩
          have HS7 := Lib.hid (hs7.less (T := fun _ => False) (fun _ h => h.elim))
          clear hs7 HS6
          go_wp2_with fail
          go_meet
          exact ⟨_, _, rfl, rfl, HS7.out⟩
        · go_wp2_with fail
          refine (Hgr.out W3).mono ?_
          rintro e W4 ⟨rfl, hN4⟩
          have HS4 := Lib.hid (HS3.out.stay hN4)
          have HB4 := Lib.hid (HB3.out.chg hN4 id)
          clear hN4 HS3 HB3 c1 c2
          go_wp2_with fail
          refine (HS4.out.opA (fun S' hb => put_s hb x)).mono ?_
          rintro e W5 ⟨rfl, hs5, hc5⟩
          have HS5 := Lib.hid hs5
          have HB5 := Lib.hid (hc5.of rfl HB4.out)
          have c1 := HB5.out.cell 1
          have c2 := HB5.out.cell 2
          simp only [List.getElem?_toArray, List.getElem?_cons_zero, List.getElem?_cons_succ] at c1 c2
          clear hs5 hc5 HS4 HB4
          go_wp2_with fail
          refine (Hgr.out W5).mono ?_
          rintro e W6 ⟨rfl, hN6⟩
          have HS6 := Lib.hid (HS5.out.stay hN6)
          clear hN6 HS5 HB5 c1 c2
          go_wp2_with fail
          refine (HS6.out.opR (fun S' hb => rput_s hb x)).mono ?_
          rintro e W7 ⟨rfl, hs7, -⟩
          have HS7 := Lib.hid (hs7.less (T := fun _ => False) (fun _ h => h.elim))
          clear hs7 HS6
          go_wp2_with fail
          go_meet
          exact ⟨_, _, rfl, rfl, HS7.out⟩
        · go_wp2_with fail
          refine (Hgr.out W3).mono ?_
          rintro e W4 ⟨rfl, hN4⟩
          have HS4 := Lib.hid (HS3.out.stay hN4)
          have HB4 := Lib.hid (HB3.out.chg hN4 id)
          clear hN4 HS3 HB3 c1 c2
          go_wp2_with fail
          refine (HS4.out.opA (fun S' hb => put_s hb x)).mono ?_
          rintro e W5 ⟨rfl, hs5, hc5⟩
          have HS5 := Lib.hid hs5
          have HB5 := Lib.hid (hc5.of rfl HB4.out)
          have c1 := HB5.out.cell 1
          have c2 := HB5.out.cell 2
          simp only [List.getElem?_toArray, List.getElem?_cons_zero, List.getElem?_cons_succ] at c1 c2
          clear hs5 hc5 HS4 HB4
          go_wp2_with fail
          refine (Hgr.out W5).mono ?_
          rintro e W6 ⟨rfl, hN6⟩
          have HS6 := Lib.hid (HS5.out.stay hN6)
          clear hN6 HS5 HB5 c1 c2
          go_wp2_with fail
          refine (HS6.out.opR (fun S' hb => rput_s hb x)).mono ?_
          rintro e W7 ⟨rfl, hs7, -⟩
          have HS7 := Lib.hid (hs7.less (T := fun _ => False) (fun _ h => h.elim))
          clear hs7 HS6
          go_wp2_with fail
          go_meet
          exact ⟨_, _, rfl, rfl, HS7.out⟩
        · go_wp2_with fail
          refine (Hgr.out W3).mono ?_
          rintro e W4 ⟨rfl, hN4⟩
          have HS4 := Lib.hid (HS3.out.stay hN4)
          have HB4 := Lib.hid (HB3.out.chg hN4 id)
          clear hN4 HS3 HB3 c1 c2
          go_wp2_with fail
          refine (HS4.out.opA (fun S' hb => put_s hb x)).mono ?_
          rintro e W5 ⟨rfl, hs5, hc5⟩
          have HS5 := Lib.hid hs5
          have HB5 := Lib.hid (hc5.of rfl HB4.out)
          have c1 := HB5.out.cell 1
          have c2 := HB5.out.cell 2
          simp only [List.getElem?_toArray, List.getElem?_cons_zero, List.getElem?_cons_succ] at c1 c2
          clear hs5 hc5 HS4 HB4
          go_wp2_with fail
          refine (Hgr.out W5).mono ?_
          rintro e W6 ⟨rfl, hN6⟩
          have HS6 := Lib.hid (HS5.out.stay hN6)
          clear hN6 HS5 HB5 c1 c2
          go_wp2_with fail
          refine (HS6.out.opR (fun S' hb => rput_s hb x)).mono ?_
          rintro e W7 ⟨rfl, hs7, -⟩
          have HS7 := Lib.hid (hs7.less (T := fun _ => False) (fun _ h => h.elim))
          clear hs7 HS6
          go_wp2_with fail
          go_meet
          exact ⟨_, _, rfl, rfl, HS7.out⟩
        · by_cases ho : okI gs.length x1 = true
          · obtain ⟨i, hi, hil⟩ : ∃ i : Nat, x1 = i ∧ i < gs.length := by
              simp only [okI, Bool.and_eq_true, decide_eq_true_eq] at ho
              exact ⟨x1.toNat, by omega, by omega⟩
            subst hi
            obtain ⟨y, hy⟩ : ∃ y, gs[i]? = some y := ⟨_, List.getElem?_eq_getElem hil⟩
            have Hy := Lib.hid hy
            have Hil := Lib.hid hil
            clear hy ho hil
            go_wp2_with fail
            refine (HS3.out.opA (fun S' hb => take_s_yes hb i y Hy.out)).mono ?_
            rintro e W4 ⟨rfl, hs4, hc4⟩
            rw [show gval y = .agg #[.string y.f, .string y.t, .string y.d] from rfl]
            obtain ⟨W5, hW5⟩ : ∃ W5, W5 = W4.alloc (.cells #[.string y.f, .string y.t, .string y.d] 33) := ⟨_, rfl⟩
            have hN5 : New W4 W5 := by rw [hW5]; exact (Chg.refl _ _).alloc _
            have hB5 : Blk W5 W4.heap.size 33 (gcs y).toArray := by rw [hW5]; exact Blk.new W4 _ _
            obtain ⟨b12, hb12⟩ : ∃ b, W4.heap.size = b := ⟨_, rfl⟩
            rw [hb12] at hB5
            have HS5 := Lib.hid (hs4.keep hN5 (fun q => q = b9 ∨ q = b12) (fun q hq => hq.imp id fun h => by rw [h]; exact ⟨by omega, hB5.lt⟩))
            have HB5 := Lib.hid ((hc4.of rfl HB3.out).chg hN5 id)
            have HC5 := Lib.hid hB5
            have HW5 := Lib.hid hW5
            have Hb12 := Lib.hid hb12
            clear c1 c2 hs4 hc4 HS3 HB3 hN5 hB5 hW5 hb12
            have c1 := HB5.out.cell 1
            have c2 := HB5.out.cell 2
            simp only [List.getElem?_toArray, List.getElem?_cons_zero, List.getElem?_cons_succ] at c1 c2
            go_upto_region 24 with fail
            rw [← HW5.out, Hb12.out]
            go_wp2_with fail
            refine (HS5.out.opR (fun S' hb => rtake_s_yes hb i y Hy.out)).mono ?_
            rintro e W6 ⟨rfl, hs6, hc6⟩
            rw [show gval y = .agg #[.string y.f, .string y.t, .string y.d] from rfl]
            obtain ⟨W7, hW7⟩ : ∃ W7, W7 = W6.alloc (.cells #[.string y.f, .string y.t, .string y.d] 33) := ⟨_, rfl⟩
            have hN7 : New W6 W7 := by rw [hW7]; exact (Chg.refl _ _).alloc _
            have hB7 : Blk W7 W6.heap.size 33 (gcs y).toArray := by rw [hW7]; exact Blk.new W6 _ _
            obtain ⟨b14, hb14⟩ : ∃ b, W6.heap.size = b := ⟨_, rfl⟩
            rw [hb14] at hB7
            have HS7 := Lib.hid (hs6.keep hN7 (fun _ => False) (fun q hq => hq.elim))
            have Ha12 := Lib.hid (show At W7 ⟨b12, 0, none⟩ [.string y.f, .string y.t, .string y.d] from ((hc6.of (.inr rfl) HC5.out).chg hN7 id).at_)
            have Ha14 := Lib.hid (show At W7 ⟨b14, 0, none⟩ [.string y.f, .string y.t, .string y.d] from hB7.at_)
            have HW7 := Lib.hid hW7
            have Hb14 := Lib.hid hb14
            clear c1 c2 hs6 hc6 HS5 HB5 HC5 hN7 hB7 hW7 hb14 HW5 Hb12
            go_upto_region 25 with fail
            rw [← HW7.out, Hb14.out]
            have Hnq := Lib.hid (show ∀ W ρ o p q, Oper.op o = .binOp .neq 33 p q 33 → ρ p = .agg #[.string y.f, .string y.t, .string y.d] → ρ q = .agg #[.string y.f, .string y.t, .string y.d] → (execOp ρ o).run Try.prog W = .ok (.value (.bool false)) W from fun W ρ o p q ho hp hq => by rw [exec_neq_gram W y y ρ o p q ho hp hq]; simp)
            clear HW7 Hb14
            go_wp2_with (first | ((with_reducible refine wpl_load rfl (.tmp 12) 33 rfl stGram ⟨b12, 0, none⟩ [.string y.f, .string y.t, .string y.d] ?_ rfl Ha12.out ?_); exact rfl) | ((with_reducible refine wpl_load rfl (.tmp 14) 33 rfl stGram ⟨b14, 0, none⟩ [.string y.f, .string y.t, .string y.d] ?_ rfl Ha14.out ?_); exact rfl) | ((with_reducible refine wpl_value rfl (.bool false) ?_ ?_); exact Hnq.out _ _ _ _ _ rfl rfl rfl))
            go_meet
            exact ⟨_, _, rfl, rfl, HS7.out⟩
          · have Ho := Lib.hid (show okI gs.length x1 = false by simpa using ho)
            clear ho
            go_wp2_with fail
            refine (HS3.out.opA (fun S' hb => take_s_no hb x1 Ho.out)).mono ?_
            rintro e W4 ⟨rfl, hs4, hc4⟩
            rw [show gval zeroG = .agg #[.string zeroG.f, .string zeroG.t, .string zeroG.d] from rfl]
            obtain ⟨W5, hW5⟩ : ∃ W5, W5 = W4.alloc (.cells #[.string zeroG.f, .string zeroG.t, .string zeroG.d] 33) := ⟨_, rfl⟩
            have hN5 : New W4 W5 := by rw [hW5]; exact (Chg.refl _ _).alloc _
            have hB5 : Blk W5 W4.heap.size 33 (gcs zeroG).toArray := by rw [hW5]; exact Blk.new W4 _ _
            obtain ⟨b12, hb12⟩ : ∃ b, W4.heap.size = b := ⟨_, rfl⟩
            rw [hb12] at hB5
            have HS5 := Lib.hid (hs4.keep hN5 (fun q => q = b9 ∨ q = b12) (fun q hq => hq.imp id fun h => by rw [h]; exact ⟨by omega, hB5.lt⟩))
            have HB5 := Lib.hid ((hc4.of rfl HB3.out).chg hN5 id)
            have HC5 := Lib.hid hB5
            have HW5 := Lib.hid hW5
            have Hb12 := Lib.hid hb12
            clear c1 c2 hs4 hc4 HS3 HB3 hN5 hB5 hW5 hb12
            have c1 := HB5.out.cell 1
            have c2 := HB5.out.cell 2
            simp only [List.getElem?_toArray, List.getElem?_cons_zero, List.getElem?_cons_succ] at c1 c2
            go_upto_region 24 with fail
            rw [← HW5.out, Hb12.out]
            go_wp2_with fail
            refine (HS5.out.opR (fun S' hb => rtake_s_no hb x1 Ho.out)).mono ?_
            rintro e W6 ⟨rfl, hs6, hc6⟩
            rw [show gval zeroG = .agg #[.string zeroG.f, .string zeroG.t, .string zeroG.d] from rfl]
            obtain ⟨W7, hW7⟩ : ∃ W7, W7 = W6.alloc (.cells #[.string zeroG.f, .string zeroG.t, .string zeroG.d] 33) := ⟨_, rfl⟩
            have hN7 : New W6 W7 := by rw [hW7]; exact (Chg.refl _ _).alloc _
            have hB7 : Blk W7 W6.heap.size 33 (gcs zeroG).toArray := by rw [hW7]; exact Blk.new W6 _ _
            obtain ⟨b14, hb14⟩ : ∃ b, W6.heap.size = b := ⟨_, rfl⟩
            rw [hb14] at hB7
            have HS7 := Lib.hid (hs6.keep hN7 (fun _ => False) (fun q hq => hq.elim))
            have Ha12 := Lib.hid (show At W7 ⟨b12, 0, none⟩ [.string zeroG.f, .string zeroG.t, .string zeroG.d] from ((hc6.of (.inr rfl) HC5.out).chg hN7 id).at_)
            have Ha14 := Lib.hid (show At W7 ⟨b14, 0, none⟩ [.string zeroG.f, .string zeroG.t, .string zeroG.d] from hB7.at_)
            have HW7 := Lib.hid hW7
            have Hb14 := Lib.hid hb14
            clear c1 c2 hs6 hc6 HS5 HB5 HC5 hN7 hB7 hW7 hb14 HW5 Hb12
            go_upto_region 25 with fail
            rw [← HW7.out, Hb14.out]
            have Hnq := Lib.hid (show ∀ W ρ o p q, Oper.op o = .binOp .neq 33 p q 33 → ρ p = .agg #[.string zeroG.f, .string zeroG.t, .string zeroG.d] → ρ q = .agg #[.string zeroG.f, .string zeroG.t, .string zeroG.d] → (execOp ρ o).run Try.prog W = .ok (.value (.bool false)) W from fun W ρ o p q ho hp hq => by rw [exec_neq_gram W zeroG zeroG ρ o p q ho hp hq]; simp)
            clear HW7 Hb14
            go_wp2_with (first | ((with_reducible refine wpl_load rfl (.tmp 12) 33 rfl stGram ⟨b12, 0, none⟩ [.string zeroG.f, .string zeroG.t, .string zeroG.d] ?_ rfl Ha12.out ?_); exact rfl) | ((with_reducible refine wpl_load rfl (.tmp 14) 33 rfl stGram ⟨b14, 0, none⟩ [.string zeroG.f, .string zeroG.t, .string zeroG.d] ?_ rfl Ha14.out ?_); exact rfl) | ((with_reducible refine wpl_value rfl (.bool false) ?_ ?_); exact Hnq.out _ _ _ _ _ rfl rfl rfl))
            go_meet
            exact ⟨_, _, rfl, rfl, HS7.out⟩
        · by_cases ho : okI gs.length x1 = true
          · obtain ⟨i, hi, hil⟩ : ∃ i : Nat, x1 = i ∧ i < gs.length := by
              simp only [okI, Bool.and_eq_true, decide_eq_true_eq] at ho
              exact ⟨x1.toNat, by omega, by omega⟩
            subst hi
            obtain ⟨y, hy⟩ : ∃ y, gs[i]? = some y := ⟨_, List.getElem?_eq_getElem hil⟩
            have Hy := Lib.hid hy
            have Hil := Lib.hid hil
            clear hy ho hil
            go_wp2_with fail
            refine (HS3.out.opA (fun S' hb => again_s_yes hb i y Hy.out)).mono ?_
            rintro e W4 ⟨rfl, hs4, hc4⟩
            have HS4 := Lib.hid hs4
            have HB4 := Lib.hid (hc4.of rfl HB3.out)
            clear c1 c2 hs4 hc4 HS3 HB3
            have c1 := HB4.out.cell 1
            have c2 := HB4.out.cell 2
            simp only [List.getElem?_toArray, List.getElem?_cons_zero, List.getElem?_cons_succ] at c1 c2
            go_wp2_with fail
            refine (HS4.out.opR (fun S' hb => ragain_s_yes hb i y Hy.out)).mono ?_
            rintro e W5 ⟨rfl, hs5, hc5⟩
            have HS5 := Lib.hid (hs5.less (T := fun _ => False) (fun _ h => h.elim))
            clear c1 c2 hs5 hc5 HS4 HB4
            go_wp2_with fail
            go_meet
            exact ⟨_, _, rfl, rfl, HS5.out⟩
          · have Ho := Lib.hid (show okI gs.length x1 = false by simpa using ho)
            clear ho
            go_wp2_with fail
            refine (HS3.out.opA (fun S' hb => again_s_no hb x1 Ho.out)).mono ?_
            rintro e W4 ⟨rfl, hs4, hc4⟩
            have HS4 := Lib.hid hs4
            have HB4 := Lib.hid (hc4.of rfl HB3.out)
            clear c1 c2 hs4 hc4 HS3 HB3
            have c1 := HB4.out.cell 1
            have c2 := HB4.out.cell 2
            simp only [List.getElem?_toArray, List.getElem?_cons_zero, List.getElem?_cons_succ] at c1 c2
            go_wp2_with fail
            refine (HS4.out.opR (fun S' hb => ragain_s_no hb x1 Ho.out)).mono ?_
            rintro e W5 ⟨rfl, hs5, hc5⟩
            have HS5 := Lib.hid (hs5.less (T := fun _ => False) (fun _ h => h.elim))
            clear c1 c2 hs5 hc5 HS4 HB4
            go_wp2_with fail
            go_meet
            exact ⟨_, _, rfl, rfl, HS5.out⟩
        · by_cases ho : (okI gs.length x1 && okI gs.length x2) = true
          · obtain ⟨i, hi, hil⟩ : ∃ i : Nat, x1 = i ∧ i < gs.length := by
              simp only [okI, Bool.and_eq_true, decide_eq_true_eq] at ho
              exact ⟨x1.toNat, by omega, by omega⟩
            obtain ⟨j, hj, hjl⟩ : ∃ i : Nat, x2 = i ∧ i < gs.length := by
              simp only [okI, Bool.and_eq_true, decide_eq_true_eq] at ho
              exact ⟨x2.toNat, by omega, by omega⟩
            subst hi
            subst hj
            obtain ⟨y, hy⟩ : ∃ y, gs[i]? = some y := ⟨_, List.getElem?_eq_getElem hil⟩
            have Hy := Lib.hid hy
            have Hil := Lib.hid hil
            have Hjl := Lib.hid hjl
            clear hy ho hil hjl
            go_wp2_with fail
            refine (HS3.out.opA (fun S' hb => move_s_yes hb i j y Hy.out Hjl.out)).mono ?_
            rintro e W4 ⟨rfl, hs4, hc4⟩
            have HS4 := Lib.hid hs4
            have HB4 := Lib.hid (hc4.of rfl HB3.out)
            clear c1 c2 hs4 hc4 HS3 HB3
            have c1 := HB4.out.cell 1
            have c2 := HB4.out.cell 2
            simp only [List.getElem?_toArray, List.getElem?_cons_zero, List.getElem?_cons_succ] at c1 c2
            go_wp2_with fail
            refine (HS4.out.opR (fun S' hb => rmove_s_yes hb i j y Hy.out Hjl.out)).mono ?_
            rintro e W5 ⟨rfl, hs5, hc5⟩
            have HS5 := Lib.hid (hs5.less (T := fun _ => False) (fun _ h => h.elim))
            clear c1 c2 hs5 hc5 HS4 HB4
            go_wp2_with fail
            go_meet
            exact ⟨_, _, rfl, rfl, HS5.out⟩
          · have Ho := Lib.hid (show (okI gs.length x1 && okI gs.length x2) = false by simpa using ho)
            clear ho
            go_wp2_with fail
            refine (HS3.out.opA (fun S' hb => move_s_no hb x1 x2 Ho.out)).mono ?_
            rintro e W4 ⟨rfl, hs4, hc4⟩
            have HS4 := Lib.hid hs4
            have HB4 := Lib.hid (hc4.of rfl HB3.out)
            clear c1 c2 hs4 hc4 HS3 HB3
            have c1 := HB4.out.cell 1
            have c2 := HB4.out.cell 2
            simp only [List.getElem?_toArray, List.getElem?_cons_zero, List.getElem?_cons_succ] at c1 c2
            go_wp2_with fail
            refine (HS4.out.opR (fun S' hb => rmove_s_no hb x1 x2 Ho.out)).mono ?_
            rintro e W5 ⟨rfl, hs5, hc5⟩
            have HS5 := Lib.hid (hs5.less (T := fun _ => False) (fun _ h => h.elim))
            clear c1 c2 hs5 hc5 HS4 HB4
            go_wp2_with fail
            go_meet
            exact ⟨_, _, rfl, rfl, HS5.out⟩
        · by_cases ho : (okI gs.length x1 && okI gs.length x2) = true
          · obtain ⟨i, hi, hil⟩ : ∃ i : Nat, x1 = i ∧ i < gs.length := by
              simp only [okI, Bool.and_eq_true, decide_eq_true_eq] at ho
              exact ⟨x1.toNat, by omega, by omega⟩
            obtain ⟨j, hj, hjl⟩ : ∃ i : Nat, x2 = i ∧ i < gs.length := by
              simp only [okI, Bool.and_eq_true, decide_eq_true_eq] at ho
              exact ⟨x2.toNat, by omega, by omega⟩
            subst hi
            subst hj
            obtain ⟨y, hy⟩ : ∃ y, gs[i]? = some y := ⟨_, List.getElem?_eq_getElem hil⟩
            have Hy := Lib.hid hy
            have Hil := Lib.hid hil
            have Hjl := Lib.hid hjl
            clear hy ho hil hjl
            go_wp2_with fail
            refine (HS3.out.opA (fun S' hb => move_s_yes hb i j y Hy.out Hjl.out)).mono ?_
            rintro e W4 ⟨rfl, hs4, hc4⟩
            have HS4 := Lib.hid hs4
            have HB4 := Lib.hid (hc4.of rfl HB3.out)
            clear c1 c2 hs4 hc4 HS3 HB3
            have c1 := HB4.out.cell 1
            have c2 := HB4.out.cell 2
            simp only [List.getElem?_toArray, List.getElem?_cons_zero, List.getElem?_cons_succ] at c1 c2
            go_wp2_with fail
            refine (HS4.out.opR (fun S' hb => rmove_s_yes hb i j y Hy.out Hjl.out)).mono ?_
            rintro e W5 ⟨rfl, hs5, hc5⟩
            have HS5 := Lib.hid (hs5.less (T := fun _ => False) (fun _ h => h.elim))
            clear c1 c2 hs5 hc5 HS4 HB4
            go_wp2_with fail
            go_meet
            exact ⟨_, _, rfl, rfl, HS5.out⟩
          · have Ho := Lib.hid (show (okI gs.length x1 && okI gs.length x2) = false by simpa using ho)
            clear ho
            go_wp2_with fail
            refine (HS3.out.opA (fun S' hb => move_s_no hb x1 x2 Ho.out)).mono ?_
            rintro e W4 ⟨rfl, hs4, hc4⟩
            have HS4 := Lib.hid hs4
            have HB4 := Lib.hid (hc4.of rfl HB3.out)
            clear c1 c2 hs4 hc4 HS3 HB3
            have c1 := HB4.out.cell 1
            have c2 := HB4.out.cell 2
            simp only [List.getElem?_toArray, List.getElem?_cons_zero, List.getElem?_cons_succ] at c1 c2
            go_wp2_with fail
            refine (HS4.out.opR (fun S' hb => rmove_s_no hb x1 x2 Ho.out)).mono ?_
            rintro e W5 ⟨rfl, hs5, hc5⟩
            have HS5 := Lib.hid (hs5.less (T := fun _ => False) (fun _ h => h.elim))
            clear c1 c2 hs5 hc5 HS4 HB4
            go_wp2_with fail
            go_meet
            exact ⟨_, _, rfl, rfl, HS5.out⟩
        · go_wp2_with fail
          refine (Hgr.out W3).mono ?_
          rintro e W4 ⟨rfl, hN4⟩
          rw [show gval x = .agg #[.string x.f, .string x.t, .string x.d] from rfl]
          obtain ⟨W5, hW5⟩ : ∃ W5, W5 = W4.alloc (.cells #[.string x.f, .string x.t, .string x.d] 33) := ⟨_, rfl⟩
          have hN5 : New W3 W5 := by rw [hW5]; exact hN4.alloc _
          have hB5 : Blk W5 W4.heap.size 33 (gcs x).toArray := by rw [hW5]; exact Blk.new W4 _ _
          obtain ⟨b16, hb16⟩ : ∃ b, W4.heap.size = b := ⟨_, rfl⟩
          have hb := HS3.out.keep hN5 (fun q => q = b16) (fun q hq => .inr ⟨by rw [hq, ← hb16]; exact hN4.size, by rw [hq, ← hb16]; exact hB5.lt⟩)
          rw [hb16] at hB5
          have HS5 := Lib.hid (hb.stay ((Chg.refl W5 (fun _ => False)).drew))
          have HB5 := Lib.hid (hB5.chg ((Chg.refl W5 (fun _ => False)).drew) id)
          have HW5 := Lib.hid hW5
          have Hb16 := Lib.hid hb16
          clear hb hB5 hN5 hN4 hW5 hb16 HS3 HB3 c1 c2
          go_upto_region 14 with fail
          rw [← HW5.out, Hb16.out]
          refine wp_region_at (by kernel_rfl) ?_
          generalize W5.drew = wd at HS5 HB5 ⊢
          clear HW5 Hb16
          obtain ⟨m, hm⟩ : ∃ m, gs.length = m := ⟨_, rfl⟩
          obtain ⟨fs, hfs⟩ : ∃ fs, fs = gs.filter fun y => !cutP x.f x.t y := ⟨_, rfl⟩
          obtain ⟨r, hr⟩ : ∃ r, fs.length = r := ⟨_, rfl⟩
          have hca := fun W S' (hb : BagS 72 w W ba gs mm S') => cut_s hb x.f x.t
          have hcr := fun W S' (hb : BagS 74 w W br gs mm S') => rcut_s hb x.f x.t
          rw [← hfs, hr, hm] at hca hcr
          have Hca := Lib.hid hca
          have Hcr := Lib.hid hcr
          clear hca hcr hm hfs hr
          obtain ⟨J, HJ⟩ : ∃ J : Bool → World → Prop, J = (fun d W => Two w W ba br (if d = true then fs else gs) gs mm (fun q => q = b16) ∧ Blk W b16 33 (gcs x).toArray) := ⟨_, rfl⟩
          have eg := enters_of Try.func28 (by kernel_rfl) rfl
          unfold Enters at eg
          refine AtN.segV2 0 11 5 (fun
            | 0 => .pointer (some ⟨ba, 0, none⟩)
            | 1 => .pointer (some ⟨b16, 0, none⟩)
            | 2 => .string x.f
            | 3 => .pointer (some ⟨b16, 1, none⟩)
            | 4 => .string x.t
            | 5 => .int .i64 ((m : Int) - r)
            | 6 => .pointer (some ⟨br, 0, none⟩)
            | 7 => .pointer (some ⟨b16, 0, none⟩)
            | 8 => .string x.f
            | 9 => .pointer (some ⟨b16, 1, none⟩)
            | _ => .string x.t)
            [(50, .pointer (some ⟨ba, 0, none⟩)), (51, .pointer (some ⟨b16, 0, none⟩)), (52, .string x.f), (53, .pointer (some ⟨b16, 1, none⟩)), (54, .string x.t), (55, .int .i64 ((m : Int) - r)), (56, .pointer (some ⟨br, 0, none⟩)), (57, .pointer (some ⟨b16, 0, none⟩)), (58, .string x.f), (59, .pointer (some ⟨b16, 1, none⟩)), (60, .string x.t)]
            J (by kernel_rfl) (by kernel_rfl) (by kernel_rfl) (by kernel_rfl) rfl (by rw [HJ]; exact ⟨HS5.out, HB5.out⟩) (fun i hn hi o ho A0 W d hJ hμ hin hk => ?_) (fun W6 hJ => ?_)
          · rcases (show i = 0 ∨ i = 1 ∨ i = 2 ∨ i = 3 ∨ i = 4 ∨ i = 5 ∨ i = 6 ∨ i = 7 ∨ i = 8 ∨ i = 9 ∨ i = 10 by omega) with rfl | rfl | rfl | rfl | rfl | rfl | rfl | rfl | rfl | rfl | rfl
            · cases ho
              exact .quiet (exec_move 6 _ rfl (hk 6 (by kernel_rfl))) hJ
            · cases ho
              have h16 : A0.tmps[16]?.getD undef = .pointer (some ⟨b16, 0, none⟩) := hk 16 (by kernel_rfl)
              exact .quiet (by simp [go_sem, h16]) hJ
            · cases ho
              have h51 : A0.tmps[51]?.getD undef = .pointer (some ⟨b16, 0, none⟩) := hin 1 51 (by kernel_rfl)
              have hc : W.cell? ⟨b16, 0, none⟩ = some (.string x.f) := by rw [HJ] at hJ; exact hJ.2.cell 0
              exact .quiet (by simp [go_sem, h51, hc]) hJ
            · cases ho
              have h16 : A0.tmps[16]?.getD undef = .pointer (some ⟨b16, 0, none⟩) := hk 16 (by kernel_rfl)
              exact .quiet (by simp [go_sem, h16]) hJ
            · cases ho
              have h53 : A0.tmps[53]?.getD undef = .pointer (some ⟨b16, 1, none⟩) := hin 3 53 (by kernel_rfl)
              have hc : W.cell? ⟨b16, 1, none⟩ = some (.string x.t) := by rw [HJ] at hJ; exact hJ.2.cell 1
              exact .quiet (by simp [go_sem, h53, hc]) hJ
            · cases ho
              have h50 : A0.tmps[50]?.getD undef = .pointer (some ⟨ba, 0, none⟩) := hin 0 50 (by kernel_rfl)
              have h52 : A0.tmps[52]?.getD undef = .string x.f := hin 2 52 (by kernel_rfl)
              have h54 : A0.tmps[54]?.getD undef = .string x.t := hin 4 54 (by kernel_rfl)
              obtain rfl := hμ rfl
              rw [HJ] at hJ ⊢
              refine .enter (f := 28) (args := #[.pointer (some ⟨ba, 0, none⟩), .string x.f, .string x.t]) (v := .int .i64 ((m : Int) - r)) ?_ ((hJ.1.opA (fun S' hb => Hca.out W S' hb)).mono ?_)
              · simp [go_sem, h50, h52, h54, eg]
              · rintro e w' ⟨rfl, h1, h2⟩
                exact ⟨rfl, ⟨h1, h2.of rfl hJ.2⟩, rfl⟩
            · cases ho
              exact .quiet (exec_move 7 _ rfl (hk 7 (by kernel_rfl))) hJ
            · cases ho
              have h16 : A0.tmps[16]?.getD undef = .pointer (some ⟨b16, 0, none⟩) := hk 16 (by kernel_rfl)
              exact .quiet (by simp [go_sem, h16]) hJ
            · cases ho
              have h57 : A0.tmps[57]?.getD undef = .pointer (some ⟨b16, 0, none⟩) := hin 7 57 (by kernel_rfl)
              have hc : W.cell? ⟨b16, 0, none⟩ = some (.string x.f) := by rw [HJ] at hJ; exact hJ.2.cell 0
              exact .quiet (by simp [go_sem, h57, hc]) hJ
            · cases ho
              have h16 : A0.tmps[16]?.getD undef = .pointer (some ⟨b16, 0, none⟩) := hk 16 (by kernel_rfl)
              exact .quiet (by simp [go_sem, h16]) hJ
            · cases ho
              have h59 : A0.tmps[59]?.getD undef = .pointer (some ⟨b16, 1, none⟩) := hin 9 59 (by kernel_rfl)
              have hc : W.cell? ⟨b16, 1, none⟩ = some (.string x.t) := by rw [HJ] at hJ; exact hJ.2.cell 1
              exact .quiet (by simp [go_sem, h59, hc]) hJ
          simp only [putsL, Act.put, List.setIfInBounds_toArray, List.set_cons_succ, List.set_cons_zero]
          change J true W6 at hJ
          rw [HJ] at hJ
          obtain ⟨hJ1, hJ2⟩ := hJ
          simp only [↓reduceIte] at hJ1
          have HS6 := Lib.hid hJ1
          clear hJ1 hJ2 HJ HS5 HB5 eg
          refine AtN.list 11 14 (by kernel_rfl) ?_
          change wpList _ _ _ [_, _, _] _ _
          go_wp2_with fail
          refine (HS6.out.opR (fun S' hb => Hcr.out W6 S' hb)).mono ?_
          rintro e W7 ⟨rfl, hs7, -⟩
          have HS7 := Lib.hid (hs7.less (T := fun _ => False) (fun _ h => h.elim))
          clear hs7 HS6
          go_wp2_with fail
          change AtN _ _ _ 14 _ _
          refine AtN.done rfl ?_
          go_wp2_with fail
          go_meet
          exact ⟨true, _, by simp, rfl, HS7.out⟩
      case rest =>
        obtain ⟨b, gs2, rfl, rfl, hs⟩ := hcut
        have HS4 := Lib.hid hs
        clear hs HS3 HB3
        cases b
        all_goals (go_wp2_with fail)
        all_goals (
          refine (all_s HS4.out.left).mono ?_
          rintro e W8 ⟨v15, rfl, hg, hc8, -⟩
          have HS8 := Lib.hid (HS4.out.stay hc8)
          have HG := Lib.hid hg
          clear hc8 hg HS4
          go_wp2_with fail
          refine (rall_s HS8.out.right).mono ?_
          rintro e W9 ⟨v16, rfl, hg2, hc9, -⟩
          have hg1 := HG.out.chg hc9 (fun _ _ x => x)
          have hlim := HS8.out.left.lim.1
          obtain ⟨R3, d3, hv3, b3, m3, hr3, _⟩ := hg1
          obtain ⟨R4, d4, hv4, b4, m4, hr4, _⟩ := hg2
          have hsame := same18 W9 R3 _ d3 R4 _ d4 gs2 gs2 rfl rfl (by unfold maxLen; omega) (by unfold maxLen; omega) hr3 hr4
          rw [decide_eq_true (rfl : gs2 = gs2), ← hv3, ← hv4] at hsame
          have Hsame := Lib.hid hsame
          have HS9 := Lib.hid (HS8.out.stay hc9)
          clear hsame hv3 hv4 hr3 hr4 b3 b4 m3 m4 hc9 HS8 HG hlim
          go_wp2_with fail
          refine Hsame.out.mono ?_
          rintro e W10 ⟨rfl, hc10⟩
          have HS10 := Lib.hid (HS9.out.stay hc10)
          clear hc10 HS9 Hsame
          go_wp2_with fail
          go_roundw)
        all_goals (first | exact ⟨k + 1, gs2, by omega, by go_num, HS10.out⟩ | (simp only [intOf]; omega))
    · have hks : k = n := by omega
      have HN9 := Lib.hid HS.out.new
      have hcs : (k = l) ∨ (k = 80 ∧ k < l) := by have := Hn.out; omega
      rcases hcs with hk1 | ⟨hk1, hk2⟩
      · have hd1 : decide ((k : Int) < (l : Int)) = false := decide_eq_false (by omega)
        clear hks
        go_wp2_with fail
        go_ret
        exact ⟨rfl, HN9.out⟩
      · have hd1 : decide ((k : Int) < (l : Int)) = true := decide_eq_true (by omega)
        have hd2 : decide ((k : Int) < 80) = false := decide_eq_false (by omega)
        clear hks
        go_wp2_with fail
        go_ret
        exact ⟨rfl, HN9.out⟩
end Go.Proofs.Ytenkobgeflckdaa
