/- The walk of BagTrue. -/
import Derived.Test.YtenkobgeflckdaaL18f
import Derived.Deep.CutBlock
set_option linter.unusedVariables false
set_option linter.unusedSimpArgs false
namespace Go.Proofs.Ytenkobgeflckdaa
open Go.RowKit Go.Shelf

theorem stOp18 : StT Try.prog 29 3 := ⟨⟨_, Try.underlying29⟩, by kernel_rfl⟩

theorem add_zero' (a : Addr) : a.add 0 = a := rfl
theorem add_one' (a : Addr) : a.add 1 = ⟨a.block, a.off + 1, none⟩ := rfl

/-- The loop's state: what is in the bag was put. -/
structure TrSt (w W : World) (bb : Nat) (v : Value) (i n : Nat) (gs xs : List Gm) (S : Nat → Prop) : Prop where
  own : OwnG w.heap.size W v xs
  bag : BagS 72 w W bb gs 200 (fun k => v.ownBlock = some k ∨ S k)
  len : gs.length = n
  le : n ≤ i
  xle : xs.length ≤ i
  sub : ∀ g ∈ gs, g ∈ xs

theorem TrSt.stay {w W W' : World} {bb : Nat} {v : Value} {i n : Nat} {gs xs : List Gm} {S : Nat → Prop} (h : TrSt w W bb v i n gs xs S) (hc : New W W') : TrSt w W' bb v i n gs xs S := ⟨h.own.chg hc (fun _ _ x => x), h.bag.stay hc, h.len, h.le, h.xle, h.sub⟩
theorem TrSt.go {w W W' : World} {bb : Nat} {v : Value} {i n n' : Nat} {gs gs' xs : List Gm} {S : Nat → Prop} (h : TrSt w W bb v i n gs xs S) (hb : BagS 72 w W' bb gs' 200 (fun k => v.ownBlock = some k ∨ S k)) (hc : Chg W W' (fun k => ¬ (v.ownBlock = some k ∨ S k))) (hl : gs'.length = n') (hn : n' ≤ i) (hs : ∀ g ∈ gs', g ∈ xs) : TrSt w W' bb v i n' gs' xs S :=
  ⟨h.own.chg hc (fun g hg h => h (.inl hg)), hb, hl, hn, h.xle, hs⟩
theorem TrSt.less {w W : World} {bb : Nat} {v : Value} {i n : Nat} {gs xs : List Gm} {S : Nat → Prop} (h : TrSt w W bb v i n gs xs S) : TrSt w W bb v (i + 1) n gs xs (fun _ => False) := ⟨h.own, h.bag.less (fun k hk => hk.elim .inl (fun h => h.elim)), h.len, Nat.le_succ_of_le h.le, Nat.le_succ_of_le h.xle, h.sub⟩

set_option maxHeartbeats 4000000 in
set_option maxRecDepth 100000 in
theorem walk_BagTrue (w : World) (v : Value) (l : Nat) (X : Nat → Int) (hv : IntsAt w v 3 l X) : Calls Try.prog 4 #[v] w fun e w' => e = .returned (.bool true) ∧ New w w' := by
  obtain ⟨⟨A, c, rfl, hlc, hcm, hx⟩, hX⟩ := hv
  unfold maxLen at hcm
  obtain ⟨n, hn⟩ : ∃ n : Nat, n = min l 80 := ⟨_, rfl⟩
  have hnl : n ≤ l := by omega
  have hn80 : n ≤ 80 := by omega
  have Hn := Lib.hid hn
  have Hx := Lib.hid hx
  have HX := Lib.hid hX
  clear hn hx hX
  go_enter Try.func4, Try.ntmps4
  go_wp2_with fail
  refine (awake18 w).mono ?_
  rintro e W1 ⟨rfl, hN1⟩
  have HN1 := Lib.hid hN1
  clear hN1
  go_wp2_with fail
  refine (new_s 200 HN1.out (fun _ => False) (fun k h => h.elim)).mono ?_
  rintro e W2 ⟨rfl, hs2, -⟩
  rw [show min (max (200 : Int) 0) 200 = 200 by decide] at hs2
  generalize W1.heap.size = bb at hs2 ⊢
  have HM2 := Lib.hid (show TrSt w W2 bb (.slice none 0 0) 0 0 [] [] (fun _ => False) from ⟨Own.nil _ _ _ _, hs2.less (fun k h => by rcases h with h | h <;> cases h), rfl, Nat.le_refl _, Nat.le_refl _, fun g h => by cases h⟩)
  clear hs2 HN1
  go_wp2_with fail
  go_loopw [5, 6, 7] (fun u5 u6 u7 wr => ∃ (k m : Nat) (gs xs : List Gm), k ≤ n ∧ u7 = .int .i64 k ∧ u6 = .int .i64 m ∧ TrSt w wr bb u5 k m gs xs (fun _ => False)) (fun _ _ i _ => n - (intOf i).toNat)
  case atStart => exact ⟨0, 0, [], [], Nat.zero_le _, rfl, rfl, HM2.out⟩
  case round =>
    obtain ⟨k, m, gs, xs, hk, rfl, rfl, hs⟩ := hrel
    have HS := Lib.hid hs
    have hml := hs.le
    clear hs HM2
    by_cases hlt : k < n
    · have hc1 : k < l := by omega
      have hc2 : k < 80 := by omega
      have hd1 : decide ((k : Int) < (l : Int)) = true := decide_eq_true (by omega)
      have hd2 : decide ((k : Int) < 80) = true := decide_eq_true (by omega)
      obtain ⟨ad, rfl, hcell⟩ := Hx.out (by omega)
      obtain ⟨x0, hx0⟩ : ∃ y, X (k * 3) = y := ⟨_, rfl⟩
      obtain ⟨x1, hx1⟩ : ∃ y, X (k * 3 + 1) = y := ⟨_, rfl⟩
      obtain ⟨x2, hx2⟩ : ∃ y, X (k * 3 + 2) = y := ⟨_, rfl⟩
      have b0 := HX.out (k * 3)
      have b1 := HX.out (k * 3 + 1)
      have b2 := HX.out (k * 3 + 2)
      have hat : At wr (ad.add (k * 3)) [.int .i64 x0, .int .i64 x1, .int .i64 x2] := by
        intro j u hj
        rw [add_add]
        match j, hj with
        | 0, hj => cases hj; rw [← hx0]; exact HS.out.bag.new.cellS (hcell (k * 3) (by omega)) id
        | 1, hj => cases hj; rw [← hx1]; exact HS.out.bag.new.cellS (hcell (k * 3 + 1) (by omega)) id
        | 2, hj => cases hj; rw [← hx2]; exact HS.out.bag.new.cellS (hcell (k * 3 + 2) (by omega)) id
        | j + 3, hj => simp at hj
      rw [hx0] at b0
      rw [hx1] at b1
      rw [hx2] at b2
      obtain ⟨q, hq⟩ : ∃ q : Nat, pk x0 9 = q := ⟨(pk x0 9).toNat, by have := pk_lo x0 9 (by omega); omega⟩
      have hq9 : q < 9 := by have := pk_hi x0 9 (by omega); omega
      have hpick := fun W => pick18 W x0 9 b0.1 b0.2 (by omega) (by omega)
      rw [hq] at hpick
      have hgr := fun W => gram18 W x1 x2 b1.1 b1.2 b2.1 b2.2
      obtain ⟨x, hxe⟩ : ∃ x, x = gramG x1 x2 := ⟨_, rfl⟩
      rw [← hxe] at hgr
      have Hat := Lib.hid hat
      have Hp := Lib.hid hpick
      have Hgr := Lib.hid hgr
      clear hat hpick hgr hxe hq b0 b1 b2 hx0 hx1 hx2 hcell
      have q0 : (0 : Int) ≤ (k : Int) := by omega
      have q1 : (k : Int) < (l : Int) := by omega
      go_upto_block 2 with (first | ((with_reducible refine wpl_load rfl (.tmp 39) 29 rfl stOp18 (ad.add (k * 3)) [.int .i64 x0, .int .i64 x1, .int .i64 x2] ?_ rfl Hat.out ?_); exact rfl) | (go_at_call 18; refine (Hp.out _).mono ?_; rintro e w' ⟨rfl, rfl⟩))
      obtain ⟨W3, hW3⟩ : ∃ W3, W3 = wr.alloc (.cells #[.int .i64 x0, .int .i64 x1, .int .i64 x2] 29) := ⟨_, rfl⟩
      rw [← hW3]
      have hN3 : New wr W3 := by rw [hW3]; exact (Chg.refl _ _).alloc _
      have hB3 : Blk W3 wr.heap.size 29 #[.int .i64 x0, .int .i64 x1, .int .i64 x2] := by rw [hW3]; exact Blk.new wr _ _
      have h3 : TrSt w W3 bb u5 k m gs xs (fun q => q = wr.heap.size) := ⟨HS.out.own.chg hN3 (fun _ _ x => x), (HS.out.bag.add hN3 (fun q => q = wr.heap.size) (fun q hq => ⟨by omega, by rw [hq]; exact hB3.lt⟩)).less (fun q hq => hq.elim (fun h => .inl (.inl h)) .inr), HS.out.len, HS.out.le, HS.out.xle, HS.out.sub⟩
      generalize wr.heap.size = b8 at hB3 h3 ⊢
      have HS3 := Lib.hid h3
      have HB3 := Lib.hid hB3
      clear hB3 h3 hN3 hW3 HS Hat
      go_cut [5, 6, 9, 10, 11, 12, 13, 14] from 44 to 155 (fun z5 z6 z9 z10 z11 z12 z13 z14 wx => ∃ (m' : Nat) (gs' xs' : List Gm), z6 = .int .i64 m' ∧ TrSt w wx bb z5 (k + 1) m' gs' xs' (fun _ => False))
      case first =>
        have c1 := HB3.out.cell 1
        have c2 := HB3.out.cell 2
        simp only [List.getElem?_toArray, List.getElem?_cons_zero, List.getElem?_cons_succ] at c1 c2
        rcases (show q = 0 ∨ q = 1 ∨ q = 2 ∨ q = 3 ∨ q = 4 ∨ q = 5 ∨ q = 6 ∨ q = 7 ∨ q = 8 by omega) with rfl | rfl | rfl | rfl | rfl | rfl | rfl | rfl | rfl
        · go_wp2_with fail
          refine (Hgr.out W3).mono ?_
          rintro e W4 ⟨rfl, hN4⟩
          have HS4 := Lib.hid (HS3.out.stay hN4)
          have HB4 := Lib.hid (HB3.out.chg hN4 id)
          clear hN4 HS3 HB3 c1 c2
          go_wp2_with fail
          refine (put_s HS4.out.bag x).mono ?_
          rintro e W5 ⟨rfl, hs5, hc5⟩
          have hgl := HS4.out.len
          rw [show putOk gs 200 = true by unfold putOk; exact decide_eq_true (by omega)]
          rw [show putL gs 200 x = gs ++ [x] by unfold putL; rw [if_pos (by omega)]] at hs5
          have HS5 := Lib.hid hs5
          have HO5 := Lib.hid (HS4.out.own.chg hc5 (fun g hg h => h (.inl hg)))
          have HB5 := Lib.hid (hc5.of (.inr rfl) HB4.out)
          have HQ := Lib.hid (show gs.length = m ∧ xs.length ≤ k ∧ ∀ g ∈ gs, g ∈ xs from ⟨HS4.out.len, HS4.out.xle, HS4.out.sub⟩)
          have c1 := HB5.out.cell 1
          have c2 := HB5.out.cell 2
          simp only [List.getElem?_toArray, List.getElem?_cons_zero, List.getElem?_cons_succ] at c1 c2
          clear hs5 hc5 HS4 HB4 hgl
          go_wp2_with fail
          refine (Hgr.out W5).mono ?_
          rintro e W6 ⟨rfl, hN6⟩
          rw [show gval x = .agg #[.string x.f, .string x.t, .string x.d] from rfl]
          have hNa : New W5 (W6.alloc (.cells #[.string x.f, .string x.t, .string x.d] 33)) := hN6.alloc _
          have hBa : Blk (W6.alloc (.cells #[.string x.f, .string x.t, .string x.d] 33)) W6.heap.size 33 (([x].map gcs).flatten).toArray := Blk.new W6 _ _
          have hSa := HS5.out.stay hNa
          have hOa := HO5.out.chg hNa (fun _ _ x => x)
          obtain ⟨v', W7, hrun, hown, hchg, hblk⟩ := append_own hOa hSa.new.size ⟨W6.heap.size, 0, none⟩ 1 1 [x] rfl (hBa.rowsAt (gcs_len [x])) (by have := HQ.out.2.1; omega) 41
          have h7 : TrSt w W7 bb v' (k + 1) (m + 1) (gs ++ [x]) (xs ++ [x]) (fun _ => False) := by
            have hq := HQ.out
            refine ⟨hown, (hSa.grow hchg (fun q _ hq => ⟨.inl hq, (hOa.lt hq).1⟩) (S' := fun q => v'.ownBlock = some q ∨ False) (fun q hq => ?_)), by simp [hq.1], by omega, by simp; exact hq.2.1, fun g hg => ?_⟩
            · rcases hq with hq | hq
              · exact ⟨(hblk q hq).imp .inl id, (hown.lt hq).2⟩
              · exact hq.elim
            · rcases List.mem_append.1 hg with h | h
              · exact List.mem_append.2 (.inl (hq.2.2 g h))
              · exact List.mem_append.2 (.inr h)
          have Hrun := Lib.hid hrun
          have H7 := Lib.hid h7
          clear hN6 hNa hBa hSa hOa hrun hown hchg hblk h7 HS5 HO5 HB5 HQ c1 c2
          go_wp2_with ((with_reducible refine wpl_append rfl (.tmp 116) (.tmp 122) 41 41 rfl ?_ ?_ Hrun.out ?_); exact rfl; exact rfl)
          go_meet
          exact ⟨m + 1, _, _, by go_num, H7.out⟩
        · go_wp2_with fail
          refine (Hgr.out W3).mono ?_
          rintro e W4 ⟨rfl, hN4⟩
          have HS4 := Lib.hid (HS3.out.stay hN4)
          have HB4 := Lib.hid (HB3.out.chg hN4 id)
          clear hN4 HS3 HB3 c1 c2
          go_wp2_with fail
          refine (put_s HS4.out.bag x).mono ?_
          rintro e W5 ⟨rfl, hs5, hc5⟩
          have hgl := HS4.out.len
          rw [show putOk gs 200 = true by unfold putOk; exact decide_eq_true (by omega)]
          rw [show putL gs 200 x = gs ++ [x] by unfold putL; rw [if_pos (by omega)]] at hs5
          have HS5 := Lib.hid hs5
          have HO5 := Lib.hid (HS4.out.own.chg hc5 (fun g hg h => h (.inl hg)))
          have HB5 := Lib.hid (hc5.of (.inr rfl) HB4.out)
          have HQ := Lib.hid (show gs.length = m ∧ xs.length ≤ k ∧ ∀ g ∈ gs, g ∈ xs from ⟨HS4.out.len, HS4.out.xle, HS4.out.sub⟩)
          have c1 := HB5.out.cell 1
          have c2 := HB5.out.cell 2
          simp only [List.getElem?_toArray, List.getElem?_cons_zero, List.getElem?_cons_succ] at c1 c2
          clear hs5 hc5 HS4 HB4 hgl
          go_wp2_with fail
          refine (Hgr.out W5).mono ?_
          rintro e W6 ⟨rfl, hN6⟩
          rw [show gval x = .agg #[.string x.f, .string x.t, .string x.d] from rfl]
          have hNa : New W5 (W6.alloc (.cells #[.string x.f, .string x.t, .string x.d] 33)) := hN6.alloc _
          have hBa : Blk (W6.alloc (.cells #[.string x.f, .string x.t, .string x.d] 33)) W6.heap.size 33 (([x].map gcs).flatten).toArray := Blk.new W6 _ _
          have hSa := HS5.out.stay hNa
          have hOa := HO5.out.chg hNa (fun _ _ x => x)
          obtain ⟨v', W7, hrun, hown, hchg, hblk⟩ := append_own hOa hSa.new.size ⟨W6.heap.size, 0, none⟩ 1 1 [x] rfl (hBa.rowsAt (gcs_len [x])) (by have := HQ.out.2.1; omega) 41
          have h7 : TrSt w W7 bb v' (k + 1) (m + 1) (gs ++ [x]) (xs ++ [x]) (fun _ => False) := by
            have hq := HQ.out
            refine ⟨hown, (hSa.grow hchg (fun q _ hq => ⟨.inl hq, (hOa.lt hq).1⟩) (S' := fun q => v'.ownBlock = some q ∨ False) (fun q hq => ?_)), by simp [hq.1], by omega, by simp; exact hq.2.1, fun g hg => ?_⟩
            · rcases hq with hq | hq
              · exact ⟨(hblk q hq).imp .inl id, (hown.lt hq).2⟩
              · exact hq.elim
            · rcases List.mem_append.1 hg with h | h
              · exact List.mem_append.2 (.inl (hq.2.2 g h))
              · exact List.mem_append.2 (.inr h)
          have Hrun := Lib.hid hrun
          have H7 := Lib.hid h7
          clear hN6 hNa hBa hSa hOa hrun hown hchg hblk h7 HS5 HO5 HB5 HQ c1 c2
          go_wp2_with ((with_reducible refine wpl_append rfl (.tmp 116) (.tmp 122) 41 41 rfl ?_ ?_ Hrun.out ?_); exact rfl; exact rfl)
          go_meet
          exact ⟨m + 1, _, _, by go_num, H7.out⟩
        · go_wp2_with fail
          refine (Hgr.out W3).mono ?_
          rintro e W4 ⟨rfl, hN4⟩
          have HS4 := Lib.hid (HS3.out.stay hN4)
          have HB4 := Lib.hid (HB3.out.chg hN4 id)
          clear hN4 HS3 HB3 c1 c2
          go_wp2_with fail
          refine (put_s HS4.out.bag x).mono ?_
          rintro e W5 ⟨rfl, hs5, hc5⟩
          have hgl := HS4.out.len
          rw [show putOk gs 200 = true by unfold putOk; exact decide_eq_true (by omega)]
          rw [show putL gs 200 x = gs ++ [x] by unfold putL; rw [if_pos (by omega)]] at hs5
          have HS5 := Lib.hid hs5
          have HO5 := Lib.hid (HS4.out.own.chg hc5 (fun g hg h => h (.inl hg)))
          have HB5 := Lib.hid (hc5.of (.inr rfl) HB4.out)
          have HQ := Lib.hid (show gs.length = m ∧ xs.length ≤ k ∧ ∀ g ∈ gs, g ∈ xs from ⟨HS4.out.len, HS4.out.xle, HS4.out.sub⟩)
          have c1 := HB5.out.cell 1
          have c2 := HB5.out.cell 2
          simp only [List.getElem?_toArray, List.getElem?_cons_zero, List.getElem?_cons_succ] at c1 c2
          clear hs5 hc5 HS4 HB4 hgl
          go_wp2_with fail
          refine (Hgr.out W5).mono ?_
          rintro e W6 ⟨rfl, hN6⟩
          rw [show gval x = .agg #[.string x.f, .string x.t, .string x.d] from rfl]
          have hNa : New W5 (W6.alloc (.cells #[.string x.f, .string x.t, .string x.d] 33)) := hN6.alloc _
          have hBa : Blk (W6.alloc (.cells #[.string x.f, .string x.t, .string x.d] 33)) W6.heap.size 33 (([x].map gcs).flatten).toArray := Blk.new W6 _ _
          have hSa := HS5.out.stay hNa
          have hOa := HO5.out.chg hNa (fun _ _ x => x)
          obtain ⟨v', W7, hrun, hown, hchg, hblk⟩ := append_own hOa hSa.new.size ⟨W6.heap.size, 0, none⟩ 1 1 [x] rfl (hBa.rowsAt (gcs_len [x])) (by have := HQ.out.2.1; omega) 41
          have h7 : TrSt w W7 bb v' (k + 1) (m + 1) (gs ++ [x]) (xs ++ [x]) (fun _ => False) := by
            have hq := HQ.out
            refine ⟨hown, (hSa.grow hchg (fun q _ hq => ⟨.inl hq, (hOa.lt hq).1⟩) (S' := fun q => v'.ownBlock = some q ∨ False) (fun q hq => ?_)), by simp [hq.1], by omega, by simp; exact hq.2.1, fun g hg => ?_⟩
            · rcases hq with hq | hq
              · exact ⟨(hblk q hq).imp .inl id, (hown.lt hq).2⟩
              · exact hq.elim
            · rcases List.mem_append.1 hg with h | h
              · exact List.mem_append.2 (.inl (hq.2.2 g h))
              · exact List.mem_append.2 (.inr h)
          have Hrun := Lib.hid hrun
          have H7 := Lib.hid h7
          clear hN6 hNa hBa hSa hOa hrun hown hchg hblk h7 HS5 HO5 HB5 HQ c1 c2
          go_wp2_with ((with_reducible refine wpl_append rfl (.tmp 116) (.tmp 122) 41 41 rfl ?_ ?_ Hrun.out ?_); exact rfl; exact rfl)
          go_meet
          exact ⟨m + 1, _, _, by go_num, H7.out⟩
        · go_wp2_with fail
          refine (Hgr.out W3).mono ?_
          rintro e W4 ⟨rfl, hN4⟩
          have HS4 := Lib.hid (HS3.out.stay hN4)
          have HB4 := Lib.hid (HB3.out.chg hN4 id)
          clear hN4 HS3 HB3 c1 c2
          go_wp2_with fail
          refine (put_s HS4.out.bag x).mono ?_
          rintro e W5 ⟨rfl, hs5, hc5⟩
          have hgl := HS4.out.len
          rw [show putOk gs 200 = true by unfold putOk; exact decide_eq_true (by omega)]
          rw [show putL gs 200 x = gs ++ [x] by unfold putL; rw [if_pos (by omega)]] at hs5
          have HS5 := Lib.hid hs5
          have HO5 := Lib.hid (HS4.out.own.chg hc5 (fun g hg h => h (.inl hg)))
          have HB5 := Lib.hid (hc5.of (.inr rfl) HB4.out)
          have HQ := Lib.hid (show gs.length = m ∧ xs.length ≤ k ∧ ∀ g ∈ gs, g ∈ xs from ⟨HS4.out.len, HS4.out.xle, HS4.out.sub⟩)
          have c1 := HB5.out.cell 1
          have c2 := HB5.out.cell 2
          simp only [List.getElem?_toArray, List.getElem?_cons_zero, List.getElem?_cons_succ] at c1 c2
          clear hs5 hc5 HS4 HB4 hgl
          go_wp2_with fail
          refine (Hgr.out W5).mono ?_
          rintro e W6 ⟨rfl, hN6⟩
          rw [show gval x = .agg #[.string x.f, .string x.t, .string x.d] from rfl]
          have hNa : New W5 (W6.alloc (.cells #[.string x.f, .string x.t, .string x.d] 33)) := hN6.alloc _
          have hBa : Blk (W6.alloc (.cells #[.string x.f, .string x.t, .string x.d] 33)) W6.heap.size 33 (([x].map gcs).flatten).toArray := Blk.new W6 _ _
          have hSa := HS5.out.stay hNa
          have hOa := HO5.out.chg hNa (fun _ _ x => x)
          obtain ⟨v', W7, hrun, hown, hchg, hblk⟩ := append_own hOa hSa.new.size ⟨W6.heap.size, 0, none⟩ 1 1 [x] rfl (hBa.rowsAt (gcs_len [x])) (by have := HQ.out.2.1; omega) 41
          have h7 : TrSt w W7 bb v' (k + 1) (m + 1) (gs ++ [x]) (xs ++ [x]) (fun _ => False) := by
            have hq := HQ.out
            refine ⟨hown, (hSa.grow hchg (fun q _ hq => ⟨.inl hq, (hOa.lt hq).1⟩) (S' := fun q => v'.ownBlock = some q ∨ False) (fun q hq => ?_)), by simp [hq.1], by omega, by simp; exact hq.2.1, fun g hg => ?_⟩
            · rcases hq with hq | hq
              · exact ⟨(hblk q hq).imp .inl id, (hown.lt hq).2⟩
              · exact hq.elim
            · rcases List.mem_append.1 hg with h | h
              · exact List.mem_append.2 (.inl (hq.2.2 g h))
              · exact List.mem_append.2 (.inr h)
          have Hrun := Lib.hid hrun
          have H7 := Lib.hid h7
          clear hN6 hNa hBa hSa hOa hrun hown hchg hblk h7 HS5 HO5 HB5 HQ c1 c2
          go_wp2_with ((with_reducible refine wpl_append rfl (.tmp 116) (.tmp 122) 41 41 rfl ?_ ?_ Hrun.out ?_); exact rfl; exact rfl)
          go_meet
          exact ⟨m + 1, _, _, by go_num, H7.out⟩
        · by_cases ho : okI gs.length x1 = true
          · obtain ⟨i, hi, hil⟩ : ∃ i : Nat, x1 = i ∧ i < gs.length := by
              simp only [okI, Bool.and_eq_true, decide_eq_true_eq] at ho
              exact ⟨x1.toNat, by omega, by omega⟩
            subst hi
            obtain ⟨y, hy⟩ : ∃ y, gs[i]? = some y := ⟨_, List.getElem?_eq_getElem hil⟩
            have Hy := Lib.hid hy
            have Hil := Lib.hid hil
            clear hy ho hil
            go_wp2_with fail
            refine (take_s_yes HS3.out.bag i y Hy.out).mono ?_
            rintro e W4 ⟨rfl, hs4, hc4⟩
            have hm1 : 1 ≤ m := by have h1 := HS3.out.len; have h2 := Hil.out; omega
            have hl3 := HS3.out.len
            have h5 := (HS3.out.go hs4 hc4 (n' := m - 1) (by rw [length_eraseIdx' Hil.out, hl3]) (by have := HS3.out.le; omega) (by intro g hg; exact HS3.out.sub g (List.mem_of_mem_eraseIdx hg))).less
            have H5 := Lib.hid (h5.stay ((Chg.refl _ _).alloc (.cells #[.string y.f, .string y.t, .string y.d] 33)))
            rw [show gval y = .agg #[.string y.f, .string y.t, .string y.d] from rfl]
            clear h5 hs4 hc4 hl3 HS3 HB3 c1 c2
            go_wp2_with fail
            go_meet
            exact ⟨m - 1, _, _, by go_num, H5.out⟩
          · have Ho := Lib.hid (show okI gs.length x1 = false by simpa using ho)
            clear ho
            go_wp2_with fail
            refine (take_s_no HS3.out.bag x1 Ho.out).mono ?_
            rintro e W4 ⟨rfl, hs4, hc4⟩
            have hl3 := HS3.out.len
            have h5 := (HS3.out.go hs4 hc4 (n' := m) (by exact hl3) (by exact HS3.out.le) (by exact HS3.out.sub)).less
            have H5 := Lib.hid (h5.stay ((Chg.refl _ _).alloc (.cells #[.string zeroG.f, .string zeroG.t, .string zeroG.d] 33)))
            rw [show gval zeroG = .agg #[.string zeroG.f, .string zeroG.t, .string zeroG.d] from rfl]
            clear h5 hs4 hc4 hl3 HS3 HB3 c1 c2
            go_wp2_with fail
            go_meet
            exact ⟨m, _, _, by go_num, H5.out⟩
        · by_cases ho : okI gs.length x1 = true
          · obtain ⟨i, hi, hil⟩ : ∃ i : Nat, x1 = i ∧ i < gs.length := by
              simp only [okI, Bool.and_eq_true, decide_eq_true_eq] at ho
              exact ⟨x1.toNat, by omega, by omega⟩
            subst hi
            obtain ⟨y, hy⟩ : ∃ y, gs[i]? = some y := ⟨_, List.getElem?_eq_getElem hil⟩
            have Hy := Lib.hid hy
            have Hil := Lib.hid hil
            clear hy ho hil
            go_wp2_with fail
            refine (again_s_yes HS3.out.bag i y Hy.out).mono ?_
            rintro e W4 ⟨rfl, hs4, hc4⟩
            have hgl := HS3.out.len
            rw [show putOk gs 200 = true by unfold putOk; exact decide_eq_true (by omega)]
            rw [show putL gs 200 y = gs ++ [y] by unfold putL; rw [if_pos (by omega)]] at hs4
            have hs4' : BagS 72 w W4 bb (gs ++ [y]) 200 (fun q => u5.ownBlock = some q ∨ q = b8) := hs4
            have hlast := HS3.out
            have h5 : TrSt w W4 bb u5 (k + 1) (m + 1) (gs ++ [y]) xs (fun _ => False) := ⟨hlast.own.chg hc4 (fun g hg h => h (.inl hg)), hs4.less (fun q hq => hq.elim .inl (fun h => h.elim)), by simp [hgl], by omega, Nat.le_succ_of_le hlast.xle, fun g hg => by
              rcases List.mem_append.1 hg with h | h
              · exact hlast.sub g h
              · rw [List.mem_singleton.1 h]
                exact hlast.sub y (List.mem_of_getElem? Hy.out)⟩
            have H5 := Lib.hid h5
            clear h5 hs4 hs4' hc4 hgl hlast HS3 HB3 c1 c2
            go_wp2_with fail
            go_meet
            exact ⟨m + 1, _, _, by go_num, H5.out⟩
          · have Ho := Lib.hid (show okI gs.length x1 = false by simpa using ho)
            clear ho
            go_wp2_with fail
            refine (again_s_no HS3.out.bag x1 Ho.out).mono ?_
            rintro e W4 ⟨rfl, hs4, hc4⟩
            have hl3 := HS3.out.len
            have h5 := (HS3.out.go hs4 hc4 (n' := m) (by exact hl3) (by exact HS3.out.le) (by exact HS3.out.sub)).less
            have H5 := Lib.hid h5
            clear h5 hs4 hc4 hl3 HS3 HB3 c1 c2
            go_wp2_with fail
            go_meet
            exact ⟨m, _, _, by go_num, H5.out⟩
        · by_cases ho : (okI gs.length x1 && okI gs.length x2) = true
          · obtain ⟨i, hi, hil⟩ : ∃ i : Nat, x1 = i ∧ i < gs.length := by
              simp only [okI, Bool.and_eq_true, decide_eq_true_eq] at ho
              exact ⟨x1.toNat, by omega, by omega⟩
            obtain ⟨j, hj, hjl⟩ : ∃ i : Nat, x2 = i ∧ i < gs.length := by
              simp only [okI, Bool.and_eq_true, decide_eq_true_eq] at ho
              exact ⟨x2.toNat, by omega, by omega⟩
            subst hi
            subst hj
            obtain ⟨y, hy⟩ : ∃ y, gs[i]? = some y := ⟨_, List.getElem?_eq_getElem hil⟩
            have Hy := Lib.hid hy
            have Hil := Lib.hid hil
            have Hjl := Lib.hid hjl
            clear hy ho hil hjl
            go_wp2_with fail
            refine (move_s_yes HS3.out.bag i j y Hy.out Hjl.out).mono ?_
            rintro e W4 ⟨rfl, hs4, hc4⟩
            have hl3 := HS3.out.len
            have h5 := (HS3.out.go hs4 hc4 (n' := m) (by rw [List.length_append, List.length_take, List.length_cons, List.length_drop, length_eraseIdx' Hil.out, hl3]; have := Hjl.out; omega) (by exact HS3.out.le) (by intro g hg; rcases List.mem_append.1 hg with h | h; exact HS3.out.sub g (List.mem_of_mem_eraseIdx (List.mem_of_mem_take h)); rcases List.mem_cons.1 h with h | h; exact h ▸ HS3.out.sub y (List.mem_of_getElem? Hy.out); exact HS3.out.sub g (List.mem_of_mem_eraseIdx (List.mem_of_mem_drop h)))).less
            have H5 := Lib.hid h5
            clear h5 hs4 hc4 hl3 HS3 HB3 c1 c2
            go_wp2_with fail
            go_meet
            exact ⟨m, _, _, by go_num, H5.out⟩
          · have Ho := Lib.hid (show (okI gs.length x1 && okI gs.length x2) = false by simpa using ho)
            clear ho
            go_wp2_with fail
            refine (move_s_no HS3.out.bag x1 x2 Ho.out).mono ?_
            rintro e W4 ⟨rfl, hs4, hc4⟩
            have hl3 := HS3.out.len
            have h5 := (HS3.out.go hs4 hc4 (n' := m) (by exact hl3) (by exact HS3.out.le) (by exact HS3.out.sub)).less
            have H5 := Lib.hid h5
            clear h5 hs4 hc4 hl3 HS3 HB3 c1 c2
            go_wp2_with fail
            go_meet
            exact ⟨m, _, _, by go_num, H5.out⟩
        · by_cases ho : (okI gs.length x1 && okI gs.length x2) = true
          · obtain ⟨i, hi, hil⟩ : ∃ i : Nat, x1 = i ∧ i < gs.length := by
              simp only [okI, Bool.and_eq_true, decide_eq_true_eq] at ho
              exact ⟨x1.toNat, by omega, by omega⟩
            obtain ⟨j, hj, hjl⟩ : ∃ i : Nat, x2 = i ∧ i < gs.length := by
              simp only [okI, Bool.and_eq_true, decide_eq_true_eq] at ho
              exact ⟨x2.toNat, by omega, by omega⟩
            subst hi
            subst hj
            obtain ⟨y, hy⟩ : ∃ y, gs[i]? = some y := ⟨_, List.getElem?_eq_getElem hil⟩
            have Hy := Lib.hid hy
            have Hil := Lib.hid hil
            have Hjl := Lib.hid hjl
            clear hy ho hil hjl
            go_wp2_with fail
            refine (move_s_yes HS3.out.bag i j y Hy.out Hjl.out).mono ?_
            rintro e W4 ⟨rfl, hs4, hc4⟩
            have hl3 := HS3.out.len
            have h5 := (HS3.out.go hs4 hc4 (n' := m) (by rw [List.length_append, List.length_take, List.length_cons, List.length_drop, length_eraseIdx' Hil.out, hl3]; have := Hjl.out; omega) (by exact HS3.out.le) (by intro g hg; rcases List.mem_append.1 hg with h | h; exact HS3.out.sub g (List.mem_of_mem_eraseIdx (List.mem_of_mem_take h)); rcases List.mem_cons.1 h with h | h; exact h ▸ HS3.out.sub y (List.mem_of_getElem? Hy.out); exact HS3.out.sub g (List.mem_of_mem_eraseIdx (List.mem_of_mem_drop h)))).less
            have H5 := Lib.hid h5
            clear h5 hs4 hc4 hl3 HS3 HB3 c1 c2
            go_wp2_with fail
            go_meet
            exact ⟨m, _, _, by go_num, H5.out⟩
          · have Ho := Lib.hid (show (okI gs.length x1 && okI gs.length x2) = false by simpa using ho)
            clear ho
            go_wp2_with fail
            refine (move_s_no HS3.out.bag x1 x2 Ho.out).mono ?_
            rintro e W4 ⟨rfl, hs4, hc4⟩
            have hl3 := HS3.out.len
            have h5 := (HS3.out.go hs4 hc4 (n' := m) (by exact hl3) (by exact HS3.out.le) (by exact HS3.out.sub)).less
            have H5 := Lib.hid h5
            clear h5 hs4 hc4 hl3 HS3 HB3 c1 c2
            go_wp2_with fail
            go_meet
            exact ⟨m, _, _, by go_num, H5.out⟩
        · go_wp2_with fail
          refine (Hgr.out W3).mono ?_
          rintro e W4 ⟨rfl, hN4⟩
          rw [show gval x = .agg #[.string x.f, .string x.t, .string x.d] from rfl]
          obtain ⟨W5, hW5⟩ : ∃ W5, W5 = W4.alloc (.cells #[.string x.f, .string x.t, .string x.d] 33) := ⟨_, rfl⟩
          have hN5 : New W3 W5 := by rw [hW5]; exact hN4.alloc _
          have hB5 : Blk W5 W4.heap.size 33 (gcs x).toArray := by rw [hW5]; exact Blk.new W4 _ _
          obtain ⟨b12, hb12⟩ : ∃ b, W4.heap.size = b := ⟨_, rfl⟩
          have hb := (HS3.out.bag.add hN5 (fun q => q = W4.heap.size) (fun q hq => ⟨by rw [hq]; exact hN4.size, by rw [hq]; exact hB5.lt⟩)).less (S' := fun q => u5.ownBlock = some q ∨ q = b12) (fun q hq => hq.elim (fun h => .inl (.inl h)) (fun h => .inr (h.trans hb12.symm)))
          rw [hb12] at hB5
          have h5 : TrSt w W5 bb u5 k m gs xs (fun q => q = b12) := ⟨HS3.out.own.chg hN5 (fun _ _ x => x), hb, HS3.out.len, HS3.out.le, HS3.out.xle, HS3.out.sub⟩
          have HS5 := Lib.hid h5
          have HB5 := Lib.hid hB5
          have HW5 := Lib.hid hW5
          have Hb12 := Lib.hid hb12
          have d0 := HB5.out.cell 0
          have d1 := HB5.out.cell 1
          simp only [gcs, List.getElem?_toArray, List.getElem?_cons_zero, List.getElem?_cons_succ] at d0 d1
          clear hb h5 hB5 hN5 hN4 hW5 hb12 HS3 HB3 c1 c2
          go_upto_region 13 with fail
          rw [← HW5.out, Hb12.out]
          go_wp2_with fail
          refine (cut_s HS5.out.bag x.f x.t).mono ?_
          rintro e W6 ⟨rfl, hs6, hc6⟩
          have hl3 := HS5.out.len
          rw [hl3]
          have hsub : ∀ g ∈ (gs.filter fun y => !cutP x.f x.t y), g ∈ gs ∧ cutP x.f x.t g = false := fun g hg => by
            have := List.mem_filter.1 hg
            exact ⟨this.1, by simpa using this.2⟩
          have hrm : (gs.filter fun y => !cutP x.f x.t y).length ≤ m := by rw [← hl3]; exact List.length_filter_le _ _
          generalize (gs.filter fun y => !cutP x.f x.t y) = fs at hs6 hsub hrm ⊢
          obtain ⟨r, hr⟩ : ∃ r, fs.length = r := ⟨_, rfl⟩
          rw [hr] at hrm ⊢
          have HS6 := Lib.hid (HS5.out.go hs6 hc6 hr (by have := HS5.out.le; omega) (fun g hg => HS5.out.sub g (hsub g hg).1))
          have HB6 := Lib.hid (hc6.of (.inr rfl) HB5.out)
          have Hsub := Lib.hid hsub
          have Hr := Lib.hid hr
          have hr80 : r ≤ 80 := by have := HS5.out.le; omega
          have hm80 : m ≤ 80 := by have := HS5.out.le; omega
          clear hs6 hc6 hl3 hsub hr HS5 HB5 d0 d1 HW5 Hb12
          go_wp2_with fail
          refine (all_s HS6.out.bag).mono ?_
          rintro e W7 ⟨v13, rfl, ⟨G, gc2, rfl, hg1, hg2, hg3, hg4⟩, hc7, hs7⟩
          rw [Hr.out] at hg1 hg3 ⊢
          have HS7 := Lib.hid (HS6.out.stay hc7)
          have HB7 := Lib.hid (HB6.out.chg hc7 id)
          have HG := Lib.hid hg3
          clear hc7 hs7 hg1 hg3 hg4 HS6 HB6
          go_wp2_with fail
          go_loopw [14] (fun u14 wr2 => ∃ j : Nat, j ≤ r ∧ u14 = .int .i64 j ∧ New W7 wr2) (fun u14 _ => r - (intOf u14).toNat)
          case atStart => exact ⟨0, Nat.zero_le _, rfl, Chg.refl _ _⟩
          case round =>
            obtain ⟨j, hj, rfl, hN7⟩ := hrel
            have HN7 := Lib.hid hN7
            clear hN7
            by_cases hjr : j < r
            · obtain ⟨gm, rfl, hrow⟩ := HG.out (by omega)
              obtain ⟨y, hy⟩ : ∃ y, fs[j]? = some y := ⟨_, List.getElem?_eq_getElem (by rw [Hr.out]; exact hjr)⟩
              have hat := (hrow j (gcs y) (by rw [List.getElem?_map, hy]; rfl)).2.chg HN7.out id
              have hcf := (Hsub.out y (List.mem_of_getElem? hy)).2
              have e0 := hat 0 (.string y.f) rfl
              have e1 := hat 1 (.string y.t) rfl
              rw [add_zero'] at e0
              rw [add_one'] at e1
              have d0 := (HB7.out.chg HN7.out id).cell 0
              have d1 := (HB7.out.chg HN7.out id).cell 1
              simp only [gcs, List.getElem?_toArray, List.getElem?_cons_zero, List.getElem?_cons_succ] at d0 d1
              clear hat hrow hy
              have j0 : (0 : Int) ≤ (j : Int) := by omega
              have j1 : (j : Int) < (r : Int) := by omega
              obtain ⟨f1, hf1⟩ : ∃ b, (y.f.toList == x.f.toList) = b := ⟨_, rfl⟩
              obtain ⟨f2, hf2⟩ : ∃ b, (y.t.toList == x.t.toList) = b := ⟨_, rfl⟩
              obtain ⟨f3, hf3⟩ : ∃ b, (y.f.toList == x.t.toList) = b := ⟨_, rfl⟩
              obtain ⟨f4, hf4⟩ : ∃ b, (y.t.toList == x.f.toList) = b := ⟨_, rfl⟩
              have hbool : (f1 && f2) = false ∧ (f3 && f4) = false := by
                rw [← hf1, ← hf2, ← hf3, ← hf4]
                unfold cutP at hcf
                rw [decide_eq_false_iff_not] at hcf
                constructor
                · rw [Bool.and_eq_false_iff, beq_eq_false_iff_ne, beq_eq_false_iff_ne]
                  by_cases h : y.f = x.f
                  · exact .inr fun h2 => hcf (.inl ⟨h, tl_eq.1 h2⟩)
                  · exact .inl fun h2 => h (tl_eq.1 h2)
                · rw [Bool.and_eq_false_iff, beq_eq_false_iff_ne, beq_eq_false_iff_ne]
                  by_cases h : y.f = x.t
                  · exact .inr fun h2 => hcf (.inr ⟨h, tl_eq.1 h2⟩)
                  · exact .inl fun h2 => h (tl_eq.1 h2)
              clear hcf
              cases f1 <;> cases f2 <;> cases f3 <;> cases f4 <;> first | (exfalso; revert hbool; decide) | skip
              all_goals clear hbool
              all_goals (go_wp2_with fail; go_quiet (fail); go_wp2_with fail)
              all_goals go_roundw
              all_goals (first | (refine ⟨j + 1, by omega, by go_num, HN7.out.drewN _⟩) | (simp only [intOf]; omega))
            · have HS8 := Lib.hid ((HS7.out.stay HN7.out).less)
              go_wp2_with fail
              go_meet
              exact ⟨r, _, _, by go_num, HS8.out⟩
      case rest =>
        obtain ⟨m2, gs2, xs2, rfl, hs⟩ := hcut
        have HS4 := Lib.hid hs
        have hm2 := hs.le
        clear hs HS3 HB3 hml
        go_wp2_with fail
        refine (all_s HS4.out.bag).mono ?_
        rintro e W8 ⟨v15, rfl, ⟨G, gc2, rfl, hg1, hg2, hg3, hg4⟩, hc8, hs8⟩
        rw [HS4.out.len] at hg1 hg3 ⊢
        have HS8 := Lib.hid (HS4.out.stay hc8)
        have HG := Lib.hid hg3
        clear hc8 hs8 hg1 hg3 hg4 HS4
        obtain ⟨A5, c5, rfl, h51, h52⟩ := HS8.out.own.form
        rw [List.length_map] at h51 HS8 ⊢
        obtain ⟨L, hL⟩ : ∃ L, xs2.length = L := ⟨_, rfl⟩
        have hLk := HS8.out.xle
        rw [hL] at h51 HS8 hLk ⊢
        have hR := (HS8.out.own.rows rfl).2
        rw [List.length_map, hL] at hR
        have HR := Lib.hid hR
        have HL := Lib.hid hL
        clear hR hL
        go_wp2_with fail
        go_loopw [16] (fun u16 wr2 => ∃ j : Nat, j ≤ m2 ∧ u16 = .int .i64 j ∧ New W8 wr2) (fun u16 _ => m2 - (intOf u16).toNat)
        case atStart => exact ⟨0, Nat.zero_le _, rfl, Chg.refl _ _⟩
        case round =>
          obtain ⟨j, hj, rfl, hN8⟩ := hrel
          have HN8 := Lib.hid hN8
          clear hN8
          by_cases hjr : j < m2
          · obtain ⟨gm, rfl, hrow⟩ := HG.out (by omega)
            obtain ⟨y, hy⟩ : ∃ y, gs2[j]? = some y := ⟨_, List.getElem?_eq_getElem (by rw [HS8.out.len]; exact hjr)⟩
            have hat := (hrow j (gcs y) (by rw [List.getElem?_map, hy]; rfl)).2
            have hyx := HS8.out.sub y (List.mem_of_getElem? hy)
            have Hat := Lib.hid hat
            have Hyx := Lib.hid hyx
            clear hat hrow hy hyx
            have j0 : (0 : Int) ≤ (j : Int) := by omega
            have j1 : (j : Int) < (m2 : Int) := by omega
            go_wp2_with fail
            go_loopw [17, 18] (fun u17 u18 wr3 => ∃ (i : Nat) (b : Bool), i ≤ L ∧ u18 = .int .i64 i ∧ u17 = .bool b ∧ b = decide (y ∈ xs2.take i) ∧ New W8 wr3) (fun _ u18 _ => L - (intOf u18).toNat)
            case atStart => exact ⟨0, false, Nat.zero_le _, rfl, rfl, by simp, HN8.out⟩
            case round =>
              obtain ⟨i, b, hi, rfl, rfl, hb, hN9⟩ := hrel
              have HN9 := Lib.hid hN9
              have Hb := Lib.hid hb
              clear hN9 hb
              by_cases hiL : i < L
              · obtain ⟨ga, rfl, hrow⟩ := HR.out (by omega)
                obtain ⟨z, hz⟩ : ∃ z, xs2[i]? = some z := ⟨_, List.getElem?_eq_getElem (by rw [HL.out]; exact hiL)⟩
                have Hbt := Lib.hid ((hrow i (gcs z) (by rw [List.getElem?_map, hz]; rfl)).2.chg HN9.out id)
                have Haw := Lib.hid (Hat.out.chg HN9.out id)
                have Hb2 := Lib.hid (show decide (y ∈ xs2.take (i + 1)) = (b || decide (z = y)) by
                  rw [take_succ_get hz, Hb.out]
                  by_cases h1 : y ∈ xs2.take i <;> by_cases h2 : z = y <;> simp [h1, h2, eq_comm] <;> (try (intro h; exact h2 h.symm)))
                clear hrow hz
                have i0 : (0 : Int) ≤ (i : Int) := by omega
                have i1 : (i : Int) < (L : Int) := by omega
                cases b with
                | true =>
                  go_wp2_with fail
                  go_quiet (fail)
                  go_wp2_with fail
                  go_roundw
                  case rel => exact ⟨i + 1, true, by omega, by go_num, rfl, by rw [Hb2.out]; rfl, HN9.out.drewN _⟩
                  case measure => simp only [intOf]; omega
                | false =>
                  obtain ⟨b, hb⟩ : ∃ b, decide (z = y) = b := ⟨_, rfl⟩
                  have hnq := fun W ρ o p q ho hp hq => exec_eql_gram W z y ρ o p q ho hp hq
                  rw [hb] at hnq
                  have Hnq := Lib.hid hnq
                  have Hbz := Lib.hid hb
                  clear hnq hb
                  go_wp2_with fail
                  refine wp_region_quiet_lit (by kernel_rfl) (by kernel_rfl) ?_
                  repeat (first
                    | ((with_reducible refine wpq_loadg rfl (.tmp 178) 33 rfl stGram (ga.add (i * 3)) (gcs z) ?_ rfl Hbt.out ?_); exact rfl; simp only [Act.put, List.setIfInBounds_toArray, List.set_cons_succ, List.set_cons_zero])
                    | ((with_reducible refine wpq_loadg rfl (.tmp 182) 33 rfl stGram (gm.add (j * 3)) (gcs y) ?_ rfl Haw.out ?_); exact rfl; simp only [Act.put, List.setIfInBounds_toArray, List.set_cons_succ, List.set_cons_zero])
                    | ((with_reducible refine wpq_valg rfl (.bool b) (fun n => ?_) ?_); exact Hnq.out _ _ _ _ _ rfl rfl rfl; simp only [Act.put, List.setIfInBounds_toArray, List.set_cons_succ, List.set_cons_zero])
                    | go_big_quiet_step (fail))
                  refine wpQuiet_nil ?_
                  rintro _ ⟨nq, rfl⟩
                  have HNw := Lib.hid (show New W8 (wr.drewN nq) from HN9.out.drewN nq)
                  go_wp2_with fail
                  go_roundw
                  case rel => exact ⟨i + 1, b, by omega, by go_num, rfl, by rw [Hb2.out, Hbz.out]; rfl, HNw.out⟩
                  case measure => simp only [intOf]; omega
              · have Hbt := Lib.hid (show b = true by
                  rw [Hb.out, show xs2.take i = xs2 from List.take_of_length_le (by rw [HL.out]; omega)]
                  exact decide_eq_true Hyx.out)
                obtain rfl := Hbt.out
                clear Hb Hbt
                go_wp2_with fail
                go_roundw
                case rel => exact ⟨j + 1, by omega, by go_num, HN9.out⟩
                case measure => simp only [intOf]; omega
          · have HS9 := Lib.hid ((HS8.out.stay HN8.out))
            go_wp2_with fail
            go_roundw
            case rel => exact ⟨k + 1, m2, gs2, xs2, by omega, by go_num, rfl, HS9.out⟩
            case measure => simp only [intOf]; omega
    · have hks : k = n := by omega
      have HN9 := Lib.hid HS.out.bag.new
      have hcs : (k = l) ∨ (k = 80 ∧ k < l) := by have := Hn.out; omega
      rcases hcs with hk1 | ⟨hk1, hk2⟩
      · have hd1 : decide ((k : Int) < (l : Int)) = false := decide_eq_false (by omega)
        clear hks
        go_wp2_with fail
        go_ret
        exact ⟨rfl, HN9.out⟩
      · have hd1 : decide ((k : Int) < (l : Int)) = true := decide_eq_true (by omega)
        have hd2 : decide ((k : Int) < 80) = false := decide_eq_false (by omega)
        clear hks
        go_wp2_with fail
        go_ret
        exact ⟨rfl, HN9.out⟩
end Go.Proofs.Ytenkobgeflckdaa
