/- The walk of BagMoves. -/
import Derived.Test.YtenkobgeflckdaaL18e
import Derived.Test.YtenkobgeflckdaaBag8
import Derived.Deep.CutRange
set_option linter.unusedVariables false
set_option linter.unusedSimpArgs false
namespace Go.Proofs.Ytenkobgeflckdaa
open Go.RowKit Go.Shelf

/-- The loop's state: so many were put, and lie in a slice as well. -/
def MvSt (w W : World) (bb : Nat) (gs : List Gm) (v : Value) (xs : List Gm) : Prop := OwnG w.heap.size W v xs ∧ BagS 72 w W bb gs 200 (fun k => v.ownBlock = some k)
theorem MvSt.stay {w W W' : World} {bb : Nat} {gs xs : List Gm} {v : Value} (h : MvSt w W bb gs v xs) (hc : New W W') : MvSt w W' bb gs v xs := ⟨h.1.chg hc (fun _ _ x => x), h.2.stay hc⟩

set_option maxHeartbeats 4000000 in
set_option maxRecDepth 100000 in
theorem walk_BagMoves (w : World) (v : Value) (l : Nat) (X : Nat → Int) (hv : IntsAt w v 2 l X) (p1 p2 : Int) (h10 : -9223372036854775808 ≤ p1) (h11 : p1 ≤ 9223372036854775807) (h20 : -9223372036854775808 ≤ p2) (h21 : p2 ≤ 9223372036854775807) :
    Calls Try.prog 5 #[v, .int .i64 p1, .int .i64 p2] w fun e w' => e = .returned (.bool true) ∧ New w w' := by
  obtain ⟨⟨A, c, rfl, hlc, hcm, hx⟩, hX⟩ := hv
  unfold maxLen at hcm
  obtain ⟨n, hn⟩ : ∃ n : Nat, n = min l 30 := ⟨_, rfl⟩
  have hnl : n ≤ l := by omega
  have hn30 : n ≤ 30 := by omega
  have Hn := Lib.hid hn
  have Hx := Lib.hid hx
  have HX := Lib.hid hX
  clear hn hx hX
  go_enter Try.func5, Try.ntmps5
  go_wp2_with fail
  refine (awake18 w).mono ?_
  rintro e W1 ⟨rfl, hN1⟩
  have HN1 := Lib.hid hN1
  clear hN1
  go_wp2_with fail
  refine (new_s 200 HN1.out (fun _ => False) (fun k h => h.elim)).mono ?_
  rintro e W2 ⟨rfl, hs2, -⟩
  rw [show min (max (200 : Int) 0) 200 = 200 by decide] at hs2
  generalize W1.heap.size = bb at hs2 ⊢
  have HM2 := Lib.hid (show MvSt w W2 bb (qG X 0) (.slice none 0 0) (qG X 0) from ⟨Own.nil _ _ _ _, hs2.less (fun k h => by cases h)⟩)
  clear hs2 HN1
  go_wp2_with fail
  go_loopw [9, 10] (fun u9 i wr => ∃ k : Nat, k ≤ n ∧ i = .int .i64 k ∧ MvSt w wr bb (qG X k) u9 (qG X k)) (fun _ i _ => n - (intOf i).toNat)
  case atStart => exact ⟨0, Nat.zero_le _, rfl, HM2.out⟩
  case round =>
    obtain ⟨k, hk, rfl, hs⟩ := hrel
    have HS := Lib.hid hs
    clear hs HM2
    by_cases hlt : k < n
    · have hc1 : k < l := by omega
      have hc2 : k < 30 := by omega
      have hd1 : decide ((k : Int) < (l : Int)) = true := decide_eq_true (by omega)
      have hd2 : decide ((k : Int) < 30) = true := decide_eq_true (by omega)
      obtain ⟨ad, rfl, hcell⟩ := Hx.out (by omega)
      obtain ⟨x, hxe⟩ : ∃ x, x = gramG (X (k * 2)) (X (k * 2 + 1)) := ⟨_, rfl⟩
      have hgr := fun W => gram18 W (X (k * 2)) (X (k * 2 + 1)) (HX.out _).1 (HX.out _).2 (HX.out _).1 (HX.out _).2
      rw [← hxe] at hgr
      have hqs := qG_succ X k
      rw [← hxe] at hqs
      have Hqs := Lib.hid hqs
      clear hqs
      have h0 := hcell (k * 2) (by omega)
      have h1 := hcell (k * 2 + 1) (by omega)
      obtain ⟨x0, hx0⟩ : ∃ y, X (k * 2) = y := ⟨_, rfl⟩
      obtain ⟨x1, hx1⟩ : ∃ y, X (k * 2 + 1) = y := ⟨_, rfl⟩
      rw [hx0] at hgr h0
      rw [hx1] at hgr h1
      rw [add_succ] at h1
      have hAb : (ad.add (k * 2)).block = ad.block := add_block _ _
      have hAo : (ad.add (k * 2)).off + 1 = ad.off + (k * 2 + 1) := by rw [add_offs]; omega
      have Hgr := Lib.hid hgr
      have Hxe := Lib.hid hxe
      have H0 := Lib.hid h0
      have H1 := Lib.hid h1
      clear hgr hxe h0 h1 hcell hx0 hx1
      go_wp2_with fail
      have eg := enters_of Try.func20 (by kernel_rfl) rfl
      unfold Enters at eg
      have q0 : (0 : Int) ≤ (k : Int) := by omega
      have q1 : (k : Int) < (l : Int) := by omega
      have HS3 := Lib.hid (HS.out.stay (W' := wr.drew) ((Chg.refl _ _).drew))
      generalize hwd : wr.drew = wd at HS3
      refine wp_region_at (by kernel_rfl) ?_
      rw [hwd]
      refine AtN.segN2 0 13 [34, 35, 36, 37, 38, 39, 40, 41, 42, 43, 44, 45, 46] (fun
        | 0 => fun v _ => v = u9
        | 1 => fun v _ => v = .slice (some ad) l c
        | 2 => fun v _ => v = .int .i64 k
        | 3 => fun v _ => v = .pointer (some (ad.add (k * 2)))
        | 4 => fun v _ => v = .pointer (some (ad.add (k * 2)))
        | 5 => fun v _ => v = .int .i64 x0
        | 6 => fun v _ => v = .slice (some ad) l c
        | 7 => fun v _ => v = .int .i64 k
        | 8 => fun v _ => v = .pointer (some (ad.add (k * 2)))
        | 9 => fun v _ => v = .pointer (some ⟨ad.block, ad.off + (k * 2 + 1), none⟩)
        | 10 => fun v _ => v = .int .i64 x1
        | 11 => fun v _ => v = .agg #[.string x.f, .string x.t, .string x.d]
        | 12 => fun v W => ∃ nb, v = .slice (some ⟨nb, 0, none⟩) 1 1 ∧ Blk W nb 33 (([x].map gcs).flatten).toArray
        | _ => fun _ _ => True) (by kernel_rfl) (by kernel_rfl) (by kernel_rfl) (by kernel_rfl) (fun j v w1 w2 hc h => ?_) (fun i hn hi o ho A0 W hN hin hk => ?_) (fun l W3 hN hl hΦ => ?_)
      · match j with
        | 12 => exact h.imp fun nb h => ⟨h.1, h.2.chg hc id⟩
        | 0 | 1 | 2 | 3 | 4 | 5 | 6 | 7 | 8 | 9 | 10 | 11 => exact h
        | _ + 13 => trivial
      · rcases (show i = 0 ∨ i = 1 ∨ i = 2 ∨ i = 3 ∨ i = 4 ∨ i = 5 ∨ i = 6 ∨ i = 7 ∨ i = 8 ∨ i = 9 ∨ i = 10 ∨ i = 11 ∨ i = 12 by omega) with rfl | rfl | rfl | rfl | rfl | rfl | rfl | rfl | rfl | rfl | rfl | rfl | rfl
        · cases ho
          exact .same (exec_move 9 _ rfl (hk 9 (by kernel_rfl))) rfl
        · cases ho
          exact .same (exec_move 0 _ rfl (hk 0 (by kernel_rfl))) rfl
        · cases ho
          exact .same (exec_move 10 _ rfl (hk 10 (by kernel_rfl))) rfl
        · cases ho
          have h35 : A0.tmps[35]?.getD undef = .slice (some ad) l c := hin 1 35 (by kernel_rfl)
          have h36 : A0.tmps[36]?.getD undef = .int .i64 k := hin 2 36 (by kernel_rfl)
          exact .same (by simp [go_sem, h35, h36, q0, q1, hc1]) rfl
        · cases ho
          have h37 : A0.tmps[37]?.getD undef = .pointer (some (ad.add (k * 2))) := hin 3 37 (by kernel_rfl)
          exact .same (by simp [go_sem, h37]) rfl
        · cases ho
          have h38 : A0.tmps[38]?.getD undef = .pointer (some (ad.add (k * 2))) := hin 4 38 (by kernel_rfl)
          have hc : W.cell? (ad.add (k * 2)) = some (.int .i64 x0) := (HS3.out.stay hN).2.new.cellS H0.out id
          exact .same (by simp [go_sem, h38, hc]) rfl
        · cases ho
          exact .same (exec_move 0 _ rfl (hk 0 (by kernel_rfl))) rfl
        · cases ho
          exact .same (exec_move 10 _ rfl (hk 10 (by kernel_rfl))) rfl
        · cases ho
          have h40 : A0.tmps[40]?.getD undef = .slice (some ad) l c := hin 6 40 (by kernel_rfl)
          have h41 : A0.tmps[41]?.getD undef = .int .i64 k := hin 7 41 (by kernel_rfl)
          exact .same (by simp [go_sem, h40, h41, q0, q1, hc1]) rfl
        · cases ho
          have h42 : A0.tmps[42]?.getD undef = .pointer (some (ad.add (k * 2))) := hin 8 42 (by kernel_rfl)
          exact .same (by simp [go_sem, h42, hAb, hAo]) rfl
        · cases ho
          have h43 : A0.tmps[43]?.getD undef = .pointer (some ⟨ad.block, ad.off + (k * 2 + 1), none⟩) := hin 9 43 (by kernel_rfl)
          have hc : W.cell? ⟨ad.block, ad.off + (k * 2 + 1), none⟩ = some (.int .i64 x1) := (HS3.out.stay hN).2.new.cellS H1.out id
          exact .same (by simp [go_sem, h43, hc]) rfl
        · cases ho
          have h39 : A0.tmps[39]?.getD undef = .int .i64 x0 := hin 5 39 (by kernel_rfl)
          have h44 : A0.tmps[44]?.getD undef = .int .i64 x1 := hin 10 44 (by kernel_rfl)
          refine .enter (f := 20) (args := #[.int .i64 x0, .int .i64 x1]) (v := .agg #[.string x.f, .string x.t, .string x.d]) ?_ ((Hgr.out W).mono ?_)
          · simp [go_sem, h39, h44, eg]
          · rintro e w' ⟨rfl, hc⟩
            exact ⟨rfl, hc, rfl⟩
        · cases ho
          have h45 : A0.tmps[45]?.getD undef = .agg #[.string x.f, .string x.t, .string x.d] := hin 11 45 (by kernel_rfl)
          refine .value (W' := W.alloc (.cells ((([x].map gcs).flatten).toArray) 33)) (v := .slice (some ⟨W.heap.size, 0, none⟩) 1 1) ?_ ⟨(Chg.refl _ _).alloc _, ⟨_, rfl, Blk.new _ _ _⟩⟩
          simp [go_sem, h45, gcs]
      obtain ⟨x34, x35, x36, x37, x38, x39, x40, x41, x42, x43, x44, x45, x46, rfl⟩ : ∃ x34 x35 x36 x37 x38 x39 x40 x41 x42 x43 x44 x45 x46, l = [x34, x35, x36, x37, x38, x39, x40, x41, x42, x43, x44, x45, x46] := by
        match l, hl with
        | [x34, x35, x36, x37, x38, x39, x40, x41, x42, x43, x44, x45, x46], _ => exact ⟨_, _, _, _, _, _, _, _, _, _, _, _, _, rfl⟩
      obtain rfl : x34 = u9 := hΦ 0 (by decide)
      obtain rfl : x35 = .slice (some ad) l c := hΦ 1 (by decide)
      obtain rfl : x36 = .int .i64 k := hΦ 2 (by decide)
      obtain rfl : x37 = .pointer (some (ad.add (k * 2))) := hΦ 3 (by decide)
      obtain rfl : x38 = .pointer (some (ad.add (k * 2))) := hΦ 4 (by decide)
      obtain rfl : x39 = .int .i64 x0 := hΦ 5 (by decide)
      obtain rfl : x40 = .slice (some ad) l c := hΦ 6 (by decide)
      obtain rfl : x41 = .int .i64 k := hΦ 7 (by decide)
      obtain rfl : x42 = .pointer (some (ad.add (k * 2))) := hΦ 8 (by decide)
      obtain rfl : x43 = .pointer (some ⟨ad.block, ad.off + (k * 2 + 1), none⟩) := hΦ 9 (by decide)
      obtain rfl : x44 = .int .i64 x1 := hΦ 10 (by decide)
      obtain rfl : x45 = .agg #[.string x.f, .string x.t, .string x.d] := hΦ 11 (by decide)
      have hx46 := hΦ 12 (by decide)
      simp only [putsL, List.zip_cons_cons, List.zip_nil_left, List.zip_nil_right, List.zip, List.zipWith, Act.put, List.setIfInBounds_toArray, List.set_cons_succ, List.set_cons_zero]
      clear hΦ hl
      obtain ⟨nb, rfl, hBa⟩ := hx46
      have hMa := HS3.out.stay hN
      obtain ⟨v', W4, hrun, hown, hchg, hblk⟩ := append_own hMa.1 hMa.2.new.size ⟨nb, 0, none⟩ 1 1 [x] rfl (hBa.rowsAt (gcs_len [x])) (by rw [qG_len]; omega) 41
      have hM4 : MvSt w W4 bb (qG X k) v' (qG X (k + 1)) := by
        refine ⟨by rw [Hqs.out]; exact hown, ?_⟩
        exact BagS.grow hMa.2 hchg (fun k _ hk => ⟨hk, (hMa.1.lt hk).1⟩) (fun k hk => ⟨hblk k hk, (hown.lt hk).2⟩)
      have HM4 := Lib.hid hM4
      have Hrun := Lib.hid hrun
      clear hM4 hrun hown hchg hblk hMa hBa hN HS3 HS eg
      refine AtN.list 13 15 (by kernel_rfl) ?_
      change wpList _ _ _ [_, _] _ _
      go_wp2_with ((with_reducible refine wpl_append rfl (.tmp 34) (.tmp 46) 41 41 rfl ?_ ?_ Hrun.out ?_); exact rfl; exact rfl)
      change AtN _ _ _ 15 _ _
      refine AtN.done rfl ?_
      obtain ⟨ga, gc, rfl, hg1, hg2, hgr2, hgo⟩ := HM4.out.1.grams_some (by rw [qG_len]; omega)
      have hat := (hgr2 k (gcs x) (by rw [List.getElem?_map, Hqs.out, List.getElem?_append_right (by rw [qG_len]; exact Nat.le_refl _), qG_len, Nat.sub_self]; rfl)).2
      rw [qG_len] at *
      have Hat := Lib.hid hat
      clear hg1 hg2 hgr2 hat
      have HM4' := HM4
      have hrk : (k : Int) < (k : Int) + 1 := by omega
      have hrk2 : (k : Int) < ((k + 1 : Nat) : Int) := by omega
      have hrk3 : k < k + 1 := by omega
      go_wp2_with ((with_reducible refine wpl_load rfl (.tmp 51) 33 rfl stGram (ga.add (k * 3)) (gcs x) ?_ rfl Hat.out ?_); exact rfl)
      refine (put_s HM4.out.2 x).mono ?_
      rintro e W5 ⟨rfl, hs5, hc5⟩
      rw [show putOk (qG X k) 200 = true by unfold putOk; rw [qG_len]; exact decide_eq_true (by omega)]
      rw [show putL (qG X k) 200 x = qG X (k + 1) by unfold putL; rw [if_pos (by rw [qG_len]; omega), Hqs.out]] at hs5
      have HM5 := Lib.hid (show MvSt w W5 bb (qG X (k + 1)) (.slice (some ga) (k + 1) gc) (qG X (k + 1)) from ⟨HM4.out.1.chg hc5 (fun g hg h => h hg), hs5⟩)
      clear hs5 hc5 HM4 HM4' Hat hgo Hrun
      go_wp2_with fail
      go_roundw
      case rel => exact ⟨k + 1, by omega, by go_num, HM5.out⟩
      case measure => simp [intOf]; omega
    · obtain rfl : k = n := by omega
      have hnn := Hn.out
      clear hlt hk hn30 hnl
      by_cases hc1 : k < l
      · have hc2 : ¬ k < 30 := by omega
        have hd1 : decide ((k : Int) < (l : Int)) = true := decide_eq_true (by omega)
        have hd2 : decide ((k : Int) < 30) = false := decide_eq_false (by omega)
        have hk30 : k ≤ 30 := by omega
        clear hnn
        by_cases hz : k = 0
        · omega
        · obtain ⟨ga, gc, rfl, hg1, hg2, hgr, hgo⟩ := HS.out.1.grams_some (by rw [qG_len]; omega)
          rw [qG_len] at *
          have hz2 : ((k : Int) == 0) = false := by rw [beq_eq_false_iff_ne]; omega
          have hk0 : (0 : Int) < (k : Int) := by omega
          have hp1 := fun W => pick18 W p1 k h10 h11 hk0 (by omega)
          have hp2 := fun W => pick18 W p2 k h20 h21 hk0 (by omega)
          obtain ⟨a, ha⟩ : ∃ a : Nat, pk p1 k = a := ⟨(pk p1 k).toNat, by have := pk_lo p1 k hk0; omega⟩
          obtain ⟨b, hb⟩ : ∃ a : Nat, pk p2 k = a := ⟨(pk p2 k).toNat, by have := pk_lo p2 k hk0; omega⟩
          have hak : a < k := by have := pk_hi p1 k hk0; omega
          have hbk : b < k := by have := pk_hi p2 k hk0; omega
          rw [ha] at hp1
          rw [hb] at hp2
          have Hp1 := Lib.hid hp1
          have Hp2 := Lib.hid hp2
          clear hp1 hp2 ha hb
          go_wp2_with (go_at_call 18; first | (with_reducible refine (Hp1.out _).mono ?_; rintro e w' ⟨rfl, rfl⟩) | (with_reducible refine (Hp2.out _).mono ?_; rintro e w' ⟨rfl, rfl⟩))
          have hLk := qG_len X k
          obtain ⟨x, hx⟩ : ∃ x, (qG X k)[a]? = some x := ⟨_, List.getElem?_eq_getElem (by rw [hLk]; exact hak)⟩
          obtain ⟨L, hL⟩ : ∃ L, L = qG X k := ⟨_, rfl⟩
          rw [← hL] at hLk hx hgr HS
          obtain ⟨M, hM⟩ : ∃ M, M = (L.eraseIdx a).take b ++ x :: (L.eraseIdx a).drop b := ⟨_, rfl⟩
          have hel : (L.eraseIdx a).length = k - 1 := by rw [length_eraseIdx' (by omega), hLk]
          have hMk : M.length = k := by
            rw [hM, List.length_append, List.length_take, List.length_cons, List.length_drop, hel]; omega
          have hMb : M[b]? = some x := by
            rw [hM, List.getElem?_append_right (by rw [List.length_take]; omega), List.length_take, hel, Nat.min_eq_left (by omega), Nat.sub_self]; rfl
          have hMe : M.eraseIdx b = L.eraseIdx a := by
            rw [hM, List.eraseIdx_append_of_length_le (by rw [List.length_take]; omega), List.length_take, hel, Nat.min_eq_left (by omega), Nat.sub_self, List.eraseIdx_cons_zero, List.take_append_drop]
          have hback : (M.eraseIdx b).take a ++ x :: (M.eraseIdx b).drop a = L := by
            rw [hMe]
            exact eraseIdx_insert hx
          have HLk := Lib.hid hLk
          have Hx2 := Lib.hid hx
          have HMk := Lib.hid hMk
          have HMb := Lib.hid hMb
          have HMe := Lib.hid hMe
          have Hback := Lib.hid hback
          have Hgr2 := Lib.hid hgr
          have HM' := Lib.hid hM
          clear hLk hx hMk hMb hMe hback hgr hM hel hL Hp1 Hp2
          refine (move_s_yes HS.out.2 a b x Hx2.out (by rw [HLk.out]; exact hbk)).mono ?_
          rintro e W6 ⟨rfl, hs6, hc6⟩
          rw [← HM'.out] at hs6
          have HO6 := Lib.hid (show OwnG w.heap.size W6 (.slice (some ga) k gc) L from HS.out.1.chg hc6 (fun g hg h => h hg))
          have HS6 := Lib.hid hs6
          clear hs6 hc6 HM'
          go_wp2_with fail
          refine (move_s_no HS6.out k 0 (by rw [HMk.out]; simp [okI])).mono ?_
          rintro e W7 ⟨rfl, hs7, hc7⟩
          have HO7 := Lib.hid (show OwnG w.heap.size W7 (.slice (some ga) k gc) L from HO6.out.chg hc7 (fun g hg h => h hg))
          have HS7 := Lib.hid hs7
          clear hs7 hc7 HO6 HS6
          go_wp2_with fail
          refine (move_s_no HS7.out 0 (-1) (by simp [okI])).mono ?_
          rintro e W8 ⟨rfl, hs8, hc8⟩
          have HO8 := Lib.hid (show OwnG w.heap.size W8 (.slice (some ga) k gc) L from HO7.out.chg hc8 (fun g hg h => h hg))
          have HS8 := Lib.hid hs8
          clear hs8 hc8 HO7 HS7
          go_wp2_with fail
          refine (all_s HS8.out).mono ?_
          rintro e W9 ⟨v13, rfl, ⟨G, gc2, rfl, hgl, hgm, hgr13, hgb⟩, hc9, hs9⟩
          rw [HMk.out] at hgl hgr13 ⊢
          obtain ⟨gm, rfl, hgrM⟩ := hgr13 (by omega)
          have HO9 := Lib.hid (HO8.out.chg hc9 (fun _ _ x => x))
          have HS9 := Lib.hid hs9
          have HG := Lib.hid hgrM
          clear hs9 hc9 HO8 HS8 hgr13 hgb hgrM
          go_wp2_with fail
          have hat := (HG.out b (gcs x) (by rw [List.getElem?_map, HMb.out]; rfl)).2
          obtain ⟨ga2, hga2, hrL⟩ := (HO9.out.rows rfl).2 (by rw [List.length_map, HLk.out]; omega)
          obtain rfl := Option.some.inj hga2
          have hbt := (hrL a (gcs x) (by rw [List.getElem?_map, Hx2.out]; rfl)).2
          have Hat := Lib.hid hat
          have Hbt := Lib.hid hbt
          have Hnq := Lib.hid (show ∀ W ρ o p q, Oper.op o = .binOp .neq 33 p q 33 → ρ p = .agg #[.string x.f, .string x.t, .string x.d] → ρ q = .agg #[.string x.f, .string x.t, .string x.d] → (execOp ρ o).run Try.prog W = .ok (.value (.bool false)) W from fun W ρ o p q ho hp hq => by rw [exec_neq_gram W x x ρ o p q ho hp hq]; simp)
          clear hat hbt hga2 hrL
          have qa0 : (0 : Int) ≤ (a : Int) := by omega
          have qa1 : (a : Int) < (k : Int) := by omega
          have qb0 : (0 : Int) ≤ (b : Int) := by omega
          have qb1 : (b : Int) < (k : Int) := by omega
          refine wp_region_quiet_lit (by kernel_rfl) (by kernel_rfl) ?_
          repeat (first
            | ((with_reducible refine wpq_loadg rfl (.tmp 93) 33 rfl stGram (gm.add (b * 3)) (gcs x) ?_ rfl Hat.out ?_); exact rfl; simp only [Act.put, List.setIfInBounds_toArray, List.set_cons_succ, List.set_cons_zero])
            | ((with_reducible refine wpq_loadg rfl (.tmp 97) 33 rfl stGram (ga.add (a * 3)) (gcs x) ?_ rfl Hbt.out ?_); exact rfl; simp only [Act.put, List.setIfInBounds_toArray, List.set_cons_succ, List.set_cons_zero])
            | ((with_reducible refine wpq_valg rfl (.bool false) (fun n => ?_) ?_); exact Hnq.out _ _ _ _ _ rfl rfl rfl; simp only [Act.put, List.setIfInBounds_toArray, List.set_cons_succ, List.set_cons_zero])
            | go_big_quiet_step (fail))
          refine wpQuiet_nil ?_
          rintro _ ⟨nq, rfl⟩
          go_wp2_with fail
          have hN9 : New W9 (W9.drewN nq) := (Chg.refl _ _).drewN nq
          obtain ⟨St, HSt⟩ : ∃ St : World → Prop, St = (fun W => OwnG w.heap.size W (.slice (some ga) k gc) L ∧ RowsAt W gm 3 (M.map gcs) ∧ BagS 72 w W bb M 200 (fun q => (Value.slice (some ga) k gc).ownBlock = some q ∨ gblk (.slice (some gm) k gc2) q)) := ⟨_, rfl⟩
          have hstay : ∀ W W', New W W' → St W → St W' := by
            intro W W' hc h
            rw [HSt] at h ⊢
            exact ⟨h.1.chg hc (fun _ _ x => x), h.2.1.chg hc id, h.2.2.stay hc⟩
          have HA := Lib.hid (hstay _ _ hN9 (by rw [HSt]; exact ⟨HO9.out, HG.out, HS9.out⟩))
          generalize W9.drewN nq = Wa at HA ⊢
          have Hstay := Lib.hid hstay
          have HSt' := Lib.hid HSt
          clear hstay hN9 HO9 HG HS9 Hat Hbt Hnq HSt
          obtain ⟨A20, hA20, hA20b, hT20⟩ := rows_tail (cap := gc) ((by have := HA.out; rw [HSt'.out] at this; obtain ⟨z, hz, hr⟩ := (this.1.rows rfl).2 (by rw [List.length_map, HLk.out]; omega); obtain rfl := Option.some.inj hz; exact hr : RowsAt Wa ga 3 (L.map gcs))) (a + 1) (by rw [HLk.out]; omega) (by rw [HLk.out]; omega)
          have hB20 := rows_take ((by have := HA.out; rw [HSt'.out] at this; obtain ⟨z, hz, hr⟩ := (this.1.rows rfl).2 (by rw [List.length_map, HLk.out]; omega); obtain rfl := Option.some.inj hz; exact hr : RowsAt Wa ga 3 (L.map gcs))) a
          have HT20 := Lib.hid hT20
          have HB20 := Lib.hid hB20
          clear hT20 hB20 hA20b
          have r0 : (0 : Int) ≤ (a : Int) := by omega
          have r1 : (a : Int) ≤ (gc : Int) := by omega
          have r2 : (0 : Int) ≤ (a : Int) + 1 := by omega
          have r3 : (a : Int) + 1 ≤ (k : Int) := by omega
          have r4 : ((a : Int) + 1).toNat = a + 1 := by omega
          have r5 : IntKind.i64.wrap ((a : Int) + 1) = (a : Int) + 1 := by rw [IntKind.wrap_i64]; omega
          have r6 : a ≤ gc := by omega
          have r7 : a + 1 ≤ k := by omega
          refine wp_region_at (by kernel_rfl) ?_
          have HWb := Lib.hid (Hstay.out _ _ ((Chg.refl Wa (fun _ => False)).drew) HA.out)
          have HT := Lib.hid (HT20.out.chg ((Chg.refl Wa (fun _ => False)).drew) id)
          have HB := Lib.hid (HB20.out.chg ((Chg.refl Wa (fun _ => False)).drew) id)
          generalize hwd0 : Wa.drew = Wb at HWb HT HB ⊢
          clear HT20 HB20
          refine AtN.segN2 0 8 [101, 102, 103, 104, 105, 106, 107, 108] (fun
            | 0 => fun v _ => v = .slice (some ga) k gc
            | 1 => fun v _ => v = .int .i64 a
            | 2 => fun v _ => v = .slice (some ga) a gc
            | 3 => fun v W => OwnG w.heap.size W v (L.take a) ∧ ∀ q, v.ownBlock = some q → Wb.heap.size ≤ q
            | 4 => fun v _ => v = .slice (some ga) k gc
            | 5 => fun v _ => v = .int .i64 a
            | 6 => fun v _ => v = .int .i64 ((a : Int) + 1)
            | 7 => fun v _ => v = .slice (some A20) (k - (a + 1)) (gc - (a + 1))
            | _ => fun _ _ => True) (by kernel_rfl) (by kernel_rfl) (by kernel_rfl) (by kernel_rfl) (fun j v w1 w2 hc h => ?_) (fun i hn hi o ho A0 W hN hin hk => ?_) (fun l Wb1 hN hl hΦ => ?_)
          · match j with
            | 3 => exact ⟨h.1.chg hc (fun _ _ x => x), h.2⟩
            | 0 | 1 | 2 | 4 | 5 | 6 | 7 => exact h
            | _ + 8 => trivial
          · rcases (show i = 0 ∨ i = 1 ∨ i = 2 ∨ i = 3 ∨ i = 4 ∨ i = 5 ∨ i = 6 ∨ i = 7 by omega) with rfl | rfl | rfl | rfl | rfl | rfl | rfl | rfl
            · cases ho
              exact .same (exec_move 9 _ rfl (hk 9 (by kernel_rfl))) rfl
            · cases ho
              exact .same (exec_move 11 _ rfl (hk 11 (by kernel_rfl))) rfl
            · cases ho
              have h101 : A0.tmps[101]?.getD undef = .slice (some ga) k gc := hin 0 101 (by kernel_rfl)
              have h102 : A0.tmps[102]?.getD undef = .int .i64 a := hin 1 102 (by kernel_rfl)
              exact .same (by simp [go_sem, h101, h102, r0, r1, r6]) rfl
            · cases ho
              have h103 : A0.tmps[103]?.getD undef = .slice (some ga) a gc := hin 2 103 (by kernel_rfl)
              obtain ⟨v', W', hrun, hown, hchg, hblk⟩ := append_own (B := w.heap.size) (W := W) (xs := []) (Own.nil _ _ _ _) ((by have := HWb.out; rw [HSt'.out] at this; exact Nat.le_trans this.2.2.new.size hN.size)) ga a gc (L.take a) (by rw [List.length_take, HLk.out]; omega) (HB.out.chg hN id) (by simp; omega) 41
              refine .value (exec_append _ _ _ _ rfl rfl (by simpa [Act.eval] using h103) hrun) ⟨hchg.mono (fun k _ h => by cases h), hown, fun q hq => ?_⟩
              rcases hblk q hq with h | h
              · cases h
              · exact Nat.le_trans hN.size h
            · cases ho
              exact .same (exec_move 9 _ rfl (hk 9 (by kernel_rfl))) rfl
            · cases ho
              exact .same (exec_move 11 _ rfl (hk 11 (by kernel_rfl))) rfl
            · cases ho
              have h106 : A0.tmps[106]?.getD undef = .int .i64 a := hin 5 106 (by kernel_rfl)
              exact .same (by simp [go_sem, h106, r5]) rfl
            · cases ho
              have h105 : A0.tmps[105]?.getD undef = .slice (some ga) k gc := hin 4 105 (by kernel_rfl)
              have h107 : A0.tmps[107]?.getD undef = .int .i64 ((a : Int) + 1) := hin 6 107 (by kernel_rfl)
              exact .same (by simp [go_sem, h105, h107, r2, r3, r4, r7, hA20]) rfl
          obtain ⟨x101, x102, x103, x104, x105, x106, x107, x108, rfl⟩ : ∃ x101 x102 x103 x104 x105 x106 x107 x108, l = [x101, x102, x103, x104, x105, x106, x107, x108] := by
            match l, hl with
            | [x101, x102, x103, x104, x105, x106, x107, x108], _ => exact ⟨_, _, _, _, _, _, _, _, rfl⟩
          obtain rfl : x101 = .slice (some ga) k gc := hΦ 0 (by decide)
          obtain rfl : x102 = .int .i64 a := hΦ 1 (by decide)
          obtain rfl : x103 = .slice (some ga) a gc := hΦ 2 (by decide)
          have hx104 := hΦ 3 (by decide)
          obtain rfl : x105 = .slice (some ga) k gc := hΦ 4 (by decide)
          obtain rfl : x106 = .int .i64 a := hΦ 5 (by decide)
          obtain rfl : x107 = .int .i64 ((a : Int) + 1) := hΦ 6 (by decide)
          obtain rfl : x108 = .slice (some A20) (k - (a + 1)) (gc - (a + 1)) := hΦ 7 (by decide)
          simp only [putsL, List.zip_cons_cons, List.zip_nil_left, List.zip_nil_right, List.zip, List.zipWith, Act.put, List.setIfInBounds_toArray, List.set_cons_succ, List.set_cons_zero]
          clear hΦ hl
          obtain ⟨hown, hfr⟩ := hx104
          obtain ⟨v14, Wb2, hrun, hown2, hchg, hblk⟩ := append_own hown ((by have := HWb.out; rw [HSt'.out] at this; exact Nat.le_trans this.2.2.new.size hN.size)) A20 (k - (a + 1)) (gc - (a + 1)) (L.drop (a + 1)) (by rw [List.length_drop, HLk.out]) (HT.out.chg hN id) (by simp; omega) 41
          have hNN : New Wb Wb2 := hN.trans hchg (fun q hq hT => absurd (hfr q hT) (by omega))
          have HWb2 := Lib.hid (Hstay.out _ _ hNN HWb.out)
          rw [show L.take a ++ L.drop (a + 1) = L.eraseIdx a from (List.eraseIdx_eq_take_drop_succ ..).symm] at hown2
          have Hown14 := Lib.hid hown2
          have Hrun := Lib.hid hrun
          have HNN20 := Lib.hid (((Chg.refl Wa (fun _ => False)).drew).trans (hwd0 ▸ hNN) (fun _ _ x => x))
          clear hrun hown2 hchg hblk hN hown hfr hNN hwd0 HT HB HWb hA20 r0 r1 r2 r3 r4 r5 r6 r7
          refine AtN.list 8 10 (by kernel_rfl) ?_
          change wpList _ _ _ [_, _] _ _
          go_wp2_with ((with_reducible refine wpl_append rfl (.tmp 104) (.tmp 108) 41 41 rfl ?_ ?_ Hrun.out ?_); exact rfl; exact rfl)
          change AtN _ _ _ 10 _ _
          refine AtN.done rfl ?_
          clear Hrun
          go_wp2_with fail
          obtain ⟨A21, hA21, hA21b, hT21⟩ := rows_tail (cap := gc2) ((by have := HWb2.out; rw [HSt'.out] at this; exact this.2.1 : RowsAt Wb2 gm 3 (M.map gcs))) (b + 1) (by rw [HMk.out]; omega) (by rw [HMk.out]; omega)
          have hB21 := rows_take ((by have := HWb2.out; rw [HSt'.out] at this; exact this.2.1 : RowsAt Wb2 gm 3 (M.map gcs))) b
          have HT21 := Lib.hid hT21
          have HB21 := Lib.hid hB21
          clear hT21 hB21 hA21b
          have r0 : (0 : Int) ≤ (b : Int) := by omega
          have r1 : (b : Int) ≤ (gc2 : Int) := by omega
          have r2 : (0 : Int) ≤ (b : Int) + 1 := by omega
          have r3 : (b : Int) + 1 ≤ (k : Int) := by omega
          have r4 : ((b : Int) + 1).toNat = b + 1 := by omega
          have r5 : IntKind.i64.wrap ((b : Int) + 1) = (b : Int) + 1 := by rw [IntKind.wrap_i64]; omega
          have r6 : b ≤ gc2 := by omega
          have r7 : b + 1 ≤ k := by omega
          refine wp_region_at (by kernel_rfl) ?_
          have HWc := Lib.hid (Hstay.out _ _ ((Chg.refl Wb2 (fun _ => False)).drew) HWb2.out)
          have HT := Lib.hid (HT21.out.chg ((Chg.refl Wb2 (fun _ => False)).drew) id)
          have HB := Lib.hid (HB21.out.chg ((Chg.refl Wb2 (fun _ => False)).drew) id)
          generalize hwd0 : Wb2.drew = Wc at HWc HT HB ⊢
          clear HT21 HB21
          refine AtN.segN2 0 8 [110, 111, 112, 113, 114, 115, 116, 117] (fun
            | 0 => fun v _ => v = .slice (some gm) k gc2
            | 1 => fun v _ => v = .int .i64 b
            | 2 => fun v _ => v = .slice (some gm) b gc2
            | 3 => fun v W => OwnG w.heap.size W v (M.take b) ∧ ∀ q, v.ownBlock = some q → Wc.heap.size ≤ q
            | 4 => fun v _ => v = .slice (some gm) k gc2
            | 5 => fun v _ => v = .int .i64 b
            | 6 => fun v _ => v = .int .i64 ((b : Int) + 1)
            | 7 => fun v _ => v = .slice (some A21) (k - (b + 1)) (gc2 - (b + 1))
            | _ => fun _ _ => True) (by kernel_rfl) (by kernel_rfl) (by kernel_rfl) (by kernel_rfl) (fun j v w1 w2 hc h => ?_) (fun i hn hi o ho A0 W hN hin hk => ?_) (fun l Wc1 hN hl hΦ => ?_)
          · match j with
            | 3 => exact ⟨h.1.chg hc (fun _ _ x => x), h.2⟩
            | 0 | 1 | 2 | 4 | 5 | 6 | 7 => exact h
            | _ + 8 => trivial
          · rcases (show i = 0 ∨ i = 1 ∨ i = 2 ∨ i = 3 ∨ i = 4 ∨ i = 5 ∨ i = 6 ∨ i = 7 by omega) with rfl | rfl | rfl | rfl | rfl | rfl | rfl | rfl
            · cases ho
              exact .same (exec_move 13 _ rfl (hk 13 (by kernel_rfl))) rfl
            · cases ho
              exact .same (exec_move 12 _ rfl (hk 12 (by kernel_rfl))) rfl
            · cases ho
              have h110 : A0.tmps[110]?.getD undef = .slice (some gm) k gc2 := hin 0 110 (by kernel_rfl)
              have h111 : A0.tmps[111]?.getD undef = .int .i64 b := hin 1 111 (by kernel_rfl)
              exact .same (by simp [go_sem, h110, h111, r0, r1, r6]) rfl
            · cases ho
              have h112 : A0.tmps[112]?.getD undef = .slice (some gm) b gc2 := hin 2 112 (by kernel_rfl)
              obtain ⟨v', W', hrun, hown, hchg, hblk⟩ := append_own (B := w.heap.size) (W := W) (xs := []) (Own.nil _ _ _ _) ((by have := HWc.out; rw [HSt'.out] at this; exact Nat.le_trans this.2.2.new.size hN.size)) gm b gc2 (M.take b) (by rw [List.length_take, HMk.out]; omega) (HB.out.chg hN id) (by simp; omega) 41
              refine .value (exec_append _ _ _ _ rfl rfl (by simpa [Act.eval] using h112) hrun) ⟨hchg.mono (fun k _ h => by cases h), hown, fun q hq => ?_⟩
              rcases hblk q hq with h | h
              · cases h
              · exact Nat.le_trans hN.size h
            · cases ho
              exact .same (exec_move 13 _ rfl (hk 13 (by kernel_rfl))) rfl
            · cases ho
              exact .same (exec_move 12 _ rfl (hk 12 (by kernel_rfl))) rfl
            · cases ho
              have h115 : A0.tmps[115]?.getD undef = .int .i64 b := hin 5 115 (by kernel_rfl)
              exact .same (by simp [go_sem, h115, r5]) rfl
            · cases ho
              have h114 : A0.tmps[114]?.getD undef = .slice (some gm) k gc2 := hin 4 114 (by kernel_rfl)
              have h116 : A0.tmps[116]?.getD undef = .int .i64 ((b : Int) + 1) := hin 6 116 (by kernel_rfl)
              exact .same (by simp [go_sem, h114, h116, r2, r3, r4, r7, hA21]) rfl
          obtain ⟨x110, x111, x112, x113, x114, x115, x116, x117, rfl⟩ : ∃ x110 x111 x112 x113 x114 x115 x116 x117, l = [x110, x111, x112, x113, x114, x115, x116, x117] := by
            match l, hl with
            | [x110, x111, x112, x113, x114, x115, x116, x117], _ => exact ⟨_, _, _, _, _, _, _, _, rfl⟩
          obtain rfl : x110 = .slice (some gm) k gc2 := hΦ 0 (by decide)
          obtain rfl : x111 = .int .i64 b := hΦ 1 (by decide)
          obtain rfl : x112 = .slice (some gm) b gc2 := hΦ 2 (by decide)
          have hx113 := hΦ 3 (by decide)
          obtain rfl : x114 = .slice (some gm) k gc2 := hΦ 4 (by decide)
          obtain rfl : x115 = .int .i64 b := hΦ 5 (by decide)
          obtain rfl : x116 = .int .i64 ((b : Int) + 1) := hΦ 6 (by decide)
          obtain rfl : x117 = .slice (some A21) (k - (b + 1)) (gc2 - (b + 1)) := hΦ 7 (by decide)
          simp only [putsL, List.zip_cons_cons, List.zip_nil_left, List.zip_nil_right, List.zip, List.zipWith, Act.put, List.setIfInBounds_toArray, List.set_cons_succ, List.set_cons_zero]
          clear hΦ hl
          obtain ⟨hown, hfr⟩ := hx113
          obtain ⟨v15, Wc2, hrun, hown2, hchg, hblk⟩ := append_own hown ((by have := HWc.out; rw [HSt'.out] at this; exact Nat.le_trans this.2.2.new.size hN.size)) A21 (k - (b + 1)) (gc2 - (b + 1)) (M.drop (b + 1)) (by rw [List.length_drop, HMk.out]) (HT.out.chg hN id) (by simp; omega) 41
          have hNN : New Wc Wc2 := hN.trans hchg (fun q hq hT => absurd (hfr q hT) (by omega))
          have HWc2 := Lib.hid (Hstay.out _ _ hNN HWc.out)
          rw [show M.take b ++ M.drop (b + 1) = M.eraseIdx b from (List.eraseIdx_eq_take_drop_succ ..).symm] at hown2
          have Hown15 := Lib.hid hown2
          have Hrun := Lib.hid hrun
          have HNN21 := Lib.hid (((Chg.refl Wb2 (fun _ => False)).drew).trans (hwd0 ▸ hNN) (fun _ _ x => x))
          clear hrun hown2 hchg hblk hN hown hfr hNN hwd0 HT HB HWc hA21 r0 r1 r2 r3 r4 r5 r6 r7
          refine AtN.list 8 10 (by kernel_rfl) ?_
          change wpList _ _ _ [_, _] _ _
          go_wp2_with ((with_reducible refine wpl_append rfl (.tmp 113) (.tmp 117) 41 41 rfl ?_ ?_ Hrun.out ?_); exact rfl; exact rfl)
          change AtN _ _ _ 10 _ _
          refine AtN.done rfl ?_
          clear Hrun
          go_wp2_with fail
          have HO14 := Lib.hid (Hown14.out.chg HNN21.out (fun _ _ x => x))
          obtain ⟨R1, d1, hv14, _, _, hr1, _⟩ := HO14.out.grams
          obtain ⟨R2, d2, hv15, _, _, hr2, _⟩ := Hown15.out.grams
          have hlE : (L.eraseIdx a).length = k - 1 := by rw [length_eraseIdx' (by rw [HLk.out]; exact hak), HLk.out]
          rw [HMe.out] at hv15 hr2
          have hsame := same18 Wc2 R1 _ d1 R2 _ d2 (L.eraseIdx a) (L.eraseIdx a) rfl rfl (by rw [hlE]; unfold maxLen; omega) (by rw [hlE]; unfold maxLen; omega) hr1 hr2
          rw [decide_eq_true (rfl : L.eraseIdx a = L.eraseIdx a), ← hv14, ← hv15] at hsame
          have hst := HWc2.out
          rw [HSt'.out] at hst
          have HO20 := Lib.hid hst.1
          have HS20 := Lib.hid (hst.2.2.less (S' := fun q => (Value.slice (some ga) k gc).ownBlock = some q) (fun q h => .inl h))
          have Hsame := Lib.hid hsame
          clear hv14 hv15 hr1 hr2 hlE hsame hst HO14 Hown15 HWc2 HNN21 HNN20 Hown14
          refine Hsame.out.mono ?_
          rintro e W20 ⟨rfl, hc20⟩
          have HO21 := Lib.hid (HO20.out.chg hc20 (fun _ _ x => x))
          have HS21 := Lib.hid (HS20.out.stay hc20)
          clear HO20 HS20 hc20 Hsame
          go_wp2_with fail
          refine (move_s_yes HS21.out b a x HMb.out (by rw [HMk.out]; exact hak)).mono ?_
          rintro e W22 ⟨rfl, hs22, hc22⟩
          rw [Hback.out] at hs22
          have HO22 := Lib.hid (show OwnG w.heap.size W22 (.slice (some ga) k gc) L from HO21.out.chg hc22 (fun g hg h => h hg))
          have HS22 := Lib.hid hs22
          clear hs22 hc22 HO21 HS21
          go_wp2_with fail
          refine (all_s HS22.out).mono ?_
          rintro e W23 ⟨v24, rfl, ⟨R3, d3, rfl, _, _, hr3, _⟩, hc23, hs23⟩
          obtain ⟨R4, d4, hv4, _, _, hr4, _⟩ := (HO22.out.chg hc23 (fun _ _ x => x) : OwnG w.heap.size W23 (.slice (some ga) k gc) L).grams
          have hsame2 := same18 W23 R3 _ d3 R4 _ d4 L L rfl rfl (by rw [HLk.out]; unfold maxLen; omega) (by rw [HLk.out]; unfold maxLen; omega) hr3 hr4
          rw [decide_eq_true (rfl : L = L), ← hv4] at hsame2
          have Hsame2 := Lib.hid hsame2
          have HN23 := Lib.hid hs23.new
          clear hsame2 hv4 hr3 hr4 hc23 hs23 HO22 HS22
          go_wp2_with fail
          refine Hsame2.out.mono ?_
          rintro e W24 ⟨rfl, hc24⟩
          have HN24 := Lib.hid (HN23.out.trans hc24 (fun _ _ x => x))
          clear hc24 HN23 Hsame2
          go_wp2_with fail
          go_ret
          exact ⟨rfl, HN24.out⟩
      · have hd1 : decide ((k : Int) < (l : Int)) = false := decide_eq_false (by omega)
        have hk30 : k ≤ 30 := by omega
        clear hnn
        by_cases hz : k = 0
        · subst hz
          obtain ⟨A9, c9, hv9, _⟩ := HS.out.1.form
          simp only [qG_len, List.length_map] at hv9
          subst hv9
          have hz2 : (((0 : Nat) : Int) == 0) = true := rfl
          go_wp2_with fail
          refine (move_s_no HS.out.2 0 0 rfl).mono ?_
          rintro e W6 ⟨rfl, hs6, -⟩
          have HN6 := Lib.hid hs6.new
          clear hs6 HS
          go_wp2_with fail
          go_ret
          exact ⟨rfl, HN6.out⟩
        · obtain ⟨ga, gc, rfl, hg1, hg2, hgr, hgo⟩ := HS.out.1.grams_some (by rw [qG_len]; omega)
          rw [qG_len] at *
          have hz2 : ((k : Int) == 0) = false := by rw [beq_eq_false_iff_ne]; omega
          have hk0 : (0 : Int) < (k : Int) := by omega
          have hp1 := fun W => pick18 W p1 k h10 h11 hk0 (by omega)
          have hp2 := fun W => pick18 W p2 k h20 h21 hk0 (by omega)
          obtain ⟨a, ha⟩ : ∃ a : Nat, pk p1 k = a := ⟨(pk p1 k).toNat, by have := pk_lo p1 k hk0; omega⟩
          obtain ⟨b, hb⟩ : ∃ a : Nat, pk p2 k = a := ⟨(pk p2 k).toNat, by have := pk_lo p2 k hk0; omega⟩
          have hak : a < k := by have := pk_hi p1 k hk0; omega
          have hbk : b < k := by have := pk_hi p2 k hk0; omega
          rw [ha] at hp1
          rw [hb] at hp2
          have Hp1 := Lib.hid hp1
          have Hp2 := Lib.hid hp2
          clear hp1 hp2 ha hb
          go_wp2_with (go_at_call 18; first | (with_reducible refine (Hp1.out _).mono ?_; rintro e w' ⟨rfl, rfl⟩) | (with_reducible refine (Hp2.out _).mono ?_; rintro e w' ⟨rfl, rfl⟩))
          have hLk := qG_len X k
          obtain ⟨x, hx⟩ : ∃ x, (qG X k)[a]? = some x := ⟨_, List.getElem?_eq_getElem (by rw [hLk]; exact hak)⟩
          obtain ⟨L, hL⟩ : ∃ L, L = qG X k := ⟨_, rfl⟩
          rw [← hL] at hLk hx hgr HS
          obtain ⟨M, hM⟩ : ∃ M, M = (L.eraseIdx a).take b ++ x :: (L.eraseIdx a).drop b := ⟨_, rfl⟩
          have hel : (L.eraseIdx a).length = k - 1 := by rw [length_eraseIdx' (by omega), hLk]
          have hMk : M.length = k := by
            rw [hM, List.length_append, List.length_take, List.length_cons, List.length_drop, hel]; omega
          have hMb : M[b]? = some x := by
            rw [hM, List.getElem?_append_right (by rw [List.length_take]; omega), List.length_take, hel, Nat.min_eq_left (by omega), Nat.sub_self]; rfl
          have hMe : M.eraseIdx b = L.eraseIdx a := by
            rw [hM, List.eraseIdx_append_of_length_le (by rw [List.length_take]; omega), List.length_take, hel, Nat.min_eq_left (by omega), Nat.sub_self, List.eraseIdx_cons_zero, List.take_append_drop]
          have hback : (M.eraseIdx b).take a ++ x :: (M.eraseIdx b).drop a = L := by
            rw [hMe]
            exact eraseIdx_insert hx
          have HLk := Lib.hid hLk
          have Hx2 := Lib.hid hx
          have HMk := Lib.hid hMk
          have HMb := Lib.hid hMb
          have HMe := Lib.hid hMe
          have Hback := Lib.hid hback
          have Hgr2 := Lib.hid hgr
          have HM' := Lib.hid hM
          clear hLk hx hMk hMb hMe hback hgr hM hel hL Hp1 Hp2
          refine (move_s_yes HS.out.2 a b x Hx2.out (by rw [HLk.out]; exact hbk)).mono ?_
          rintro e W6 ⟨rfl, hs6, hc6⟩
          rw [← HM'.out] at hs6
          have HO6 := Lib.hid (show OwnG w.heap.size W6 (.slice (some ga) k gc) L from HS.out.1.chg hc6 (fun g hg h => h hg))
          have HS6 := Lib.hid hs6
          clear hs6 hc6 HM'
          go_wp2_with fail
          refine (move_s_no HS6.out k 0 (by rw [HMk.out]; simp [okI])).mono ?_
          rintro e W7 ⟨rfl, hs7, hc7⟩
          have HO7 := Lib.hid (show OwnG w.heap.size W7 (.slice (some ga) k gc) L from HO6.out.chg hc7 (fun g hg h => h hg))
          have HS7 := Lib.hid hs7
          clear hs7 hc7 HO6 HS6
          go_wp2_with fail
          refine (move_s_no HS7.out 0 (-1) (by simp [okI])).mono ?_
          rintro e W8 ⟨rfl, hs8, hc8⟩
          have HO8 := Lib.hid (show OwnG w.heap.size W8 (.slice (some ga) k gc) L from HO7.out.chg hc8 (fun g hg h => h hg))
          have HS8 := Lib.hid hs8
          clear hs8 hc8 HO7 HS7
          go_wp2_with fail
          refine (all_s HS8.out).mono ?_
          rintro e W9 ⟨v13, rfl, ⟨G, gc2, rfl, hgl, hgm, hgr13, hgb⟩, hc9, hs9⟩
          rw [HMk.out] at hgl hgr13 ⊢
          obtain ⟨gm, rfl, hgrM⟩ := hgr13 (by omega)
          have HO9 := Lib.hid (HO8.out.chg hc9 (fun _ _ x => x))
          have HS9 := Lib.hid hs9
          have HG := Lib.hid hgrM
          clear hs9 hc9 HO8 HS8 hgr13 hgb hgrM
          go_wp2_with fail
          have hat := (HG.out b (gcs x) (by rw [List.getElem?_map, HMb.out]; rfl)).2
          obtain ⟨ga2, hga2, hrL⟩ := (HO9.out.rows rfl).2 (by rw [List.length_map, HLk.out]; omega)
          obtain rfl := Option.some.inj hga2
          have hbt := (hrL a (gcs x) (by rw [List.getElem?_map, Hx2.out]; rfl)).2
          have Hat := Lib.hid hat
          have Hbt := Lib.hid hbt
          have Hnq := Lib.hid (show ∀ W ρ o p q, Oper.op o = .binOp .neq 33 p q 33 → ρ p = .agg #[.string x.f, .string x.t, .string x.d] → ρ q = .agg #[.string x.f, .string x.t, .string x.d] → (execOp ρ o).run Try.prog W = .ok (.value (.bool false)) W from fun W ρ o p q ho hp hq => by rw [exec_neq_gram W x x ρ o p q ho hp hq]; simp)
          clear hat hbt hga2 hrL
          have qa0 : (0 : Int) ≤ (a : Int) := by omega
          have qa1 : (a : Int) < (k : Int) := by omega
          have qb0 : (0 : Int) ≤ (b : Int) := by omega
          have qb1 : (b : Int) < (k : Int) := by omega
          refine wp_region_quiet_lit (by kernel_rfl) (by kernel_rfl) ?_
          repeat (first
            | ((with_reducible refine wpq_loadg rfl (.tmp 93) 33 rfl stGram (gm.add (b * 3)) (gcs x) ?_ rfl Hat.out ?_); exact rfl; simp only [Act.put, List.setIfInBounds_toArray, List.set_cons_succ, List.set_cons_zero])
            | ((with_reducible refine wpq_loadg rfl (.tmp 97) 33 rfl stGram (ga.add (a * 3)) (gcs x) ?_ rfl Hbt.out ?_); exact rfl; simp only [Act.put, List.setIfInBounds_toArray, List.set_cons_succ, List.set_cons_zero])
            | ((with_reducible refine wpq_valg rfl (.bool false) (fun n => ?_) ?_); exact Hnq.out _ _ _ _ _ rfl rfl rfl; simp only [Act.put, List.setIfInBounds_toArray, List.set_cons_succ, List.set_cons_zero])
            | go_big_quiet_step (fail))
          refine wpQuiet_nil ?_
          rintro _ ⟨nq, rfl⟩
          go_wp2_with fail
          have hN9 : New W9 (W9.drewN nq) := (Chg.refl _ _).drewN nq
          obtain ⟨St, HSt⟩ : ∃ St : World → Prop, St = (fun W => OwnG w.heap.size W (.slice (some ga) k gc) L ∧ RowsAt W gm 3 (M.map gcs) ∧ BagS 72 w W bb M 200 (fun q => (Value.slice (some ga) k gc).ownBlock = some q ∨ gblk (.slice (some gm) k gc2) q)) := ⟨_, rfl⟩
          have hstay : ∀ W W', New W W' → St W → St W' := by
            intro W W' hc h
            rw [HSt] at h ⊢
            exact ⟨h.1.chg hc (fun _ _ x => x), h.2.1.chg hc id, h.2.2.stay hc⟩
          have HA := Lib.hid (hstay _ _ hN9 (by rw [HSt]; exact ⟨HO9.out, HG.out, HS9.out⟩))
          generalize W9.drewN nq = Wa at HA ⊢
          have Hstay := Lib.hid hstay
          have HSt' := Lib.hid HSt
          clear hstay hN9 HO9 HG HS9 Hat Hbt Hnq HSt
          obtain ⟨A20, hA20, hA20b, hT20⟩ := rows_tail (cap := gc) ((by have := HA.out; rw [HSt'.out] at this; obtain ⟨z, hz, hr⟩ := (this.1.rows rfl).2 (by rw [List.length_map, HLk.out]; omega); obtain rfl := Option.some.inj hz; exact hr : RowsAt Wa ga 3 (L.map gcs))) (a + 1) (by rw [HLk.out]; omega) (by rw [HLk.out]; omega)
          have hB20 := rows_take ((by have := HA.out; rw [HSt'.out] at this; obtain ⟨z, hz, hr⟩ := (this.1.rows rfl).2 (by rw [List.length_map, HLk.out]; omega); obtain rfl := Option.some.inj hz; exact hr : RowsAt Wa ga 3 (L.map gcs))) a
          have HT20 := Lib.hid hT20
          have HB20 := Lib.hid hB20
          clear hT20 hB20 hA20b
          have r0 : (0 : Int) ≤ (a : Int) := by omega
          have r1 : (a : Int) ≤ (gc : Int) := by omega
          have r2 : (0 : Int) ≤ (a : Int) + 1 := by omega
          have r3 : (a : Int) + 1 ≤ (k : Int) := by omega
          have r4 : ((a : Int) + 1).toNat = a + 1 := by omega
          have r5 : IntKind.i64.wrap ((a : Int) + 1) = (a : Int) + 1 := by rw [IntKind.wrap_i64]; omega
          have r6 : a ≤ gc := by omega
          have r7 : a + 1 ≤ k := by omega
          refine wp_region_at (by kernel_rfl) ?_
          have HWb := Lib.hid (Hstay.out _ _ ((Chg.refl Wa (fun _ => False)).drew) HA.out)
          have HT := Lib.hid (HT20.out.chg ((Chg.refl Wa (fun _ => False)).drew) id)
          have HB := Lib.hid (HB20.out.chg ((Chg.refl Wa (fun _ => False)).drew) id)
          generalize hwd0 : Wa.drew = Wb at HWb HT HB ⊢
          clear HT20 HB20
          refine AtN.segN2 0 8 [101, 102, 103, 104, 105, 106, 107, 108] (fun
            | 0 => fun v _ => v = .slice (some ga) k gc
            | 1 => fun v _ => v = .int .i64 a
            | 2 => fun v _ => v = .slice (some ga) a gc
            | 3 => fun v W => OwnG w.heap.size W v (L.take a) ∧ ∀ q, v.ownBlock = some q → Wb.heap.size ≤ q
            | 4 => fun v _ => v = .slice (some ga) k gc
            | 5 => fun v _ => v = .int .i64 a
            | 6 => fun v _ => v = .int .i64 ((a : Int) + 1)
            | 7 => fun v _ => v = .slice (some A20) (k - (a + 1)) (gc - (a + 1))
            | _ => fun _ _ => True) (by kernel_rfl) (by kernel_rfl) (by kernel_rfl) (by kernel_rfl) (fun j v w1 w2 hc h => ?_) (fun i hn hi o ho A0 W hN hin hk => ?_) (fun l Wb1 hN hl hΦ => ?_)
          · match j with
            | 3 => exact ⟨h.1.chg hc (fun _ _ x => x), h.2⟩
            | 0 | 1 | 2 | 4 | 5 | 6 | 7 => exact h
            | _ + 8 => trivial
          · rcases (show i = 0 ∨ i = 1 ∨ i = 2 ∨ i = 3 ∨ i = 4 ∨ i = 5 ∨ i = 6 ∨ i = 7 by omega) with rfl | rfl | rfl | rfl | rfl | rfl | rfl | rfl
            · cases ho
              exact .same (exec_move 9 _ rfl (hk 9 (by kernel_rfl))) rfl
            · cases ho
              exact .same (exec_move 11 _ rfl (hk 11 (by kernel_rfl))) rfl
            · cases ho
              have h101 : A0.tmps[101]?.getD undef = .slice (some ga) k gc := hin 0 101 (by kernel_rfl)
              have h102 : A0.tmps[102]?.getD undef = .int .i64 a := hin 1 102 (by kernel_rfl)
              exact .same (by simp [go_sem, h101, h102, r0, r1, r6]) rfl
            · cases ho
              have h103 : A0.tmps[103]?.getD undef = .slice (some ga) a gc := hin 2 103 (by kernel_rfl)
              obtain ⟨v', W', hrun, hown, hchg, hblk⟩ := append_own (B := w.heap.size) (W := W) (xs := []) (Own.nil _ _ _ _) ((by have := HWb.out; rw [HSt'.out] at this; exact Nat.le_trans this.2.2.new.size hN.size)) ga a gc (L.take a) (by rw [List.length_take, HLk.out]; omega) (HB.out.chg hN id) (by simp; omega) 41
              refine .value (exec_append _ _ _ _ rfl rfl (by simpa [Act.eval] using h103) hrun) ⟨hchg.mono (fun k _ h => by cases h), hown, fun q hq => ?_⟩
              rcases hblk q hq with h | h
              · cases h
              · exact Nat.le_trans hN.size h
            · cases ho
              exact .same (exec_move 9 _ rfl (hk 9 (by kernel_rfl))) rfl
            · cases ho
              exact .same (exec_move 11 _ rfl (hk 11 (by kernel_rfl))) rfl
            · cases ho
              have h106 : A0.tmps[106]?.getD undef = .int .i64 a := hin 5 106 (by kernel_rfl)
              exact .same (by simp [go_sem, h106, r5]) rfl
            · cases ho
              have h105 : A0.tmps[105]?.getD undef = .slice (some ga) k gc := hin 4 105 (by kernel_rfl)
              have h107 : A0.tmps[107]?.getD undef = .int .i64 ((a : Int) + 1) := hin 6 107 (by kernel_rfl)
              exact .same (by simp [go_sem, h105, h107, r2, r3, r4, r7, hA20]) rfl
          obtain ⟨x101, x102, x103, x104, x105, x106, x107, x108, rfl⟩ : ∃ x101 x102 x103 x104 x105 x106 x107 x108, l = [x101, x102, x103, x104, x105, x106, x107, x108] := by
            match l, hl with
            | [x101, x102, x103, x104, x105, x106, x107, x108], _ => exact ⟨_, _, _, _, _, _, _, _, rfl⟩
          obtain rfl : x101 = .slice (some ga) k gc := hΦ 0 (by decide)
          obtain rfl : x102 = .int .i64 a := hΦ 1 (by decide)
          obtain rfl : x103 = .slice (some ga) a gc := hΦ 2 (by decide)
          have hx104 := hΦ 3 (by decide)
          obtain rfl : x105 = .slice (some ga) k gc := hΦ 4 (by decide)
          obtain rfl : x106 = .int .i64 a := hΦ 5 (by decide)
          obtain rfl : x107 = .int .i64 ((a : Int) + 1) := hΦ 6 (by decide)
          obtain rfl : x108 = .slice (some A20) (k - (a + 1)) (gc - (a + 1)) := hΦ 7 (by decide)
          simp only [putsL, List.zip_cons_cons, List.zip_nil_left, List.zip_nil_right, List.zip, List.zipWith, Act.put, List.setIfInBounds_toArray, List.set_cons_succ, List.set_cons_zero]
          clear hΦ hl
          obtain ⟨hown, hfr⟩ := hx104
          obtain ⟨v14, Wb2, hrun, hown2, hchg, hblk⟩ := append_own hown ((by have := HWb.out; rw [HSt'.out] at this; exact Nat.le_trans this.2.2.new.size hN.size)) A20 (k - (a + 1)) (gc - (a + 1)) (L.drop (a + 1)) (by rw [List.length_drop, HLk.out]) (HT.out.chg hN id) (by simp; omega) 41
          have hNN : New Wb Wb2 := hN.trans hchg (fun q hq hT => absurd (hfr q hT) (by omega))
          have HWb2 := Lib.hid (Hstay.out _ _ hNN HWb.out)
          rw [show L.take a ++ L.drop (a + 1) = L.eraseIdx a from (List.eraseIdx_eq_take_drop_succ ..).symm] at hown2
          have Hown14 := Lib.hid hown2
          have Hrun := Lib.hid hrun
          have HNN20 := Lib.hid (((Chg.refl Wa (fun _ => False)).drew).trans (hwd0 ▸ hNN) (fun _ _ x => x))
          clear hrun hown2 hchg hblk hN hown hfr hNN hwd0 HT HB HWb hA20 r0 r1 r2 r3 r4 r5 r6 r7
          refine AtN.list 8 10 (by kernel_rfl) ?_
          change wpList _ _ _ [_, _] _ _
          go_wp2_with ((with_reducible refine wpl_append rfl (.tmp 104) (.tmp 108) 41 41 rfl ?_ ?_ Hrun.out ?_); exact rfl; exact rfl)
          change AtN _ _ _ 10 _ _
          refine AtN.done rfl ?_
          clear Hrun
          go_wp2_with fail
          obtain ⟨A21, hA21, hA21b, hT21⟩ := rows_tail (cap := gc2) ((by have := HWb2.out; rw [HSt'.out] at this; exact this.2.1 : RowsAt Wb2 gm 3 (M.map gcs))) (b + 1) (by rw [HMk.out]; omega) (by rw [HMk.out]; omega)
          have hB21 := rows_take ((by have := HWb2.out; rw [HSt'.out] at this; exact this.2.1 : RowsAt Wb2 gm 3 (M.map gcs))) b
          have HT21 := Lib.hid hT21
          have HB21 := Lib.hid hB21
          clear hT21 hB21 hA21b
          have r0 : (0 : Int) ≤ (b : Int) := by omega
          have r1 : (b : Int) ≤ (gc2 : Int) := by omega
          have r2 : (0 : Int) ≤ (b : Int) + 1 := by omega
          have r3 : (b : Int) + 1 ≤ (k : Int) := by omega
          have r4 : ((b : Int) + 1).toNat = b + 1 := by omega
          have r5 : IntKind.i64.wrap ((b : Int) + 1) = (b : Int) + 1 := by rw [IntKind.wrap_i64]; omega
          have r6 : b ≤ gc2 := by omega
          have r7 : b + 1 ≤ k := by omega
          refine wp_region_at (by kernel_rfl) ?_
          have HWc := Lib.hid (Hstay.out _ _ ((Chg.refl Wb2 (fun _ => False)).drew) HWb2.out)
          have HT := Lib.hid (HT21.out.chg ((Chg.refl Wb2 (fun _ => False)).drew) id)
          have HB := Lib.hid (HB21.out.chg ((Chg.refl Wb2 (fun _ => False)).drew) id)
          generalize hwd0 : Wb2.drew = Wc at HWc HT HB ⊢
          clear HT21 HB21
          refine AtN.segN2 0 8 [110, 111, 112, 113, 114, 115, 116, 117] (fun
            | 0 => fun v _ => v = .slice (some gm) k gc2
            | 1 => fun v _ => v = .int .i64 b
            | 2 => fun v _ => v = .slice (some gm) b gc2
            | 3 => fun v W => OwnG w.heap.size W v (M.take b) ∧ ∀ q, v.ownBlock = some q → Wc.heap.size ≤ q
            | 4 => fun v _ => v = .slice (some gm) k gc2
            | 5 => fun v _ => v = .int .i64 b
            | 6 => fun v _ => v = .int .i64 ((b : Int) + 1)
            | 7 => fun v _ => v = .slice (some A21) (k - (b + 1)) (gc2 - (b + 1))
            | _ => fun _ _ => True) (by kernel_rfl) (by kernel_rfl) (by kernel_rfl) (by kernel_rfl) (fun j v w1 w2 hc h => ?_) (fun i hn hi o ho A0 W hN hin hk => ?_) (fun l Wc1 hN hl hΦ => ?_)
          · match j with
            | 3 => exact ⟨h.1.chg hc (fun _ _ x => x), h.2⟩
            | 0 | 1 | 2 | 4 | 5 | 6 | 7 => exact h
            | _ + 8 => trivial
          · rcases (show i = 0 ∨ i = 1 ∨ i = 2 ∨ i = 3 ∨ i = 4 ∨ i = 5 ∨ i = 6 ∨ i = 7 by omega) with rfl | rfl | rfl | rfl | rfl | rfl | rfl | rfl
            · cases ho
              exact .same (exec_move 13 _ rfl (hk 13 (by kernel_rfl))) rfl
            · cases ho
              exact .same (exec_move 12 _ rfl (hk 12 (by kernel_rfl))) rfl
            · cases ho
              have h110 : A0.tmps[110]?.getD undef = .slice (some gm) k gc2 := hin 0 110 (by kernel_rfl)
              have h111 : A0.tmps[111]?.getD undef = .int .i64 b := hin 1 111 (by kernel_rfl)
              exact .same (by simp [go_sem, h110, h111, r0, r1, r6]) rfl
            · cases ho
              have h112 : A0.tmps[112]?.getD undef = .slice (some gm) b gc2 := hin 2 112 (by kernel_rfl)
              obtain ⟨v', W', hrun, hown, hchg, hblk⟩ := append_own (B := w.heap.size) (W := W) (xs := []) (Own.nil _ _ _ _) ((by have := HWc.out; rw [HSt'.out] at this; exact Nat.le_trans this.2.2.new.size hN.size)) gm b gc2 (M.take b) (by rw [List.length_take, HMk.out]; omega) (HB.out.chg hN id) (by simp; omega) 41
              refine .value (exec_append _ _ _ _ rfl rfl (by simpa [Act.eval] using h112) hrun) ⟨hchg.mono (fun k _ h => by cases h), hown, fun q hq => ?_⟩
              rcases hblk q hq with h | h
              · cases h
              · exact Nat.le_trans hN.size h
            · cases ho
              exact .same (exec_move 13 _ rfl (hk 13 (by kernel_rfl))) rfl
            · cases ho
              exact .same (exec_move 12 _ rfl (hk 12 (by kernel_rfl))) rfl
            · cases ho
              have h115 : A0.tmps[115]?.getD undef = .int .i64 b := hin 5 115 (by kernel_rfl)
              exact .same (by simp [go_sem, h115, r5]) rfl
            · cases ho
              have h114 : A0.tmps[114]?.getD undef = .slice (some gm) k gc2 := hin 4 114 (by kernel_rfl)
              have h116 : A0.tmps[116]?.getD undef = .int .i64 ((b : Int) + 1) := hin 6 116 (by kernel_rfl)
              exact .same (by simp [go_sem, h114, h116, r2, r3, r4, r7, hA21]) rfl
          obtain ⟨x110, x111, x112, x113, x114, x115, x116, x117, rfl⟩ : ∃ x110 x111 x112 x113 x114 x115 x116 x117, l = [x110, x111, x112, x113, x114, x115, x116, x117] := by
            match l, hl with
            | [x110, x111, x112, x113, x114, x115, x116, x117], _ => exact ⟨_, _, _, _, _, _, _, _, rfl⟩
          obtain rfl : x110 = .slice (some gm) k gc2 := hΦ 0 (by decide)
          obtain rfl : x111 = .int .i64 b := hΦ 1 (by decide)
          obtain rfl : x112 = .slice (some gm) b gc2 := hΦ 2 (by decide)
          have hx113 := hΦ 3 (by decide)
          obtain rfl : x114 = .slice (some gm) k gc2 := hΦ 4 (by decide)
          obtain rfl : x115 = .int .i64 b := hΦ 5 (by decide)
          obtain rfl : x116 = .int .i64 ((b : Int) + 1) := hΦ 6 (by decide)
          obtain rfl : x117 = .slice (some A21) (k - (b + 1)) (gc2 - (b + 1)) := hΦ 7 (by decide)
          simp only [putsL, List.zip_cons_cons, List.zip_nil_left, List.zip_nil_right, List.zip, List.zipWith, Act.put, List.setIfInBounds_toArray, List.set_cons_succ, List.set_cons_zero]
          clear hΦ hl
          obtain ⟨hown, hfr⟩ := hx113
          obtain ⟨v15, Wc2, hrun, hown2, hchg, hblk⟩ := append_own hown ((by have := HWc.out; rw [HSt'.out] at this; exact Nat.le_trans this.2.2.new.size hN.size)) A21 (k - (b + 1)) (gc2 - (b + 1)) (M.drop (b + 1)) (by rw [List.length_drop, HMk.out]) (HT.out.chg hN id) (by simp; omega) 41
          have hNN : New Wc Wc2 := hN.trans hchg (fun q hq hT => absurd (hfr q hT) (by omega))
          have HWc2 := Lib.hid (Hstay.out _ _ hNN HWc.out)
          rw [show M.take b ++ M.drop (b + 1) = M.eraseIdx b from (List.eraseIdx_eq_take_drop_succ ..).symm] at hown2
          have Hown15 := Lib.hid hown2
          have Hrun := Lib.hid hrun
          have HNN21 := Lib.hid (((Chg.refl Wb2 (fun _ => False)).drew).trans (hwd0 ▸ hNN) (fun _ _ x => x))
          clear hrun hown2 hchg hblk hN hown hfr hNN hwd0 HT HB HWc hA21 r0 r1 r2 r3 r4 r5 r6 r7
          refine AtN.list 8 10 (by kernel_rfl) ?_
          change wpList _ _ _ [_, _] _ _
          go_wp2_with ((with_reducible refine wpl_append rfl (.tmp 113) (.tmp 117) 41 41 rfl ?_ ?_ Hrun.out ?_); exact rfl; exact rfl)
          change AtN _ _ _ 10 _ _
          refine AtN.done rfl ?_
          clear Hrun
          go_wp2_with fail
          have HO14 := Lib.hid (Hown14.out.chg HNN21.out (fun _ _ x => x))
          obtain ⟨R1, d1, hv14, _, _, hr1, _⟩ := HO14.out.grams
          obtain ⟨R2, d2, hv15, _, _, hr2, _⟩ := Hown15.out.grams
          have hlE : (L.eraseIdx a).length = k - 1 := by rw [length_eraseIdx' (by rw [HLk.out]; exact hak), HLk.out]
          rw [HMe.out] at hv15 hr2
          have hsame := same18 Wc2 R1 _ d1 R2 _ d2 (L.eraseIdx a) (L.eraseIdx a) rfl rfl (by rw [hlE]; unfold maxLen; omega) (by rw [hlE]; unfold maxLen; omega) hr1 hr2
          rw [decide_eq_true (rfl : L.eraseIdx a = L.eraseIdx a), ← hv14, ← hv15] at hsame
          have hst := HWc2.out
          rw [HSt'.out] at hst
          have HO20 := Lib.hid hst.1
          have HS20 := Lib.hid (hst.2.2.less (S' := fun q => (Value.slice (some ga) k gc).ownBlock = some q) (fun q h => .inl h))
          have Hsame := Lib.hid hsame
          clear hv14 hv15 hr1 hr2 hlE hsame hst HO14 Hown15 HWc2 HNN21 HNN20 Hown14
          refine Hsame.out.mono ?_
          rintro e W20 ⟨rfl, hc20⟩
          have HO21 := Lib.hid (HO20.out.chg hc20 (fun _ _ x => x))
          have HS21 := Lib.hid (HS20.out.stay hc20)
          clear HO20 HS20 hc20 Hsame
          go_wp2_with fail
          refine (move_s_yes HS21.out b a x HMb.out (by rw [HMk.out]; exact hak)).mono ?_
          rintro e W22 ⟨rfl, hs22, hc22⟩
          rw [Hback.out] at hs22
          have HO22 := Lib.hid (show OwnG w.heap.size W22 (.slice (some ga) k gc) L from HO21.out.chg hc22 (fun g hg h => h hg))
          have HS22 := Lib.hid hs22
          clear hs22 hc22 HO21 HS21
          go_wp2_with fail
          refine (all_s HS22.out).mono ?_
          rintro e W23 ⟨v24, rfl, ⟨R3, d3, rfl, _, _, hr3, _⟩, hc23, hs23⟩
          obtain ⟨R4, d4, hv4, _, _, hr4, _⟩ := (HO22.out.chg hc23 (fun _ _ x => x) : OwnG w.heap.size W23 (.slice (some ga) k gc) L).grams
          have hsame2 := same18 W23 R3 _ d3 R4 _ d4 L L rfl rfl (by rw [HLk.out]; unfold maxLen; omega) (by rw [HLk.out]; unfold maxLen; omega) hr3 hr4
          rw [decide_eq_true (rfl : L = L), ← hv4] at hsame2
          have Hsame2 := Lib.hid hsame2
          have HN23 := Lib.hid hs23.new
          clear hsame2 hv4 hr3 hr4 hc23 hs23 HO22 HS22
          go_wp2_with fail
          refine Hsame2.out.mono ?_
          rintro e W24 ⟨rfl, hc24⟩
          have HN24 := Lib.hid (HN23.out.trans hc24 (fun _ _ x => x))
          clear hc24 HN23 Hsame2
          go_wp2_with fail
          go_ret
          exact ⟨rfl, HN24.out⟩
end Go.Proofs.Ytenkobgeflckdaa
