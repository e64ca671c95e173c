/- The reference's bag: Cut; and all of them beside other memory. -/
import Derived.Test.YtenkobgeflckdaaRef18c
set_option linter.unusedVariables false
set_option linter.unusedSimpArgs false
namespace Go.Proofs.Ytenkobgeflckdaa
open Go.RowKit Go.Shelf

set_option maxHeartbeats 4000000 in
set_option maxRecDepth 100000 in
theorem rcut_any (w : World) (B bb : Nat) (v : Value) (gs : List Gm) (most : Int) (h : BagAt 74 w B bb v gs most) (hB : B ≤ w.heap.size) (a c : ByteArray) :
    Calls Try.prog 29 #[.pointer (some ⟨bb, 0, none⟩), .string a, .string c] w (BagTo 74 w B bb v (gs.filter fun x => !cutP a c x) most (.int .i64 ((gs.length : Int) - (gs.filter fun x => !cutP a c x).length))) := by
  obtain ⟨A', cap, hv, hlc, _⟩ := h.own.form
  have hrows := (h.own.rows hv).2
  have c0 := h.blk.cell 0
  have hbl := h.blk.lt
  have hlim := h.lim
  simp only [List.getElem?_toArray, List.getElem?_cons_zero, List.getElem?_cons_succ] at c0
  rw [hv] at c0
  simp only [List.length_map] at c0 hrows
  obtain ⟨n, hn⟩ : ∃ n, gs.length = n := ⟨_, rfl⟩
  rw [hn] at c0 hrows hlim ⊢
  obtain ⟨fs, hfs⟩ : ∃ fs, fs = gs.filter fun x => !cutP a c x := ⟨_, rfl⟩
  have hml : fs.length ≤ n := by rw [hfs, ← hn]; exact List.length_filter_le _ _
  rw [← hfs]
  obtain ⟨m, hm⟩ : ∃ m, fs.length = m := ⟨_, rfl⟩
  rw [hm] at hml ⊢
  have HFs := Lib.hid hfs
  have HM := Lib.hid hm
  clear hfs hm
  have Hh := Lib.hid h
  have C0 := Lib.hid c0
  have HR := Lib.hid hrows
  have Hn := Lib.hid hn
  clear h hv hlc hrows hn c0
  go_enter Try.func29, Try.ntmps29
  go_wp2_with fail
  go_loopw [7, 8] (fun u7 u8 wr => ∃ j : Nat, j ≤ n ∧ u8 = .int .i64 j ∧ New w wr ∧ OwnG B wr u7 ((gs.take j).filter fun x => !cutP a c x) ∧ ∀ k, u7.ownBlock = some k → w.heap.size ≤ k) (fun _ u8 _ => n - (intOf u8).toNat)
  case atStart => exact ⟨0, Nat.zero_le _, rfl, Chg.refl _ _, Own.nil _ _ _ _, fun k hk => by cases hk⟩
  case round =>
    obtain ⟨j, hj, rfl, hN, ho, hf⟩ := hrel
    have HN := Lib.hid hN
    have HO := Lib.hid ho
    have HF := Lib.hid hf
    have d0 := hN.cellS C0.out id
    clear hN ho hf
    by_cases hlt : j < n
    · obtain ⟨ad, rfl, hrow⟩ := HR.out (by omega)
      obtain ⟨y, hy⟩ : ∃ y, gs[j]? = some y := ⟨_, List.getElem?_eq_getElem (by rw [Hn.out]; exact hlt)⟩
      have hat := ((hrow j (gcs y) (by rw [List.getElem?_map, hy]; rfl)).2).chg HN.out id
      change At _ _ [.string y.f, .string y.t, .string y.d] at hat
      have Hat := Lib.hid hat
      have Hy := Lib.hid hy
      obtain ⟨w1, hw1⟩ : ∃ w1, w1 = wr.alloc (.cells #[.string y.f, .string y.t, .string y.d] 33) := ⟨_, rfl⟩
      have hN1 : New wr w1 := by rw [hw1]; exact (Chg.refl _ _).alloc _
      have hB1 : Blk w1 wr.heap.size 33 (gcs y).toArray := by rw [hw1]; exact Blk.new wr _ _
      have HN1 := Lib.hid (HN.out.trans hN1 (fun _ _ x => x))
      have HO1 := Lib.hid (HO.out.chg hN1 (fun _ _ x => x))
      have HB1 := Lib.hid hB1
      have HW1 := Lib.hid hw1
      have d1 := hN1.cellS d0 id
      clear hat hrow hy hN1 hB1 hw1
      have j0 : (0 : Int) ≤ (j : Int) := by omega
      have j1 : (j : Int) < (n : Int) := by omega
      go_upto_region 6 with ((with_reducible refine wpl_load rfl (.tmp 25) 33 rfl stGram (ad.add (j * 3)) [.string y.f, .string y.t, .string y.d] ?_ rfl Hat.out ?_); exact rfl)
      rw [← HW1.out]
      clear d0
      generalize wr.heap.size = bg at HB1 ⊢
      have e0 := HB1.out.cell 0
      have e1 := HB1.out.cell 1
      simp only [gcs, List.getElem?_toArray, List.getElem?_cons_zero, List.getElem?_cons_succ] at e0 e1
      obtain ⟨f1, hf1⟩ : ∃ b, (y.f.toList == a.toList) = b := ⟨_, rfl⟩
      obtain ⟨f2, hf2⟩ : ∃ b, (y.t.toList == c.toList) = b := ⟨_, rfl⟩
      obtain ⟨f3, hf3⟩ : ∃ b, (y.f.toList == c.toList) = b := ⟨_, rfl⟩
      obtain ⟨f4, hf4⟩ : ∃ b, (y.t.toList == a.toList) = b := ⟨_, rfl⟩
      have hcut : cutP a c y = (f1 && f2 || f3 && f4) := by
        rw [← hf1, ← hf2, ← hf3, ← hf4]
        unfold cutP
        rw [Bool.eq_iff_iff]
        simp [tl_eq]
      have hcut2 : ((gs.take (j + 1)).filter fun x => !cutP a c x) = ((gs.take j).filter fun x => !cutP a c x) ++ (if (f1 && f2 || f3 && f4) then [] else [y]) := by
        rw [take_succ_get Hy.out, List.filter_append, show [y].filter (fun x => !cutP a c x) = if (f1 && f2 || f3 && f4) then [] else [y] by rw [List.filter_cons, hcut, List.filter_nil]; cases (f1 && f2 || f3 && f4) <;> rfl]
      have HC := Lib.hid hcut2
      clear hcut hcut2
      have Hat2 := Lib.hid HB1.out.at_
      by_cases hall : (f1 && f2 || f3 && f4) = true
      · rw [hall] at HC
        have HC2 := Lib.hid (show ((gs.take (j + 1)).filter fun x => !cutP a c x) = ((gs.take j).filter fun x => !cutP a c x) by rw [HC.out]; simp)
        clear HC
        cases f1 <;> cases f2 <;> cases f3 <;> cases f4 <;> first | (exfalso; revert hall; decide) | skip
        all_goals clear hall
        all_goals (go_wp2_with fail)
        all_goals go_roundw
        all_goals (first | exact ⟨j + 1, by omega, by go_num, HN1.out, by rw [HC2.out]; exact HO1.out, HF.out⟩ | (simp only [intOf]; omega))
      · have hall2 : (f1 && f2 || f3 && f4) = false := by simpa using hall
        rw [hall2] at HC
        have HC2 := Lib.hid (show ((gs.take (j + 1)).filter fun x => !cutP a c x) = ((gs.take j).filter fun x => !cutP a c x) ++ [y] by rw [HC.out]; simp)
        clear HC hall
        have hN2 : New w1 (w1.alloc (.cells #[.string y.f, .string y.t, .string y.d] 33)) := (Chg.refl _ _).alloc _
        have hB2 : Blk (w1.alloc (.cells #[.string y.f, .string y.t, .string y.d] 33)) w1.heap.size 33 (([y].map gcs).flatten).toArray := Blk.new w1 _ _
        have hlf : ((gs.take j).filter fun x => !cutP a c x).length ≤ j := Nat.le_trans (List.length_filter_le _ _) (by rw [List.length_take]; omega)
        obtain ⟨v', W', hrun, hown, hchg, hblk⟩ := append_own (HO1.out.chg hN2 (fun _ _ x => x)) (Nat.le_trans hB (HN1.out.trans hN2 (fun _ _ x => x)).size) ⟨w1.heap.size, 0, none⟩ 1 1 [y] rfl (hB2.rowsAt (gcs_len [y])) (by omega) 41
        have HNw := Lib.hid ((HN1.out.trans hN2 (fun _ _ x => x)).trans hchg (fun k hk h => absurd (HF.out k h) (by omega)))
        have HOw := Lib.hid hown
        have HFw := Lib.hid (show ∀ k, v'.ownBlock = some k → w.heap.size ≤ k from fun k hk => (hblk k hk).elim (fun h => HF.out k h) (fun h => Nat.le_trans (HN1.out.trans hN2 (fun _ _ x => x)).size h))
        have Hrun := Lib.hid hrun
        have Hat3 := Lib.hid (show At w1 ⟨bg, 0, none⟩ [.string y.f, .string y.t, .string y.d] from Hat2.out)
        clear hN2 hB2 hrun hown hchg hblk hlf Hat2
        cases f1 <;> cases f2 <;> cases f3 <;> cases f4 <;> first | (exfalso; revert hall2; decide) | skip
        all_goals clear hall2
        all_goals (go_wp2_with (first | ((with_reducible refine wpl_load rfl (.tmp 9) 33 rfl stGram ⟨bg, 0, none⟩ [.string y.f, .string y.t, .string y.d] ?_ rfl Hat3.out ?_); exact rfl) | ((with_reducible refine wpl_append rfl (.tmp 50) (.tmp 52) 41 41 rfl ?_ ?_ Hrun.out ?_); exact rfl; exact rfl)))
        all_goals go_roundw
        all_goals (first | exact ⟨j + 1, by omega, by go_num, HNw.out, by rw [HC2.out]; exact HOw.out, HFw.out⟩ | (simp only [intOf]; omega))
    · obtain rfl : j = n := by omega
      have hfl : (gs.filter fun x => !cutP a c x) = ((gs.take j).filter fun x => !cutP a c x) := by rw [List.take_of_length_le (by rw [Hn.out]; exact Nat.le_refl _)]
      rw [← hfl, ← HFs.out] at HO
      obtain ⟨A7, c7, rfl, _⟩ := HO.out.form
      rw [List.length_map, HM.out] at HO HF ⊢
      have hpost := BagTo.mk2 (r := .int .i64 ((j : Int) - m)) Hh.out (HN.out.mono fun _ _ x => x.elim) HO.out (fun k hk => .inr (HF.out k hk)) (by have := Hh.out.le; rw [HM.out]; have := Hn.out; omega)
      have hfro : wr.frozen? ⟨bb, 0, none⟩ = false := (Hh.out.blk.chg HN.out id).frozen 0
      have Hpost := Lib.hid hpost
      clear hpost hfl
      go_wp2_with fail
      go_ret
      exact Hpost.out

section
variable {w W : World} {bb : Nat} {gs : List Gm} {most : Int} {S : Nat → Prop}
theorem rnew_s (m : Int) (hN : New w W) (S : Nat → Prop) (hS : ∀ k, S k → k < W.heap.size) : Calls Try.prog 17 #[.int .i64 m] W fun e W' => e = .returned (.pointer (some ⟨W.heap.size, 0, none⟩)) ∧ BagS 74 w W' W.heap.size [] (min (max m 0) 200) S ∧ New W W' := by
  refine (rnew_any m W w.heap.size hN.size).mono ?_
  rintro e W' ⟨he, hb, hc⟩
  refine ⟨he, ⟨hN.trans hc (fun _ _ x => x), ⟨_, hb, fun k hk hk' => ?_⟩, fun k hk => Nat.lt_of_lt_of_le (hS k hk) hc.size⟩, hc⟩
  rcases hk with rfl | hk
  · exact absurd (hS _ hk') (by omega)
  · cases hk
theorem rput_s (h : BagS 74 w W bb gs most S) (x : Gm) : Calls Try.prog 21 #[.pointer (some ⟨bb, 0, none⟩), gval x] W (BagGo 74 w W bb (putL gs most x) most S (.bool (putOk gs most))) :=
  h.go fun v hb => rput_any W _ bb v gs most hb hb.m200 x h.new.size
theorem rtake_s_no (h : BagS 74 w W bb gs most S) (i : Int) (hi : okI gs.length i = false) : Calls Try.prog 23 #[.pointer (some ⟨bb, 0, none⟩), .int .i64 i] W (BagGo 74 w W bb gs most S (.tuple #[gval zeroG, .bool false])) :=
  h.go fun v hb => rtake_no W _ bb v gs most hb i hi
theorem rtake_s_yes (h : BagS 74 w W bb gs most S) (i : Nat) (x : Gm) (hx : gs[i]? = some x) : Calls Try.prog 23 #[.pointer (some ⟨bb, 0, none⟩), .int .i64 i] W (BagGo 74 w W bb (gs.eraseIdx i) most S (.tuple #[gval x, .bool true])) :=
  h.go fun v hb => rtake_yes W _ bb v gs most hb h.new.size i x hx
theorem ragain_s_no (h : BagS 74 w W bb gs most S) (i : Int) (hi : okI gs.length i = false) : Calls Try.prog 25 #[.pointer (some ⟨bb, 0, none⟩), .int .i64 i] W (BagGo 74 w W bb gs most S (.bool false)) :=
  h.go fun v hb => ragain_no W _ bb v gs most hb i hi
theorem ragain_s_yes (h : BagS 74 w W bb gs most S) (i : Nat) (x : Gm) (hx : gs[i]? = some x) : Calls Try.prog 25 #[.pointer (some ⟨bb, 0, none⟩), .int .i64 i] W (BagGo 74 w W bb (putL gs most x) most S (.bool (putOk gs most))) :=
  h.go fun v hb => ragain_yes W _ bb v gs most hb h.new.size i x hx
theorem rmove_s_no (h : BagS 74 w W bb gs most S) (i k : Int) (hi : (okI gs.length i && okI gs.length k) = false) : Calls Try.prog 27 #[.pointer (some ⟨bb, 0, none⟩), .int .i64 i, .int .i64 k] W (BagGo 74 w W bb gs most S (.bool false)) :=
  h.go fun v hb => rmove_no W _ bb v gs most hb i k hi
theorem rmove_s_yes (h : BagS 74 w W bb gs most S) (i k : Nat) (x : Gm) (hx : gs[i]? = some x) (hk : k < gs.length) : Calls Try.prog 27 #[.pointer (some ⟨bb, 0, none⟩), .int .i64 i, .int .i64 k] W (BagGo 74 w W bb ((gs.eraseIdx i).take k ++ x :: (gs.eraseIdx i).drop k) most S (.bool true)) :=
  h.go fun v hb => rmove_yes W _ bb v gs most hb h.new.size i k x hx hk
theorem rcut_s (h : BagS 74 w W bb gs most S) (a c : ByteArray) : Calls Try.prog 29 #[.pointer (some ⟨bb, 0, none⟩), .string a, .string c] W (BagGo 74 w W bb (gs.filter fun x => !cutP a c x) most S (.int .i64 ((gs.length : Int) - (gs.filter fun x => !cutP a c x).length))) :=
  h.go fun v hb => rcut_any W _ bb v gs most hb h.new.size a c
theorem rall_s (h : BagS 74 w W bb gs most S) : Calls Try.prog 32 #[.pointer (some ⟨bb, 0, none⟩)] W fun e W' => ∃ v', e = .returned v' ∧ Grams W' v' gs ∧ New W W' ∧ BagS 74 w W' bb gs most (fun k => S k ∨ gblk v' k) := by
  obtain ⟨v, hb, _⟩ := h.bag
  refine (rall_any W _ bb v gs most hb).mono ?_
  rintro e W' ⟨v', he, ho, hc⟩
  exact ⟨v', he, ho.grams, hc, h.add hc _ fun k hk => ho.gblk hk⟩
end
end Go.Proofs.Ytenkobgeflckdaa
