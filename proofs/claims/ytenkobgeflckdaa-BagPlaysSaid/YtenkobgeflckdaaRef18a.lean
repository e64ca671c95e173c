/- The reference's bag: New, has, All, Put. -/
import Derived.Test.YtenkobgeflckdaaBag8
import Derived.Test.YtenkobgeflckdaaApp
import Derived.Test.YtenkobgeflckdaaWf
import Derived.Deep.CutRange
set_option linter.unusedVariables false
set_option linter.unusedSimpArgs false
namespace Go.Proofs.Ytenkobgeflckdaa
open Go.RowKit Go.Shelf

/-- The row has turned, and is stored back. -/
theorem BagTo.mk2 {t : TypeId} {w w1 : World} {B bb : Nat} {v v' : Value} {gs gs' : List Gm} {most : Int} {r : Value} (h : BagAt t w B bb v gs most) (hc : Chg w w1 (fun k => v.ownBlock = some k)) (ho : Own w1 B 33 3 v' (gs'.map gcs))
    (hb : ∀ k, v'.ownBlock = some k → v.ownBlock = some k ∨ w.heap.size ≤ k) (hl : (gs'.length : Int) ≤ most) : BagTo t w B bb v gs' most r (.returned r) (w1.setCell ⟨bb, 0, none⟩ v') := by
  have hb1 : Blk w1 bb t #[v, .int .i64 most] := h.blk.chg hc h.ne
  have hne := own_ne_blk ho hb1 h.t_ne
  refine ⟨rfl, (hc.mono fun k _ x => .inr x).setCell _ _ (fun _ => .inl rfl), v', ⟨?_, h.lo, ho.chg (T := fun k => k = bb) ((Chg.refl w1 _).setCell _ _ (fun _ => rfl)) (fun g hg e => hne (by rw [hg, e])), h.t_ne, hl, h.m200⟩, fun k hk => ?_⟩
  · have := hb1.setCell 0 v'
    simpa using this
  · rcases hk with hk | hk
    · exact .inl (.inl hk)
    · exact (hb k hk).imp .inr id

set_option maxHeartbeats 400000 in
theorem rnew_any (m : Int) (w : World) (B : Nat) (hB : B ≤ w.heap.size) : Calls Try.prog 17 #[.int .i64 m] w fun e w' => e = .returned (.pointer (some ⟨w.heap.size, 0, none⟩)) ∧ BagAt 74 w' B w.heap.size (.slice none 0 0) [] (min (max m 0) 200) ∧ New w w' := by
  have hfin : ∀ q, q = min (max m 0) 200 → BagAt 74 (w.alloc (.cells #[.slice none 0 0, .int .i64 q] 74)) B w.heap.size (.slice none 0 0) [] (min (max m 0) 200) ∧ New w (w.alloc (.cells #[.slice none 0 0, .int .i64 q] 74)) := by
    rintro q rfl
    exact ⟨⟨Blk.new w _ _, hB, Own.nil _ _ _ _, by decide, by simp; omega, by omega⟩, (Chg.refl w _).alloc _⟩
  have Hfin := Lib.hid hfin
  clear hfin
  go_enter Try.func17, Try.ntmps17
  go_wp2
  all_goals (go_ret; exact ⟨rfl, Hfin.out _ (by omega)⟩)

set_option maxHeartbeats 1000000 in
set_option maxRecDepth 100000 in
theorem rhas_any (w : World) (B bb : Nat) (v : Value) (gs : List Gm) (most : Int) (h : BagAt 74 w B bb v gs most) (i : Int) :
    Calls Try.prog 48 #[.pointer (some ⟨bb, 0, none⟩), .int .i64 i] w fun e w' => e = .returned (.bool (okI gs.length i)) ∧ w = w' := by
  obtain ⟨A', cap, hv', _⟩ := h.own.form
  have c0 := h.blk.cell 0
  simp only [List.getElem?_toArray, List.getElem?_cons_zero, List.getElem?_cons_succ] at c0
  rw [hv'] at c0
  simp only [List.length_map] at c0
  have hlim := h.lim
  clear h hv'
  unfold okI
  by_cases h0 : (0 : Int) ≤ i
  · have hd0 : decide ((0 : Int) ≤ i) = true := by simpa using h0
    rw [hd0]
    go_enter Try.func48, Try.ntmps48
    go_wp2_with fail
    go_ret
    exact ⟨rfl, by first | rfl | trivial⟩
  · have hd0 : decide ((0 : Int) ≤ i) = false := by simpa using h0
    rw [hd0]
    go_enter Try.func48, Try.ntmps48
    go_wp2_with fail
    go_ret
    exact ⟨rfl, by first | rfl | trivial⟩

set_option maxHeartbeats 1000000 in
set_option maxRecDepth 100000 in
theorem rall_any (w : World) (B bb : Nat) (v : Value) (gs : List Gm) (most : Int) (h : BagAt 74 w B bb v gs most) :
    Calls Try.prog 32 #[.pointer (some ⟨bb, 0, none⟩)] w fun e w' => ∃ v', e = .returned v' ∧ Own w' w.heap.size 33 3 v' (gs.map gcs) ∧ New w w' := by
  obtain ⟨A', cap, hv', _⟩ := h.own.form
  have c0 := h.blk.cell 0
  simp only [List.getElem?_toArray, List.getElem?_cons_zero, List.getElem?_cons_succ] at c0
  have hlim := h.lim
  obtain ⟨v', w', hrun, hown, hc, hblk⟩ := elGram.appendS (Own.nil w w.heap.size 33 3) (Nat.le_refl _) A' (gs.map gcs).length cap (gs.map gcs) rfl (gcs_len gs) (gcs_one gs) (fun hp => (h.own.rows hv').2 hp) (by simp; omega) (by simp; unfold maxLen; omega) 41
  rw [hv'] at c0
  simp only [List.length_map] at c0 hrun
  have Hrun := Lib.hid hrun
  have Hown := Lib.hid hown
  have Hc := Lib.hid (show New w w' from hc.mono (fun k _ h => by cases h))
  clear hrun hown hc hblk h hv'
  go_enter Try.func32, Try.ntmps32
  go_wp2_with ((with_reducible refine wpl_append rfl (.const (.slice none 0 0)) (.tmp 6) 41 41 rfl ?_ ?_ Hrun.out ?_); exact rfl; exact rfl)
  go_ret
  exact ⟨v', rfl, Hown.out, Hc.out⟩

set_option maxHeartbeats 4000000 in
set_option maxRecDepth 100000 in
theorem rput_any (w : World) (B bb : Nat) (v : Value) (gs : List Gm) (most : Int) (h : BagAt 74 w B bb v gs most) (hm : most ≤ 200) (x : Gm) (hB : B ≤ w.heap.size) :
    Calls Try.prog 21 #[.pointer (some ⟨bb, 0, none⟩), .agg #[.string x.f, .string x.t, .string x.d]] w (BagTo 74 w B bb v (putL gs most x) most (.bool (putOk gs most))) := by
  obtain ⟨A', cap, hv', _⟩ := h.own.form
  have hb := h.blk.lt
  have c0 := h.blk.cell 0
  have c1 := h.blk.cell 1
  simp only [List.getElem?_toArray, List.getElem?_cons_zero, List.getElem?_cons_succ] at c0 c1
  rw [hv'] at c0
  simp only [List.length_map] at c0
  have hlim := h.lim
  have hlt : ∀ g, v.ownBlock = some g → g < w.heap.size := fun g hg => (h.own.lt hg).2
  obtain ⟨w1, hw1⟩ : ∃ w1, w1 = w.alloc (.cells #[.string x.f, .string x.t, .string x.d] 33) := ⟨_, rfl⟩
  have hN : New w w1 := by rw [hw1]; exact (Chg.refl w _).alloc _
  have hBx : Blk w1 w.heap.size 33 (gcs x).toArray := by rw [hw1]; exact Blk.new w _ _
  have h1 := h.chg hN (fun _ _ x => x)
  have d0 := hN.cellS c0 id
  have d1 := hN.cellS c1 id
  have Hne := Lib.hid (show v.ownBlock ≠ some w.heap.size from fun e => by have := hlt _ e; omega)
  have HN := Lib.hid hN
  have HBx := Lib.hid hBx
  have H1 := Lib.hid h1
  have HW1 := Lib.hid hw1
  have Hv' := Lib.hid hv'
  have D0 := Lib.hid d0
  clear hN hBx h1 h hlt c0 c1 hw1 hv'
  by_cases hf : (gs.length : Int) + 1 ≤ most
  · have hd : decide (most ≤ (gs.length : Int)) = false := by simp; omega
    have Hfo := Lib.hid (show putOk gs most = true from decide_eq_true hf)
    have Hfl := Lib.hid (show putL gs most x = gs ++ [x] from if_pos hf)
    have Hf := Lib.hid hf
    clear hf
    go_enter Try.func21, Try.ntmps21
    go_upto_region 1 with fail
    rw [← HW1.out]
    go_wp2_with fail
    go_quiet (fail)
    go_wp2_with fail
    have HN2 := Lib.hid (HN.out.drewN nq)
    refine wp_region_at (by kernel_rfl) ?_
    have HNd := Lib.hid (HN2.out.drew)
    have hN1d : New w1 (w1.drewN nq).drew := ((Chg.refl w1 _).drewN nq).drew
    have Hbd := Lib.hid (H1.out.chg hN1d (fun _ _ x => x))
    have HBd := Lib.hid (HBx.out.chg hN1d id)
    have Hd0 := Lib.hid (hN1d.cellS D0.out id)
    clear hN1d HN2 H1 HBx D0 d0 d1
    generalize (w1.drewN nq).drew = wd at HNd Hbd HBd Hd0 ⊢
    have hst : ∀ jj uu w1 w2, New w1 w2 → (fun
        | 0 => fun v _ => v = .pointer (some ⟨bb, 0, none⟩)
        | 1 => fun v _ => v = .pointer (some ⟨bb, 0, none⟩)
        | 2 => fun v _ => v = .pointer (some ⟨bb, 0, none⟩)
        | 3 => fun v _ => v = .pointer (some ⟨bb, 0, none⟩)
        | 4 => fun v _ => v = .slice A' gs.length cap
        | 5 => fun v _ => v = .agg #[.string x.f, .string x.t, .string x.d]
        | 6 => fun v W => ∃ nb, v = .slice (some ⟨nb, 0, none⟩) 1 1 ∧ Blk W nb 33 (([x].map gcs).flatten).toArray
        | 7 => fun v1 W => OwnG B W v1 (gs ++ [x]) ∧ ∀ k, v1.ownBlock = some k → v.ownBlock = some k ∨ wd.heap.size ≤ k
        | _ => fun _ _ => True : Nat → Value → World → Prop) jj uu w1 → (fun
        | 0 => fun v _ => v = .pointer (some ⟨bb, 0, none⟩)
        | 1 => fun v _ => v = .pointer (some ⟨bb, 0, none⟩)
        | 2 => fun v _ => v = .pointer (some ⟨bb, 0, none⟩)
        | 3 => fun v _ => v = .pointer (some ⟨bb, 0, none⟩)
        | 4 => fun v _ => v = .slice A' gs.length cap
        | 5 => fun v _ => v = .agg #[.string x.f, .string x.t, .string x.d]
        | 6 => fun v W => ∃ nb, v = .slice (some ⟨nb, 0, none⟩) 1 1 ∧ Blk W nb 33 (([x].map gcs).flatten).toArray
        | 7 => fun v1 W => OwnG B W v1 (gs ++ [x]) ∧ ∀ k, v1.ownBlock = some k → v.ownBlock = some k ∨ wd.heap.size ≤ k
        | _ => fun _ _ => True : Nat → Value → World → Prop) jj uu w2 := by
      intro j uu w1 w2 hc h
      match j with
      | 6 => exact h.imp fun nb h => ⟨h.1, h.2.chg hc id⟩
      | 7 => exact ⟨h.1.chg hc (fun _ _ x => x), h.2⟩
      | 0 | 1 | 2 | 3 | 4 | 5 => exact h
      | _ + 8 => trivial
    refine AtN.segX2 0 8 7 [15, 16, 17, 18, 19, 20, 21, 22] (fun k => v.ownBlock = some k) (fun
        | 6 => 7
        | _ => 999) (fun
        | 0 => fun v _ => v = .pointer (some ⟨bb, 0, none⟩)
        | 1 => fun v _ => v = .pointer (some ⟨bb, 0, none⟩)
        | 2 => fun v _ => v = .pointer (some ⟨bb, 0, none⟩)
        | 3 => fun v _ => v = .pointer (some ⟨bb, 0, none⟩)
        | 4 => fun v _ => v = .slice A' gs.length cap
        | 5 => fun v _ => v = .agg #[.string x.f, .string x.t, .string x.d]
        | 6 => fun v W => ∃ nb, v = .slice (some ⟨nb, 0, none⟩) 1 1 ∧ Blk W nb 33 (([x].map gcs).flatten).toArray
        | 7 => fun v1 W => OwnG B W v1 (gs ++ [x]) ∧ ∀ k, v1.ownBlock = some k → v.ownBlock = some k ∨ wd.heap.size ≤ k
        | _ => fun _ _ => True : Nat → Value → World → Prop) (by kernel_rfl) (by kernel_rfl) (by kernel_rfl) (by kernel_rfl) (fun i hn hi o ho A0 W b hJ hμ hin hk => ?_) (fun l W3 hJ hl hΦ => ?_)
    · rcases (show i = 0 ∨ i = 1 ∨ i = 2 ∨ i = 3 ∨ i = 4 ∨ i = 5 ∨ i = 6 ∨ i = 7 by omega) with rfl | rfl | rfl | rfl | rfl | rfl | rfl | rfl
      · cases ho
        refine .newX (i := 0) hJ hst ?_
        exact .same (exec_move 0 (.pointer (some ⟨bb, 0, none⟩)) rfl (hk 0 (by kernel_rfl))) rfl
      · cases ho
        refine .newX (i := 1) hJ hst ?_
        exact .same (exec_move 0 (.pointer (some ⟨bb, 0, none⟩)) rfl (hk 0 (by kernel_rfl))) rfl
      · cases ho
        have h16 : A0.tmps[16]?.getD undef = .pointer (some ⟨bb, 0, none⟩) := hin 1 16 (by kernel_rfl)
        refine .newX (i := 2) hJ hst ?_
        exact .same (v := .pointer (some ⟨bb, 0, none⟩)) (by simp [go_sem, h16]) rfl
      · cases ho
        have h17 : A0.tmps[17]?.getD undef = .pointer (some ⟨bb, 0, none⟩) := hin 2 17 (by kernel_rfl)
        refine .newX (i := 3) hJ hst ?_
        exact .same (v := .pointer (some ⟨bb, 0, none⟩)) (by simp [go_sem, h17]) rfl
      · cases ho
        have h18 : A0.tmps[18]?.getD undef = .pointer (some ⟨bb, 0, none⟩) := hin 3 18 (by kernel_rfl)
        refine .newX (i := 4) hJ hst ?_
        have hc : W.cell? ⟨bb, 0, none⟩ = some (.slice A' gs.length cap) := hJ.1.cellS Hd0.out Hbd.out.ne
        exact .same (by simp [go_sem, h18, hc]) rfl
      · cases ho
        have h3 : A0.tmps[3]?.getD undef = .pointer (some ⟨w.heap.size, 0, none⟩) := hk 3 (by kernel_rfl)
        refine .newX (i := 5) hJ hst ?_
        exact .same (exec_load 3 _ rfl stGram ⟨w.heap.size, 0, none⟩ (gcs x) h3 rfl ((HBd.out.chg hJ.1 Hne.out).at_)) rfl
      · cases ho
        have h20 : A0.tmps[20]?.getD undef = .agg #[.string x.f, .string x.t, .string x.d] := hin 5 20 (by kernel_rfl)
        refine .newX (i := 6) hJ hst ?_
        refine .value (W' := W.alloc (.cells ((([x].map gcs).flatten).toArray) 33)) (v := .slice (some ⟨W.heap.size, 0, none⟩) 1 1) ?_ ⟨(Chg.refl _ _).alloc _, ⟨_, rfl, Blk.new _ _ _⟩⟩
        simp [go_sem, h20, gcs]
      · cases ho
        have h19 : A0.tmps[19]?.getD undef = .slice A' gs.length cap := hin 4 19 (by kernel_rfl)
        have h21 := hin 6 21 (by kernel_rfl)
        obtain ⟨nb, e21, hBn⟩ := h21
        have hNW := hJ.2 (hμ rfl)
        obtain ⟨v1, W', hrun, hown, hchg, hblk⟩ := append_own (Hbd.out.chg hNW (fun _ _ x => x)).own (Nat.le_trans hB (HNd.out.trans hNW (fun _ _ x => x)).size) ⟨nb, 0, none⟩ 1 1 [x] rfl (hBn.rowsAt (gcs_len [x])) (by omega) 41
        rw [Hv'.out, List.length_map] at hrun
        refine .value (exec_append _ _ _ _ rfl (by simpa [Act.eval] using h19) (by simpa [Act.eval] using e21) hrun) ⟨hJ.turn hchg (fun k _ h => h), ⟨hown, fun k hk => (hblk k hk).imp id fun h => Nat.le_trans hNW.size h⟩, fun k u hki hkx hka hkb h => ?_⟩
        match k with
        | 6 => exact absurd rfl hkx
        | 7 => exact absurd rfl hki
        | 0 | 1 | 2 | 3 | 4 | 5 => exact h
        | _ + 8 => trivial
    obtain ⟨x15, x16, x17, x18, x19, x20, x21, x22, rfl⟩ : ∃ x15 x16 x17 x18 x19 x20 x21 x22, l = [x15, x16, x17, x18, x19, x20, x21, x22] := by
      match l, hl with
      | [x15, x16, x17, x18, x19, x20, x21, x22], _ => exact ⟨_, _, _, _, _, _, _, _, rfl⟩
    obtain rfl : x15 = .pointer (some ⟨bb, 0, none⟩) := hΦ 0 (by decide) (by decide)
    obtain rfl : x16 = .pointer (some ⟨bb, 0, none⟩) := hΦ 1 (by decide) (by decide)
    obtain rfl : x17 = .pointer (some ⟨bb, 0, none⟩) := hΦ 2 (by decide) (by decide)
    obtain rfl : x18 = .pointer (some ⟨bb, 0, none⟩) := hΦ 3 (by decide) (by decide)
    obtain rfl : x19 = .slice A' gs.length cap := hΦ 4 (by decide) (by decide)
    obtain rfl : x20 = .agg #[.string x.f, .string x.t, .string x.d] := hΦ 5 (by decide) (by decide)
    have hx22 : (fun v1 W => OwnG B W v1 (gs ++ [x]) ∧ ∀ k, v1.ownBlock = some k → v.ownBlock = some k ∨ wd.heap.size ≤ k : Value → World → Prop) x22 W3 := hΦ 7 (by decide) (by decide)
    simp only [putsL, List.zip_cons_cons, List.zip_nil_left, List.zip_nil_right, List.zip, List.zipWith, Act.put, List.setIfInBounds_toArray, List.set_cons_succ, List.set_cons_zero]
    clear hΦ hl hst
    obtain ⟨hown, hblk⟩ := hx22
    obtain ⟨A2, n2, c2, hv2⟩ : ∃ A n c, x22 = .slice A n c := by
      obtain ⟨A, c, hv, _⟩ := hown.form
      exact ⟨A, _, c, hv⟩
    have hpost := BagTo.mk2 (r := .bool true) Hbd.out hJ.1 hown hblk (by have := Hf.out; simp; omega)
    have hcell : W3.cell? ⟨bb, 0, none⟩ = some v := by
      have := (Hbd.out.blk.chg hJ.1 Hbd.out.ne).cell 0
      exact this
    have hfro : W3.frozen? ⟨bb, 0, none⟩ = false := (Hbd.out.blk.chg hJ.1 Hbd.out.ne).frozen 0
    rw [hv2] at hpost
    rw [hv2]
    have Hpost := Lib.hid hpost
    clear hpost hown hblk hv2
    refine AtN.list 8 11 (by kernel_rfl) ?_
    change wpList _ _ _ [_, _, _] _ _
    go_wp2_with fail
    change AtN _ _ _ 11 _ _
    refine AtN.done rfl ?_
    go_wp2_with fail
    go_ret
    rw [Hfo.out, Hfl.out]
    exact BagTo.from HNd.out Hpost.out
  · have hd : decide (most ≤ (gs.length : Int)) = true := by simp; omega
    have Hfo := Lib.hid (show putOk gs most = false from decide_eq_false hf)
    have Hfl := Lib.hid (show putL gs most x = gs from if_neg hf)
    clear hf
    go_enter Try.func21, Try.ntmps21
    go_upto_region 1 with fail
    rw [← HW1.out]
    go_wp2_with fail
    go_quiet (fail)
    go_wp2_with fail
    go_ret
    rw [Hfo.out, Hfl.out]
    have hN2 := HN.out.drewN nq
    exact ⟨rfl, hN2.mono (fun _ _ x => x.elim), v, H1.out.chg ((Chg.refl w1 (fun _ => False)).drewN nq) (fun _ _ x => x), fun k hk => .inl hk⟩
end Go.Proofs.Ytenkobgeflckdaa
