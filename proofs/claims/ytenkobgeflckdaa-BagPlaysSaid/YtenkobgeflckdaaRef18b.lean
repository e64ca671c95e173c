/- The reference's bag: Take. -/
import Derived.Test.YtenkobgeflckdaaRef18a
import Derived.Deep.CutRange
set_option linter.unusedVariables false
set_option linter.unusedSimpArgs false
namespace Go.Proofs.Ytenkobgeflckdaa
open Go.RowKit Go.Shelf

theorem rtake_res (W : World) (tmps : Array Value) (N : Nat) (b : Bool) (x : Gm) (h4 : tmps.getD 4 undef = .pointer (some ⟨N, 0, none⟩)) (h5 : tmps.getD 5 undef = .bool b) (hc : At W ⟨N, 0, none⟩ (gcs x)) :
    (results Try.f23 tmps).run Try.prog W = .ok (.tuple #[gval x, .bool b]) W := by
  have hl := run_loadK (P := Try.prog) (w := W) stGram ⟨N, 0, none⟩ (gcs x) rfl hc
  rw [results_cell_tmp (p := 4) (u := 5) (ty := 33) (by rfl), h4, h5]
  have ha : (asAddr (.pointer (some ⟨N, 0, none⟩))).run Try.prog W = .ok ⟨N, 0, none⟩ W := rfl
  rw [ha]
  simp only [Result.andThen_ok, hl]
  rfl

set_option maxHeartbeats 2000000 in
set_option maxRecDepth 100000 in
theorem rtake_no (w : World) (B bb : Nat) (v : Value) (gs : List Gm) (most : Int) (h : BagAt 74 w B bb v gs most) (i : Int) (hi : okI gs.length i = false) :
    Calls Try.prog 23 #[.pointer (some ⟨bb, 0, none⟩), .int .i64 i] w (BagTo 74 w B bb v gs most (.tuple #[gval zeroG, .bool false])) := by
  have hN : New w (w.alloc (.cells #[.string ⟨#[]⟩, .string ⟨#[]⟩, .string ⟨#[]⟩] 33)) := (Chg.refl w _).alloc _
  have hb := h.chg hN (fun _ _ x => x)
  have hBz : Blk (w.alloc (.cells #[.string ⟨#[]⟩, .string ⟨#[]⟩, .string ⟨#[]⟩] 33)) w.heap.size 33 (gcs zeroG).toArray := Blk.new w _ _
  have hhas := rhas_any _ B bb v gs most hb i
  rw [hi] at hhas
  have Hhas := Lib.hid hhas
  have Hh := Lib.hid h
  have HB := Lib.hid hBz
  have HN := Lib.hid hN
  clear hhas hb hN h hi hBz
  go_enter Try.func23, Try.ntmps23
  go_wp2_with (go_at_call 48; refine Hhas.out.mono ?_; rintro e w' ⟨rfl, rfl⟩)
  refine bodyPost_ret (v := .tuple #[gval zeroG, .bool false]) (rtake_res _ _ w.heap.size false zeroG rfl rfl HB.out.at_) rfl ?_
  exact ⟨rfl, HN.out.mono fun _ _ x => x.elim, v, Hh.out.chg HN.out (fun _ _ x => x), fun k hk => .inl hk⟩

/-- The row has turned, and is stored back; a gram is laid into a block of the call's own. -/
theorem BagTo.box {t : TypeId} {w W : World} {B bb N : Nat} {v v' : Value} {gs gs' : List Gm} {most : Int} {r : Value} {x y : Gm} (h : BagAt t w B bb v gs most) (hc : Chg w W (fun k => v.ownBlock = some k)) (ho : Own W B 33 3 v' (gs'.map gcs)) (hN : w.heap.size ≤ N) (hx : Blk W N 33 (gcs y).toArray) (hnb : v'.ownBlock ≠ some N)
    (hb : ∀ k, v'.ownBlock = some k → v.ownBlock = some k ∨ w.heap.size ≤ k) (hl : (gs'.length : Int) ≤ most) :
    BagTo t w B bb v gs' most r (.returned r) ((((W.setCell ⟨bb, 0, none⟩ v').setCell ⟨N, 0, none⟩ (.string x.f)).setCell ⟨N, 1, none⟩ (.string x.t)).setCell ⟨N, 2, none⟩ (.string x.d)) ∧
    At ((((W.setCell ⟨bb, 0, none⟩ v').setCell ⟨N, 0, none⟩ (.string x.f)).setCell ⟨N, 1, none⟩ (.string x.t)).setCell ⟨N, 2, none⟩ (.string x.d)) ⟨N, 0, none⟩ (gcs x) := by
  have hb1 : Blk W bb t #[v, .int .i64 most] := h.blk.chg hc h.ne
  have hne := own_ne_blk ho hb1 h.t_ne
  have hbn : bb ≠ N := by have := h.blk.lt; omega
  refine ⟨⟨rfl, ((((hc.mono (T' := Terr bb v) fun k _ x => Or.inr x).setCell _ _ (fun _ => .inl rfl)).setCell _ _ (fun h => absurd hN (Nat.not_le_of_lt h))).setCell _ _ (fun h => absurd hN (Nat.not_le_of_lt h))).setCell _ _ (fun h => absurd hN (Nat.not_le_of_lt h)), v', ⟨?_, h.lo, ?_, h.t_ne, hl, h.m200⟩, fun k hk => ?_⟩, ?_⟩
  · have := (((hb1.setCell 0 v').far (p := ⟨N, 0, none⟩) hbn (.string x.f)).far (p := ⟨N, 1, none⟩) hbn (.string x.t)).far (p := ⟨N, 2, none⟩) hbn (.string x.d)
    simpa using this
  · exact ho.chg (T := fun k => k = bb ∨ k = N) (((((Chg.refl W _).setCell _ _ (fun _ => .inl rfl)).setCell _ _ (fun _ => .inr rfl)).setCell _ _ (fun _ => .inr rfl)).setCell _ _ (fun _ => .inr rfl)) (fun g hg => by
      rintro (e | e)
      · exact hne (by rw [hg, e])
      · exact hnb (by rw [hg, e]))
  · rcases hk with hk | hk
    · exact .inl (.inl hk)
    · exact (hb k hk).imp .inr id
  · have hq := (((hx.far (p := ⟨bb, 0, none⟩) (Ne.symm hbn) v').setCell 0 (.string x.f)).setCell 1 (.string x.t)).setCell 2 (.string x.d)
    exact Blk.at_ (cs := gcs x) (by simpa [gcs] using hq)

set_option maxHeartbeats 4000000 in
set_option maxRecDepth 100000 in
theorem rtake_yes (w : World) (B bb : Nat) (v : Value) (gs : List Gm) (most : Int) (h : BagAt 74 w B bb v gs most) (hB : B ≤ w.heap.size) (i : Nat) (x : Gm) (hx : gs[i]? = some x) :
    Calls Try.prog 23 #[.pointer (some ⟨bb, 0, none⟩), .int .i64 i] w (BagTo 74 w B bb v (gs.eraseIdx i) most (.tuple #[gval x, .bool true])) := by
  obtain ⟨hlt, _⟩ := List.getElem?_eq_some_iff.1 hx
  obtain ⟨A', cap, hv, hlc, _⟩ := h.own.form
  obtain ⟨a0, hA, hrows⟩ := (h.own.rows hv).2 (by rw [List.length_map]; omega)
  have hlim := h.lim
  have hbl := h.blk.lt
  have hal := (h.own.lt (g := a0.block) (by rw [hv, hA]; rfl)).2
  rw [hA, List.length_map] at hv
  rw [List.length_map] at hlc
  obtain ⟨n, hn⟩ : ∃ n, gs.length = n := ⟨_, rfl⟩
  obtain ⟨wz, hwz⟩ : ∃ wz, wz = w.alloc (.cells #[.string ⟨#[]⟩, .string ⟨#[]⟩, .string ⟨#[]⟩] 33) := ⟨_, rfl⟩
  have hNz : New w wz := by rw [hwz]; exact (Chg.refl w _).alloc _
  have hBz : Blk wz w.heap.size 33 (gcs zeroG).toArray := by rw [hwz]; exact Blk.new w _ _
  have hz := h.chg hNz (fun _ _ x => x)
  have hhas := rhas_any _ B bb v gs most hz i
  rw [show okI gs.length i = true by simp [okI]; omega] at hhas
  obtain ⟨wx, hwx⟩ : ∃ wx, wx = wz.alloc (.cells #[.string x.f, .string x.t, .string x.d] 33) := ⟨_, rfl⟩
  have hNx : New wz wx := by rw [hwx]; exact (Chg.refl wz _).alloc _
  have hBx : Blk wx wz.heap.size 33 (gcs x).toArray := by rw [hwx]; exact Blk.new wz _ _
  have hzs : wz.heap.size = w.heap.size + 1 := by rw [hwz]; simp
  rw [hzs] at hBx
  have hat := ((hrows i (gcs x) (by rw [List.getElem?_map, hx]; rfl)).2).chg hNz id
  change At _ _ [.string x.f, .string x.t, .string x.d] at hat
  have c0 := hz.blk.cell 0
  simp only [List.getElem?_toArray, List.getElem?_cons_zero, List.getElem?_cons_succ] at c0
  rw [hv] at c0
  have hw1 := (hNz.trans hNx (fun _ _ x => x)).drew
  have h1 := h.chg hw1 (fun _ _ x => x)
  have hz1 := hBz.chg (hNx.drew) id
  have hx1 := hBx.chg ((Chg.refl wx (fun _ => False)).drew) id
  have hr1 := hrows.chg hw1 id
  rw [hn] at hlc hlt hlim hv c0
  have k0 : (0 : Int) ≤ (i : Int) := by omega
  have k1 : (i : Int) < (n : Int) := by omega
  have Hn := Lib.hid hn
  have Hhas := Lib.hid hhas
  have Hat := Lib.hid hat
  have Hw1 := Lib.hid hw1
  have H1 := Lib.hid h1
  have HZ := Lib.hid hz1
  have HX := Lib.hid hx1
  have HR := Lib.hid hr1
  have HWz := Lib.hid hwz
  have HWx := Lib.hid hwx
  have Hv := Lib.hid hv
  have Hh := Lib.hid h
  have hzl : bb < wz.heap.size := by omega
  rw [hwz] at hzl
  rw [hwz] at c0
  clear hn hhas hat hw1 h1 hz1 hx1 hr1 hNz hNx hBz hBx hz h hrows hx hv hA hwz hwx hzs
  go_enter Try.func23, Try.ntmps23
  go_upto_region 5 with (first | (go_at_call 48; rw [← HWz.out]; refine Hhas.out.mono ?_; rintro e w' ⟨rfl, rfl⟩; rw [HWz.out]) | ((with_reducible refine wpl_load rfl (.tmp 19) 33 rfl stGram (a0.add (i * 3)) [.string x.f, .string x.t, .string x.d] ?_ rfl (by rw [← HWz.out]; exact Hat.out) ?_); exact rfl))
  rw [← HWz.out, ← HWx.out]
  refine wp_region_at (by kernel_rfl) ?_
  have hr0 : SrcAt wx.drew (some a0) 3 (gs.map gcs) := fun _ => ⟨a0, rfl, HR.out⟩
  obtain ⟨A2, hA2⟩ : ∃ A2, (if cap = i + 1 then some a0 else some (a0.add ((i + 1) * 3))) = A2 := ⟨_, rfl⟩
  have hs2 : SrcAt wx.drew A2 3 ((gs.drop (i + 1)).map gcs) := by
    rw [← hA2, List.map_drop]
    exact hr0.drop (by rw [List.length_map, Hn.out]; omega) (by rw [List.length_map, Hn.out]; exact hlc)
  have hs1 : SrcAt wx.drew (some a0) 3 ((gs.take i).map gcs) := by
    rw [List.map_take]
    exact hr0.take i
  have hcd : wx.drew.cell? ⟨bb, 0, none⟩ = some (.slice (some a0) n cap) := by
    have := H1.out.blk.cell 0
    rw [Hv.out] at this
    exact this
  have HS1 := Lib.hid hs1
  have HS2 := Lib.hid hs2
  have HCd := Lib.hid hcd
  clear hs1 hs2 hr0 HR hcd
  generalize wx.drew = wd at Hw1 H1 HZ HX HS1 HS2 HCd ⊢
  have k2 : (0 : Int) ≤ (i : Int) + 1 := by omega
  have k3 : (i : Int) + 1 ≤ (n : Int) := by omega
  have k4 : ((i : Int) + 1).toNat = i + 1 := by omega
  have k5 : IntKind.i64.wrap ((i : Int) + 1) = (i : Int) + 1 := by rw [IntKind.wrap_i64]; omega
  have k6 : i ≤ cap := by omega
  have k7 : i + 1 ≤ n := by omega
  have k8 : (i : Int) ≤ (cap : Int) := by omega
  have k9 : (n : Int) ≤ (cap : Int) := by omega
  have HB0 := Lib.hid (Nat.le_trans hB Hw1.out.size)
  have hst : ∀ jj uu w1 w2, New w1 w2 → (fun
      | 0 => fun v _ => v = .pointer (some ⟨bb, 0, none⟩)
      | 1 => fun v _ => v = .pointer (some ⟨bb, 0, none⟩)
      | 2 => fun v _ => v = .pointer (some ⟨bb, 0, none⟩)
      | 3 => fun v _ => v = .pointer (some ⟨bb, 0, none⟩)
      | 4 => fun v _ => v = .slice (some a0) n cap
      | 5 => fun v _ => v = .int .i64 i
      | 6 => fun v _ => v = .slice (some a0) i cap
      | 7 => fun u W => OwnG B W u (gs.take i) ∧ ∀ q, u.ownBlock = some q → wd.heap.size ≤ q
      | 8 => fun v _ => v = .pointer (some ⟨bb, 0, none⟩)
      | 9 => fun v _ => v = .pointer (some ⟨bb, 0, none⟩)
      | 10 => fun v _ => v = .pointer (some ⟨bb, 0, none⟩)
      | 11 => fun v _ => v = .slice (some a0) n cap
      | 12 => fun v _ => v = .int .i64 i
      | 13 => fun v _ => v = .int .i64 ((i : Int) + 1)
      | 14 => fun v _ => v = .slice A2 (n - (i + 1)) (cap - (i + 1))
      | 15 => fun u W => OwnG B W u (gs.eraseIdx i) ∧ ∀ q, u.ownBlock = some q → wd.heap.size ≤ q
      | _ => fun _ _ => True : Nat → Value → World → Prop) jj uu w1 → (fun
      | 0 => fun v _ => v = .pointer (some ⟨bb, 0, none⟩)
      | 1 => fun v _ => v = .pointer (some ⟨bb, 0, none⟩)
      | 2 => fun v _ => v = .pointer (some ⟨bb, 0, none⟩)
      | 3 => fun v _ => v = .pointer (some ⟨bb, 0, none⟩)
      | 4 => fun v _ => v = .slice (some a0) n cap
      | 5 => fun v _ => v = .int .i64 i
      | 6 => fun v _ => v = .slice (some a0) i cap
      | 7 => fun u W => OwnG B W u (gs.take i) ∧ ∀ q, u.ownBlock = some q → wd.heap.size ≤ q
      | 8 => fun v _ => v = .pointer (some ⟨bb, 0, none⟩)
      | 9 => fun v _ => v = .pointer (some ⟨bb, 0, none⟩)
      | 10 => fun v _ => v = .pointer (some ⟨bb, 0, none⟩)
      | 11 => fun v _ => v = .slice (some a0) n cap
      | 12 => fun v _ => v = .int .i64 i
      | 13 => fun v _ => v = .int .i64 ((i : Int) + 1)
      | 14 => fun v _ => v = .slice A2 (n - (i + 1)) (cap - (i + 1))
      | 15 => fun u W => OwnG B W u (gs.eraseIdx i) ∧ ∀ q, u.ownBlock = some q → wd.heap.size ≤ q
      | _ => fun _ _ => True : Nat → Value → World → Prop) jj uu w2 := by
    intro j uu w1 w2 hc h
    match j with
    | 7 => exact ⟨h.1.chg hc (fun _ _ x => x), h.2⟩
    | 15 => exact ⟨h.1.chg hc (fun _ _ x => x), h.2⟩
    | 0 | 1 | 2 | 3 | 4 | 5 | 6 | 8 | 9 | 10 | 11 | 12 | 13 | 14 => exact h
    | _ + 16 => trivial
  refine AtN.segX2 0 16 16 [21, 22, 23, 24, 25, 26, 27, 28, 29, 30, 31, 32, 33, 34, 35, 36] (fun _ => False) (fun
      | 7 => 15
      | _ => 999) (fun
      | 0 => fun v _ => v = .pointer (some ⟨bb, 0, none⟩)
      | 1 => fun v _ => v = .pointer (some ⟨bb, 0, none⟩)
      | 2 => fun v _ => v = .pointer (some ⟨bb, 0, none⟩)
      | 3 => fun v _ => v = .pointer (some ⟨bb, 0, none⟩)
      | 4 => fun v _ => v = .slice (some a0) n cap
      | 5 => fun v _ => v = .int .i64 i
      | 6 => fun v _ => v = .slice (some a0) i cap
      | 7 => fun u W => OwnG B W u (gs.take i) ∧ ∀ q, u.ownBlock = some q → wd.heap.size ≤ q
      | 8 => fun v _ => v = .pointer (some ⟨bb, 0, none⟩)
      | 9 => fun v _ => v = .pointer (some ⟨bb, 0, none⟩)
      | 10 => fun v _ => v = .pointer (some ⟨bb, 0, none⟩)
      | 11 => fun v _ => v = .slice (some a0) n cap
      | 12 => fun v _ => v = .int .i64 i
      | 13 => fun v _ => v = .int .i64 ((i : Int) + 1)
      | 14 => fun v _ => v = .slice A2 (n - (i + 1)) (cap - (i + 1))
      | 15 => fun u W => OwnG B W u (gs.eraseIdx i) ∧ ∀ q, u.ownBlock = some q → wd.heap.size ≤ q
      | _ => fun _ _ => True : Nat → Value → World → Prop) (by kernel_rfl) (by kernel_rfl) (by kernel_rfl) (by kernel_rfl) (fun i hn hi o ho A0 W b hJ hμ hin hk => ?_) (fun l W3 hJ hl hΦ => ?_)
  · rcases (show i = 0 ∨ i = 1 ∨ i = 2 ∨ i = 3 ∨ i = 4 ∨ i = 5 ∨ i = 6 ∨ i = 7 ∨ i = 8 ∨ i = 9 ∨ i = 10 ∨ i = 11 ∨ i = 12 ∨ i = 13 ∨ i = 14 ∨ i = 15 by omega) with rfl | rfl | rfl | rfl | rfl | rfl | rfl | rfl | rfl | rfl | rfl | rfl | rfl | rfl | rfl | rfl
    · cases ho
      refine .newX (i := 0) hJ hst ?_
      exact .same (exec_move 0 (.pointer (some ⟨bb, 0, none⟩)) rfl (hk 0 (by kernel_rfl))) rfl
    · cases ho
      refine .newX (i := 1) hJ hst ?_
      exact .same (exec_move 0 (.pointer (some ⟨bb, 0, none⟩)) rfl (hk 0 (by kernel_rfl))) rfl
    · cases ho
      have h22 : A0.tmps[22]?.getD undef = .pointer (some ⟨bb, 0, none⟩) := hin 1 22 (by kernel_rfl)
      refine .newX (i := 2) hJ hst ?_
      exact .same (v := .pointer (some ⟨bb, 0, none⟩)) (by simp [go_sem, h22]) rfl
    · cases ho
      have h23 : A0.tmps[23]?.getD undef = .pointer (some ⟨bb, 0, none⟩) := hin 2 23 (by kernel_rfl)
      refine .newX (i := 3) hJ hst ?_
      exact .same (v := .pointer (some ⟨bb, 0, none⟩)) (by simp [go_sem, h23]) rfl
    · cases ho
      have h24 : A0.tmps[24]?.getD undef = .pointer (some ⟨bb, 0, none⟩) := hin 3 24 (by kernel_rfl)
      refine .newX (i := 4) hJ hst ?_
      have hc : W.cell? ⟨bb, 0, none⟩ = some (.slice (some a0) n cap) := hJ.1.cellS HCd.out id
      exact .same (by simp [go_sem, h24, hc]) rfl
    · cases ho
      refine .newX (i := 5) hJ hst ?_
      exact .same (exec_move 1 (.int .i64 i) rfl (hk 1 (by kernel_rfl))) rfl
    · cases ho
      have h25 : A0.tmps[25]?.getD undef = .slice (some a0) n cap := hin 4 25 (by kernel_rfl)
      have h26 : A0.tmps[26]?.getD undef = .int .i64 i := hin 5 26 (by kernel_rfl)
      refine .newX (i := 6) hJ hst ?_
      exact .same (v := .slice (some a0) i cap) (by simp [go_sem, h25, h26, k0, k8, k6]) rfl
    · cases ho
      have h27 : A0.tmps[27]?.getD undef = .slice (some a0) i cap := hin 6 27 (by kernel_rfl)
      refine .newX (i := 7) hJ hst ?_
      obtain ⟨v1, W', hrun, hown, hchg, hblk⟩ := elGram.appendS (Own.nil W B 33 3) (Nat.le_trans HB0.out hJ.1.size) (some a0) i cap ((gs.take i).map gcs) (by rw [List.length_map, List.length_take, Hn.out]; omega) (gcs_len _) (gcs_one _) (HS1.out.chg hJ.1 (fun _ _ x => x)) (by simp; omega) (by simp; unfold maxLen; omega) 41
      refine .value (exec_append (.const (.slice none 0 0)) _ _ _ rfl rfl (by simpa [Act.eval] using h27) hrun) ⟨hchg.mono (fun k _ h => by cases h), hown, fun k hk => (hblk k hk).elim (fun h => by cases h) (fun h => Nat.le_trans hJ.1.size h)⟩
    · cases ho
      refine .newX (i := 8) hJ hst ?_
      exact .same (exec_move 0 (.pointer (some ⟨bb, 0, none⟩)) rfl (hk 0 (by kernel_rfl))) rfl
    · cases ho
      have h29 : A0.tmps[29]?.getD undef = .pointer (some ⟨bb, 0, none⟩) := hin 8 29 (by kernel_rfl)
      refine .newX (i := 9) hJ hst ?_
      exact .same (v := .pointer (some ⟨bb, 0, none⟩)) (by simp [go_sem, h29]) rfl
    · cases ho
      have h30 : A0.tmps[30]?.getD undef = .pointer (some ⟨bb, 0, none⟩) := hin 9 30 (by kernel_rfl)
      refine .newX (i := 10) hJ hst ?_
      exact .same (v := .pointer (some ⟨bb, 0, none⟩)) (by simp [go_sem, h30]) rfl
    · cases ho
      have h31 : A0.tmps[31]?.getD undef = .pointer (some ⟨bb, 0, none⟩) := hin 10 31 (by kernel_rfl)
      refine .newX (i := 11) hJ hst ?_
      have hc : W.cell? ⟨bb, 0, none⟩ = some (.slice (some a0) n cap) := hJ.1.cellS HCd.out id
      exact .same (by simp [go_sem, h31, hc]) rfl
    · cases ho
      refine .newX (i := 12) hJ hst ?_
      exact .same (exec_move 1 (.int .i64 i) rfl (hk 1 (by kernel_rfl))) rfl
    · cases ho
      have h33 : A0.tmps[33]?.getD undef = .int .i64 i := hin 12 33 (by kernel_rfl)
      refine .newX (i := 13) hJ hst ?_
      exact .same (v := .int .i64 ((i : Int) + 1)) (by simp [go_sem, h33, k5]) rfl
    · cases ho
      have h32 : A0.tmps[32]?.getD undef = .slice (some a0) n cap := hin 11 32 (by kernel_rfl)
      have h34 : A0.tmps[34]?.getD undef = .int .i64 ((i : Int) + 1) := hin 13 34 (by kernel_rfl)
      refine .newX (i := 14) hJ hst ?_
      exact .same (v := .slice A2 (n - (i + 1)) (cap - (i + 1))) (by simp [go_sem, h32, h34, k2, k3, k4, k7, hA2]) rfl
    · cases ho
      have h28 := hin 7 28 (by kernel_rfl)
      have h35 : A0.tmps[35]?.getD undef = .slice A2 (n - (i + 1)) (cap - (i + 1)) := hin 14 35 (by kernel_rfl)
      obtain ⟨hown0, hfr⟩ := h28
      obtain ⟨v1, W', hrun, hown, hchg, hblk⟩ := elGram.appendS hown0 (Nat.le_trans HB0.out hJ.1.size) A2 (n - (i + 1)) (cap - (i + 1)) ((gs.drop (i + 1)).map gcs) (by rw [List.length_map, List.length_drop, Hn.out]) (gcs_len _) (gcs_one _) (HS2.out.chg hJ.1 (fun _ _ x => x)) (by simp; omega) (by simp; unfold maxLen; omega) 41
      rw [← List.map_append, ← List.eraseIdx_eq_take_drop_succ] at hown
      refine .value (exec_append _ _ _ _ rfl (by simp [Act.eval]) (by simpa [Act.eval] using h35) hrun) ⟨hJ.fresh hchg (fun k hk => hfr k hk), ⟨hown, fun k hk => (hblk k hk).elim (fun h => hfr k h) (fun h => Nat.le_trans hJ.1.size h)⟩, fun k u hki hkx hka hkb h => ?_⟩
      match k with
      | 7 => exact absurd rfl hkx
      | 15 => exact absurd rfl hki
      | 0 | 1 | 2 | 3 | 4 | 5 | 6 | 8 | 9 | 10 | 11 | 12 | 13 | 14 => exact h
      | _ + 16 => trivial
  obtain ⟨x21, x22, x23, x24, x25, x26, x27, x28, x29, x30, x31, x32, x33, x34, x35, x36, rfl⟩ : ∃ x21 x22 x23 x24 x25 x26 x27 x28 x29 x30 x31 x32 x33 x34 x35 x36, l = [x21, x22, x23, x24, x25, x26, x27, x28, x29, x30, x31, x32, x33, x34, x35, x36] := by
    match l, hl with
    | [x21, x22, x23, x24, x25, x26, x27, x28, x29, x30, x31, x32, x33, x34, x35, x36], _ => exact ⟨_, _, _, _, _, _, _, _, _, _, _, _, _, _, _, _, rfl⟩
  obtain rfl : x21 = .pointer (some ⟨bb, 0, none⟩) := hΦ 0 (by decide) (by decide)
  obtain rfl : x22 = .pointer (some ⟨bb, 0, none⟩) := hΦ 1 (by decide) (by decide)
  obtain rfl : x23 = .pointer (some ⟨bb, 0, none⟩) := hΦ 2 (by decide) (by decide)
  obtain rfl : x24 = .pointer (some ⟨bb, 0, none⟩) := hΦ 3 (by decide) (by decide)
  obtain rfl : x25 = .slice (some a0) n cap := hΦ 4 (by decide) (by decide)
  obtain rfl : x26 = .int .i64 i := hΦ 5 (by decide) (by decide)
  obtain rfl : x27 = .slice (some a0) i cap := hΦ 6 (by decide) (by decide)
  obtain rfl : x29 = .pointer (some ⟨bb, 0, none⟩) := hΦ 8 (by decide) (by decide)
  obtain rfl : x30 = .pointer (some ⟨bb, 0, none⟩) := hΦ 9 (by decide) (by decide)
  obtain rfl : x31 = .pointer (some ⟨bb, 0, none⟩) := hΦ 10 (by decide) (by decide)
  obtain rfl : x32 = .slice (some a0) n cap := hΦ 11 (by decide) (by decide)
  obtain rfl : x33 = .int .i64 i := hΦ 12 (by decide) (by decide)
  obtain rfl : x34 = .int .i64 ((i : Int) + 1) := hΦ 13 (by decide) (by decide)
  obtain rfl : x35 = .slice A2 (n - (i + 1)) (cap - (i + 1)) := hΦ 14 (by decide) (by decide)
  have hx36 : (fun u W => OwnG B W u (gs.eraseIdx i) ∧ ∀ q, u.ownBlock = some q → wd.heap.size ≤ q : Value → World → Prop) x36 W3 := hΦ 15 (by decide) (by decide)
  simp only [putsL, List.zip_cons_cons, List.zip_nil_left, List.zip_nil_right, List.zip, List.zipWith, Act.put, List.setIfInBounds_toArray, List.set_cons_succ, List.set_cons_zero]
  clear hΦ hl hst
  obtain ⟨hown, hfr⟩ := hx36
  obtain ⟨A3, n3, c3, hv3⟩ : ∃ A n c, x36 = .slice A n c := by
    obtain ⟨A, c, hv, _⟩ := hown.form
    exact ⟨A, _, c, hv⟩
  have hNall : New w W3 := Hw1.out.trans hJ.1 (fun _ _ x => x)
  have hZ3 := HZ.out.chg hJ.1 id
  have hX3 := HX.out.chg hJ.1 id
  have hbox := BagTo.box (x := x) (y := zeroG) (N := w.heap.size) (r := .tuple #[gval x, .bool true]) Hh.out (hNall.mono fun _ _ x => x.elim) hown (Nat.le_refl _) hZ3 (fun e => by have := hfr _ e; have := HZ.out.lt; omega) (fun k hk => .inr (Nat.le_trans Hw1.out.size (hfr k hk))) (by have := Hh.out.le; rw [length_eraseIdx' (by rw [Hn.out]; exact hlt)]; omega)
  have hB3 := Hh.out.blk.chg hNall id
  have hXs := (hX3.far (p := ⟨bb, 0, none⟩) (by have := Hh.out.blk.lt; simp; omega) x36).at_
  change At _ _ [.string x.f, .string x.t, .string x.d] at hXs
  rw [hv3] at hbox hXs ⊢
  obtain ⟨hpost, hres⟩ := hbox
  have d0 : W3.cell? ⟨bb, 0, none⟩ = some v := hB3.cell 0
  have d1 := hB3.frozen 0
  have z0 : W3.cell? ⟨w.heap.size, 0, none⟩ = some (.string ⟨#[]⟩) := hZ3.cell 0
  have z1 : W3.cell? ⟨w.heap.size, 1, none⟩ = some (.string ⟨#[]⟩) := hZ3.cell 1
  have z2 : W3.cell? ⟨w.heap.size, 2, none⟩ = some (.string ⟨#[]⟩) := hZ3.cell 2
  have y0 := hZ3.frozen 0
  have y1 := hZ3.frozen 1
  have y2 := hZ3.frozen 2
  have HXs := Lib.hid hXs
  have Hpost := Lib.hid hpost
  have Hres := Lib.hid hres
  clear hpost hres hXs hB3 hX3 hZ3 hNall hown hfr hv3 hJ HCd
  refine AtN.list 16 19 (by kernel_rfl) ?_
  change wpList _ _ _ [_, _, _] _ _
  go_wp2_with fail
  change AtN _ _ _ 19 _ _
  refine AtN.done rfl ?_
  go_wp2_with ((with_reducible refine wpl_load rfl (.tmp 7) 33 rfl stGram ⟨w.heap.size + 1, 0, none⟩ [.string x.f, .string x.t, .string x.d] ?_ rfl HXs.out ?_); exact rfl)
  refine bodyPost_ret (v := .tuple #[gval x, .bool true]) (rtake_res _ _ w.heap.size true x rfl rfl Hres.out) rfl ?_
  exact Hpost.out
end Go.Proofs.Ytenkobgeflckdaa
