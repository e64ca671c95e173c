/- The reference's bag: Again, Move. -/
import Derived.Test.YtenkobgeflckdaaRef18b
import Derived.Deep.CutRange
set_option linter.unusedVariables false
set_option linter.unusedSimpArgs false
namespace Go.Proofs.Ytenkobgeflckdaa
open Go.RowKit Go.Shelf

set_option maxHeartbeats 2000000 in
set_option maxRecDepth 100000 in
theorem ragain_no (w : World) (B bb : Nat) (v : Value) (gs : List Gm) (most : Int) (h : BagAt 74 w B bb v gs most) (i : Int) (hi : okI gs.length i = false) :
    Calls Try.prog 25 #[.pointer (some ⟨bb, 0, none⟩), .int .i64 i] w (BagTo 74 w B bb v gs most (.bool false)) := by
  have hhas := rhas_any _ B bb v gs most h i
  rw [hi] at hhas
  have Hhas := Lib.hid hhas
  have Hh := Lib.hid h
  clear hhas h hi
  go_enter Try.func25, Try.ntmps25
  go_wp2_with (go_at_call 48; refine Hhas.out.mono ?_; rintro e w' ⟨rfl, rfl⟩)
  go_ret
  exact ⟨rfl, Chg.refl _ _, v, Hh.out, fun k hk => .inl hk⟩

set_option maxHeartbeats 2000000 in
set_option maxRecDepth 100000 in
theorem ragain_yes (w : World) (B bb : Nat) (v : Value) (gs : List Gm) (most : Int) (h : BagAt 74 w B bb v gs most) (hB : B ≤ w.heap.size) (i : Nat) (x : Gm) (hx : gs[i]? = some x) :
    Calls Try.prog 25 #[.pointer (some ⟨bb, 0, none⟩), .int .i64 i] w (BagTo 74 w B bb v (putL gs most x) most (.bool (putOk gs most))) := by
  obtain ⟨hlt, _⟩ := List.getElem?_eq_some_iff.1 hx
  have hhas := rhas_any _ B bb v gs most h i
  rw [show okI gs.length i = true by simp [okI]; omega] at hhas
  obtain ⟨A', cap, hv, hlc, _⟩ := h.own.form
  obtain ⟨a0, hA, hrows⟩ := (h.own.rows hv).2 (by rw [List.length_map]; omega)
  have hat := (hrows i (gcs x) (by rw [List.getElem?_map, hx]; rfl)).2
  change At _ _ [.string x.f, .string x.t, .string x.d] at hat
  have Hat := Lib.hid hat
  have c0 := h.blk.cell 0
  have hbl := h.blk.lt
  have hlim := h.lim
  simp only [List.getElem?_toArray, List.getElem?_cons_zero, List.getElem?_cons_succ] at c0
  rw [hv, hA] at c0
  simp only [List.length_map] at c0
  have hput := rput_any _ B bb v gs most h h.m200 x hB
  have Hput := Lib.hid hput
  have Hhas := Lib.hid hhas
  clear hhas h hat hrows hx hv hlc hput hA
  go_enter Try.func25, Try.ntmps25
  go_wp2_with (first | (go_at_call 48; refine Hhas.out.mono ?_; rintro e w' ⟨rfl, rfl⟩) | ((with_reducible refine wpl_loadg ?_ (.tmp 17) 33 rfl stGram (a0.add (i * 3)) [.string x.f, .string x.t, .string x.d] ?_ rfl Hat.out ?_); exact rfl; exact rfl) | (go_at_call 21; refine Hput.out.mono ?_; rintro e w' hp; have Hp := Lib.hid hp; obtain ⟨rfl, _⟩ := hp))
  all_goals (go_ret; exact Hp.out)

set_option maxHeartbeats 2000000 in
set_option maxRecDepth 100000 in
theorem rmove_no (w : World) (B bb : Nat) (v : Value) (gs : List Gm) (most : Int) (h : BagAt 74 w B bb v gs most) (i k : Int) (hi : (okI gs.length i && okI gs.length k) = false) :
    Calls Try.prog 27 #[.pointer (some ⟨bb, 0, none⟩), .int .i64 i, .int .i64 k] w (BagTo 74 w B bb v gs most (.bool false)) := by
  have h1 := rhas_any _ B bb v gs most h i
  have h2 := rhas_any _ B bb v gs most h k
  have Hh := Lib.hid h
  obtain ⟨p, hp⟩ : ∃ p, okI gs.length i = p := ⟨_, rfl⟩
  obtain ⟨q, hq⟩ : ∃ q, okI gs.length k = q := ⟨_, rfl⟩
  rw [hp] at h1 hi
  rw [hq] at h2 hi
  have H1 := Lib.hid h1
  have H2 := Lib.hid h2
  clear h1 h2 h hp hq
  cases p <;> cases q <;> first | (simp at hi; done) | skip
  all_goals clear hi
  all_goals (go_enter Try.func27, Try.ntmps27)
  all_goals (go_wp2_with (go_at_call 48; first | (with_reducible refine H1.out.mono ?_; rintro e w' ⟨rfl, rfl⟩) | (with_reducible refine H2.out.mono ?_; rintro e w' ⟨rfl, rfl⟩)))
  all_goals go_ret
  all_goals exact ⟨rfl, Chg.refl _ _, v, Hh.out, fun k hk => .inl hk⟩

set_option maxHeartbeats 4000000 in
set_option maxRecDepth 100000 in
theorem rmove_yes (w : World) (B bb : Nat) (v : Value) (gs : List Gm) (most : Int) (h : BagAt 74 w B bb v gs most) (hB : B ≤ w.heap.size) (i k : Nat) (x : Gm) (hx : gs[i]? = some x) (hk : k < gs.length) :
    Calls Try.prog 27 #[.pointer (some ⟨bb, 0, none⟩), .int .i64 i, .int .i64 k] w (BagTo 74 w B bb v ((gs.eraseIdx i).take k ++ x :: (gs.eraseIdx i).drop k) most (.bool true)) := by
  obtain ⟨hlt, _⟩ := List.getElem?_eq_some_iff.1 hx
  have h1 := rhas_any _ B bb v gs most h i
  have h2 := rhas_any _ B bb v gs most h k
  rw [show okI gs.length i = true by simp [okI]; omega] at h1
  rw [show okI gs.length k = true by simp [okI]; omega] at h2
  have htake := rtake_yes _ B bb v gs most h hB i x hx
  unfold gval at htake
  have hle := h.le
  have hlim := h.lim
  have hel : (gs.eraseIdx i).length = gs.length - 1 := length_eraseIdx' hlt
  obtain ⟨es, hes⟩ : ∃ es, es = gs.eraseIdx i := ⟨_, rfl⟩
  rw [← hes] at htake hel ⊢
  have H1 := Lib.hid h1
  have H2 := Lib.hid h2
  have Htake := Lib.hid htake
  clear h1 h2 htake hx hes
  go_enter Try.func27, Try.ntmps27
  go_upto_region 5 with (go_at_call 48; first | (with_reducible refine H1.out.mono ?_; rintro e w' ⟨rfl, rfl⟩) | (with_reducible refine H2.out.mono ?_; rintro e w' ⟨rfl, rfl⟩))
  go_wp2_with fail
  refine Htake.out.mono ?_
  rintro e w2 hp
  obtain ⟨rfl, hc2, v2, hb2, hk2⟩ := hp
  obtain ⟨w3, hw3⟩ : ∃ w3, w3 = w2.alloc (.cells #[.string x.f, .string x.t, .string x.d] 33) := ⟨_, rfl⟩
  have hN3 : New w2 w3 := by rw [hw3]; exact (Chg.refl _ _).alloc _
  have hB3 : Blk w3 w2.heap.size 33 (gcs x).toArray := by rw [hw3]; exact Blk.new w2 _ _
  obtain ⟨A', cap, hv, hlc, _⟩ := hb2.own.form
  have hrows := (hb2.own.rows hv).2
  rw [List.length_map] at hv hlc
  have HW3 := Lib.hid hw3
  have HC2 := Lib.hid hc2
  have HK2 := Lib.hid hk2
  have HN3 := Lib.hid hN3.drew
  have HB2 := Lib.hid (hb2.chg hN3.drew (fun _ _ x => x))
  have HB3 := Lib.hid (hB3.chg ((Chg.refl w3 (fun _ => False)).drew) id)
  have HV := Lib.hid hv
  have HS := Lib.hid (show SrcAt w3.drew A' 3 (es.map gcs) from SrcAt.chg (W := w2) (fun hp => hrows hp) hN3.drew (fun _ _ x => x))
  obtain ⟨m, hm⟩ : ∃ m, es.length = m := ⟨_, rfl⟩
  rw [hm] at hel hlc HV
  have Hm := Lib.hid hm
  have HB0 := Lib.hid (Nat.le_trans hB (Nat.le_trans hc2.size HN3.out.size))
  have hkm : k ≤ m := by omega
  clear hw3 hN3 hB3 hv hrows hm hb2 hk2 hc2 Htake H1 H2
  go_upto_region 6 with fail
  rw [← HW3.out]
  refine wp_region_at (by kernel_rfl) ?_
  obtain ⟨A2, hA2⟩ : ∃ A2, (if cap = k then A' else A'.map (fun a => a.add (k * 3))) = A2 := ⟨_, rfl⟩
  have HS2 := Lib.hid (show SrcAt w3.drew A2 3 ((es.drop k).map gcs) by
    rw [← hA2, List.map_drop]
    exact HS.out.dropO (by rw [List.length_map, Hm.out]; exact hkm) (by rw [List.length_map, Hm.out]; exact hlc))
  have HS1 := Lib.hid (show SrcAt w3.drew A' 3 ((es.take k).map gcs) by
    rw [List.map_take]
    exact HS.out.take k)
  have HCd := Lib.hid (show w3.drew.cell? ⟨bb, 0, none⟩ = some (.slice A' m cap) by
    have := HB2.out.blk.cell 0
    rw [HV.out] at this
    exact this)
  clear HS
  generalize w3.drew = wd at HN3 HB2 HB3 HS1 HS2 HCd HB0 ⊢
  have k0 : (0 : Int) ≤ (k : Int) := by omega
  have k1 : (k : Int) ≤ (m : Int) := by omega
  have k6 : k ≤ cap := by omega
  have k8 : (k : Int) ≤ (cap : Int) := by omega
  have k9 : (m : Int) ≤ (cap : Int) := by omega
  have hst : ∀ jj uu w1 w2, New w1 w2 → (fun
      | 0 => fun v _ => v = .pointer (some ⟨bb, 0, none⟩)
      | 1 => fun v _ => v = .pointer (some ⟨bb, 0, none⟩)
      | 2 => fun v _ => v = .pointer (some ⟨bb, 0, none⟩)
      | 3 => fun v _ => v = .pointer (some ⟨bb, 0, none⟩)
      | 4 => fun v _ => v = (.slice A' m cap)
      | 5 => fun v _ => v = .int .i64 k
      | 6 => fun v _ => v = (.slice A' k cap)
      | 7 => fun u W => OwnG B W u (es.take k) ∧ ∀ q, u.ownBlock = some q → wd.heap.size ≤ q
      | 8 => fun v _ => v = .agg #[.string x.f, .string x.t, .string x.d]
      | 9 => fun v W => ∃ nb, v = .slice (some ⟨nb, 0, none⟩) 1 1 ∧ Blk W nb 33 (([x].map gcs).flatten).toArray
      | 10 => fun u W => OwnG B W u (es.take k ++ [x]) ∧ ∀ q, u.ownBlock = some q → wd.heap.size ≤ q
      | 11 => fun v _ => v = .pointer (some ⟨bb, 0, none⟩)
      | 12 => fun v _ => v = .pointer (some ⟨bb, 0, none⟩)
      | 13 => fun v _ => v = .pointer (some ⟨bb, 0, none⟩)
      | 14 => fun v _ => v = (.slice A' m cap)
      | 15 => fun v _ => v = .int .i64 k
      | 16 => fun v _ => v = (.slice A2 (m - k) (cap - k))
      | 17 => fun u W => OwnG B W u (es.take k ++ x :: es.drop k) ∧ ∀ q, u.ownBlock = some q → wd.heap.size ≤ q
      | _ => fun _ _ => True : Nat → Value → World → Prop) jj uu w1 → (fun
      | 0 => fun v _ => v = .pointer (some ⟨bb, 0, none⟩)
      | 1 => fun v _ => v = .pointer (some ⟨bb, 0, none⟩)
      | 2 => fun v _ => v = .pointer (some ⟨bb, 0, none⟩)
      | 3 => fun v _ => v = .pointer (some ⟨bb, 0, none⟩)
      | 4 => fun v _ => v = (.slice A' m cap)
      | 5 => fun v _ => v = .int .i64 k
      | 6 => fun v _ => v = (.slice A' k cap)
      | 7 => fun u W => OwnG B W u (es.take k) ∧ ∀ q, u.ownBlock = some q → wd.heap.size ≤ q
      | 8 => fun v _ => v = .agg #[.string x.f, .string x.t, .string x.d]
      | 9 => fun v W => ∃ nb, v = .slice (some ⟨nb, 0, none⟩) 1 1 ∧ Blk W nb 33 (([x].map gcs).flatten).toArray
      | 10 => fun u W => OwnG B W u (es.take k ++ [x]) ∧ ∀ q, u.ownBlock = some q → wd.heap.size ≤ q
      | 11 => fun v _ => v = .pointer (some ⟨bb, 0, none⟩)
      | 12 => fun v _ => v = .pointer (some ⟨bb, 0, none⟩)
      | 13 => fun v _ => v = .pointer (some ⟨bb, 0, none⟩)
      | 14 => fun v _ => v = (.slice A' m cap)
      | 15 => fun v _ => v = .int .i64 k
      | 16 => fun v _ => v = (.slice A2 (m - k) (cap - k))
      | 17 => fun u W => OwnG B W u (es.take k ++ x :: es.drop k) ∧ ∀ q, u.ownBlock = some q → wd.heap.size ≤ q
      | _ => fun _ _ => True : Nat → Value → World → Prop) jj uu w2 := by
    intro j uu w1 w2 hc h
    match j with
    | 7 => exact ⟨h.1.chg hc (fun _ _ x => x), h.2⟩
    | 9 => exact h.imp fun nb h => ⟨h.1, h.2.chg hc id⟩
    | 10 => exact ⟨h.1.chg hc (fun _ _ x => x), h.2⟩
    | 17 => exact ⟨h.1.chg hc (fun _ _ x => x), h.2⟩
    | 0 | 1 | 2 | 3 | 4 | 5 | 6 | 8 | 11 | 12 | 13 | 14 | 15 | 16 => exact h
    | _ + 18 => trivial
  refine AtN.segX2 0 18 18 [29, 30, 31, 32, 33, 34, 35, 36, 37, 38, 39, 40, 41, 42, 43, 44, 45, 46] (fun _ => False) (fun
      | 7 => 10
      | 9 => 10
      | 10 => 17
      | _ => 999) (fun
      | 0 => fun v _ => v = .pointer (some ⟨bb, 0, none⟩)
      | 1 => fun v _ => v = .pointer (some ⟨bb, 0, none⟩)
      | 2 => fun v _ => v = .pointer (some ⟨bb, 0, none⟩)
      | 3 => fun v _ => v = .pointer (some ⟨bb, 0, none⟩)
      | 4 => fun v _ => v = (.slice A' m cap)
      | 5 => fun v _ => v = .int .i64 k
      | 6 => fun v _ => v = (.slice A' k cap)
      | 7 => fun u W => OwnG B W u (es.take k) ∧ ∀ q, u.ownBlock = some q → wd.heap.size ≤ q
      | 8 => fun v _ => v = .agg #[.string x.f, .string x.t, .string x.d]
      | 9 => fun v W => ∃ nb, v = .slice (some ⟨nb, 0, none⟩) 1 1 ∧ Blk W nb 33 (([x].map gcs).flatten).toArray
      | 10 => fun u W => OwnG B W u (es.take k ++ [x]) ∧ ∀ q, u.ownBlock = some q → wd.heap.size ≤ q
      | 11 => fun v _ => v = .pointer (some ⟨bb, 0, none⟩)
      | 12 => fun v _ => v = .pointer (some ⟨bb, 0, none⟩)
      | 13 => fun v _ => v = .pointer (some ⟨bb, 0, none⟩)
      | 14 => fun v _ => v = (.slice A' m cap)
      | 15 => fun v _ => v = .int .i64 k
      | 16 => fun v _ => v = (.slice A2 (m - k) (cap - k))
      | 17 => fun u W => OwnG B W u (es.take k ++ x :: es.drop k) ∧ ∀ q, u.ownBlock = some q → wd.heap.size ≤ q
      | _ => fun _ _ => True : Nat → Value → World → Prop) (by kernel_rfl) (by kernel_rfl) (by kernel_rfl) (by kernel_rfl) (fun i hn hi o ho A0 W b hJ hμ hin hk => ?_) (fun l W3 hJ hl hΦ => ?_)
  · rcases (show i = 0 ∨ i = 1 ∨ i = 2 ∨ i = 3 ∨ i = 4 ∨ i = 5 ∨ i = 6 ∨ i = 7 ∨ i = 8 ∨ i = 9 ∨ i = 10 ∨ i = 11 ∨ i = 12 ∨ i = 13 ∨ i = 14 ∨ i = 15 ∨ i = 16 ∨ i = 17 by omega) with rfl | rfl | rfl | rfl | rfl | rfl | rfl | rfl | rfl | rfl | rfl | rfl | rfl | rfl | rfl | rfl | rfl | rfl
    · cases ho
      refine .newX (i := 0) hJ hst ?_
      exact .same (exec_move 0 (.pointer (some ⟨bb, 0, none⟩)) rfl (hk 0 (by kernel_rfl))) rfl
    · cases ho
      refine .newX (i := 1) hJ hst ?_
      exact .same (exec_move 0 (.pointer (some ⟨bb, 0, none⟩)) rfl (hk 0 (by kernel_rfl))) rfl
    · cases ho
      have h30 : A0.tmps[30]?.getD undef = .pointer (some ⟨bb, 0, none⟩) := hin 1 30 (by kernel_rfl)
      refine .newX (i := 2) hJ hst ?_
      exact .same (v := .pointer (some ⟨bb, 0, none⟩)) (by simp [go_sem, h30]) rfl
    · cases ho
      have h31 : A0.tmps[31]?.getD undef = .pointer (some ⟨bb, 0, none⟩) := hin 2 31 (by kernel_rfl)
      refine .newX (i := 3) hJ hst ?_
      exact .same (v := .pointer (some ⟨bb, 0, none⟩)) (by simp [go_sem, h31]) rfl
    · cases ho
      have h32 : A0.tmps[32]?.getD undef = .pointer (some ⟨bb, 0, none⟩) := hin 3 32 (by kernel_rfl)
      refine .newX (i := 4) hJ hst ?_
      have hc : W.cell? ⟨bb, 0, none⟩ = some (.slice A' m cap) := hJ.1.cellS HCd.out id
      exact .same (by simp [go_sem, h32, hc]) rfl
    · cases ho
      refine .newX (i := 5) hJ hst ?_
      exact .same (exec_move 2 (.int .i64 k) rfl (hk 2 (by kernel_rfl))) rfl
    · cases ho
      have h33 : A0.tmps[33]?.getD undef = (.slice A' m cap) := hin 4 33 (by kernel_rfl)
      have h34 : A0.tmps[34]?.getD undef = .int .i64 k := hin 5 34 (by kernel_rfl)
      refine .newX (i := 6) hJ hst ?_
      exact .same (v := .slice A' k cap) (by cases A' <;> simp [go_sem, h33, h34, k0, k8, k6]) rfl
    · cases ho
      have h35 : A0.tmps[35]?.getD undef = (.slice A' k cap) := hin 6 35 (by kernel_rfl)
      refine .newX (i := 7) hJ hst ?_
      obtain ⟨v1, W', hrun, hown, hchg, hblk⟩ := elGram.appendS (Own.nil W B 33 3) (Nat.le_trans HB0.out hJ.1.size) A' k cap ((es.take k).map gcs) (by rw [List.length_map, List.length_take, Hm.out]; omega) (gcs_len _) (gcs_one _) (HS1.out.chg hJ.1 (fun _ _ x => x)) (by simp; omega) (by simp; unfold maxLen; omega) 41
      refine .value (exec_append (.const (.slice none 0 0)) _ _ _ rfl rfl (by simpa [Act.eval] using h35) hrun) ⟨hchg.mono (fun k _ h => by cases h), hown, fun k hk => (hblk k hk).elim (fun h => by cases h) (fun h => Nat.le_trans hJ.1.size h)⟩
    · cases ho
      have h9 : A0.tmps[9]?.getD undef = .pointer (some ⟨w2.heap.size, 0, none⟩) := hk 9 (by kernel_rfl)
      refine .newX (i := 8) hJ hst ?_
      exact .same (exec_load 9 _ rfl stGram ⟨w2.heap.size, 0, none⟩ (gcs x) h9 rfl ((HB3.out.chg hJ.1 id).at_)) rfl
    · cases ho
      have h37 : A0.tmps[37]?.getD undef = .agg #[.string x.f, .string x.t, .string x.d] := hin 8 37 (by kernel_rfl)
      refine .newX (i := 9) hJ hst ?_
      refine .value (W' := W.alloc (.cells ((([x].map gcs).flatten).toArray) 33)) (v := .slice (some ⟨W.heap.size, 0, none⟩) 1 1) ?_ ⟨(Chg.refl _ _).alloc _, ⟨_, rfl, Blk.new _ _ _⟩⟩
      simp [go_sem, h37, gcs]
    · cases ho
      have h36 := hin 7 36 (by kernel_rfl)
      have h38 := hin 9 38 (by kernel_rfl)
      obtain ⟨hown0, hfr⟩ := h36
      obtain ⟨nb, e38, hBn⟩ := h38
      obtain ⟨v1, W', hrun, hown, hchg, hblk⟩ := append_own hown0 (Nat.le_trans HB0.out hJ.1.size) ⟨nb, 0, none⟩ 1 1 [x] rfl (hBn.rowsAt (gcs_len [x])) (by simp; omega) 41
      refine .value (exec_append _ _ _ _ rfl (by simp [Act.eval]) (by simpa [Act.eval] using e38) hrun) ⟨hJ.fresh hchg (fun k hk => hfr k hk), ⟨hown, fun k hk => (hblk k hk).elim (fun h => hfr k h) (fun h => Nat.le_trans hJ.1.size h)⟩, fun k u hki hkx hka hkb h => ?_⟩
      match k with
      | 7 => exact absurd rfl hkx
      | 9 => exact absurd rfl hkx
      | 10 => exact absurd rfl hki
      | 17 => exact ahead_no hka (by kernel_rfl)
      | 0 | 1 | 2 | 3 | 4 | 5 | 6 | 8 | 11 | 12 | 13 | 14 | 15 | 16 => exact h
      | _ + 18 => trivial
    · cases ho
      refine .newX (i := 11) hJ hst ?_
      exact .same (exec_move 0 (.pointer (some ⟨bb, 0, none⟩)) rfl (hk 0 (by kernel_rfl))) rfl
    · cases ho
      have h40 : A0.tmps[40]?.getD undef = .pointer (some ⟨bb, 0, none⟩) := hin 11 40 (by kernel_rfl)
      refine .newX (i := 12) hJ hst ?_
      exact .same (v := .pointer (some ⟨bb, 0, none⟩)) (by simp [go_sem, h40]) rfl
    · cases ho
      have h41 : A0.tmps[41]?.getD undef = .pointer (some ⟨bb, 0, none⟩) := hin 12 41 (by kernel_rfl)
      refine .newX (i := 13) hJ hst ?_
      exact .same (v := .pointer (some ⟨bb, 0, none⟩)) (by simp [go_sem, h41]) rfl
    · cases ho
      have h42 : A0.tmps[42]?.getD undef = .pointer (some ⟨bb, 0, none⟩) := hin 13 42 (by kernel_rfl)
      refine .newX (i := 14) hJ hst ?_
      have hc : W.cell? ⟨bb, 0, none⟩ = some (.slice A' m cap) := hJ.1.cellS HCd.out id
      exact .same (by simp [go_sem, h42, hc]) rfl
    · cases ho
      refine .newX (i := 15) hJ hst ?_
      exact .same (exec_move 2 (.int .i64 k) rfl (hk 2 (by kernel_rfl))) rfl
    · cases ho
      have h43 : A0.tmps[43]?.getD undef = (.slice A' m cap) := hin 14 43 (by kernel_rfl)
      have h44 : A0.tmps[44]?.getD undef = .int .i64 k := hin 15 44 (by kernel_rfl)
      refine .newX (i := 16) hJ hst ?_
      exact .same (v := .slice A2 (m - k) (cap - k)) (by simp [go_sem, h43, h44, k0, k1, hkm, hA2]) rfl
    · cases ho
      have h39 := hin 10 39 (by kernel_rfl)
      have h45 : A0.tmps[45]?.getD undef = (.slice A2 (m - k) (cap - k)) := hin 16 45 (by kernel_rfl)
      obtain ⟨hown0, hfr⟩ := h39
      obtain ⟨v1, W', hrun, hown, hchg, hblk⟩ := elGram.appendS hown0 (Nat.le_trans HB0.out hJ.1.size) A2 (m - k) (cap - k) ((es.drop k).map gcs) (by rw [List.length_map, List.length_drop, Hm.out]) (gcs_len _) (gcs_one _) (HS2.out.chg hJ.1 (fun _ _ x => x)) (by simp; omega) (by simp; unfold maxLen; omega) 41
      rw [← List.map_append, List.append_assoc, List.singleton_append] at hown
      refine .value (exec_append _ _ _ _ rfl (by simp [Act.eval]) (by simpa [Act.eval] using h45) hrun) ⟨hJ.fresh hchg (fun k hk => hfr k hk), ⟨hown, fun k hk => (hblk k hk).elim (fun h => hfr k h) (fun h => Nat.le_trans hJ.1.size h)⟩, fun k u hki hkx hka hkb h => ?_⟩
      match k with
      | 7 => exact hkb.elim (fun h => absurd h (by decide)) (fun h => ahead_no h (by kernel_rfl))
      | 9 => exact hkb.elim (fun h => absurd h (by decide)) (fun h => ahead_no h (by kernel_rfl))
      | 10 => exact absurd rfl hkx
      | 17 => exact absurd rfl hki
      | 0 | 1 | 2 | 3 | 4 | 5 | 6 | 8 | 11 | 12 | 13 | 14 | 15 | 16 => exact h
      | _ + 18 => trivial
  obtain ⟨x29, x30, x31, x32, x33, x34, x35, x36, x37, x38, x39, x40, x41, x42, x43, x44, x45, x46, rfl⟩ : ∃ x29 x30 x31 x32 x33 x34 x35 x36 x37 x38 x39 x40 x41 x42 x43 x44 x45 x46, l = [x29, x30, x31, x32, x33, x34, x35, x36, x37, x38, x39, x40, x41, x42, x43, x44, x45, x46] := by
    match l, hl with
    | [x29, x30, x31, x32, x33, x34, x35, x36, x37, x38, x39, x40, x41, x42, x43, x44, x45, x46], _ => exact ⟨_, _, _, _, _, _, _, _, _, _, _, _, _, _, _, _, _, _, rfl⟩
  obtain rfl : x29 = .pointer (some ⟨bb, 0, none⟩) := hΦ 0 (by decide) (by decide)
  obtain rfl : x30 = .pointer (some ⟨bb, 0, none⟩) := hΦ 1 (by decide) (by decide)
  obtain rfl : x31 = .pointer (some ⟨bb, 0, none⟩) := hΦ 2 (by decide) (by decide)
  obtain rfl : x32 = .pointer (some ⟨bb, 0, none⟩) := hΦ 3 (by decide) (by decide)
  obtain rfl : x33 = (.slice A' m cap) := hΦ 4 (by decide) (by decide)
  obtain rfl : x34 = .int .i64 k := hΦ 5 (by decide) (by decide)
  obtain rfl : x35 = (.slice A' k cap) := hΦ 6 (by decide) (by decide)
  obtain rfl : x37 = .agg #[.string x.f, .string x.t, .string x.d] := hΦ 8 (by decide) (by decide)
  obtain rfl : x40 = .pointer (some ⟨bb, 0, none⟩) := hΦ 11 (by decide) (by decide)
  obtain rfl : x41 = .pointer (some ⟨bb, 0, none⟩) := hΦ 12 (by decide) (by decide)
  obtain rfl : x42 = .pointer (some ⟨bb, 0, none⟩) := hΦ 13 (by decide) (by decide)
  obtain rfl : x43 = (.slice A' m cap) := hΦ 14 (by decide) (by decide)
  obtain rfl : x44 = .int .i64 k := hΦ 15 (by decide) (by decide)
  obtain rfl : x45 = (.slice A2 (m - k) (cap - k)) := hΦ 16 (by decide) (by decide)
  have hx46 : (fun u W => OwnG B W u (es.take k ++ x :: es.drop k) ∧ ∀ q, u.ownBlock = some q → wd.heap.size ≤ q : Value → World → Prop) x46 W3 := hΦ 17 (by decide) (by decide)
  simp only [putsL, List.zip_cons_cons, List.zip_nil_left, List.zip_nil_right, List.zip, List.zipWith, Act.put, List.setIfInBounds_toArray, List.set_cons_succ, List.set_cons_zero]
  clear hΦ hl hst
  obtain ⟨hown, hfr⟩ := hx46
  obtain ⟨A3, n3, c3, hv3⟩ : ∃ A n c, x46 = .slice A n c := by
    obtain ⟨A, c, hv, _⟩ := hown.form
    exact ⟨A, _, c, hv⟩
  have hpost := BagTo.mk2 (r := .bool true) HB2.out (hJ.1.mono fun _ _ x => x.elim) hown (fun k hk => .inr (hfr k hk)) (by rw [List.length_append, List.length_take, List.length_cons, List.length_drop, Hm.out]; omega)
  have hcell : W3.cell? ⟨bb, 0, none⟩ = some v2 := (HB2.out.blk.chg hJ.1 id).cell 0
  have hfro : W3.frozen? ⟨bb, 0, none⟩ = false := (HB2.out.blk.chg hJ.1 id).frozen 0
  rw [hv3] at hpost ⊢
  have Hpost := Lib.hid hpost
  clear hpost hown hfr hv3
  refine AtN.list 18 21 (by kernel_rfl) ?_
  change wpList _ _ _ [_, _, _] _ _
  go_wp2_with fail
  change AtN _ _ _ 21 _ _
  refine AtN.done rfl ?_
  go_wp2_with fail
  go_ret
  exact BagTo.then HC2.out HK2.out (BagTo.from HN3.out Hpost.out)
end Go.Proofs.Ytenkobgeflckdaa
