/- group.ahead, group.back. -/
import Derived.Test.YtfocjfnkcabbgaaGreatLstW
import Derived.Test.YtfocjfnkcabbgaaGreatSegF
import Derived.Test.YtfocjfnkcabbgaaGreatNum
import Derived.Test.YtfocjfnkcabbgaaGreatPickW
import Derived.Test.YtfocjfnkcabbgaaGreatOpenR
import Derived.Deep.CutRange
set_option linter.unusedVariables false
set_option linter.unusedSimpArgs false
namespace Go.Proofs.YtfocjfnkcabbgaaGreat
open Go.RowKit Go.Shelf

theorem map_flat_take (us : List Vl) (i : Nat) : (us.map vcs).flatten.take (i * 4) = ((us.take i).map vcs).flatten := by
  rw [flatten_take i (vcs_len us), List.map_take]
theorem map_flat_drop (us : List Vl) (i : Nat) : (us.map vcs).flatten.drop (i * 4) = ((us.drop i).map vcs).flatten := by
  rw [flatten_drop i (vcs_len us), List.map_drop]
theorem map_flat_one (us : List Vl) : ∀ u ∈ (us.map vcs).flatten, u.oneCell' = true := fun u hu => by
  obtain ⟨cs, hc, h⟩ := List.mem_flatten.1 hu
  exact vcs_one us cs hc u h
theorem own_of_flat {W : World} {B n : Nat} {v : Value} {us : List Vl} (hn : n = us.length) (h : W.ownsRow B 40 4 v n (us.map vcs).flatten) : Own W B 40 4 v (us.map vcs) := by
  subst hn
  exact ⟨by rw [List.length_map]; exact h, vcs_len us⟩
/-- slices.Delete of one element. -/
theorem del_own {W : World} {B : Nat} {v : Value} {us : List Vl} (ho : Own W B 40 4 v (us.map vcs)) (k : Nat) (hk : k < us.length) :
    Calls Tryz.prog 51 #[v, .int .i64 k, .int .i64 ((k : Int) + 1)] W fun e W' => ∃ v', e = .returned v' ∧ Own W' B 40 4 v' ((us.eraseIdx k).map vcs) ∧ Chg W W' (fun g => v.ownBlock = some g) ∧ v'.ownBlock = v.ownBlock := by
  have h := delValue W B v (us.map vcs).length (us.map vcs).flatten ho.1 (map_flat_one us) k (k + 1) (by omega) (by rw [List.length_map]; omega)
  rw [show ((k : Int) + 1) = ((k + 1 : Nat) : Int) by omega]
  refine h.mono ?_
  rintro e W' ⟨v', rfl, h1, h2, h3⟩
  refine ⟨v', rfl, ?_, (Chg.of_grown h2).mono (fun g _ hg => hg.symm), h3⟩
  rw [map_flat_take, map_flat_drop, ← List.flatten_append, ← List.map_append, ← List.eraseIdx_eq_take_drop_succ] at h1
  exact own_of_flat (by rw [List.length_map, List.length_eraseIdx]; split <;> omega) h1
/-- slices.Insert of one element. -/
theorem ins_own {W : World} {B : Nat} {v : Value} {us : List Vl} (ho : Own W B 40 4 v (us.map vcs)) (k : Nat) (hk : k ≤ us.length) (hl : us.length ≤ 100000) (hB : B ≤ W.heap.size) (x : Vl) (rb vc : Nat) (hb : Blk W rb 40 (vcs x).toArray) (hne : v.ownBlock ≠ some rb) :
    Calls Tryz.prog 56 #[v, .int .i64 k, .slice (some ⟨rb, 0, none⟩) 1 vc] W fun e W' => ∃ v', e = .returned v' ∧ Own W' B 40 4 v' ((us.take k ++ x :: us.drop k).map vcs) ∧ Chg W W' (fun g => v.ownBlock = some g) ∧ ∀ g, v'.ownBlock = some g → v.ownBlock = some g ∨ W.heap.size ≤ g := by
  have h := insValue W B v (us.map vcs).length (us.map vcs).flatten ho.1 (map_flat_one us) k (by rw [List.length_map]; exact hk) rb vc (vcs x) rfl 40 hb hne (vcs_one [x] _ (by simp)) (by rw [List.length_map]; omega) hB
  refine h.mono ?_
  rintro e W' ⟨v', rfl, h1, h2, h3⟩
  refine ⟨v', rfl, ?_, (Chg.of_grown h2).mono (fun g _ hg => hg.symm), fun g hg => ?_⟩
  · rw [map_flat_take, map_flat_drop, show ((us.take k).map vcs).flatten ++ vcs x ++ ((us.drop k).map vcs).flatten = ((us.take k ++ x :: us.drop k).map vcs).flatten by simp] at h1
    exact own_of_flat (by rw [List.length_map, List.length_append, List.length_cons, List.length_take, List.length_drop]; omega) h1
  · rcases h3 with h3 | ⟨g', h4, h5⟩
    · exact .inl (h3 ▸ hg)
    · rw [hg] at h4
      cases h4
      exact .inr h5
/-- A row without its argument at a place, which stands behind the others then. -/
def ahd (r : Rw) (k : Nat) (x : Vl) : Rw := ⟨r.name, r.args.eraseIdx k ++ [x], r.stamp⟩
def AheadPost (w : World) (r : Rw) (e : Ending) (w' : World) : Prop := ∃ v, e = .returned (.agg #[.string r.name, v, .int .i64 r.stamp]) ∧ Own w' w.heap.size 40 4 v (r.args.map vcs) ∧ New w w'

set_option maxHeartbeats 4000000 in
set_option maxRecDepth 100000 in
theorem ahead_row (w : World) (xc : List Value) (r : Rw) (hx : RowAt w xc r) (k : Nat) (x : Vl) (hk : r.args[k]? = some x) :
    Calls Tryz.prog 25 #[.agg xc.toArray, .int .i64 k] w (AheadPost w (ahd r k x)) := by
  have hlt := (List.getElem?_eq_some_iff.1 hk).1
  obtain ⟨X, c, rfl, hl1000, hlc, hcm, hsrc, hXl⟩ := hx
  obtain ⟨ax, hax, hrows⟩ := hsrc (by rw [List.length_map]; omega)
  subst hax
  obtain ⟨la, hla⟩ : ∃ l, r.args.length = l := ⟨_, rfl⟩
  rw [hla] at hlt hl1000 hlc ⊢
  have Hla := Lib.hid hla
  have hat := (hrows k (vcs x) (by rw [List.getElem?_map, hk]; rfl)).2
  change At _ _ [.int .i64 x.k, .int .i64 x.i, .string x.t, .slice none 0 0] at hat
  obtain ⟨w1, hw1⟩ : ∃ w1, w1 = ((w.alloc (.cells #[.string r.name, .slice (some ax) la c, .int .i64 r.stamp] 44)).alloc (.cells #[.string ⟨#[]⟩, .slice none 0 0, .int .i64 0] 44)).alloc (.cells #[.int .i64 x.k, .int .i64 x.i, .string x.t, .slice none 0 0] 40) := ⟨_, rfl⟩
  have hN1 : New w w1 := by rw [hw1]; exact (((Chg.refl _ _).alloc _).alloc _).alloc _
  have b0 : Blk w1 w.heap.size 44 #[.string r.name, .slice (some ax) la c, .int .i64 r.stamp] := by rw [hw1]; exact ((Blk.new w _ _).alloc _).alloc _
  have b1 : Blk w1 (w.heap.size + 1) 44 #[.string ⟨#[]⟩, .slice none 0 0, .int .i64 0] := by
    have := Blk.new (w.alloc (.cells #[.string r.name, .slice (some ax) la c, .int .i64 r.stamp] 44)) 44 #[.string ⟨#[]⟩, .slice none 0 0, .int .i64 0]
    simp only [World.size_alloc] at this
    rw [hw1]; exact this.alloc _
  have b2 : Blk w1 (w.heap.size + 1 + 1) 40 #[.int .i64 x.k, .int .i64 x.i, .string x.t, .slice none 0 0] := by
    have := Blk.new ((w.alloc (.cells #[.string r.name, .slice (some ax) la c, .int .i64 r.stamp] 44)).alloc (.cells #[.string ⟨#[]⟩, .slice none 0 0, .int .i64 0] 44)) 40 #[.int .i64 x.k, .int .i64 x.i, .string x.t, .slice none 0 0]
    simp only [World.size_alloc] at this
    rw [hw1]; exact this
  have hnd : New w1 w1.drew := (Chg.refl _ _).drew
  have B0 := Lib.hid (b0.chg hnd id)
  have B1 := Lib.hid (b1.chg hnd id)
  have B2 := Lib.hid (b2.chg hnd id)
  have HND := Lib.hid (hN1.trans hnd (fun _ _ x => x))
  have HSd := Lib.hid (hsrc.chg (hN1.trans hnd (fun _ _ x => x)) (fun _ _ x => x))
  have Hat := Lib.hid ((hat.chg ((Chg.refl _ (fun _ => False)).alloc (.cells #[.string r.name, .slice (some ax) la c, .int .i64 r.stamp] 44)) id).chg ((Chg.refl _ (fun _ => False)).alloc (.cells #[.string ⟨#[]⟩, .slice none 0 0, .int .i64 0] 44)) id)
  have HW1 := Lib.hid hw1
  have HK := Lib.hid hk
  have q0 : (0 : Int) ≤ (k : Int) := by omega
  have q1 : (k : Int) < (la : Int) := by omega
  have hXl' := hXl ax rfl
  clear b0 b1 b2 hnd hN1 hw1 hat hsrc hrows hk hXl hla
  go_enter Tryz.func25, Tryz.ntmps25
  go_upto_region 2 with ((with_reducible refine wpl_load rfl (.tmp 9) 40 rfl stVal4 (ax.add (k * 4)) [.int .i64 x.k, .int .i64 x.i, .string x.t, .slice none 0 0] ?_ rfl Hat.out ?_); exact rfl)
  rw [← HW1.out]
  refine wp_region_at (by kernel_rfl) ?_
  clear HW1 Hat
  generalize w1.drew = wd at B0 B1 B2 HND HSd ⊢
  have hsz := HND.out.size
  have kw : IntKind.i64.wrap ((k : Int) + 1) = (k : Int) + 1 := by rw [IntKind.wrap_i64]; omega
  have eg1 := enters_of Tryz.func52 (by kernel_rfl) rfl
  have eg2 := enters_of Tryz.func51 (by kernel_rfl) rfl
  unfold Enters at eg1 eg2
  refine AtN.segF 0 11 0 [11, 12, 13, 14, 15, 16, 17, 18, 19, 20, 21] (fun _ => False) (fun
      | 2 => true
      | 6 => true
      | 8 => true
      | 9 => true
      | _ => false) (fun
      | 2 => 6
      | 6 => 9
      | 8 => 9
      | _ => 999) (fun
      | 0 => fun v _ => v = .pointer (some ⟨w.heap.size, 1, none⟩)
      | 1 => fun v _ => v = .slice (some ax) la c
      | 2 => fun u W => Own W w.heap.size 40 4 u ((r.args).map vcs)
      | 3 => fun v _ => v = .int .i64 k
      | 4 => fun v _ => v = .int .i64 k
      | 5 => fun v _ => v = .int .i64 ((k : Int) + 1)
      | 6 => fun u W => Own W w.heap.size 40 4 u ((r.args.eraseIdx k).map vcs)
      | 7 => fun v _ => v = .agg #[.int .i64 x.k, .int .i64 x.i, .string x.t, .slice none 0 0]
      | 8 => fun u W => ∃ rb, u = .slice (some ⟨rb, 0, none⟩) 1 1 ∧ Blk W rb 40 #[.int .i64 x.k, .int .i64 x.i, .string x.t, .slice none 0 0]
      | 9 => fun u W => Own W w.heap.size 40 4 u ((r.args.eraseIdx k ++ [x]).map vcs)
      | 10 => fun v _ => v = .pointer (some ⟨w.heap.size, 1, none⟩)
      | _ => fun _ _ => True : Nat → Value → World → Prop) (by kernel_rfl) (by kernel_rfl) (by kernel_rfl) (by kernel_rfl) (by kernel_rfl) (fun g hg => hg.elim) (fun k u W1 W2 T' h hc ht hT => ?_) (fun i hn hi o ho A0 W b hJ hμ hin hkp hcn => ?_) (fun l W3 hN hl hΦ hap => ?_)
  · match k with
    | 2 => exact h.chg hc (fun g hg => ht rfl g (fpv_own hg))
    | 6 => exact h.chg hc (fun g hg => ht rfl g (fpv_own hg))
    | 8 => exact h.imp fun rb h => ⟨h.1, h.2.chg hc (ht rfl rb (by rw [h.1]; rfl))⟩
    | 9 => exact h.chg hc (fun g hg => ht rfl g (fpv_own hg))
    | 0 | 1 | 3 | 4 | 5 | 7 | 10 => exact h
    | _ + 11 => trivial
  · rcases (show i = 0 ∨ i = 1 ∨ i = 2 ∨ i = 3 ∨ i = 4 ∨ i = 5 ∨ i = 6 ∨ i = 7 ∨ i = 8 ∨ i = 9 ∨ i = 10 by omega) with rfl | rfl | rfl | rfl | rfl | rfl | rfl | rfl | rfl | rfl | rfl
    · cases ho
      have h2 : A0.tmps[2]?.getD undef = .pointer (some ⟨w.heap.size, 0, none⟩) := hkp 2 (by kernel_rfl)
      refine .new rfl ?_
      exact .same (v := .pointer (some ⟨w.heap.size, 1, none⟩)) (by simp [go_sem, h2]) rfl
    · cases ho
      have h11 : A0.tmps[11]?.getD undef = .pointer (some ⟨w.heap.size, 1, none⟩) := hin 0 11 (by kernel_rfl)
      refine .new rfl ?_
      have hcx : W.cell? ⟨w.heap.size, 1, none⟩ = some (.slice (some ax) la c) := (B0.out.chg hJ.1 id).cell 1
      exact .same (v := .slice (some ax) la c) (by simp [go_sem, h11, hcx]) rfl
    · cases ho
      have h12 : A0.tmps[12]?.getD undef = .slice (some ax) la c := hin 1 12 (by kernel_rfl)
      refine .make (.call (f := 52) (args := #[.slice (some ax) la c]) (W' := W) ?_ ((cloneValue W (some ax) la c (r.args.map vcs) (by rw [List.length_map]; exact Hla.out.symm) (HSd.out.chg hJ.1 (fun _ _ x => x)) (fun a ha => by
        cases ha
        have := hJ.1.size
        omega) (vcs_one _) (by omega)).mono ?_))
      · simp [go_sem, h12, eg1]
      · rintro e w' ⟨v', rfl, hov, hc⟩
        exact ⟨v', rfl, hc, hov.base (Nat.le_trans hsz hJ.1.size), fun g hg => by
          rw [hov.fpv] at hg
          exact hov.lt hg⟩
    · cases ho
      refine .new rfl ?_
      exact .same (exec_move 1 (.int .i64 k) rfl (hkp 1 (by kernel_rfl))) rfl
    · cases ho
      refine .new rfl ?_
      exact .same (exec_move 1 (.int .i64 k) rfl (hkp 1 (by kernel_rfl))) rfl
    · cases ho
      have h15 : A0.tmps[15]?.getD undef = .int .i64 k := hin 4 15 (by kernel_rfl)
      refine .new rfl ?_
      exact .same (v := .int .i64 ((k : Int) + 1)) (by simp [go_sem, h15, kw]) rfl
    · cases ho
      have h13 : (fun u W => Own W w.heap.size 40 4 u ((r.args).map vcs) : Value → World → Prop) (A0.tmps[13]?.getD undef) W := hin 2 13 (by kernel_rfl)
      have h14 : A0.tmps[14]?.getD undef = .int .i64 k := hin 3 14 (by kernel_rfl)
      have h16 : A0.tmps[16]?.getD undef = .int .i64 ((k : Int) + 1) := hin 5 16 (by kernel_rfl)
      refine GivesF.call 51 #[A0.tmps[13]?.getD undef, .int .i64 k, .int .i64 ((k : Int) + 1)] ?_ ((del_own h13 k (by rw [Hla.out]; exact hlt)).mono ?_)
      · simp [go_sem, h14, h16, eg2]
      · rintro e w' ⟨v', rfl, hov, hc, hob⟩
        refine ⟨v', rfl, hov, _, hc, fun g _ hg => .inl ⟨2, 13, by kernel_rfl, fpv_own hg⟩, fun _ g hg => ?_⟩
        rw [hov.fpv] at hg
        exact ⟨(hov.lt hg).2, .inl ⟨2, 13, by kernel_rfl, by rw [hob] at hg; exact fpv_own hg⟩⟩
    · cases ho
      have h5 : A0.tmps[5]?.getD undef = .pointer (some ⟨w.heap.size + 1 + 1, 0, none⟩) := hkp 5 (by kernel_rfl)
      refine .new rfl ?_
      exact .same (exec_load 5 _ rfl stVal4 ⟨w.heap.size + 1 + 1, 0, none⟩ [.int .i64 x.k, .int .i64 x.i, .string x.t, .slice none 0 0] h5 rfl (B2.out.chg hJ.1 id).at_) rfl
    · cases ho
      have h18 : A0.tmps[18]?.getD undef = .agg #[.int .i64 x.k, .int .i64 x.i, .string x.t, .slice none 0 0] := hin 7 18 (by kernel_rfl)
      exact .make (.value (W' := W.alloc (.cells #[.int .i64 x.k, .int .i64 x.i, .string x.t, .slice none 0 0] 40)) (v := .slice (some ⟨W.heap.size, 0, none⟩) 1 1) (by simp [go_sem, h18]) ⟨(Chg.refl _ _).alloc _, ⟨_, rfl, Blk.new _ _ _⟩, fun g hg => by cases hg; exact ⟨Nat.le_refl _, by simp⟩⟩)
    · cases ho
      have h17 : (fun u W => Own W w.heap.size 40 4 u ((r.args.eraseIdx k).map vcs) : Value → World → Prop) (A0.tmps[17]?.getD undef) W := hin 6 17 (by kernel_rfl)
      have h19 : (fun u W => ∃ rb, u = .slice (some ⟨rb, 0, none⟩) 1 1 ∧ Blk W rb 40 #[.int .i64 x.k, .int .i64 x.i, .string x.t, .slice none 0 0] : Value → World → Prop) (A0.tmps[19]?.getD undef) W := hin 8 19 (by kernel_rfl)
      obtain ⟨ro, eo, hb8⟩ := h19
      obtain ⟨v1, W', hrun, hown, hchg, hblk⟩ := elValue.appendS h17 (Nat.le_trans hsz hJ.1.size) (some ⟨ro, 0, none⟩) 1 1 [vcs x] rfl (fun cs hc => by simp only [List.mem_cons, List.not_mem_nil, or_false] at hc; subst hc; rfl) (fun cs hc => by simp only [List.mem_cons, List.not_mem_nil, or_false] at hc; subst hc; exact vcs_one [x] _ (by simp)) (fun _ => ⟨_, rfl, fun j cs hj => by
        match j, hj with
        | 0, hj => cases hj; exact ⟨rfl, by rw [Nat.zero_mul]; exact (show Blk W ro _ (vcs x).toArray from hb8).at_⟩
        | j + 1, hj => simp at hj⟩) (by rw [List.length_map, List.length_eraseIdx]; have := Hla.out; split <;> omega) (by rw [List.length_map, List.length_eraseIdx]; have := Hla.out; unfold maxLen; split <;> omega) 38
      have hown' : Own W' w.heap.size 40 4 v1 ((r.args.eraseIdx k ++ [x]).map vcs) := by rw [List.map_append]; exact hown
      refine GivesF.value _ (exec_append _ _ _ _ rfl (by simp [Act.eval]) (by simpa [Act.eval] using eo) hrun) hown' hchg (fun g _ hg => .inl ⟨6, 17, by kernel_rfl, fpv_own hg⟩) (fun g hg => ?_)
      rw [hown'.fpv] at hg
      exact ⟨(hown'.lt hg).2, (hblk g hg).elim (fun h => .inl ⟨6, 17, by kernel_rfl, fpv_own h⟩) (fun h => .inr (.inl h))⟩
    · cases ho
      have h2 : A0.tmps[2]?.getD undef = .pointer (some ⟨w.heap.size, 0, none⟩) := hkp 2 (by kernel_rfl)
      refine .new rfl ?_
      exact .same (v := .pointer (some ⟨w.heap.size, 1, none⟩)) (by simp [go_sem, h2]) rfl
  obtain ⟨x11, x12, x13, x14, x15, x16, x17, x18, x19, x20, x21, rfl⟩ : ∃ x11 x12 x13 x14 x15 x16 x17 x18 x19 x20 x21, l = [x11, x12, x13, x14, x15, x16, x17, x18, x19, x20, x21] := by
    match l, hl with
    | [x11, x12, x13, x14, x15, x16, x17, x18, x19, x20, x21], _ => exact ⟨_, _, _, _, _, _, _, _, _, _, _, rfl⟩
  obtain rfl : x11 = .pointer (some ⟨w.heap.size, 1, none⟩) := hΦ 0 (by decide) (by decide)
  obtain rfl : x12 = .slice (some ax) la c := hΦ 1 (by decide) (by decide)
  obtain rfl : x14 = .int .i64 k := hΦ 3 (by decide) (by decide)
  obtain rfl : x15 = .int .i64 k := hΦ 4 (by decide) (by decide)
  obtain rfl : x16 = .int .i64 ((k : Int) + 1) := hΦ 5 (by decide) (by decide)
  obtain rfl : x18 = .agg #[.int .i64 x.k, .int .i64 x.i, .string x.t, .slice none 0 0] := hΦ 7 (by decide) (by decide)
  have hx20 : (fun u W => Own W w.heap.size 40 4 u ((r.args.eraseIdx k ++ [x]).map vcs) : Value → World → Prop) x20 W3 := hΦ 9 (by decide) (by decide)
  obtain rfl : x21 = .pointer (some ⟨w.heap.size, 1, none⟩) := hΦ 10 (by decide) (by decide)
  simp only [putsL, List.zip_cons_cons, List.zip_nil_left, List.zip_nil_right, List.zip, List.zipWith, Act.put, List.setIfInBounds_toArray, List.set_cons_succ, List.set_cons_zero]
  clear hΦ hl
  obtain ⟨An, cn, hvn, _, _⟩ := hx20.form
  obtain ⟨nn, hnn⟩ : ∃ n, (List.map vcs (r.args.eraseIdx k ++ [x])).length = n := ⟨_, rfl⟩
  rw [hnn] at hvn
  clear hnn
  have hb0 := B0.out.chg hN id
  have hb1 := B1.out.chg hN id
  have hNn : New w W3 := HND.out.trans hN (fun _ _ x => x)
  have c1 := hb0.cell 1
  have f1 := hb0.frozen 1
  simp only [List.getElem?_toArray, List.getElem?_cons_zero, List.getElem?_cons_succ] at c1
  have hb0' : Blk (W3.setCell ⟨w.heap.size, 1, none⟩ x20) w.heap.size 44 #[.string r.name, x20, .int .i64 r.stamp] := by simpa using hb0.setCell 1 x20
  have hne : ∀ g, x20.ownBlock = some g → g ≠ w.heap.size := fun g hg e => own_ne_blk hx20 hb0 (by decide) (by rw [hg, e])
  have hne1 : ∀ g, x20.ownBlock = some g → g ≠ w.heap.size + 1 := fun g hg e => own_ne_blk hx20 hb1 (by decide) (by rw [hg, e])
  have hb1' : Blk (W3.setCell ⟨w.heap.size, 1, none⟩ x20) (w.heap.size + 1) 44 #[.string ⟨#[]⟩, .slice none 0 0, .int .i64 0] := hb1.far (p := ⟨w.heap.size, 1, none⟩) (by simp) x20
  have hov' : Own (W3.setCell ⟨w.heap.size, 1, none⟩ x20) w.heap.size 40 4 x20 ((r.args.eraseIdx k ++ [x]).map vcs) := hx20.chg (T := fun k => k = w.heap.size) ((Chg.refl _ _).setCell _ _ (fun _ => rfl)) (fun g hg e => hne g hg e)
  have hN' : New w (W3.setCell ⟨w.heap.size, 1, none⟩ x20) := hNn.setCell ⟨w.heap.size, 1, none⟩ x20 (fun h => absurd h (by simp))
  subst hvn
  have Hat0 := Lib.hid (show At (W3.setCell ⟨w.heap.size, 1, none⟩ (.slice An nn cn)) ⟨w.heap.size, 0, none⟩ [.string r.name, .slice An nn cn, .int .i64 r.stamp] from hb0'.at_)
  have HB1 := Lib.hid hb1'
  have HOv := Lib.hid (hov'.chg (T := fun k => k = w.heap.size + 1) ((Chg.refl _ _).setRow (w.heap.size + 1) #[.string r.name, .slice An nn cn, .int .i64 r.stamp] (fun _ => rfl)) (fun g hg e => hne1 g hg e))
  have HNf := Lib.hid (hN'.setRow (w.heap.size + 1) #[.string r.name, .slice An nn cn, .int .i64 r.stamp] (fun h => by omega))
  have Hst := Lib.hid (show At ((W3.setCell ⟨w.heap.size, 1, none⟩ (.slice An nn cn)).setRow (w.heap.size + 1) #[.string r.name, .slice An nn cn, .int .i64 r.stamp]) ⟨w.heap.size + 1, 0, none⟩ [.string r.name, .slice An nn cn, .int .i64 r.stamp] from (show Blk _ _ 44 ([.string r.name, .slice An nn cn, .int .i64 r.stamp] : List Value).toArray from hb1'.set _).at_)
  have hlay : layA #[.string ⟨#[]⟩, .slice none 0 0, .int .i64 0] 0 [.string r.name, .slice An nn cn, .int .i64 r.stamp] = #[.string r.name, .slice An nn cn, .int .i64 r.stamp] := rfl
  have Hone := Lib.hid (show ∀ u ∈ [Value.string r.name, .slice An nn cn, .int .i64 r.stamp], u.oneCell' = true from fun u hu => by
    simp only [List.mem_cons, List.not_mem_nil, or_false] at hu
    rcases hu with rfl | rfl | rfl <;> rfl)
  clear hx20 hb0 hb1 hb0' hb1' hov' hN' hne hne1 hNn hN B0 B1 B2 HND HSd hap
  refine AtN.list 11 12 (by kernel_rfl) ?_
  change wpList _ _ _ [_] _ _
  go_wp2_with fail
  change AtN _ _ _ 12 _ _
  refine AtN.done rfl ?_
  go_wp2_with (first | ((with_reducible refine wpl_load rfl (.tmp 2) 44 rfl stRow ⟨w.heap.size, 0, none⟩ [.string r.name, .slice An nn cn, .int .i64 r.stamp] ?_ rfl Hat0.out ?_); exact rfl) | ((with_reducible refine wpl_store rfl (.tmp 4) (.tmp 22) 44 rfl stRow (w.heap.size + 1) 0 44 #[.string ⟨#[]⟩, .slice none 0 0, .int .i64 0] [.string r.name, .slice An nn cn, .int .i64 r.stamp] ?_ ?_ HB1.out rfl (by decide) Hone.out ?_); exact rfl; exact rfl))
  refine bodyPost_ret (v := .agg #[.string r.name, .slice An nn cn, .int .i64 r.stamp]) (res_cellK stRow rfl _ _ ⟨w.heap.size + 1, 0, none⟩ [.string r.name, .slice An nn cn, .int .i64 r.stamp] rfl Hst.out rfl) rfl ⟨_, rfl, HOv.out, HNf.out⟩
end Go.Proofs.YtfocjfnkcabbgaaGreat
