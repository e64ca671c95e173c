/- slices.Insert of one element over Gram, on a row that the caller owns. -/
import Derived.Test.YtenkobgeflckdaaDelGram
set_option linter.unusedVariables false
namespace Go.Proofs.Ytenkobgeflckdaa
open Go.RowKit

/-- What slices.Insert leaves. -/
def InsPostGram (w : World) (base n : Nat) (bk : Option Nat) (ys : List Value) (e : Ending) (w' : World) : Prop :=
  ∃ v', e = .returned v' ∧ w'.ownsRow base 33 3 v' (n + 1) ys ∧ w.grownBy w' bk ∧ (v'.ownBlock = bk ∨ ∃ g, v'.ownBlock = some g ∧ w.heap.size ≤ g)

set_option maxHeartbeats 1000000 in
set_option maxRecDepth 100000 in
theorem insGram_end (w : World) (base : Nat) (v : Value) (n : Nat) (xs : List Value) (hown : w.ownsRow base 33 3 v n xs) (ad : Addr) (vc : Nat) (x : List Value) (hx : x.length = 3)
    (hxc : ∀ j u, x[j]? = some u → w.cell? (ad.add j) = some u) (h1x : ∀ u ∈ x, u.oneCell' = true) (hb : (n + 1) * 48 ≤ 140737488355328) (hbase : base ≤ w.heap.size) :
    Calls Try.prog 71 #[v, .int .i64 n, .slice (some ad) 1 vc] w (InsPostGram w base n v.ownBlock (xs ++ x)) := by
  obtain ⟨A, cap, rfl, hnc, hcm⟩ : ∃ A cap, v = .slice A n cap ∧ n ≤ cap ∧ cap ≤ maxLen := by
    rcases hown.2 with ⟨rfl, rfl⟩ | ⟨g, cap, cur, rfl, _, _, hnc, hcm, _⟩
    · exact ⟨none, 0, rfl, Nat.le_refl _, Nat.zero_le _⟩
    · exact ⟨_, cap, rfl, hnc, hcm⟩
  obtain ⟨v', w', hrun, hown', hgr, _, hblk⟩ := elGram.append w 41 base _ n xs hown ad 1 vc x (by omega) hxc h1x (by unfold maxLen; omega) hb hbase
  obtain ⟨bk, hbk⟩ : ∃ bk, bk = (Value.slice A n cap).ownBlock := ⟨_, rfl⟩
  rw [← hbk] at hgr hblk ⊢
  clear hbk
  have Hown := Lib.hid hown'
  have Hgr := Lib.hid hgr
  have Hblk := Lib.hid hblk
  have Hrun := Lib.hid hrun
  clear hown hown' hgr hblk hrun hxc h1x hx
  unfold maxLen at hcm
  go_enter Try.func71, Try.ntmps71
  go_wp2_with ((with_reducible refine wpl_append rfl (.tmp 23) (.tmp 24) 41 41 rfl ?_ ?_ Hrun.out ?_); exact rfl; exact rfl)
  all_goals (go_ret; exact ⟨v', rfl, Hown.out, Hgr.out, Hblk.out.imp id fun h => ⟨_, h, Nat.le_refl _⟩⟩)

set_option maxHeartbeats 1000000 in
set_option maxRecDepth 100000 in
theorem insGram_grow (w : World) (base g n cap : Nat) (xs : List Value) (hown : w.ownsRow base 33 3 (.slice (some ⟨g, 0, none⟩) n cap) n xs) (h1 : ∀ u ∈ xs, u.oneCell' = true) (i : Nat) (hi : i < n) (hgr : cap < n + 1) (ad : Addr) (vc : Nat) (x : List Value) (hx : x.length = 3)
    (hxc : ∀ j u, x[j]? = some u → w.cell? (ad.add j) = some u) (h1x : ∀ u ∈ x, u.oneCell' = true) (hb : (n + 1) * 48 ≤ 140737488355328) (hbase : base ≤ w.heap.size) :
    Calls Try.prog 71 #[.slice (some ⟨g, 0, none⟩) n cap, .int .i64 i, .slice (some ad) 1 vc] w (InsPostGram w base n (some g) (xs.take (i * 3) ++ x ++ xs.drop (i * 3))) := by
  have hxl := hown.1
  obtain ⟨hnc, hcm, hbg, cur, hg, hcs, htake⟩ : n ≤ cap ∧ cap ≤ maxLen ∧ base ≤ g ∧ ∃ cur, w.heap[g]? = some (.cells cur 33 (0, 0)) ∧ cur.size = cap * 3 ∧ cur.toList.take (n * 3) = xs := by
    rcases hown.2 with ⟨h, _⟩ | ⟨g', cap', cur, hv, hbg, hg, hnc, hcm, hcs, htake⟩
    · simp at h
    · simp only [Value.slice.injEq, Option.some.injEq, Addr.mk.injEq, and_true, true_and] at hv
      obtain ⟨rfl, rfl⟩ := hv
      exact ⟨hnc, hcm, hbg, cur, hg, hcs, htake⟩
  have hcm' := hcm
  unfold maxLen at hcm'
  have hcells : ∀ j u, xs[j]? = some u → w.cell? ((⟨g, 0, none⟩ : Addr).add j) = some u := hown.cells rfl
  obtain ⟨C, Z, hC, hCm, hZ, hZ1, hrun⟩ := run_append_make elGram w 41 3 (by kernel_rfl) g i cap (n + 1 - i) (by omega) (xs.take (i * 3)) (by rw [List.length_take, hxl]; omega)
    (fun j u hu => hcells j u (by rw [List.getElem?_take] at hu; split at hu; exact hu; cases hu)) (by omega) (by rw [show i + (n + 1 - i) = n + 1 by omega]; exact hb) (by unfold maxLen; omega)
  rw [show i + (n + 1 - i) = n + 1 by omega] at hC hrun
  rw [show ((n + 1 - i : Nat) : Int) = (n : Int) + 1 - (i : Int) by omega] at hrun
  have hCi : ¬ C = i := by omega
  have hCi1 : ¬ C = i + 1 := by omega
  have hin : ((i : Int) == (n : Int)) = false := by simp; omega
  have hcapi : ¬ cap = i := by omega
  obtain ⟨N, hN⟩ : ∃ N, N = w.heap.size := ⟨_, rfl⟩
  rw [← hN] at hrun
  obtain ⟨L1, hL1⟩ : ∃ L1, L1 = (xs.take (i * 3) ++ Z).toArray := ⟨_, rfl⟩
  rw [← hL1] at hrun
  obtain ⟨w1, hw1⟩ : ∃ w1, w1 = w.drew.alloc (.cells L1 33) := ⟨_, rfl⟩
  rw [← hw1] at hrun
  have hc1 : New w w1 := by rw [hw1]; exact ((Chg.refl w _).drew).alloc _
  have hg1 : Blk w1 N 33 L1 := by rw [hw1, hN]; exact Blk.new w.drew _ _
  have hL1s : L1.size = C * 3 := by rw [hL1]; simp only [List.size_toArray, List.length_append, List.length_take, hxl, hZ]; omega
  -- the element
  have hr2 := fun ty => run_copyK elGram w1 ty N (i * 3) (n + 1 - i) (C - i) ad 1 vc L1 33 x hg1 1 (by show min 1 _ = 1; omega) (by omega) (fun j v hv => hc1.cellS (hxc j v hv) id) (by omega) h1x
  obtain ⟨L2, hL2⟩ : ∃ L2, L2 = (L1.toList.take (i * 3) ++ x ++ L1.toList.drop (i * 3 + x.length)).toArray := ⟨_, rfl⟩
  rw [← hL2] at hr2
  obtain ⟨w2, hw2⟩ : ∃ w2, w2 = w1.setRow N L2 := ⟨_, rfl⟩
  rw [← hw2] at hr2
  have hc2 : New w w2 := by rw [hw2]; exact hc1.setRow _ _ (fun h => by omega)
  have hg2 : Blk w2.drew N 33 L2 := by rw [hw2]; exact hg1.set _
  have hL2s : L2.size = C * 3 := by rw [hL2]; simp only [List.size_toArray, List.length_append, List.length_take, List.length_drop, Array.length_toList, hL1s, hx]; omega
  -- what stood behind
  have hr3 := fun ty => run_copyK elGram w2.drew ty N ((i + 1) * 3) (n - i) (C - (i + 1)) ⟨g, i * 3, none⟩ (n - i) (cap - i) L2 33 (xs.drop (i * 3)) hg2 (n - i) (by show min _ _ = _; omega) (by rw [List.length_drop, hxl]; omega)
    (fun j v hv => by
      have h0 := hcells (i * 3 + j) v (by rw [← hv, List.getElem?_drop])
      rw [Addr.add_lit, Nat.zero_add] at h0
      rw [Addr.add_lit]
      exact hc2.cellS h0 id) (by rw [List.length_drop, hxl, hL2s]; omega) (fun u hu => h1 u (List.mem_of_mem_drop hu))
  obtain ⟨L3, hL3⟩ : ∃ L3, L3 = (L2.toList.take ((i + 1) * 3) ++ xs.drop (i * 3) ++ L2.toList.drop ((i + 1) * 3 + (xs.drop (i * 3)).length)).toArray := ⟨_, rfl⟩
  rw [← hL3] at hr3
  obtain ⟨w3, hw3⟩ : ∃ w3, w3 = w2.drew.setRow N L3 := ⟨_, rfl⟩
  rw [← hw3] at hr3
  have hc3 : New w w3 := by rw [hw3]; exact (hc2.drew).setRow _ _ (fun h => by omega)
  have hg3 : Blk w3 N 33 L3 := by rw [hw3]; exact hg2.set _
  have hL3s : L3.size = C * 3 := by rw [hL3]; simp only [List.size_toArray, List.length_append, List.length_take, List.length_drop, Array.length_toList, hL2s, hxl]; omega
  have hfin : InsPostGram w base n (some g) (xs.take (i * 3) ++ x ++ xs.drop (i * 3)) (.returned (.slice (some ⟨N, 0, none⟩) (n + 1) C)) w3 := by
    have e1 : L1.toList.take (i * 3) = xs.take (i * 3) := by
      rw [hL1]
      simp only []
      rw [List.take_append_of_le_length (by rw [List.length_take, hxl]; omega), List.take_take, Nat.min_self]
    have hlt : (xs.take (i * 3)).length = i * 3 := by rw [List.length_take, hxl]; omega
    have e2 : L2.toList.take ((i + 1) * 3) = xs.take (i * 3) ++ x := by
      rw [hL2, e1]
      simp only []
      rw [List.take_append_of_le_length (by rw [List.length_append, hlt, hx]; omega)]
      exact List.take_of_length_le (by rw [List.length_append, hlt, hx]; omega)
    refine ⟨_, rfl, ⟨?_, Or.inr ⟨N, C, L3, rfl, by omega, hg3, hC, hCm, hL3s, ?_⟩⟩, ((hc3.mono fun k _ h => h.elim)).to_grown, Or.inr ⟨N, rfl, by omega⟩⟩
    · rw [List.length_append, List.length_append, hlt, hx, List.length_drop, hxl]
      omega
    · rw [hL3, e2]
      simp only []
      rw [List.take_append_of_le_length (by rw [List.length_append, List.length_append, hlt, hx, List.length_drop, hxl]; omega)]
      exact List.take_of_length_le (by rw [List.length_append, List.length_append, hlt, hx, List.length_drop, hxl]; omega)
  have Hrun := Lib.hid hrun
  have Hr2 := Lib.hid hr2
  have Hr3 := Lib.hid hr3
  have Hfin := Lib.hid hfin
  clear hrun hr2 hr3 hfin hcells hxl hZ hZ1 h1 h1x hx hxc hown htake hcs hg hN hL1 hw1 hc1 hg1 hL1s hL2 hw2 hc2 hg2 hL2s hL3 hw3 hc3 hg3 hL3s
  go_enter Try.func71, Try.ntmps71
  go_wp2_with (first | ((with_reducible refine wpl_append rfl (.tmp 34) (.tmp 39) 41 3 rfl ?_ ?_ Hrun.out ?_); exact rfl; exact rfl) | ((with_reducible refine wpl_copy rfl (.tmp 43) (.tmp 44) 41 41 rfl ?_ ?_ (Hr2.out _) ?_); exact rfl; exact rfl))
  have s1 : IntKind.i64.wrap ((i : Int) + 1) = (i : Int) + 1 := by rw [IntKind.wrap_i64]; omega
  have s2 : (0 : Int) ≤ (i : Int) + 1 := by omega
  have s3 : ((i : Int) + 1).toNat = i + 1 := by omega
  have s4 : (i : Int) + 1 ≤ (n : Int) + 1 := by omega
  have s5 : i ≤ n := by omega
  go_still_tail 8, (by kernel_rfl)
  clear s1 s2 s3 s4 s5
  change wpList _ _ _ _ _ w2.drew
  refine wpl_copy rfl (.tmp 50) (.tmp 53) 41 41 rfl rfl rfl (Hr3.out _) ?_
  go_wp2_with fail
  go_ret
  exact Hfin.out

theorem overlapsGram (w : World) (vb g vc o n cap : Nat) (tb : TypeId) (vs cur : Array Value) (hv : Blk w vb tb vs) (hg : Blk w g 33 cur) (hne : vb ≠ g) (h0 : cur.size ≠ 0) :
    (callFunc 91 #[.slice (some ⟨vb, 0, none⟩) 1 vc, .slice (some ⟨g, o, none⟩) n cap]).run Try.prog w = .ok (.value (.bool false)) w := by
  rw [run_callFunc_extern (P := Try.prog) (f := 91) (fn := Try.f91) (by kernel_rfl) (by kernel_rfl) (by kernel_rfl) (by kernel_rfl) (e := Extern.SlicesOverlaps.overlaps #[41, 41] #[4]) (by kernel_rfl),
    Lib.run_overlaps_apart w 41 4 33 (by kernel_rfl) 3 (fun _ => by kernel_rfl) ⟨vb, 0, none⟩ ⟨g, o, none⟩ 1 vc n cap hne tb 33 vs.size cur.size (by simp [World.shape?, show w.heap[vb]? = _ from hv]) (by simp [World.shape?, show w.heap[g]? = _ from hg]) h0 (hv.frozen 0) (hv.frozen _)]
  rfl

set_option maxHeartbeats 1000000 in
set_option maxRecDepth 100000 in
theorem insGram_shift (w : World) (base g n cap : Nat) (xs : List Value) (hown : w.ownsRow base 33 3 (.slice (some ⟨g, 0, none⟩) n cap) n xs) (h1 : ∀ u ∈ xs, u.oneCell' = true) (i : Nat) (hi : i < n) (hgr : n + 1 ≤ cap) (vb vc : Nat) (x : List Value) (hx : x.length = 3) (tb : TypeId)
    (hv : Blk w vb tb x.toArray) (hne : vb ≠ g) (h1x : ∀ u ∈ x, u.oneCell' = true) :
    Calls Try.prog 71 #[.slice (some ⟨g, 0, none⟩) n cap, .int .i64 i, .slice (some ⟨vb, 0, none⟩) 1 vc] w (InsPostGram w base n (some g) (xs.take (i * 3) ++ x ++ xs.drop (i * 3))) := by
  have hxl := hown.1
  obtain ⟨hnc, hcm, hbg, cur, hg, hcs, htake⟩ : n ≤ cap ∧ cap ≤ maxLen ∧ base ≤ g ∧ ∃ cur, Blk w g 33 cur ∧ cur.size = cap * 3 ∧ cur.toList.take (n * 3) = xs := by
    rcases hown.2 with ⟨h, _⟩ | ⟨g', cap', cur, hv, hbg, hg, hnc, hcm, hcs, htake⟩
    · simp at h
    · simp only [Value.slice.injEq, Option.some.injEq, Addr.mk.injEq, and_true, true_and] at hv
      obtain ⟨rfl, rfl⟩ := hv
      exact ⟨hnc, hcm, hbg, cur, hg, hcs, htake⟩
  have hcm' := hcm
  unfold maxLen at hcm'
  have hcells : ∀ j u, xs[j]? = some u → w.cell? ((⟨g, 0, none⟩ : Addr).add j) = some u := hown.cells rfl
  have hin : ((i : Int) == (n : Int)) = false := by simp; omega
  have hcapi : ¬ cap = i := by omega
  have hcapi1 : ¬ cap = i + 1 := by omega
  have hov := overlapsGram w vb g vc ((i + 1) * 3) (n - i) (cap - (i + 1)) tb x.toArray cur hv hg hne (by rw [hcs]; omega)
  have hg0 : Blk w.drew g 33 cur := hg
  have hr2 := fun ty => run_copyK elGram w.drew ty g ((i + 1) * 3) (n - i) (cap - (i + 1)) ⟨g, i * 3, none⟩ (n + 1 - i) (cap - i) cur 33 (xs.drop (i * 3)) hg0 (n - i) (by show min _ _ = _; omega) (by rw [List.length_drop, hxl]; omega)
    (fun j v hv => by
      have h0 := hcells (i * 3 + j) v (by rw [← hv, List.getElem?_drop])
      rw [Addr.add_lit, Nat.zero_add] at h0
      rw [Addr.add_lit]
      exact h0) (by rw [List.length_drop, hxl, hcs]; omega) (fun u hu => h1 u (List.mem_of_mem_drop hu))
  obtain ⟨L2, hL2⟩ : ∃ L2, L2 = (cur.toList.take ((i + 1) * 3) ++ xs.drop (i * 3) ++ cur.toList.drop ((i + 1) * 3 + (xs.drop (i * 3)).length)).toArray := ⟨_, rfl⟩
  rw [← hL2] at hr2
  obtain ⟨w2, hw2⟩ : ∃ w2, w2 = w.drew.setRow g L2 := ⟨_, rfl⟩
  rw [← hw2] at hr2
  have hc2 : Chg w w2 (fun k => some k = some g) := by rw [hw2]; exact ((Chg.refl w _).drew).setRow _ _ (fun _ => rfl)
  have hg2 : Blk w2 g 33 L2 := by rw [hw2]; exact hg0.set _
  have hL2s : L2.size = cap * 3 := by rw [hL2]; simp only [List.size_toArray, List.length_append, List.length_take, List.length_drop, Array.length_toList, hcs, hxl]; omega
  have hv2 : Blk w2 vb tb x.toArray := hv.chg hc2 (by simpa using hne)
  have hr3 := fun ty => run_copyK elGram w2 ty g (i * 3) (n + 1 - i) (cap - i) ⟨vb, 0, none⟩ 1 vc L2 33 x hg2 1 (by show min 1 _ = 1; omega) (by omega) (fun j v hj => by rw [Addr.add_lit, Nat.zero_add, hv2.cell]; simpa using hj) (by omega) h1x
  obtain ⟨L3, hL3⟩ : ∃ L3, L3 = (L2.toList.take (i * 3) ++ x ++ L2.toList.drop (i * 3 + x.length)).toArray := ⟨_, rfl⟩
  rw [← hL3] at hr3
  obtain ⟨w3, hw3⟩ : ∃ w3, w3 = w2.setRow g L3 := ⟨_, rfl⟩
  rw [← hw3] at hr3
  have hc3 : Chg w w3 (fun k => some k = some g) := by rw [hw3]; exact hc2.setRow _ _ (fun _ => rfl)
  have hg3 : Blk w3 g 33 L3 := by rw [hw3]; exact hg2.set _
  have hL3s : L3.size = cap * 3 := by rw [hL3]; simp only [List.size_toArray, List.length_append, List.length_take, List.length_drop, Array.length_toList, hL2s, hx]; omega
  have hfin : InsPostGram w base n (some g) (xs.take (i * 3) ++ x ++ xs.drop (i * 3)) (.returned (.slice (some ⟨g, 0, none⟩) (n + 1) cap)) w3 := by
    have hcl : cur.toList.length = cap * 3 := by rw [Array.length_toList, hcs]
    have e1 : L2.toList.take (i * 3) = xs.take (i * 3) := by
      rw [hL2]
      simp only []
      rw [List.append_assoc, List.take_append_of_le_length (by rw [List.length_take, hcl]; omega), List.take_take, ← htake, List.take_take]
      congr 1
      omega
    have e2 : (L2.toList.drop (i * 3 + x.length)).take ((n - i) * 3) = xs.drop (i * 3) := by
      rw [hL2, hx]
      simp only []
      rw [List.append_assoc, show i * 3 + 3 = ((cur.toList.take ((i + 1) * 3)).length) from by rw [List.length_take, hcl]; omega, List.drop_left]
      rw [List.take_append_of_le_length (by rw [List.length_drop, hxl]; omega)]
      exact List.take_of_length_le (by rw [List.length_drop, hxl]; omega)
    have hlt : (xs.take (i * 3)).length = i * 3 := by rw [List.length_take, hxl]; omega
    refine ⟨_, rfl, ⟨?_, Or.inr ⟨g, cap, L3, rfl, hbg, hg3, by omega, hcm, hL3s, ?_⟩⟩, hc3.to_grown, Or.inl rfl⟩
    · rw [List.length_append, List.length_append, hlt, hx, List.length_drop, hxl]
      omega
    · rw [hL3, e1]
      simp only []
      rw [show (n + 1) * 3 = (xs.take (i * 3) ++ x).length + (n - i) * 3 from by rw [List.length_append, hlt, hx]; omega, List.take_length_add_append, e2]
  have hdc : decide ((cap : Int) < (n : Int) + 1) = false := by simp; omega
  have Hr2 := Lib.hid hr2
  have Hr3 := Lib.hid hr3
  have Hfin := Lib.hid hfin
  clear hr2 hr3 hfin hcells hxl h1 h1x hx hown htake hcs hg hg0 hL2 hw2 hc2 hg2 hL2s hL3 hw3 hc3 hg3 hL3s hv hv2 hne
  go_enter Try.func71, Try.ntmps71
  go_wp2_with fail
  have s1 : IntKind.i64.wrap ((i : Int) + 1) = (i : Int) + 1 := by rw [IntKind.wrap_i64]; omega
  have s2 : (0 : Int) ≤ (i : Int) + 1 := by omega
  have s3 : ((i : Int) + 1).toNat = i + 1 := by omega
  have s4 : (i : Int) + 1 ≤ (n : Int) + 1 := by omega
  have s5 : i ≤ n := by omega
  have s6 : (i : Int) ≤ (n : Int) + 1 := by omega
  go_still_tail 8, (by kernel_rfl)
  clear s1 s2 s3 s4 s5 s6
  change wpList _ _ _ _ _ w.drew
  refine wpl_copy rfl (.tmp 73) (.tmp 76) 41 41 rfl ?_ ?_ (Hr2.out _) ?_
  · rfl
  · rfl
  go_wp2_with ((with_reducible refine wpl_copy rfl (.tmp 80) (.tmp 81) 41 41 rfl ?_ ?_ (Hr3.out _) ?_); exact rfl; exact rfl)
  go_ret
  exact Hfin.out

/-- slices.Insert(s, i, x) of one element, on a row that the caller owns. -/
theorem insGram (w : World) (base : Nat) (v : Value) (n : Nat) (xs : List Value) (hown : w.ownsRow base 33 3 v n xs) (h1 : ∀ u ∈ xs, u.oneCell' = true) (i : Nat) (hi : i ≤ n) (vb vc : Nat) (x : List Value) (hx : x.length = 3) (tb : TypeId)
    (hv : Blk w vb tb x.toArray) (hne : v.ownBlock ≠ some vb) (h1x : ∀ u ∈ x, u.oneCell' = true) (hb : (n + 1) * 48 ≤ 140737488355328) (hbase : base ≤ w.heap.size) :
    Calls Try.prog 71 #[v, .int .i64 i, .slice (some ⟨vb, 0, none⟩) 1 vc] w (InsPostGram w base n v.ownBlock (xs.take (i * 3) ++ x ++ xs.drop (i * 3))) := by
  have hxc : ∀ j u, x[j]? = some u → w.cell? ((⟨vb, 0, none⟩ : Addr).add j) = some u := fun j u hj => by rw [Addr.add_lit, Nat.zero_add, hv.cell]; simpa using hj
  by_cases hin : i = n
  · subst hin
    have h := insGram_end w base v i xs hown ⟨vb, 0, none⟩ vc x hx hxc h1x hb hbase
    have e1 : xs.take (i * 3) = xs := List.take_of_length_le (by rw [hown.1]; exact Nat.le_refl _)
    have e2 : xs.drop (i * 3) = [] := List.drop_eq_nil_of_le (by rw [hown.1]; exact Nat.le_refl _)
    rw [e1, e2, List.append_nil]
    exact h
  · obtain ⟨g, cap, rfl, _⟩ := hown.form (by omega)
    by_cases hc : n + 1 ≤ cap
    · exact insGram_shift w base g n cap xs hown h1 i (by omega) hc vb vc x hx tb hv (fun e => hne (by simp [Value.ownBlock, e])) h1x
    · exact insGram_grow w base g n cap xs hown h1 i (by omega) (by omega) ⟨vb, 0, none⟩ vc x hx hxc h1x hb hbase
end Go.Proofs.Ytenkobgeflckdaa
