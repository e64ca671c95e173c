/- slices.Delete over Value, on a row that the caller owns; slices.Insert of one element over Value, on a row that the caller owns; slices.IndexFunc over Row. -/
import Derived.Test.YtfocjfnkcabbgaaGreatApp
set_option linter.unusedVariables false
set_option linter.unusedSimpArgs false
namespace Go.Proofs.YtfocjfnkcabbgaaGreat
open Go.RowKit

/-- Where a slice's tail begins, and what lies there. -/
theorem tailAtValue {w : World} {g cap n : Nat} {cur : Array Value} {tb : TypeId} (hg : w.heap[g]? = some (.cells cur tb (0, 0))) (hcs : cur.size = cap * 4) (j : Nat) (hj : j ≤ n) (hnc : n ≤ cap) (xs : List Value) (hx : cur.toList.take (n * 4) = xs) :
    ∃ A : Addr, (if cap = j then some (⟨g, 0, none⟩ : Addr) else some ⟨g, j * 4, none⟩) = some A ∧ ∀ q u, (xs.drop (j * 4))[q]? = some u → w.cell? (A.add q) = some u := by
  by_cases h : cap = j
  · refine ⟨⟨g, 0, none⟩, by simp [h], fun q u hu => ?_⟩
    have : (xs.drop (j * 4)).length = 0 := by
      rw [← hx]
      simp
      omega
    rw [List.eq_nil_of_length_eq_zero this] at hu
    simp at hu
  · refine ⟨⟨g, j * 4, none⟩, by simp [h], fun q u hu => ?_⟩
    rw [Addr.add_lit, cell_of_row w g _ cur tb (0, 0) hg]
    rw [List.getElem?_drop, ← hx, List.getElem?_take] at hu
    split at hu
    · simpa using hu
    · simp at hu

set_option maxHeartbeats 1000000 in
set_option maxRecDepth 100000 in
theorem delValue_mid (w : World) (base : Nat) (g n cap : Nat) (xs : List Value) (hown : w.ownsRow base 40 4 (.slice (some ⟨g, 0, none⟩) n cap) n xs) (h1 : ∀ u ∈ xs, u.oneCell' = true) (i j : Nat) (hij : i < j) (hj : j ≤ n) :
    Calls Tryz.prog 51 #[.slice (some ⟨g, 0, none⟩) n cap, .int .i64 i, .int .i64 j] w fun e w' => e = .returned (.slice (some ⟨g, 0, none⟩) (i + (n - j)) cap) ∧
      w'.ownsRow base 40 4 (.slice (some ⟨g, 0, none⟩) (i + (n - j)) cap) (i + (n - j)) (xs.take (i * 4) ++ xs.drop (j * 4)) ∧ w.grownBy w' (some g) := by
  have hijb : ((i : Int) == (j : Int)) = false := by simp; omega
  rcases hown.2 with ⟨h, _⟩ | ⟨g', cap', cur, hv, hbg, hg, hnc, hcm, hcs, htake⟩
  · simp at h
  · simp only [Value.slice.injEq, Option.some.injEq, Addr.mk.injEq, and_true, true_and] at hv
    obtain ⟨rfl, rfl⟩ := hv
    have hxl := hown.1
    have hcm' := hcm
    unfold maxLen at hcm'
    obtain ⟨A, hA, hnews⟩ := tailAtValue hg hcs j hj hnc xs htake
    obtain ⟨inf, z, hi, hz, hs, hby, hzz, hzl⟩ := elValue.info
    have hrun := fun ty => run_append_room (P := Tryz.prog) w.drew 38 ty 40 inf elValue.und hi g i cap cur hg A (n - j) (cap - j) (xs.drop (j * 4)) (by rw [hs, List.length_drop, hxl]; omega) hnews (fun u hu => h1 u (List.mem_of_mem_drop hu)) (by omega) (by rw [hs, List.length_drop, hxl, hcs]; omega)
    rw [hs] at hrun
    have hic : i ≤ cap := by omega
    have Hrun := Lib.hid hrun
    clear hrun hnews
    have HT := Lib.hid htake
    have Hx := Lib.hid hxl
    have Hc := Lib.hid hcs
    clear htake hxl hcs hi hz hs hby hzz hzl
    go_enter Tryz.func51, Tryz.ntmps51
    go_wp2_with fail
    go_still_tail 6, (by kernel_rfl)
    change wpList _ _ _ _ _ w.drew
    refine wpl_append rfl (.tmp 22) (.tmp 25) 38 38 rfl rfl rfl (Hrun.out _) ?_
    obtain ⟨L2, hL2⟩ : ∃ L2, L2 = (cur.toList.take (i * 4) ++ xs.drop (j * 4) ++ cur.toList.drop (i * 4 + (xs.drop (j * 4)).length)).toArray := ⟨_, rfl⟩
    rw [← hL2]
    have HL2 := Lib.hid hL2
    clear hL2
    obtain ⟨w2, hw2⟩ : ∃ w2, w2 = w.drew.setRow g L2 := ⟨_, rfl⟩
    rw [← hw2]
    have HW := Lib.hid hw2
    clear hw2
    have hne : ¬ (cap = i + (n - j)) := by omega
    have hb1 : i + (n - j) ≤ n := by omega
    have hL2s : L2.size = cur.size := by
      rw [HL2.out]
      simp only [List.size_toArray, List.length_append, List.length_take, List.length_drop, Array.length_toList, Hx.out, Hc.out]
      omega
    have hg2 : w2.heap[g]? = some (.cells L2 40 (0, 0)) := by
      rw [HW.out]
      exact setRow_heap w.drew g cur L2 40 _ hg
    obtain ⟨Z, hZ, hcl⟩ := run_clearK elValue w2 0 g ((i + (n - j)) * 4) (n - (i + (n - j))) (cap - (i + (n - j))) L2 40 hg2 (by rw [hL2s, Hc.out]; omega)
    have HZ := Lib.hid hZ
    have HLs := Lib.hid hL2s
    clear hZ hL2s hown h1
    go_wp2_with fail
    go_ret
    refine ⟨rfl, ⟨?_, Or.inr ⟨g, cap, _, rfl, hbg, setRow_heap w2 g L2 _ 40 _ hg2, by omega, hcm, ?_, ?_⟩⟩, ?_⟩
    · simp only [List.length_append, List.length_take, List.length_drop, Hx.out]
      omega
    · simp only [List.size_toArray, List.length_append, List.length_take, List.length_drop, Array.length_toList, HZ.out, HLs.out, Hc.out]
      omega
    · have hlen : (xs.take (i * 4) ++ xs.drop (j * 4)).length = (i + (n - j)) * 4 := by
        simp only [List.length_append, List.length_take, List.length_drop, Hx.out]
        omega
      have e1 : L2.toList.take ((i + (n - j)) * 4) = xs.take (i * 4) ++ xs.drop (j * 4) := by
        rw [HL2.out, ← hlen]
        simp only []
        rw [show cur.toList.take (i * 4) = xs.take (i * 4) from by rw [← HT.out, List.take_take]; congr 1; omega]
        exact List.take_left
      simp only []
      rw [List.take_append_of_le_length (by simp only [List.length_take, Array.length_toList, HLs.out, Hc.out]; omega), List.take_take, Nat.min_self]
      exact e1
    · rw [HW.out]
      exact ⟨rfl, rfl, rfl, by simp, fun q _ hq => by rw [setRow_other _ _ _ _ (fun e => hq (by rw [e])), setRow_other _ _ _ _ (fun e => hq (by rw [e]))]; rfl⟩
set_option maxHeartbeats 400000 in
theorem delValue_same (w : World) (A : Option Addr) (n cap i j : Nat) (hij : j ≤ i) (hi : i ≤ j) (hj : j ≤ n) (hnc : n ≤ cap) (hcm : cap ≤ maxLen) :
    Calls Tryz.prog 51 #[.slice A n cap, .int .i64 i, .int .i64 j] w fun e w' => e = .returned (.slice A n cap) ∧ w = w' := by
  unfold maxLen at hcm
  have hb : ((i : Int) == (j : Int)) = true := by simp; omega
  go_enter Tryz.func51, Tryz.ntmps51
  go_wp2_with fail
  all_goals (go_ret; exact ⟨rfl, rfl⟩)

/-- slices.Delete(s, i, j) of a row that the caller owns. -/
theorem delValue (w : World) (base : Nat) (v : Value) (n : Nat) (xs : List Value) (hown : w.ownsRow base 40 4 v n xs) (h1 : ∀ u ∈ xs, u.oneCell' = true) (i j : Nat) (hij : i ≤ j) (hj : j ≤ n) :
    Calls Tryz.prog 51 #[v, .int .i64 i, .int .i64 j] w fun e w' => ∃ v', e = .returned v' ∧ w'.ownsRow base 40 4 v' (n - (j - i)) (xs.take (i * 4) ++ xs.drop (j * 4)) ∧ w.grownBy w' v.ownBlock ∧ v'.ownBlock = v.ownBlock := by
  by_cases he : i = j
  · subst he
    obtain ⟨A, cap, rfl, hnc, hcm⟩ : ∃ A cap, v = .slice A n cap ∧ n ≤ cap ∧ cap ≤ maxLen := by
      rcases hown.2 with ⟨rfl, rfl⟩ | ⟨g, cap, cur, rfl, _, _, hnc, hcm, _⟩
      · exact ⟨none, 0, rfl, Nat.le_refl _, Nat.zero_le _⟩
      · exact ⟨_, cap, rfl, hnc, hcm⟩
    refine (delValue_same w A n cap i i (Nat.le_refl _) (Nat.le_refl _) hj hnc hcm).mono ?_
    rintro e w' ⟨rfl, rfl⟩
    exact ⟨_, rfl, by simpa using hown, World.grownBy.refl w _, rfl⟩
  · obtain ⟨g, cap, rfl, _⟩ := hown.form (by omega)
    refine (delValue_mid w base g n cap xs hown h1 i j (by omega) hj).mono ?_
    rintro e w' ⟨rfl, h, hg⟩
    exact ⟨_, rfl, by rw [show n - (j - i) = i + (n - j) by omega]; exact h, hg, rfl⟩
end Go.Proofs.YtfocjfnkcabbgaaGreat

set_option linter.unusedVariables false
namespace Go.Proofs.YtfocjfnkcabbgaaGreat
open Go.RowKit

/-- What slices.Insert leaves. -/
def InsPostValue (w : World) (base n : Nat) (bk : Option Nat) (ys : List Value) (e : Ending) (w' : World) : Prop :=
  ∃ v', e = .returned v' ∧ w'.ownsRow base 40 4 v' (n + 1) ys ∧ w.grownBy w' bk ∧ (v'.ownBlock = bk ∨ ∃ g, v'.ownBlock = some g ∧ w.heap.size ≤ g)

set_option maxHeartbeats 1000000 in
set_option maxRecDepth 100000 in
theorem insValue_end (w : World) (base : Nat) (v : Value) (n : Nat) (xs : List Value) (hown : w.ownsRow base 40 4 v n xs) (ad : Addr) (vc : Nat) (x : List Value) (hx : x.length = 4)
    (hxc : ∀ j u, x[j]? = some u → w.cell? (ad.add j) = some u) (h1x : ∀ u ∈ x, u.oneCell' = true) (hb : (n + 1) * 56 ≤ 140737488355328) (hbase : base ≤ w.heap.size) :
    Calls Tryz.prog 56 #[v, .int .i64 n, .slice (some ad) 1 vc] w (InsPostValue w base n v.ownBlock (xs ++ x)) := by
  obtain ⟨A, cap, rfl, hnc, hcm⟩ : ∃ A cap, v = .slice A n cap ∧ n ≤ cap ∧ cap ≤ maxLen := by
    rcases hown.2 with ⟨rfl, rfl⟩ | ⟨g, cap, cur, rfl, _, _, hnc, hcm, _⟩
    · exact ⟨none, 0, rfl, Nat.le_refl _, Nat.zero_le _⟩
    · exact ⟨_, cap, rfl, hnc, hcm⟩
  obtain ⟨v', w', hrun, hown', hgr, _, hblk⟩ := elValue.append w 38 base _ n xs hown ad 1 vc x (by omega) hxc h1x (by unfold maxLen; omega) hb hbase
  obtain ⟨bk, hbk⟩ : ∃ bk, bk = (Value.slice A n cap).ownBlock := ⟨_, rfl⟩
  rw [← hbk] at hgr hblk ⊢
  clear hbk
  have Hown := Lib.hid hown'
  have Hgr := Lib.hid hgr
  have Hblk := Lib.hid hblk
  have Hrun := Lib.hid hrun
  clear hown hown' hgr hblk hrun hxc h1x hx
  unfold maxLen at hcm
  go_enter Tryz.func56, Tryz.ntmps56
  go_wp2_with ((with_reducible refine wpl_append rfl (.tmp 23) (.tmp 24) 38 38 rfl ?_ ?_ Hrun.out ?_); exact rfl; exact rfl)
  all_goals (go_ret; exact ⟨v', rfl, Hown.out, Hgr.out, Hblk.out.imp id fun h => ⟨_, h, Nat.le_refl _⟩⟩)

set_option maxHeartbeats 1000000 in
set_option maxRecDepth 100000 in
theorem insValue_grow (w : World) (base g n cap : Nat) (xs : List Value) (hown : w.ownsRow base 40 4 (.slice (some ⟨g, 0, none⟩) n cap) n xs) (h1 : ∀ u ∈ xs, u.oneCell' = true) (i : Nat) (hi : i < n) (hgr : cap < n + 1) (ad : Addr) (vc : Nat) (x : List Value) (hx : x.length = 4)
    (hxc : ∀ j u, x[j]? = some u → w.cell? (ad.add j) = some u) (h1x : ∀ u ∈ x, u.oneCell' = true) (hb : (n + 1) * 56 ≤ 140737488355328) (hbase : base ≤ w.heap.size) :
    Calls Tryz.prog 56 #[.slice (some ⟨g, 0, none⟩) n cap, .int .i64 i, .slice (some ad) 1 vc] w (InsPostValue w base n (some g) (xs.take (i * 4) ++ x ++ xs.drop (i * 4))) := by
  have hxl := hown.1
  obtain ⟨hnc, hcm, hbg, cur, hg, hcs, htake⟩ : n ≤ cap ∧ cap ≤ maxLen ∧ base ≤ g ∧ ∃ cur, w.heap[g]? = some (.cells cur 40 (0, 0)) ∧ cur.size = cap * 4 ∧ cur.toList.take (n * 4) = xs := by
    rcases hown.2 with ⟨h, _⟩ | ⟨g', cap', cur, hv, hbg, hg, hnc, hcm, hcs, htake⟩
    · simp at h
    · simp only [Value.slice.injEq, Option.some.injEq, Addr.mk.injEq, and_true, true_and] at hv
      obtain ⟨rfl, rfl⟩ := hv
      exact ⟨hnc, hcm, hbg, cur, hg, hcs, htake⟩
  have hcm' := hcm
  unfold maxLen at hcm'
  have hcells : ∀ j u, xs[j]? = some u → w.cell? ((⟨g, 0, none⟩ : Addr).add j) = some u := hown.cells rfl
  obtain ⟨C, Z, hC, hCm, hZ, hZ1, hrun⟩ := run_append_make elValue w 38 3 (by kernel_rfl) g i cap (n + 1 - i) (by omega) (xs.take (i * 4)) (by rw [List.length_take, hxl]; omega)
    (fun j u hu => hcells j u (by rw [List.getElem?_take] at hu; split at hu; exact hu; cases hu)) (by omega) (by rw [show i + (n + 1 - i) = n + 1 by omega]; exact hb) (by unfold maxLen; omega)
  rw [show i + (n + 1 - i) = n + 1 by omega] at hC hrun
  rw [show ((n + 1 - i : Nat) : Int) = (n : Int) + 1 - (i : Int) by omega] at hrun
  have hCi : ¬ C = i := by omega
  have hCi1 : ¬ C = i + 1 := by omega
  have hin : ((i : Int) == (n : Int)) = false := by simp; omega
  have hcapi : ¬ cap = i := by omega
  obtain ⟨N, hN⟩ : ∃ N, N = w.heap.size := ⟨_, rfl⟩
  rw [← hN] at hrun
  obtain ⟨L1, hL1⟩ : ∃ L1, L1 = (xs.take (i * 4) ++ Z).toArray := ⟨_, rfl⟩
  rw [← hL1] at hrun
  obtain ⟨w1, hw1⟩ : ∃ w1, w1 = w.drew.alloc (.cells L1 40) := ⟨_, rfl⟩
  rw [← hw1] at hrun
  have hc1 : New w w1 := by rw [hw1]; exact ((Chg.refl w _).drew).alloc _
  have hg1 : Blk w1 N 40 L1 := by rw [hw1, hN]; exact Blk.new w.drew _ _
  have hL1s : L1.size = C * 4 := by rw [hL1]; simp only [List.size_toArray, List.length_append, List.length_take, hxl, hZ]; omega
  -- the element
  have hr2 := fun ty => run_copyK elValue w1 ty N (i * 4) (n + 1 - i) (C - i) ad 1 vc L1 40 x hg1 1 (by show min 1 _ = 1; omega) (by omega) (fun j v hv => hc1.cellS (hxc j v hv) id) (by omega) h1x
  obtain ⟨L2, hL2⟩ : ∃ L2, L2 = (L1.toList.take (i * 4) ++ x ++ L1.toList.drop (i * 4 + x.length)).toArray := ⟨_, rfl⟩
  rw [← hL2] at hr2
  obtain ⟨w2, hw2⟩ : ∃ w2, w2 = w1.setRow N L2 := ⟨_, rfl⟩
  rw [← hw2] at hr2
  have hc2 : New w w2 := by rw [hw2]; exact hc1.setRow _ _ (fun h => by omega)
  have hg2 : Blk w2.drew N 40 L2 := by rw [hw2]; exact hg1.set _
  have hL2s : L2.size = C * 4 := by rw [hL2]; simp only [List.size_toArray, List.length_append, List.length_take, List.length_drop, Array.length_toList, hL1s, hx]; omega
  -- what stood behind
  have hr3 := fun ty => run_copyK elValue w2.drew ty N ((i + 1) * 4) (n - i) (C - (i + 1)) ⟨g, i * 4, none⟩ (n - i) (cap - i) L2 40 (xs.drop (i * 4)) hg2 (n - i) (by show min _ _ = _; omega) (by rw [List.length_drop, hxl]; omega)
    (fun j v hv => by
      have h0 := hcells (i * 4 + j) v (by rw [← hv, List.getElem?_drop])
      rw [Addr.add_lit, Nat.zero_add] at h0
      rw [Addr.add_lit]
      exact hc2.cellS h0 id) (by rw [List.length_drop, hxl, hL2s]; omega) (fun u hu => h1 u (List.mem_of_mem_drop hu))
  obtain ⟨L3, hL3⟩ : ∃ L3, L3 = (L2.toList.take ((i + 1) * 4) ++ xs.drop (i * 4) ++ L2.toList.drop ((i + 1) * 4 + (xs.drop (i * 4)).length)).toArray := ⟨_, rfl⟩
  rw [← hL3] at hr3
  obtain ⟨w3, hw3⟩ : ∃ w3, w3 = w2.drew.setRow N L3 := ⟨_, rfl⟩
  rw [← hw3] at hr3
  have hc3 : New w w3 := by rw [hw3]; exact (hc2.drew).setRow _ _ (fun h => by omega)
  have hg3 : Blk w3 N 40 L3 := by rw [hw3]; exact hg2.set _
  have hL3s : L3.size = C * 4 := by rw [hL3]; simp only [List.size_toArray, List.length_append, List.length_take, List.length_drop, Array.length_toList, hL2s, hxl]; omega
  have hfin : InsPostValue w base n (some g) (xs.take (i * 4) ++ x ++ xs.drop (i * 4)) (.returned (.slice (some ⟨N, 0, none⟩) (n + 1) C)) w3 := by
    have e1 : L1.toList.take (i * 4) = xs.take (i * 4) := by
      rw [hL1]
      simp only []
      rw [List.take_append_of_le_length (by rw [List.length_take, hxl]; omega), List.take_take, Nat.min_self]
    have hlt : (xs.take (i * 4)).length = i * 4 := by rw [List.length_take, hxl]; omega
    have e2 : L2.toList.take ((i + 1) * 4) = xs.take (i * 4) ++ x := by
      rw [hL2, e1]
      simp only []
      rw [List.take_append_of_le_length (by rw [List.length_append, hlt, hx]; omega)]
      exact List.take_of_length_le (by rw [List.length_append, hlt, hx]; omega)
    refine ⟨_, rfl, ⟨?_, Or.inr ⟨N, C, L3, rfl, by omega, hg3, hC, hCm, hL3s, ?_⟩⟩, ((hc3.mono fun k _ h => h.elim)).to_grown, Or.inr ⟨N, rfl, by omega⟩⟩
    · rw [List.length_append, List.length_append, hlt, hx, List.length_drop, hxl]
      omega
    · rw [hL3, e2]
      simp only []
      rw [List.take_append_of_le_length (by rw [List.length_append, List.length_append, hlt, hx, List.length_drop, hxl]; omega)]
      exact List.take_of_length_le (by rw [List.length_append, List.length_append, hlt, hx, List.length_drop, hxl]; omega)
  have Hrun := Lib.hid hrun
  have Hr2 := Lib.hid hr2
  have Hr3 := Lib.hid hr3
  have Hfin := Lib.hid hfin
  clear hrun hr2 hr3 hfin hcells hxl hZ hZ1 h1 h1x hx hxc hown htake hcs hg hN hL1 hw1 hc1 hg1 hL1s hL2 hw2 hc2 hg2 hL2s hL3 hw3 hc3 hg3 hL3s
  go_enter Tryz.func56, Tryz.ntmps56
  go_wp2_with (first | ((with_reducible refine wpl_append rfl (.tmp 34) (.tmp 39) 38 3 rfl ?_ ?_ Hrun.out ?_); exact rfl; exact rfl) | ((with_reducible refine wpl_copy rfl (.tmp 43) (.tmp 44) 38 38 rfl ?_ ?_ (Hr2.out _) ?_); exact rfl; exact rfl))
  have s1 : IntKind.i64.wrap ((i : Int) + 1) = (i : Int) + 1 := by rw [IntKind.wrap_i64]; omega
  have s2 : (0 : Int) ≤ (i : Int) + 1 := by omega
  have s3 : ((i : Int) + 1).toNat = i + 1 := by omega
  have s4 : (i : Int) + 1 ≤ (n : Int) + 1 := by omega
  have s5 : i ≤ n := by omega
  go_still_tail 8, (by kernel_rfl)
  clear s1 s2 s3 s4 s5
  change wpList _ _ _ _ _ w2.drew
  refine wpl_copy rfl (.tmp 50) (.tmp 53) 38 38 rfl rfl rfl (Hr3.out _) ?_
  go_wp2_with fail
  go_ret
  exact Hfin.out

theorem overlapsValue (w : World) (vb g vc o n cap : Nat) (tb : TypeId) (vs cur : Array Value) (hv : Blk w vb tb vs) (hg : Blk w g 40 cur) (hne : vb ≠ g) (h0 : cur.size ≠ 0) :
    (callFunc 68 #[.slice (some ⟨vb, 0, none⟩) 1 vc, .slice (some ⟨g, o, none⟩) n cap]).run Tryz.prog w = .ok (.value (.bool false)) w := by
  rw [run_callFunc_extern (P := Tryz.prog) (f := 68) (fn := Tryz.f68) (by kernel_rfl) (by kernel_rfl) (by kernel_rfl) (by kernel_rfl) (e := Extern.SlicesOverlaps.overlaps #[38, 38] #[4]) (by kernel_rfl),
    Lib.run_overlaps_apart w 38 4 40 (by kernel_rfl) 4 (fun _ => by kernel_rfl) ⟨vb, 0, none⟩ ⟨g, o, none⟩ 1 vc n cap hne tb 40 vs.size cur.size (by simp [World.shape?, show w.heap[vb]? = _ from hv]) (by simp [World.shape?, show w.heap[g]? = _ from hg]) h0 (hv.frozen 0) (hv.frozen _)]
  rfl

set_option maxHeartbeats 1000000 in
set_option maxRecDepth 100000 in
theorem insValue_shift (w : World) (base g n cap : Nat) (xs : List Value) (hown : w.ownsRow base 40 4 (.slice (some ⟨g, 0, none⟩) n cap) n xs) (h1 : ∀ u ∈ xs, u.oneCell' = true) (i : Nat) (hi : i < n) (hgr : n + 1 ≤ cap) (vb vc : Nat) (x : List Value) (hx : x.length = 4) (tb : TypeId)
    (hv : Blk w vb tb x.toArray) (hne : vb ≠ g) (h1x : ∀ u ∈ x, u.oneCell' = true) :
    Calls Tryz.prog 56 #[.slice (some ⟨g, 0, none⟩) n cap, .int .i64 i, .slice (some ⟨vb, 0, none⟩) 1 vc] w (InsPostValue w base n (some g) (xs.take (i * 4) ++ x ++ xs.drop (i * 4))) := by
  have hxl := hown.1
  obtain ⟨hnc, hcm, hbg, cur, hg, hcs, htake⟩ : n ≤ cap ∧ cap ≤ maxLen ∧ base ≤ g ∧ ∃ cur, Blk w g 40 cur ∧ cur.size = cap * 4 ∧ cur.toList.take (n * 4) = xs := by
    rcases hown.2 with ⟨h, _⟩ | ⟨g', cap', cur, hv, hbg, hg, hnc, hcm, hcs, htake⟩
    · simp at h
    · simp only [Value.slice.injEq, Option.some.injEq, Addr.mk.injEq, and_true, true_and] at hv
      obtain ⟨rfl, rfl⟩ := hv
      exact ⟨hnc, hcm, hbg, cur, hg, hcs, htake⟩
  have hcm' := hcm
  unfold maxLen at hcm'
  have hcells : ∀ j u, xs[j]? = some u → w.cell? ((⟨g, 0, none⟩ : Addr).add j) = some u := hown.cells rfl
  have hin : ((i : Int) == (n : Int)) = false := by simp; omega
  have hcapi : ¬ cap = i := by omega
  have hcapi1 : ¬ cap = i + 1 := by omega
  have hov := overlapsValue w vb g vc ((i + 1) * 4) (n - i) (cap - (i + 1)) tb x.toArray cur hv hg hne (by rw [hcs]; omega)
  have hg0 : Blk w.drew g 40 cur := hg
  have hr2 := fun ty => run_copyK elValue w.drew ty g ((i + 1) * 4) (n - i) (cap - (i + 1)) ⟨g, i * 4, none⟩ (n + 1 - i) (cap - i) cur 40 (xs.drop (i * 4)) hg0 (n - i) (by show min _ _ = _; omega) (by rw [List.length_drop, hxl]; omega)
    (fun j v hv => by
      have h0 := hcells (i * 4 + j) v (by rw [← hv, List.getElem?_drop])
      rw [Addr.add_lit, Nat.zero_add] at h0
      rw [Addr.add_lit]
      exact h0) (by rw [List.length_drop, hxl, hcs]; omega) (fun u hu => h1 u (List.mem_of_mem_drop hu))
  obtain ⟨L2, hL2⟩ : ∃ L2, L2 = (cur.toList.take ((i + 1) * 4) ++ xs.drop (i * 4) ++ cur.toList.drop ((i + 1) * 4 + (xs.drop (i * 4)).length)).toArray := ⟨_, rfl⟩
  rw [← hL2] at hr2
  obtain ⟨w2, hw2⟩ : ∃ w2, w2 = w.drew.setRow g L2 := ⟨_, rfl⟩
  rw [← hw2] at hr2
  have hc2 : Chg w w2 (fun k => some k = some g) := by rw [hw2]; exact ((Chg.refl w _).drew).setRow _ _ (fun _ => rfl)
  have hg2 : Blk w2 g 40 L2 := by rw [hw2]; exact hg0.set _
  have hL2s : L2.size = cap * 4 := by rw [hL2]; simp only [List.size_toArray, List.length_append, List.length_take, List.length_drop, Array.length_toList, hcs, hxl]; omega
  have hv2 : Blk w2 vb tb x.toArray := hv.chg hc2 (by simpa using hne)
  have hr3 := fun ty => run_copyK elValue w2 ty g (i * 4) (n + 1 - i) (cap - i) ⟨vb, 0, none⟩ 1 vc L2 40 x hg2 1 (by show min 1 _ = 1; omega) (by omega) (fun j v hj => by rw [Addr.add_lit, Nat.zero_add, hv2.cell]; simpa using hj) (by omega) h1x
  obtain ⟨L3, hL3⟩ : ∃ L3, L3 = (L2.toList.take (i * 4) ++ x ++ L2.toList.drop (i * 4 + x.length)).toArray := ⟨_, rfl⟩
  rw [← hL3] at hr3
  obtain ⟨w3, hw3⟩ : ∃ w3, w3 = w2.setRow g L3 := ⟨_, rfl⟩
  rw [← hw3] at hr3
  have hc3 : Chg w w3 (fun k => some k = some g) := by rw [hw3]; exact hc2.setRow _ _ (fun _ => rfl)
  have hg3 : Blk w3 g 40 L3 := by rw [hw3]; exact hg2.set _
  have hL3s : L3.size = cap * 4 := by rw [hL3]; simp only [List.size_toArray, List.length_append, List.length_take, List.length_drop, Array.length_toList, hL2s, hx]; omega
  have hfin : InsPostValue w base n (some g) (xs.take (i * 4) ++ x ++ xs.drop (i * 4)) (.returned (.slice (some ⟨g, 0, none⟩) (n + 1) cap)) w3 := by
    have hcl : cur.toList.length = cap * 4 := by rw [Array.length_toList, hcs]
    have e1 : L2.toList.take (i * 4) = xs.take (i * 4) := by
      rw [hL2]
      simp only []
      rw [List.append_assoc, List.take_append_of_le_length (by rw [List.length_take, hcl]; omega), List.take_take, ← htake, List.take_take]
      congr 1
      omega
    have e2 : (L2.toList.drop (i * 4 + x.length)).take ((n - i) * 4) = xs.drop (i * 4) := by
      rw [hL2, hx]
      simp only []
      rw [List.append_assoc, show i * 4 + 4 = ((cur.toList.take ((i + 1) * 4)).length) from by rw [List.length_take, hcl]; omega, List.drop_left]
      rw [List.take_append_of_le_length (by rw [List.length_drop, hxl]; omega)]
      exact List.take_of_length_le (by rw [List.length_drop, hxl]; omega)
    have hlt : (xs.take (i * 4)).length = i * 4 := by rw [List.length_take, hxl]; omega
    refine ⟨_, rfl, ⟨?_, Or.inr ⟨g, cap, L3, rfl, hbg, hg3, by omega, hcm, hL3s, ?_⟩⟩, hc3.to_grown, Or.inl rfl⟩
    · rw [List.length_append, List.length_append, hlt, hx, List.length_drop, hxl]
      omega
    · rw [hL3, e1]
      simp only []
      rw [show (n + 1) * 4 = (xs.take (i * 4) ++ x).length + (n - i) * 4 from by rw [List.length_append, hlt, hx]; omega, List.take_length_add_append, e2]
  have hdc : decide ((cap : Int) < (n : Int) + 1) = false := by simp; omega
  have Hr2 := Lib.hid hr2
  have Hr3 := Lib.hid hr3
  have Hfin := Lib.hid hfin
  clear hr2 hr3 hfin hcells hxl h1 h1x hx hown htake hcs hg hg0 hL2 hw2 hc2 hg2 hL2s hL3 hw3 hc3 hg3 hL3s hv hv2 hne
  go_enter Tryz.func56, Tryz.ntmps56
  go_wp2_with fail
  have s1 : IntKind.i64.wrap ((i : Int) + 1) = (i : Int) + 1 := by rw [IntKind.wrap_i64]; omega
  have s2 : (0 : Int) ≤ (i : Int) + 1 := by omega
  have s3 : ((i : Int) + 1).toNat = i + 1 := by omega
  have s4 : (i : Int) + 1 ≤ (n : Int) + 1 := by omega
  have s5 : i ≤ n := by omega
  have s6 : (i : Int) ≤ (n : Int) + 1 := by omega
  go_still_tail 8, (by kernel_rfl)
  clear s1 s2 s3 s4 s5 s6
  change wpList _ _ _ _ _ w.drew
  refine wpl_copy rfl (.tmp 73) (.tmp 76) 38 38 rfl ?_ ?_ (Hr2.out _) ?_
  · rfl
  · rfl
  go_wp2_with ((with_reducible refine wpl_copy rfl (.tmp 80) (.tmp 81) 38 38 rfl ?_ ?_ (Hr3.out _) ?_); exact rfl; exact rfl)
  go_ret
  exact Hfin.out

/-- slices.Insert(s, i, x) of one element, on a row that the caller owns. -/
theorem insValue (w : World) (base : Nat) (v : Value) (n : Nat) (xs : List Value) (hown : w.ownsRow base 40 4 v n xs) (h1 : ∀ u ∈ xs, u.oneCell' = true) (i : Nat) (hi : i ≤ n) (vb vc : Nat) (x : List Value) (hx : x.length = 4) (tb : TypeId)
    (hv : Blk w vb tb x.toArray) (hne : v.ownBlock ≠ some vb) (h1x : ∀ u ∈ x, u.oneCell' = true) (hb : (n + 1) * 56 ≤ 140737488355328) (hbase : base ≤ w.heap.size) :
    Calls Tryz.prog 56 #[v, .int .i64 i, .slice (some ⟨vb, 0, none⟩) 1 vc] w (InsPostValue w base n v.ownBlock (xs.take (i * 4) ++ x ++ xs.drop (i * 4))) := by
  have hxc : ∀ j u, x[j]? = some u → w.cell? ((⟨vb, 0, none⟩ : Addr).add j) = some u := fun j u hj => by rw [Addr.add_lit, Nat.zero_add, hv.cell]; simpa using hj
  by_cases hin : i = n
  · subst hin
    have h := insValue_end w base v i xs hown ⟨vb, 0, none⟩ vc x hx hxc h1x hb hbase
    have e1 : xs.take (i * 4) = xs := List.take_of_length_le (by rw [hown.1]; exact Nat.le_refl _)
    have e2 : xs.drop (i * 4) = [] := List.drop_eq_nil_of_le (by rw [hown.1]; exact Nat.le_refl _)
    rw [e1, e2, List.append_nil]
    exact h
  · obtain ⟨g, cap, rfl, _⟩ := hown.form (by omega)
    by_cases hc : n + 1 ≤ cap
    · exact insValue_shift w base g n cap xs hown h1 i (by omega) hc vb vc x hx tb hv (fun e => hne (by simp [Value.ownBlock, e])) h1x
    · exact insValue_grow w base g n cap xs hown h1 i (by omega) (by omega) ⟨vb, 0, none⟩ vc x hx hxc h1x hb hbase
end Go.Proofs.YtfocjfnkcabbgaaGreat

set_option linter.unusedVariables false
namespace Go.Proofs.YtfocjfnkcabbgaaGreat
open Go.RowKit Go.Shelf

def idxPostRow (css : List (List Value)) (p : List Value → Bool) (w : World) (e : Ending) (w' : World) : Prop :=
  (∃ i, css.findIdx? p = some i ∧ e = .returned (.int .i64 i) ∧ New w w') ∨ (css.findIdx? p = none ∧ e = .returned (.int .i64 (-1)) ∧ New w w')

set_option maxHeartbeats 1000000 in
set_option maxRecDepth 100000 in
/-- slices.IndexFunc(s, p): the first at which p says yes. -/
theorem idxRow (w : World) (A : Option Addr) (n c : Nat) (css : List (List Value)) (hn : n = css.length) (hm : n ≤ maxLen) (hrows : 0 < css.length → ∃ a, A = some a ∧ RowsAt w a 3 css) (g : Nat) (lb : Array Value) (eg : Enters Tryz.prog g) (p : List Value → Bool)
    (T : Nat → Prop) (hp : ∀ cs ∈ css, Says Tryz.prog w T g lb #[.agg cs.toArray] (.bool (p cs))) :
    Calls Tryz.prog 27 #[.slice A n c, .func (.func g) #[] lb] w (idxPostRow css p w) := by
  unfold maxLen at hm
  unfold Enters at eg
  have HN := Lib.hid hn
  have Hp := Lib.hid hp
  have Hrows := Lib.hid hrows
  clear hn hp hrows
  go_enter Tryz.func27, Tryz.ntmps27
  go_wp2
  go_loopw [5, 8] (fun _ i wr => ∃ k : Nat, k ≤ n ∧ i = .int .i64 k ∧ New w wr ∧ ∀ j cs, j < k → css[j]? = some cs → p cs = false) (fun _ i _ => n - (intOf i).toNat)
  case atStart => exact ⟨0, Nat.zero_le _, rfl, Chg.refl w _, fun j cs h => absurd h (by omega)⟩
  case round =>
    obtain ⟨k, hk, rfl, hc, hno⟩ := hrel
    have Hc := Lib.hid hc
    have Hno := Lib.hid hno
    clear hc hno
    by_cases hlt : k < n
    · obtain ⟨ad, rfl, hrw⟩ := Hrows.out (by rw [← HN.out]; omega)
      obtain ⟨cs, hcs⟩ : ∃ cs, css[k]? = some cs := ⟨_, List.getElem?_eq_getElem (by rw [← HN.out]; exact hlt)⟩
      have hat := (hrw k cs hcs).2.chg Hc.out id
      have hl := (hrw k cs hcs).1
      have hs := Hp.out cs (List.mem_of_getElem? hcs) wr (Hc.out.mono fun _ _ x => x.elim)
      have Hat := Lib.hid hat
      have Hl := Lib.hid hl
      have Hs := Lib.hid hs
      have Hcs := Lib.hid hcs
      clear hat hl hs hrw hcs
      go_wp2_with ((with_reducible refine wpl_load rfl (.tmp 14) 44 rfl stRow (ad.add (k * 3)) cs ?_ Hl.out Hat.out ?_); exact rfl)
      refine Hs.out.mono ?_
      rintro e w2 ⟨rfl, hc2⟩
      have Hc2 := Lib.hid (Hc.out.trans hc2 (fun _ _ x => x))
      clear hc2
      obtain ⟨b, hb⟩ : ∃ b, p cs = b := ⟨_, rfl⟩
      rw [hb]
      have Hb := Lib.hid hb
      clear hb
      cases b with
      | true =>
        go_wp2_with fail
        go_ret
        refine Or.inl ⟨k, ?_, rfl, Hc2.out⟩
        obtain ⟨hlt', he⟩ := List.getElem?_eq_some_iff.1 Hcs.out
        rw [List.findIdx?_eq_some_iff_getElem]
        refine ⟨hlt', by rw [he]; exact Hb.out, fun j hj => ?_⟩
        have := Hno.out j _ hj (List.getElem?_eq_getElem (by omega))
        simp [this]
      | false =>
        go_wp2_with fail
        go_roundw
        case rel =>
          refine ⟨k + 1, by omega, by go_num, Hc2.out, fun j cs' hj hcs' => ?_⟩
          by_cases hjk : j = k
          · subst hjk
            have := Hcs.out.symm.trans hcs'
            simp only [Option.some.injEq] at this
            subst this
            exact Hb.out
          · exact Hno.out j cs' (by omega) hcs'
        case measure => simp [intOf]; omega
    · go_wp2_with fail
      go_ret
      refine Or.inr ⟨?_, rfl, Hc.out⟩
      rw [List.findIdx?_eq_none_iff]
      intro cs hcs
      obtain ⟨j, hj, rfl⟩ := List.getElem_of_mem hcs
      exact Hno.out j _ (by have := HN.out; omega) (List.getElem?_eq_getElem hj)
end Go.Proofs.YtfocjfnkcabbgaaGreat
