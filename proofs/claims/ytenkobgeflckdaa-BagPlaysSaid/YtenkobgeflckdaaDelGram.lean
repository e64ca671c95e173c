/- slices.Delete over Gram, on a row that the caller owns. -/
import Derived.Test.YtenkobgeflckdaaElGram
set_option linter.unusedVariables false
set_option linter.unusedSimpArgs false
namespace Go.Proofs.Ytenkobgeflckdaa
open Go.RowKit

/-- Where a slice's tail begins, and what lies there. -/
theorem tailAtGram {w : World} {g cap n : Nat} {cur : Array Value} {tb : TypeId} (hg : w.heap[g]? = some (.cells cur tb (0, 0))) (hcs : cur.size = cap * 3) (j : Nat) (hj : j ≤ n) (hnc : n ≤ cap) (xs : List Value) (hx : cur.toList.take (n * 3) = xs) :
    ∃ A : Addr, (if cap = j then some (⟨g, 0, none⟩ : Addr) else some ⟨g, j * 3, none⟩) = some A ∧ ∀ q u, (xs.drop (j * 3))[q]? = some u → w.cell? (A.add q) = some u := by
  by_cases h : cap = j
  · refine ⟨⟨g, 0, none⟩, by simp [h], fun q u hu => ?_⟩
    have : (xs.drop (j * 3)).length = 0 := by
      rw [← hx]
      simp
      omega
    rw [List.eq_nil_of_length_eq_zero this] at hu
    simp at hu
  · refine ⟨⟨g, j * 3, none⟩, by simp [h], fun q u hu => ?_⟩
    rw [Addr.add_lit, cell_of_row w g _ cur tb (0, 0) hg]
    rw [List.getElem?_drop, ← hx, List.getElem?_take] at hu
    split at hu
    · simpa using hu
    · simp at hu

set_option maxHeartbeats 1000000 in
set_option maxRecDepth 100000 in
theorem delGram_mid (w : World) (base : Nat) (g n cap : Nat) (xs : List Value) (hown : w.ownsRow base 33 3 (.slice (some ⟨g, 0, none⟩) n cap) n xs) (h1 : ∀ u ∈ xs, u.oneCell' = true) (i j : Nat) (hij : i < j) (hj : j ≤ n) :
    Calls Try.prog 47 #[.slice (some ⟨g, 0, none⟩) n cap, .int .i64 i, .int .i64 j] w fun e w' => e = .returned (.slice (some ⟨g, 0, none⟩) (i + (n - j)) cap) ∧
      w'.ownsRow base 33 3 (.slice (some ⟨g, 0, none⟩) (i + (n - j)) cap) (i + (n - j)) (xs.take (i * 3) ++ xs.drop (j * 3)) ∧ w.grownBy w' (some g) := by
  have hijb : ((i : Int) == (j : Int)) = false := by simp; omega
  rcases hown.2 with ⟨h, _⟩ | ⟨g', cap', cur, hv, hbg, hg, hnc, hcm, hcs, htake⟩
  · simp at h
  · simp only [Value.slice.injEq, Option.some.injEq, Addr.mk.injEq, and_true, true_and] at hv
    obtain ⟨rfl, rfl⟩ := hv
    have hxl := hown.1
    have hcm' := hcm
    unfold maxLen at hcm'
    obtain ⟨A, hA, hnews⟩ := tailAtGram hg hcs j hj hnc xs htake
    obtain ⟨inf, z, hi, hz, hs, hby, hzz, hzl⟩ := elGram.info
    have hrun := fun ty => run_append_room (P := Try.prog) w.drew 41 ty 33 inf elGram.und hi g i cap cur hg A (n - j) (cap - j) (xs.drop (j * 3)) (by rw [hs, List.length_drop, hxl]; omega) hnews (fun u hu => h1 u (List.mem_of_mem_drop hu)) (by omega) (by rw [hs, List.length_drop, hxl, hcs]; omega)
    rw [hs] at hrun
    have hic : i ≤ cap := by omega
    have Hrun := Lib.hid hrun
    clear hrun hnews
    have HT := Lib.hid htake
    have Hx := Lib.hid hxl
    have Hc := Lib.hid hcs
    clear htake hxl hcs hi hz hs hby hzz hzl
    go_enter Try.func47, Try.ntmps47
    go_wp2_with fail
    go_still_tail 6, (by kernel_rfl)
    change wpList _ _ _ _ _ w.drew
    refine wpl_append rfl (.tmp 22) (.tmp 25) 41 41 rfl rfl rfl (Hrun.out _) ?_
    obtain ⟨L2, hL2⟩ : ∃ L2, L2 = (cur.toList.take (i * 3) ++ xs.drop (j * 3) ++ cur.toList.drop (i * 3 + (xs.drop (j * 3)).length)).toArray := ⟨_, rfl⟩
    rw [← hL2]
    have HL2 := Lib.hid hL2
    clear hL2
    obtain ⟨w2, hw2⟩ : ∃ w2, w2 = w.drew.setRow g L2 := ⟨_, rfl⟩
    rw [← hw2]
    have HW := Lib.hid hw2
    clear hw2
    have hne : ¬ (cap = i + (n - j)) := by omega
    have hb1 : i + (n - j) ≤ n := by omega
    have hL2s : L2.size = cur.size := by
      rw [HL2.out]
      simp only [List.size_toArray, List.length_append, List.length_take, List.length_drop, Array.length_toList, Hx.out, Hc.out]
      omega
    have hg2 : w2.heap[g]? = some (.cells L2 33 (0, 0)) := by
      rw [HW.out]
      exact setRow_heap w.drew g cur L2 33 _ hg
    obtain ⟨Z, hZ, hcl⟩ := run_clearK elGram w2 0 g ((i + (n - j)) * 3) (n - (i + (n - j))) (cap - (i + (n - j))) L2 33 hg2 (by rw [hL2s, Hc.out]; omega)
    have HZ := Lib.hid hZ
    have HLs := Lib.hid hL2s
    clear hZ hL2s hown h1
    go_wp2_with fail
    go_ret
    refine ⟨rfl, ⟨?_, Or.inr ⟨g, cap, _, rfl, hbg, setRow_heap w2 g L2 _ 33 _ hg2, by omega, hcm, ?_, ?_⟩⟩, ?_⟩
    · simp only [List.length_append, List.length_take, List.length_drop, Hx.out]
      omega
    · simp only [List.size_toArray, List.length_append, List.length_take, List.length_drop, Array.length_toList, HZ.out, HLs.out, Hc.out]
      omega
    · have hlen : (xs.take (i * 3) ++ xs.drop (j * 3)).length = (i + (n - j)) * 3 := by
        simp only [List.length_append, List.length_take, List.length_drop, Hx.out]
        omega
      have e1 : L2.toList.take ((i + (n - j)) * 3) = xs.take (i * 3) ++ xs.drop (j * 3) := by
        rw [HL2.out, ← hlen]
        simp only []
        rw [show cur.toList.take (i * 3) = xs.take (i * 3) from by rw [← HT.out, List.take_take]; congr 1; omega]
        exact List.take_left
      simp only []
      rw [List.take_append_of_le_length (by simp only [List.length_take, Array.length_toList, HLs.out, Hc.out]; omega), List.take_take, Nat.min_self]
      exact e1
    · rw [HW.out]
      exact ⟨rfl, rfl, rfl, by simp, fun q _ hq => by rw [setRow_other _ _ _ _ (fun e => hq (by rw [e])), setRow_other _ _ _ _ (fun e => hq (by rw [e]))]; rfl⟩
set_option maxHeartbeats 400000 in
theorem delGram_same (w : World) (A : Option Addr) (n cap i j : Nat) (hij : j ≤ i) (hi : i ≤ j) (hj : j ≤ n) (hnc : n ≤ cap) (hcm : cap ≤ maxLen) :
    Calls Try.prog 47 #[.slice A n cap, .int .i64 i, .int .i64 j] w fun e w' => e = .returned (.slice A n cap) ∧ w = w' := by
  unfold maxLen at hcm
  have hb : ((i : Int) == (j : Int)) = true := by simp; omega
  go_enter Try.func47, Try.ntmps47
  go_wp2_with fail
  all_goals (go_ret; exact ⟨rfl, rfl⟩)

/-- slices.Delete(s, i, j) of a row that the caller owns. -/
theorem delGram (w : World) (base : Nat) (v : Value) (n : Nat) (xs : List Value) (hown : w.ownsRow base 33 3 v n xs) (h1 : ∀ u ∈ xs, u.oneCell' = true) (i j : Nat) (hij : i ≤ j) (hj : j ≤ n) :
    Calls Try.prog 47 #[v, .int .i64 i, .int .i64 j] w fun e w' => ∃ v', e = .returned v' ∧ w'.ownsRow base 33 3 v' (n - (j - i)) (xs.take (i * 3) ++ xs.drop (j * 3)) ∧ w.grownBy w' v.ownBlock ∧ v'.ownBlock = v.ownBlock := by
  by_cases he : i = j
  · subst he
    obtain ⟨A, cap, rfl, hnc, hcm⟩ : ∃ A cap, v = .slice A n cap ∧ n ≤ cap ∧ cap ≤ maxLen := by
      rcases hown.2 with ⟨rfl, rfl⟩ | ⟨g, cap, cur, rfl, _, _, hnc, hcm, _⟩
      · exact ⟨none, 0, rfl, Nat.le_refl _, Nat.zero_le _⟩
      · exact ⟨_, cap, rfl, hnc, hcm⟩
    refine (delGram_same w A n cap i i (Nat.le_refl _) (Nat.le_refl _) hj hnc hcm).mono ?_
    rintro e w' ⟨rfl, rfl⟩
    exact ⟨_, rfl, by simpa using hown, World.grownBy.refl w _, rfl⟩
  · obtain ⟨g, cap, rfl, _⟩ := hown.form (by omega)
    refine (delGram_mid w base g n cap xs hown h1 i j (by omega) hj).mono ?_
    rintro e w' ⟨rfl, h, hg⟩
    exact ⟨_, rfl, by rw [show n - (j - i) = i + (n - j) by omega]; exact h, hg, rfl⟩
end Go.Proofs.Ytenkobgeflckdaa
