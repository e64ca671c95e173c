/- slices.Clone over Row; slices.Clone over Value. -/
import Derived.Test.YtenkobgeflckdabElVR
set_option linter.unusedVariables false
namespace Go.Proofs.Ytenkobgeflckdab
open Go.RowKit Go.Shelf

def ClonePostRow (w : World) (css : List (List Value)) (e : Ending) (w' : World) : Prop :=
  ∃ v', e = .returned v' ∧ Own w' w.heap.size 30 3 v' css ∧ New w w'

set_option maxHeartbeats 1000000 in
set_option maxRecDepth 100000 in
theorem cloneNilRow (w : World) (n c : Nat) : Calls Try.prog 31 #[.slice none n c] w (ClonePostRow w []) := by
  have hnil := fun w => Lib.run_eql_slice_nil (P := Try.prog) w 24 30 none n c 0 0 elRow.und
  go_enter Try.func31, Try.ntmps31
  go_wp2_with fail
  go_ret
  exact ⟨_, rfl, Own.nil _ _ _ _, Chg.refl _ _⟩

set_option maxHeartbeats 1000000 in
set_option maxRecDepth 100000 in
theorem cloneSomeRow (w : World) (a : Addr) (n c : Nat) (css : List (List Value)) (hn : n = css.length) (hrows : RowsAt w a 3 css) (h1 : ∀ cs ∈ css, ∀ u ∈ cs, u.oneCell' = true) (hb : n * 48 ≤ 140737488355328) (ha : a.block < w.heap.size) :
    Calls Try.prog 31 #[.slice (some a) n c] w (ClonePostRow w css) := by
  have hsome := fun w => Lib.run_eql_slice_nil (P := Try.prog) w 24 30 (some a) n c 0 0 elRow.und
  obtain ⟨w1, hw1⟩ : ∃ w1, w1 = w.alloc (.cells #[] 30) := ⟨_, rfl⟩
  have hc1 : New w w1 := by rw [hw1]; exact (Chg.refl w _).alloc _
  have hk : ∀ cs ∈ css, cs.length = 3 := fun cs hc => by
    obtain ⟨i, hi, rfl⟩ := List.getElem_of_mem hc
    exact (hrows i _ (List.getElem?_eq_getElem hi)).1
  have hown1 : w1.ownsRow w.heap.size 30 3 (.slice (some ⟨w.heap.size, 0, none⟩) 0 0) 0 [] :=
    ⟨by simp, .inr ⟨w.heap.size, 0, #[], rfl, Nat.le_refl _, by rw [hw1]; exact heap_alloc_new w _, Nat.le_refl _, Nat.zero_le _, by simp, by simp⟩⟩
  obtain ⟨v', w', hrun, hown', hgr, _, _⟩ := elRow.append w1 24 w.heap.size _ 0 [] hown1 a n c css.flatten (by rw [flatten_len hk, hn]) (fun j u hj => by
      have hlt : j < css.flatten.length := (List.getElem?_eq_some_iff.1 hj).1
      rw [flatten_len hk] at hlt
      have hq : j / 3 < css.length := Nat.div_lt_of_lt_mul (by rw [Nat.mul_comm]; exact hlt)
      have hr := hrows (j / 3) _ (List.getElem?_eq_getElem hq)
      have hjr : j % 3 < (css[j / 3]).length := by rw [hr.1]; exact Nat.mod_lt _ (by omega)
      have hu : css.flatten[j / 3 * 3 + j % 3]? = some (css[j / 3][j % 3]) := flatten_get hk (List.getElem?_eq_getElem hq) (List.getElem?_eq_getElem hjr)
      have hjj : j / 3 * 3 + j % 3 = j := by rw [Nat.mul_comm]; exact Nat.div_add_mod j 3
      rw [hjj] at hu
      rw [hu] at hj
      have hcell := hr.2 (j % 3) _ (List.getElem?_eq_getElem hjr)
      rw [add_add, hjj] at hcell
      rw [hc1.cell (by rw [add_block]; exact ha) id, hcell]
      exact hj) (fun u hu => by
        obtain ⟨cs, hcs, hu⟩ := List.mem_flatten.1 hu
        exact h1 cs hcs u hu) (by unfold maxLen; omega) (by omega) hc1.size
  simp only [Nat.zero_add, List.nil_append] at hown'
  have hfin : ClonePostRow w css (.returned v') w' := by
    refine ⟨v', rfl, ⟨by rw [← hn]; exact hown', hk⟩, hc1.trans (Chg.of_grown hgr) (fun k hk h => ?_)⟩
    simp only [Value.ownBlock, Option.some.injEq] at h
    omega
  have Hrun := Lib.hid hrun
  have Hfin := Lib.hid hfin
  have HW := Lib.hid hw1
  clear hrun hfin hown' hgr hown1 hrows h1 hc1 hk hn hw1
  go_enter Try.func31, Try.ntmps31
  go_wp2_with (rw [← HW.out]; (with_reducible refine wpl_append rfl (.tmp 5) (.tmp 6) 24 24 rfl ?_ ?_ Hrun.out ?_); exact rfl; exact rfl)
  go_ret
  exact Hfin.out

/-- slices.Clone(s). -/
theorem cloneRow (w : World) (A : Option Addr) (n c : Nat) (css : List (List Value)) (hn : n = css.length) (hrows : 0 < css.length → ∃ a, A = some a ∧ RowsAt w a 3 css) (hA : ∀ a, A = some a → a.block < w.heap.size) (h1 : ∀ cs ∈ css, ∀ u ∈ cs, u.oneCell' = true) (hb : n * 48 ≤ 140737488355328) :
    Calls Try.prog 31 #[.slice A n c] w (ClonePostRow w css) := by
  cases A with
  | none =>
    have h0 : css = [] := by
      cases css with
      | nil => rfl
      | cons x l =>
        obtain ⟨a, h, _⟩ := hrows (by simp)
        cases h
    subst h0
    exact cloneNilRow w n c
  | some a =>
    refine cloneSomeRow w a n c css hn ?_ h1 hb (hA a rfl)
    intro i cs hi
    obtain ⟨a', he, hr⟩ := hrows (by have := (List.getElem?_eq_some_iff.1 hi).1; omega)
    injection he with he
    subst he
    exact hr i cs hi
end Go.Proofs.Ytenkobgeflckdab

set_option linter.unusedVariables false
namespace Go.Proofs.Ytenkobgeflckdab
open Go.RowKit Go.Shelf

def ClonePostValue (w : World) (css : List (List Value)) (e : Ending) (w' : World) : Prop :=
  ∃ v', e = .returned v' ∧ Own w' w.heap.size 46 4 v' css ∧ New w w'

set_option maxHeartbeats 1000000 in
set_option maxRecDepth 100000 in
theorem cloneNilValue (w : World) (n c : Nat) : Calls Try.prog 19 #[.slice none n c] w (ClonePostValue w []) := by
  have hnil := fun w => Lib.run_eql_slice_nil (P := Try.prog) w 28 46 none n c 0 0 elValue.und
  go_enter Try.func19, Try.ntmps19
  go_wp2_with fail
  go_ret
  exact ⟨_, rfl, Own.nil _ _ _ _, Chg.refl _ _⟩

set_option maxHeartbeats 1000000 in
set_option maxRecDepth 100000 in
theorem cloneSomeValue (w : World) (a : Addr) (n c : Nat) (css : List (List Value)) (hn : n = css.length) (hrows : RowsAt w a 4 css) (h1 : ∀ cs ∈ css, ∀ u ∈ cs, u.oneCell' = true) (hb : n * 56 ≤ 140737488355328) (ha : a.block < w.heap.size) :
    Calls Try.prog 19 #[.slice (some a) n c] w (ClonePostValue w css) := by
  have hsome := fun w => Lib.run_eql_slice_nil (P := Try.prog) w 28 46 (some a) n c 0 0 elValue.und
  obtain ⟨w1, hw1⟩ : ∃ w1, w1 = w.alloc (.cells #[] 46) := ⟨_, rfl⟩
  have hc1 : New w w1 := by rw [hw1]; exact (Chg.refl w _).alloc _
  have hk : ∀ cs ∈ css, cs.length = 4 := fun cs hc => by
    obtain ⟨i, hi, rfl⟩ := List.getElem_of_mem hc
    exact (hrows i _ (List.getElem?_eq_getElem hi)).1
  have hown1 : w1.ownsRow w.heap.size 46 4 (.slice (some ⟨w.heap.size, 0, none⟩) 0 0) 0 [] :=
    ⟨by simp, .inr ⟨w.heap.size, 0, #[], rfl, Nat.le_refl _, by rw [hw1]; exact heap_alloc_new w _, Nat.le_refl _, Nat.zero_le _, by simp, by simp⟩⟩
  obtain ⟨v', w', hrun, hown', hgr, _, _⟩ := elValue.append w1 28 w.heap.size _ 0 [] hown1 a n c css.flatten (by rw [flatten_len hk, hn]) (fun j u hj => by
      have hlt : j < css.flatten.length := (List.getElem?_eq_some_iff.1 hj).1
      rw [flatten_len hk] at hlt
      have hq : j / 4 < css.length := Nat.div_lt_of_lt_mul (by rw [Nat.mul_comm]; exact hlt)
      have hr := hrows (j / 4) _ (List.getElem?_eq_getElem hq)
      have hjr : j % 4 < (css[j / 4]).length := by rw [hr.1]; exact Nat.mod_lt _ (by omega)
      have hu : css.flatten[j / 4 * 4 + j % 4]? = some (css[j / 4][j % 4]) := flatten_get hk (List.getElem?_eq_getElem hq) (List.getElem?_eq_getElem hjr)
      have hjj : j / 4 * 4 + j % 4 = j := by rw [Nat.mul_comm]; exact Nat.div_add_mod j 4
      rw [hjj] at hu
      rw [hu] at hj
      have hcell := hr.2 (j % 4) _ (List.getElem?_eq_getElem hjr)
      rw [add_add, hjj] at hcell
      rw [hc1.cell (by rw [add_block]; exact ha) id, hcell]
      exact hj) (fun u hu => by
        obtain ⟨cs, hcs, hu⟩ := List.mem_flatten.1 hu
        exact h1 cs hcs u hu) (by unfold maxLen; omega) (by omega) hc1.size
  simp only [Nat.zero_add, List.nil_append] at hown'
  have hfin : ClonePostValue w css (.returned v') w' := by
    refine ⟨v', rfl, ⟨by rw [← hn]; exact hown', hk⟩, hc1.trans (Chg.of_grown hgr) (fun k hk h => ?_)⟩
    simp only [Value.ownBlock, Option.some.injEq] at h
    omega
  have Hrun := Lib.hid hrun
  have Hfin := Lib.hid hfin
  have HW := Lib.hid hw1
  clear hrun hfin hown' hgr hown1 hrows h1 hc1 hk hn hw1
  go_enter Try.func19, Try.ntmps19
  go_wp2_with (rw [← HW.out]; (with_reducible refine wpl_append rfl (.tmp 5) (.tmp 6) 28 28 rfl ?_ ?_ Hrun.out ?_); exact rfl; exact rfl)
  go_ret
  exact Hfin.out

/-- slices.Clone(s). -/
theorem cloneValue (w : World) (A : Option Addr) (n c : Nat) (css : List (List Value)) (hn : n = css.length) (hrows : 0 < css.length → ∃ a, A = some a ∧ RowsAt w a 4 css) (hA : ∀ a, A = some a → a.block < w.heap.size) (h1 : ∀ cs ∈ css, ∀ u ∈ cs, u.oneCell' = true) (hb : n * 56 ≤ 140737488355328) :
    Calls Try.prog 19 #[.slice A n c] w (ClonePostValue w css) := by
  cases A with
  | none =>
    have h0 : css = [] := by
      cases css with
      | nil => rfl
      | cons x l =>
        obtain ⟨a, h, _⟩ := hrows (by simp)
        cases h
    subst h0
    exact cloneNilValue w n c
  | some a =>
    refine cloneSomeValue w a n c css hn ?_ h1 hb (hA a rfl)
    intro i cs hi
    obtain ⟨a', he, hr⟩ := hrows (by have := (List.getElem?_eq_some_iff.1 hi).1; omega)
    injection he with he
    subst he
    exact hr i cs hi
end Go.Proofs.Ytenkobgeflckdab
