/- graph: what the queue is sorted by. -/
import Derived.Test.YtffmalagochakaaGra1
import Derived.Test.YtffmalagochakaaGraQ
import Derived.Shelf.SlGeneric
import Derived.Ground.SlsfProg
set_option linter.unusedVariables false
set_option linter.unusedSimpArgs false
namespace Go.Proofs.Ytffmalagochakaa
open Go.RowKit Go.Shelf

set_option maxHeartbeats 400000 in
theorem nan_int (x : Int) (w : World) : Calls Try.prog 37 #[.int .i64 x] w fun e w' => e = .returned (.bool false) ∧ w = w' := by
  go_enter Try.func37, Try.ntmps37
  go_wp2
  go_ret
  exact ⟨rfl, rfl⟩

set_option maxHeartbeats 1000000 in
theorem cmp_int (x y : Int) (w : World) : Calls Try.prog 32 #[.int .i64 x, .int .i64 y] w fun e w' => e = .returned (.int .i64 (cmpI x y)) ∧ w = w' := by
  unfold cmpI
  rcases Int.lt_trichotomy x y with h | h | h
  · rw [if_pos h]
    have hd : decide (x < y) = true := decide_eq_true h
    go_enter Try.func32, Try.ntmps32
    go_wp2_with (refine (nan_int _ _).mono ?_; rintro e w' ⟨rfl, rfl⟩)
    go_ret
    exact ⟨rfl, rfl⟩
  · subst h
    rw [if_neg (Int.lt_irrefl _), if_neg (Int.lt_irrefl _)]
    have hd : decide (x < x) = false := decide_eq_false (Int.lt_irrefl _)
    go_enter Try.func32, Try.ntmps32
    go_wp2_with (refine (nan_int _ _).mono ?_; rintro e w' ⟨rfl, rfl⟩)
    go_ret
    exact ⟨rfl, rfl⟩
  · rw [if_neg (by omega), if_pos h]
    have hd : decide (x < y) = false := decide_eq_false (by omega)
    have hd2 : decide (y < x) = true := decide_eq_true h
    go_enter Try.func32, Try.ntmps32
    go_wp2_with (refine (nan_int _ _).mono ?_; rintro e w' ⟨rfl, rfl⟩)
    go_ret
    exact ⟨rfl, rfl⟩


/-- What stands in the queue. -/
abbrev QE := ByteArray × Int
def qC (x : QE) : List Value := [.string x.1, .int .i64 x.2]
def cmpQ (x y : QE) : Int := cmpI x.2 y.2

set_option maxHeartbeats 1000000 in
theorem far1_cmp (w : World) (s t : ByteArray) (x y : Int) : Calls Try.prog 31 #[.agg #[.string s, .int .i64 x], .agg #[.string t, .int .i64 y]] w fun e w' => e = .returned (.int .i64 (cmpI x y)) ∧ ∃ q os', w' = Sort.grow (w.drewN q) os' := by
  have hc := fun W => cmp_int x y W
  have HC := Lib.hid hc
  clear hc
  generalize cmpI x y = r at HC ⊢
  go_enter Try.func31, Try.ntmps31
  go_wp2_with (go_at_call 32; refine (HC.out _).mono ?_; rintro e w2 ⟨rfl, rfl⟩)
  go_ret
  exact ⟨rfl, 0, _, by rw [Sort.alloc_eq_grow, Sort.alloc_eq_grow, Sort.grow_grow]; rfl⟩
theorem ltQ (x y : QE) : ltOf cmpQ x y = decide (x.2 < y.2) := by
  unfold ltOf cmpQ cmpI
  by_cases h1 : x.2 < y.2
  · simp [h1]
  · by_cases h2 : y.2 < x.2 <;> simp [h1, h2]
theorem swoQ : Sort.SWO (ltOf cmpQ) where
  irrefl x := by rw [ltQ]; simp
  trans x y z h1 h2 := by rw [ltQ] at *; simp at *; omega
  ntrans x y z h1 h2 := by rw [ltQ] at *; simp at *; omega

shelf_lay_g SlLaysF0.n6 Slsf 6 at Try 30 as Try.sortQ

theorem sort30 (w : World) (B g o cap : Nat) (q : List QE) (h : QAt w B 59 2 (.slice (some ⟨g, o, none⟩) q.length cap) (q.map qC)) (hq : q.length < 4611686018427387904) (hp : 0 < q.length) :
    Calls Try.prog 30 #[.slice (some ⟨g, o, none⟩) q.length cap, .func (.func 31) #[] #[]] w fun e w' => e = .returned (.tuple #[]) ∧ ∃ x q', QAt w' B 59 2 (.slice (some ⟨g, o, none⟩) (q'.length + 1) cap) ((x :: q').map qC) ∧ (∀ p, p ∈ q ↔ p = x ∨ p ∈ q') ∧ (∀ p ∈ q, x.2 ≤ p.2) ∧ q'.length + 1 = q.length ∧ Chg w w' (fun j => j = g) := by
  have eg : ∀ args w, (callFunc 31 args).run Try.prog w = .ok (.enter 31 args) w := enters_of Try.func31 (by kernel_rfl) rfl
  have h' : QAt w B 59 2 (.slice (some ⟨g, o, none⟩) q.toArray.size cap) (q.toArray.toList.map qC) := by simpa using h
  have hgl := (h.lt g rfl).2
  have hcon := AnyQ.slices_SortFunc Try.sortQ 2 (fun w => by kernel_rfl) (fun w => by kernel_rfl) qC (fun _ => rfl) (fun x v hv => by simp [qC] at hv; rcases hv with rfl | rfl <;> rfl) cmpQ swoQ 31 #[] g o cap q.toArray w eg (fun m os dk _ x y => far1_cmp _ x.1 y.1 x.2 y.2) (h'.holds (fun _ => rfl) (by decide)) hgl (by simpa using hq)
  have e0 : q.toArray.size = q.length := by simp
  rw [e0] at hcon
  change Calls Try.prog 30 _ _ _ at hcon
  refine hcon.mono ?_
  rintro e w' ⟨rfl, d', n, os, hpm, hst, rfl⟩
  refine ⟨rfl, ?_⟩
  obtain ⟨hs, -, hpm⟩ := hpm
  rw [e0] at hs
  have hpm' : d'.toList.Perm q := by
    have h1 : (d'.extract 0 q.length).toList = d'.toList := by rw [← hs]; simp
    have h2 : (q.toArray.extract 0 q.length).toList = q := by simp
    rw [h1, h2] at hpm
    exact hpm
  obtain ⟨h3, h4⟩ := h'.sorted (k := 2) (enc := qC) (d := q.toArray) (fun _ => rfl) (Nat.zero_lt_succ 1) (d' := d') (n := n) (os := os) (by rw [hs, e0])
  rw [e0] at h3
  cases hd : d'.toList with
  | nil =>
    have : d'.toList.length = 0 := by rw [hd]; rfl
    rw [Array.length_toList, hs] at this
    omega
  | cons x q' =>
    rw [hd] at h3 hpm'
    have hl : q'.length + 1 = q.length := by have := hpm'.length_eq; simpa using this
    refine ⟨x, q', by rw [hl]; exact h3, fun p => by rw [← hpm'.mem_iff]; simp, fun p hpq => ?_, hl, h4⟩
    rw [← hpm'.mem_iff] at hpq
    have hx0 : d'[0]! = x := by
      rw [getElem!_pos d' 0 (by omega)]
      have : d'.toList[0]? = some x := by rw [hd]; rfl
      have := (List.getElem?_eq_some_iff.1 this).2
      simpa using this
    rcases List.mem_cons.1 hpq with rfl | hpq
    · exact Int.le_refl _
    · obtain ⟨j, hj⟩ := List.mem_iff_getElem?.1 hpq
      have hjl : j + 1 < d'.size := by have := (List.getElem?_eq_some_iff.1 hj).1; omega
      have hxj : d'[j + 1]! = p := by
        rw [getElem!_pos d' (j + 1) hjl]
        have : d'.toList[j + 1]? = some p := by rw [hd]; simpa using hj
        have := (List.getElem?_eq_some_iff.1 this).2
        simpa using this
      have := hst 0 (j + 1) (Nat.zero_le _) (by omega) (by omega)
      rw [hx0, hxj, ltQ] at this
      simp at this
      exact this
end Go.Proofs.Ytffmalagochakaa
