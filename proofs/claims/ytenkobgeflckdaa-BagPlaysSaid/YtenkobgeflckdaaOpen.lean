/- Slices of rows of integers, out of an argument. -/
import Derived.Test.YtenkobgeflckdaaInts
import Derived.Test.YtenkobgeflckdaaRow
import Derived.Deep.Slices
import Derived.Deep.Fields
set_option linter.unusedVariables false
namespace Go.Proofs.Ytenkobgeflckdaa
open Go.ChangeShapes Go.WideShapes Go.ChangeAt Go.RowKit Go.Deep

section
variable {H : Type} {enc : TypeId × Value → H} {P : Program} {w : World} {base : Nat} {spare : Nat → Bool} {held : Bool}
/-- Whatever reads as an element of type e is C integers. -/
def AllInts (H : Type) (enc : TypeId × Value → H) (P : Program) (w : World) (base : Nat) (spare : Nat → Bool) (held : Bool) (e : TypeId) (C : Nat) : Prop :=
  ∀ (n : Nat) (cs : List Value) (y : DataW H × List MemPlace), cs.length = C → DataW.trod enc P w base spare held n e cs = some y → ∀ j, j < C → ∃ x : Int, cs[j]? = some (.int .i64 x) ∧ -9223372036854775808 ≤ x ∧ x ≤ 9223372036854775807

theorem allInts_array {e f : TypeId} {C : Nat} (he : P.underlying e = some (.array C f)) (hf : P.underlying f = some (.int .i64)) (hc : P.cellsOf f = 1) : AllInts H enc P w base spare held e C := by
  intro n cs y hl h j hj
  obtain ⟨xs, m, _, _, _, hxl, hx⟩ := DataW.trod_array he h
  have h1 := hx j hj
  rw [hc, Nat.mul_one, List.drop_eq_getElem_cons (by omega)] at h1
  have hxs : xs[j]? = some (xs[j]'(by omega)) := List.getElem?_eq_getElem _
  rw [hxs] at h1
  obtain ⟨q, hq, _, hw⟩ := DataW.trod_int hf h1
  simp only [List.take_succ_cons, List.take_zero, List.cons.injEq, and_true] at hq
  simp only [Lit.wf, Bool.and_eq_true, decide_eq_true_eq] at hw
  exact ⟨q, by rw [List.getElem?_eq_getElem (by omega), hq], hw.1, hw.2⟩

theorem allInts_struct {e : TypeId} {fs : Array Field} {C : Nat} (he : P.underlying e = some (.struct fs)) (hC : fs.size = C) (hone : oneCellFields P fs = true) (hf : ∀ (j : Nat) (f : Field), fs[j]? = some f → P.underlying f.type = some (.int .i64)) : AllInts H enc P w base spare held e C := by
  intro n cs y hl h j hj
  obtain ⟨ys, n', hn', hy, hlen, hyl, hx⟩ := DataW.trod_struct he h
  have hjf : fs[j]? = some (fs[j]'(by omega)) := Array.getElem?_eq_getElem _
  obtain ⟨ho, hk⟩ := hone_of hone j _ hjf
  have h1 := hx j _ hjf
  rw [ho, hk, List.drop_eq_getElem_cons (by omega)] at h1
  have hys : ys[j]? = some (ys[j]'(by omega)) := List.getElem?_eq_getElem _
  rw [hys] at h1
  obtain ⟨q, hq, _, hw⟩ := DataW.trod_int (hf j _ hjf) h1
  simp only [List.take_succ_cons, List.take_zero, List.cons.injEq, and_true] at hq
  simp only [Lit.wf, Bool.and_eq_true, decide_eq_true_eq] at hw
  exact ⟨q, by rw [List.getElem?_eq_getElem (by omega), hq], hw.1, hw.2⟩

theorem ints_of_trod {r : Reach} {b0 : Nat} {t e : TypeId} {C : Nat} {v : Value} {d : DataW H} {p : List MemPlace} (ht : P.underlying t = some (.slice e)) (hC : P.cellsOf e = C) (hp : 0 < C) (hv : Value.okWide P w r b0 t v) (h : DataW.Trod enc P w base spare held t v d p) (hE : AllInts H enc P w base spare held e C) :
    ∃ n X, IntsAt w v C n X := by
  obtain ⟨a0, len0, cap0, rfl⟩ := okWide_slice ht hv
  obtain ⟨fuel, hf⟩ := h
  rcases open_slice ht hf with ⟨hcs, hx⟩ | ⟨a, len, cap, m, n, D, Pl, hcs, hb, hl, hm, hmm, hx, hi⟩
  · simp only [Value.cells, List.cons.injEq, and_true] at hcs
    rw [hcs]
    exact ⟨0, fun _ => 0, ⟨none, 0, rfl, Nat.le_refl _, by unfold maxLen; omega, fun h => absurd h (by omega)⟩, fun _ => by dsimp only; omega⟩
  · simp only [Value.cells, List.cons.injEq, and_true] at hcs
    rw [hcs]
    have hlm : len ≤ m := by rw [hmm]; split <;> omega
    have hcell : ∀ q, q < len * C → ∃ x : Int, w.cell? (a.add q) = some (.int .i64 x) ∧ -9223372036854775808 ≤ x ∧ x ≤ 9223372036854775807 := by
      intro q hq
      have hqi : q / C < len := by rw [Nat.div_lt_iff_lt_mul hp]; exact hq
      have hqj : q % C < C := Nat.mod_lt _ hp
      obtain ⟨cs', hc, ht'⟩ := hi (q / C) (by omega)
      rw [hC] at hc
      obtain ⟨_, hcl, hat⟩ := World.cells?_some hc
      obtain ⟨x, hx1, hx2⟩ := hE n cs' _ hcl ht' (q % C) hqj
      refine ⟨x, ?_, hx2⟩
      have h2 := hat (q % C) hqj
      rw [hx1, Go.Deep.add_add, show q / C * C + q % C = q by rw [Nat.mul_comm]; exact Nat.div_add_mod q C] at h2
      exact h2
    refine ⟨len, fun q => if h : q < len * C then Classical.choose (hcell q h) else 0, ⟨some a, cap, rfl, hl, hm, fun _ => ⟨a, rfl, fun q hq => ?_⟩⟩, fun q => ?_⟩
    · simp only [dif_pos hq]
      exact (Classical.choose_spec (hcell q hq)).1
    · by_cases hq : q < len * C
      · simp only [dif_pos hq]
        exact (Classical.choose_spec (hcell q hq)).2
      · simp only [dif_neg hq]
        omega
end
end Go.Proofs.Ytenkobgeflckdaa
