/- Rows of k integers each in a slice; A law's row: the arguments read as they did; Slices of rows of integers, out of an argument; A raw literal as an argument: six integers. -/
import Derived.Test.YtffmalagochakaaWa
import Derived.Test.YtffmalagochakaaRows
import Derived.ProofKit
import Derived.OpenShut
import Derived.Carry
import Derived.Deep.Slices
import Derived.Deep.Fields
import Derived.Deep.Strs
set_option linter.unusedVariables false
namespace Go.Proofs.Ytffmalagochakaa
open Go.RowKit

def IntsAt (W : World) (v : Value) (k n : Nat) (X : Nat → Int) : Prop :=
  (∃ A c, v = .slice A n c ∧ n ≤ c ∧ c ≤ maxLen ∧ (0 < n → ∃ a, A = some a ∧ ∀ q, q < n * k → W.cell? (a.add q) = some (.int .i64 (X q)))) ∧ ∀ q, -9223372036854775808 ≤ X q ∧ X q ≤ 9223372036854775807
theorem add_offs (a : Addr) (n : Nat) : (a.add n).off = a.off + n := by
  unfold Addr.add
  split
  · rename_i h; rw [h]; rfl
  · rfl
theorem add_succ (a : Addr) (n : Nat) : a.add (n + 1) = ⟨a.block, a.off + (n + 1), none⟩ := by
  unfold Addr.add
  rw [if_neg (by omega)]
end Go.Proofs.Ytffmalagochakaa

set_option linter.unusedVariables false
namespace Go.Proofs.Ytffmalagochakaa
open Go.ChangeShapes Go.WideShapes Go.ChangeAt Go.RowKit

theorem trodAll_stays {H : Type} {enc : TypeId × Value → H} {P : Program} (hl : laidOutB P = true) {W W' : World} (hb : Below W.heap.size W W') : ∀ {ts : List TypeId} {vs : List Value} {ds : List (DataW H)} {ps : List MemPlace},
    (∀ t ∈ ts, P.readableRec t = true ∧ t < P.types.size) → DataW.TrodAll enc P W 0 (fun _ => true) true ts vs ds ps → (∀ x ∈ ps, x.block < W.heap.size) → DataW.TrodAll enc P W' 0 (fun b => decide (b < W.heap.size)) true ts vs ds ps
  | [], _, _, _, _, h, _ => by
    obtain ⟨rfl, rfl, rfl⟩ := trodAll_nil h
    exact trodAll_mk0
  | t :: ts, _, _, _, ht, h, hx => by
    obtain ⟨v, vs1, d, ds1, a, b, rfl, rfl, rfl, h1, h2⟩ := trodAll_cons h
    exact trodAll_cons_mk (Below.trod hl (ht t (by simp)).1 (ht t (by simp)).2 h1 hb (fun x hx' => hx x (by simp [hx']))) (trodAll_stays hl hb (fun t' ht' => ht t' (by simp [ht'])) h2 (fun x hx' => hx x (by simp [hx'])))

theorem law_post {H : Type} {enc : TypeId × Value → H} {P : Program} (hl : laidOutB P = true) {f : Func} {s : ChangeSpec} (hv : s.vars = []) {W W' : World} {args : Array Value} {ds gs : List (DataW H)} {before : List MemPlace}
    (hW : DataW.Whole enc P f.params.toList s.vars false W args.toList ds gs before) (ht0 : f.params.toList.all (fun t => P.readableRec t && decide (t < P.types.size)) = true) (hc : New W W') {tb : TypeId} (hr : f.resultTypes = #[tb]) (hu : P.underlying tb = some .bool)
    (hs : (s.fn H (ds ++ gs)).results = [.lit (.bool true)] ∧ (s.fn H (ds ++ gs)).args = ds ∧ (s.fn H (ds ++ gs)).vars = []) : s.post enc P f false true false false W args (.bool true) W' := by
  have ht : ∀ t ∈ f.params.toList, P.readableRec t = true ∧ t < P.types.size := fun t h => by
    have := List.all_eq_true.1 ht0 t h
    simpa using this
  have hb : Below W.heap.size W W' := hc.below (Nat.le_refl _) (fun _ _ x => x)
  have hlt := hW.lt
  have hW0 := hW
  obtain ⟨p, q, hA, hV, rfl, hfz, hnd⟩ := hW0
  rw [hv] at hV
  obtain ⟨rfl, rfl⟩ := trodVars_none hV
  refine ⟨ds, [], p ++ [], [], p, [], hW, ?_, ?_, ?_, hb.frame _, fun h => by cases h⟩
  · rw [hs.1, hr]
    exact trodAll_cons_mk (shut_bool hu _) trodAll_mk0
  · rw [hs.2.1]
    exact trodAll_stays hl hb ht hA (fun x hx => hlt x (by simp [hx]))
  · rw [hs.2.2, hv]
    rfl
end Go.Proofs.Ytffmalagochakaa

set_option linter.unusedVariables false
namespace Go.Proofs.Ytffmalagochakaa
open Go.ChangeShapes Go.WideShapes Go.ChangeAt Go.RowKit Go.Deep

section
variable {H : Type} {enc : TypeId × Value → H} {P : Program} {w : World} {base : Nat} {spare : Nat → Bool} {held : Bool}
/-- Whatever reads as an element of type e is C integers. -/
def AllInts (H : Type) (enc : TypeId × Value → H) (P : Program) (w : World) (base : Nat) (spare : Nat → Bool) (held : Bool) (e : TypeId) (C : Nat) : Prop :=
  ∀ (n : Nat) (cs : List Value) (y : DataW H × List MemPlace), cs.length = C → DataW.trod enc P w base spare held n e cs = some y → ∀ j, j < C → ∃ x : Int, cs[j]? = some (.int .i64 x) ∧ -9223372036854775808 ≤ x ∧ x ≤ 9223372036854775807

theorem allInts_array {e f : TypeId} {C : Nat} (he : P.underlying e = some (.array C f)) (hf : P.underlying f = some (.int .i64)) (hc : P.cellsOf f = 1) : AllInts H enc P w base spare held e C := by
  intro n cs y hl h j hj
  obtain ⟨xs, m, _, _, _, hxl, hx⟩ := DataW.trod_array he h
  have h1 := hx j hj
  rw [hc, Nat.mul_one, List.drop_eq_getElem_cons (by omega)] at h1
  have hxs : xs[j]? = some (xs[j]'(by omega)) := List.getElem?_eq_getElem _
  rw [hxs] at h1
  obtain ⟨q, hq, _, hw⟩ := DataW.trod_int hf h1
  simp only [List.take_succ_cons, List.take_zero, List.cons.injEq, and_true] at hq
  simp only [Lit.wf, Bool.and_eq_true, decide_eq_true_eq] at hw
  exact ⟨q, by rw [List.getElem?_eq_getElem (by omega), hq], hw.1, hw.2⟩

theorem allInts_struct {e : TypeId} {fs : Array Field} {C : Nat} (he : P.underlying e = some (.struct fs)) (hC : fs.size = C) (hone : oneCellFields P fs = true) (hf : ∀ (j : Nat) (f : Field), fs[j]? = some f → P.underlying f.type = some (.int .i64)) : AllInts H enc P w base spare held e C := by
  intro n cs y hl h j hj
  obtain ⟨ys, n', hn', hy, hlen, hyl, hx⟩ := DataW.trod_struct he h
  have hjf : fs[j]? = some (fs[j]'(by omega)) := Array.getElem?_eq_getElem _
  obtain ⟨ho, hk⟩ := hone_of hone j _ hjf
  have h1 := hx j _ hjf
  rw [ho, hk, List.drop_eq_getElem_cons (by omega)] at h1
  have hys : ys[j]? = some (ys[j]'(by omega)) := List.getElem?_eq_getElem _
  rw [hys] at h1
  obtain ⟨q, hq, _, hw⟩ := DataW.trod_int (hf j _ hjf) h1
  simp only [List.take_succ_cons, List.take_zero, List.cons.injEq, and_true] at hq
  simp only [Lit.wf, Bool.and_eq_true, decide_eq_true_eq] at hw
  exact ⟨q, by rw [List.getElem?_eq_getElem (by omega), hq], hw.1, hw.2⟩

theorem ints_of_trod {r : Reach} {b0 : Nat} {t e : TypeId} {C : Nat} {v : Value} {d : DataW H} {p : List MemPlace} (ht : P.underlying t = some (.slice e)) (hC : P.cellsOf e = C) (hp : 0 < C) (hv : Value.okWide P w r b0 t v) (h : DataW.Trod enc P w base spare held t v d p) (hE : AllInts H enc P w base spare held e C) :
    ∃ n X, IntsAt w v C n X := by
  obtain ⟨a0, len0, cap0, rfl⟩ := okWide_slice ht hv
  obtain ⟨fuel, hf⟩ := h
  rcases open_slice ht hf with ⟨hcs, hx⟩ | ⟨a, len, cap, m, n, D, Pl, hcs, hb, hl, hm, hmm, hx, hi⟩
  · simp only [Value.cells, List.cons.injEq, and_true] at hcs
    rw [hcs]
    exact ⟨0, fun _ => 0, ⟨none, 0, rfl, Nat.le_refl _, by unfold maxLen; omega, fun h => absurd h (by omega)⟩, fun _ => by dsimp only; omega⟩
  · simp only [Value.cells, List.cons.injEq, and_true] at hcs
    rw [hcs]
    have hlm : len ≤ m := by rw [hmm]; split <;> omega
    have hcell : ∀ q, q < len * C → ∃ x : Int, w.cell? (a.add q) = some (.int .i64 x) ∧ -9223372036854775808 ≤ x ∧ x ≤ 9223372036854775807 := by
      intro q hq
      have hqi : q / C < len := by rw [Nat.div_lt_iff_lt_mul hp]; exact hq
      have hqj : q % C < C := Nat.mod_lt _ hp
      obtain ⟨cs', hc, ht'⟩ := hi (q / C) (by omega)
      rw [hC] at hc
      obtain ⟨_, hcl, hat⟩ := World.cells?_some hc
      obtain ⟨x, hx1, hx2⟩ := hE n cs' _ hcl ht' (q % C) hqj
      refine ⟨x, ?_, hx2⟩
      have h2 := hat (q % C) hqj
      rw [hx1, Go.Deep.add_add, show q / C * C + q % C = q by rw [Nat.mul_comm]; exact Nat.div_add_mod q C] at h2
      exact h2
    refine ⟨len, fun q => if h : q < len * C then Classical.choose (hcell q h) else 0, ⟨some a, cap, rfl, hl, hm, fun _ => ⟨a, rfl, fun q hq => ?_⟩⟩, fun q => ?_⟩
    · simp only [dif_pos hq]
      exact (Classical.choose_spec (hcell q hq)).1
    · by_cases hq : q < len * C
      · simp only [dif_pos hq]
        exact (Classical.choose_spec (hcell q hq)).2
      · simp only [dif_neg hq]
        omega
end
end Go.Proofs.Ytffmalagochakaa

set_option linter.unusedVariables false
namespace Go.Proofs.Ytffmalagochakaa
open Go.ChangeShapes Go.WideShapes Go.ChangeAt Go.RowKit Go.Deep

section
variable {H : Type} {enc : TypeId × Value → H} {P : Program} {w : World} {base : Nat} {spare : Nat → Bool} {held : Bool}
theorem int_of_trod {f : TypeId} (hf : P.underlying f = some (.int .i64)) {n : Nat} {u : Value} {y : DataW H × List MemPlace} (h : DataW.trod enc P w base spare held n f [u] = some y) : ∃ x : Int, u = .int .i64 x ∧ -9223372036854775808 ≤ x ∧ x ≤ 9223372036854775807 := by
  obtain ⟨q, hq, _, hw⟩ := DataW.trod_int hf h
  simp only [List.cons.injEq, and_true] at hq
  simp only [Lit.wf, Bool.and_eq_true, decide_eq_true_eq] at hw
  exact ⟨q, hq, hw.1, hw.2⟩
/-- Two integers, then an array of four. -/
theorem allInts_raw {e : TypeId} {g0 g1 g2 : Field} (he : P.underlying e = some (.struct #[g0, g1, g2])) (h0 : P.underlying g0.type = some (.int .i64)) (h1 : P.underlying g1.type = some (.int .i64)) (ho : g0.offset = 0 ∧ g1.offset = 1 ∧ g2.offset = 2) (hc : P.cellsOf g0.type = 1 ∧ P.cellsOf g1.type = 1 ∧ P.cellsOf g2.type = 4)
    (h2 : AllInts H enc P w base spare held g2.type 4) : AllInts H enc P w base spare held e 6 := by
  intro n cs y hl h j hj
  obtain ⟨y0, y1, y2, n', _, _, t0, t1, t2⟩ := trod_struct3 he h
  rw [ho.1, hc.1] at t0
  rw [ho.2.1, hc.2.1] at t1
  rw [ho.2.2, hc.2.2] at t2
  match cs, hl with
  | [a, b, c0, c1, c2, c3], _ =>
    obtain ⟨x0, rfl, e0⟩ := int_of_trod h0 t0
    obtain ⟨x1, rfl, e1⟩ := int_of_trod h1 t1
    match j, hj with
    | 0, _ => exact ⟨x0, rfl, e0⟩
    | 1, _ => exact ⟨x1, rfl, e1⟩
    | j + 2, hj =>
      obtain ⟨x, hx, hb⟩ := h2 n' _ _ rfl t2 j (by omega)
      exact ⟨x, hx, hb⟩
end
end Go.Proofs.Ytffmalagochakaa
