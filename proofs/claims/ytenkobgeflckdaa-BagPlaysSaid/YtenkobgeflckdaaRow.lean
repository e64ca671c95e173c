/- A law's row: the arguments read as they did. -/
import Derived.Test.YtenkobgeflckdaaRows
import Derived.Test.YtenkobgeflckdaaWa
import Derived.ProofKit
import Derived.OpenShut
import Derived.Carry
set_option linter.unusedVariables false
namespace Go.Proofs.Ytenkobgeflckdaa
open Go.ChangeShapes Go.WideShapes Go.ChangeAt Go.RowKit

theorem trodAll_stays {H : Type} {enc : TypeId × Value → H} {P : Program} (hl : laidOutB P = true) {W W' : World} (hb : Below W.heap.size W W') : ∀ {ts : List TypeId} {vs : List Value} {ds : List (DataW H)} {ps : List MemPlace},
    (∀ t ∈ ts, P.readableRec t = true ∧ t < P.types.size) → DataW.TrodAll enc P W 0 (fun _ => true) true ts vs ds ps → (∀ x ∈ ps, x.block < W.heap.size) → DataW.TrodAll enc P W' 0 (fun b => decide (b < W.heap.size)) true ts vs ds ps
  | [], _, _, _, _, h, _ => by
    obtain ⟨rfl, rfl, rfl⟩ := trodAll_nil h
    exact trodAll_mk0
  | t :: ts, _, _, _, ht, h, hx => by
    obtain ⟨v, vs1, d, ds1, a, b, rfl, rfl, rfl, h1, h2⟩ := trodAll_cons h
    exact trodAll_cons_mk (Below.trod hl (ht t (by simp)).1 (ht t (by simp)).2 h1 hb (fun x hx' => hx x (by simp [hx']))) (trodAll_stays hl hb (fun t' ht' => ht t' (by simp [ht'])) h2 (fun x hx' => hx x (by simp [hx'])))

theorem law_post {H : Type} {enc : TypeId × Value → H} {P : Program} (hl : laidOutB P = true) {f : Func} {s : ChangeSpec} (hv : s.vars = []) {W W' : World} {args : Array Value} {ds gs : List (DataW H)} {before : List MemPlace}
    (hW : DataW.Whole enc P f.params.toList s.vars false W args.toList ds gs before) (ht0 : f.params.toList.all (fun t => P.readableRec t && decide (t < P.types.size)) = true) (hc : New W W') {tb : TypeId} (hr : f.resultTypes = #[tb]) (hu : P.underlying tb = some .bool)
    (hs : (s.fn H (ds ++ gs)).results = [.lit (.bool true)] ∧ (s.fn H (ds ++ gs)).args = ds ∧ (s.fn H (ds ++ gs)).vars = []) : s.post enc P f false true false false W args (.bool true) W' := by
  have ht : ∀ t ∈ f.params.toList, P.readableRec t = true ∧ t < P.types.size := fun t h => by
    have := List.all_eq_true.1 ht0 t h
    simpa using this
  have hb : Below W.heap.size W W' := hc.below (Nat.le_refl _) (fun _ _ x => x)
  have hlt := hW.lt
  have hW0 := hW
  obtain ⟨p, q, hA, hV, rfl, hfz, hnd⟩ := hW0
  rw [hv] at hV
  obtain ⟨rfl, rfl⟩ := trodVars_none hV
  refine ⟨ds, [], p ++ [], [], p, [], hW, ?_, ?_, ?_, hb.frame _, fun h => by cases h⟩
  · rw [hs.1, hr]
    exact trodAll_cons_mk (shut_bool hu _) trodAll_mk0
  · rw [hs.2.1]
    exact trodAll_stays hl hb ht hA (fun x hx => hlt x (by simp [hx]))
  · rw [hs.2.2, hv]
    rfl
end Go.Proofs.Ytenkobgeflckdaa
