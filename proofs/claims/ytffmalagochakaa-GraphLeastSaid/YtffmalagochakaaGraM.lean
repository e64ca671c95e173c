/- Maps from names to numbers, in memory. -/
import Derived.Test.YtffmalagochakaaProg
import Derived.Test.YtffmalagochakaaWa
import Derived.Lib.Hide
import Derived.Maps.Own
import Derived.Maps.OwnSet
import Derived.Maps.Views
import Derived.Maps.RangeWalk
set_option linter.unusedVariables false
set_option linter.unusedSimpArgs false
namespace Go.Proofs.Ytffmalagochakaa
open Go.RowKit Go.Shelf

abbrev D1 := DataW Unit
/-- A map's block: what it tells of names. -/
def IMap (w : World) (b n : Nat) (f : ByteArray → Option Int) : Prop := ∃ D : D1, w.ownsMap Try.prog 9 (plainElem (H := Unit) Try.prog 3) b n D ∧ ∀ s : ByteArray, s.size ≤ maxLen → Maps.has D (.string s.data.toList) = (f s).isSome ∧ ∀ c, f s = some c → ∀ zd, D.atKey (.string s.data.toList) zd = .lit (.int .i64 c)
theorem kS {s : ByteArray} (hs : s.size ≤ maxLen) : keyOf Try.prog 9 (.string s) = some (.string s.data.toList) := WideMaps.keyOf_string_mk Try.underlying9 hs
theorem lit_ne {s t : ByteArray} (h : s ≠ t) : (Lit.string s.data.toList) ≠ .string t.data.toList := fun e => h (ByteArray.ext (Array.toList_inj.1 (by injection e)))
theorem IMap.made (w : World) : IMap (w.alloc (.map #[] 0)) w.heap.size 0 (fun _ => none) := ⟨.map [], World.ownsMap_made w _ _ _, fun s _ => ⟨rfl, fun c h => by cases h⟩⟩
theorem IMap.chg {w w' : World} {b n : Nat} {f : ByteArray → Option Int} {T : Nat → Prop} (h : IMap w b n f) (hc : Chg w w' T) (hn : ¬ T b) : IMap w' b n f := by
  obtain ⟨D, ⟨es, cl, h1, h2⟩, h3⟩ := h
  exact ⟨D, ⟨es, cl, (hc.block b (lt_of_heap h1) hn).trans h1, h2⟩, h3⟩
theorem IMap.lt {w : World} {b n : Nat} {f : ByteArray → Option Int} (h : IMap w b n f) : b < w.heap.size := by
  obtain ⟨D, h1, _⟩ := h
  exact h1.lt
def updF (f : ByteArray → Option Int) (s : ByteArray) (c : Int) : ByteArray → Option Int := fun t => if t = s then some c else f t
theorem IMap.put {w : World} {b n : Nat} {f : ByteArray → Option Int} (h : IMap w b n f) (hn : n < maxLen) (s : ByteArray) (hs : s.size ≤ maxLen) (c : Int) (h0 : -9223372036854775808 ≤ c) (h1 : c ≤ 9223372036854775807) :
    ∃ w', (Instr.mapUpdate 53 (.map (some b)) (.string s) (.int .i64 c)).run Try.prog w = .ok () w' ∧ IMap w' b (n + 1) (updF f s c) ∧ Chg w w' (fun k => k = b) := by
  obtain ⟨D, hD, hf⟩ := h
  obtain ⟨w', hrun, ho, hg⟩ := hD.update (Maps.string_keyed Try.underlying9) Try.underlying53 hn (kS hs) (plainElem_int Try.underlying3 (show (Lit.int .i64 c).wf = true by simp only [Lit.wf, Bool.and_eq_true, decide_eq_true_eq]; exact ⟨h0, h1⟩))
  have hm : Maps.IsMap D := by
    obtain ⟨es, cl, _, _, _, rfl⟩ := hD
    exact ⟨_, rfl⟩
  refine ⟨w', hrun, ⟨_, ho, fun t ht => ?_⟩, (Chg.of_grown hg).mono fun k _ hk => Option.some.inj hk⟩
  unfold updF
  by_cases hts : t = s
  · subst hts
    simp only [if_true]
    exact ⟨Maps.has_put_same hm (by trivial) _, fun c' hc zd => by cases hc; exact Maps.atKey_put_same hm (by trivial) _ _⟩
  · rw [if_neg hts]
    obtain ⟨h2, h3⟩ := hf t ht
    exact ⟨by rw [Maps.has_put_other (lit_ne hts)]; exact h2, fun c' hc zd => by rw [Maps.atKey_put_other (lit_ne hts)]; exact h3 c' hc zd⟩
theorem IMap.look {w : World} {b n : Nat} {f : ByteArray → Option Int} (h : IMap w b n f) (s : ByteArray) (hs : s.size ≤ maxLen) :
    (Instr.lookup 53 (.map (some b)) (.string s) true).run Try.prog w = .ok (.tuple #[.int .i64 ((f s).getD 0), .bool (f s).isSome]) w := by
  obtain ⟨D, hD, hf⟩ := h
  have hz : (zeroValue 3).run Try.prog w = .ok (.int .i64 0) w := rfl
  obtain ⟨v, ps, hrun, hv⟩ := hD.look_ok (Maps.string_keyed Try.underlying9) Try.underlying53 hz (plainElem_int Try.underlying3 (by decide)) (kS hs)
  obtain ⟨h1, h2⟩ := hf s hs
  obtain ⟨c, rfl, hc, hwc⟩ := plainElem_int_inv Try.underlying3 hv
  rw [hrun, h1]
  cases hfs : f s with
  | none =>
    rw [hfs] at h1
    have h3 := Maps.atKey_of_not_has (D := D) (z := .lit (.int .i64 0)) h1
    simp only [Prod.mk.injEq] at hc
    rw [h3] at hc
    have : c = 0 := by
      have := hc.1
      injection this with e
      injection e with e1 e2
      exact e2.symm
    subst this
    rfl
  | some c' =>
    simp only [Prod.mk.injEq] at hc
    rw [h2 c' hfs] at hc
    have : c = c' := by
      have := hc.1
      injection this with e
      injection e with e1 e2
      exact e2.symm
    subst this
    rfl
/-- A range over a map under way. -/
def IRng (w : World) (b r n : Nat) (f : ByteArray → Option Int) (left : ByteArray → Bool) (cnt : Nat) : Prop := ∃ (D : D1) (lf : Lit → Bool), w.ranges Try.prog 9 (plainElem (H := Unit) Try.prog 3) b r n D lf cnt ∧ (∀ s : ByteArray, s.size ≤ maxLen → lf (.string s.data.toList) = left s) ∧
  ∀ s : ByteArray, s.size ≤ maxLen → Maps.has D (.string s.data.toList) = (f s).isSome ∧ ∀ c, f s = some c → ∀ zd, D.atKey (.string s.data.toList) zd = .lit (.int .i64 c)
theorem keyStr {key : Value} {kl : Lit} (h : keyOf Try.prog 9 key = some kl) : ∃ s : ByteArray, key = .string s ∧ s.size ≤ maxLen ∧ kl = .string s.data.toList := by
  rw [keyOf_string Try.underlying9] at h
  unfold mapKey at h
  rw [Try.underlying9] at h
  cases key <;> simp at h
  rename_i s
  exact ⟨s, rfl, h.1, h.2.symm⟩
section
variable {ops : Array Oper} {Q : Exit → Act → World → Prop} {o : Oper} {rest : List Oper} {a : Act} {w : World}
theorem wpl_range {b n : Nat} {f : ByteArray → Option Int} (hg : o.guard = none) (m : Operand) (hop : o.op = Op.range 53 m) (hm : a.eval m = .map (some b)) (h : IMap w b n f)
    (hK : ∀ w' cnt, IRng w' b w.heap.size n f (fun s => (f s).isSome) cnt → New w w' → wpList Try.prog ops Q rest (a.put o.dst (.pointer (some ⟨w.heap.size, 0, none⟩))) w') : wpList Try.prog ops Q (o :: rest) a w := by
  obtain ⟨D, hD, hf⟩ := h
  exact wpList_range_own w hg m 53 hop 9 3 (Maps.string_keyed Try.underlying9) Try.underlying53 _ b n D hm hD (fun w' h1 h2 h3 => hK w' _ ⟨D, _, h1, fun s hs => (hf s hs).1, hf⟩ ((Chg.of_grown h2).mono fun k _ hk => by cases hk))
theorem wpl_next {b r n : Nat} {f : ByteArray → Option Int} {left : ByteArray → Bool} {cnt : Nat} (hg : o.guard = none) (it : Operand) (hop : o.op = Op.next it false) (hit : a.eval it = .pointer (some ⟨r, 0, none⟩)) (h : IRng w b r n f left cnt)
    (hDone : (∀ s : ByteArray, s.size ≤ maxLen → left s = false) → wpList Try.prog ops Q rest (a.put o.dst (.tuple #[.bool false])) w)
    (hMore : ∀ (s : ByteArray) (c : Int) (w' : World) (cnt' : Nat), s.size ≤ maxLen → left s = true → f s = some c → IRng w' b r n f (fun t => left t && decide (t ≠ s)) cnt' → cnt' < cnt → Chg w w' (fun k => k = r) → w'.heap.size = w.heap.size →
      (Instr.entry (.pointer (some ⟨r, 0, none⟩))).run Try.prog w' = .ok (.tuple #[.string s, .int .i64 c]) w' → wpList Try.prog ops Q rest (a.put o.dst (.tuple #[.bool true, .string s, .int .i64 c])) w') : wpList Try.prog ops Q (o :: rest) a w := by
  obtain ⟨D, lf, hr, hl, hf⟩ := h
  refine wpList_next_ranges w hg it hop 9 (Maps.string_keyed Try.underlying9) _ Value.string (Value.int .i64) (fun key kl hk => by obtain ⟨s, h1, _⟩ := keyStr hk; exact ⟨s, h1⟩) (fun v y hv => by obtain ⟨c, h1, _⟩ := plainElem_int_inv Try.underlying3 hv; exact ⟨c, h1⟩) b r n D lf cnt hit hr (fun _ h0 => hDone (fun s hs => by rw [← hl s hs]; exact h0 _)) (fun x c kl y w' cnt' hk hlk hv hat hrg hlt hgr hsz hen => ?_)
  obtain ⟨s, e, hs, rfl⟩ := keyStr hk
  cases e
  obtain ⟨c', e, hy, _⟩ := plainElem_int_inv Try.underlying3 hv
  cases e
  obtain ⟨h1, h2⟩ := hf x hs
  have hh := Maps.has_true_of_atKey hat
  rw [h1] at hh
  obtain ⟨c0, hc0⟩ := Option.isSome_iff_exists.1 hh
  have h3 := h2 c0 hc0 .nil
  rw [hat .nil, hy] at h3
  have : c0 = c := by
    injection h3 with e
    injection e with e1 e2
    exact e2.symm
  subst this
  refine hMore x c0 w' cnt' hs (by rw [← hl x hs]; exact hlk) hc0 ⟨D, _, hrg, fun t ht => ?_, hf⟩ hlt ((Chg.of_grown hgr).mono fun k _ hk => Option.some.inj hk) hsz hen
  show (lf _ && !Lit.sameKey _ _) = _
  rw [hl t ht]
  congr 1
  show (!(t.data.toList == x.data.toList)) = decide (t ≠ x)
  by_cases hts : t = x
  · subst hts; simp
  · have : t.data.toList ≠ x.data.toList := fun e => hts (ByteArray.ext (Array.toList_inj.1 e))
    rw [decide_eq_true (show t ≠ x from hts), beq_eq_false_iff_ne.2 this]
    rfl
end
end Go.Proofs.Ytffmalagochakaa
