/- A slice of grams of one's own beside a bag: append. -/
import Derived.Test.YtenkobgeflckdaaBag7
set_option linter.unusedVariables false
set_option linter.unusedSimpArgs false
namespace Go.Proofs.Ytenkobgeflckdaa
open Go.RowKit Go.Shelf

section
variable {t : TypeId} {w W W' : World} {bb : Nat} {gs : List Gm} {most : Int} {S : Nat → Prop}
/-- Blocks of the call's own that are none of the bag's may turn. -/
theorem BagS.turn (h : BagS t w W bb gs most S) {T : Nat → Prop} (hc : Chg W W' T) (hT : ∀ k, k < W.heap.size → T k → S k ∧ w.heap.size ≤ k) : BagS t w W' bb gs most S := by
  obtain ⟨v, hb, hs⟩ := h.bag
  refine ⟨h.new.trans hc (fun k hk hTk => absurd (hT k (Nat.lt_of_lt_of_le hk h.new.size) hTk).2 (by omega)), ⟨v, hb.chg hc (fun k hk hTk => hs k hk (hT k (hb.terr_lt hk).2 hTk).1), hs⟩, fun k hk => Nat.lt_of_lt_of_le (h.lt k hk) hc.size⟩
end

theorem BagS.grow {t : TypeId} {w W W' : World} {bb : Nat} {gs : List Gm} {most : Int} {S S' : Nat → Prop} (h : BagS t w W bb gs most S) {T : Nat → Prop} (hc : Chg W W' T) (hT : ∀ k, k < W.heap.size → T k → S k ∧ w.heap.size ≤ k) (hS : ∀ k, S' k → (S k ∨ W.heap.size ≤ k) ∧ k < W'.heap.size) : BagS t w W' bb gs most S' := by
  obtain ⟨v, hb, hs⟩ := h.bag
  refine ⟨(h.turn hc hT).new, ⟨v, hb.chg hc (fun k hk hTk => hs k hk (hT k (hb.terr_lt hk).2 hTk).1), fun k hk hk' => ?_⟩, fun k hk => (hS k hk).2⟩
  rcases (hS k hk').1 with h1 | h1
  · exact hs k hk h1
  · have := (hb.terr_lt hk).2
    omega
/-- A slice of grams of the call's own. -/
abbrev OwnG (B : Nat) (W : World) (v : Value) (gs : List Gm) : Prop := Own W B 33 3 v (gs.map gcs)

theorem append_own {B : Nat} {W : World} {v : Value} {xs : List Gm} (ho : OwnG B W v xs) (hB : B ≤ W.heap.size) (ad : Addr) (m c : Nat) (ys : List Gm) (hm : m = ys.length) (hr : RowsAt W ad 3 (ys.map gcs)) (hb : xs.length + m ≤ 1000000) (ty : TypeId) :
    ∃ v' W', (Builtin.append_ #[41, 41] ty #[v, .slice (some ad) m c]).run Try.prog W = .ok v' W' ∧ OwnG B W' v' (xs ++ ys) ∧ Chg W W' (fun k => v.ownBlock = some k) ∧ ∀ k, v'.ownBlock = some k → v.ownBlock = some k ∨ W.heap.size ≤ k := by
  have hf : ((ys.map gcs).flatten).length = m * 3 := by rw [flatten_len (gcs_len ys), List.length_map, hm]
  obtain ⟨v', W', hrun, hown, hg, _, hblk⟩ := elGram.append W ty B v xs.length ((xs.map gcs).flatten) (by have := ho.1; rwa [List.length_map] at this) ad m c ((ys.map gcs).flatten) hf (fun j u hj => by
    have hjl : j < m * 3 := by rw [← hf]; exact (List.getElem?_eq_some_iff.1 hj).1
    have hq : j / 3 < ys.length := by omega
    have hgr := hr (j / 3) (gcs ys[j / 3]) (by rw [List.getElem?_map, List.getElem?_eq_getElem hq]; rfl)
    have hlen := hgr.1
    have hc : (gcs ys[j / 3])[j % 3]? = some ((gcs ys[j / 3])[j % 3]'(by rw [hlen]; omega)) := List.getElem?_eq_getElem _
    have h2 := hgr.2 (j % 3) _ hc
    have hfl := flatten_get (gcs_len ys) (i := j / 3) (cs := gcs ys[j / 3]) (by rw [List.getElem?_map, List.getElem?_eq_getElem hq]; rfl) hc
    rw [show j / 3 * 3 + j % 3 = j by omega] at hfl
    rw [hj] at hfl
    rw [add_add, show j / 3 * 3 + j % 3 = j by omega] at h2
    rw [h2, Option.some.inj hfl]) (gcs_flat_one ys) (by unfold maxLen; omega) (by omega) hB
  refine ⟨v', W', hrun, ⟨?_, ?_⟩, (Chg.of_grown hg).mono fun k _ hk => hk.symm, fun k hk => ?_⟩
  · rw [List.length_map, List.length_append, List.map_append, List.flatten_append, ← hm]
    exact hown
  · exact gcs_len _
  · rcases hblk with h | h
    · exact .inl (h ▸ hk)
    · rw [h] at hk
      exact .inr (Nat.le_of_eq (Option.some.inj hk))
theorem Own.grams_some {B : Nat} {W : World} {v : Value} {xs : List Gm} (ho : OwnG B W v xs) (h : 0 < xs.length) : ∃ ad c, v = .slice (some ad) xs.length c ∧ xs.length ≤ c ∧ c ≤ maxLen ∧ RowsAt W ad 3 (xs.map gcs) ∧ v.ownBlock = some ad.block := by
  obtain ⟨A, c, hv, h1, h2⟩ := ho.form
  obtain ⟨a, hA, hr⟩ := (ho.rows hv).2 (by rw [List.length_map]; exact h)
  rw [List.length_map] at hv h1
  exact ⟨a, c, by rw [hv, hA], h1, h2, hr, by rw [hv, hA]; rfl⟩
theorem rows_take {W : World} {a : Addr} {L : List Gm} (h : RowsAt W a 3 (L.map gcs)) (i : Nat) : RowsAt W a 3 ((L.take i).map gcs) := by
  intro j cs hj
  rw [List.map_take, List.getElem?_take] at hj
  split at hj
  · exact h j cs hj
  · cases hj
theorem rows_tail {W : World} {a : Addr} {L : List Gm} {cap : Nat} (h : RowsAt W a 3 (L.map gcs)) (i : Nat) (hi : i ≤ L.length) (hc : L.length ≤ cap) : ∃ A2 : Addr, (if cap = i then some a else some (a.add (i * 3))) = some A2 ∧ A2.block = a.block ∧ RowsAt W A2 3 ((L.drop i).map gcs) := by
  by_cases hci : cap = i
  · refine ⟨a, by simp [hci], rfl, fun j cs hj => ?_⟩
    rw [List.drop_of_length_le (by omega)] at hj
    simp at hj
  · refine ⟨a.add (i * 3), by simp [hci], add_block _ _, fun j cs hj => ?_⟩
    rw [List.map_drop, List.getElem?_drop] at hj
    have := h (i + j) cs hj
    rw [add_add, ← Nat.add_mul]
    exact this
theorem eraseIdx_insert {α : Type} : ∀ {L : List α} {a : Nat} {x : α}, L[a]? = some x → (L.eraseIdx a).take a ++ x :: (L.eraseIdx a).drop a = L
  | [], a, x, h => by simp at h
  | y :: L, 0, x, h => by
    simp only [List.getElem?_cons_zero, Option.some.injEq] at h
    simp [h]
  | y :: L, a + 1, x, h => by
    simp only [List.getElem?_cons_succ] at h
    simp [eraseIdx_insert h]
end Go.Proofs.Ytenkobgeflckdaa
