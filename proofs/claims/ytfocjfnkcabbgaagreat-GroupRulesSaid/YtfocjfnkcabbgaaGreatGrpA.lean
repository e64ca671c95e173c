/- What group.Group does to memory: rows of one's own whose cells are written. -/
import Derived.Test.YtfocjfnkcabbgaaGreatAlike
import Derived.Test.YtfocjfnkcabbgaaGreatFold2
import Derived.Test.YtfocjfnkcabbgaaGreatRaws
set_option linter.unusedVariables false
set_option linter.unusedSimpArgs false
namespace Go.Proofs.YtfocjfnkcabbgaaGreat
open Go.RowKit Go.Shelf

theorem flat_split {k : Nat} {css : List (List Value)} {cs : List Value} {i : Nat} (hi : css[i]? = some cs) : css.flatten = (css.take i).flatten ++ (cs ++ (css.drop (i + 1)).flatten) ∧ ∀ cs', (css.set i cs').flatten = (css.take i).flatten ++ (cs' ++ (css.drop (i + 1)).flatten) := by
  obtain ⟨hlt, he⟩ := List.getElem?_eq_some_iff.1 hi
  have h2 : ∀ cs', (css.set i cs').flatten = (css.take i).flatten ++ (cs' ++ (css.drop (i + 1)).flatten) := fun cs' => by
    rw [List.set_eq_take_append_cons_drop, if_pos hlt]
    simp
  refine ⟨?_, h2⟩
  have := h2 cs
  rwa [← he, List.set_getElem_self, he] at this
theorem flat_len_take {k : Nat} {css : List (List Value)} (hk : ∀ cs ∈ css, cs.length = k) {i : Nat} (hi : i ≤ css.length) : (css.take i).flatten.length = i * k := by
  rw [flatten_len (k := k) (fun cs hc => hk cs (List.mem_of_mem_take hc)), List.length_take, Nat.min_eq_left hi]
section
variable {W W' : World} {B k : Nat} {e : TypeId} {v : Value} {css : List (List Value)}
/-- A row of one's own, with what lies behind it. -/
theorem Own.block (h : Own W B e k v css) (hp : 0 < css.length) : ∃ g cap rest, v = .slice (some ⟨g, 0, none⟩) css.length cap ∧ B ≤ g ∧ Blk W g e (css.flatten ++ rest).toArray ∧
    ∀ (W' : World) (css' : List (List Value)), css'.length = css.length → (∀ cs ∈ css', cs.length = k) → Blk W' g e (css'.flatten ++ rest).toArray → Own W' B e k v css' := by
  obtain ⟨⟨h0, h1⟩, h2⟩ := h
  rcases h1 with ⟨h3, h4⟩ | ⟨g, cap, cur, rfl, hb, hg, hn, hm, hs, ht⟩
  · omega
  · have hcur : cur = (css.flatten ++ cur.toList.drop (css.length * k)).toArray := by
      rw [← ht, List.take_append_drop]
    refine ⟨g, cap, cur.toList.drop (css.length * k), rfl, hb, by rw [← hcur]; exact hg, fun W' css' hl hk hb' => ⟨⟨?_, .inr ⟨g, cap, _, by rw [hl], hb, hb', by omega, hm, ?_, ?_⟩⟩, hk⟩⟩
    · rw [flatten_len hk]
    · simp only [List.size_toArray, List.length_append, flatten_len hk, List.length_drop, Array.length_toList, hs, hl]
      have : css.length * k ≤ cap * k := Nat.mul_le_mul_right _ hn
      omega
    · simp only []
      rw [List.take_left' (by rw [flatten_len hk])]
theorem Own.get (h : Own W B e k v css) {i : Nat} {cs : List Value} (hi : css[i]? = some cs) : ∃ g cap rest, v = .slice (some ⟨g, 0, none⟩) css.length cap ∧ B ≤ g ∧ Blk W g e (css.flatten ++ rest).toArray ∧ At W ⟨g, i * k, none⟩ cs ∧ i * k + k ≤ (css.flatten ++ rest).toArray.size ∧
    (∀ cs', cs'.length = k → Own (W.setRow g (layA (css.flatten ++ rest).toArray (i * k) cs')) B e k v (css.set i cs')) ∧
    (∀ j u, j < k → Own (W.setCell ⟨g, i * k + j, none⟩ u) B e k v (css.set i (cs.set j u))) := by
  have hlt := (List.getElem?_eq_some_iff.1 hi).1
  obtain ⟨g, cap, rest, hv, hb, hblk, hmk⟩ := h.block (by omega)
  have hk := h.2
  have hcl := hk cs (List.mem_of_getElem? hi)
  obtain ⟨e1, e2⟩ := flat_split (k := k) hi
  have hl := flat_len_take hk (i := i) (by omega)
  have hset : ∀ cs', cs'.length = k → ∀ c ∈ css.set i cs', c.length = k := fun cs' hc c hm => by
    rcases List.mem_or_eq_of_mem_set hm with h1 | h1
    · exact hk c h1
    · rw [h1]; exact hc
  refine ⟨g, cap, rest, hv, hb, hblk, fun j u hj => ?_, ?_, fun cs' hc => ?_, fun j u hj => ?_⟩
  · rw [Addr.add_lit, hblk.cell, List.getElem?_toArray]
    have := flatten_get hk hi hj
    rw [List.getElem?_append_left (List.getElem?_eq_some_iff.1 this).1]
    exact this
  · simp only [List.size_toArray, List.length_append, flatten_len hk]
    have : (i + 1) * k ≤ css.length * k := Nat.mul_le_mul_right _ hlt
    rw [Nat.add_mul, Nat.one_mul] at this
    omega
  · refine hmk _ _ (by rw [List.length_set]) (hset cs' hc) ?_
    have : layA (css.flatten ++ rest).toArray (i * k) cs' = ((css.set i cs').flatten ++ rest).toArray := by
      unfold layA lay
      congr 1
      simp only []
      rw [e1, e2, hc]
      generalize (css.take i).flatten = L1 at hl
      generalize (css.drop (i + 1)).flatten = L2
      have h1 : L1 ++ (cs ++ L2) ++ rest = L1 ++ (cs ++ (L2 ++ rest)) := by simp
      have h2 : L1 ++ (cs ++ L2) ++ rest = (L1 ++ cs) ++ (L2 ++ rest) := by simp
      have h3 : (L1 ++ (cs ++ L2) ++ rest).take (i * k) = L1 := by rw [h1, List.take_left' hl]
      have h4 : (L1 ++ (cs ++ L2) ++ rest).drop (i * k + k) = L2 ++ rest := by rw [h2, List.drop_left' (by rw [List.length_append, hl, hcl])]
      rw [h3, h4]
      simp
    rw [this]
    exact hblk.set _
  · refine hmk _ _ (by rw [List.length_set]) (hset _ (by rw [List.length_set]; exact hcl)) ?_
    have hb1 := hblk.setCell (i * k + j) u
    have : (css.flatten ++ rest).toArray.setIfInBounds (i * k + j) u = ((css.set i (cs.set j u)).flatten ++ rest).toArray := by
      apply Array.ext'
      simp only [Array.toList_setIfInBounds]
      rw [e1, e2, List.append_assoc, List.append_assoc, List.set_append_right _ _ (by rw [hl]; omega), hl, show i * k + j - i * k = j by omega, List.append_assoc, List.append_assoc, List.set_append_left _ _ (by omega)]
    rw [this] at hb1
    exact hb1
end
end Go.Proofs.YtfocjfnkcabbgaaGreat
