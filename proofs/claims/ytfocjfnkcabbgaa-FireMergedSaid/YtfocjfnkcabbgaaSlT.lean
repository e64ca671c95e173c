/- Parts of slices of rows. -/
import Derived.Test.YtfocjfnkcabbgaaSlB
import Derived.Test.YtfocjfnkcabbgaaSegF
set_option linter.unusedVariables false
set_option linter.unusedSimpArgs false
namespace Go.Proofs.Ytfocjfnkcabbgaa
open Go.RowKit Go.Shelf

theorem nm_eq (a b : ByteArray) : (a.toList == b.toList) = decide (a = b) := by
  by_cases h : a = b
  · simp [h]
  · rw [decide_eq_false h, beq_eq_false_iff_ne]
    exact fun e => h (tl_eq'.1 e)
theorem RowsCs.take {w : World} {css : List (List Value)} {rs : List Rw} (h : RowsCs w css rs) (q : Nat) : RowsCs w (css.take q) (rs.take q) := ⟨by rw [List.length_take, List.length_take, h.1], fun i cs hi => by
  rw [List.getElem?_take] at hi
  split at hi
  · rename_i hlt
    obtain ⟨r, h1, h2⟩ := h.2 i cs hi
    exact ⟨r, by rw [List.getElem?_take, if_pos hlt]; exact h1, h2⟩
  · cases hi⟩
theorem RowsCs.drop {w : World} {css : List (List Value)} {rs : List Rw} (h : RowsCs w css rs) (q : Nat) : RowsCs w (css.drop q) (rs.drop q) := ⟨by rw [List.length_drop, List.length_drop, h.1], fun i cs hi => by
  rw [List.getElem?_drop] at hi
  obtain ⟨r, h1, h2⟩ := h.2 (q + i) cs hi
  exact ⟨r, by rw [List.getElem?_drop]; exact h1, h2⟩⟩
theorem RowSlC.take {W : World} {A : Option Addr} {n c : Nat} {css : List (List Value)} {rs : List Rw} (h : RowSlC W (.slice A n c) css rs) {q : Nat} (hq : q ≤ n) : RowSlC W (.slice A q c) (css.take q) (rs.take q) := by
  obtain ⟨A', c', e, h2, h3, h4, h5, h6, h7⟩ := h
  simp only [Value.slice.injEq] at e
  obtain ⟨rfl, e2, rfl⟩ := e
  have hl : (rs.take q).length = q := by rw [List.length_take]; omega
  exact ⟨A, c, by rw [hl], by omega, by omega, h4, h5.take q, h6.take q, h7⟩
theorem RowSlC.drop {W : World} {a : Addr} {n c : Nat} {css : List (List Value)} {rs : List Rw} (h : RowSlC W (.slice (some a) n c) css rs) {q : Nat} (hq : q < n) : RowSlC W (.slice (some (a.add (q * 3))) (n - q) (c - q)) (css.drop q) (rs.drop q) := by
  obtain ⟨A', c', e, h2, h3, h4, h5, h6, h7⟩ := h
  simp only [Value.slice.injEq] at e
  obtain ⟨rfl, e2, rfl⟩ := e
  have hl : (rs.drop q).length = n - q := by rw [List.length_drop]; omega
  have hs := h5.drop (i := q) (cap := c) (by rw [h6.1]; omega) (by rw [h6.1]; omega)
  rw [if_neg (by omega)] at hs
  exact ⟨_, _, by rw [hl], by omega, by omega, by omega, hs, h6.drop q, fun a' ha => by cases ha; rw [add_block]; exact h7 a rfl⟩
theorem turn_mem {rs : List Rw} (q : Nat) (r : Rw) : r ∈ rs ↔ r ∈ rs.drop q ++ rs.take q := by
  conv => lhs; rw [← List.take_append_drop q rs]
  rw [List.mem_append, List.mem_append]
  exact or_comm
theorem filter_take {x : List Rw} {p : Rw → Bool} {i : Nat} {r : Rw} (h : x[i]? = some r) : (x.take (i + 1)).filter p = (x.take i).filter p ++ (if p r = true then [r] else []) := by
  rw [take_succ_get h, List.filter_append]
  congr 1
  by_cases hp : p r = true <;> simp [hp]

end Go.Proofs.Ytfocjfnkcabbgaa
