/- FireMerges: plain. -/
import Derived.Test.YtenkobgeflckdabSlF
set_option linter.unusedVariables false
set_option linter.unusedSimpArgs false
namespace Go.Proofs.Ytenkobgeflckdab
open Go.RowKit Go.Shelf

/-- Less is -1. -/
def Sg {α : Type} (c : α → α → Int) : Prop := ∀ x y, c x y < 0 → c x y = -1
theorem sg_int : Sg cmpI := fun x y h => by unfold cmpI at h ⊢; split at h <;> simp_all <;> (split at h <;> simp_all)
theorem sg_lex {α : Type} {f g : α → α → Int} (hf : Sg f) (hg : Sg g) : Sg (lex2 f g) := fun x y h => by
  unfold lex2 at h ⊢
  split
  · rename_i h0
    rw [if_pos h0] at h
    exact hg x y h
  · rename_i h0
    rw [if_neg h0] at h
    exact hf x y h
theorem sg_list {α : Type} {c : α → α → Int} (hc : Sg c) : Sg (cmpL c)
  | [], [], h => by simp [cmpL] at h
  | [], _ :: _, h => rfl
  | _ :: _, [], h => by simp [cmpL] at h
  | x :: xs, y :: ys, h => by
    unfold cmpL at h ⊢
    split
    · rename_i h0
      rw [if_pos h0] at h
      exact sg_list hc xs ys h
    · rename_i h0
      rw [if_neg h0] at h
      exact hc x y h
theorem sg_pull {α β : Type} {c : β → β → Int} (f : α → β) (hc : Sg c) : Sg (fun x y => c (f x) (f y)) := fun x y h => hc _ _ h
theorem sg_byte : Sg cmpB := fun x y h => by rw [cmpB_nat] at h ⊢; exact sg_int _ _ h
theorem sg_str : Sg cmpS := fun a b h => by
  unfold cmpS at h ⊢
  rw [bytes_eq] at h ⊢
  exact sg_list sg_byte _ _ h
theorem sg_val : Sg cmpV := sg_lex (sg_pull Vl.k sg_int) (sg_lex (sg_pull keyI sg_int) (sg_pull keyT sg_str))
theorem sg_row : Sg cmpR := sg_lex (sg_pull Rw.name sg_str) (sg_pull Rw.args (sg_list sg_val))

/-- The greatest stamp of those that are equal. -/
def bestOf (l : List Rw) (x : Rw) : Int := l.foldl (fun b r => if cmpR r x = 0 then max b r.stamp else b) (-1)
theorem bestOf_snoc (l : List Rw) (x r : Rw) : bestOf (l ++ [r]) x = if cmpR r x = 0 then max (bestOf l x) r.stamp else bestOf l x := by
  unfold bestOf
  rw [List.foldl_append]
  rfl
theorem bestOf_le {x : Rw} {b : Int} (hb : -1 ≤ b) : ∀ (l : List Rw), (∀ r ∈ l, cmpR r x = 0 → r.stamp ≤ b) → bestOf l x ≤ b := by
  intro l
  have key : ∀ (l : List Rw) (a : Int), a ≤ b → (∀ r ∈ l, cmpR r x = 0 → r.stamp ≤ b) → l.foldl (fun b r => if cmpR r x = 0 then max b r.stamp else b) a ≤ b := by
    intro l
    induction l with
    | nil => intro a h _; exact h
    | cons r l ih =>
      intro a h hl
      rw [List.foldl_cons]
      refine ih _ ?_ (fun r' hr' => hl r' (List.mem_cons_of_mem _ hr'))
      by_cases h0 : cmpR r x = 0
      · rw [if_pos h0]; have := hl r (List.mem_cons_self ..) h0; omega
      · rw [if_neg h0]; exact h
  exact key l (-1) hb
theorem bestOf_ge {x r : Rw} : ∀ (l : List Rw), r ∈ l → cmpR r x = 0 → r.stamp ≤ bestOf l x := by
  have mono : ∀ (l : List Rw) (a : Int), a ≤ l.foldl (fun b r => if cmpR r x = 0 then max b r.stamp else b) a := by
    intro l
    induction l with
    | nil => intro a; exact Int.le_refl _
    | cons r l ih =>
      intro a
      rw [List.foldl_cons]
      refine Int.le_trans ?_ (ih _)
      by_cases h0 : cmpR r x = 0
      · rw [if_pos h0]; omega
      · rw [if_neg h0]; exact Int.le_refl _
  have key : ∀ (l : List Rw) (a : Int), r ∈ l → cmpR r x = 0 → r.stamp ≤ l.foldl (fun b r => if cmpR r x = 0 then max b r.stamp else b) a := by
    intro l
    induction l with
    | nil => intro a h; cases h
    | cons s l ih =>
      intro a h h0
      rw [List.foldl_cons]
      rcases List.mem_cons.1 h with rfl | h
      · refine Int.le_trans ?_ (mono l _)
        rw [if_pos h0]; omega
      · exact ih _ h h0
  exact fun l => key l (-1)
/-- Two of a merged list that compare equal are one. -/
theorem merged_eq {m : List Rw} (hm : m.Pairwise (fun a b => cmpR a b < 0)) {a b : Rw} (ha : a ∈ m) (hb : b ∈ m) (h : cmpR a b = 0) : a = b := by
  have h1 := findS_some hm ha (tri_row.refl a)
  obtain ⟨i, hi, rfl⟩ := List.getElem_of_mem ha
  obtain ⟨j, hj, rfl⟩ := List.getElem_of_mem hb
  rcases Nat.lt_trichotomy i j with hij | hij | hij
  · have := List.pairwise_iff_getElem.1 hm i j hi hj hij
    omega
  · subst hij; rfl
  · have h2 := List.pairwise_iff_getElem.1 hm j i hj hi hij
    have := tri_row.anti m[j] m[i]
    omega
theorem best_is {rs m : List Rw} (hm : IsMerge rs m) (h0 : ∀ r ∈ rs, 0 ≤ r.stamp) {x : Rw} (hx : x ∈ m) : bestOf rs x = x.stamp := by
  have h1 := bestOf_ge (x := x) rs (hm.sub x hx) (tri_row.refl x)
  have hx0 := h0 x (hm.sub x hx)
  have h2 := bestOf_le (x := x) (b := x.stamp) (by omega) rs (fun r hr he => by
    obtain ⟨s, hs, h3, h4⟩ := hm.all r hr
    have : s = x := merged_eq hm.up hs hx (eq_trans' h3 he)
    rw [← this]
    exact h4)
  omega
theorem find_is {rs m : List Rw} (hm : IsMerge rs m) {r : Rw} (hr : r ∈ rs) : r.stamp ≤ findS m r := by
  obtain ⟨s, hs, h3, h4⟩ := hm.all r hr
  rw [findS_some hm.up hs h3]
  exact h4
end Go.Proofs.Ytenkobgeflckdab
