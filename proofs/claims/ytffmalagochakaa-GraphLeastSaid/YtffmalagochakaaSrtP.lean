/- Sorting, in plain Lean: what insertion and merging keep; Sorting, in plain Lean: ranges that change places, rotation; Sorting, in plain Lean: merging in place; Sorting, in plain Lean: blocks in order. -/
import Derived.Test.YtffmalagochakaaProg
set_option linter.unusedVariables false
namespace Go.Proofs.Ytffmalagochakaa

section
variable {α : Type}
/-- x may stand ahead of y. -/
def Le (cf : α → α → Int) (x y : α) : Prop := ¬ cf y x < 0
structure Ordr (cf : α → α → Int) : Prop where
  asym : ∀ x y, cf x y < 0 → ¬ cf y x < 0
  trans : ∀ x y z, Le cf x y → Le cf y z → Le cf x z
/-- In order from a on, below b. -/
def Srt (cf : α → α → Int) (e : List α) (a b : Nat) : Prop := ∀ p q x y, a ≤ p → p < q → q < b → e[p]? = some x → e[q]? = some y → Le cf x y
/-- The same but from a on, below b. -/
def Same' (e d : List α) (a b : Nat) : Prop := ∀ p, p < a ∨ b ≤ p → e[p]? = d[p]?
/-- The elements of a range are those of a range. -/
def Mix (e d : List α) (a b : Nat) : Prop := e.length = d.length ∧ Same' e d a b ∧ ∀ p x, a ≤ p → p < b → e[p]? = some x → ∃ q, a ≤ q ∧ q < b ∧ d[q]? = some x

theorem Mix.refl (d : List α) (a b : Nat) : Mix d d a b := ⟨rfl, fun _ _ => rfl, fun p x h1 h2 h => ⟨p, h1, h2, h⟩⟩
theorem Mix.trans {e f d : List α} {a b : Nat} (h : Mix e f a b) (h' : Mix f d a b) : Mix e d a b := ⟨h.1.trans h'.1, fun p hp => (h.2.1 p hp).trans (h'.2.1 p hp), fun p x h1 h2 h3 => by
  obtain ⟨q, q1, q2, q3⟩ := h.2.2 p x h1 h2 h3
  exact h'.2.2 q x q1 q2 q3⟩
theorem Mix.wide {e d : List α} {a b a' b' : Nat} (h : Mix e d a b) (ha : a' ≤ a) (hb : b ≤ b') : Mix e d a' b' := ⟨h.1, fun p hp => h.2.1 p (by omega), fun p x h1 h2 h3 => by
  by_cases hp : a ≤ p ∧ p < b
  · obtain ⟨q, q1, q2, q3⟩ := h.2.2 p x hp.1 hp.2 h3
    exact ⟨q, by omega, by omega, q3⟩
  · exact ⟨p, h1, h2, by rw [← h.2.1 p (by omega)]; exact h3⟩⟩

/-- Two elements change places. -/
def swp (e : List α) (i j : Nat) (x y : α) : List α := (e.set i y).set j x
theorem swp_length (e : List α) (i j : Nat) (x y : α) : (swp e i j x y).length = e.length := by simp [swp]
theorem swp_get {e : List α} {i j : Nat} {x y : α} (hi : e[i]? = some x) (hj : e[j]? = some y) (p : Nat) : (swp e i j x y)[p]? = if p = j then some x else if p = i then some y else e[p]? := by
  have h1 : i < e.length := (List.getElem?_eq_some_iff.1 hi).1
  have h2 : j < e.length := (List.getElem?_eq_some_iff.1 hj).1
  unfold swp
  rw [List.getElem?_set, List.getElem?_set, List.length_set]
  by_cases hpj : p = j
  · subst hpj
    simp [h2]
  · rw [if_neg (Ne.symm hpj), if_neg hpj]
    by_cases hpi : p = i
    · subst hpi
      simp [h1]
    · rw [if_neg (Ne.symm hpi), if_neg hpi]
theorem swp_perm {e : List α} {i j : Nat} {x y : α} (hi : e[i]? = some x) (hj : e[j]? = some y) : (swp e i j x y).Perm e := by
  obtain ⟨h1, rfl⟩ := List.getElem?_eq_some_iff.1 hi
  obtain ⟨h2, rfl⟩ := List.getElem?_eq_some_iff.1 hj
  exact List.set_set_perm h1 h2
theorem swp_mix {e : List α} {i j : Nat} {x y : α} (hi : e[i]? = some x) (hj : e[j]? = some y) {a b : Nat} (hia : a ≤ i) (hib : i < b) (hja : a ≤ j) (hjb : j < b) : Mix (swp e i j x y) e a b := by
  refine ⟨swp_length .., fun p hp => ?_, fun p z h1 h2 h3 => ?_⟩
  · rw [swp_get hi hj, if_neg (by omega), if_neg (by omega)]
  · rw [swp_get hi hj] at h3
    split at h3
    · cases h3; exact ⟨i, hia, hib, hi⟩
    · split at h3
      · cases h3; exact ⟨j, hja, hjb, hj⟩
      · exact ⟨p, h1, h2, h3⟩

theorem swp_comm {e : List α} {i j : Nat} {x y : α} (h : i ≠ j) : swp e i j x y = swp e j i y x := by
  unfold swp
  rw [List.set_comm _ _ h]
theorem Srt.less {cf : α → α → Int} {e : List α} {a b a' b' : Nat} (h : Srt cf e a b) (ha : a ≤ a') (hb : b' ≤ b) : Srt cf e a' b' := fun p q x y h1 h2 h3 => h p q x y (by omega) h2 (by omega)
theorem Srt.short {cf : α → α → Int} (e : List α) {a b : Nat} (h : b ≤ a + 1) : Srt cf e a b := fun p q x y h1 h2 h3 => by omega
theorem Srt.same {cf : α → α → Int} {e d : List α} {a b c c' : Nat} (h : Srt cf d a b) (hs : Same' e d c c') (hd : b ≤ c ∨ c' ≤ a) : Srt cf e a b := fun p q x y h1 h2 h3 hx hy =>
  h p q x y h1 h2 h3 (by rw [← hs p (by omega)]; exact hx) (by rw [← hs q (by omega)]; exact hy)
/-- Two stretches, each in order, all of one ahead of all of the other. -/
theorem Srt.join {cf : α → α → Int} {e : List α} {a m b : Nat} (h1 : Srt cf e a m) (h2 : Srt cf e m b) (h : ∀ p q x y, a ≤ p → p < m → m ≤ q → q < b → e[p]? = some x → e[q]? = some y → Le cf x y) : Srt cf e a b := fun p q x y hp hpq hq hx hy => by
  by_cases hqm : q < m
  · exact h1 p q x y hp hpq hqm hx hy
  · by_cases hpm : p < m
    · exact h p q x y hp hpm (by omega) hq hx hy
    · exact h2 p q x y (by omega) hpq hq hx hy

/-- The element at j is on its way down. -/
structure Ins (cf : α → α → Int) (e : List α) (a i j : Nat) : Prop where
  ja : a ≤ j
  ji : j ≤ i
  rest : ∀ p q x y, a ≤ p → p < q → q ≤ i → p ≠ j → q ≠ j → e[p]? = some x → e[q]? = some y → Le cf x y
  up : ∀ q x y, j < q → q ≤ i → e[j]? = some x → e[q]? = some y → Le cf x y
theorem Ins.start {cf : α → α → Int} {e : List α} {a i : Nat} (h : Srt cf e a i) (hai : a ≤ i) : Ins cf e a i i := ⟨hai, Nat.le_refl _, fun p q x y h1 h2 h3 h4 h5 => h p q x y h1 h2 (by omega), fun q x y h1 h2 => by omega⟩
theorem Ins.step {cf : α → α → Int} (ho : Ordr cf) {e : List α} {a i j : Nat} {x y : α} (h : Ins cf e a i j) (hj : a < j) (hx : e[j]? = some x) (hy : e[j - 1]? = some y) (hc : cf x y < 0) : Ins cf (swp e (j - 1) j y x) a i (j - 1) := by
  have hlt := h.ji
  refine ⟨by omega, by omega, fun p q u v h1 h2 h3 h4 h5 hu hv => ?_, fun q u v h1 h2 hu hv => ?_⟩
  · rw [swp_get hy hx] at hu hv
    rw [if_neg h4] at hu
    rw [if_neg h5] at hv
    by_cases hpj : p = j
    · rw [if_pos hpj] at hu
      cases hu
      rw [if_neg (by omega)] at hv
      exact h.rest (j - 1) q y v (by omega) (by omega) h3 (by omega) (by omega) hy hv
    · rw [if_neg hpj] at hu
      by_cases hqj : q = j
      · rw [if_pos hqj] at hv
        cases hv
        exact h.rest p (j - 1) u y h1 (by omega) (by omega) hpj (by omega) hu hy
      · rw [if_neg hqj] at hv
        exact h.rest p q u v h1 h2 h3 hpj hqj hu hv
  · rw [swp_get hy hx] at hu hv
    rw [if_neg (by omega), if_pos rfl] at hu
    cases hu
    rw [if_neg (show ¬ q = j - 1 by omega)] at hv
    by_cases hqj : q = j
    · rw [if_pos hqj] at hv
      cases hv
      exact ho.asym x y hc
    · rw [if_neg hqj] at hv
      exact h.up q x v (by omega) h2 hx hv
theorem Ins.step' {cf : α → α → Int} (ho : Ordr cf) {e : List α} {a i j : Nat} {x y : α} (h : Ins cf e a i (j + 1)) (hj : a < j + 1) (hx : e[j + 1]? = some x) (hy : e[j]? = some y) (hc : cf x y < 0) : Ins cf (swp e (j + 1) j x y) a i j := by
  rw [swp_comm (by omega)]
  exact h.step ho hj hx hy hc
theorem Ins.done {cf : α → α → Int} (ho : Ordr cf) {e : List α} {a i j : Nat} (h : Ins cf e a i j) (hd : j = a ∨ ∃ x y, e[j]? = some x ∧ e[j - 1]? = some y ∧ ¬ cf x y < 0) : Srt cf e a (i + 1) := fun p q u v h1 h2 h3 hu hv => by
  by_cases hpj : p = j
  · subst hpj
    exact h.up q u v h2 (by omega) hu hv
  · by_cases hqj : q = j
    · subst hqj
      rcases hd with rfl | ⟨x, y, hx, hy, hc⟩
      · omega
      · rw [hv] at hx
        cases hx
        by_cases hpq : p = q - 1
        · subst hpq
          rw [hu] at hy
          cases hy
          exact hc
        · exact ho.trans u y v (h.rest p (q - 1) u y h1 (by omega) (by have := h.ji; omega) hpj (by omega) hu hy) hc
    · exact h.rest p q u v h1 h2 (by omega) hpj hqj hu hv
end
end Go.Proofs.Ytffmalagochakaa

set_option linter.unusedVariables false
namespace Go.Proofs.Ytffmalagochakaa

section
variable {α : Type}
/-- The first k of two ranges have changed places. -/
def SwR (e d : List α) (a b k : Nat) : Prop := e.length = d.length ∧ ∀ p, e[p]? = if a ≤ p ∧ p < a + k then d[p - a + b]? else if b ≤ p ∧ p < b + k then d[p - b + a]? else d[p]?
theorem SwR.refl (d : List α) (a b : Nat) : SwR d d a b 0 := ⟨rfl, fun p => by rw [if_neg (by omega), if_neg (by omega)]⟩
theorem SwR.step {e d : List α} {a b k : Nat} {x y : α} (h : SwR e d a b k) (hab : a + k < b) (hx : e[a + k]? = some x) (hy : e[b + k]? = some y) : SwR (swp e (a + k) (b + k) x y) d a b (k + 1) := by
  refine ⟨(swp_length ..).trans h.1, fun p => ?_⟩
  have h1 := h.2 (a + k)
  have h2 := h.2 (b + k)
  rw [hx, if_neg (by omega), if_neg (by omega)] at h1
  rw [hy, if_neg (by omega), if_neg (by omega)] at h2
  rw [swp_get hx hy, h.2 p]
  by_cases hb : p = b + k
  · subst hb
    rw [if_pos rfl, if_neg (by omega), if_pos (by omega), h1]
    congr 1
    omega
  · rw [if_neg hb]
    by_cases ha : p = a + k
    · subst ha
      rw [if_pos rfl, if_pos (by omega), h2]
      congr 1
      omega
    · rw [if_neg ha]
      by_cases c1 : a ≤ p ∧ p < a + k
      · rw [if_pos c1, if_pos (by omega)]
      · rw [if_neg c1]
        rw [if_neg (show ¬ (a ≤ p ∧ p < a + (k + 1)) by omega)]
        by_cases c2 : b ≤ p ∧ p < b + k
        · rw [if_pos c2, if_pos (by omega)]
        · rw [if_neg c2, if_neg (by omega)]
theorem SwR.list {e P A X B S : List α} {a b k : Nat} (h : SwR e (P ++ A ++ X ++ B ++ S) a b k) (ha : P.length = a) (hA : A.length = k) (hB : B.length = k) (hb : a + k + X.length = b) : e = P ++ B ++ X ++ A ++ S := by
  apply List.ext_getElem?
  intro p
  rw [h.2 p]
  simp only [List.getElem?_append, List.length_append, ha, hA, hB]
  repeat' split
  all_goals first | rfl | (exfalso; omega) | (congr 1; omega)

/-- What is left to be turned about m: i ahead of it, j behind. -/
def Rot (e fin : List α) (m i j : Nat) : Prop := ∃ P U V S, e = P ++ U ++ V ++ S ∧ fin = P ++ V ++ U ++ S ∧ P.length + i = m ∧ U.length = i ∧ V.length = j
theorem Rot.left {e e' fin : List α} {m i j : Nat} (h : Rot e fin m i j) (hij : j < i) (hs : SwR e' e (m - i) m j) : Rot e' fin m (i - j) j := by
  obtain ⟨P, U, V, S, rfl, rfl, hp, hu, hv⟩ := h
  have h1 : e' = P ++ V ++ U.drop j ++ U.take j ++ S := by
    refine SwR.list (P := P) (A := U.take j) (X := U.drop j) (B := V) (S := S) (a := m - i) (b := m) (k := j) ?_ (by omega) (by rw [List.length_take]; omega) hv (by rw [List.length_drop]; omega)
    have : P ++ U.take j ++ U.drop j ++ V ++ S = P ++ U ++ V ++ S := by rw [List.append_assoc P, List.take_append_drop]
    rw [this]
    exact hs
  refine ⟨P ++ V, U.drop j, U.take j, S, h1, ?_, by rw [List.length_append]; omega, by rw [List.length_drop]; omega, by rw [List.length_take]; omega⟩
  rw [List.append_assoc (P ++ V) (U.take j), List.take_append_drop]
theorem Rot.right {e e' fin : List α} {m i j : Nat} (h : Rot e fin m i j) (hij : i < j) (hs : SwR e' e (m - i) (m + j - i) i) : Rot e' fin m i (j - i) := by
  obtain ⟨P, U, V, S, rfl, rfl, hp, hu, hv⟩ := h
  have h1 : e' = P ++ V.drop (j - i) ++ V.take (j - i) ++ U ++ S := by
    refine SwR.list (P := P) (A := U) (X := V.take (j - i)) (B := V.drop (j - i)) (S := S) (a := m - i) (b := m + j - i) (k := i) ?_ (by omega) hu (by rw [List.length_drop]; omega) (by rw [List.length_take]; omega)
    have : P ++ U ++ V.take (j - i) ++ V.drop (j - i) ++ S = P ++ U ++ V ++ S := by rw [List.append_assoc (P ++ U), List.take_append_drop]
    rw [this]
    exact hs
  refine ⟨P, V.drop (j - i), V.take (j - i), U ++ S, by rw [h1]; simp [List.append_assoc], ?_, by omega, by rw [List.length_drop]; omega, by rw [List.length_take]; omega⟩
  rw [List.append_assoc P (V.take (j - i)), List.take_append_drop]
  simp [List.append_assoc]
theorem Rot.last {e e' fin : List α} {m i : Nat} (h : Rot e fin m i i) (hs : SwR e' e (m - i) m i) : e' = fin := by
  obtain ⟨P, U, V, S, rfl, rfl, hp, hu, hv⟩ := h
  have := SwR.list (P := P) (A := U) (X := []) (B := V) (S := S) (e := e') (a := m - i) (b := m) (k := i) (by simpa using hs) (by omega) hu hv (by simp; omega)
  simpa using this

/-- A range turned about m. -/
def rotL (d : List α) (a m b : Nat) : List α := d.take a ++ (d.drop m).take (b - m) ++ (d.drop a).take (m - a) ++ d.drop b
theorem rotL_start {d : List α} {a m b : Nat} (h1 : a ≤ m) (h2 : m ≤ b) (h3 : b ≤ d.length) : Rot d (rotL d a m b) m (m - a) (b - m) := by
  refine ⟨d.take a, (d.drop a).take (m - a), (d.drop m).take (b - m), d.drop b, ?_, rfl, by rw [List.length_take]; omega, by rw [List.length_take, List.length_drop]; omega, by rw [List.length_take, List.length_drop]; omega⟩
  have e1 : d.take a ++ (d.drop a).take (m - a) = d.take m := by
    rw [show m = a + (m - a) by omega, List.take_add]
    simp
  have e2 : d.take m ++ (d.drop m).take (b - m) = d.take b := by
    rw [show b = m + (b - m) by omega, List.take_add]
    simp
  rw [e1, e2, List.take_append_drop]
theorem rotL_get {d : List α} {a m b : Nat} (h1 : a ≤ m) (h2 : m ≤ b) (h3 : b ≤ d.length) (p : Nat) : (rotL d a m b)[p]? = if p < a then d[p]? else if p < a + (b - m) then d[p - a + m]? else if p < b then d[p - (b - m)]? else d[p]? := by
  unfold rotL
  have l1 : (d.take a).length = a := by rw [List.length_take]; omega
  have l2 : ((d.drop m).take (b - m)).length = b - m := by rw [List.length_take, List.length_drop]; omega
  have l3 : ((d.drop a).take (m - a)).length = m - a := by rw [List.length_take, List.length_drop]; omega
  simp only [List.getElem?_append, List.length_append, l1, l2, l3]
  simp only [List.getElem?_take, List.getElem?_drop]
  repeat' split
  all_goals first | rfl | (exfalso; omega) | (congr 1; omega)
end
end Go.Proofs.Ytffmalagochakaa

set_option linter.unusedVariables false
namespace Go.Proofs.Ytffmalagochakaa

section
variable {α : Type} {cf : α → α → Int}
/-- A search by halves: what holds ahead, what holds behind. -/
structure Bin (L R : Nat → Prop) (p q i j : Nat) : Prop where
  lo : p ≤ i
  ij : i ≤ j
  hi : j ≤ q
  l : i = p ∨ L (i - 1)
  r : j = q ∨ R j
theorem Bin.up {L R : Nat → Prop} {p q i j h : Nat} (b : Bin L R p q i j) (h1 : i ≤ h) (h2 : h < j) (hl : L h) : Bin L R p q (h + 1) j := ⟨Nat.le_trans b.lo (by omega), h2, b.hi, .inr hl, b.r⟩
theorem Bin.down {L R : Nat → Prop} {p q i j h : Nat} (b : Bin L R p q i j) (h1 : i ≤ h) (h2 : h < j) (hr : R h) : Bin L R p q i h := ⟨b.lo, h1, Nat.le_trans (Nat.le_of_lt h2) b.hi, b.l, .inr hr⟩
/-- The element at a has gone up to k. -/
def Mv (e d : List α) (a k : Nat) : Prop := e.length = d.length ∧ ∀ p, e[p]? = if a ≤ p ∧ p < k then d[p + 1]? else if p = k then d[a]? else d[p]?
theorem Mv.refl (d : List α) (a : Nat) : Mv d d a a := ⟨rfl, fun p => by
  rw [if_neg (by omega)]
  split
  · rename_i h; rw [h]
  · rfl⟩
theorem Mv.step {e d : List α} {a k : Nat} {x y : α} (h : Mv e d a k) (hak : a ≤ k) (hx : e[k]? = some x) (hy : e[k + 1]? = some y) : Mv (swp e k (k + 1) x y) d a (k + 1) := by
  refine ⟨(swp_length ..).trans h.1, fun p => ?_⟩
  have h1 := h.2 k
  have h2 := h.2 (k + 1)
  rw [hx, if_neg (by omega), if_pos rfl] at h1
  rw [hy, if_neg (by omega), if_neg (by omega)] at h2
  rw [swp_get hx hy, h.2 p]
  by_cases c1 : p = k + 1
  · subst c1
    rw [if_pos rfl, if_neg (by omega), if_pos rfl, h1]
  · rw [if_neg c1]
    by_cases c2 : p = k
    · subst c2
      rw [if_pos rfl, if_pos (by omega), h2]
    · rw [if_neg c2]
      by_cases c3 : a ≤ p ∧ p < k
      · rw [if_pos c3, if_pos (by omega)]
      · rw [if_neg c3, if_neg (by omega), if_neg (by omega), if_neg c1]
theorem Mv.sorted (ho : Ordr cf) {e d : List α} {a b i : Nat} {x : α} (hx : d[a]? = some x) (hs : Srt cf d (a + 1) b) (h1 : a + 1 ≤ i) (h2 : i ≤ b) (hl : i = a + 1 ∨ ∃ y, d[i - 1]? = some y ∧ cf y x < 0) (hr : i = b ∨ ∃ y, d[i]? = some y ∧ ¬ cf y x < 0) (h : Mv e d a (i - 1)) : Srt cf e a b := by
  intro p q u v hp hpq hq hu hv
  rw [h.2] at hu hv
  by_cases c1 : p < i - 1
  · rw [if_pos ⟨hp, c1⟩] at hu
    by_cases c2 : q < i - 1
    · rw [if_pos ⟨by omega, c2⟩] at hv
      exact hs (p + 1) (q + 1) u v (by omega) (by omega) (by omega) hu hv
    · rw [if_neg (by omega)] at hv
      by_cases c3 : q = i - 1
      · rw [if_pos c3, hx] at hv
        cases hv
        obtain ⟨y, hy, hc⟩ := hl.resolve_left (by omega)
        have hyx : Le cf y x := ho.asym _ _ hc
        by_cases c4 : p + 1 = i - 1
        · rw [c4, hy] at hu
          cases hu
          exact hyx
        · exact ho.trans u y x (hs (p + 1) (i - 1) u y (by omega) (by omega) (by omega) hu hy) hyx
      · rw [if_neg c3] at hv
        exact hs (p + 1) q u v (by omega) (by omega) hq hu hv
  · rw [if_neg (by omega)] at hu
    rw [if_neg (by omega), if_neg (by omega)] at hv
    by_cases c3 : p = i - 1
    · rw [if_pos c3, hx] at hu
      cases hu
      obtain ⟨y, hy, hc⟩ := hr.resolve_left (by omega)
      by_cases c4 : q = i
      · subst c4
        rw [hy] at hv
        cases hv
        exact hc
      · exact ho.trans x y v hc (hs i q y v (by omega) (by omega) hq hy hv)
    · rw [if_neg c3] at hu
      exact hs p q u v (by omega) hpq hq hu hv

/-- The element at m has gone down to k. -/
def Mw (e d : List α) (m k : Nat) : Prop := e.length = d.length ∧ ∀ p, e[p]? = if k < p ∧ p ≤ m then d[p - 1]? else if p = k then d[m]? else d[p]?
theorem Mw.refl (d : List α) (m : Nat) : Mw d d m m := ⟨rfl, fun p => by
  rw [if_neg (by omega)]
  split
  · rename_i h; rw [h]
  · rfl⟩
theorem Mw.step {e d : List α} {m k : Nat} {x y : α} (h : Mw e d m (k + 1)) (hk : k + 1 ≤ m) (hx : e[k + 1]? = some x) (hy : e[k]? = some y) : Mw (swp e (k + 1) k x y) d m k := by
  refine ⟨(swp_length ..).trans h.1, fun p => ?_⟩
  have h1 := h.2 (k + 1)
  have h2 := h.2 k
  rw [hx, if_neg (by omega), if_pos rfl] at h1
  rw [hy, if_neg (by omega), if_neg (by omega)] at h2
  rw [swp_get hx hy, h.2 p]
  by_cases c1 : p = k
  · subst c1
    rw [if_pos rfl, if_neg (by omega), if_pos rfl, h1]
  · rw [if_neg c1]
    by_cases c2 : p = k + 1
    · subst c2
      rw [if_pos rfl, if_pos (by omega), h2]
      rfl
    · rw [if_neg c2]
      by_cases c3 : k + 1 < p ∧ p ≤ m
      · rw [if_pos c3, if_pos (by omega)]
      · rw [if_neg c3, if_neg (by omega), if_neg (by omega), if_neg c1]
theorem Mw.sorted (ho : Ordr cf) {e d : List α} {a m i : Nat} {x : α} (hx : d[m]? = some x) (hs : Srt cf d a m) (h1 : a ≤ i) (h2 : i ≤ m) (hl : i = a ∨ ∃ y, d[i - 1]? = some y ∧ ¬ cf x y < 0) (hr : i = m ∨ ∃ y, d[i]? = some y ∧ cf x y < 0) (h : Mw e d m i) : Srt cf e a (m + 1) := by
  intro p q u v hp hpq hq hu hv
  rw [h.2] at hu hv
  by_cases c1 : i < p
  · rw [if_pos (by omega)] at hu
    rw [if_pos (by omega)] at hv
    exact hs (p - 1) (q - 1) u v (by omega) (by omega) (by omega) hu hv
  · rw [if_neg (by omega)] at hu
    by_cases c2 : p = i
    · rw [if_pos c2, hx] at hu
      cases hu
      rw [if_pos (by omega)] at hv
      obtain ⟨y, hy, hc⟩ := hr.resolve_left (by omega)
      have hxy : Le cf x y := ho.asym _ _ hc
      by_cases c3 : q - 1 = i
      · rw [c3, hy] at hv
        cases hv
        exact hxy
      · exact ho.trans x y v hxy (hs i (q - 1) y v (by omega) (by omega) (by omega) hy hv)
    · rw [if_neg c2] at hu
      by_cases c3 : q = i
      · rw [if_neg (by omega), if_pos c3, hx] at hv
        cases hv
        obtain ⟨y, hy, hc⟩ := hl.resolve_left (by omega)
        by_cases c4 : p = i - 1
        · rw [c4, hy] at hu
          cases hu
          exact hc
        · exact ho.trans u y x (hs p (i - 1) u y hp (by omega) (by omega) hu hy) hc
      · by_cases c4 : i < q
        · rw [if_pos (by omega)] at hv
          exact hs p (q - 1) u v hp (by omega) (by omega) hu hv
        · rw [if_neg (by omega), if_neg c3] at hv
          exact hs p q u v hp hpq (by omega) hu hv

/-- Behind the turning: four stretches in order, the first two ahead of the others. -/
structure Sym (cf : α → α → Int) (d1 d : List α) (a m b S E mid : Nat) : Prop where
  s1 : Srt cf d1 a S
  s2 : Srt cf d1 S mid
  s3 : Srt cf d1 mid E
  s4 : Srt cf d1 E b
  cross : ∀ p q x y, a ≤ p → p < mid → mid ≤ q → q < b → d1[p]? = some x → d1[q]? = some y → Le cf x y
  mix : Mix d1 d a b
theorem sym_turn (ho : Ordr cf) {d : List α} {a m b S E mid : Nat} (h1 : Srt cf d a m) (h2 : Srt cf d m b) (hlen : b ≤ d.length) (haS : a ≤ S) (hSm : S ≤ m) (hmE : m ≤ E) (hEb : E ≤ b) (hmid : mid = S + (E - m))
    (hl : S = a ∨ E = b ∨ ∃ x y, d[S - 1]? = some x ∧ d[E]? = some y ∧ ¬ cf y x < 0) (hr : S = m ∨ E = m ∨ ∃ x y, d[S]? = some x ∧ d[E - 1]? = some y ∧ cf y x < 0) : Sym cf (rotL d S m E) d a m b S E mid := by
  have hg := fun p => rotL_get (d := d) (a := S) (m := m) (b := E) hSm hmE (by omega) p
  have lll : ∀ p q x y, a ≤ p → p ≤ q → q < m → d[p]? = some x → d[q]? = some y → Le cf x y ∨ x = y := fun p q x y hp hpq hq hx hy => by
    by_cases hpq' : p = q
    · subst hpq'; rw [hx] at hy; exact .inr (Option.some.inj hy)
    · exact .inl (h1 p q x y hp (by omega) hq hx hy)
  have rrr : ∀ p q x y, m ≤ p → p ≤ q → q < b → d[p]? = some x → d[q]? = some y → Le cf x y ∨ x = y := fun p q x y hp hpq hq hx hy => by
    by_cases hpq' : p = q
    · subst hpq'; rw [hx] at hy; exact .inr (Option.some.inj hy)
    · exact .inl (h2 p q x y hp (by omega) hq hx hy)
  have chain : ∀ x u v y, (Le cf x u ∨ x = u) → Le cf u v → (Le cf v y ∨ v = y) → Le cf x y := fun x u v y h3 h4 h5 => by
    have h6 : Le cf x v := by
      rcases h3 with h | h
      · exact ho.trans _ _ _ h h4
      · rw [h]; exact h4
    rcases h5 with h | h
    · exact ho.trans _ _ _ h6 h
    · rw [← h]; exact h6
  subst hmid
  refine ⟨fun p q x y hp hpq hq hx hy => ?_, fun p q x y hp hpq hq hx hy => ?_, fun p q x y hp hpq hq hx hy => ?_, fun p q x y hp hpq hq hx hy => ?_, fun p q x y hp hpm hmq hq hx hy => ?_, ?_⟩
  · rw [hg, if_pos (by omega)] at hx hy
    exact h1 p q x y hp hpq (by omega) hx hy
  · rw [hg, if_neg (by omega), if_pos (by omega)] at hx hy
    exact h2 _ _ x y (by omega) (by omega) (by omega) hx hy
  · rw [hg, if_neg (by omega), if_neg (by omega), if_pos (by omega)] at hx hy
    exact h1 _ _ x y (by omega) (by omega) (by omega) hx hy
  · rw [hg, if_neg (by omega), if_neg (by omega), if_neg (by omega)] at hx hy
    exact h2 p q x y (by omega) hpq hq hx hy
  · rw [hg] at hx hy
    rw [if_neg (by omega), if_neg (by omega)] at hy
    by_cases c1 : p < S
    · rw [if_pos c1] at hx
      by_cases c2 : q < E
      · rw [if_pos c2] at hy
        exact h1 _ _ x y hp (by omega) (by omega) hx hy
      · rw [if_neg c2] at hy
        obtain ⟨u, v, hu, hv, hc⟩ := (hl.resolve_left (by omega)).resolve_left (by omega)
        exact chain x u v y (lll p (S - 1) x u hp (by omega) (by omega) hx hu) hc (rrr E q v y (by omega) (by omega) hq hv hy)
    · rw [if_neg c1, if_pos (by omega)] at hx
      by_cases c2 : q < E
      · rw [if_pos c2] at hy
        obtain ⟨u, v, hu, hv, hc⟩ := (hr.resolve_left (by omega)).resolve_left (by omega)
        exact chain x v u y (rrr _ (E - 1) x v (by omega) (by omega) (by omega) hx hv) (ho.asym _ _ hc) (lll S _ u y haS (by omega) (by omega) hu hy)
      · rw [if_neg c2] at hy
        exact h2 _ _ x y (by omega) (by omega) hq hx hy
  · have hlenr : (rotL d S m E).length = d.length := by
      unfold rotL
      simp only [List.length_append, List.length_take, List.length_drop]
      omega
    refine ⟨hlenr, fun p hp => ?_, fun p x hp hpb hx => ?_⟩
    · rw [hg]
      rcases hp with hp | hp
      · rw [if_pos (by omega)]
      · rw [if_neg (by omega), if_neg (by omega), if_neg (by omega)]
    · rw [hg] at hx
      split at hx
      · exact ⟨p, hp, hpb, hx⟩
      · split at hx
        · exact ⟨_, by omega, by omega, hx⟩
        · split at hx
          · exact ⟨_, by omega, by omega, hx⟩
          · exact ⟨p, hp, hpb, hx⟩
theorem Sym.done {d3 d2 d1 d : List α} {a m b S E mid : Nat} (h : Sym cf d1 d a m b S E mid) (ham : a ≤ mid) (hmb : mid ≤ b) (m2 : Mix d2 d1 a mid) (s2 : Srt cf d2 a mid) (m3 : Mix d3 d2 mid b) (s3 : Srt cf d3 mid b) : Srt cf d3 a b ∧ Mix d3 d a b := by
  refine ⟨Srt.join (s2.same m3.2.1 (.inl (Nat.le_refl _))) s3 fun p q x y hp hpm hmq hq hx hy => ?_, ((m3.wide ham (Nat.le_refl _)).trans (m2.wide (Nat.le_refl _) hmb)).trans h.mix⟩
  rw [m3.2.1 p (.inl hpm)] at hx
  obtain ⟨p', hp1, hp2, hx'⟩ := m2.2.2 p x hp hpm hx
  obtain ⟨q', hq1, hq2, hy'⟩ := m3.2.2 q y hmq hq hy
  rw [m2.2.1 q' (.inr hq1)] at hy'
  exact h.cross p' q' x y hp1 hp2 hq1 hq2 hx' hy'
end
end Go.Proofs.Ytffmalagochakaa

set_option linter.unusedVariables false
namespace Go.Proofs.Ytffmalagochakaa

section
variable {α : Type} {cf : α → α → Int}
/-- The blocks of s from i on are in order, the last one cut at n. -/
def Blks (cf : α → α → Int) (e : List α) (s n i : Nat) : Prop := ∀ r, i ≤ r * s → Srt cf e (r * s) (min (r * s + s) n)
/-- The blocks of t below i are in order. -/
def Done (cf : α → α → Int) (e : List α) (t i : Nat) : Prop := ∀ r, r * t + t ≤ i → Srt cf e (r * t) (r * t + t)
theorem Done.zero (e : List α) {t : Nat} (ht : 0 < t) : Done cf e t 0 := fun r h => by omega
theorem Done.step {e e' : List α} {t q a : Nat} (ha : a = q * t) (ht : 0 < t) (h : Done cf e t a) (hm : Mix e' e a (a + t)) (hs : Srt cf e' a (a + t)) : Done cf e' t (a + t) := fun r hr => by
  by_cases h1 : r * t + t ≤ a
  · exact (h r h1).same hm.2.1 (.inl h1)
  · have e1 : r ≤ q := Nat.le_of_mul_le_mul_right (by omega : r * t ≤ q * t) ht
    have e2 : q < r + 1 := Nat.lt_of_mul_lt_mul_right (by rw [Nat.add_mul]; omega : q * t < (r + 1) * t)
    obtain rfl : r = q := by omega
    rw [← ha]
    exact hs
theorem blks_of_done {e : List α} {s n q a : Nat} (ha : a = q * s) (hs0 : 0 < s) (h : Done cf e s a) (hb : n < a + s) (hl : Srt cf e a n) : Blks cf e s n 0 := fun r _ => by
  by_cases h1 : r * s + s ≤ a
  · exact (h r h1).less (Nat.le_refl _) (by omega)
  · have e2 : q < r + 1 := Nat.lt_of_mul_lt_mul_right (by rw [Nat.add_mul]; omega : q * s < (r + 1) * s)
    by_cases h2 : r = q
    · subst h2
      rw [← ha]
      exact hl.less (Nat.le_refl _) (by omega)
    · have e3 : (q + 1) * s ≤ r * s := Nat.mul_le_mul_right s (by omega)
      rw [Nat.add_mul] at e3
      exact Srt.short _ (by omega)
theorem Blks.two {e : List α} {s n q a : Nat} (ha : a = q * (2 * s)) (h : Blks cf e s n a) (hb : a + 2 * s ≤ n) : Srt cf e a (a + s) ∧ Srt cf e (a + s) (a + 2 * s) := by
  have h1 := h (2 * q) (by rw [ha, Nat.mul_comm 2 q, Nat.mul_assoc]; exact Nat.le_refl _)
  have h2 := h (2 * q + 1) (by rw [ha, Nat.add_mul, Nat.mul_comm 2 q, Nat.mul_assoc]; omega)
  rw [Nat.add_mul, Nat.one_mul] at h2
  rw [show 2 * q * s = a by rw [ha, Nat.mul_comm 2 q, Nat.mul_assoc]] at h1 h2
  exact ⟨h1.less (Nat.le_refl _) (by omega), h2.less (Nat.le_refl _) (by omega)⟩
theorem Blks.end_ {e : List α} {s n q a : Nat} (ha : a = q * (2 * s)) (h : Blks cf e s n a) (hb : n < a + 2 * s) : Srt cf e a (min (a + s) n) ∧ Srt cf e (a + s) n := by
  have h1 := h (2 * q) (by rw [ha, Nat.mul_comm 2 q, Nat.mul_assoc]; exact Nat.le_refl _)
  have h2 := h (2 * q + 1) (by rw [ha, Nat.add_mul, Nat.mul_comm 2 q, Nat.mul_assoc]; omega)
  rw [Nat.add_mul, Nat.one_mul] at h2
  rw [show 2 * q * s = a by rw [ha, Nat.mul_comm 2 q, Nat.mul_assoc]] at h1 h2
  exact ⟨h1, h2.less (Nat.le_refl _) (by omega)⟩
theorem Blks.step {e e' : List α} {s n a : Nat} (h : Blks cf e s n a) (hm : Mix e' e a (a + 2 * s)) : Blks cf e' s n (a + 2 * s) := fun r hr => (h r (by omega)).same hm.2.1 (.inr hr)
theorem Blks.whole {e : List α} {s n : Nat} (h : Blks cf e s n 0) (hs : n ≤ s) : Srt cf e 0 n := by
  have := h 0 (Nat.zero_le _)
  rw [Nat.zero_mul] at this
  exact this.less (Nat.le_refl _) (by omega)
theorem Blks.at_ {e : List α} {s n i j : Nat} (h : Blks cf e s n i) (hj : i ≤ j) : Blks cf e s n j := fun r hr => h r (Nat.le_trans hj hr)
end
end Go.Proofs.Ytffmalagochakaa
