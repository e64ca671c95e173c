/- Comparing, in plain Lean: signs, lists, strings, values, rows; Compacting, in plain Lean; What fire.Merge makes of rows, in plain Lean; Rows whose values are in one form, what find tells, and Diff, in plain Lean. -/
import Derived.Test.YtffmalagochakaaSrtP
import Derived.Lib.Bytealg
set_option linter.unusedVariables false
set_option linter.unusedSimpArgs false
namespace Go.Proofs.Ytffmalagochakaa

/-- A comparison by sign. -/
structure Tri {α : Type} (c : α → α → Int) : Prop where
  anti : ∀ x y, c y x = - c x y
  trans : ∀ x y z, c x y ≤ 0 → c y z ≤ 0 → c x z ≤ 0
theorem Tri.ordr {α : Type} {c : α → α → Int} (h : Tri c) : Ordr c := ⟨fun x y h1 h2 => by
  have := h.anti x y
  omega, fun x y z h1 h2 h3 => by
  unfold Le at h1 h2
  have a1 := h.anti x y
  have a2 := h.anti y z
  have a3 := h.anti x z
  have := h.trans x y z (by omega) (by omega)
  omega⟩
theorem Tri.refl {α : Type} {c : α → α → Int} (h : Tri c) (x : α) : c x x = 0 := by have := h.anti x x; omega
theorem Tri.eq_left {α : Type} {c : α → α → Int} (h : Tri c) {x y : α} (he : c x y = 0) (z : α) : (c x z ≤ 0 ↔ c y z ≤ 0) ∧ (c z x ≤ 0 ↔ c z y ≤ 0) := by
  have hyx : c y x = 0 := by have := h.anti x y; omega
  exact ⟨⟨fun h1 => h.trans y x z (by omega) h1, fun h1 => h.trans x y z (by omega) h1⟩, ⟨fun h1 => h.trans z x y h1 (by omega), fun h1 => h.trans z y x h1 (by omega)⟩⟩
/-- The first that differs decides. -/
def lex2 {α : Type} (c d : α → α → Int) (x y : α) : Int := if c x y = 0 then d x y else c x y
theorem Tri.lex {α : Type} {c d : α → α → Int} (hc : Tri c) (hd : Tri d) : Tri (lex2 c d) := by
  refine ⟨fun x y => ?_, fun x y z h1 h2 => ?_⟩
  · unfold lex2
    have a1 := hc.anti x y
    have a2 := hd.anti x y
    by_cases h : c x y = 0
    · rw [if_pos h, if_pos (by omega)]; exact a2
    · rw [if_neg h, if_neg (by omega)]; exact a1
  · unfold lex2 at *
    have a1 := hc.anti x y
    have a2 := hc.anti y z
    have a3 := hc.anti x z
    have t1 := hc.trans x y z
    have t2 := hc.trans z x y
    have t3 := hc.trans y z x
    have t4 := hc.trans z y x
    have t5 := hd.trans x y z
    by_cases e1 : c x y = 0 <;> by_cases e2 : c y z = 0 <;> by_cases e3 : c x z = 0 <;> simp only [e1, e2, e3, if_true, if_false, if_pos, if_neg, not_false_eq_true] at h1 h2 ⊢ <;> first | omega | exact t5 h1 h2
theorem Tri.pull {α β : Type} {c : α → α → Int} (h : Tri c) (f : β → α) : Tri (fun x y => c (f x) (f y)) := ⟨fun x y => h.anti _ _, fun x y z => h.trans _ _ _⟩
def cmpI (a b : Int) : Int := if a < b then -1 else if b < a then 1 else 0
theorem tri_int : Tri cmpI := ⟨fun x y => by unfold cmpI; repeat' split <;> omega, fun x y z => by unfold cmpI; repeat' split <;> omega⟩
theorem cmpI_eq {a b : Int} : cmpI a b = 0 ↔ a = b := by unfold cmpI; repeat' split <;> omega
/-- Element by element, the shorter first. -/
def cmpL {α : Type} (c : α → α → Int) : List α → List α → Int
  | [], [] => 0
  | [], _ :: _ => -1
  | _ :: _, [] => 1
  | x :: xs, y :: ys => if c x y = 0 then cmpL c xs ys else c x y
theorem tri_list {α : Type} {c : α → α → Int} (h : Tri c) : Tri (cmpL c) := by
  have ha : ∀ x y, cmpL c y x = - cmpL c x y := by
    intro x
    induction x with
    | nil => intro y; cases y <;> rfl
    | cons a x ih =>
      intro y
      cases y with
      | nil => rfl
      | cons b y =>
        simp only [cmpL]
        have := h.anti a b
        by_cases e : c a b = 0
        · rw [if_pos e, if_pos (by omega)]; exact ih y
        · rw [if_neg e, if_neg (by omega)]; exact this
  refine ⟨ha, ?_⟩
  intro x
  induction x with
  | nil =>
    intro y z h1 h2
    cases z with
    | nil => exact Int.le_refl 0
    | cons d z => show (-1 : Int) ≤ 0; omega
  | cons a x ih =>
    intro y z h1 h2
    cases y with
    | nil => simp [cmpL] at h1
    | cons b y =>
      cases z with
      | nil => simp [cmpL] at h2
      | cons d z =>
        simp only [cmpL] at h1 h2 ⊢
        have a1 := h.anti a b
        have a2 := h.anti b d
        have a3 := h.anti a d
        have t1 := h.trans a b d
        have t2 := h.trans d a b
        have t3 := h.trans b d a
        have t4 := h.trans d b a
        have t5 := ih y z
        by_cases e1 : c a b = 0 <;> by_cases e2 : c b d = 0 <;> by_cases e3 : c a d = 0 <;> simp only [e1, e2, e3, if_true, if_false, if_pos, if_neg, not_false_eq_true] at h1 h2 ⊢ <;> first | omega | exact t5 h1 h2
theorem cmpL_eq {α : Type} {c : α → α → Int} (h : ∀ x y, c x y = 0 ↔ x = y) : ∀ {x y : List α}, cmpL c x y = 0 ↔ x = y
  | [], [] => by simp [cmpL]
  | [], _ :: _ => by simp [cmpL]
  | _ :: _, [] => by simp [cmpL]
  | a :: x, b :: y => by
    simp only [cmpL, List.cons.injEq]
    by_cases e : c a b = 0
    · rw [if_pos e, cmpL_eq h]
      have := (h a b).1 e
      simp [this]
    · rw [if_neg e]
      have : a ≠ b := fun he => e ((h a b).2 he)
      simp [this, e]
def cmpB (a b : UInt8) : Int := if a < b then -1 else if b < a then 1 else 0
theorem cmpB_nat (a b : UInt8) : cmpB a b = cmpI a.toNat b.toNat := by
  unfold cmpB cmpI
  simp only [UInt8.lt_iff_toNat_lt]
  repeat' split <;> omega
theorem bytes_eq : ∀ (a b : List UInt8), Lib.compareBytes a b = cmpL cmpB a b
  | [], [] => rfl
  | [], _ :: _ => rfl
  | _ :: _, [] => rfl
  | a :: xs, b :: ys => by
    simp only [Lib.compareBytes, cmpL, cmpB]
    rw [bytes_eq xs ys]
    by_cases h1 : a < b
    · simp [h1]
    · by_cases h2 : b < a
      · simp [h1, h2]
      · simp [h1, h2]
theorem tri_byte : Tri cmpB := by
  have := tri_int.pull (fun a : UInt8 => (a.toNat : Int))
  have he : cmpB = fun x y => cmpI (x.toNat : Int) (y.toNat : Int) := by funext x y; exact cmpB_nat x y
  rw [he]
  exact this
def cmpS (a b : ByteArray) : Int := Lib.compareBytes a.data.toList b.data.toList
theorem tri_str : Tri cmpS := by
  have := (tri_list tri_byte).pull (fun a : ByteArray => a.data.toList)
  have he : cmpS = fun x y => cmpL cmpB x.data.toList y.data.toList := by funext x y; exact bytes_eq _ _
  rw [he]
  exact this
theorem cmpS_eq {a b : ByteArray} : cmpS a b = 0 ↔ a = b := by
  unfold cmpS
  rw [bytes_eq, cmpL_eq (fun x y => by rw [cmpB_nat, cmpI_eq]; exact ⟨fun h => UInt8.toNat_inj.1 (by omega), fun h => by rw [h]⟩)]
  exact ⟨fun h => ByteArray.ext (Array.toList_inj.mp h), fun h => by rw [h]⟩

/-- A value without a list. -/
structure Vl where
  k : Int
  i : Int
  t : ByteArray
  deriving DecidableEq
/-- What of a value counts. -/
def keyI (v : Vl) : Int := if v.k = 1 then v.i else 0
def keyT (v : Vl) : ByteArray := if v.k = 2 ∨ v.k = 3 then v.t else ⟨#[]⟩
def cmpV : Vl → Vl → Int := lex2 (fun a b => cmpI a.k b.k) (lex2 (fun a b => cmpI (keyI a) (keyI b)) (fun a b => cmpS (keyT a) (keyT b)))
theorem tri_val : Tri cmpV := (tri_int.pull Vl.k).lex ((tri_int.pull keyI).lex (tri_str.pull keyT))
theorem cmpV_def (a b : Vl) : cmpV a b = if cmpI a.k b.k = 0 then (if a.k = 1 then cmpI a.i b.i else if a.k = 2 ∨ a.k = 3 then cmpS a.t b.t else 0) else cmpI a.k b.k := by
  unfold cmpV lex2
  by_cases h : cmpI a.k b.k = 0
  · rw [if_pos h, if_pos h]
    have hk := cmpI_eq.1 h
    unfold keyI keyT
    simp only [← hk]
    by_cases h1 : a.k = 1
    · have h2 : ¬ (a.k = 2 ∨ a.k = 3) := by omega
      rw [if_pos h1, if_pos h1, if_pos h1, if_neg h2, if_neg h2, tri_str.refl]
      split
      · rename_i h; exact h.symm
      · rfl
    · rw [if_neg h1, if_neg h1, if_neg h1, if_pos (tri_int.refl 0)]
      by_cases h2 : a.k = 2 ∨ a.k = 3
      · rw [if_pos h2, if_pos h2, if_pos h2]
      · rw [if_neg h2, if_neg h2, if_neg h2, tri_str.refl]
  · rw [if_neg h, if_neg h]
/-- A row. -/
structure Rw where
  name : ByteArray
  args : List Vl
  stamp : Int
  deriving DecidableEq
def cmpR : Rw → Rw → Int := lex2 (fun a b => cmpS a.name b.name) (fun a b => cmpL cmpV a.args b.args)
theorem tri_row : Tri cmpR := (tri_str.pull Rw.name).lex ((tri_list tri_val).pull Rw.args)
/-- Rows by what they are, then the later stamp first. -/
def cmpM : Rw → Rw → Int := lex2 cmpR (fun a b => cmpI b.stamp a.stamp)
theorem tri_merge : Tri cmpM := tri_row.lex ⟨fun x y => tri_int.anti _ _, fun x y z h1 h2 => tri_int.trans _ _ _ h2 h1⟩
end Go.Proofs.Ytffmalagochakaa

set_option linter.unusedVariables false
namespace Go.Proofs.Ytffmalagochakaa

section
variable {α : Type}
/-- Does what is at t stay? -/
def keepB (q : α → α → Bool) (d : List α) (t : Nat) : Bool := t == 0 || match d[t]?, d[t - 1]? with | some y, some x => !q y x | _, _ => true
/-- What stays of the first t. -/
def cptN (q : α → α → Bool) (d : List α) (t : Nat) : List α := ((List.range t).filter (keepB q d)).filterMap (fun i => d[i]?)
theorem cptN_zero (q : α → α → Bool) (d : List α) : cptN q d 0 = [] := rfl
theorem cptN_succ {q : α → α → Bool} {d : List α} {t : Nat} {y : α} (hy : d[t]? = some y) : cptN q d (t + 1) = cptN q d t ++ (if keepB q d t = true then [y] else []) := by
  unfold cptN
  rw [List.range_succ, List.filter_append, List.filterMap_append]
  by_cases h : keepB q d t = true
  · rw [if_pos h]
    simp [h, hy]
  · rw [if_neg h]
    simp [h]
theorem keepB_at {q : α → α → Bool} {d : List α} {t : Nat} {x y : α} (hy : d[t + 1]? = some y) (hx : d[t]? = some x) : keepB q d (t + 1) = !q y x := by
  unfold keepB
  rw [hy, Nat.add_sub_cancel, hx]
  rfl
theorem cptN_all {q : α → α → Bool} {d : List α} : ∀ {t : Nat}, t ≤ d.length → (∀ i, i < t → keepB q d i = true) → cptN q d t = d.take t
  | 0, _, _ => by rw [cptN_zero, List.take_zero]
  | t + 1, ht, h => by
    have hy : d[t]? = some d[t] := List.getElem?_eq_getElem (by omega)
    rw [cptN_succ hy, if_pos (h t (by omega)), cptN_all (by omega) (fun i hi => h i (by omega))]
    rw [List.take_add_one, hy]
    rfl
theorem cptN_le {q : α → α → Bool} {d : List α} (t : Nat) : (cptN q d t).length ≤ t := by
  unfold cptN
  refine Nat.le_trans (List.length_filterMap_le _ _) (Nat.le_trans (List.length_filter_le _ _) ?_)
  simp
theorem cptN_mem {q : α → α → Bool} {d : List α} {t : Nat} {x : α} (h : x ∈ cptN q d t) : x ∈ d := by
  unfold cptN at h
  obtain ⟨i, _, hi⟩ := List.mem_filterMap.1 h
  exact List.mem_of_getElem? hi
end
end Go.Proofs.Ytffmalagochakaa

set_option linter.unusedVariables false
namespace Go.Proofs.Ytffmalagochakaa

/-- Each once, rising, with the greatest stamp, and none besides. -/
structure IsMerge (rs out : List Rw) : Prop where
  up : out.Pairwise (fun a b => cmpR a b < 0)
  sub : ∀ r ∈ out, r ∈ rs
  all : ∀ r ∈ rs, ∃ s ∈ out, cmpR s r = 0 ∧ r.stamp ≤ s.stamp
def eqR (y x : Rw) : Bool := decide (cmpR y x = 0)
theorem eq_trans' {x y z : Rw} (h1 : cmpR x y = 0) (h2 : cmpR y z = 0) : cmpR x z = 0 := by
  have a1 := tri_row.anti x y
  have a2 := tri_row.anti y z
  have a3 := tri_row.anti x z
  have t1 := tri_row.trans x y z (by omega) (by omega)
  have t2 := tri_row.trans z y x (by omega) (by omega)
  omega
theorem cmpM_le {x y : Rw} (h : cmpM x y ≤ 0) : cmpR x y ≤ 0 ∧ (cmpR x y = 0 → y.stamp ≤ x.stamp) := by
  unfold cmpM lex2 at h
  by_cases h0 : cmpR x y = 0
  · rw [if_pos h0] at h
    refine ⟨by omega, fun _ => ?_⟩
    change cmpI y.stamp x.stamp ≤ 0 at h
    unfold cmpI at h
    by_cases c1 : y.stamp < x.stamp
    · omega
    · rw [if_neg c1] at h
      by_cases c2 : x.stamp < y.stamp
      · rw [if_pos c2] at h; omega
      · omega
  · rw [if_neg h0] at h
    exact ⟨h, fun h1 => absurd h1 h0⟩
theorem merge_cpt {d : List Rw} (hs : ∀ (p q : Nat) (x y : Rw), p < q → d[p]? = some x → d[q]? = some y → cmpM x y ≤ 0) : IsMerge d (cptN eqR d d.length) := by
  have hmem : ∀ {x : Rw} {i : Nat}, d[i]? = some x → keepB eqR d i = true → x ∈ cptN eqR d d.length := fun {x i} hx hk => by
    unfold cptN
    exact List.mem_filterMap.2 ⟨i, List.mem_filter.2 ⟨List.mem_range.2 (List.getElem?_eq_some_iff.1 hx).1, hk⟩, hx⟩
  refine ⟨?_, fun r hr => cptN_mem hr, fun r hr => ?_⟩
  · unfold cptN
    have hp : ((List.range d.length).filter (keepB eqR d)).Pairwise (fun (a b : Nat) => a < b ∧ keepB eqR d b = true) := by
      have h1 : ((List.range d.length).filter (keepB eqR d)).Pairwise (fun (a b : Nat) => a < b) := List.Pairwise.filter _ (List.pairwise_lt_range (n := d.length))
      exact List.Pairwise.imp_of_mem (fun {a b} _ hb hab => ⟨hab, (List.mem_filter.1 hb).2⟩) h1
    rw [List.pairwise_filterMap]
    refine hp.imp ?_
    rintro a b ⟨hab, hk⟩ x hx y hy
    obtain ⟨c, rfl⟩ : ∃ c, b = c + 1 := ⟨b - 1, by omega⟩
    have hlt := (List.getElem?_eq_some_iff.1 hy).1
    have hz : d[c]? = some d[c] := List.getElem?_eq_getElem (by omega)
    rw [keepB_at hy hz] at hk
    have hne : cmpR y d[c] ≠ 0 := by
      unfold eqR at hk
      simpa using hk
    have h1 := (cmpM_le (hs c (c + 1) d[c] y (by omega) hz hy)).1
    have a1 := tri_row.anti d[c] y
    by_cases hac : a = c
    · subst hac
      rw [hx] at hz
      have := Option.some.inj hz
      rw [← this] at h1 a1 hne
      omega
    · have h2 := (cmpM_le (hs a c x d[c] (by omega) hx hz)).1
      have h3 := tri_row.trans x d[c] y h2 (by omega)
      have a2 := tri_row.anti x y
      have a3 := tri_row.anti x d[c]
      have h4 := tri_row.trans y x d[c]
      omega
  · obtain ⟨i, hi, rfl⟩ := List.getElem_of_mem hr
    have key : ∀ (i : Nat) (x : Rw), d[i]? = some x → ∃ j y, d[j]? = some y ∧ keepB eqR d j = true ∧ cmpR y x = 0 ∧ x.stamp ≤ y.stamp := by
      intro i
      induction i with
      | zero => exact fun x hx => ⟨0, x, hx, rfl, tri_row.refl x, Int.le_refl _⟩
      | succ i ih =>
        intro x hx
        by_cases hk : keepB eqR d (i + 1) = true
        · exact ⟨i + 1, x, hx, hk, tri_row.refl x, Int.le_refl _⟩
        · have hlt := (List.getElem?_eq_some_iff.1 hx).1
          have hz : d[i]? = some d[i] := List.getElem?_eq_getElem (by omega)
          rw [keepB_at hx hz] at hk
          have he : cmpR x d[i] = 0 := by
            unfold eqR at hk
            simpa using hk
          have he2 : cmpR d[i] x = 0 := by have := tri_row.anti x d[i]; omega
          have hst := (cmpM_le (hs i (i + 1) d[i] x (by omega) hz hx)).2 he2
          obtain ⟨j, y, hy, hkj, h1, h2⟩ := ih d[i] hz
          exact ⟨j, y, hy, hkj, eq_trans' h1 he2, by omega⟩
    obtain ⟨j, y, hy, hk, h1, h2⟩ := key i d[i] (List.getElem?_eq_getElem hi)
    exact ⟨y, hmem hy hk, h1, h2⟩
theorem IsMerge.perm {rs d out : List Rw} (h : IsMerge d out) (hp : d.Perm rs) : IsMerge rs out := ⟨h.up, fun r hr => hp.mem_iff.1 (h.sub r hr), fun r hr => h.all r (hp.mem_iff.2 hr)⟩
theorem cptN_map {α β : Type} {q : α → α → Bool} {q' : β → β → Bool} {f : α → β} {d : List α} (h : ∀ x y, q x y = q' (f x) (f y)) (t : Nat) : (cptN q d t).map f = cptN q' (d.map f) t := by
  unfold cptN
  have hk : ∀ i, keepB q d i = keepB q' (d.map f) i := by
    intro i
    unfold keepB
    rw [List.getElem?_map, List.getElem?_map]
    congr 1
    cases d[i]? <;> cases d[i - 1]? <;> simp [h]
  rw [List.map_filterMap, List.filter_congr (fun i _ => hk i)]
  congr 1
  funext i
  rw [List.getElem?_map]
end Go.Proofs.Ytffmalagochakaa

set_option linter.unusedVariables false
namespace Go.Proofs.Ytffmalagochakaa

/-- A value in one form: a number alone, or a text alone. -/
def canon (v : Vl) : Prop := (v.k = 3 ∧ v.i = 0) ∨ (v.k = 1 ∧ v.t = ⟨#[]⟩)
def canonR (r : Rw) : Prop := ∀ u ∈ r.args, canon u
theorem canon_eq {u v : Vl} (hu : canon u) (hv : canon v) (h : cmpV u v = 0) : u = v := by
  rw [cmpV_def] at h
  by_cases hk : cmpI u.k v.k = 0
  · rw [if_pos hk] at h
    have hk' := cmpI_eq.1 hk
    cases u with
    | mk uk ui ut =>
      cases v with
      | mk vk vi vt =>
        simp only at hk'
        rcases hu with ⟨h1, h2⟩ | ⟨h1, h2⟩ <;> rcases hv with ⟨h3, h4⟩ | ⟨h3, h4⟩ <;> simp only at h1 h2 h3 h4
        · subst h1 h2 h3 h4
          rw [if_neg (by simp), if_pos (by simp)] at h
          have := cmpS_eq.1 h
          simp only at this
          rw [this]
        · omega
        · omega
        · subst h1 h2 h3 h4
          rw [if_pos (by simp)] at h
          have := cmpI_eq.1 h
          simp only at this
          rw [this]
  · rw [if_neg hk] at h
    exact absurd h hk
theorem canonL_eq : ∀ {x y : List Vl}, (∀ u ∈ x, canon u) → (∀ u ∈ y, canon u) → cmpL cmpV x y = 0 → x = y
  | [], [], _, _, _ => rfl
  | [], _ :: _, _, _, h => by simp [cmpL] at h
  | _ :: _, [], _, _, h => by simp [cmpL] at h
  | a :: x, b :: y, hx, hy, h => by
    simp only [cmpL] at h
    by_cases e : cmpV a b = 0
    · rw [if_pos e] at h
      rw [canon_eq (hx a (by simp)) (hy b (by simp)) e, canonL_eq (fun u hu => hx u (by simp [hu])) (fun u hu => hy u (by simp [hu])) h]
    · rw [if_neg e] at h
      exact absurd h e
theorem canonR_eq {r s : Rw} (hr : canonR r) (hs : canonR s) (h : cmpR r s = 0) : r.name = s.name ∧ r.args = s.args := by
  unfold cmpR lex2 at h
  by_cases e : cmpS r.name s.name = 0
  · rw [if_pos e] at h
    exact ⟨cmpS_eq.1 e, canonL_eq hr hs h⟩
  · rw [if_neg e] at h
    exact absurd h e
theorem canonR_eq' {r s : Rw} (hr : canonR r) (hs : canonR s) (h : cmpR r s = 0) (ht : r.stamp = s.stamp) : r = s := by
  obtain ⟨h1, h2⟩ := canonR_eq hr hs h
  cases r; cases s
  simp only at h1 h2 ht
  rw [h1, h2, ht]

theorem sorted_eq {α : Type} {lt : α → α → Prop} (hi : ∀ x, ¬ lt x x) (hs : ∀ x y, lt x y → ¬ lt y x) : ∀ {a b : List α}, a.Pairwise lt → b.Pairwise lt → (∀ x, x ∈ a ↔ x ∈ b) → a = b
  | [], [], _, _, _ => rfl
  | [], y :: b, _, _, h => by have := (h y).2 (by simp); cases this
  | x :: a, [], _, _, h => by have := (h x).1 (by simp); cases this
  | x :: a, y :: b, ha, hb, h => by
    rw [List.pairwise_cons] at ha hb
    have hxy : x = y := by
      rcases List.mem_cons.1 ((h x).1 (by simp)) with e | hx
      · exact e
      · rcases List.mem_cons.1 ((h y).2 (by simp)) with e | hy
        · exact e.symm
        · exact absurd (ha.1 y hy) (hs _ _ (hb.1 x hx))
    subst hxy
    rw [sorted_eq hi hs ha.2 hb.2 (fun z => ?_)]
    constructor
    · intro hz
      rcases List.mem_cons.1 ((h z).1 (by simp [hz])) with e | h'
      · subst e; exact absurd (ha.1 z hz) (hi z)
      · exact h'
    · intro hz
      rcases List.mem_cons.1 ((h z).2 (by simp [hz])) with e | h'
      · subst e; exact absurd (hb.1 z hz) (hi z)
      · exact h'
/-- Rising rows that have the same classes are as many. -/
theorem classes_len : ∀ {a b : List Rw}, a.Pairwise (fun x y => cmpR x y < 0) → b.Pairwise (fun x y => cmpR x y < 0) → (∀ x ∈ a, ∃ y ∈ b, cmpR x y = 0) → (∀ y ∈ b, ∃ x ∈ a, cmpR x y = 0) → a.length = b.length
  | [], [], _, _, _, _ => rfl
  | [], y :: b, _, _, _, h => by obtain ⟨_, h, _⟩ := h y (by simp); cases h
  | x :: a, [], _, _, h, _ => by obtain ⟨_, h, _⟩ := h x (by simp); cases h
  | x :: a, y :: b, ha, hb, h1, h2 => by
    rw [List.pairwise_cons] at ha hb
    have hxy : cmpR x y = 0 := by
      obtain ⟨y', hy', e1⟩ := h1 x (by simp)
      obtain ⟨x', hx', e2⟩ := h2 y (by simp)
      rcases List.mem_cons.1 hy' with rfl | hy'
      · exact e1
      · rcases List.mem_cons.1 hx' with rfl | hx'
        · exact e2
        · exfalso
          have c1 := hb.1 y' hy'
          have c2 := ha.1 x' hx'
          have a1 := tri_row.anti x y'
          have a2 := tri_row.anti x' y
          have a3 := tri_row.anti y y'
          have a4 := tri_row.anti x x'
          have t1 := tri_row.trans y y' x (by omega) (by omega)
          have t2 := tri_row.trans x x' y (by omega) (by omega)
          have t3 := tri_row.trans y' x y (by omega) t2
          omega
    have hyx : cmpR y x = 0 := by have := tri_row.anti x y; omega
    rw [List.length_cons, List.length_cons, classes_len ha.2 hb.2 (fun z hz => ?_) (fun z hz => ?_)]
    · obtain ⟨y', hy', e⟩ := h1 z (by simp [hz])
      rcases List.mem_cons.1 hy' with rfl | hy'
      · exfalso
        have := eq_trans' e hyx
        have c := ha.1 z hz
        have := tri_row.anti z x
        omega
      · exact ⟨y', hy', e⟩
    · obtain ⟨x', hx', e⟩ := h2 z (by simp [hz])
      rcases List.mem_cons.1 hx' with rfl | hx'
      · exfalso
        have := eq_trans' hyx e
        have c := hb.1 z hz
        omega
      · exact ⟨x', hx', e⟩
theorem cmp_irrefl (x : Rw) : ¬ cmpR x x < 0 := by rw [tri_row.refl]; omega
theorem cmp_asym (x y : Rw) (h : cmpR x y < 0) : ¬ cmpR y x < 0 := by have := tri_row.anti x y; omega
theorem up_uniq {a : List Rw} (h : a.Pairwise (fun x y => cmpR x y < 0)) {x y : Rw} (hx : x ∈ a) (hy : y ∈ a) (he : cmpR x y = 0) : x = y := by
  induction a with
  | nil => cases hx
  | cons z a ih =>
    rw [List.pairwise_cons] at h
    have he' : cmpR y x = 0 := by have := tri_row.anti x y; omega
    rcases List.mem_cons.1 hx with e1 | h1 <;> rcases List.mem_cons.1 hy with e2 | h2
    · rw [e1, e2]
    · subst e1; have := h.1 y h2; omega
    · subst e2; have := h.1 x h1; omega
    · exact ih h.2 h1 h2
theorem merge_mem {rs a b : List Rw} (hc : ∀ r ∈ rs, canonR r) (ha : IsMerge rs a) (hb : IsMerge rs b) {r : Rw} (hr : r ∈ a) : r ∈ b := by
  obtain ⟨s, hs, e1, l1⟩ := hb.all r (ha.sub r hr)
  obtain ⟨t, ht, e2, l2⟩ := ha.all s (hb.sub s hs)
  have e3 := eq_trans' e2 e1
  have := up_uniq ha.up ht hr e3
  subst this
  rw [← canonR_eq' (hc s (hb.sub s hs)) (hc t (ha.sub t hr)) e1 (by omega)]
  exact hs
/-- Of rows in one form there is one merge. -/
theorem merge_uniq {rs a b : List Rw} (hc : ∀ r ∈ rs, canonR r) (ha : IsMerge rs a) (hb : IsMerge rs b) : a = b :=
  sorted_eq (lt := fun x y => cmpR x y < 0) cmp_irrefl cmp_asym ha.up hb.up (fun x => ⟨merge_mem hc ha hb, merge_mem hc hb ha⟩)
theorem merge_self {a : List Rw} (h : a.Pairwise (fun x y => cmpR x y < 0)) : IsMerge a a := ⟨h, fun _ h => h, fun r hr => ⟨r, hr, tri_row.refl r, Int.le_refl _⟩⟩
theorem merge_same {rs ss a : List Rw} (h : ∀ r, r ∈ rs ↔ r ∈ ss) (ha : IsMerge rs a) : IsMerge ss a := ⟨ha.up, fun r hr => (h r).1 (ha.sub r hr), fun r hr => ha.all r ((h r).2 hr)⟩

/-- What find tells: a row's stamp, or -1. -/
def findS (l : List Rw) (x : Rw) : Int := match l.find? (fun s => decide (cmpR s x = 0)) with | some s => s.stamp | none => -1
theorem findS_some {l : List Rw} (hl : l.Pairwise (fun x y => cmpR x y < 0)) {x s : Rw} (hs : s ∈ l) (he : cmpR s x = 0) : findS l x = s.stamp := by
  unfold findS
  cases h : l.find? (fun s => decide (cmpR s x = 0)) with
  | none =>
    have := List.find?_eq_none.1 h s hs
    simp [he] at this
  | some t =>
    have ht := List.mem_of_find?_eq_some h
    have he2 := List.find?_some h
    simp only [decide_eq_true_eq] at he2
    have : cmpR x s = 0 := by have := tri_row.anti s x; omega
    rw [up_uniq hl ht hs (eq_trans' he2 this)]
theorem findS_none {l : List Rw} {x : Rw} (h : ∀ s ∈ l, cmpR s x ≠ 0) : findS l x = -1 := by
  unfold findS
  rw [List.find?_eq_none.2 (fun s hs => by simpa using h s hs)]
theorem findS_cases (l : List Rw) (x : Rw) : (∃ s ∈ l, cmpR s x = 0 ∧ findS l x = s.stamp) ∨ ((∀ s ∈ l, cmpR s x ≠ 0) ∧ findS l x = -1) := by
  unfold findS
  cases h : l.find? (fun s => decide (cmpR s x = 0)) with
  | none => exact .inr ⟨fun s hs => by simpa using List.find?_eq_none.1 h s hs, rfl⟩
  | some t => exact .inl ⟨t, List.mem_of_find?_eq_some h, by simpa using List.find?_some h, rfl⟩
end Go.Proofs.Ytffmalagochakaa
