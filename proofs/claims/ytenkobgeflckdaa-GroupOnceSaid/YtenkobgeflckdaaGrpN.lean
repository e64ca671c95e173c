/- More of groups, in plain Lean: in other orders, of one relation, each alone, counted. -/
import Derived.Test.YtenkobgeflckdaaGrpM
set_option linter.unusedVariables false
set_option linter.unusedSimpArgs false
namespace Go.Proofs.Ytenkobgeflckdaa

section
variable {k : Nat} {ag : Ag} {rs rs' m m' res res' : List Rw}
theorem grp_can (hc : ∀ r ∈ rs, canonR r) (hm : IsMerge (trn k rs) m) : ∀ z ∈ (grp ag m).map (bck k), canonR z := fun z hz => by
  obtain ⟨y, hy, rfl⟩ := List.mem_map.1 hz
  have inv := grp_inv (ag := ag) (fun x hx => trn_can hc x (hm.sub x hx)) (fun x hx => (trn_ne x (hm.sub x hx)).1)
  exact bck_can (inv.can y hy) (inv.ne y hy)
/-- Rows that merge to the same have the same groups. -/
theorem group_uniq (hc : ∀ r ∈ rs, canonR r) (hm : IsMerge (trn k rs) m) (hm' : IsMerge (trn k rs) m') (hr : IsMerge ((grp ag m).map (bck k)) res) (hr' : IsMerge ((grp ag m').map (bck k)) res') : res = res' := by
  have := merge_uniq (trn_can hc) hm hm'
  subst this
  exact merge_uniq (grp_can hc hm) hr hr'
theorem trn_same (h : ∀ r, r ∈ rs ↔ r ∈ rs') : ∀ x, x ∈ trn k rs ↔ x ∈ trn k rs' := fun x => by
  rw [mem_trn, mem_trn]
  exact ⟨fun ⟨r, hr, h2⟩ => ⟨r, (h r).1 hr, h2⟩, fun ⟨r, hr, h2⟩ => ⟨r, (h r).2 hr, h2⟩⟩
theorem group_same (hc : ∀ r ∈ rs, canonR r) (h : ∀ r, r ∈ rs ↔ r ∈ rs') (hm : IsMerge (trn k rs) m) (hm' : IsMerge (trn k rs') m') (hr : IsMerge ((grp ag m).map (bck k)) res) (hr' : IsMerge ((grp ag m').map (bck k)) res') : res = res' :=
  group_uniq hc hm (merge_same (fun x => (trn_same h x).symm) hm') hr hr'
end
/-- Of one relation. -/
def nmB (n : ByteArray) (r : Rw) : Bool := decide (r.name = n)
theorem cmpR_name {a b : Rw} (h : cmpR a b = 0) : a.name = b.name := by
  unfold cmpR lex2 at h
  by_cases e : cmpS a.name b.name = 0
  · exact cmpS_eq.1 e
  · rw [if_neg e] at h; exact absurd h e
theorem IsMerge.named {rs out : List Rw} (h : IsMerge rs out) (n : ByteArray) : IsMerge (rs.filter (nmB n)) (out.filter (nmB n)) := ⟨h.up.filter _, fun r hr => by
  rw [List.mem_filter] at hr ⊢
  exact ⟨h.sub r hr.1, hr.2⟩, fun r hr => by
  rw [List.mem_filter] at hr
  obtain ⟨s, hs, e, l⟩ := h.all r hr.1
  refine ⟨s, List.mem_filter.2 ⟨hs, ?_⟩, e, l⟩
  have := hr.2
  unfold nmB at this ⊢
  rw [cmpR_name e]; exact this⟩
theorem trn_named (k : Nat) (rs : List Rw) (n : ByteArray) : trn k (rs.filter (nmB n)) = (trn k rs).filter (nmB n) := by
  unfold trn
  induction rs with
  | nil => rfl
  | cons r rs ih =>
    rw [List.filter_cons, List.filterMap_cons]
    by_cases h : nmB n r = true
    · rw [if_pos h, List.filterMap_cons, ih]
      cases hv : (r.args[k]?).map (ahd r k) with
      | none => rfl
      | some x =>
        simp only []
        have : nmB n x = true := by
          cases hz : r.args[k]? with
          | none => rw [hz] at hv; cases hv
          | some z => rw [hz] at hv; cases hv; exact h
        rw [List.filter_cons, if_pos this]
    · rw [if_neg h, ih]
      cases hv : (r.args[k]?).map (ahd r k) with
      | none => rfl
      | some x =>
        simp only []
        have : ¬ nmB n x = true := by
          cases hz : r.args[k]? with
          | none => rw [hz] at hv; cases hv
          | some z => rw [hz] at hv; cases hv; exact h
        rw [List.filter_cons, if_neg this]
theorem split_or (x : Rw) : ∀ (gs : List Rw), (∀ a ∈ gs, alikeB x a = false) ∨ ∃ A y B, gs = A ++ y :: B ∧ (∀ a ∈ A, alikeB x a = false) ∧ alikeB x y = true
  | [] => .inl (fun a h => by cases h)
  | g :: gs => by
    cases hg : alikeB x g with
    | true => exact .inr ⟨[], g, gs, rfl, fun a h => (by cases h), hg⟩
    | false =>
      rcases split_or x gs with h | ⟨A, y, B, rfl, h1, h2⟩
      · refine .inl (fun a ha => ?_)
        rcases List.mem_cons.1 ha with rfl | ha
        · exact hg
        · exact h a ha
      · refine .inr ⟨g :: A, y, B, rfl, fun a ha => ?_, h2⟩
        rcases List.mem_cons.1 ha with rfl | ha
        · exact hg
        · exact h1 a ha
theorem gstep_none {ag : Ag} {gs : List Rw} {x : Rw} (h : ∀ a ∈ gs, alikeB x a = false) : gstep ag gs x = gs ++ [gfirst ag x] := by
  unfold gstep
  rw [List.findIdx?_eq_none_iff.2 (fun a ha => h a ha)]
theorem gstep_split {ag : Ag} {A B : List Rw} {x y : Rw} (h1 : ∀ a ∈ A, alikeB x a = false) (h2 : alikeB x y = true) : gstep ag (A ++ y :: B) x = A ++ gmerge ag y x :: B := by
  have hf : (A ++ y :: B).findIdx? (alikeB x) = some A.length := by
    rw [List.findIdx?_eq_some_iff_getElem]
    refine ⟨by simp, by rw [List.getElem_append_right (Nat.le_refl _)]; simpa using h2, fun j hj => ?_⟩
    rw [List.getElem_append_left hj]
    simpa using h1 _ (List.getElem_mem _)
  unfold gstep
  rw [hf]
  have hg : (A ++ y :: B)[A.length]? = some y := by rw [List.getElem?_append_right (Nat.le_refl _), Nat.sub_self]; rfl
  simp only [hg]
  rw [List.set_append_right _ _ (Nat.le_refl _), Nat.sub_self]
  rfl
theorem alikeB_name {x y : Rw} (h : alikeB x y = true) : x.name = y.name := by
  unfold alikeB at h
  simp only [Bool.and_eq_true, decide_eq_true_eq] at h
  exact h.1
theorem gstep_named {ag : Ag} {gs : List Rw} {x : Rw} (n : ByteArray) : (gstep ag gs x).filter (nmB n) = if nmB n x = true then gstep ag (gs.filter (nmB n)) x else gs.filter (nmB n) := by
  rcases split_or x gs with h | ⟨A, y, B, rfl, h1, h2⟩
  · rw [gstep_none h, List.filter_append]
    have hf : nmB n (gfirst ag x) = nmB n x := rfl
    by_cases hn : nmB n x = true
    · rw [if_pos hn, gstep_none (fun a ha => h a (List.mem_filter.1 ha).1), List.filter_cons, hf, if_pos hn]
      rfl
    · rw [if_neg hn, List.filter_cons, hf, if_neg hn]
      simp
  · rw [gstep_split h1 h2, List.filter_append, List.filter_append, List.filter_cons, List.filter_cons]
    have hm : nmB n (gmerge ag y x) = nmB n y := rfl
    have hy : nmB n y = nmB n x := by unfold nmB; rw [alikeB_name h2]
    rw [hm, hy]
    by_cases hn : nmB n x = true
    · rw [if_pos hn, if_pos hn, if_pos hn, gstep_split (fun a ha => h1 a (List.mem_filter.1 ha).1) h2]
    · rw [if_neg hn, if_neg hn, if_neg hn]
theorem grp_named (ag : Ag) (m : List Rw) (n : ByteArray) : grp ag (m.filter (nmB n)) = (grp ag m).filter (nmB n) := by
  have key : ∀ (l gs : List Rw), (l.filter (nmB n)).foldl (gstep ag) (gs.filter (nmB n)) = (l.foldl (gstep ag) gs).filter (nmB n) := by
    intro l
    induction l with
    | nil => intro gs; rfl
    | cons x l ih =>
      intro gs
      rw [List.filter_cons, List.foldl_cons, ← ih, gstep_named]
      by_cases h : nmB n x = true
      · rw [if_pos h, if_pos h, List.foldl_cons]
      · rw [if_neg h, if_neg h]
  exact key m []
theorem map_named (k : Nat) (n : ByteArray) (l : List Rw) : (l.filter (nmB n)).map (bck k) = (l.map (bck k)).filter (nmB n) := by
  induction l with
  | nil => rfl
  | cons x l ih =>
    have hb : nmB n (bck k x) = nmB n x := rfl
    rw [List.filter_cons, List.map_cons, List.filter_cons, hb]
    by_cases h : nmB n x = true
    · rw [if_pos h, if_pos h, List.map_cons, ih]
    · rw [if_neg h, if_neg h, ih]
/-- The groups of one relation's rows are those of that relation. -/
theorem group_named {k : Nat} {ag : Ag} {rs m m' res res' : List Rw} (hc : ∀ r ∈ rs, canonR r) (n : ByteArray) (hm : IsMerge (trn k rs) m) (hm' : IsMerge (trn k (rs.filter (nmB n))) m') (hr : IsMerge ((grp ag m).map (bck k)) res) (hr' : IsMerge ((grp ag m').map (bck k)) res') : res' = res.filter (nmB n) := by
  have hc' : ∀ r ∈ rs.filter (nmB n), canonR r := fun r h => hc r (List.mem_filter.1 h).1
  have h1 := hm.named n
  rw [← trn_named] at h1
  have h2 := hr.named n
  rw [← map_named, ← grp_named] at h2
  exact group_uniq hc' hm' h1 hr' h2

theorem sub_len {α : Type} [DecidableEq α] : ∀ (l m : List α), l.Nodup → (∀ x ∈ l, x ∈ m) → l.length ≤ m.length := by
  intro l
  induction l with
  | nil => intro m _ _; exact Nat.zero_le _
  | cons x l ih =>
    intro m hn hs
    have hxm := hs x (by simp)
    have hn2 := List.nodup_cons.1 hn
    have := ih (m.erase x) hn2.2 (fun y hy => (List.mem_erase_of_ne (show y ≠ x by rintro rfl; exact hn2.1 hy)).2 (hs y (by simp [hy])))
    rw [List.length_erase_of_mem hxm] at this
    have hpos : 0 < m.length := List.length_pos_of_mem hxm
    simp only [List.length_cons]
    omega
theorem same_len {α : Type} [DecidableEq α] {l m : List α} (h1 : l.Nodup) (h2 : m.Nodup) (h : ∀ x, x ∈ l ↔ x ∈ m) : l.length = m.length :=
  Nat.le_antisymm (sub_len l m h1 (fun x hx => (h x).1 hx)) (sub_len m l h2 (fun x hx => (h x).2 hx))
section
variable {k : Nat} {ag : Ag} {rs m res M : List Rw}
/-- Groups of rows that are alike with no other one are as many. -/
theorem once_len (hG : GR k ag rs res) (hk : ∀ r ∈ rs, k < r.args.length) (hd : (rs.map (kr k)).Nodup) : res.length = rs.length := by
  have := same_len hG.dis hd (fun x => by
    rw [List.mem_map, List.mem_map]
    constructor
    · rintro ⟨g, hg, rfl⟩
      obtain ⟨r, hr, _, e, _⟩ := hG.st2 g hg
      exact ⟨r, hr, e⟩
    · rintro ⟨r, hr, rfl⟩
      obtain ⟨g, hg, e⟩ := hG.all r hr (hk r hr)
      exact ⟨g, hg, e.symm⟩)
  rwa [List.length_map, List.length_map] at this
theorem gfirst_self (ha : ag ≠ .count) {x : Rw} (hx : x.args ≠ []) : gfirst ag x = x := by
  have h9 := (List.dropLast_concat_getLast hx).symm
  have hl := lastV_of' h9
  have hf : foldV ag zeroV (lastV x) true = lastV x := by
    cases ag
    · rfl
    · rfl
    · exact absurd rfl ha
  unfold gfirst
  rw [hf, hl]
  cases x
  simp only [Rw.mk.injEq, true_and, and_true]
  exact h9.symm
theorem grp_once (hc : ∀ x ∈ m, canonR x) (hn : ∀ x ∈ m, x.args ≠ []) (hd : (m.map kk).Nodup) : grp ag m = m.map (gfirst ag) := by
  have key : ∀ (l2 l1 : List Rw), (∀ x ∈ l1 ++ l2, canonR x) → (∀ x ∈ l1 ++ l2, x.args ≠ []) → ((l1 ++ l2).map kk).Nodup → l2.foldl (gstep ag) (l1.map (gfirst ag)) = (l1 ++ l2).map (gfirst ag) := by
    intro l2
    induction l2 with
    | nil => intro l1 _ _ _; rw [List.append_nil]; rfl
    | cons x l2 ih =>
      intro l1 h1 h2 h3
      have hx : ∀ a ∈ l1.map (gfirst ag), alikeB x a = false := fun a ha => by
        obtain ⟨y, hy, rfl⟩ := List.mem_map.1 ha
        rw [← Bool.not_eq_true]
        intro e
        have hyc := h1 y (by simp [hy])
        have hfc : canonR (gfirst ag y) := fun u hu => by
          rcases List.mem_append.1 hu with h4 | h4
          · exact hyc u (List.dropLast_subset _ h4)
          · rw [List.mem_singleton.1 h4]
            exact foldV_can (fun h => by cases h) (hyc _ (lastV_mem (h2 y (by simp [hy]))))
        have e2 := (alikeB_iff (h1 x (by simp)) hfc (h2 x (by simp)) (by unfold gfirst; simp)).1 e
        rw [kk_first] at e2
        rw [List.map_append, List.nodup_append] at h3
        exact h3.2.2 (kk y) (List.mem_map.2 ⟨y, hy, rfl⟩) (kk x) (by simp) e2.symm
      rw [List.foldl_cons, gstep_none hx]
      have := ih (l1 ++ [x]) (by simpa using h1) (by simpa using h2) (by simpa using h3)
      rw [List.map_append] at this
      simpa using this
  exact key m [] hc hn hd
/-- Of rows that are alike with no other one, the least and the greatest are these. -/
theorem once_same (ha : ag ≠ .count) (hc : ∀ r ∈ rs, canonR r) (hk : ∀ r ∈ rs, k < r.args.length) (hd : (rs.map (kr k)).Nodup) (hm : IsMerge (trn k rs) m) (hr : IsMerge ((grp ag m).map (bck k)) res) (hM : IsMerge rs M) : res = M := by
  have hmc : ∀ x ∈ m, canonR x := fun x hx => trn_can hc x (hm.sub x hx)
  have hmn : ∀ x ∈ m, x.args ≠ [] := fun x hx => (trn_ne x (hm.sub x hx)).1
  have hmd : (m.map kk).Nodup := by
    unfold List.Nodup
    rw [List.pairwise_map]
    refine List.Pairwise.imp_of_mem (fun {a b} h1 h2 hab e => ?_) hm.up
    obtain ⟨r, hr1, v, hv, rfl⟩ := mem_trn.1 (hm.sub a h1)
    obtain ⟨s, hs1, u, hu, rfl⟩ := mem_trn.1 (hm.sub b h2)
    rw [kk_ahd, kk_ahd] at e
    have := nodup_inj hd hr1 hs1 e
    subst this
    rw [hv] at hu
    cases hu
    rw [tri_row.refl] at hab
    omega
  rw [grp_once hmc hmn hmd] at hr
  have hid : m.map (gfirst ag) = m := by
    have : m.map (gfirst ag) = m.map id := List.map_congr_left (fun x hx => gfirst_self ha (hmn x hx))
    rw [this, List.map_id]
  rw [hid] at hr
  refine merge_uniq hc (merge_same (fun z => ?_) hr) hM
  rw [List.mem_map]
  constructor
  · rintro ⟨x, hx, rfl⟩
    obtain ⟨r, hr1, v, hv, rfl⟩ := mem_trn.1 (hm.sub x hx)
    rw [bck_ahd hv]; exact hr1
  · intro hz
    obtain ⟨v, hv⟩ : ∃ v, z.args[k]? = some v := ⟨_, List.getElem?_eq_getElem (hk z hz)⟩
    obtain ⟨x, hx, e, _⟩ := hm.all _ (mem_trn.2 ⟨z, hz, v, hv, rfl⟩)
    obtain ⟨r, hr1, u, hu, rfl⟩ := mem_trn.1 (hm.sub x hx)
    have h1 := canonR_eq (can_ahd (hc r hr1) hu) (can_ahd (hc z hz) hv) e
    have h2 : kk (ahd r k u) = kk (ahd z k v) := by unfold kk; rw [h1.1, h1.2]
    rw [kk_ahd, kk_ahd] at h2
    have := nodup_inj hd hr1 hz h2
    subst this
    exact ⟨_, hx, bck_ahd hu⟩
/-- What a count is. -/
theorem cnt_is (hc : ∀ r ∈ rs, canonR r) (hm : IsMerge (trn k rs) m) (hr : IsMerge ((grp .count m).map (bck k)) res) : ∀ g ∈ res, vr k g = ⟨1, ((m.filter (fun x => decide (kk x = kr k g))).length : Nat), ⟨#[]⟩⟩ := fun g hg => by
  obtain ⟨y, hy, rfl⟩ := (res_mem (ag := .count) hc hm hr g).1 hg
  have hl := grp_len_ok (ag := .count) hc hm y hy
  have inv := grp_inv (ag := .count) (fun x hx => trn_can hc x (hm.sub x hx)) (fun x hx => (trn_ne x (hm.sub x hx)).1)
  rw [vr_some (bck_get hl), bck_kr hl]
  exact inv.cnt rfl y hy
theorem cnt_pos (hc : ∀ r ∈ rs, canonR r) (hm : IsMerge (trn k rs) m) (hr : IsMerge ((grp .count m).map (bck k)) res) : ∀ g ∈ res, 1 ≤ (m.filter (fun x => decide (kk x = kr k g))).length := fun g hg => by
  obtain ⟨y, hy, rfl⟩ := (res_mem (ag := .count) hc hm hr g).1 hg
  have hl := grp_len_ok (ag := .count) hc hm y hy
  have inv := grp_inv (ag := .count) (fun x hx => trn_can hc x (hm.sub x hx)) (fun x hx => (trn_ne x (hm.sub x hx)).1)
  obtain ⟨x, hx, e, _⟩ := inv.st2 y hy
  rw [bck_kr hl]
  exact List.length_pos_of_mem (List.mem_filter.2 ⟨hx, by simpa using e⟩)
/-- A count of 1, where each is alone. -/
theorem once_cnt (hc : ∀ r ∈ rs, canonR r) (hd : (rs.map (kr k)).Nodup) (hm : IsMerge (trn k rs) m) (hr : IsMerge ((grp .count m).map (bck k)) res) : ∀ g ∈ res, (vr k g).i = 1 := fun g hg => by
  rw [cnt_is hc hm hr g hg]
  have h1 := cnt_pos hc hm hr g hg
  have h2 : (m.filter (fun x => decide (kk x = kr k g))).length ≤ 1 := by
    have := sub_len (m.filter (fun x => decide (kk x = kr k g))) [(m.filter (fun x => decide (kk x = kr k g))).head (by intro e; rw [e] at h1; simp at h1)] ?_ ?_
    · simpa using this
    · exact (hm.up.imp (fun {a b} h e => by rw [e, tri_row.refl] at h; omega) : m.Nodup).filter _
    · intro x hx
      have hh : (m.filter (fun x => decide (kk x = kr k g))).head (by intro e; rw [e] at h1; simp at h1) ∈ m.filter (fun x => decide (kk x = kr k g)) := List.head_mem _
      generalize (m.filter (fun x => decide (kk x = kr k g))).head (by intro e; rw [e] at h1; simp at h1) = z at hh ⊢
      rw [List.mem_filter, decide_eq_true_eq] at hx hh
      obtain ⟨r, hr1, v, hv, rfl⟩ := mem_trn.1 (hm.sub x hx.1)
      obtain ⟨s, hs1, u, hu, rfl⟩ := mem_trn.1 (hm.sub z hh.1)
      have e := hx.2.trans hh.2.symm
      rw [kk_ahd, kk_ahd] at e
      have h3 := nodup_inj hd hr1 hs1 e
      subst h3
      rw [hv] at hu
      cases hu
      -- the same up to its stamp: both are merged
      simp
  show ((m.filter (fun x => decide (kk x = kr k g))).length : Int) = 1
  omega
theorem sum_ind {α β : Type} [DecidableEq β] (f : α → β) : ∀ (ks : List β) (l : List α), ks.Nodup → (∀ x ∈ l, f x ∈ ks) → (ks.map (fun c => ((l.filter (fun x => decide (f x = c))).length : Int))).sum = l.length
  | ks, [], _, _ => by
    induction ks with
    | nil => rfl
    | cons c ks ih => simp only [List.map_cons, List.sum_cons, List.filter_nil, List.length_nil] at ih ⊢; simp_all
  | ks, x :: l, hn, h => by
    have ih := sum_ind f ks l hn (fun y hy => h y (by simp [hy]))
    have hx := h x (by simp)
    have key : ∀ (ks : List β), ks.Nodup → (ks.map (fun c => (((x :: l).filter (fun x => decide (f x = c))).length : Int))).sum = (ks.map (fun c => ((l.filter (fun x => decide (f x = c))).length : Int))).sum + (if f x ∈ ks then 1 else 0) := by
      intro ks hn
      induction ks with
      | nil => simp
      | cons c ks ih =>
        rw [List.nodup_cons] at hn
        have := ih hn.2
        simp only [List.map_cons, List.sum_cons]
        rw [this, List.filter_cons]
        by_cases e : f x = c
        · subst e
          have h9 : ¬ (f x ∈ ks) := hn.1
          simp only [decide_true, if_true, List.length_cons, List.mem_cons, true_or]
          rw [if_neg h9]
          omega
        · simp only [e, decide_false, Bool.false_eq_true, if_false, List.mem_cons, false_or]
          omega
    rw [key ks hn, ih, if_pos hx, List.length_cons]
    omega
theorem cnt_sum (hc : ∀ r ∈ rs, canonR r) (hm : IsMerge (trn k rs) m) (hr : IsMerge ((grp .count m).map (bck k)) res) : (res.map (fun g => (vr k g).i)).sum = m.length := by
  have hG := GR.of (ag := .count) hc hm hr
  have h1 : res.map (fun g => (vr k g).i) = (res.map (kr k)).map (fun c => ((m.filter (fun x => decide (kk x = c))).length : Int)) := by
    rw [List.map_map]
    exact List.map_congr_left (fun g hg => by rw [cnt_is hc hm hr g hg]; rfl)
  rw [h1]
  refine sum_ind kk _ m hG.dis (fun x hx => ?_)
  obtain ⟨r, hr1, v, hv, rfl⟩ := mem_trn.1 (hm.sub x hx)
  obtain ⟨g, hg, e⟩ := hG.all r hr1 (List.getElem?_eq_some_iff.1 hv).1
  rw [kk_ahd]
  exact List.mem_map.2 ⟨g, hg, e.symm⟩
/-- Rows that are merged ahead have the same groups. -/
theorem merged_groups {ls : List Rw} (hc : ∀ r ∈ ls, canonR r) (hM : IsMerge ls M) (hm : IsMerge (trn k M) m) : IsMerge (trn k ls) m := ⟨hm.up, fun x hx => by
  obtain ⟨r, hr, h⟩ := mem_trn.1 (hm.sub x hx)
  exact mem_trn.2 ⟨r, hM.sub r hr, h⟩, fun x hx => by
  obtain ⟨r, hr, v, hv, rfl⟩ := mem_trn.1 hx
  obtain ⟨s, hs, e, l⟩ := hM.all r hr
  obtain ⟨e1, e2⟩ := canonR_eq (hc s (hM.sub s hs)) (hc r hr) e
  obtain ⟨t, ht, e3, l3⟩ := hm.all _ (mem_trn.2 ⟨s, hs, v, by rw [e2]; exact hv, rfl⟩)
  have e4 : cmpR (ahd s k v) (ahd r k v) = 0 := by
    have : ahd s k v = ⟨(ahd r k v).name, (ahd r k v).args, s.stamp⟩ := by unfold ahd; rw [e1, e2]
    rw [this]
    unfold cmpR lex2
    simp only []
    rw [tri_str.refl, if_pos rfl]
    exact (tri_list tri_val).refl _
  refine ⟨t, ht, eq_trans' e3 e4, ?_⟩
  have h5 : (ahd s k v).stamp = s.stamp := rfl
  have h6 : (ahd r k v).stamp = r.stamp := rfl
  omega⟩
/-- Of merged rows those with the place are as many as are merged without it. -/
theorem merged_len (hc : ∀ r ∈ M, canonR r) (hu : M.Pairwise (fun a b => cmpR a b < 0)) (hm : IsMerge (trn k M) m) : m.length = (M.filter (fun r => decide (k < r.args.length))).length := by
  have hmn : m.Nodup := hm.up.imp (fun {a b} h e => by rw [e, tri_row.refl] at h; omega)
  have hMn : M.Nodup := hu.imp (fun {a b} h e => by rw [e, tri_row.refl] at h; omega)
  have h1 := same_len (l := m) (m := (M.filter (fun r => decide (k < r.args.length))).map (fun r => ahd r k (vr k r))) hmn ?_ (fun x => ?_)
  · rw [h1, List.length_map]
  · unfold List.Nodup
    rw [List.pairwise_map]
    refine List.Pairwise.imp_of_mem (fun {a b} h1 h2 hab e => ?_) (hMn.filter _)
    rw [List.mem_filter, decide_eq_true_eq] at h1 h2
    have e1 := bck_ahd (k := k) (r := a) (v := vr k a) (by unfold vr; rw [List.getD_eq_getElem?_getD, List.getElem?_eq_getElem h1.2]; rfl)
    have e2 := bck_ahd (k := k) (r := b) (v := vr k b) (by unfold vr; rw [List.getD_eq_getElem?_getD, List.getElem?_eq_getElem h2.2]; rfl)
    rw [e] at e1
    exact hab (e1.symm.trans e2)
  · rw [List.mem_map]
    constructor
    · intro hx
      obtain ⟨r, hr, v, hv, rfl⟩ := mem_trn.1 (hm.sub x hx)
      exact ⟨r, List.mem_filter.2 ⟨hr, decide_eq_true (List.getElem?_eq_some_iff.1 hv).1⟩, by rw [vr_some hv]⟩
    · rintro ⟨r, hr, rfl⟩
      rw [List.mem_filter, decide_eq_true_eq] at hr
      have hv : r.args[k]? = some (vr k r) := by unfold vr; rw [List.getD_eq_getElem?_getD, List.getElem?_eq_getElem hr.2]; rfl
      obtain ⟨t, ht, e, _⟩ := hm.all _ (mem_trn.2 ⟨r, hr.1, _, hv, rfl⟩)
      obtain ⟨s, hs, u, hu', rfl⟩ := mem_trn.1 (hm.sub t ht)
      obtain ⟨f1, f2⟩ := canonR_eq (can_ahd (hc s hs) hu') (can_ahd (hc r hr.1) hv) e
      have g1 := bck_ahd hu'
      have g2 := bck_ahd hv
      have : cmpR s r = 0 := by
        have ha : s.args = r.args := by rw [← g1, ← g2]; unfold bck lastV; rw [f2]
        have hn : s.name = r.name := f1
        unfold cmpR lex2
        simp only []
        rw [hn, ha, tri_str.refl, if_pos rfl]
        exact (tri_list tri_val).refl _
      have := up_uniq hu hs hr.1 this
      subst this
      rw [hv] at hu'
      cases hu'
      exact ht
end
end Go.Proofs.Ytenkobgeflckdaa
