/- What the groups are, in plain Lean. -/
import Derived.Test.YtfocjfnkcabbgaaGreatGrpC
set_option linter.unusedVariables false
namespace Go.Proofs.YtfocjfnkcabbgaaGreat

def kk (r : Rw) : ByteArray × List Vl := (r.name, r.args.dropLast)
theorem cmpL_refl (l : List Vl) : cmpL cmpV l l = 0 := (tri_list tri_val).refl l
theorem alikeB_iff {x y : Rw} (hx : canonR x) (hy : canonR y) (h1 : x.args ≠ []) (h2 : y.args ≠ []) : alikeB x y = true ↔ kk x = kk y := by
  unfold alikeB kk
  simp only [Bool.and_eq_true, decide_eq_true_eq, Prod.mk.injEq]
  constructor
  · rintro ⟨a, _, c⟩
    exact ⟨a, canonL_eq (fun u hu => hx u (List.dropLast_subset _ hu)) (fun u hu => hy u (List.dropLast_subset _ hu)) c⟩
  · rintro ⟨a, b⟩
    refine ⟨a, ?_, by rw [b]; exact cmpL_refl _⟩
    have := congrArg List.length b
    rw [List.length_dropLast, List.length_dropLast] at this
    have l1 := List.length_pos_iff.2 h1
    have l2 := List.length_pos_iff.2 h2
    omega
theorem kk_snoc (n : ByteArray) (l : List Vl) (z : Vl) (s : Int) : kk ⟨n, l ++ [z], s⟩ = (n, l) := by simp [kk]
theorem kk_merge (ag : Ag) (y x : Rw) : kk (gmerge ag y x) = kk y := by unfold gmerge; rw [kk_snoc]; rfl
theorem kk_first (ag : Ag) (x : Rw) : kk (gfirst ag x) = kk x := by unfold gfirst; rw [kk_snoc]; rfl
theorem last_merge (ag : Ag) (y x : Rw) : lastV (gmerge ag y x) = foldV ag (lastV y) (lastV x) false := lastV_snoc _ _ _ _
theorem last_first (ag : Ag) (x : Rw) : lastV (gfirst ag x) = foldV ag zeroV (lastV x) true := lastV_snoc _ _ _ _
theorem lastV_mem {r : Rw} (h : r.args ≠ []) : lastV r ∈ r.args := by
  have h9 := (List.dropLast_concat_getLast h).symm
  rw [lastV_of' h9]
  exact List.getLast_mem h
theorem foldV_can {ag : Ag} {a b : Vl} {f : Bool} (ha : f = false → canon a) (hb : canon b) : canon (foldV ag a b f) := by
  cases ag <;> cases f <;> simp only [foldV, Bool.true_or, Bool.false_or, if_true, Bool.false_eq_true, if_false]
  · split
    · exact hb
    · exact ha rfl
  · exact hb
  · split
    · exact hb
    · exact ha rfl
  · exact hb
  · exact .inr ⟨rfl, rfl⟩
  · exact .inr ⟨rfl, rfl⟩

structure GInv (ag : Ag) (l gs : List Rw) : Prop where
  all : ∀ x ∈ l, ∃ y ∈ gs, kk x = kk y
  dis : (gs.map kk).Nodup
  st1 : ∀ y ∈ gs, ∀ x ∈ l, kk x = kk y → x.stamp ≤ y.stamp
  st2 : ∀ y ∈ gs, ∃ x ∈ l, kk x = kk y ∧ x.stamp = y.stamp
  mn : ag = .min → ∀ y ∈ gs, (∃ x ∈ l, kk x = kk y ∧ lastV x = lastV y) ∧ ∀ x ∈ l, kk x = kk y → cmpV (lastV y) (lastV x) ≤ 0
  mx : ag = .max → ∀ y ∈ gs, (∃ x ∈ l, kk x = kk y ∧ lastV x = lastV y) ∧ ∀ x ∈ l, kk x = kk y → cmpV (lastV x) (lastV y) ≤ 0
  cnt : ag = .count → ∀ y ∈ gs, lastV y = ⟨1, ((l.filter (fun x => decide (kk x = kk y))).length : Nat), ⟨#[]⟩⟩
  can : ∀ y ∈ gs, canonR y
  ne : ∀ y ∈ gs, y.args ≠ []

theorem set_mem {gs : List Rw} {q : Nat} {y y' z : Rw} (hd : (gs.map kk).Nodup) (hq : gs[q]? = some y) (hz : z ∈ gs.set q y') : z = y' ∨ (z ∈ gs ∧ kk z ≠ kk y) := by
  obtain ⟨i, hi, rfl⟩ := List.getElem_of_mem hz
  rw [List.getElem_set]
  by_cases h : q = i
  · rw [if_pos h]; exact .inl rfl
  · rw [if_neg h]
    rw [List.length_set] at hi
    refine .inr ⟨List.getElem_mem _, fun e => ?_⟩
    obtain ⟨hlt, he⟩ := List.getElem?_eq_some_iff.1 hq
    rw [← he] at e
    have := (List.pairwise_iff_getElem.1 hd)
    rcases Nat.lt_or_gt_of_ne h with h1 | h1
    · exact this q i (by rw [List.length_map]; exact hlt) (by rw [List.length_map]; exact hi) h1 (by rw [List.getElem_map, List.getElem_map]; exact e.symm)
    · exact this i q (by rw [List.length_map]; exact hi) (by rw [List.length_map]; exact hlt) h1 (by rw [List.getElem_map, List.getElem_map]; exact e)
theorem mem_set_other {gs : List Rw} {q : Nat} {y y' z : Rw} (hq : gs[q]? = some y) (hz : z ∈ gs) (hk : kk z ≠ kk y) : z ∈ gs.set q y' := by
  obtain ⟨i, hi, rfl⟩ := List.getElem_of_mem hz
  have h : q ≠ i := by
    rintro rfl
    rw [List.getElem?_eq_getElem hi] at hq
    exact hk (by rw [Option.some.inj hq])
  refine List.mem_of_getElem? (i := i) ?_
  rw [List.getElem?_set, if_neg h, List.getElem?_eq_getElem hi]
theorem filter_snoc_len {l : List Rw} {x : Rw} {p : Rw → Bool} : ((l ++ [x]).filter p).length = (l.filter p).length + if p x = true then 1 else 0 := by
  rw [List.filter_append, List.length_append]
  congr 1
  by_cases h : p x = true <;> simp [h]

theorem GInv.step {ag : Ag} {l gs : List Rw} {x : Rw} (h : GInv ag l gs) (hx : canonR x) (hxn : x.args ≠ []) : GInv ag (l ++ [x]) (gstep ag gs x) := by
  have hxl : canon (lastV x) := hx _ (lastV_mem hxn)
  cases hf : gs.findIdx? (alikeB x) with
  | some q =>
    obtain ⟨y, hy, hal⟩ := findIdx_get hf
    have hym := List.mem_of_getElem? hy
    have hk := (alikeB_iff hx (h.can y hym) hxn (h.ne y hym)).1 hal
    have hg : gstep ag gs x = gs.set q (gmerge ag y x) := by unfold gstep; rw [hf]; simp only [hy]
    rw [hg]
    have hql := (List.getElem?_eq_some_iff.1 hy).1
    have hin : gmerge ag y x ∈ gs.set q (gmerge ag y x) := List.mem_of_getElem? (i := q) (by rw [List.getElem?_set, if_pos rfl, if_pos hql])
    have hkm := kk_merge ag y x
    have hlm := last_merge ag y x
    have hyl := h.can y hym _ (lastV_mem (h.ne y hym))
    have hmem : ∀ z, z ∈ l ++ [x] ↔ z ∈ l ∨ z = x := fun z => by simp
    refine ⟨fun z hz => ?_, ?_, fun z hz w hw e => ?_, fun z hz => ?_, fun ea z hz => ?_, fun ea z hz => ?_, fun ea z hz => ?_, fun z hz => ?_, fun z hz => ?_⟩
    · rcases (hmem z).1 hz with h1 | rfl
      · obtain ⟨u, hu, e⟩ := h.all z h1
        by_cases hky : kk u = kk y
        · exact ⟨_, hin, by rw [hkm, e, hky]⟩
        · exact ⟨u, mem_set_other hy hu hky, e⟩
      · exact ⟨_, hin, by rw [hkm, hk]⟩
    · have : (gs.set q (gmerge ag y x)).map kk = gs.map kk := by
        rw [List.map_set, hkm]
        apply List.ext_getElem?
        intro i
        rw [List.getElem?_set]
        by_cases hi : q = i
        · subst hi
          rw [if_pos rfl, List.getElem?_map, hy, if_pos (by rw [List.length_map]; exact hql)]
          rfl
        · rw [if_neg hi]
      rw [this]; exact h.dis
    · rcases set_mem h.dis hy hz with rfl | ⟨h1, h2⟩
      · rw [hkm] at e
        show w.stamp ≤ (if y.stamp < x.stamp then x.stamp else y.stamp)
        rcases (hmem w).1 hw with h3 | rfl
        · have := h.st1 y hym w h3 e
          split <;> omega
        · split <;> omega
      · rcases (hmem w).1 hw with h3 | rfl
        · exact h.st1 z h1 w h3 e
        · exact absurd (e.symm.trans hk) h2
    · rcases set_mem h.dis hy hz with rfl | ⟨h1, h2⟩
      · by_cases hs : y.stamp < x.stamp
        · exact ⟨x, by simp, by rw [hkm, hk], by show x.stamp = (if y.stamp < x.stamp then x.stamp else y.stamp); rw [if_pos hs]⟩
        · obtain ⟨w, hw, e1, e2⟩ := h.st2 y hym
          exact ⟨w, by simp [hw], by rw [hkm, e1], by show w.stamp = (if y.stamp < x.stamp then x.stamp else y.stamp); rw [if_neg hs, e2]⟩
      · obtain ⟨w, hw, e1, e2⟩ := h.st2 z h1
        exact ⟨w, by simp [hw], e1, e2⟩
    · rcases set_mem h.dis hy hz with rfl | ⟨h1, h2⟩
      · rw [hlm, hkm]
        subst ea
        obtain ⟨⟨u, hu, e1, e2⟩, hmin⟩ := h.mn rfl y hym
        simp only [foldV, Bool.false_or, decide_eq_true_eq]
        by_cases hc : cmpV (lastV x) (lastV y) < 0
        · rw [if_pos hc]
          refine ⟨⟨x, by simp, hk, rfl⟩, fun w hw e => ?_⟩
          rcases (hmem w).1 hw with h3 | rfl
          · exact tri_val.trans _ _ _ (by omega) (hmin w h3 e)
          · rw [tri_val.refl]; omega
        · rw [if_neg hc]
          refine ⟨⟨u, by simp [hu], e1, e2⟩, fun w hw e => ?_⟩
          rcases (hmem w).1 hw with h3 | rfl
          · exact hmin w h3 e
          · have := tri_val.anti (lastV w) (lastV y); omega
      · obtain ⟨⟨u, hu, e1, e2⟩, hmin⟩ := h.mn ea z h1
        refine ⟨⟨u, by simp [hu], e1, e2⟩, fun w hw e => ?_⟩
        rcases (hmem w).1 hw with h3 | rfl
        · exact hmin w h3 e
        · exact absurd (e.symm.trans hk) h2
    · rcases set_mem h.dis hy hz with rfl | ⟨h1, h2⟩
      · rw [hlm, hkm]
        subst ea
        obtain ⟨⟨u, hu, e1, e2⟩, hmax⟩ := h.mx rfl y hym
        simp only [foldV, Bool.false_or, decide_eq_true_eq]
        by_cases hc : 0 < cmpV (lastV x) (lastV y)
        · rw [if_pos hc]
          refine ⟨⟨x, by simp, hk, rfl⟩, fun w hw e => ?_⟩
          rcases (hmem w).1 hw with h3 | rfl
          · exact tri_val.trans _ _ _ (hmax w h3 e) (by have := tri_val.anti (lastV x) (lastV y); omega)
          · rw [tri_val.refl]; omega
        · rw [if_neg hc]
          refine ⟨⟨u, by simp [hu], e1, e2⟩, fun w hw e => ?_⟩
          rcases (hmem w).1 hw with h3 | rfl
          · exact hmax w h3 e
          · omega
      · obtain ⟨⟨u, hu, e1, e2⟩, hmax⟩ := h.mx ea z h1
        refine ⟨⟨u, by simp [hu], e1, e2⟩, fun w hw e => ?_⟩
        rcases (hmem w).1 hw with h3 | rfl
        · exact hmax w h3 e
        · exact absurd (e.symm.trans hk) h2
    · rcases set_mem h.dis hy hz with rfl | ⟨h1, h2⟩
      · rw [hlm, filter_snoc_len]
        simp only [hkm]
        subst ea
        have hc := h.cnt rfl y hym
        rw [if_pos (by simpa using hk)]
        simp only [foldV, Bool.false_eq_true, if_false, hc]
        simp
      · rw [h.cnt ea z h1, filter_snoc_len, if_neg (by simp only [decide_eq_true_eq]; exact fun e => h2 (e.symm.trans hk))]
        simp
    · rcases set_mem h.dis hy hz with rfl | ⟨h1, h2⟩
      · intro u hu
        rcases List.mem_append.1 hu with h3 | h3
        · exact h.can y hym u (List.dropLast_subset _ h3)
        · rw [List.mem_singleton.1 h3]
          exact foldV_can (fun _ => hyl) hxl
      · exact h.can z h1
    · rcases set_mem h.dis hy hz with rfl | ⟨h1, h2⟩
      · unfold gmerge; simp
      · exact h.ne z h1
  | none =>
    have hno : ∀ y ∈ gs, kk x ≠ kk y := fun y hy e => by
      have := List.findIdx?_eq_none_iff.1 hf y hy
      rw [(alikeB_iff hx (h.can y hy) hxn (h.ne y hy)).2 e] at this
      cases this
    have hg : gstep ag gs x = gs ++ [gfirst ag x] := by unfold gstep; rw [hf]
    rw [hg]
    have hkf := kk_first ag x
    have hlf := last_first ag x
    have hmem : ∀ z, z ∈ l ++ [x] ↔ z ∈ l ∨ z = x := fun z => by simp
    have hmg : ∀ z, z ∈ gs ++ [gfirst ag x] ↔ z ∈ gs ∨ z = gfirst ag x := fun z => by simp
    have hln : ∀ w ∈ l, kk w ≠ kk x := fun w hw e => by
      obtain ⟨y, hy, e2⟩ := h.all w hw
      exact hno y hy (e.symm.trans e2)
    refine ⟨fun z hz => ?_, ?_, fun z hz w hw e => ?_, fun z hz => ?_, fun ea z hz => ?_, fun ea z hz => ?_, fun ea z hz => ?_, fun z hz => ?_, fun z hz => ?_⟩
    · rcases (hmem z).1 hz with h1 | rfl
      · obtain ⟨u, hu, e⟩ := h.all z h1
        exact ⟨u, by simp [hu], e⟩
      · exact ⟨_, by simp, hkf.symm⟩
    · rw [List.map_append, List.nodup_append]
      refine ⟨h.dis, by simp, fun a ha b hb => ?_⟩
      obtain ⟨y, hy, rfl⟩ := List.mem_map.1 ha
      simp only [List.map_cons, List.map_nil, List.mem_singleton] at hb
      rw [hb, hkf]
      exact fun e => hno y hy e.symm
    · rcases (hmg z).1 hz with h1 | rfl
      · rcases (hmem w).1 hw with h3 | rfl
        · exact h.st1 z h1 w h3 e
        · exact absurd e (hno z h1)
      · rcases (hmem w).1 hw with h3 | rfl
        · rw [hkf] at e
          exact absurd e (hln w h3)
        · exact Int.le_refl _
    · rcases (hmg z).1 hz with h1 | rfl
      · obtain ⟨w, hw, e1, e2⟩ := h.st2 z h1
        exact ⟨w, by simp [hw], e1, e2⟩
      · exact ⟨x, by simp, hkf.symm, rfl⟩
    · rcases (hmg z).1 hz with h1 | rfl
      · obtain ⟨⟨u, hu, e1, e2⟩, hmin⟩ := h.mn ea z h1
        refine ⟨⟨u, by simp [hu], e1, e2⟩, fun w hw e => ?_⟩
        rcases (hmem w).1 hw with h3 | rfl
        · exact hmin w h3 e
        · exact absurd e (hno z h1)
      · rw [hlf, hkf]
        subst ea
        simp only [foldV, Bool.true_or, if_true]
        refine ⟨⟨x, by simp, rfl, rfl⟩, fun w hw e => ?_⟩
        rcases (hmem w).1 hw with h3 | rfl
        · exact absurd e (hln w h3)
        · rw [tri_val.refl]; omega
    · rcases (hmg z).1 hz with h1 | rfl
      · obtain ⟨⟨u, hu, e1, e2⟩, hmax⟩ := h.mx ea z h1
        refine ⟨⟨u, by simp [hu], e1, e2⟩, fun w hw e => ?_⟩
        rcases (hmem w).1 hw with h3 | rfl
        · exact hmax w h3 e
        · exact absurd e (hno z h1)
      · rw [hlf, hkf]
        subst ea
        simp only [foldV, Bool.true_or, if_true]
        refine ⟨⟨x, by simp, rfl, rfl⟩, fun w hw e => ?_⟩
        rcases (hmem w).1 hw with h3 | rfl
        · exact absurd e (hln w h3)
        · rw [tri_val.refl]; omega
    · rcases (hmg z).1 hz with h1 | rfl
      · rw [h.cnt ea z h1, filter_snoc_len, if_neg (by simp only [decide_eq_true_eq]; exact hno z h1)]
        simp
      · rw [hlf, filter_snoc_len]
        simp only [hkf]
        subst ea
        rw [if_pos (by simp), List.filter_eq_nil_iff.2 (fun w hw => by simp only [decide_eq_true_eq]; exact hln w hw)]
        simp [foldV]
    · rcases (hmg z).1 hz with h1 | rfl
      · exact h.can z h1
      · intro u hu
        rcases List.mem_append.1 hu with h3 | h3
        · exact hx u (List.dropLast_subset _ h3)
        · rw [List.mem_singleton.1 h3]
          exact foldV_can (fun h => by cases h) hxl
    · rcases (hmg z).1 hz with h1 | rfl
      · exact h.ne z h1
      · unfold gfirst; simp
theorem grp_inv {ag : Ag} {m : List Rw} (hc : ∀ x ∈ m, canonR x) (hn : ∀ x ∈ m, x.args ≠ []) : GInv ag m (grp ag m) := by
  have key : ∀ (l2 l1 gs : List Rw), GInv ag l1 gs → (∀ x ∈ l2, canonR x) → (∀ x ∈ l2, x.args ≠ []) → GInv ag (l1 ++ l2) (l2.foldl (gstep ag) gs) := by
    intro l2
    induction l2 with
    | nil => intro l1 gs h _ _; rw [List.append_nil]; exact h
    | cons x l2 ih =>
      intro l1 gs h h1 h2
      have := ih (l1 ++ [x]) (gstep ag gs x) (h.step (h1 x (by simp)) (h2 x (by simp))) (fun z hz => h1 z (by simp [hz])) (fun z hz => h2 z (by simp [hz]))
      rw [List.append_assoc] at this
      exact this
  have h0 : GInv ag [] [] := ⟨fun x h => (by cases h), List.nodup_nil, fun y h => (by cases h), fun y h => (by cases h), fun _ y h => (by cases h), fun _ y h => (by cases h), fun _ y h => (by cases h), fun y h => (by cases h), fun y h => (by cases h)⟩
  have := key m [] [] h0 hc hn
  rwa [List.nil_append] at this
end Go.Proofs.YtfocjfnkcabbgaaGreat
