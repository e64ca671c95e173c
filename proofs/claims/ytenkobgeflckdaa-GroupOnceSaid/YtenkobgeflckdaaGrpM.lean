/- The groups over the rows as they were. -/
import Derived.Test.YtenkobgeflckdaaGrpL
import Derived.Test.YtenkobgeflckdaaAlk11
set_option linter.unusedVariables false
namespace Go.Proofs.Ytenkobgeflckdaa

def kr (k : Nat) (r : Rw) : ByteArray × List Vl := (r.name, r.args.eraseIdx k)
def vr (k : Nat) (r : Rw) : Vl := r.args.getD k zeroV
theorem kk_ahd (r : Rw) (k : Nat) (v : Vl) : kk (ahd r k v) = kr k r := kk_snoc _ _ _ _
theorem last_ahd (r : Rw) (k : Nat) (v : Vl) : lastV (ahd r k v) = v := lastV_snoc _ _ _ _
theorem mem_trn {k : Nat} {rs : List Rw} {x : Rw} : x ∈ trn k rs ↔ ∃ r ∈ rs, ∃ v, r.args[k]? = some v ∧ x = ahd r k v := by
  unfold trn
  rw [List.mem_filterMap]
  constructor
  · rintro ⟨r, hr, h⟩
    cases hv : r.args[k]? with
    | none => rw [hv] at h; cases h
    | some v => rw [hv] at h; exact ⟨r, hr, v, hv, (Option.some.inj h).symm⟩
  · rintro ⟨r, hr, v, hv, rfl⟩
    exact ⟨r, hr, by rw [hv]; rfl⟩
theorem can_ahd {r : Rw} {k : Nat} {v : Vl} (h : canonR r) (hv : r.args[k]? = some v) : canonR (ahd r k v) := fun u hu => by
  rcases List.mem_append.1 hu with h1 | h1
  · exact h u (List.mem_of_mem_eraseIdx h1)
  · rw [List.mem_singleton.1 h1]; exact h v (List.mem_of_getElem? hv)
theorem trn_can {k : Nat} {rs : List Rw} (h : ∀ r ∈ rs, canonR r) : ∀ x ∈ trn k rs, canonR x := fun x hx => by
  obtain ⟨r, hr, v, hv, rfl⟩ := mem_trn.1 hx
  exact can_ahd (h r hr) hv
theorem trn_ne {k : Nat} {rs : List Rw} : ∀ x ∈ trn k rs, x.args ≠ [] ∧ k < x.args.length := fun x hx => by
  obtain ⟨r, hr, v, hv, rfl⟩ := mem_trn.1 hx
  have hlt := (List.getElem?_eq_some_iff.1 hv).1
  constructor
  · unfold ahd; simp
  · show k < (r.args.eraseIdx k ++ [v]).length
    rw [List.length_append, List.length_eraseIdx, if_pos hlt]
    simp; omega
section
variable {k : Nat} {y : Rw}
theorem bck_args (k : Nat) (y : Rw) : (bck k y).args = y.args.dropLast.take k ++ lastV y :: y.args.dropLast.drop k := rfl
theorem bck_kr (hy : k < y.args.length) : kr k (bck k y) = kk y := by
  unfold kr kk
  rw [bck_args]
  have hl : (y.args.dropLast.take k).length = k := by rw [List.length_take, List.length_dropLast]; omega
  congr 1
  rw [List.eraseIdx_append_of_length_le (by omega), hl, Nat.sub_self]
  exact List.take_append_drop _ _
theorem bck_get (hy : k < y.args.length) : (bck k y).args[k]? = some (lastV y) := by
  rw [bck_args]
  have hl : (y.args.dropLast.take k).length = k := by rw [List.length_take, List.length_dropLast]; omega
  rw [List.getElem?_append_right (by omega), hl, Nat.sub_self]; rfl
theorem bck_len (hy : k < y.args.length) : (bck k y).args.length = y.args.length := by
  rw [bck_args, List.length_append, List.length_cons, List.length_take, List.length_drop, List.length_dropLast]
  omega
theorem bck_can (hc : canonR y) (hn : y.args ≠ []) : canonR (bck k y) := fun u hu => by
  rw [bck_args] at hu
  rcases List.mem_append.1 hu with h | h
  · exact hc u (List.dropLast_subset _ (List.mem_of_mem_take h))
  · rcases List.mem_cons.1 h with rfl | h
    · exact hc _ (lastV_mem hn)
    · exact hc u (List.dropLast_subset _ (List.mem_of_mem_drop h))
theorem bck_ahd {r : Rw} {v : Vl} (hv : r.args[k]? = some v) : bck k (ahd r k v) = r := by
  have hlt := (List.getElem?_eq_some_iff.1 hv).1
  have hd : (ahd r k v).args.dropLast = r.args.eraseIdx k := by unfold ahd; simp
  have ha : (bck k (ahd r k v)).args = r.args := by
    rw [bck_args, hd, last_ahd, List.eraseIdx_eq_take_drop_succ]
    have hl : (r.args.take k).length = k := by rw [List.length_take]; omega
    rw [List.take_left' hl, List.drop_left' hl]
    rw [List.getElem?_eq_getElem hlt] at hv
    rw [← Option.some.inj hv, ← List.drop_eq_getElem_cons hlt, List.take_append_drop]
  cases r
  simp only [bck, ahd, Rw.mk.injEq, true_and] at ha ⊢
  exact ⟨ha, trivial⟩
end
theorem nodup_inj {α β : Type} {f : α → β} : ∀ {l : List α}, (l.map f).Nodup → ∀ {a b : α}, a ∈ l → b ∈ l → f a = f b → a = b
  | [], _, _, _, h, _, _ => by cases h
  | x :: l, hn, a, b, ha, hb, e => by
    rw [List.map_cons, List.nodup_cons] at hn
    rcases List.mem_cons.1 ha with e1 | h1 <;> rcases List.mem_cons.1 hb with e2 | h2
    · rw [e1, e2]
    · exact absurd (List.mem_map.2 ⟨b, h2, by rw [← e, e1]⟩) hn.1
    · exact absurd (List.mem_map.2 ⟨a, h1, by rw [e, e2]⟩) hn.1
    · exact nodup_inj hn.2 h1 h2 e

/-- What Group tells of rows. -/
structure GR (k : Nat) (ag : Ag) (rs res : List Rw) : Prop where
  all : ∀ r ∈ rs, k < r.args.length → ∃ g ∈ res, kr k r = kr k g
  len : ∀ g ∈ res, k < g.args.length
  dis : (res.map (kr k)).Nodup
  can : ∀ g ∈ res, canonR g
  st1 : ∀ g ∈ res, ∀ r ∈ rs, k < r.args.length → kr k r = kr k g → r.stamp ≤ g.stamp
  st2 : ∀ g ∈ res, ∃ r ∈ rs, k < r.args.length ∧ kr k r = kr k g ∧ r.stamp = g.stamp
  mn : ag = .min → ∀ g ∈ res, (∃ r ∈ rs, k < r.args.length ∧ kr k r = kr k g ∧ vr k r = vr k g) ∧ ∀ r ∈ rs, k < r.args.length → kr k r = kr k g → cmpV (vr k g) (vr k r) ≤ 0
  mx : ag = .max → ∀ g ∈ res, (∃ r ∈ rs, k < r.args.length ∧ kr k r = kr k g ∧ vr k r = vr k g) ∧ ∀ r ∈ rs, k < r.args.length → kr k r = kr k g → cmpV (vr k r) (vr k g) ≤ 0
theorem vr_some {k : Nat} {r : Rw} {v : Vl} (h : r.args[k]? = some v) : vr k r = v := by unfold vr; rw [List.getD_eq_getElem?_getD, h]; rfl
section
variable {k : Nat} {ag : Ag} {rs m res : List Rw}
theorem grp_len_ok (hc : ∀ r ∈ rs, canonR r) (hm : IsMerge (trn k rs) m) : ∀ y ∈ grp ag m, k < y.args.length := by
  have key : ∀ (l2 gs : List Rw), (∀ x ∈ l2, k < x.args.length) → (∀ y ∈ gs, k < y.args.length) → ∀ y ∈ l2.foldl (gstep ag) gs, k < y.args.length := by
    intro l2
    induction l2 with
    | nil => intro gs _ h; exact h
    | cons x l2 ih =>
      intro gs h1 h2
      refine ih _ (fun z hz => h1 z (by simp [hz])) (fun z hz => ?_)
      unfold gstep at hz
      split at hz
      · split at hz
        · rename_i q _ y hy
          rcases List.mem_or_eq_of_mem_set hz with h3 | rfl
          · exact h2 z h3
          · have := h2 y (List.mem_of_getElem? hy)
            show k < (y.args.dropLast ++ [_]).length
            rw [List.length_append, List.length_dropLast]
            simp; omega
        · exact h2 z hz
      · rcases List.mem_append.1 hz with h3 | h3
        · exact h2 z h3
        · rw [List.mem_singleton.1 h3]
          have := h1 x (by simp)
          show k < (x.args.dropLast ++ [_]).length
          rw [List.length_append, List.length_dropLast]
          simp; omega
  exact key m [] (fun x hx => (trn_ne x (hm.sub x hx)).2) (fun y h => by cases h)
/-- The rows that come out are those of the groups. -/
theorem res_mem (hc : ∀ r ∈ rs, canonR r) (hm : IsMerge (trn k rs) m) (hr : IsMerge ((grp ag m).map (bck k)) res) : ∀ g, g ∈ res ↔ ∃ y ∈ grp ag m, g = bck k y := by
  have hmc : ∀ x ∈ m, canonR x := fun x hx => trn_can hc x (hm.sub x hx)
  have inv := grp_inv (ag := ag) hmc (fun x hx => (trn_ne x (hm.sub x hx)).1)
  have hlen := grp_len_ok (ag := ag) hc hm
  intro g
  constructor
  · intro hg
    obtain ⟨y, hy, rfl⟩ := List.mem_map.1 (hr.sub g hg)
    exact ⟨y, hy, rfl⟩
  · rintro ⟨y, hy, rfl⟩
    obtain ⟨s, hs, e, _⟩ := hr.all _ (List.mem_map.2 ⟨y, hy, rfl⟩)
    obtain ⟨y2, hy2, rfl⟩ := List.mem_map.1 (hr.sub s hs)
    have h1 := canonR_eq (bck_can (inv.can y2 hy2) (inv.ne y2 hy2)) (bck_can (inv.can y hy) (inv.ne y hy)) e
    have h2 : kk y2 = kk y := by
      rw [← bck_kr (hlen y2 hy2), ← bck_kr (hlen y hy)]
      unfold kr
      rw [h1.1, h1.2]
    have := nodup_inj inv.dis hy2 hy h2
    subst this
    exact hs
theorem GR.of (hc : ∀ r ∈ rs, canonR r) (hm : IsMerge (trn k rs) m) (hr : IsMerge ((grp ag m).map (bck k)) res) : GR k ag rs res := by
  have hmc : ∀ x ∈ m, canonR x := fun x hx => trn_can hc x (hm.sub x hx)
  have inv := grp_inv (ag := ag) hmc (fun x hx => (trn_ne x (hm.sub x hx)).1)
  have hlen := grp_len_ok (ag := ag) hc hm
  have hmem := res_mem (ag := ag) hc hm hr
  -- a row among the merged ones
  have hin : ∀ r ∈ rs, ∀ v, r.args[k]? = some v → ∃ x ∈ m, kk x = kr k r ∧ lastV x = v ∧ r.stamp ≤ x.stamp := fun r hr' v hv => by
    obtain ⟨x, hx, e, l⟩ := hm.all _ (mem_trn.2 ⟨r, hr', v, hv, rfl⟩)
    have h1 := canonR_eq (hmc x hx) (can_ahd (hc r hr') hv) e
    refine ⟨x, hx, ?_, ?_, l⟩
    · rw [← kk_ahd r k v]; unfold kk; rw [h1.1, h1.2]
    · rw [← last_ahd r k v]; unfold lastV; rw [h1.2]
  have hout : ∀ x ∈ m, ∃ r ∈ rs, ∃ v, r.args[k]? = some v ∧ kk x = kr k r ∧ lastV x = v ∧ x.stamp = r.stamp := fun x hx => by
    obtain ⟨r, hr', v, hv, rfl⟩ := mem_trn.1 (hm.sub x hx)
    exact ⟨r, hr', v, hv, kk_ahd _ _ _, last_ahd _ _ _, rfl⟩
  have hgv : ∀ y ∈ grp ag m, vr k (bck k y) = lastV y := fun y hy => vr_some (bck_get (hlen y hy))
  have hkv : ∀ r : Rw, k < r.args.length → ∃ v, r.args[k]? = some v := fun r h => ⟨_, List.getElem?_eq_getElem h⟩
  refine ⟨fun r hr' hk => ?_, fun g hg => ?_, ?_, fun g hg => ?_, fun g hg r hr' hk e => ?_, fun g hg => ?_, fun ea g hg => ?_, fun ea g hg => ?_⟩
  · obtain ⟨v, hv⟩ := hkv r hk
    obtain ⟨x, hx, e1, _⟩ := hin r hr' v hv
    obtain ⟨y, hy, e2⟩ := inv.all x hx
    exact ⟨bck k y, (hmem _).2 ⟨y, hy, rfl⟩, by rw [bck_kr (hlen y hy), ← e2, e1]⟩
  · obtain ⟨y, hy, rfl⟩ := (hmem g).1 hg
    rw [bck_len (hlen y hy)]; exact hlen y hy
  · unfold List.Nodup
    rw [List.pairwise_map]
    refine List.Pairwise.imp_of_mem (fun {a b} ha hb hab e => ?_) hr.up
    obtain ⟨y1, h1, rfl⟩ := (hmem a).1 ha
    obtain ⟨y2, h2, rfl⟩ := (hmem b).1 hb
    rw [bck_kr (hlen y1 h1), bck_kr (hlen y2 h2)] at e
    have := nodup_inj inv.dis h1 h2 e
    subst this
    rw [tri_row.refl] at hab
    omega
  · obtain ⟨y, hy, rfl⟩ := (hmem g).1 hg
    exact bck_can (inv.can y hy) (inv.ne y hy)
  · obtain ⟨y, hy, rfl⟩ := (hmem g).1 hg
    obtain ⟨v, hv⟩ := hkv r hk
    obtain ⟨x, hx, e1, _, l⟩ := hin r hr' v hv
    rw [bck_kr (hlen y hy)] at e
    have := inv.st1 y hy x hx (by rw [e1, e])
    show r.stamp ≤ y.stamp
    omega
  · obtain ⟨y, hy, rfl⟩ := (hmem g).1 hg
    obtain ⟨x, hx, e1, e2⟩ := inv.st2 y hy
    obtain ⟨r, hr', v, hv, f1, f2, f3⟩ := hout x hx
    exact ⟨r, hr', (List.getElem?_eq_some_iff.1 hv).1, by rw [bck_kr (hlen y hy), ← e1, f1], by rw [← f3, e2]; rfl⟩
  · obtain ⟨y, hy, rfl⟩ := (hmem g).1 hg
    obtain ⟨⟨x, hx, e1, e2⟩, hmin⟩ := inv.mn ea y hy
    obtain ⟨r, hr', v, hv, f1, f2, f3⟩ := hout x hx
    refine ⟨⟨r, hr', (List.getElem?_eq_some_iff.1 hv).1, by rw [bck_kr (hlen y hy), ← e1, f1], by rw [hgv y hy, vr_some hv, ← f2, e2]⟩, fun r' hr'' hk e => ?_⟩
    obtain ⟨v', hv'⟩ := hkv r' hk
    obtain ⟨x', hx', g1, g2, _⟩ := hin r' hr'' v' hv'
    rw [bck_kr (hlen y hy)] at e
    rw [hgv y hy, vr_some hv', ← g2]
    exact hmin x' hx' (by rw [g1, e])
  · obtain ⟨y, hy, rfl⟩ := (hmem g).1 hg
    obtain ⟨⟨x, hx, e1, e2⟩, hmax⟩ := inv.mx ea y hy
    obtain ⟨r, hr', v, hv, f1, f2, f3⟩ := hout x hx
    refine ⟨⟨r, hr', (List.getElem?_eq_some_iff.1 hv).1, by rw [bck_kr (hlen y hy), ← e1, f1], by rw [hgv y hy, vr_some hv, ← f2, e2]⟩, fun r' hr'' hk e => ?_⟩
    obtain ⟨v', hv'⟩ := hkv r' hk
    obtain ⟨x', hx', g1, g2, _⟩ := hin r' hr'' v' hv'
    rw [bck_kr (hlen y hy)] at e
    rw [hgv y hy, vr_some hv', ← g2]
    exact hmax x' hx' (by rw [g1, e])
end
/-- The laws' alike, of rows in one form. -/
theorem alikeK_iff {r s : Rw} {k : Nat} (hr : canonR r) (hs : canonR s) (hk : k < r.args.length) : alikeK r s k = true ↔ (k < s.args.length ∧ kr k r = kr k s) := by
  unfold alikeK kr
  simp only [Bool.and_eq_true, decide_eq_true_eq, Prod.mk.injEq]
  have hd : ∀ (t : Rw) (i : Nat) (h : i < t.args.length), t.args.getD i zeroV = t.args[i] := fun t i h => by rw [List.getD_eq_getElem?_getD, List.getElem?_eq_getElem h]; rfl
  constructor
  · rintro ⟨h1, h2, h3⟩
    refine ⟨by omega, h1, ?_⟩
    apply List.ext_getElem?
    intro i
    rw [List.getElem?_eraseIdx, List.getElem?_eraseIdx]
    have key : ∀ j, j ≠ k → r.args[j]? = s.args[j]? := fun j hj => by
      by_cases hl : j < r.args.length
      · have := h3 j hl hj
        rw [hd r j hl, hd s j (by omega)] at this
        rw [List.getElem?_eq_getElem hl, List.getElem?_eq_getElem (by omega), canon_eq (hr _ (List.getElem_mem _)) (hs _ (List.getElem_mem _)) this]
      · rw [List.getElem?_eq_none (by omega), List.getElem?_eq_none (by omega)]
    split
    · exact key i (by omega)
    · exact key (i + 1) (by omega)
  · rintro ⟨h1, h2, h3⟩
    have hl := congrArg List.length h3
    rw [List.length_eraseIdx, List.length_eraseIdx, if_pos hk, if_pos h1] at hl
    refine ⟨h2, by omega, fun i hi hik => ?_⟩
    have : r.args[i]? = s.args[i]? := by
      rcases Nat.lt_or_gt_of_ne hik with h | h
      · have := congrArg (fun l => l[i]?) h3
        simp only [List.getElem?_eraseIdx, if_pos h] at this
        exact this
      · have := congrArg (fun l => l[i - 1]?) h3
        simp only [List.getElem?_eraseIdx, if_neg (show ¬ i - 1 < k by omega), show i - 1 + 1 = i by omega] at this
        exact this
    rw [List.getD_eq_getElem?_getD, List.getD_eq_getElem?_getD, this]
    exact tri_val.refl _
end Go.Proofs.Ytenkobgeflckdaa
