/- The groups over the rows as they were; they are one. -/
import Derived.Test.YtfocjfnkcabbgaaGreatGrpL
set_option linter.unusedVariables false
namespace Go.Proofs.YtfocjfnkcabbgaaGreat

def kr (k : Nat) (r : Rw) : ByteArray × List Vl := (r.name, r.args.eraseIdx k)
def vr (k : Nat) (r : Rw) : Vl := r.args.getD k zeroV
theorem kk_ahd (r : Rw) (k : Nat) (v : Vl) : kk (ahd r k v) = kr k r := kk_snoc _ _ _ _
theorem last_ahd (r : Rw) (k : Nat) (v : Vl) : lastV (ahd r k v) = v := lastV_snoc _ _ _ _
theorem mem_trn {k : Nat} {rs : List Rw} {x : Rw} : x ∈ trn k rs ↔ ∃ r ∈ rs, ∃ v, r.args[k]? = some v ∧ x = ahd r k v := by
  unfold trn
  rw [List.mem_filterMap]
  constructor
  · rintro ⟨r, hr, h⟩
    cases hv : r.args[k]? with
    | none => rw [hv] at h; cases h
    | some v => rw [hv] at h; exact ⟨r, hr, v, hv, (Option.some.inj h).symm⟩
  · rintro ⟨r, hr, v, hv, rfl⟩
    exact ⟨r, hr, by rw [hv]; rfl⟩
theorem can_ahd {r : Rw} {k : Nat} {v : Vl} (h : canonR r) (hv : r.args[k]? = some v) : canonR (ahd r k v) := fun u hu => by
  rcases List.mem_append.1 hu with h1 | h1
  · exact h u (List.mem_of_mem_eraseIdx h1)
  · rw [List.mem_singleton.1 h1]; exact h v (List.mem_of_getElem? hv)
theorem trn_can {k : Nat} {rs : List Rw} (h : ∀ r ∈ rs, canonR r) : ∀ x ∈ trn k rs, canonR x := fun x hx => by
  obtain ⟨r, hr, v, hv, rfl⟩ := mem_trn.1 hx
  exact can_ahd (h r hr) hv
theorem trn_ne {k : Nat} {rs : List Rw} : ∀ x ∈ trn k rs, x.args ≠ [] ∧ k < x.args.length := fun x hx => by
  obtain ⟨r, hr, v, hv, rfl⟩ := mem_trn.1 hx
  have hlt := (List.getElem?_eq_some_iff.1 hv).1
  constructor
  · unfold ahd; simp
  · show k < (r.args.eraseIdx k ++ [v]).length
    rw [List.length_append, List.length_eraseIdx, if_pos hlt]
    simp; omega
section
variable {k : Nat} {y : Rw}
theorem bck_args (k : Nat) (y : Rw) : (bck k y).args = y.args.dropLast.take k ++ lastV y :: y.args.dropLast.drop k := rfl
theorem bck_kr (hy : k < y.args.length) : kr k (bck k y) = kk y := by
  unfold kr kk
  rw [bck_args]
  have hl : (y.args.dropLast.take k).length = k := by rw [List.length_take, List.length_dropLast]; omega
  congr 1
  rw [List.eraseIdx_append_of_length_le (by omega), hl, Nat.sub_self]
  exact List.take_append_drop _ _
theorem bck_get (hy : k < y.args.length) : (bck k y).args[k]? = some (lastV y) := by
  rw [bck_args]
  have hl : (y.args.dropLast.take k).length = k := by rw [List.length_take, List.length_dropLast]; omega
  rw [List.getElem?_append_right (by omega), hl, Nat.sub_self]; rfl
theorem bck_len (hy : k < y.args.length) : (bck k y).args.length = y.args.length := by
  rw [bck_args, List.length_append, List.length_cons, List.length_take, List.length_drop, List.length_dropLast]
  omega
theorem bck_can (hc : canonR y) (hn : y.args ≠ []) : canonR (bck k y) := fun u hu => by
  rw [bck_args] at hu
  rcases List.mem_append.1 hu with h | h
  · exact hc u (List.dropLast_subset _ (List.mem_of_mem_take h))
  · rcases List.mem_cons.1 h with rfl | h
    · exact hc _ (lastV_mem hn)
    · exact hc u (List.dropLast_subset _ (List.mem_of_mem_drop h))
end
section
variable {k : Nat} {ag : Ag} {rs rs' m m' res res' : List Rw}
theorem grp_can (hc : ∀ r ∈ rs, canonR r) (hm : IsMerge (trn k rs) m) : ∀ z ∈ (grp ag m).map (bck k), canonR z := fun z hz => by
  obtain ⟨y, hy, rfl⟩ := List.mem_map.1 hz
  have inv := grp_inv (ag := ag) (fun x hx => trn_can hc x (hm.sub x hx)) (fun x hx => (trn_ne x (hm.sub x hx)).1)
  exact bck_can (inv.can y hy) (inv.ne y hy)
/-- Rows that merge to the same have the same groups. -/
theorem group_uniq (hc : ∀ r ∈ rs, canonR r) (hm : IsMerge (trn k rs) m) (hm' : IsMerge (trn k rs) m') (hr : IsMerge ((grp ag m).map (bck k)) res) (hr' : IsMerge ((grp ag m').map (bck k)) res') : res = res' := by
  have := merge_uniq (trn_can hc) hm hm'
  subst this
  exact merge_uniq (grp_can hc hm) hr hr'
end
end Go.Proofs.YtfocjfnkcabbgaaGreat
