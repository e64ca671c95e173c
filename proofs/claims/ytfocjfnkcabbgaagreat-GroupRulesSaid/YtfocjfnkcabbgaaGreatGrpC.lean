/- More of the state of group.Group's second loop. -/
import Derived.Test.YtfocjfnkcabbgaaGreatGrp1
import Derived.Test.YtfocjfnkcabbgaaGreatSlB
set_option linter.unusedVariables false
set_option linter.unusedSimpArgs false
namespace Go.Proofs.YtfocjfnkcabbgaaGreat
open Go.RowKit Go.Shelf

theorem merge_raw (w : World) (v : Value) (rs : List Rw) (h : RowSl w v rs) : Calls Tryz.prog 26 #[v] w (MergePost w rs) := by
  obtain ⟨A, c, css, rfl, h2, h3, h4, h5, h6, h7⟩ := h
  exact merge_rows w A c css rs h2 h3 h4 h5 h6 h7
theorem lastV_of {r : Rw} {l : List Vl} {z : Vl} (h : r.args = l ++ [z]) : lastV r = z := by unfold lastV; rw [h]; simp
theorem lastV_of' {r : Rw} {z : Vl} (h : r.args = r.args.dropLast ++ [z]) : lastV r = z := lastV_of h
section
variable {W W' : World} {B0 B i : Nat} {css cso : List (List Value)} {m gs : List Rw} {vs us : List Value} {vo : Value}
theorem GrpSt.next (h : GrpSt W B0 B css m vs i vo cso gs us) : GrpSt W B0 B css m vs (i + 1) vo cso gs us :=
  ⟨fun j cs hj => h.mrg j cs (by omega), h.out, h.len, h.row, h.up, fun q j u v a b hj => h.low q j u v a b (by omega), h.vup, h.blk, h.ublk⟩
theorem GrpSt.cs (h : GrpSt W B0 B css m vs i vo cso gs us) : RowsCs W cso gs := ⟨h.len.1, fun q cs hq => by
  have hlt := (List.getElem?_eq_some_iff.1 hq).1
  obtain ⟨r, hr⟩ : ∃ r, gs[q]? = some r := ⟨_, List.getElem?_eq_getElem (by rw [← h.len.1]; exact hlt)⟩
  obtain ⟨cs', v, e1, e2, e3⟩ := h.row q r hr
  rw [hq] at e1
  cases e1
  exact ⟨r, hr, e3.row⟩⟩
theorem GrpSt.start {g n c : Nat} {rest : List Value} (ht : OwnTab W B g n css rest m vs) (hv : vs.length = n) (hm : m.length = n) : GrpSt W W.heap.size B css m vs 0 (.slice none 0 0) [] [] [] where
  mrg := fun j cs _ hcs => by
    have hlt := (List.getElem?_eq_some_iff.1 hcs).1
    rw [ht.tab.len] at hlt
    obtain ⟨cs', r, e1, e2, e3⟩ := ht.own j vs[j] (List.getElem?_eq_getElem (by omega))
    rw [hcs] at e1
    cases e1
    exact ⟨r, _, e2, List.getElem?_eq_getElem (by omega), e3⟩
  out := Own.nil _ _ _ _
  len := ⟨rfl, rfl⟩
  row := fun q r h => by simp at h
  up := fun p q u v a b _ h => by simp at h
  low := fun q j u v a b _ h => by simp at h
  vup := ht.up
  blk := fun j v b hj hb => by
    obtain ⟨cs', r, e1, e2, e3⟩ := ht.own j v hj
    exact (e3.2.2.lt hb).2
  ublk := fun q u a h => by simp at h
theorem GrpSt.rows {B' : Nat} (h : GrpSt W B0 B css m vs i vo cso gs us) (hB : B' ≤ B) : RowsOwn W B' cso gs := ⟨h.len.1, fun q cs hq => by
  have hlt := (List.getElem?_eq_some_iff.1 hq).1
  obtain ⟨r, hr⟩ : ∃ r, gs[q]? = some r := ⟨_, List.getElem?_eq_getElem (by rw [← h.len.1]; exact hlt)⟩
  obtain ⟨cs', v, e1, e2, e3⟩ := h.row q r hr
  rw [hq] at e1
  cases e1
  exact ⟨r, v, hr, e3.1, e3.2.1, e3.2.2.base hB⟩⟩
end
theorem RowsOwn.set {W : World} {B : Nat} {cso : List (List Value)} {rs : List Rw} (h : RowsOwn W B cso rs) {i : Nat} {cs : List Value} {r : Rw} {v : Value} (hi : i < rs.length) (hr : OwnRow W B cs r v) : RowsOwn W B (cso.set i cs) (rs.set i r) := by
  refine ⟨by rw [List.length_set, List.length_set, h.1], fun q c hq => ?_⟩
  rw [List.getElem?_set] at hq
  by_cases he : i = q
  · subst he
    rw [if_pos rfl, if_pos (by rw [h.1]; exact hi)] at hq
    cases hq
    exact ⟨r, v, by rw [List.getElem?_set, if_pos rfl, if_pos hi], hr⟩
  · rw [if_neg he] at hq
    obtain ⟨r', v', h1, h2⟩ := h.2 q c hq
    exact ⟨r', v', by rw [List.getElem?_set, if_neg he]; exact h1, h2⟩
theorem mix_get {f : Rw → Rw} {gs : List Rw} {i : Nat} {r : Rw} (h : gs[i]? = some r) : ((gs.take i).map f ++ gs.drop i)[i]? = some r ∧ ((gs.take i).map f ++ gs.drop i).set i (f r) = (gs.take (i + 1)).map f ++ gs.drop (i + 1) := by
  have hlt := (List.getElem?_eq_some_iff.1 h).1
  have hl : ((gs.take i).map f).length = i := by rw [List.length_map, List.length_take]; omega
  have hd : gs.drop i = r :: gs.drop (i + 1) := by
    rw [List.drop_eq_getElem_cons hlt]
    congr 1
    rw [List.getElem?_eq_getElem hlt] at h
    exact Option.some.inj h
  constructor
  · rw [List.getElem?_append_right (by omega), hl, Nat.sub_self, hd]; rfl
  · rw [List.set_append_right _ _ (by omega), hl, Nat.sub_self, hd, take_succ_get h, List.map_append]
    simp
end Go.Proofs.YtfocjfnkcabbgaaGreat
