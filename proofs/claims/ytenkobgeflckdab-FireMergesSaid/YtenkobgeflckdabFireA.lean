/- fire.Fire: rows by their names. -/
import Derived.Test.YtenkobgeflckdabFirP
set_option linter.unusedVariables false
set_option linter.unusedSimpArgs false
namespace Go.Proofs.Ytenkobgeflckdab
open Go.RowKit Go.Shelf

theorem mrg_get {w w' : World} {rs : List Rw} {e : Ending} (h : MrgPost w rs e w') : ∃ A c css out, e = .returned (.slice A out.length c) ∧ out.length ≤ c ∧ c ≤ maxLen ∧ out.length ≤ rs.length ∧ SrcAt w' A 3 css ∧ RowsCs w' css out ∧ IsMerge rs out ∧ New w w' ∧ ∀ a, A = some a → a.block < w'.heap.size ∧ w.heap.size ≤ a.block := by
  rcases h with ⟨rfl, rfl, hN⟩ | ⟨g, c, css, rest, rfl, h1, h2, h3, h4, hT, ⟨out, hr, hm⟩, hN⟩
  · exact ⟨none, 0, [], [], rfl, Nat.le_refl _, by unfold maxLen; omega, Nat.le_refl _, fun h => (by simp at h), ⟨rfl, fun i cs h => (by simp at h)⟩, merge_self List.Pairwise.nil, hN, fun a h => (by cases h)⟩
  · refine ⟨some ⟨g, 0, none⟩, c, css, out, by rw [hr.1], by rw [← hr.1]; exact h1, h2, by rw [← hr.1]; exact h3, fun hp => ⟨_, rfl, fun i cs hi => ⟨hT.k3 cs (List.mem_of_getElem? hi), ?_⟩⟩, hr.chg hN, hm, hN, fun a ha => ?_⟩
    · have := hT.get hi
      rwa [Addr.add_lit, Nat.zero_add]
    · cases ha
      exact ⟨hT.blk.lt, h4⟩

/-- Rows abide what writes no cells of theirs. -/
theorem RowsCs.chgT {w w' : World} {css : List (List Value)} {rs : List Rw} {T : Nat → Prop} (h : RowsCs w css rs) (hc : Chg w w' T) (ht : ∀ k, T k → ∃ es cl, w.heap[k]? = some (.map es cl)) : RowsCs w' css rs := ⟨h.1, fun i cs hi => by
  obtain ⟨r, hr, A, c, h1, h2, h3, h4, h5, h6⟩ := h.2 i cs hi
  refine ⟨r, hr, A, c, h1, h2, h3, h4, fun hp => ?_, fun a ha => Nat.lt_of_lt_of_le (h6 a ha) hc.size⟩
  obtain ⟨a, ha, hrw⟩ := h5 hp
  refine ⟨a, ha, hrw.chg hc (fun e => ?_)⟩
  obtain ⟨es, cl, hm⟩ := ht _ e
  obtain ⟨cs0, hcs⟩ : ∃ cs, (r.args.map vcs)[0]? = some cs := ⟨_, List.getElem?_eq_getElem hp⟩
  obtain ⟨hlen, hat⟩ := hrw 0 cs0 hcs
  obtain ⟨u, hu⟩ : ∃ u, cs0[0]? = some u := ⟨_, List.getElem?_eq_getElem (by omega)⟩
  have hce := hat 0 u hu
  unfold World.cell? at hce
  rw [add_block, add_block, hm] at hce
  cases hce⟩

/-- The cells of the rows of one name. -/
def selN (css : List (List Value)) (rs : List Rw) (nm : ByteArray) : List (List Value) := (css.zip rs).filterMap (fun p => if p.2.name = nm then some p.1 else none)
theorem selN_snoc {css : List (List Value)} {rs : List Rw} (hl : css.length = rs.length) (cs : List Value) (r : Rw) (nm : ByteArray) : selN (css ++ [cs]) (rs ++ [r]) nm = if r.name = nm then selN css rs nm ++ [cs] else selN css rs nm := by
  unfold selN
  rw [List.zip_append hl, List.filterMap_append]
  by_cases h : r.name = nm <;> simp [h]
theorem selN_cs {W : World} : ∀ {css : List (List Value)} {rs : List Rw}, RowsCs W css rs → ∀ nm, RowsCs W (selN css rs nm) (named rs nm)
  | [], [], h, nm => ⟨rfl, fun i cs hi => by simp [selN] at hi⟩
  | [], r :: rs, h, nm => by have := h.1; simp at this
  | cs :: css, [], h, nm => by have := h.1; simp at this
  | cs :: css, r :: rs, h, nm => by
    have ht : RowsCs W css rs := ⟨by have := h.1; simpa using this, fun i c hi => h.2 (i + 1) c (by simpa using hi)⟩
    have ih := selN_cs ht nm
    obtain ⟨r', hr', hrow⟩ := h.2 0 cs rfl
    cases hr'
    by_cases hn : r.name = nm
    · have e1 : selN (cs :: css) (r :: rs) nm = cs :: selN css rs nm := by simp [selN, hn]
      have e2 : named (r :: rs) nm = r :: named rs nm := by simp [named, hn]
      rw [e1, e2]
      refine ⟨by simp [ih.1], fun i c hi => ?_⟩
      cases i with
      | zero => cases hi; exact ⟨r, rfl, hrow⟩
      | succ i => obtain ⟨r', h1, h2⟩ := ih.2 i c (by simpa using hi); exact ⟨r', by simpa using h1, h2⟩
    · have e1 : selN (cs :: css) (r :: rs) nm = selN css rs nm := by simp [selN, hn]
      have e2 : named (r :: rs) nm = named rs nm := by simp [named, hn]
      rw [e1, e2]
      exact ih

/-- Rows by their names: each name's in a row of its own. -/
structure ByName (W : World) (B bm : Nat) (m : List (ByteArray × Value)) (css : List (List Value)) (rs : List Rw) : Prop where
  map : MapAt W bm m
  own : ∀ nm, Own W B 30 3 (lookM m nm) (selN css rs nm)
  apart : ∀ a b g, (lookM m a).ownBlock = some g → (lookM m b).ownBlock = some g → a = b
theorem ByName.new {W W' : World} {B bm : Nat} {m : List (ByteArray × Value)} {css : List (List Value)} {rs : List Rw} (h : ByName W B bm m css rs) (hc : New W W') : ByName W' B bm m css rs :=
  ⟨h.map.chg hc id, fun nm => (h.own nm).chg hc (fun _ _ x => x), h.apart⟩
theorem ByName.step {W W1 W2 : World} {B bm : Nat} {m m' : List (ByteArray × Value)} {css : List (List Value)} {rs : List Rw} (h : ByName W B bm m css rs) (hl : css.length = rs.length) (hbm : bm < B) {cs : List Value} {r : Rw} {v : Value}
    (hv : Own W1 B 30 3 v (selN css rs r.name ++ [cs])) (hc : Chg W W1 (fun k => (lookM m r.name).ownBlock = some k)) (hb : ∀ k, v.ownBlock = some k → (lookM m r.name).ownBlock = some k ∨ W.heap.size ≤ k)
    (hm : MapAt W2 bm m') (hlk : ∀ t, lookM m' t = if t = r.name then v else lookM m t) (hc2 : Chg W1 W2 (fun k => k = bm)) : ByName W2 B bm m' (css ++ [cs]) (rs ++ [r]) := by
  refine ⟨hm, fun nm => ?_, fun a b g ha hb' => ?_⟩
  · rw [hlk, selN_snoc hl]
    by_cases hn : nm = r.name
    · subst hn
      rw [if_pos rfl, if_pos rfl]
      exact hv.chg hc2 (fun g hg e => by have := (hv.lt hg).1; omega)
    · rw [if_neg hn, if_neg (fun e => hn e.symm)]
      have h1 := (h.own nm).chg hc (fun g hg e => hn (h.apart _ _ g hg e))
      exact h1.chg hc2 (fun g hg e => by have := (h1.lt hg).1; omega)
  · rw [hlk] at ha hb'
    have hlt : ∀ t g, (lookM m t).ownBlock = some g → g < W.heap.size := fun t g hg => ((h.own t).lt hg).2
    by_cases h1 : a = r.name
    · by_cases h2 : b = r.name
      · rw [h1, h2]
      · rw [if_pos h1] at ha
        rw [if_neg h2] at hb'
        rcases hb g ha with h3 | h3
        · exact absurd (h.apart _ _ g hb' h3) h2
        · have := hlt _ _ hb'; omega
    · rw [if_neg h1] at ha
      by_cases h2 : b = r.name
      · rw [if_pos h2] at hb'
        rcases hb g hb' with h3 | h3
        · exact absurd (h.apart _ _ g ha h3) h1
        · have := hlt _ _ ha; omega
      · rw [if_neg h2] at hb'
        exact h.apart _ _ g ha hb'
theorem ByName.dat {W : World} {B bm : Nat} {m : List (ByteArray × Value)} {css : List (List Value)} {rs : List Rw} (h : ByName W B bm m css rs) (hr : RowsCs W css rs) (hl : rs.length ≤ 1000000) (hok : ∀ r ∈ rs, ∀ v ∈ r.args, okW v) : Dat W bm m rs :=
  ⟨h.map, fun nm => (h.own nm).rowSl (selN_cs hr nm) (Nat.le_trans (List.length_filter_le _ _) hl), hok⟩
end Go.Proofs.Ytenkobgeflckdab
