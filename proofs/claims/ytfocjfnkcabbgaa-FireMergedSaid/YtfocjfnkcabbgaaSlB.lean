/- Slices of rows, in one form. -/
import Derived.Test.YtfocjfnkcabbgaaOrdP
import Derived.Test.YtfocjfnkcabbgaaMrgW
import Derived.Test.YtfocjfnkcabbgaaApp
import Derived.Test.YtfocjfnkcabbgaaOpenR
import Derived.Test.YtfocjfnkcabbgaaRaws
import Derived.Test.YtfocjfnkcabbgaaSameR
set_option linter.unusedVariables false
set_option linter.unusedSimpArgs false
namespace Go.Proofs.Ytfocjfnkcabbgaa
open Go.RowKit Go.Shelf

theorem merge_len {rs out : List Rw} (h : IsMerge rs out) : ∀ (k : Nat), rs.length ≤ k → out.length ≤ k := by
  have hnd : out.Nodup := h.up.imp (fun {a b} h e => by rw [e, tri_row.refl] at h; omega)
  have key : ∀ (l m : List Rw), l.Nodup → (∀ x ∈ l, x ∈ m) → l.length ≤ m.length := by
    intro l
    induction l with
    | nil => intro m _ _; exact Nat.zero_le _
    | cons x l ih =>
      intro m hn hs
      have hxm := hs x (by simp)
      have hn2 := List.nodup_cons.1 hn
      have := ih (m.erase x) hn2.2 (fun y hy => (List.mem_erase_of_ne (show y ≠ x by rintro rfl; exact hn2.1 hy)).2 (hs y (by simp [hy])))
      rw [List.length_erase_of_mem hxm] at this
      have hpos : 0 < m.length := List.length_pos_of_mem hxm
      simp only [List.length_cons]
      omega
  exact fun k hk => Nat.le_trans (key out rs hnd h.sub) hk

theorem blk_src {W : World} {g : Nat} {css : List (List Value)} (hb : Blk W g 45 css.flatten.toArray) (h3 : ∀ cs ∈ css, cs.length = 3) : SrcAt W (some ⟨g, 0, none⟩) 3 css := fun _ => ⟨_, rfl, fun i cs hi => ⟨h3 cs (List.mem_of_getElem? hi), fun j u hj => by
  rw [Addr.add_lit, Nat.zero_add, Addr.add_lit, hb.cell]
  have := flatten_get h3 hi hj
  simpa using this⟩⟩
theorem blk_rowsl {W : World} {g : Nat} {css : List (List Value)} {rs : List Rw} (hb : Blk W g 45 css.flatten.toArray) (hr : RowsCs W css rs) (hl : rs.length ≤ 1000000) : RowSl W (.slice (some ⟨g, 0, none⟩) rs.length rs.length) rs :=
  ⟨_, _, css, rfl, hl, Nat.le_refl _, by unfold maxLen; omega, blk_src hb hr.k3, hr, fun a ha => by cases ha; exact hb.lt⟩
theorem rowsCs_one {W : World} {cs : List Value} {r : Rw} (h : RowAt W cs r) : RowsCs W [cs] [r] := ⟨rfl, fun i c hi => by
  match i, hi with
  | 0, hi => cases hi; exact ⟨r, rfl, h⟩
  | i + 1, hi => simp at hi⟩
theorem RowsCs.snoc {w : World} {css : List (List Value)} {rs : List Rw} {cs : List Value} {r : Rw} (h : RowsCs w css rs) (hr : RowAt w cs r) : RowsCs w (css ++ [cs]) (rs ++ [r]) := by
  refine ⟨by simp [h.1], fun i c hi => ?_⟩
  by_cases hl : i < css.length
  · rw [List.getElem?_append_left hl] at hi
    obtain ⟨r', h1, h2⟩ := h.2 i c hi
    exact ⟨r', by rw [List.getElem?_append_left (by rw [← h.1]; exact hl)]; exact h1, h2⟩
  · rw [List.getElem?_append_right (by omega)] at hi
    have hz : i = css.length := by
      have := (List.getElem?_eq_some_iff.1 hi).1
      simp at this
      omega
    subst hz
    rw [Nat.sub_self] at hi
    obtain rfl : cs = c := by simpa using hi
    exact ⟨r, by rw [List.getElem?_append_right (by rw [h.1]; exact Nat.le_refl _), h.1, Nat.sub_self]; rfl, hr⟩

theorem OwnTab.src {W : World} {B g m : Nat} {css : List (List Value)} {rest : List Value} {out : List Rw} {vs : List Value} (h : OwnTab W B g m css rest out vs) : SrcAt W (some ⟨g, 0, none⟩) 3 css := fun _ => ⟨_, rfl, fun i cs hi => by
  refine ⟨h.tab.k3 cs (List.mem_of_getElem? hi), ?_⟩
  rw [Addr.add_lit, Nat.zero_add]
  exact h.tab.get hi⟩
theorem OwnTab.cs {W : World} {B g m : Nat} {css : List (List Value)} {rest : List Value} {out : List Rw} {vs : List Value} (h : OwnTab W B g m css rest out vs) (hv : vs.length = m) (ho : out.length = m) : RowsCs W css out := by
  refine ⟨by rw [h.tab.len, ho], fun i cs hi => ?_⟩
  have hl := (List.getElem?_eq_some_iff.1 hi).1
  rw [h.tab.len] at hl
  obtain ⟨cs', r, h1, h2, h3⟩ := h.own i vs[i] (List.getElem?_eq_getElem (by omega))
  rw [hi] at h1
  cases h1
  exact ⟨r, h2, h3.row⟩
theorem MergePost.rows {w w' : World} {rs : List Rw} {e : Ending} (h : MergePost w rs e w') : ∃ A c css out, e = .returned (.slice A out.length c) ∧ IsMerge rs out ∧ New w w' ∧ out.length ≤ c ∧ c ≤ maxLen ∧ SrcAt w' A 3 css ∧ RowsCs w' css out ∧ ∀ a, A = some a → a.block < w'.heap.size := by
  obtain ⟨out, h1, h2, h3⟩ := h
  rcases h3 with ⟨h3, h4⟩ | ⟨g, c, css, rest, vs, B, h3, h4, h5, h6, h7, h8⟩
  · subst h3
    exact ⟨none, 0, [], [], h4, h1, h2, Nat.le_refl _, Nat.zero_le _, fun h => absurd h (by simp), ⟨rfl, fun i cs h => by simp at h⟩, fun a h => by cases h⟩
  · exact ⟨_, c, css, out, h3, h1, h2, h4, h5, h8.src, h8.cs h7 rfl, fun a ha => by cases ha; exact h8.tab.blk.lt⟩
theorem rowsCs_two {W : World} {cs ds : List Value} {r s : Rw} (h : RowAt W cs r) (h' : RowAt W ds s) : RowsCs W [cs, ds] [r, s] := (rowsCs_one h).snoc h'

theorem row_two {W : World} {g : Nat} {nm : ByteArray} {u v : Vl} {st : Int} (hb : Blk W g 37 (vcs u ++ vcs v).toArray) : RowAt W [.string nm, .slice (some ⟨g, 0, none⟩) 2 2, .int .i64 st] ⟨nm, [u, v], st⟩ :=
  ⟨_, 2, rfl, by show 2 ≤ 1000; omega, Nat.le_refl _, by unfold maxLen; omega, fun _ => ⟨_, rfl, fun i cs hi => by
    match i, hi with
    | 0, hi => cases hi; exact ⟨rfl, fun j u hj => by rw [Nat.zero_mul, Addr.add_lit, Addr.add_lit, hb.cell, List.getElem?_toArray]; simp only [Nat.zero_add]; rw [List.getElem?_append_left (List.getElem?_eq_some_iff.1 hj).1]; exact hj⟩
    | 1, hi => cases hi; exact ⟨rfl, fun j u' hj => by
        rw [Addr.add_lit, Addr.add_lit, hb.cell, List.getElem?_toArray, List.getElem?_append_right (by show 4 ≤ _; omega)]
        rw [show 0 + 1 * 4 + j - (vcs u).length = j from by show 0 + 1 * 4 + j - 4 = j; omega]
        exact hj⟩
    | i + 2, hi => simp at hi⟩, fun a ha => by cases ha; exact hb.lt⟩

theorem IntsAt.chg {W W' : World} {v : Value} {k n : Nat} {X : Nat → Int} (h : IntsAt W v k n X) (hc : New W W') : IntsAt W' v k n X := by
  obtain ⟨⟨A, c, h1, h2, h3, h4⟩, h5⟩ := h
  refine ⟨⟨A, c, h1, h2, h3, fun hp => ?_⟩, h5⟩
  obtain ⟨a, ha, hq⟩ := h4 hp
  exact ⟨a, ha, fun q hq' => hc.cellS (hq q hq') id⟩
theorem RowSl.nil (W : World) : RowSl W (.slice none 0 0) [] := ⟨none, 0, [], rfl, by simp, Nat.le_refl _, Nat.zero_le _, fun h => absurd h (by simp), ⟨rfl, fun i cs h => by simp at h⟩, fun a h => by cases h⟩
theorem RowSl.form {W : World} {v : Value} {rs : List Rw} (h : RowSl W v rs) : ∃ A c, v = .slice A rs.length c ∧ rs.length ≤ 1000000 := by
  obtain ⟨A, c, css, h1, h2, _⟩ := h
  exact ⟨A, c, h1, h2⟩
theorem RowSl.form0 {W : World} {v : Value} (h : RowSl W v []) : ∃ A c, v = .slice A 0 c := by
  obtain ⟨A, c, h1, _⟩ := h.form
  exact ⟨A, c, h1⟩
/-- A row out of a slice. -/
theorem RowSl.row {W : World} {A : Option Addr} {n c : Nat} {rs : List Rw} (h : RowSl W (.slice A n c) rs) {i : Nat} {r : Rw} (hi : rs[i]? = some r) : ∃ a cs, A = some a ∧ At W (a.add (i * 3)) cs ∧ cs.length = 3 ∧ RowAt W cs r := by
  obtain ⟨A', c', css, h1, _, _, _, h5, h6, _⟩ := h
  simp only [Value.slice.injEq] at h1
  obtain ⟨rfl, rfl, rfl⟩ := h1
  have hlt := (List.getElem?_eq_some_iff.1 hi).1
  have hcs : css[i]? = some (css[i]'(by rw [h6.1]; exact hlt)) := List.getElem?_eq_getElem _
  obtain ⟨a, ha, hr⟩ := h5 (by rw [h6.1]; omega)
  obtain ⟨r', hr', hrow⟩ := h6.2 i _ hcs
  rw [hi] at hr'
  obtain rfl := Option.some.inj hr'
  exact ⟨a, _, ha, (hr i _ hcs).2, hrow.cs.1, hrow⟩
theorem rows_sl (w : World) (v : Value) (n : Nat) (X : Nat → Int) (hx : IntsAt w v 6 n X) :
    Calls Try.prog 6 #[v] w fun e w' => ∃ v' rs, e = .returned v' ∧ RowSl w' v' rs ∧ rs.length ≤ 40 ∧ (∀ r ∈ rs, Good r) ∧ New w w' := by
  refine (rows10 w v n X hx).mono ?_
  rintro e w' ⟨v', cso, rs, rfl, ho, hr, hl, hg, hN⟩
  exact ⟨v', rs, rfl, ho.rowSl hr.cs (by omega), hl, hg, hN⟩
theorem rows_own (w : World) (v : Value) (n : Nat) (X : Nat → Int) (hx : IntsAt w v 6 n X) :
    Calls Try.prog 6 #[v] w fun e w' => ∃ v' cso rs, e = .returned v' ∧ Own w' w.heap.size 45 3 v' cso ∧ RowsOwn w' w.heap.size cso rs ∧ rs.length ≤ 40 ∧ (∀ r ∈ rs, Good r) ∧ New w w' := (rows10 w v n X hx).mono (fun e w' h => h)
theorem merge_sl (w : World) (v : Value) (rs : List Rw) (h : RowSl w v rs) :
    Calls Try.prog 9 #[v] w fun e w' => ∃ v' out, e = .returned v' ∧ IsMerge rs out ∧ RowSl w' v' out ∧ New w w' := by
  obtain ⟨A, c, css, rfl, h2, h3, h4, h5, h6, h7⟩ := h
  refine (merge_rows w A c css rs h2 h3 h4 h5 h6 h7).mono ?_
  intro e w' hp
  obtain ⟨A', c', css', out, rfl, k1, k2, k3, k4, k5, k6, k7⟩ := hp.rows
  exact ⟨_, out, rfl, k1, ⟨A', c', css', rfl, merge_len k1 1000000 h2, k3, k4, k5, k6, k7⟩, k2⟩
theorem same_sl (w : World) (v1 v2 : Value) (rs : List Rw) (h1 : RowSl w v1 rs) (h2 : RowSl w v2 rs) :
    Calls Try.prog 8 #[v1, v2] w fun e w' => e = .returned (.bool true) ∧ New w w' := by
  obtain ⟨A, c, css, rfl, a2, a3, a4, a5, a6, a7⟩ := h1
  obtain ⟨B, d, dss, rfl, b2, b3, b4, b5, b6, b7⟩ := h2
  exact same_rows w A rs.length c B d css dss rs rfl (by omega) a5 b5 a6 b6
/-- A slice of rows, its cells named. -/
def RowSlC (w : World) (v : Value) (css : List (List Value)) (rs : List Rw) : Prop := ∃ A c, v = .slice A rs.length c ∧ rs.length ≤ 1000000 ∧ rs.length ≤ c ∧ c ≤ maxLen ∧ SrcAt w A 3 css ∧ RowsCs w css rs ∧ ∀ a, A = some a → a.block < w.heap.size
theorem RowSl.cells {w : World} {v : Value} {rs : List Rw} (h : RowSl w v rs) : ∃ css, RowSlC w v css rs := by
  obtain ⟨A, c, css, h⟩ := h
  exact ⟨css, A, c, h⟩
theorem RowSlC.sl {w : World} {v : Value} {css : List (List Value)} {rs : List Rw} (h : RowSlC w v css rs) : RowSl w v rs := by
  obtain ⟨A, c, h⟩ := h
  exact ⟨A, c, css, h⟩
theorem RowSlC.cs {w : World} {v : Value} {css : List (List Value)} {rs : List Rw} (h : RowSlC w v css rs) : RowsCs w css rs := by
  obtain ⟨A, c, _, _, _, _, _, h, _⟩ := h
  exact h
theorem RowSlC.chg {w w' : World} {v : Value} {css : List (List Value)} {rs : List Rw} (h : RowSlC w v css rs) (hc : New w w') : RowSlC w' v css rs := by
  obtain ⟨A, c, h1, h2, h3, h4, h5, h6, h7⟩ := h
  exact ⟨A, c, h1, h2, h3, h4, h5.chg hc (fun _ _ x => x), h6.chg hc, fun a ha => Nat.lt_of_lt_of_le (h7 a ha) hc.size⟩
/-- A slice of rows appended to one of the call's own. -/
theorem append_sl {B : Nat} {W : World} {v u : Value} {cso css : List (List Value)} {ss : List Rw} (ho : Own W B 45 3 v cso) (hB : B ≤ W.heap.size) (hu : RowSlC W u css ss) (hl : cso.length ≤ 1000000) (ty : TypeId) :
    ∃ v' W', (Builtin.append_ #[29, 29] ty #[v, u]).run Try.prog W = .ok v' W' ∧ Own W' B 45 3 v' (cso ++ css) ∧ Chg W W' (fun k => v.ownBlock = some k) ∧ ∀ k, v'.ownBlock = some k → v.ownBlock = some k ∨ W.heap.size ≤ k := by
  obtain ⟨A, c, rfl, h2, h3, h4, h5, h6, h7⟩ := hu
  exact elRow.appendS ho hB A ss.length c css h6.1.symm h6.k3 h6.one h5 (by omega) (by unfold maxLen; omega) ty
theorem RowsCs.app {w : World} {css dss : List (List Value)} {rs ss : List Rw} (h : RowsCs w css rs) (h' : RowsCs w dss ss) : RowsCs w (css ++ dss) (rs ++ ss) := by
  refine ⟨by simp [h.1, h'.1], fun i c hi => ?_⟩
  by_cases hl : i < css.length
  · rw [List.getElem?_append_left hl] at hi
    obtain ⟨r', h1, h2⟩ := h.2 i c hi
    exact ⟨r', by rw [List.getElem?_append_left (by rw [← h.1]; exact hl)]; exact h1, h2⟩
  · rw [List.getElem?_append_right (by omega)] at hi
    obtain ⟨r', h1, h2⟩ := h'.2 _ c hi
    exact ⟨r', by rw [List.getElem?_append_right (by rw [← h.1]; omega), ← h.1]; exact h1, h2⟩
/-- One slice of rows behind another, in memory of one's own. -/
theorem two_sl {W : World} {v u : Value} {rs ss : List Rw} (hv : RowSl W v rs) (hu : RowSl W u ss) (hl : rs.length + ss.length ≤ 1000000) (ty ty' : TypeId) :
    ∃ v1 W1 v2 W2, (Builtin.append_ #[29, 29] ty #[.slice none 0 0, v]).run Try.prog W = .ok v1 W1 ∧ (Builtin.append_ #[29, 29] ty' #[v1, u]).run Try.prog W1 = .ok v2 W2 ∧ New W W2 ∧ RowSl W2 v2 (rs ++ ss) := by
  obtain ⟨css, hv⟩ := hv.cells
  obtain ⟨dss, hu⟩ := hu.cells
  obtain ⟨v1, W1, hrun1, ho1, hc1, hb1⟩ := append_sl (Own.nil W W.heap.size 45 3) (Nat.le_refl _) hv (by simp) ty
  have hN1 : New W W1 := hc1.mono (fun k _ h => by cases h)
  rw [List.nil_append] at ho1
  obtain ⟨v2, W2, hrun2, ho2, hc2, hb2⟩ := append_sl ho1 hN1.size (hu.chg hN1) (by rw [hv.cs.1]; omega) ty'
  have hN2 : New W W2 := hN1.trans hc2 (fun k hk h => by
    have := (ho1.lt h).1
    omega)
  exact ⟨v1, W1, v2, W2, hrun1, hrun2, hN2, ho2.rowSl ((hv.cs.chg hN2).app (hu.cs.chg hN2)) (by rw [List.length_append]; exact hl)⟩
end Go.Proofs.Ytfocjfnkcabbgaa
