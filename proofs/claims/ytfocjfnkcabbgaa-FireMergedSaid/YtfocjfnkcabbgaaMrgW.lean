/- fire.merged: rows in order, each once; fire.fresh of a value without a list; fire.Merge. -/
import Derived.Test.YtfocjfnkcabbgaaCmpW
import Derived.Test.YtfocjfnkcabbgaaOrdP
import Derived.Test.YtfocjfnkcabbgaaSrtW
import Derived.Test.YtfocjfnkcabbgaaCloneW
set_option linter.unusedVariables false
set_option linter.unusedSimpArgs false
namespace Go.Proofs.Ytfocjfnkcabbgaa
open Go.RowKit Go.Shelf

/-- Rows, in cells. -/
def RowsCs (w : World) (css : List (List Value)) (rs : List Rw) : Prop := css.length = rs.length ∧ ∀ (i : Nat) (cs : List Value), css[i]? = some cs → ∃ r, rs[i]? = some r ∧ RowAt w cs r
theorem RowsCs.chg {w w' : World} {css : List (List Value)} {rs : List Rw} (h : RowsCs w css rs) (hc : New w w') : RowsCs w' css rs := ⟨h.1, fun i cs hi => by
  obtain ⟨r, h1, h2⟩ := h.2 i cs hi
  exact ⟨r, h1, h2.chg hc⟩⟩
theorem RowsCs.at_ {w : World} {css : List (List Value)} {rs : List Rw} (h : RowsCs w css rs) {cs : List Value} (hc : cs ∈ css) : RowAt w cs (rowOf w cs) := by
  obtain ⟨i, hi, rfl⟩ := List.getElem_of_mem hc
  obtain ⟨r, _, h2⟩ := h.2 i _ (List.getElem?_eq_getElem hi)
  rw [h2.of]
  exact h2
theorem RowsCs.map {w : World} {css : List (List Value)} {rs : List Rw} (h : RowsCs w css rs) : css.map (rowOf w) = rs := by
  apply List.ext_getElem?
  intro i
  rw [List.getElem?_map]
  cases hc : css[i]? with
  | none =>
    have h1 := List.getElem?_eq_none_iff.1 hc
    rw [List.getElem?_eq_none (by rw [← h.1]; exact h1)]
    rfl
  | some cs =>
    obtain ⟨r, h1, h2⟩ := h.2 i cs hc
    rw [h1, Option.map_some, h2.of]
theorem RowsCs.mk' {w : World} {css : List (List Value)} (h : ∀ cs ∈ css, RowAt w cs (rowOf w cs)) : RowsCs w css (css.map (rowOf w)) := ⟨by rw [List.length_map], fun i cs hi => ⟨_, by rw [List.getElem?_map, hi]; rfl, h cs (List.mem_of_getElem? hi)⟩⟩
theorem RowsCs.k3 {w : World} {css : List (List Value)} {rs : List Rw} (h : RowsCs w css rs) : ∀ cs ∈ css, cs.length = 3 := fun cs hc => (h.at_ hc).cs.1
theorem RowsCs.one {w : World} {css : List (List Value)} {rs : List Rw} (h : RowsCs w css rs) : ∀ cs ∈ css, ∀ u ∈ cs, u.oneCell' = true := fun cs hc => (h.at_ hc).cs.2

/-- A slice of rows. -/
def RowSl (w : World) (v : Value) (rs : List Rw) : Prop := ∃ A c css, v = .slice A rs.length c ∧ rs.length ≤ 1000000 ∧ rs.length ≤ c ∧ c ≤ maxLen ∧ SrcAt w A 3 css ∧ RowsCs w css rs ∧ ∀ a, A = some a → a.block < w.heap.size
theorem RowSl.chg {w w' : World} {v : Value} {rs : List Rw} (h : RowSl w v rs) (hc : New w w') : RowSl w' v rs := by
  obtain ⟨A, c, css, h1, h2, h3, h4, h5, h6, h7⟩ := h
  exact ⟨A, c, css, h1, h2, h3, h4, h5.chg hc (fun _ _ x => x), h6.chg hc, fun a ha => Nat.lt_of_lt_of_le (h7 a ha) hc.size⟩

/-- By what fire.merged sorts. -/
noncomputable def cfM (w : World) (x y : List Value) : Int := cmpM (rowOf w x) (rowOf w y)
noncomputable def qM (w : World) (y x : List Value) : Bool := eqR (rowOf w y) (rowOf w x)
theorem cfM_ordr (w : World) : Ordr (cfM w) := (tri_merge.pull (rowOf w)).ordr

/-- What fire.merged leaves: a table of its own. -/
def MrgTab (w : World) (rs : List Rw) (e : Ending) (w' : World) : Prop :=
  ∃ g c css rest, e = .returned (.slice (some ⟨g, 0, none⟩) css.length c) ∧ css.length ≤ c ∧ c ≤ maxLen ∧ css.length ≤ rs.length ∧ w.heap.size ≤ g ∧ Tab w' g css.length css rest ∧ (∃ out, RowsCs w css out ∧ IsMerge rs out) ∧ New w w'
def MrgPost (w : World) (rs : List Rw) (e : Ending) (w' : World) : Prop := (rs = [] ∧ e = .returned (.slice none 0 0) ∧ New w w') ∨ MrgTab w rs e w'

set_option maxHeartbeats 1000000 in
set_option maxRecDepth 100000 in
theorem ins_nil (w : World) (v : Value) : Calls Try.prog 53 #[.slice none 0 0, .int .i64 0, .int .i64 0, v] w fun e w' => e = .returned (.tuple #[]) ∧ New w w' := by
  go_enter Try.func53, Try.ntmps53
  go_wp2
  refine wp_loop_rounds 1 ?_
  rw [rounds_succ]
  go_wp2
  go_end0
  exact ⟨rfl, Chg.refl _ _⟩
set_option maxHeartbeats 1000000 in
set_option maxRecDepth 100000 in
theorem stable_nil (w : World) (v : Value) : Calls Try.prog 43 #[.slice none 0 0, .int .i64 0, v] w fun e w' => e = .returned (.tuple #[]) ∧ New w w' := by
  have hins := ins_nil w v
  have Hins := Lib.hid hins
  clear hins
  go_enter Try.func43, Try.ntmps43
  go_wp2
  refine wp_loop_rounds 1 ?_
  rw [rounds_succ]
  go_wp2_with fail
  refine Hins.out.mono ?_
  rintro e w' ⟨rfl, hc⟩
  have Hc := Lib.hid hc
  clear hc Hins
  go_wp2_with fail
  refine wp_loop_rounds 1 ?_
  rw [rounds_succ]
  go_wp2_with fail
  go_end0
  exact ⟨rfl, Hc.out⟩
set_option maxHeartbeats 1000000 in
set_option maxRecDepth 100000 in
theorem sort_nil (w : World) (v : Value) : Calls Try.prog 31 #[.slice none 0 0, v] w fun e w' => e = .returned (.tuple #[]) ∧ New w w' := by
  have hs := Lib.hid (stable_nil w v)
  go_enter Try.func31, Try.ntmps31
  go_wp2_with fail
  refine hs.out.mono ?_
  rintro e W ⟨rfl, h⟩
  have H := Lib.hid h
  clear h
  go_wp2_with fail
  go_end0
  exact ⟨rfl, H.out⟩
set_option maxHeartbeats 1000000 in
set_option maxRecDepth 100000 in
theorem cpt_nil (w : World) (v : Value) : Calls Try.prog 34 #[.slice none 0 0, v] w fun e w' => e = .returned (.slice none 0 0) ∧ w = w' := by
  go_enter Try.func34, Try.ntmps34
  go_wp2
  go_ret
  exact ⟨rfl, rfl⟩

set_option maxHeartbeats 4000000 in
set_option maxRecDepth 100000 in
theorem merged_rows (w : World) (A : Option Addr) (c : Nat) (css : List (List Value)) (rs : List Rw) (hl : rs.length ≤ 1000000) (hlc : rs.length ≤ c) (hcm : c ≤ maxLen) (hs : SrcAt w A 3 css) (hr : RowsCs w css rs) (ha : ∀ a, A = some a → a.block < w.heap.size) :
    Calls Try.prog 18 #[.slice A rs.length c] w (MrgPost w rs) := by
  have hcl := cloneRow w A rs.length c css hr.1.symm hs ha hr.one (by omega)
  have Hcl := Lib.hid hcl
  have HR := Lib.hid hr
  clear hcl hr hs ha
  have eg1 := enters_of Try.func32 (by kernel_rfl) rfl
  have eg2 := enters_of Try.func35 (by kernel_rfl) rfl
  have EG1 := Lib.hid eg1
  have EG2 := Lib.hid eg2
  clear eg1 eg2
  go_enter Try.func18, Try.ntmps18
  go_wp2_with fail
  refine Hcl.out.mono ?_
  rintro e w1 ⟨v, rfl, ho, hN1⟩
  rcases ho.1.2 with ⟨rfl, h0⟩ | ⟨g, cap, cur, rfl, hg0, hg, hnc, hcm2, hcs, ht⟩
  · have hn0 : rs = [] := by
      have h1 := ho.1.1
      obtain ⟨A', c', hv, _⟩ := ho.form
      simp only [Value.slice.injEq] at hv
      have h2 := HR.out.1
      exact List.eq_nil_of_length_eq_zero (by omega)
    have HN1 := Lib.hid hN1
    have Hn0 := Lib.hid hn0
    have Hs := Lib.hid (fun v => sort_nil w1 v)
    clear ho h0 hN1 hn0 Hcl
    go_wp2_with fail
    refine (Hs.out _).mono ?_
    rintro e w2 ⟨rfl, hN2⟩
    have HN2 := Lib.hid (HN1.out.trans hN2 (fun _ _ x => x))
    have Hc := Lib.hid (fun v => cpt_nil w2 v)
    clear hN2
    go_wp2_with fail
    refine (Hc.out _).mono ?_
    rintro e w3 ⟨rfl, rfl⟩
    go_wp2_with fail
    go_ret
    exact .inl ⟨Hn0.out, rfl, HN2.out⟩
  · have hn : css.length = rs.length := HR.out.1
    have hflat := flatten_len HR.out.k3
    have hT : Tab w1 g css.length css (cur.toList.drop (css.length * 3)) := by
      refine ⟨?_, rfl, fun cs hc => (HR.out.at_ hc).cs⟩
      rw [← ht, List.take_append_drop]
      exact hg
    have hcmp : CmpAt w1 g 32 #[] (cfM w) css := fun x hx y hy W hW => by
      have hNW : New w W := hN1.trans hW (fun k hk h => by omega)
      exact cmp_mrg W x y _ _ ((HR.out.at_ hx).chg hNW) ((HR.out.at_ hy).chg hNW)
    have hsort := sortRows w1 g css.length cap css _ hT (by omega) hnc 32 #[] EG1.out (cfM w) (cfM_ordr w) hcmp
    rw [hn] at hsort
    have Hsort := Lib.hid hsort
    have HN1 := Lib.hid hN1
    have Hg0 := Lib.hid hg0
    have hnc' : rs.length ≤ cap := by omega
    clear hsort hcmp hT ho hg hcs ht hflat Hcl hN1 hnc
    go_wp2_with fail
    refine Hsort.out.mono ?_
    rintro e w2 ⟨rfl, d2, hp2, hm2, hs2, hT2, hc2⟩
    have hNw : New w w2 := HN1.out.trans hc2 (fun k hk h => by have := Hg0.out; omega)
    have hat : ∀ x ∈ d2, RowAt w x (rowOf w x) := fun x hx => HR.out.at_ (hp2.mem_iff.1 hx)
    have heq : EqAt w2 g 35 #[] (qM w) d2 := fun x hx y hy W hW => by
      have hNW : New w W := hNw.trans hW (fun k hk h => by have := Hg0.out; omega)
      exact eq_mrg W x y _ _ ((hat x hx).chg hNW) ((hat y hy).chg hNW)
    have hcpt := cptRows w2 g rs.length cap d2 _ hT2 (by omega) hnc' 35 #[] EG2.out (qM w) heq
    have hlen2 : d2.length = rs.length := hT2.len
    have hout : (cptN (qM w) d2 rs.length).map (rowOf w) = cptN eqR (d2.map (rowOf w)) rs.length := cptN_map (q := qM w) (q' := eqR) (f := rowOf w) (fun x y => rfl) _
    have him : IsMerge rs ((cptN (qM w) d2 rs.length).map (rowOf w)) := by
      rw [hout, show rs.length = (d2.map (rowOf w)).length by rw [List.length_map, hlen2]]
      have hp3 : (d2.map (rowOf w)).Perm rs := by
        have := hp2.map (rowOf w)
        rw [HR.out.map] at this
        exact this
      refine IsMerge.perm (merge_cpt fun p q x y hpq hx hy => ?_) hp3
      rw [List.getElem?_map] at hx hy
      obtain ⟨u, hu, rfl⟩ := Option.map_eq_some_iff.1 hx
      obtain ⟨z, hz, rfl⟩ := Option.map_eq_some_iff.1 hy
      have h3 := hs2 p q u z (Nat.zero_le _) hpq (by rw [← hlen2]; exact (List.getElem?_eq_some_iff.1 hz).1) hu hz
      have h4 : ¬ cmpM (rowOf w z) (rowOf w u) < 0 := h3
      have := tri_merge.anti (rowOf w u) (rowOf w z)
      omega
    have hrc : RowsCs w (cptN (qM w) d2 rs.length) ((cptN (qM w) d2 rs.length).map (rowOf w)) := RowsCs.mk' (fun cs hc => hat cs (cptN_mem hc))
    have hle := cptN_le (q := qM w) (d := d2) rs.length
    have Hcpt := Lib.hid hcpt
    have Him := Lib.hid him
    have Hrc := Lib.hid hrc
    have HNw := Lib.hid hNw
    clear hcpt him hrc hNw heq hout hat hp2 hm2 hs2 hT2 hc2
    go_wp2_with fail
    refine Hcpt.out.mono ?_
    rintro e w3 ⟨rfl, ⟨rest', hT3⟩, hc3⟩
    have HT3 := Lib.hid hT3
    have HC3 := Lib.hid (HNw.out.trans hc3 (fun k hk h => by have := Hg0.out; omega))
    clear hT3 hc3
    go_wp2_with fail
    go_ret
    exact .inr ⟨g, cap, _, rest', rfl, by omega, hcm2, hle, Hg0.out, HT3.out, ⟨_, Hrc.out, Him.out⟩, HC3.out⟩
end Go.Proofs.Ytfocjfnkcabbgaa

set_option linter.unusedVariables false
set_option linter.unusedSimpArgs false
namespace Go.Proofs.Ytfocjfnkcabbgaa
open Go.RowKit Go.Shelf

theorem fresh_res (W : World) (tmps : Array Value) (N : Nat) (v : Vl) (h2 : tmps.getD 2 undef = .pointer (some ⟨N, 0, none⟩)) (hc : At W ⟨N, 0, none⟩ (vcs v)) :
    (results Try.f23 tmps).run Try.prog W = .ok (.agg (vcs v).toArray) W := by
  have hl := run_loadK (P := Try.prog) (w := W) stValue ⟨N, 0, none⟩ (vcs v) rfl hc
  rw [results_cell_one (p := 2) (ty := 37) (by rfl), h2]
  have ha : (asAddr (.pointer (some ⟨N, 0, none⟩))).run Try.prog W = .ok ⟨N, 0, none⟩ W := rfl
  rw [ha]
  simp only [Result.andThen_ok, hl]

set_option maxHeartbeats 2000000 in
set_option maxRecDepth 100000 in
theorem fresh_val (w : World) (v : Vl) : Calls Try.prog 23 #[.agg #[.int .i64 v.k, .int .i64 v.i, .string v.t, .slice none 0 0]] w fun e w' => e = .returned (.agg #[.int .i64 v.k, .int .i64 v.i, .string v.t, .slice none 0 0]) ∧ New w w' := by
  go_enter Try.func23, Try.ntmps23
  go_wp2_with fail
  refine bodyPost_ret (v := .agg (vcs v).toArray) (fresh_res _ _ (w.heap.size + 1) v rfl ?_) rfl ⟨rfl, ((Chg.refl w _).alloc _).alloc _⟩
  have := Blk.new (w.alloc (.cells #[.int .i64 v.k, .int .i64 v.i, .string v.t, .slice none 0 0] 37)) 37 #[.int .i64 v.k, .int .i64 v.i, .string v.t, .slice none 0 0]
  rw [World.size_alloc] at this
  exact this.at_
end Go.Proofs.Ytfocjfnkcabbgaa

set_option linter.unusedVariables false
set_option linter.unusedSimpArgs false
namespace Go.Proofs.Ytfocjfnkcabbgaa
open Go.RowKit Go.Shelf

/-- A row whose arguments lie in memory of the call's own, from block B on. -/
def OwnRow (W : World) (B : Nat) (cs : List Value) (r : Rw) (v : Value) : Prop := cs = [.string r.name, v, .int .i64 r.stamp] ∧ r.args.length ≤ 1000 ∧ Own W B 37 4 v (r.args.map vcs)
theorem OwnRow.chg {W W' : World} {B : Nat} {cs : List Value} {r : Rw} {v : Value} {T : Nat → Prop} (h : OwnRow W B cs r v) (hc : Chg W W' T) (hn : ∀ g, v.ownBlock = some g → ¬ T g) : OwnRow W' B cs r v := ⟨h.1, h.2.1, h.2.2.chg hc hn⟩
theorem OwnRow.row {W : World} {B : Nat} {cs : List Value} {r : Rw} {v : Value} (h : OwnRow W B cs r v) : RowAt W cs r := by
  obtain ⟨h1, h2, h3⟩ := h
  obtain ⟨A, c, hv, h4, h5⟩ := h3.form
  have hr := (h3.rows hv).2
  rw [List.length_map] at hv h4
  exact ⟨A, c, by rw [h1, hv], h2, h4, h5, hr, fun a ha => (h3.lt (g := a.block) (by rw [hv, ha]; rfl)).2⟩
/-- A table of such rows, the blocks rising. -/
structure OwnTab (W : World) (B g m : Nat) (css : List (List Value)) (rest : List Value) (out : List Rw) (vs : List Value) : Prop where
  tab : Tab W g m css rest
  gB : g < B
  len : vs.length ≤ m
  own : ∀ (i : Nat) (v : Value), vs[i]? = some v → ∃ cs r, css[i]? = some cs ∧ out[i]? = some r ∧ OwnRow W B cs r v
  up : ∀ (i j : Nat) (u v : Value) (a b : Nat), i < j → vs[i]? = some u → vs[j]? = some v → u.ownBlock = some a → v.ownBlock = some b → a < b


theorem Own.base {w : World} {b b' : Nat} {e : TypeId} {k : Nat} {v : Value} {css : List (List Value)} (h : Own w b' e k v css) (hb : b ≤ b') : Own w b e k v css := by
  obtain ⟨⟨h1, h2⟩, h3⟩ := h
  refine ⟨⟨h1, ?_⟩, h3⟩
  rcases h2 with h2 | ⟨g, cap, cur, g1, g2, g3⟩
  · exact .inl h2
  · exact .inr ⟨g, cap, cur, g1, Nat.le_trans hb g2, g3⟩
theorem lay_same {cur : Array Value} {o : Nat} {cs : List Value} (h : ∀ j u, cs[j]? = some u → cur[o + j]? = some u) : layA cur o cs = cur := by
  unfold layA lay
  apply Array.ext'
  have he : (cur.toList.drop o).take cs.length = cs := by
    apply List.ext_getElem?
    intro j
    rw [List.getElem?_take]
    by_cases hj : j < cs.length
    · rw [if_pos hj, List.getElem?_drop]
      have := h j cs[j] (List.getElem?_eq_getElem hj)
      rw [List.getElem?_eq_getElem hj]
      simpa using this
    · rw [if_neg hj, List.getElem?_eq_none (by omega)]
  simp only []
  rw [show o + cs.length = cs.length + o by omega, ← List.drop_drop, List.append_assoc]
  conv => lhs; rw [← he]
  rw [List.drop_drop] at *
  have h2 : (cur.toList.drop o).take cs.length ++ (cur.toList.drop o).drop cs.length = cur.toList.drop o := List.take_append_drop _ _
  rw [List.drop_drop] at h2
  simp only [he] at h2 ⊢
  first
    | (rw [show cs.length + o = o + cs.length by omega, h2, List.take_append_drop])
    | (rw [h2, List.take_append_drop])
theorem Tab.field {W : World} {g n : Nat} {e : List (List Value)} {rest : List Value} (h : Tab W g n e rest) {i : Nat} {a b c v : Value} (hi : e[i]? = some [a, b, c]) (hv : v.oneCell' = true) : Tab (W.setCell ⟨g, i * 3 + 1, none⟩ v) g n (e.set i [a, v, c]) rest := by
  have hlt := (List.getElem?_eq_some_iff.1 hi).1
  have hr := h.row _ (List.mem_of_getElem? hi)
  have hb := h.blk.setCell (i * 3 + 1) v
  have hl := lay_flat (rest := rest) (cs := [a, v, c]) h.k3 hlt rfl
  have he : (e.flatten ++ rest).toArray.setIfInBounds (i * 3 + 1) v = ((e.set i [a, v, c]).flatten ++ rest).toArray := by
    rw [← hl]
    unfold layA lay
    have hfl := flatten_len h.k3
    have g0 : (e.flatten ++ rest)[i * 3]? = some a := by
      have := flatten_get h.k3 hi (j := 0) rfl
      rw [List.getElem?_append_left (by rw [hfl]; omega)]; exact this
    have g2 : (e.flatten ++ rest)[i * 3 + 2]? = some c := by
      have := flatten_get h.k3 hi (j := 2) rfl
      rw [List.getElem?_append_left (by rw [hfl]; omega)]; exact this
    have hln : i * 3 + 3 ≤ (e.flatten ++ rest).length := by rw [List.length_append, hfl]; omega
    generalize e.flatten ++ rest = L at g0 g2 hln
    apply Array.ext'
    simp only [Array.toList_setIfInBounds]
    apply List.ext_getElem?
    intro p
    rw [List.getElem?_set]
    simp only [List.getElem?_append, List.length_append, List.length_take, List.length_cons, List.length_nil, List.getElem?_take, List.getElem?_drop, Nat.min_eq_left (show i * 3 ≤ L.length by omega)]
    by_cases c1 : p < i * 3
    · rw [if_neg (by omega), if_pos (by omega), if_pos c1, if_pos c1]
    · by_cases c2 : p < i * 3 + 3
      · rw [if_pos (show p < i * 3 + (0 + 1 + 1 + 1) by omega), if_neg c1]
        rcases (show p = i * 3 ∨ p = i * 3 + 1 ∨ p = i * 3 + 2 by omega) with rfl | rfl | rfl
        · rw [if_neg (by omega), Nat.sub_self, g0]; rfl
        · rw [if_pos rfl, if_pos (by omega), show i * 3 + 1 - i * 3 = 1 by omega]; rfl
        · rw [if_neg (by omega), show i * 3 + 2 - i * 3 = 2 by omega, g2]; rfl
      · rw [if_neg (by omega), if_neg (by omega)]
        congr 1
        omega
  rw [he] at hb
  refine ⟨hb, by rw [List.length_set, h.len], fun cs hc => ?_⟩
  rcases List.mem_or_eq_of_mem_set hc with h1 | h1
  · exact h.row cs h1
  · rw [h1]
    refine ⟨rfl, fun u hu => ?_⟩
    simp only [List.mem_cons, List.not_mem_nil, or_false] at hu
    rcases hu with rfl | rfl | rfl
    · exact hr.2 _ (by simp)
    · exact hv
    · exact hr.2 _ (by simp)

/-- What fire.Merge leaves. -/
def MergePost (w : World) (rs : List Rw) (e : Ending) (w' : World) : Prop :=
  ∃ out, IsMerge rs out ∧ New w w' ∧ ((out = [] ∧ e = .returned (.slice none 0 0)) ∨ ∃ g c css rest vs B, e = .returned (.slice (some ⟨g, 0, none⟩) out.length c) ∧ out.length ≤ c ∧ c ≤ maxLen ∧ w.heap.size ≤ g ∧ vs.length = out.length ∧ OwnTab w' B g out.length css rest out vs)

set_option maxHeartbeats 4000000 in
set_option maxRecDepth 100000 in
theorem merge_rows (w : World) (A : Option Addr) (c : Nat) (css : List (List Value)) (rs : List Rw) (hl : rs.length ≤ 1000000) (hlc : rs.length ≤ c) (hcm : c ≤ maxLen) (hs : SrcAt w A 3 css) (hr : RowsCs w css rs) (ha : ∀ a, A = some a → a.block < w.heap.size) :
    Calls Try.prog 9 #[.slice A rs.length c] w (MergePost w rs) := by
  have Hm := Lib.hid (merged_rows w A c css rs hl hlc hcm hs hr ha)
  clear hs hr ha
  go_enter Try.func9, Try.ntmps9
  go_wp2_with fail
  refine Hm.out.mono ?_
  rintro e w1 (⟨hn, rfl, hN⟩ | ⟨g, cap, cs0, rest, rfl, hlc2, hcm2, hmr0, hg, hT, ⟨out, hrc, him⟩, hN⟩)
  · have Hn := Lib.hid hn
    have HN := Lib.hid hN
    clear hn hN Hm
    go_wp2_with fail
    refine wp_loop_rounds 1 ?_
    rw [rounds_succ]
    go_wp2_with fail
    go_ret
    exact ⟨[], ⟨List.Pairwise.nil, fun r h => (by cases h), fun r h => (by rw [Hn.out] at h; cases h)⟩, HN.out, .inl ⟨rfl, rfl⟩⟩
  · obtain ⟨m, hm⟩ : ∃ m, cs0.length = m := ⟨_, rfl⟩
    rw [hm] at hT hlc2
    have hom : out.length = m := by rw [← hrc.1, hm]
    obtain ⟨B, hB⟩ : ∃ B, B = w1.heap.size := ⟨_, rfl⟩
    have hgB : g < B := by rw [hB]; exact hT.blk.lt
    have hmr : m ≤ 1000000 := by omega
    have HT := Lib.hid hT
    have Hrc := Lib.hid hrc
    have Him := Lib.hid him
    have HN := Lib.hid hN
    have HB := Lib.hid hB
    have Hg := Lib.hid hg
    rw [hm]
    have Hom := Lib.hid hom
    clear hm hT hrc him hN hB hg Hm hom
    go_wp2_with fail
    go_loopw [11] (fun u11 wr => ∃ (k : Nat) (css : List (List Value)) (vs : List Value), k ≤ m ∧ u11 = .int .i64 k ∧ vs.length = k ∧ (∀ i, k ≤ i → css[i]? = cs0[i]?) ∧ OwnTab wr B g m css rest out vs ∧ Chg w1 wr (fun q => q = g)) (fun u _ => m - (intOf u).toNat)
    case atStart => exact ⟨0, cs0, [], Nat.zero_le _, rfl, rfl, fun i _ => rfl, ⟨HT.out, hgB, Nat.zero_le _, fun i v h => by simp at h, fun i j u v a b _ h => by simp at h⟩, Chg.refl _ _⟩
    case round =>
      obtain ⟨k, css, vs, hk, rfl, hvl, hsame, hot, hch⟩ := hrel
      have HS := Lib.hid hsame
      have HO := Lib.hid hot
      have HC := Lib.hid hch
      have Hvl2 := Lib.hid hvl
      clear hsame hot hch hvl
      by_cases hlt : k < m
      · have hNw : New w wr := HN.out.trans HC.out (fun q hq h => by have := Hg.out; omega)
        obtain ⟨cs, hcs0⟩ : ∃ cs, cs0[k]? = some cs := ⟨_, List.getElem?_eq_getElem (by rw [Hrc.out.1, Hom.out]; exact hlt)⟩
        obtain ⟨r, hro, hrow⟩ := Hrc.out.2 k cs hcs0
        obtain ⟨A3, c3, rfl, a1, a2, a3, a4, a5⟩ := hrow.chg hNw
        have hcs : css[k]? = some [.string r.name, .slice A3 r.args.length c3, .int .i64 r.stamp] := by rw [HS.out k (Nat.le_refl _)]; exact hcs0
        have hcl := cloneValue wr A3 r.args.length c3 (r.args.map vcs) (by rw [List.length_map]) a4 a5 (vcs_one _) (by omega)
        obtain ⟨nv, hnv⟩ : ∃ nv, r.args.length = nv := ⟨_, rfl⟩
        have c1 := HO.out.tab.get hcs 1 (.slice A3 r.args.length c3) rfl
        rw [Addr.add_lit] at c1
        rw [hnv] at hcl c1 a1
        have hfr : wr.frozen? ⟨g, k * 3 + 1, none⟩ = false := HO.out.tab.blk.frozen _
        have Hcl := Lib.hid hcl
        have Hcs := Lib.hid hcs
        have Hro := Lib.hid hro
        have Hnv := Lib.hid hnv
        have Hfr := Lib.hid hfr
        have HBw := Lib.hid (show B ≤ wr.heap.size from by rw [HB.out]; exact HC.out.size)
        clear hNw hcs0 hro hrow a4 a5 hcs hcl hnv hfr
        have k0 : (0 : Int) ≤ (k : Int) := by omega
        have k1 : (k : Int) < (m : Int) := by omega
        go_wp2_with fail
        refine Hcl.out.mono ?_
        rintro e w2 ⟨v, rfl, hov, hN2⟩
        obtain ⟨A4, c4, hv, hvl, hvc⟩ := hov.form
        rw [List.length_map, Hnv.out] at hv hvl
        have hT2 := (HO.out.tab.chg hN2 id).field Hcs.out (v := v) (by rw [hv]; rfl)
        have e1 : w2.cell? ⟨g, k * 3 + 1, none⟩ = some (.slice A3 nv c3) := hN2.cellS c1 id
        have e2 : w2.frozen? ⟨g, k * 3 + 1, none⟩ = false := (HO.out.tab.chg hN2 id).blk.frozen _
        obtain ⟨w3, hw3⟩ : ∃ w3, w3 = w2.setCell ⟨g, k * 3 + 1, none⟩ v := ⟨_, rfl⟩
        have hC3 : Chg wr w3 (fun q => q = g) := by rw [hw3]; exact (hN2.mono (fun _ _ x => x.elim)).setCell _ _ (fun _ => rfl)
        have hC23 : Chg w2 w3 (fun q => q = g) := by rw [hw3]; exact (Chg.refl _ _).setCell _ _ (fun _ => rfl)
        rw [← hw3] at hT2
        have hgw : g < wr.heap.size := Nat.lt_of_lt_of_le hgB HBw.out
        have hvg : v.ownBlock ≠ some g := fun e => by have := (hov.lt e).1; omega
        have hO3 : Own w3 wr.heap.size 37 4 v (r.args.map vcs) := hov.chg hC23 (fun q hq e => hvg (by rw [hq, e]))
        have f1 : w3.cell? ⟨g, k * 3 + 1, none⟩ = some v := by
          have := hT2.get (i := k) (cs := [.string r.name, v, .int .i64 r.stamp]) (by rw [List.getElem?_set_self]; exact (List.getElem?_eq_some_iff.1 Hcs.out).1) 1 v rfl
          rw [Addr.add_lit] at this
          exact this
        have HT3 := Lib.hid hT2
        have HO3 := Lib.hid hO3
        have HC3 := Lib.hid hC3
        have HW3 := Lib.hid hw3
        have Hv := Lib.hid hv
        rw [hv]
        rw [hv] at f1 hw3
        have HW3b := Lib.hid hw3
        clear hT2 hO3 hC3 hw3 hov hN2 hC23 hvg Hcl hv
        go_upto_region 6 with fail
        rw [← HW3b.out]
        clear e1 e2 c1
        go_wp2_with fail
        go_loopw [30] (fun u30 wx => ∃ kk : Nat, kk ≤ nv ∧ u30 = .int .i64 kk ∧ New w3 wx) (fun u _ => nv - (intOf u).toNat)
        case atStart => exact ⟨0, Nat.zero_le _, rfl, Chg.refl _ _⟩
        case round =>
          obtain ⟨kk, hkk, rfl, hNx⟩ := hrel
          have HNx := Lib.hid hNx
          clear hNx
          by_cases hlt2 : kk < nv
          · obtain ⟨gv, hA4, hcv⟩ : ∃ gv, A4 = some ⟨gv, 0, none⟩ ∧ ∃ cur, Blk w3 gv 37 cur ∧ nv * 4 ≤ cur.size ∧ v.ownBlock = some gv := by
              rcases HO3.out.1.2 with ⟨h1, h2⟩ | ⟨gv, cap2, cur, h1, _, h3, h4, _, h6, _⟩
              · exfalso
                rw [Hv.out] at h1
                simp only [Value.slice.injEq] at h1
                omega
              · have h1' := h1
                rw [Hv.out] at h1
                simp only [Value.slice.injEq] at h1
                refine ⟨gv, h1.1, cur, h3, ?_, by rw [h1']; rfl⟩
                rw [h6]
                have := h1.2.1
                omega
            obtain ⟨cur, hBv, hsz, hvb⟩ := hcv
            subst hA4
            obtain ⟨x, hx⟩ : ∃ x, r.args[kk]? = some x := ⟨_, List.getElem?_eq_getElem (by rw [Hnv.out]; exact hlt2)⟩
            obtain ⟨a, ha, hra⟩ := (HO3.out.rows Hv.out).2 (by rw [List.length_map, Hnv.out]; omega)
            obtain rfl := Option.some.inj ha
            have hat3 := (hra kk (vcs x) (by rw [List.getElem?_map, hx]; rfl)).2
            rw [Addr.add_lit, Nat.zero_add] at hat3
            have hat := hat3.chg HNx.out id
            change At _ _ [.int .i64 x.k, .int .i64 x.i, .string x.t, .slice none 0 0] at hat
            obtain ⟨w4, hw4⟩ : ∃ w4, w4 = wr.alloc (.cells #[.int .i64 x.k, .int .i64 x.i, .string x.t, .slice none 0 0] 37) := ⟨_, rfl⟩
            have hN4 : New wr w4 := by rw [hw4]; exact (Chg.refl _ _).alloc _
            have hB4 : Blk w4 wr.heap.size 37 (vcs x).toArray := by rw [hw4]; exact Blk.new wr _ _
            have hN3d : New w3 w4.drew := (HNx.out.trans hN4 (fun _ _ x => x)).drew
            have HNd := Lib.hid hN3d
            have HBd := Lib.hid (hB4.chg ((Chg.refl w4 (fun _ => False)).drew) id)
            have Hat := Lib.hid hat
            have Hat3 := Lib.hid hat3
            have HBv := Lib.hid hBv
            have HW4 := Lib.hid hw4
            have Hf1 := Lib.hid f1
            have hfv := Lib.hid (fun W => fresh_val W x)
            obtain ⟨bx, hbx⟩ : ∃ bx, wr.heap.size = bx := ⟨_, rfl⟩
            rw [hbx] at HBd
            have Hbx := Lib.hid hbx
            have k2 : (0 : Int) ≤ (kk : Int) := by omega
            have k3 : (kk : Int) < (nv : Int) := by omega
            clear hx hra ha hat3 hat hw4 hN4 hB4 hN3d hBv f1 hbx
            go_upto_region 9 with ((with_reducible refine wpl_load rfl (.tmp 33) 37 rfl stVal4 ⟨gv, kk * 4, none⟩ [.int .i64 x.k, .int .i64 x.i, .string x.t, .slice none 0 0] ?_ rfl Hat.out ?_); exact rfl)
            rw [← HW4.out, Hbx.out]
            have eg := enters_of Try.func23 (by kernel_rfl) rfl
            unfold Enters at eg
            refine wp_region_at (by kernel_rfl) ?_
            generalize w4.drew = wd at HNd HBd ⊢
            clear HW4 Hbx
            refine AtN.segN2 0 8 [35, 36, 37, 38, 39, 40, 41, 42] (fun
              | 0 => fun v _ => v = .slice (some ⟨g, 0, none⟩) m cap
              | 1 => fun v _ => v = .int .i64 k
              | 2 => fun v _ => v = .pointer (some ⟨g, k * 3, none⟩)
              | 3 => fun v _ => v = .pointer (some ⟨g, k * 3 + 1, none⟩)
              | 4 => fun v _ => v = .slice (some ⟨gv, 0, none⟩) nv c4
              | 5 => fun v _ => v = .int .i64 kk
              | 6 => fun v _ => v = .agg #[.int .i64 x.k, .int .i64 x.i, .string x.t, .slice none 0 0]
              | 7 => fun v _ => v = .agg #[.int .i64 x.k, .int .i64 x.i, .string x.t, .slice none 0 0]
              | _ => fun _ _ => True) (by kernel_rfl) (by kernel_rfl) (by kernel_rfl) (by kernel_rfl) (fun j v w1 w2 hc h => ?_) (fun i hn hi o ho A0 W hN hin hk => ?_) (fun l W5 hN hl hΦ => ?_)
            · match j with
              | 0 | 1 | 2 | 3 | 4 | 5 | 6 | 7 => exact h
              | _ + 8 => trivial
            · rcases (show i = 0 ∨ i = 1 ∨ i = 2 ∨ i = 3 ∨ i = 4 ∨ i = 5 ∨ i = 6 ∨ i = 7 by omega) with rfl | rfl | rfl | rfl | rfl | rfl | rfl | rfl
              · cases ho
                exact .same (exec_move 3 _ rfl (hk 3 (by kernel_rfl))) rfl
              · cases ho
                exact .same (exec_move 4 _ rfl (hk 4 (by kernel_rfl))) rfl
              · cases ho
                have h35 : A0.tmps[35]?.getD undef = .slice (some ⟨g, 0, none⟩) m cap := hin 0 35 (by kernel_rfl)
                have h36 : A0.tmps[36]?.getD undef = .int .i64 k := hin 1 36 (by kernel_rfl)
                exact .same (by simp [go_sem, h35, h36, k0, k1, hlt]) rfl
              · cases ho
                have h37 : A0.tmps[37]?.getD undef = .pointer (some ⟨g, k * 3, none⟩) := hin 2 37 (by kernel_rfl)
                exact .same (by simp [go_sem, h37]) rfl
              · cases ho
                have h38 : A0.tmps[38]?.getD undef = .pointer (some ⟨g, k * 3 + 1, none⟩) := hin 3 38 (by kernel_rfl)
                have hc : W.cell? ⟨g, k * 3 + 1, none⟩ = some (.slice (some ⟨gv, 0, none⟩) nv c4) := (HNd.out.trans hN (fun _ _ x => x)).cellS Hf1.out id
                exact .same (by simp [go_sem, h38, hc]) rfl
              · cases ho
                exact .same (exec_move 5 _ rfl (hk 5 (by kernel_rfl))) rfl
              · cases ho
                have h6 : A0.tmps[6]?.getD undef = .pointer (some ⟨bx, 0, none⟩) := hk 6 (by kernel_rfl)
                exact .same (exec_load 6 _ rfl stVal4 ⟨bx, 0, none⟩ (vcs x) h6 rfl ((HBd.out.chg hN id).at_)) rfl
              · cases ho
                have h41 : A0.tmps[41]?.getD undef = .agg #[.int .i64 x.k, .int .i64 x.i, .string x.t, .slice none 0 0] := hin 6 41 (by kernel_rfl)
                refine .enter (f := 23) (args := #[.agg #[.int .i64 x.k, .int .i64 x.i, .string x.t, .slice none 0 0]]) (v := .agg #[.int .i64 x.k, .int .i64 x.i, .string x.t, .slice none 0 0]) ?_ ((hfv.out W).mono ?_)
                · simp [go_sem, h41, eg]
                · rintro e w' ⟨rfl, hc⟩
                  exact ⟨rfl, hc, rfl⟩
            obtain ⟨x35, x36, x37, x38, x39, x40, x41, x42, rfl⟩ : ∃ x35 x36 x37 x38 x39 x40 x41 x42, l = [x35, x36, x37, x38, x39, x40, x41, x42] := by
              match l, hl with
              | [x35, x36, x37, x38, x39, x40, x41, x42], _ => exact ⟨_, _, _, _, _, _, _, _, rfl⟩
            obtain rfl : x35 = .slice (some ⟨g, 0, none⟩) m cap := hΦ 0 (by decide)
            obtain rfl : x36 = .int .i64 k := hΦ 1 (by decide)
            obtain rfl : x37 = .pointer (some ⟨g, k * 3, none⟩) := hΦ 2 (by decide)
            obtain rfl : x38 = .pointer (some ⟨g, k * 3 + 1, none⟩) := hΦ 3 (by decide)
            obtain rfl : x39 = .slice (some ⟨gv, 0, none⟩) nv c4 := hΦ 4 (by decide)
            obtain rfl : x40 = .int .i64 kk := hΦ 5 (by decide)
            obtain rfl : x41 = .agg #[.int .i64 x.k, .int .i64 x.i, .string x.t, .slice none 0 0] := hΦ 6 (by decide)
            obtain rfl : x42 = .agg #[.int .i64 x.k, .int .i64 x.i, .string x.t, .slice none 0 0] := hΦ 7 (by decide)
            simp only [putsL, List.zip_cons_cons, List.zip_nil_left, List.zip_nil_right, List.zip, List.zipWith, Act.put, List.setIfInBounds_toArray, List.set_cons_succ, List.set_cons_zero]
            clear hΦ hl
            refine AtN.list 8 9 (by kernel_rfl) ?_
            change wpList _ _ _ [_] _ _
            go_wp2_with fail
            change AtN _ _ _ 9 _ _
            refine AtN.list 9 10 (by kernel_rfl) ?_
            change wpList _ _ _ [_] _ _
            have hNW := HNd.out.trans hN (fun _ _ x => x)
            have hbl := HBv.out.chg hNW id
            have hlay : layA cur (kk * 4) (vcs x) = cur := lay_same (fun j u hj => by
              have h1 := Hat3.out j u hj
              rw [Addr.add_lit] at h1
              rw [← HBv.out.cell]
              exact h1)
            have hself : W5.setRow gv (layA cur (kk * 4) (vcs x)) = W5 := by rw [hlay]; exact setRow_self W5 gv cur _ (0, 0) hbl
            refine wpl_store rfl (.tmp 43) (.tmp 42) 37 rfl stVal4 gv (kk * 4) 37 cur (vcs x) rfl rfl hbl rfl (by omega) (fun u hu => by
              simp only [vcs, List.mem_cons, List.not_mem_nil, or_false] at hu
              rcases hu with rfl | rfl | rfl | rfl <;> rfl) ?_
            rw [hself]
            have HNf := Lib.hid hNW
            clear hNW hbl hlay hself hN
            refine AtN.done rfl ?_
            simp only [Act.put]
            go_wp2_with fail
            go_roundw
            case rel => exact ⟨kk + 1, by omega, by go_num, HNf.out⟩
            case measure => simp only [intOf]; omega
          · have hlen : k < css.length := (List.getElem?_eq_some_iff.1 Hcs.out).1
            have hot : OwnTab wr B g m (css.set k [.string r.name, v, .int .i64 r.stamp]) rest out (vs ++ [v]) := by
              refine ⟨HT3.out.chg HNx.out id, hgB, by rw [List.length_append, Hvl2.out]; simp; omega, fun i u hi => ?_, fun i j u z p q hij hu hz hp hq => ?_⟩
              · by_cases hik : i < k
                · rw [List.getElem?_append_left (by rw [Hvl2.out]; exact hik)] at hi
                  obtain ⟨cs, r', h1, h2, h3⟩ := HO.out.own i u hi
                  refine ⟨cs, r', by rw [List.getElem?_set_ne (by omega)]; exact h1, h2, (h3.chg HC3.out (fun q hq e => ?_)).chg HNx.out (fun _ _ x => x)⟩
                  have := (h3.2.2.lt hq).1
                  omega
                · rw [List.getElem?_append_right (by rw [Hvl2.out]; omega), Hvl2.out] at hi
                  have hik2 : i = k := by
                    have := (List.getElem?_eq_some_iff.1 hi).1
                    simp at this
                    omega
                  subst hik2
                  rw [Nat.sub_self] at hi
                  obtain rfl : v = u := by simpa using hi
                  exact ⟨_, r, by rw [List.getElem?_set_self hlen], Hro.out, rfl, by rw [Hnv.out]; exact a1, ((HO3.out.base HBw.out).chg HNx.out (fun _ _ x => x))⟩
              · by_cases hjk : j < k
                · rw [List.getElem?_append_left (by rw [Hvl2.out]; omega)] at hu
                  rw [List.getElem?_append_left (by rw [Hvl2.out]; exact hjk)] at hz
                  exact HO.out.up i j u z p q hij hu hz hp hq
                · rw [List.getElem?_append_right (by rw [Hvl2.out]; omega), Hvl2.out] at hz
                  have hjk2 : j = k := by
                    have := (List.getElem?_eq_some_iff.1 hz).1
                    simp at this
                    omega
                  subst hjk2
                  rw [Nat.sub_self] at hz
                  obtain rfl : v = z := by simpa using hz
                  rw [List.getElem?_append_left (by rw [Hvl2.out]; exact hij)] at hu
                  obtain ⟨cs, r', h1, h2, h3⟩ := HO.out.own i u hu
                  have e1 := (h3.2.2.lt hp).2
                  have e2 := (HO3.out.lt hq).1
                  omega
            have HOt := Lib.hid hot
            have HCt := Lib.hid ((HC.out.trans HC3.out (fun _ _ h => h)).trans HNx.out (fun _ _ x => x.elim))
            have HSt := Lib.hid (show ∀ i, k + 1 ≤ i → (css.set k [.string r.name, v, .int .i64 r.stamp])[i]? = cs0[i]? from fun i hi => by rw [List.getElem?_set_ne (by omega)]; exact HS.out i (by omega))
            have Hll := Lib.hid (show (vs ++ [v]).length = k + 1 by rw [List.length_append, Hvl2.out]; rfl)
            clear hot hlen
            go_wp2_with fail
            go_roundw
            case rel => exact ⟨k + 1, _, _, by omega, by go_num, Hll.out, HSt.out, HOt.out, HCt.out⟩
            case measure => simp only [intOf]; omega
      · obtain rfl : k = m := by omega
        go_wp2_with fail
        go_ret
        refine ⟨out, Him.out, HN.out.trans HC.out (fun q hq h => by have := Hg.out; omega), .inr ⟨g, cap, css, rest, vs, B, ?_, by rw [Hom.out]; exact hlc2, hcm2, Hg.out, by rw [Hvl2.out, Hom.out], by rw [Hom.out]; exact HO.out⟩⟩
        exact congrArg (fun z => Ending.returned (.slice (some ⟨g, 0, none⟩) z cap)) Hom.out.symm
end Go.Proofs.Ytfocjfnkcabbgaa
