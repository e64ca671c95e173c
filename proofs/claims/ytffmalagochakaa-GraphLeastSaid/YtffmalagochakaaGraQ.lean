/- A queue: a slice of its own block, cut at the front; sorted by the library. -/
import Derived.Test.YtffmalagochakaaGen
import Derived.Shelf.SlSortCmp.WholeK
import Derived.Sort.OwnSorted
set_option linter.unusedVariables false
set_option linter.unusedSimpArgs false
namespace Go.Proofs.Ytffmalagochakaa
open Go.RowKit Go.Shelf

/-- A slice that owns its block alone, from whatever place on. -/
def QAt (w : World) (B : Nat) (e : TypeId) (k : Nat) (v : Value) (css : List (List Value)) : Prop :=
  ∃ g o cap cur, v = .slice (some ⟨g, o, none⟩) css.length cap ∧ B ≤ g ∧ Blk w g e cur ∧ css.length ≤ cap ∧ cap ≤ maxLen ∧ o + cap * k ≤ cur.size ∧ ∀ i cs, css[i]? = some cs → cs.length = k ∧ ∀ c u, cs[c]? = some u → cur[o + i * k + c]? = some u
section
variable {w w' : World} {B : Nat} {e : TypeId} {k : Nat} {v : Value} {css : List (List Value)} {T : Nat → Prop}
theorem QAt.chg (h : QAt w B e k v css) (hc : Chg w w' T) (hn : ∀ g, v.ownBlock = some g → ¬ T g) : QAt w' B e k v css := by
  obtain ⟨g, o, cap, cur, rfl, h1, h2, h3⟩ := h
  exact ⟨g, o, cap, cur, rfl, h1, h2.chg hc (hn g rfl), h3⟩
theorem QAt.lt (h : QAt w B e k v css) : ∀ g, v.ownBlock = some g → B ≤ g ∧ g < w.heap.size := by
  obtain ⟨g, o, cap, cur, rfl, h1, h2, h3⟩ := h
  intro g' hg
  cases hg
  exact ⟨h1, h2.lt⟩
theorem QAt.base (h : QAt w B e k v css) {B' : Nat} (hB : B' ≤ B) : QAt w B' e k v css := by
  obtain ⟨g, o, cap, cur, h0, h1, h2⟩ := h
  exact ⟨g, o, cap, cur, h0, Nat.le_trans hB h1, h2⟩
theorem QAt.one {g : Nat} {cs : List Value} (hb : Blk w g e cs.toArray) (hB : B ≤ g) (hl : cs.length = k) : QAt w B e k (.slice (some ⟨g, 0, none⟩) 1 1) [cs] := by
  refine ⟨g, 0, 1, _, rfl, hB, hb, Nat.le_refl _, by decide, by simp [hl], fun i d hi => ?_⟩
  match i, hi with
  | 0, hi => cases hi; exact ⟨hl, fun c u hc => by simpa using hc⟩
  | i + 1, hi => simp at hi
/-- Its form, and the first one. -/
theorem QAt.head {cs : List Value} (h : QAt w B e k v (cs :: css)) : ∃ g o cap, v = .slice (some ⟨g, o, none⟩) (css.length + 1) cap ∧ css.length + 1 ≤ cap ∧ cap ≤ maxLen ∧ B ≤ g ∧ g < w.heap.size ∧ At w ⟨g, o, none⟩ cs ∧ QAt w B e k (if cap = 1 then .slice (some ⟨g, o, none⟩) css.length (cap - 1) else .slice (some ⟨g, o + k, none⟩) css.length (cap - 1)) css := by
  obtain ⟨g, o, cap, cur, h0, h1, h2, h3, h4, h5, h6⟩ := h
  refine ⟨g, o, cap, by simpa using h0, by simpa using h3, h4, h1, h2.lt, fun j u hj => ?_, ?_⟩
  · have := (h6 0 cs rfl).2 j u hj
    rw [Addr.add_lit, h2.cell]
    simpa using this
  · have hc1 : 1 ≤ cap := by simp at h3; omega
    have hck : cap * k = (cap - 1) * k + k := by
      obtain ⟨m, rfl⟩ : ∃ m, cap = m + 1 := ⟨cap - 1, by omega⟩
      rw [Nat.add_sub_cancel, Nat.add_mul, Nat.one_mul]
    have hlc : css.length ≤ cap - 1 := by simp at h3; omega
    by_cases hc : cap = 1
    · rw [if_pos hc]
      have hn : css = [] := List.eq_nil_of_length_eq_zero (by omega)
      subst hn
      exact ⟨g, o, cap - 1, cur, rfl, h1, h2, hlc, by omega, by omega, fun i d hi => by simp at hi⟩
    · rw [if_neg hc]
      refine ⟨g, o + k, cap - 1, cur, rfl, h1, h2, hlc, by omega, by omega, fun i d hi => ?_⟩
      obtain ⟨h7, h8⟩ := h6 (i + 1) d (by simpa using hi)
      refine ⟨h7, fun c u hu => ?_⟩
      have := h8 c u hu
      rw [Nat.add_mul, Nat.one_mul] at this
      rw [show o + k + i * k + c = o + (i * k + k) + c by omega]
      exact this
end
theorem run_append_roomO {P : Program} (w : World) (t ty e : TypeId) (i : TypeInfo) (ht : P.underlying t = some (.slice e)) (hi : P.info? e = some i)
    (g q sLen sCap : Nat) (cur : Array Value) (hg : w.heap[g]? = some (.cells cur e (0, 0)))
    (a : Addr) (m c : Nat) (news : List Value) (hl : news.length = m * i.size) (hnews : ∀ j u, news[j]? = some u → w.cell? (a.add j) = some u) (h1 : ∀ u ∈ news, u.oneCell' = true)
    (hroom : sLen + m ≤ sCap) (hfit : q + sLen * i.size + news.length ≤ cur.size) :
    (Builtin.append_ #[t, t] ty #[.slice (some ⟨g, q, none⟩) sLen sCap, .slice (some a) m c]).run P w =
      .ok (.slice (some ⟨g, q, none⟩) (sLen + m) sCap) (w.setRow g (cur.toList.take (q + sLen * i.size) ++ news ++ cur.toList.drop (q + sLen * i.size + news.length)).toArray) := by
  have hf := run_firstCells_some (P := P) w i.size m a m c news hl hnews
  have hst := run_storeCells_at P g (q + sLen * i.size) e news 0 cur w hg (by simpa using hfit) h1
  simp only [Nat.add_zero] at hst
  simp [Builtin.append_, run_underlying ht, sizeOf, typeInfo, hi, Builtin.lenOf, hroom, hf, Addr.add_lit, hst]
section
variable {P : Program} {t e : TypeId} {k bytes : Nat} {zs : List Value}
theorem ElT.appQ (hE : ElT P t e k bytes zs) {B : Nat} {W : World} {v : Value} {css : List (List Value)} (hq : QAt W B e k v css) (hB : B ≤ W.heap.size) (cs : List Value) (hk : cs.length = k) (h1 : ∀ u ∈ cs, u.oneCell' = true)
    (hb : (css.length + 1) * bytes ≤ 140737488355328) (hb2 : css.length + 1 ≤ maxLen) (ty : TypeId) (x : Nat) (hx : W.heap.size = x) :
    ∃ v' W', (Builtin.append_ #[t, t] ty #[v, .slice (some ⟨x, 0, none⟩) 1 1]).run P (W.alloc (.cells cs.toArray e)) = .ok v' W' ∧ QAt W' B e k v' (css ++ [cs]) ∧ Chg W W' (fun j => v.ownBlock = some j) ∧ ∀ j, v'.ownBlock = some j → v.ownBlock = some j ∨ W.heap.size ≤ j := by
  subst hx
  have hN : New W (W.alloc (.cells cs.toArray e)) := (Chg.refl _ _).alloc _
  have hbl : Blk (W.alloc (.cells cs.toArray e)) W.heap.size e cs.toArray := Blk.new _ _ _
  obtain ⟨g, o, cap, cur, rfl, q1, q2, q3, q4, q5, q6⟩ := hq.chg hN (fun _ _ x => x)
  have hgl : g < W.heap.size := (hq.lt g rfl).2
  obtain ⟨i, z, hi, hz, hs, hby, hzz, hzl⟩ := hE.info
  have hnews : ∀ j u, cs[j]? = some u → (W.alloc (.cells cs.toArray e)).cell? ((⟨W.heap.size, 0, none⟩ : Addr).add j) = some u := fun j u hj => by
    rw [Addr.add_lit, Nat.zero_add, hbl.cell]
    simpa using hj
  have hkp := hE.pos
  have hone : ∀ (css' : List (List Value)) (i : Nat) (d : List Value), (css ++ [cs])[i]? = some d → (i < css.length ∧ css[i]? = some d) ∨ (i = css.length ∧ d = cs) := fun _ i d hd => by
    by_cases hl : i < css.length
    · rw [List.getElem?_append_left hl] at hd
      exact .inl ⟨hl, hd⟩
    · rw [List.getElem?_append_right (by omega)] at hd
      have : i - css.length = 0 := by
        have := (List.getElem?_eq_some_iff.1 hd).1
        simp at this
        omega
      rw [this] at hd
      exact .inr ⟨by omega, by simpa using hd.symm⟩
  by_cases hroom : css.length + 1 ≤ cap
  · have hfit : o + css.length * k + cs.length ≤ cur.size := by
      have : (css.length + 1) * k ≤ cap * k := Nat.mul_le_mul_right _ hroom
      rw [Nat.add_mul, Nat.one_mul] at this
      rw [hk]; omega
    have hr := run_append_roomO (P := P) (W.alloc (.cells cs.toArray e)) t ty e i hE.und hi g o css.length cap cur q2 ⟨W.heap.size, 0, none⟩ 1 1 cs (by rw [hk, hs, Nat.one_mul]) hnews h1 hroom (by rw [hs]; exact hfit)
    refine ⟨_, _, hr, ⟨g, o, cap, _, by simp, q1, Blk.set q2 _, by simpa using hroom, q4, ?_, ?_⟩, ?_, fun j hj => .inl hj⟩
    · simp only [List.size_toArray, List.length_append, List.length_take, List.length_drop, Array.length_toList, hs]
      omega
    · intro j d hd
      rcases hone [] j d hd with ⟨hjl, hd⟩ | ⟨rfl, rfl⟩
      · obtain ⟨h7, h8⟩ := q6 j d hd
        refine ⟨h7, fun c u hc => ?_⟩
        have hcl : c < k := by rw [← h7]; exact (List.getElem?_eq_some_iff.1 hc).1
        have hlt : o + j * k + c < o + css.length * k := by
          have : (j + 1) * k ≤ css.length * k := Nat.mul_le_mul_right _ hjl
          rw [Nat.add_mul, Nat.one_mul] at this
          omega
        have h9 := h8 c u hc
        rw [List.getElem?_toArray, hs, List.append_assoc, List.getElem?_append_left (by simp only [List.length_take, Array.length_toList]; rw [hk] at hfit; omega), List.getElem?_take, if_pos hlt]
        simpa using h9
      · refine ⟨hk, fun c u hc => ?_⟩
        have hcl : c < d.length := (List.getElem?_eq_some_iff.1 hc).1
        have hmin : min (o + css.length * k) cur.toList.length = o + css.length * k := by rw [Array.length_toList (xs := cur)]; omega
        rw [List.getElem?_toArray, hs, List.append_assoc, List.getElem?_append_right (by rw [List.length_take, hmin]; exact Nat.le_add_right _ _), List.length_take, hmin, show o + css.length * k + c - (o + css.length * k) = c by omega, List.getElem?_append_left hcl]
        exact hc
    · exact (hN.mono (T' := fun j => (Value.slice (some (⟨g, o, none⟩ : Addr)) css.length cap).ownBlock = some j) (fun _ _ x => x.elim)).trans (Chg.setRow (T := fun j => j = g) (Chg.refl _ _) g _ (fun _ => rfl)) (fun j _ h => by rw [h]; rfl)
  · have hcap : cap = css.length := by omega
    have holds : ∀ j u, css.flatten[j]? = some u → (W.alloc (.cells cs.toArray e)).cell? ((⟨g, o, none⟩ : Addr).add j) = some u := fun j u hj => by
      have hlen : css.flatten.length = css.length * k := flatten_len (fun d hd => by
        obtain ⟨i, hi⟩ := List.mem_iff_getElem?.1 hd
        exact (q6 i d hi).1)
      have hjl : j < css.length * k := by rw [← hlen]; exact (List.getElem?_eq_some_iff.1 hj).1
      have hqq : j / k < css.length := Nat.div_lt_of_lt_mul (by rw [Nat.mul_comm]; exact hjl)
      have hd := List.getElem?_eq_getElem hqq
      obtain ⟨h7, h8⟩ := q6 (j / k) _ hd
      have hc : (css[j / k])[j % k]? = some ((css[j / k])[j % k]'(by rw [h7]; exact Nat.mod_lt _ hkp)) := List.getElem?_eq_getElem _
      have hfl := flatten_get (fun d hd => by
        obtain ⟨i, hi⟩ := List.mem_iff_getElem?.1 hd
        exact (q6 i d hi).1) (i := j / k) (cs := css[j / k]) hd hc
      have hjj : j / k * k + j % k = j := by rw [Nat.mul_comm]; exact Nat.div_add_mod j k
      rw [hjj, hj] at hfl
      have h9 := h8 _ _ hc
      rw [Addr.add_lit, q2.cell, ← Option.some.inj hfl] at *
      rw [Nat.add_assoc, hjj] at h9
      exact h9
    have hlen : css.flatten.length = css.length * k := flatten_len (fun d hd => by
      obtain ⟨i, hi⟩ := List.mem_iff_getElem?.1 hd
      exact (q6 i d hi).1)
    have hr := run_append_grow (P := P) (W.alloc (.cells cs.toArray e)) t ty e i z hE.und hi hz ⟨g, o, none⟩ css.length cap css.flatten (by rw [hlen, hs]) holds ⟨W.heap.size, 0, none⟩ 1 1 cs (by rw [hk, hs, Nat.one_mul]) hnews (by omega) (by unfold maxLen at hb2; omega) (growslice_fits (by omega) (by rw [hby]; exact hb))
    have hge := grownCap_ge (W.alloc (.cells cs.toArray e)) (css.length + 1) cap e
    have hgm := grownCap_le_maxLen (W.alloc (.cells cs.toArray e)) (css.length + 1) cap e hb2
    refine ⟨_, _, hr, ⟨_, 0, _, _, by simp, ?_, Blk.new _ _ _, by simpa using hge, hgm, ?_, ?_⟩, ?_, fun j hj => ?_⟩
    · simp; omega
    · simp only [Array.size_append, List.size_toArray, size_zeroCells, hlen, hk, ← Array.length_toList (xs := z.cells), hzz, hzl]
      generalize grownCap (W.alloc (.cells cs.toArray e)) (css.length + 1) cap e = q at hge ⊢
      obtain ⟨r, rfl⟩ : ∃ r, q = css.length + 1 + r := ⟨q - (css.length + 1), by omega⟩
      rw [Nat.add_sub_cancel_left, Nat.add_mul, Nat.add_mul, Nat.one_mul]
      omega
    · intro j d hd
      have hdk : d.length = k := by
        rcases hone [] j d hd with ⟨_, hd⟩ | ⟨_, rfl⟩
        · exact (q6 j d hd).1
        · exact hk
      refine ⟨hdk, fun c u hc => ?_⟩
      have hall : ∀ x ∈ css ++ [cs], x.length = k := fun x hx => by
        rcases List.mem_append.1 hx with hx | hx
        · obtain ⟨i, hi⟩ := List.mem_iff_getElem?.1 hx
          exact (q6 i x hi).1
        · rw [List.mem_singleton.1 hx]; exact hk
      have hfl := flatten_get hall (i := j) (cs := d) hd hc
      have hlt := (List.getElem?_eq_some_iff.1 hfl).1
      rw [List.flatten_append, List.flatten_singleton] at hfl hlt
      rw [Nat.zero_add, Array.getElem?_append_left (by simpa using hlt)]
      simpa using hfl
    · exact (hN.mono (T' := fun j => (Value.slice (some (⟨g, o, none⟩ : Addr)) css.length cap).ownBlock = some j) (fun _ _ x => x.elim)).trans ((Chg.refl (T := fun j => (Value.slice (some (⟨g, o, none⟩ : Addr)) css.length cap).ownBlock = some j) _).drew.alloc _) (fun j _ h => h)
    · cases hj
      exact .inr (by simp)
end
/-- What the library's sort leaves of it. -/
theorem QAt.sorted {α : Type} [Inhabited α] {enc : α → List Value} {w : World} {B g o cap : Nat} {e : TypeId} {k n : Nat} {d d' : Array α} {os : Array Obj} (hk : ∀ x, (enc x).length = k) (hkp : 0 < k) (h : QAt w B e k (.slice (some ⟨g, o, none⟩) d.size cap) (d.toList.map enc)) (hs : d'.size = d.size) :
    QAt (sortWorldK enc k w g o n d' os) B e k (.slice (some ⟨g, o, none⟩) d.size cap) (d'.toList.map enc) ∧ Chg w (sortWorldK enc k w g o n d' os) (fun j => j = g) := by
  obtain ⟨g', o', cap', cur, h0, h1, h2, h3, h4, h5, h6⟩ := h
  simp only [Value.slice.injEq, Option.some.injEq, Addr.mk.injEq] at h0
  obtain ⟨⟨rfl, rfl, _⟩, h0, rfl⟩ := h0
  have hg : g < w.heap.size := h2.lt
  have hb : (sortWorldK enc k w g o n d' os).heap[g]? = some (.cells (Sort.putCells id o (Sort.flatK enc k d') cur) e (0, 0)) := by
    unfold sortWorldK Sort.putRowK
    rw [Sort.heap_grow_old _ _ (by simpa using hg)]
    simp [Sort.putRow, Sort.mapBlock, Sort.ahead, Array.getElem?_modify, show w.heap[g]? = _ from h2, Sort.onCells]
  simp only [List.length_map, Array.length_toList] at h3
  refine ⟨⟨g, o, cap, _, by simp [hs], h1, hb, by simpa [hs] using h3, h4, by simpa [Sort.putCells] using h5, fun i cs hi => ?_⟩, ⟨rfl, rfl, rfl, by simp [sortWorldK, Sort.putRowK, Sort.putRow, Sort.mapBlock, Sort.grow, Sort.ahead], fun j hj hne => ?_⟩⟩
  · rw [List.getElem?_map] at hi
    cases hx : d'.toList[i]? with
    | none => rw [hx] at hi; cases hi
    | some x =>
      rw [hx] at hi
      obtain rfl : enc x = cs := by simpa using hi
      refine ⟨hk x, fun c u hc => ?_⟩
      have hil : i < d'.size := by have := (List.getElem?_eq_some_iff.1 hx).1; simpa using this
      have hcl : c < k := by rw [← hk x]; exact (List.getElem?_eq_some_iff.1 hc).1
      have hlt : i * k + c < d'.size * k := by
        have : (i + 1) * k ≤ d'.size * k := Nat.mul_le_mul_right _ hil
        rw [Nat.add_mul, Nat.one_mul] at this
        omega
      have hle : d'.size * k ≤ cap * k := Nat.mul_le_mul_right _ (by rw [hs]; exact h3)
      have hlc : o + i * k + c < cur.size := by omega
      have e1 : (i * k + c) / k = i := (Sort.blk_iff k i _ (by omega)).1 ⟨by omega, by omega⟩
      have e2 : (i * k + c) % k = c := by rw [Nat.mod_eq_sub_div_mul, e1]; omega
      have hgx : d'[i]! = x := by
        rw [getElem!_pos d' i hil]
        have := (List.getElem?_eq_some_iff.1 hx).2
        simpa using this
      unfold Sort.putCells
      rw [Array.getElem?_mapIdx, Array.getElem?_eq_getElem hlc, Option.map_some, if_pos ⟨by omega, by rw [Sort.size_flatK]; omega⟩, show o + i * k + c - o = i * k + c by omega, Sort.get_flatK _ _ _ _ hlt, e1, e2, hgx]
      rw [getElem!_pos (enc x) c (by rw [hk]; exact hcl)]
      have := (List.getElem?_eq_some_iff.1 hc).2
      rw [this]
      rfl
  · unfold sortWorldK Sort.putRowK
    rw [Sort.heap_grow_old _ _ (by simpa using hj)]
    have : g ≠ j := fun e => hne e.symm
    simp [Sort.putRow, Sort.mapBlock, Sort.ahead, Array.getElem?_modify, this]
/-- .. and what it asks. -/
theorem QAt.holds {α : Type} [Inhabited α] {enc : α → List Value} {w : World} {B g o cap : Nat} {e : TypeId} {k : Nat} {d : Array α} (hk : ∀ x, (enc x).length = k) (hkp : 0 < k) (h : QAt w B e k (.slice (some ⟨g, o, none⟩) d.size cap) (d.toList.map enc)) : Sort.HoldsK enc k w g o d := by
  obtain ⟨g', o', cap', cur, h0, h1, h2, h3, h4, h5, h6⟩ := h
  simp only [Value.slice.injEq, Option.some.injEq, Addr.mk.injEq] at h0
  obtain ⟨⟨rfl, rfl, _⟩, h0, rfl⟩ := h0
  intro j hj
  rw [Sort.size_flatK] at hj
  have hqq : j / k < d.size := Nat.div_lt_of_lt_mul (by rw [Nat.mul_comm]; exact hj)
  obtain ⟨h7, h8⟩ := h6 (j / k) (enc d[j / k]) (by simp [hqq])
  have hc : (enc d[j / k])[j % k]? = some ((enc d[j / k])[j % k]'(by rw [h7]; exact Nat.mod_lt _ hkp)) := List.getElem?_eq_getElem _
  have h9 := h8 _ _ hc
  have hjj : j / k * k + j % k = j := by rw [Nat.mul_comm]; exact Nat.div_add_mod j k
  rw [Nat.add_assoc, hjj] at h9
  refine ⟨?_, by simp [World.frozen?, show w.heap[g]? = _ from h2]⟩
  rw [h2.cell, h9, Sort.get_flatK _ _ _ _ hj, getElem!_pos d (j / k) hqq, getElem!_pos (enc d[j / k]) (j % k) (by rw [h7]; exact Nat.mod_lt _ hkp)]
  rfl
end Go.Proofs.Ytffmalagochakaa
