/- FireMerges: plain; FireMore, FireOthers, FireMerged: plain. -/
import Derived.Test.YtenkobgeflckdabSlF
import Derived.Test.YtenkobgeflckdabFire
set_option linter.unusedVariables false
set_option linter.unusedSimpArgs false
namespace Go.Proofs.Ytenkobgeflckdab
open Go.RowKit Go.Shelf

/-- Less is -1. -/
def Sg {α : Type} (c : α → α → Int) : Prop := ∀ x y, c x y < 0 → c x y = -1
theorem sg_int : Sg cmpI := fun x y h => by unfold cmpI at h ⊢; split at h <;> simp_all <;> (split at h <;> simp_all)
theorem sg_lex {α : Type} {f g : α → α → Int} (hf : Sg f) (hg : Sg g) : Sg (lex2 f g) := fun x y h => by
  unfold lex2 at h ⊢
  split
  · rename_i h0
    rw [if_pos h0] at h
    exact hg x y h
  · rename_i h0
    rw [if_neg h0] at h
    exact hf x y h
theorem sg_list {α : Type} {c : α → α → Int} (hc : Sg c) : Sg (cmpL c)
  | [], [], h => by simp [cmpL] at h
  | [], _ :: _, h => rfl
  | _ :: _, [], h => by simp [cmpL] at h
  | x :: xs, y :: ys, h => by
    unfold cmpL at h ⊢
    split
    · rename_i h0
      rw [if_pos h0] at h
      exact sg_list hc xs ys h
    · rename_i h0
      rw [if_neg h0] at h
      exact hc x y h
theorem sg_pull {α β : Type} {c : β → β → Int} (f : α → β) (hc : Sg c) : Sg (fun x y => c (f x) (f y)) := fun x y h => hc _ _ h
theorem sg_byte : Sg cmpB := fun x y h => by rw [cmpB_nat] at h ⊢; exact sg_int _ _ h
theorem sg_str : Sg cmpS := fun a b h => by
  unfold cmpS at h ⊢
  rw [bytes_eq] at h ⊢
  exact sg_list sg_byte _ _ h
theorem sg_val : Sg cmpV := sg_lex (sg_pull Vl.k sg_int) (sg_lex (sg_pull keyI sg_int) (sg_pull keyT sg_str))
theorem sg_row : Sg cmpR := sg_lex (sg_pull Rw.name sg_str) (sg_pull Rw.args (sg_list sg_val))

/-- The greatest stamp of those that are equal. -/
def bestOf (l : List Rw) (x : Rw) : Int := l.foldl (fun b r => if cmpR r x = 0 then max b r.stamp else b) (-1)
theorem bestOf_snoc (l : List Rw) (x r : Rw) : bestOf (l ++ [r]) x = if cmpR r x = 0 then max (bestOf l x) r.stamp else bestOf l x := by
  unfold bestOf
  rw [List.foldl_append]
  rfl
theorem bestOf_le {x : Rw} {b : Int} (hb : -1 ≤ b) : ∀ (l : List Rw), (∀ r ∈ l, cmpR r x = 0 → r.stamp ≤ b) → bestOf l x ≤ b := by
  intro l
  have key : ∀ (l : List Rw) (a : Int), a ≤ b → (∀ r ∈ l, cmpR r x = 0 → r.stamp ≤ b) → l.foldl (fun b r => if cmpR r x = 0 then max b r.stamp else b) a ≤ b := by
    intro l
    induction l with
    | nil => intro a h _; exact h
    | cons r l ih =>
      intro a h hl
      rw [List.foldl_cons]
      refine ih _ ?_ (fun r' hr' => hl r' (List.mem_cons_of_mem _ hr'))
      by_cases h0 : cmpR r x = 0
      · rw [if_pos h0]; have := hl r (List.mem_cons_self ..) h0; omega
      · rw [if_neg h0]; exact h
  exact key l (-1) hb
theorem bestOf_ge {x r : Rw} : ∀ (l : List Rw), r ∈ l → cmpR r x = 0 → r.stamp ≤ bestOf l x := by
  have mono : ∀ (l : List Rw) (a : Int), a ≤ l.foldl (fun b r => if cmpR r x = 0 then max b r.stamp else b) a := by
    intro l
    induction l with
    | nil => intro a; exact Int.le_refl _
    | cons r l ih =>
      intro a
      rw [List.foldl_cons]
      refine Int.le_trans ?_ (ih _)
      by_cases h0 : cmpR r x = 0
      · rw [if_pos h0]; omega
      · rw [if_neg h0]; exact Int.le_refl _
  have key : ∀ (l : List Rw) (a : Int), r ∈ l → cmpR r x = 0 → r.stamp ≤ l.foldl (fun b r => if cmpR r x = 0 then max b r.stamp else b) a := by
    intro l
    induction l with
    | nil => intro a h; cases h
    | cons s l ih =>
      intro a h h0
      rw [List.foldl_cons]
      rcases List.mem_cons.1 h with rfl | h
      · refine Int.le_trans ?_ (mono l _)
        rw [if_pos h0]; omega
      · exact ih _ h h0
  exact fun l => key l (-1)
/-- Two of a merged list that compare equal are one. -/
theorem merged_eq {m : List Rw} (hm : m.Pairwise (fun a b => cmpR a b < 0)) {a b : Rw} (ha : a ∈ m) (hb : b ∈ m) (h : cmpR a b = 0) : a = b := by
  have h1 := findS_some hm ha (tri_row.refl a)
  obtain ⟨i, hi, rfl⟩ := List.getElem_of_mem ha
  obtain ⟨j, hj, rfl⟩ := List.getElem_of_mem hb
  rcases Nat.lt_trichotomy i j with hij | hij | hij
  · have := List.pairwise_iff_getElem.1 hm i j hi hj hij
    omega
  · subst hij; rfl
  · have h2 := List.pairwise_iff_getElem.1 hm j i hj hi hij
    have := tri_row.anti m[j] m[i]
    omega
theorem best_is {rs m : List Rw} (hm : IsMerge rs m) (h0 : ∀ r ∈ rs, 0 ≤ r.stamp) {x : Rw} (hx : x ∈ m) : bestOf rs x = x.stamp := by
  have h1 := bestOf_ge (x := x) rs (hm.sub x hx) (tri_row.refl x)
  have hx0 := h0 x (hm.sub x hx)
  have h2 := bestOf_le (x := x) (b := x.stamp) (by omega) rs (fun r hr he => by
    obtain ⟨s, hs, h3, h4⟩ := hm.all r hr
    have : s = x := merged_eq hm.up hs hx (eq_trans' h3 he)
    rw [← this]
    exact h4)
  omega
theorem find_is {rs m : List Rw} (hm : IsMerge rs m) {r : Rw} (hr : r ∈ rs) : r.stamp ≤ findS m r := by
  obtain ⟨s, hs, h3, h4⟩ := hm.all r hr
  rw [findS_some hm.up hs h3]
  exact h4
end Go.Proofs.Ytenkobgeflckdab

set_option linter.unusedVariables false
set_option linter.unusedSimpArgs false
namespace Go.Proofs.Ytenkobgeflckdab
open Go.RowKit Go.Shelf

theorem next_len {rows : List Rw} {n : Nat} (hr : rows.length ≤ n) (hn : 1 ≤ n) (L : Lt) (s : Sta) : (nextV rows L s).length ≤ n := by
  have h2 : ∀ o : Option Sta, o.toList.length ≤ n := fun o => by cases o <;> simp <;> omega
  cases L with
  | atom b nm ts =>
    cases b
    · show (atomsV rows nm ts s).length ≤ n
      unfold atomsV
      have h1 := List.length_filterMap_le (atomS ts s) (named rows nm)
      have h3 : (named rows nm).length ≤ rows.length := List.length_filter_le _ _
      omega
    · exact h2 _
  | test j a b => exact h2 _
  | assign nm t => exact h2 _
theorem flat_len {α β : Type} {f : α → List β} {k : Nat} : ∀ (l : List α), (∀ x ∈ l, (f x).length ≤ k) → (l.flatMap f).length ≤ l.length * k
  | [], _ => by simp
  | x :: l, h => by
    rw [List.flatMap_cons, List.length_append, List.length_cons, Nat.succ_mul]
    have h1 := h x (List.mem_cons_self ..)
    have h2 := flat_len l (fun y hy => h y (List.mem_cons_of_mem _ hy))
    omega
theorem ways_len {rows : List Rw} {n : Nat} (hr : rows.length ≤ n) (hn : 1 ≤ n) : ∀ (Ls : List Lt) (s : Sta), (waysV rows Ls s).length ≤ n ^ Ls.length
  | [], s => by simp [waysV]
  | L :: Ls, s => by
    show ((nextV rows L s).flatMap (waysV rows Ls)).length ≤ _
    have h1 := flat_len (f := waysV rows Ls) (k := n ^ Ls.length) (nextV rows L s) (fun x _ => ways_len hr hn Ls x)
    have h2 := Nat.mul_le_mul_right (n ^ Ls.length) (next_len hr hn L s)
    rw [List.length_cons, Nat.pow_succ, Nat.mul_comm _ n]
    exact Nat.le_trans h1 h2
theorem ways_few {x m : List Rw} (hm : IsMerge x m) {k : Nat} (hk : x.length ≤ k) (hk1 : 1 ≤ k) (hk2 : k ≤ 30) {Ls : List Lt} (hl : Ls.length ≤ 4) (s : Sta) : (waysV m Ls s).length ≤ 1000000 := by
  have h1 := ways_len (merge_len hm k hk) hk1 Ls s
  have h2 : k ^ Ls.length ≤ 30 ^ Ls.length := Nat.pow_le_pow_left hk2 _
  have h3 : 30 ^ Ls.length ≤ 30 ^ 4 := Nat.pow_le_pow_right (by omega) hl
  have h4 : 30 ^ 4 = 810000 := by decide
  omega
theorem okW_canon {v : Vl} (h : okW v) : canon v := h.1.canon
theorem allO_mem {α : Type} {f : α → Option Vl} : ∀ {l : List α} {us : List Vl}, allO (l.map f) = some us → ∀ u ∈ us, ∃ x ∈ l, f x = some u
  | [], us, h, u, hu => by
    have : us = [] := by simpa [allO] using h.symm
    rw [this] at hu; cases hu
  | x :: l, us, h, u, hu => by
    cases hf : f x with
    | none => simp [allO, hf] at h
    | some y =>
      cases hr : allO (l.map f) with
      | none => simp [allO, hf, hr] at h
      | some ys =>
        have : us = y :: ys := by simpa [allO, hf, hr] using h.symm
        rw [this] at hu
        rcases List.mem_cons.1 hu with rfl | hu
        · exact ⟨x, List.mem_cons_self .., hf⟩
        · obtain ⟨z, hz, h2⟩ := allO_mem hr u hu
          exact ⟨z, List.mem_cons_of_mem _ hz, h2⟩
theorem head_ok {h : ByteArray} {ts : List Tm} (ht : ∀ t ∈ ts, okTm t) {s : Sta} (hs : okEnv s.1) {r : Rw} (hr : headV h ts s = some r) : ∀ v ∈ r.args, okW v := by
  unfold headV at hr
  cases ha : allO (ts.map (evalT s.1)) with
  | none => rw [ha] at hr; cases hr
  | some us =>
    rw [ha] at hr
    cases hr
    intro v hv
    obtain ⟨t, ht', he⟩ := allO_mem ha v hv
    exact evalT_ok hs (ht t ht') he
theorem fire_ok {h : ByteArray} {ts : List Tm} (ht : ∀ t ∈ ts, okTm t) {Ls : List Lt} (hL : ∀ L ∈ Ls, okLt L) {rows : List Rw} (hr : ∀ r ∈ rows, ∀ v ∈ r.args, okW v) : ∀ r ∈ fireV h ts Ls rows, ∀ v ∈ r.args, okW v := by
  intro r hrm
  obtain ⟨s, hs, he⟩ := List.mem_filterMap.1 hrm
  exact head_ok ht (ways_ok hr hL (s := ([], forever)) (fun p hp => by cases hp) hs).1 he
theorem ok_canon {rows : List Rw} (hr : ∀ r ∈ rows, ∀ v ∈ r.args, okW v) : ∀ r ∈ rows, canonR r := fun r h v hv => okW_canon (hr r h v hv)
theorem merge_ok {x m : List Rw} (hm : IsMerge x m) (hr : ∀ r ∈ x, ∀ v ∈ r.args, okW v) : ∀ r ∈ m, ∀ v ∈ r.args, okW v := fun r h => hr r (hm.sub r h)

/-- More. -/
def Under (a b : List Rw) : Prop := ∀ r ∈ a, ∃ s ∈ b, s.name = r.name ∧ s.args = r.args ∧ r.stamp ≤ s.stamp
theorem cmp_same {r s : Rw} (hn : s.name = r.name) (ha : s.args = r.args) : cmpR s r = 0 := by
  have h : cmpR s r = cmpR r r := by simp only [cmpR, lex2]; rw [hn, ha]
  rw [h]; exact tri_row.refl r
theorem merge_under {x y m n : List Rw} (hc : ∀ r ∈ y, canonR r) (hx : IsMerge x m) (hy : IsMerge y n) (h : ∀ r ∈ x, r ∈ y) : Under m n := by
  intro r hr
  have hry := h r (hx.sub r hr)
  obtain ⟨s, hs, h0, h1⟩ := hy.all r hry
  obtain ⟨e1, e2⟩ := canonR_eq (hc s (hy.sub s hs)) (hc r hry) h0
  exact ⟨s, hs, e1, e2, h1⟩
theorem minI_mono {a b c d : Int} (h1 : a ≤ c) (h2 : b ≤ d) : minI a b ≤ minI c d := by
  unfold minI
  split <;> split <;> omega
theorem atoms_under {m n : List Rw} (h : Under m n) {nm : ByteArray} {ts : List Tm} {s s' x : Sta} (he : s'.1 = s.1) (hs : s.2 ≤ s'.2) (hx : x ∈ atomsV m nm ts s) : ∃ x' ∈ atomsV n nm ts s', x'.1 = x.1 ∧ x.2 ≤ x'.2 := by
  obtain ⟨r, hr, hrx⟩ := List.mem_filterMap.1 hx
  obtain ⟨hrm, hrn⟩ := List.mem_filter.1 hr
  obtain ⟨q, hq, e1, e2, e3⟩ := h r hrm
  unfold atomS at hrx
  cases hm : matchV ts r.args s.1 with
  | none => rw [hm] at hrx; cases hrx
  | some e =>
    rw [hm] at hrx
    cases hrx
    refine ⟨(e, minI s'.2 q.stamp), List.mem_filterMap.2 ⟨q, List.mem_filter.2 ⟨hq, by simpa [e1] using hrn⟩, ?_⟩, rfl, minI_mono hs e3⟩
    unfold atomS
    rw [e2, he, hm]
    rfl
theorem next_under {m n : List Rw} (h : Under m n) {L : Lt} (hk : L.kind ≠ 2) {s s' x : Sta} (he : s'.1 = s.1) (hs : s.2 ≤ s'.2) (hx : x ∈ nextV m L s) : ∃ x' ∈ nextV n L s', x'.1 = x.1 ∧ x.2 ≤ x'.2 := by
  cases L with
  | atom b nm ts =>
    cases b
    · exact atoms_under h he hs hx
    · exact absurd rfl hk
  | test j a b =>
    have hx' : goesV m (.test j a b) s = some x := Option.mem_toList.1 hx
    unfold goesV at hx'
    cases ha : evalT s.1 a with
    | none => simp [ha] at hx'
    | some u =>
      cases hb : evalT s.1 b with
      | none => simp [ha, hb] at hx'
      | some v =>
        by_cases ht : testV j u v = true
        · simp [ha, hb, ht] at hx'
          subst hx'
          refine ⟨s', Option.mem_toList.2 ?_, he, hs⟩
          unfold goesV
          simp [he, ha, hb, ht]
        · simp [ha, hb, ht] at hx'
  | assign nm t =>
    have hx' : goesV m (.assign nm t) s = some x := Option.mem_toList.1 hx
    unfold goesV at hx'
    cases ha : evalT s.1 t with
    | none => simp [ha] at hx'
    | some u =>
      cases hl : lookE s.1 nm with
      | some v => simp [ha, hl] at hx'
      | none =>
        simp [ha, hl] at hx'
        subst hx'
        refine ⟨(s'.1 ++ [(nm, u)], s'.2), Option.mem_toList.2 ?_, by rw [he], hs⟩
        unfold goesV
        simp [he, ha, hl]
theorem ways_under {m n : List Rw} (h : Under m n) : ∀ {Ls : List Lt}, (∀ L ∈ Ls, L.kind ≠ 2) → ∀ {s s' x : Sta}, s'.1 = s.1 → s.2 ≤ s'.2 → x ∈ waysV m Ls s → ∃ x' ∈ waysV n Ls s', x'.1 = x.1 ∧ x.2 ≤ x'.2
  | [], _, s, s', x, he, hs, hx => by
    rw [List.mem_singleton.1 (show x ∈ [s] from hx)]
    exact ⟨s', List.mem_singleton.2 rfl, he, hs⟩
  | L :: Ls, hL, s, s', x, he, hs, hx => by
    obtain ⟨t, ht, hx⟩ := List.mem_flatMap.1 (show x ∈ (nextV m L s).flatMap (waysV m Ls) from hx)
    obtain ⟨t', ht', e1, e2⟩ := next_under h (hL L (List.mem_cons_self ..)) he hs ht
    obtain ⟨x', hx', e3, e4⟩ := ways_under h (fun L' hl => hL L' (List.mem_cons_of_mem _ hl)) e1 e2 hx
    exact ⟨x', List.mem_flatMap.2 ⟨t', ht', hx'⟩, e3, e4⟩
theorem fire_under {m n : List Rw} (h : Under m n) {hd : ByteArray} {ts : List Tm} {Ls : List Lt} (hL : ∀ L ∈ Ls, L.kind ≠ 2) : Under (fireV hd ts Ls m) (fireV hd ts Ls n) := by
  intro r hr
  obtain ⟨s, hs, he⟩ := List.mem_filterMap.1 hr
  obtain ⟨s', hs', e1, e2⟩ := ways_under h hL (s' := ([], forever)) rfl (Int.le_refl _) hs
  unfold headV at he
  cases ha : allO (ts.map (evalT s.1)) with
  | none => rw [ha] at he; cases he
  | some us =>
    rw [ha] at he
    cases he
    refine ⟨⟨hd, us, s'.2⟩, List.mem_filterMap.2 ⟨s', hs', ?_⟩, rfl, rfl, e2⟩
    unfold headV
    rw [e1, ha]
    rfl
theorem find_under {a b c d : List Rw} (h : Under a b) (ha : IsMerge a c) (hb : IsMerge b d) {r : Rw} (hr : r ∈ c) : r.stamp ≤ findS d r := by
  obtain ⟨s, hs, e1, e2, e3⟩ := h r (ha.sub r hr)
  obtain ⟨t, ht, h0, h1⟩ := hb.all s hs
  rw [findS_some hb.up ht (eq_trans' h0 (cmp_same e1 e2))]
  omega

/-- Others. -/
theorem ways_named {m n : List Rw} : ∀ {Ls : List Lt}, (∀ L ∈ Ls, L.kind ≤ 2 → named m L.name = named n L.name) → ∀ s : Sta, waysV m Ls s = waysV n Ls s
  | [], _, s => rfl
  | L :: Ls, h, s => by
    have h1 : nextV m L s = nextV n L s := by
      cases L with
      | atom b nm ts =>
        have h0 : atomsV m nm ts s = atomsV n nm ts s := by
          unfold atomsV
          rw [show named m nm = named n nm from h _ (List.mem_cons_self ..) (by cases b; exact (by decide : (1 : Int) ≤ 2); exact (by decide : (2 : Int) ≤ 2))]
        cases b
        · exact h0
        · show Option.toList (goesV m (.atom true nm ts) s) = Option.toList (goesV n (.atom true nm ts) s)
          have g : ∀ rows, goesV rows (.atom true nm ts) s = if (atomsV rows nm ts s).isEmpty then some s else none := fun _ => rfl
          rw [g, g, h0]
      | test j a b => rfl
      | assign nm t => rfl
    show (nextV m L s).flatMap (waysV m Ls) = (nextV n L s).flatMap (waysV n Ls)
    rw [h1, show waysV m Ls = waysV n Ls from funext (ways_named (fun L' hl => h L' (List.mem_cons_of_mem _ hl)))]
theorem merge_filter {x m : List Rw} (hc : ∀ r ∈ x, canonR r) (p : ByteArray → Bool) (h : IsMerge x m) : IsMerge (x.filter (fun r => p r.name)) (m.filter (fun r => p r.name)) := by
  refine ⟨h.up.sublist List.filter_sublist, fun r hr => ?_, fun r hr => ?_⟩
  · obtain ⟨h1, h2⟩ := List.mem_filter.1 hr
    exact List.mem_filter.2 ⟨h.sub r h1, h2⟩
  · obtain ⟨h1, h2⟩ := List.mem_filter.1 hr
    obtain ⟨s, hs, h3, h4⟩ := h.all r h1
    refine ⟨s, List.mem_filter.2 ⟨hs, ?_⟩, h3, h4⟩
    rw [(canonR_eq (hc s (h.sub s hs)) (hc r h1) h3).1]
    exact h2
theorem named_filter (m : List Rw) (p : ByteArray → Bool) (s : ByteArray) (hs : p s = true) : named (m.filter (fun r => p r.name)) s = named m s := by
  unfold named
  rw [List.filter_filter]
  refine List.filter_congr (fun r _ => ?_)
  by_cases h : r.name = s
  · simp [h, hs]
  · simp [h]
def usedB (Ls : List Lt) (s : ByteArray) : Bool := Ls.any (fun L => decide (L.name = s) && decide (L.kind ≤ 2))
theorem fire_others {h : ByteArray} {ts : List Tm} {Ls : List Lt} {x y m n : List Rw} (hc : ∀ r ∈ x, canonR r) (hy : ∀ r, r ∈ y ↔ r ∈ x.filter (fun r => usedB Ls r.name)) (hm : IsMerge x m) (hn : IsMerge y n) : fireV h ts Ls m = fireV h ts Ls n := by
  have h1 : n = m.filter (fun r => usedB Ls r.name) := merge_uniq (rs := x.filter (fun r => usedB Ls r.name)) (fun r hr => hc r (List.mem_filter.1 hr).1) (merge_same hy hn) (merge_filter hc _ hm)
  unfold fireV
  rw [ways_named (m := m) (n := n) (fun L hL hk => ?_)]
  rw [h1, named_filter _ _ _ (by unfold usedB; exact List.any_eq_true.2 ⟨L, hL, by simp [hk]⟩)]
end Go.Proofs.Ytenkobgeflckdab
