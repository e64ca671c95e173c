/- What group.Group computes, in plain Lean. -/
import Derived.Test.YtfocjfnkcabbgaaGreatGrpB
set_option linter.unusedVariables false
namespace Go.Proofs.YtfocjfnkcabbgaaGreat

def zeroV : Vl := ⟨0, 0, ⟨#[]⟩⟩
def lastV (r : Rw) : Vl := r.args.getLastD zeroV
/-- Rows that have a place, without what stands there, which comes last. -/
def trn (k : Nat) (rs : List Rw) : List Rw := rs.filterMap fun r => (r.args[k]?).map (ahd r k)
/-- A row's last argument at its place. -/
def bck (k : Nat) (r : Rw) : Rw := ⟨r.name, r.args.dropLast.take k ++ lastV r :: r.args.dropLast.drop k, r.stamp⟩
def gmerge (ag : Ag) (y x : Rw) : Rw := ⟨y.name, y.args.dropLast ++ [foldV ag (lastV y) (lastV x) false], if y.stamp < x.stamp then x.stamp else y.stamp⟩
def gfirst (ag : Ag) (x : Rw) : Rw := ⟨x.name, x.args.dropLast ++ [foldV ag zeroV (lastV x) true], x.stamp⟩
def gstep (ag : Ag) (gs : List Rw) (x : Rw) : List Rw := match gs.findIdx? (alikeB x) with
  | some q => match gs[q]? with
    | some y => gs.set q (gmerge ag y x)
    | none => gs
  | none => gs ++ [gfirst ag x]
def grp (ag : Ag) (m : List Rw) : List Rw := m.foldl (gstep ag) []
theorem grp_take {ag : Ag} {m : List Rw} {i : Nat} {x : Rw} (h : m[i]? = some x) : grp ag (m.take (i + 1)) = gstep ag (grp ag (m.take i)) x := by
  unfold grp
  rw [take_succ_get h, List.foldl_append]
  rfl
theorem trn_take {k : Nat} {rs : List Rw} {i : Nat} {r : Rw} (h : rs[i]? = some r) : trn k (rs.take (i + 1)) = trn k (rs.take i) ++ ((r.args[k]?).map (ahd r k)).toList := by
  unfold trn
  rw [take_succ_get h, List.filterMap_append]
  have : List.filterMap (fun r : Rw => (r.args[k]?).map (ahd r k)) [r] = ((r.args[k]?).map (ahd r k)).toList := by
    simp only [List.filterMap_cons, List.filterMap_nil]
    generalize (r.args[k]?).map (ahd r k) = o
    cases o <;> rfl
  rw [this]
theorem trn_len (k : Nat) (rs : List Rw) : (trn k rs).length ≤ rs.length := List.length_filterMap_le _ _
theorem lastV_snoc (n : ByteArray) (l : List Vl) (x : Vl) (s : Int) : lastV ⟨n, l ++ [x], s⟩ = x := by simp [lastV]
theorem gstep_len (ag : Ag) (gs : List Rw) (x : Rw) : (gstep ag gs x).length ≤ gs.length + 1 := by
  unfold gstep
  split
  · split
    · rw [List.length_set]; omega
    · omega
  · rw [List.length_append]; simp
theorem grp_len (ag : Ag) (m : List Rw) (i : Nat) : (grp ag (m.take i)).length ≤ i := by
  induction i with
  | zero => simp [grp]
  | succ i ih =>
    cases h : m[i]? with
    | none =>
      have := List.getElem?_eq_none_iff.1 h
      rw [List.take_of_length_le (by omega)]
      rw [List.take_of_length_le (by omega)] at ih
      omega
    | some x =>
      rw [grp_take h]
      have := gstep_len ag (grp ag (m.take i)) x
      omega
/-- What a row of the groups is like: as long as the rows, a count that is none too great. -/
structure GOk (k : Nat) (ag : Ag) (i : Nat) (y : Rw) : Prop where
  two : k < y.args.length
  le : y.args.length ≤ 1000
  cnt : ag = .count → 0 ≤ (lastV y).i ∧ (lastV y).i ≤ i
theorem gstep_ok {k : Nat} {ag : Ag} {gs : List Rw} {x : Rw} {i : Nat} (h : ∀ y ∈ gs, GOk k ag i y) (hx : k < x.args.length) (hx2 : x.args.length ≤ 1000) : ∀ y ∈ gstep ag gs x, GOk k ag (i + 1) y := by
  have hmono : ∀ y, GOk k ag i y → GOk k ag (i + 1) y := fun y hy => ⟨hy.two, hy.le, fun e => by have := hy.cnt e; omega⟩
  unfold gstep
  split
  · split
    · rename_i q hq y hy
      intro z hz
      rcases List.mem_or_eq_of_mem_set hz with h1 | h1
      · exact hmono z (h z h1)
      · subst h1
        have hyk := h y (List.mem_of_getElem? hy)
        refine ⟨?_, ?_, fun e => ?_⟩
        · show k < (y.args.dropLast ++ [_]).length
          rw [List.length_append, List.length_dropLast]
          have := hyk.two
          simp; omega
        · show (y.args.dropLast ++ [_]).length ≤ 1000
          rw [List.length_append, List.length_dropLast]
          have := hyk.le
          simp; omega
        · unfold gmerge
          rw [lastV_snoc]
          subst e
          have := hyk.cnt rfl
          simp only [foldV, Bool.false_eq_true, if_false]
          omega
    · intro z hz
      exact hmono z (h z hz)
  · intro z hz
    rcases List.mem_append.1 hz with h1 | h1
    · exact hmono z (h z h1)
    · rw [List.mem_singleton.1 h1]
      refine ⟨?_, ?_, fun e => ?_⟩
      · show k < (x.args.dropLast ++ [_]).length
        rw [List.length_append, List.length_dropLast]
        simp; omega
      · show (x.args.dropLast ++ [_]).length ≤ 1000
        rw [List.length_append, List.length_dropLast]
        simp; omega
      · unfold gfirst
        rw [lastV_snoc]
        subst e
        simp only [foldV, if_true]
        omega
theorem grp_ok {k : Nat} {ag : Ag} {m : List Rw} (hm : ∀ x ∈ m, k < x.args.length ∧ x.args.length ≤ 1000) (i : Nat) : ∀ y ∈ grp ag (m.take i), GOk k ag i y := by
  induction i with
  | zero => intro y hy; simp [grp] at hy
  | succ i ih =>
    cases h : m[i]? with
    | none =>
      have := List.getElem?_eq_none_iff.1 h
      intro y hy
      rw [List.take_of_length_le (by omega)] at hy
      rw [List.take_of_length_le (by omega)] at ih
      have := ih y hy
      exact ⟨this.two, this.le, fun e => by have := this.cnt e; omega⟩
    | some x =>
      rw [grp_take h]
      have := hm x (List.mem_of_getElem? h)
      exact gstep_ok ih this.1 this.2
theorem trn_args {k : Nat} {rs : List Rw} (hk : 1 ≤ k) (h : ∀ r ∈ rs, r.args.length ≤ 1000) : ∀ x ∈ trn k rs, k < x.args.length ∧ x.args.length ≤ 1000 := by
  intro x hx
  obtain ⟨r, hr, he⟩ := List.mem_filterMap.1 hx
  cases hy : r.args[k]? with
  | none => rw [hy] at he; cases he
  | some y =>
    rw [hy] at he
    have hlt := (List.getElem?_eq_some_iff.1 hy).1
    cases he
    have := h r hr
    show k < (r.args.eraseIdx k ++ [y]).length ∧ _ ≤ 1000
    rw [List.length_append, List.length_eraseIdx, if_pos hlt]
    show _ ∧ (r.args.eraseIdx k ++ [y]).length ≤ 1000
    rw [List.length_append, List.length_eraseIdx, if_pos hlt]
    simp only [List.length_cons, List.length_nil]
    omega
theorem alikeB_len {x y : Rw} (h : alikeB x y = true) : x.args.length = y.args.length := by
  unfold alikeB at h
  simp only [Bool.and_eq_true, decide_eq_true_eq] at h
  exact h.2.1
theorem findIdx_get {gs : List Rw} {x : Rw} {q : Nat} (h : gs.findIdx? (alikeB x) = some q) : ∃ y, gs[q]? = some y ∧ alikeB x y = true := by
  rw [List.findIdx?_eq_some_iff_getElem] at h
  obtain ⟨h1, h2, _⟩ := h
  exact ⟨_, List.getElem?_eq_getElem h1, h2⟩
end Go.Proofs.YtfocjfnkcabbgaaGreat
