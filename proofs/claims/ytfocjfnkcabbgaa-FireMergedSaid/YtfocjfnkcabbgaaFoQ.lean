/- Ways are few; what Fire makes is right: plain. -/
import Derived.Test.YtfocjfnkcabbgaaSlB
import Derived.Test.YtfocjfnkcabbgaaFire
set_option linter.unusedVariables false
set_option linter.unusedSimpArgs false
namespace Go.Proofs.Ytfocjfnkcabbgaa
open Go.RowKit Go.Shelf

theorem next_len {rows : List Rw} {n : Nat} (hr : rows.length ≤ n) (hn : 1 ≤ n) (L : Lt) (s : Sta) : (nextV rows L s).length ≤ n := by
  have h2 : ∀ o : Option Sta, o.toList.length ≤ n := fun o => by cases o <;> simp <;> omega
  cases L with
  | atom b nm ts =>
    cases b
    · show (atomsV rows nm ts s).length ≤ n
      unfold atomsV
      have h1 := List.length_filterMap_le (atomS ts s) (named rows nm)
      have h3 : (named rows nm).length ≤ rows.length := List.length_filter_le _ _
      omega
    · exact h2 _
  | test j a b => exact h2 _
  | assign nm t => exact h2 _
theorem flat_len {α β : Type} {f : α → List β} {k : Nat} : ∀ (l : List α), (∀ x ∈ l, (f x).length ≤ k) → (l.flatMap f).length ≤ l.length * k
  | [], _ => by simp
  | x :: l, h => by
    rw [List.flatMap_cons, List.length_append, List.length_cons, Nat.succ_mul]
    have h1 := h x (List.mem_cons_self ..)
    have h2 := flat_len l (fun y hy => h y (List.mem_cons_of_mem _ hy))
    omega
theorem ways_len {rows : List Rw} {n : Nat} (hr : rows.length ≤ n) (hn : 1 ≤ n) : ∀ (Ls : List Lt) (s : Sta), (waysV rows Ls s).length ≤ n ^ Ls.length
  | [], s => by simp [waysV]
  | L :: Ls, s => by
    show ((nextV rows L s).flatMap (waysV rows Ls)).length ≤ _
    have h1 := flat_len (f := waysV rows Ls) (k := n ^ Ls.length) (nextV rows L s) (fun x _ => ways_len hr hn Ls x)
    have h2 := Nat.mul_le_mul_right (n ^ Ls.length) (next_len hr hn L s)
    rw [List.length_cons, Nat.pow_succ, Nat.mul_comm _ n]
    exact Nat.le_trans h1 h2
theorem ways_few {x m : List Rw} (hm : IsMerge x m) {k : Nat} (hk : x.length ≤ k) (hk1 : 1 ≤ k) (hk2 : k ≤ 30) {Ls : List Lt} (hl : Ls.length ≤ 4) (s : Sta) : (waysV m Ls s).length ≤ 1000000 := by
  have h1 := ways_len (merge_len hm k hk) hk1 Ls s
  have h2 : k ^ Ls.length ≤ 30 ^ Ls.length := Nat.pow_le_pow_left hk2 _
  have h3 : 30 ^ Ls.length ≤ 30 ^ 4 := Nat.pow_le_pow_right (by omega) hl
  have h4 : 30 ^ 4 = 810000 := by decide
  omega
theorem okW_canon {v : Vl} (h : okW v) : canon v := h.1.canon
theorem allO_mem {α : Type} {f : α → Option Vl} : ∀ {l : List α} {us : List Vl}, allO (l.map f) = some us → ∀ u ∈ us, ∃ x ∈ l, f x = some u
  | [], us, h, u, hu => by
    have : us = [] := by simpa [allO] using h.symm
    rw [this] at hu; cases hu
  | x :: l, us, h, u, hu => by
    cases hf : f x with
    | none => simp [allO, hf] at h
    | some y =>
      cases hr : allO (l.map f) with
      | none => simp [allO, hf, hr] at h
      | some ys =>
        have : us = y :: ys := by simpa [allO, hf, hr] using h.symm
        rw [this] at hu
        rcases List.mem_cons.1 hu with rfl | hu
        · exact ⟨x, List.mem_cons_self .., hf⟩
        · obtain ⟨z, hz, h2⟩ := allO_mem hr u hu
          exact ⟨z, List.mem_cons_of_mem _ hz, h2⟩
theorem head_ok {h : ByteArray} {ts : List Tm} (ht : ∀ t ∈ ts, okTm t) {s : Sta} (hs : okEnv s.1) {r : Rw} (hr : headV h ts s = some r) : ∀ v ∈ r.args, okW v := by
  unfold headV at hr
  cases ha : allO (ts.map (evalT s.1)) with
  | none => rw [ha] at hr; cases hr
  | some us =>
    rw [ha] at hr
    cases hr
    intro v hv
    obtain ⟨t, ht', he⟩ := allO_mem ha v hv
    exact evalT_ok hs (ht t ht') he
theorem fire_ok {h : ByteArray} {ts : List Tm} (ht : ∀ t ∈ ts, okTm t) {Ls : List Lt} (hL : ∀ L ∈ Ls, okLt L) {rows : List Rw} (hr : ∀ r ∈ rows, ∀ v ∈ r.args, okW v) : ∀ r ∈ fireV h ts Ls rows, ∀ v ∈ r.args, okW v := by
  intro r hrm
  obtain ⟨s, hs, he⟩ := List.mem_filterMap.1 hrm
  exact head_ok ht (ways_ok hr hL (s := ([], forever)) (fun p hp => by cases hp) hs).1 he
theorem ok_canon {rows : List Rw} (hr : ∀ r ∈ rows, ∀ v ∈ r.args, okW v) : ∀ r ∈ rows, canonR r := fun r h v hv => okW_canon (hr r h v hv)
theorem merge_ok {x m : List Rw} (hm : IsMerge x m) (hr : ∀ r ∈ x, ∀ v ∈ r.args, okW v) : ∀ r ∈ m, ∀ v ∈ r.args, okW v := fun r h => hr r (hm.sub r h)

end Go.Proofs.Ytfocjfnkcabbgaa
