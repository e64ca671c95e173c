/- A table of rows in one block, and a comparison of two of them. -/
import Derived.Test.YtenkobgeflckdabElVR
import Derived.Test.YtenkobgeflckdabSrtP
import Derived.Test.YtenkobgeflckdabWS
set_option linter.unusedVariables false
set_option linter.unusedSimpArgs false
namespace Go.Proofs.Ytenkobgeflckdab
open Go.RowKit Go.Shelf

/-- Cells of a row. -/
def rowCs (cs : List Value) : Prop := cs.length = 3 ∧ ∀ u ∈ cs, u.oneCell' = true
structure Tab (W : World) (g n : Nat) (e : List (List Value)) (rest : List Value) : Prop where
  blk : Blk W g 30 (e.flatten ++ rest).toArray
  len : e.length = n
  row : ∀ cs ∈ e, rowCs cs
theorem Tab.k3 {W : World} {g n : Nat} {e : List (List Value)} {rest : List Value} (h : Tab W g n e rest) : ∀ cs ∈ e, cs.length = 3 := fun cs hc => (h.row cs hc).1
theorem Tab.get {W : World} {g n : Nat} {e : List (List Value)} {rest : List Value} (h : Tab W g n e rest) {i : Nat} {cs : List Value} (hi : e[i]? = some cs) : At W ⟨g, i * 3, none⟩ cs := fun j u hj => by
  have hb := h.blk.cell (i * 3 + j)
  rw [Addr.add_lit, hb, List.getElem?_toArray]
  have hf := flatten_get h.k3 hi hj
  rw [List.getElem?_append_left (List.getElem?_eq_some_iff.1 hf).1]
  exact hf
theorem Tab.cs {W : World} {g n : Nat} {e : List (List Value)} {rest : List Value} (h : Tab W g n e rest) {i : Nat} (hi : i < n) : ∃ cs, e[i]? = some cs ∧ cs ∈ e ∧ rowCs cs := by
  have h1 : e[i]? = some (e[i]'(by rw [h.len]; exact hi)) := List.getElem?_eq_getElem _
  exact ⟨_, h1, List.mem_of_getElem? h1, h.row _ (List.mem_of_getElem? h1)⟩
theorem Tab.chg {W W' : World} {g n : Nat} {e : List (List Value)} {rest : List Value} {T : Nat → Prop} (h : Tab W g n e rest) (hc : Chg W W' T) (hn : ¬ T g) : Tab W' g n e rest := ⟨h.blk.chg hc hn, h.len, h.row⟩
theorem lay_flat {e : List (List Value)} {rest cs : List Value} {i : Nat} (hk : ∀ c ∈ e, c.length = 3) (hi : i < e.length) (hl : cs.length = 3) : layA (e.flatten ++ rest).toArray (i * 3) cs = ((e.set i cs).flatten ++ rest).toArray := by
  unfold layA lay
  congr 1
  have hfl := flatten_len hk
  simp only []
  rw [List.take_append_of_le_length (by rw [hfl]; omega), flatten_take i hk, hl, show i * 3 + 3 = (i + 1) * 3 by omega, List.drop_append_of_le_length (by rw [hfl]; omega), flatten_drop (i + 1) hk, List.set_eq_take_append_cons_drop, if_pos hi]
  simp [List.append_assoc]
theorem Tab.set {W : World} {g n : Nat} {e : List (List Value)} {rest : List Value} (h : Tab W g n e rest) {i : Nat} {cs : List Value} (hi : i < n) (hc : rowCs cs) : Tab (W.setRow g (layA (e.flatten ++ rest).toArray (i * 3) cs)) g n (e.set i cs) rest := by
  rw [lay_flat h.k3 (by rw [h.len]; exact hi) hc.1]
  refine ⟨h.blk.set _, by rw [List.length_set, h.len], fun c hc' => ?_⟩
  rcases List.mem_or_eq_of_mem_set hc' with h1 | h1
  · exact h.row c h1
  · rw [h1]; exact hc
theorem Tab.fit {W : World} {g n : Nat} {e : List (List Value)} {rest : List Value} (h : Tab W g n e rest) {i : Nat} (hi : i < n) : i * 3 + 3 ≤ (e.flatten ++ rest).toArray.size := by
  have := flatten_len h.k3
  simp [this, h.len]
  omega
/-- What a comparison gives of two rows of a table. -/
def CmpAt (w : World) (g f : Nat) (lb : Array Value) (cf : List Value → List Value → Int) (d : List (List Value)) : Prop := ∀ x ∈ d, ∀ y ∈ d, Says Try.prog w (fun k => k = g) f lb #[.agg x.toArray, .agg y.toArray] (.int .i64 (cf x y))
theorem CmpAt.chg {w w' : World} {g f : Nat} {lb : Array Value} {cf : List Value → List Value → Int} {d : List (List Value)} (h : CmpAt w g f lb cf d) (hc : Chg w w' (fun k => k = g)) : CmpAt w' g f lb cf d := fun x hx y hy => (h x hx y hy).chg hc
theorem CmpAt.perm {w : World} {g f : Nat} {lb : Array Value} {cf : List Value → List Value → Int} {d d' : List (List Value)} (h : CmpAt w g f lb cf d) (hp : d'.Perm d) : CmpAt w g f lb cf d' := fun x hx y hy => h x (hp.mem_iff.1 hx) y (hp.mem_iff.1 hy)
/-- What sorting a range leaves. -/
def Sorts (w : World) (g n a b : Nat) (rest : List Value) (cf : List Value → List Value → Int) (d : List (List Value)) (e : Ending) (w' : World) : Prop :=
  e = .returned (.tuple #[]) ∧ ∃ d', d'.Perm d ∧ Mix d' d a b ∧ Srt cf d' a b ∧ Tab w' g n d' rest ∧ Chg w w' (fun k => k = g)
end Go.Proofs.Ytenkobgeflckdab
