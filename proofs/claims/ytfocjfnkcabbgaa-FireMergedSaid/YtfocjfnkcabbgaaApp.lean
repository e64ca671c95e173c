/- The slice type over Value; The slice type over Row; A table of rows in one block, and a comparison of two of them; Append to a slice of one's own, from any slice. -/
import Derived.Test.YtfocjfnkcabbgaaProg
import Derived.Test.YtfocjfnkcabbgaaWa
import Derived.KernelRfl
import Derived.Test.YtfocjfnkcabbgaaSrtP
import Derived.Test.YtfocjfnkcabbgaaWS
namespace Go.Proofs.Ytfocjfnkcabbgaa
theorem elValue : ElT Try.prog 35 37 4 56 (Value.cells (.agg #[.int .i64 0, .int .i64 0, .string ⟨#[]⟩, .slice none 0 0])).toList :=
  ElT.mk' (by kernel_rfl) (by kernel_rfl) rfl (by omega) (by intro u hu; simp only [Value.cells, List.mem_cons, List.not_mem_nil, or_false] at hu; rcases hu with rfl | rfl | rfl | rfl <;> rfl)
theorem stValue : StT Try.prog 37 4 := ⟨⟨_, Try.underlying37⟩, by kernel_rfl⟩
end Go.Proofs.Ytfocjfnkcabbgaa

namespace Go.Proofs.Ytfocjfnkcabbgaa
theorem elRow : ElT Try.prog 29 45 3 48 (Value.cells (.agg #[.string ⟨#[]⟩, .slice none 0 0, .int .i64 0])).toList :=
  ElT.mk' (by kernel_rfl) (by kernel_rfl) rfl (by omega) (by intro u hu; simp only [Value.cells, List.mem_cons, List.not_mem_nil, or_false] at hu; rcases hu with rfl | rfl | rfl <;> rfl)
theorem stRow : StT Try.prog 45 3 := ⟨⟨_, Try.underlying45⟩, by kernel_rfl⟩
end Go.Proofs.Ytfocjfnkcabbgaa

set_option linter.unusedVariables false
set_option linter.unusedSimpArgs false
namespace Go.Proofs.Ytfocjfnkcabbgaa
open Go.RowKit Go.Shelf

/-- Cells of a row. -/
def rowCs (cs : List Value) : Prop := cs.length = 3 ∧ ∀ u ∈ cs, u.oneCell' = true
structure Tab (W : World) (g n : Nat) (e : List (List Value)) (rest : List Value) : Prop where
  blk : Blk W g 45 (e.flatten ++ rest).toArray
  len : e.length = n
  row : ∀ cs ∈ e, rowCs cs
theorem Tab.k3 {W : World} {g n : Nat} {e : List (List Value)} {rest : List Value} (h : Tab W g n e rest) : ∀ cs ∈ e, cs.length = 3 := fun cs hc => (h.row cs hc).1
theorem Tab.get {W : World} {g n : Nat} {e : List (List Value)} {rest : List Value} (h : Tab W g n e rest) {i : Nat} {cs : List Value} (hi : e[i]? = some cs) : At W ⟨g, i * 3, none⟩ cs := fun j u hj => by
  have hb := h.blk.cell (i * 3 + j)
  rw [Addr.add_lit, hb, List.getElem?_toArray]
  have hf := flatten_get h.k3 hi hj
  rw [List.getElem?_append_left (List.getElem?_eq_some_iff.1 hf).1]
  exact hf
theorem Tab.cs {W : World} {g n : Nat} {e : List (List Value)} {rest : List Value} (h : Tab W g n e rest) {i : Nat} (hi : i < n) : ∃ cs, e[i]? = some cs ∧ cs ∈ e ∧ rowCs cs := by
  have h1 : e[i]? = some (e[i]'(by rw [h.len]; exact hi)) := List.getElem?_eq_getElem _
  exact ⟨_, h1, List.mem_of_getElem? h1, h.row _ (List.mem_of_getElem? h1)⟩
theorem Tab.chg {W W' : World} {g n : Nat} {e : List (List Value)} {rest : List Value} {T : Nat → Prop} (h : Tab W g n e rest) (hc : Chg W W' T) (hn : ¬ T g) : Tab W' g n e rest := ⟨h.blk.chg hc hn, h.len, h.row⟩
theorem lay_flat {e : List (List Value)} {rest cs : List Value} {i : Nat} (hk : ∀ c ∈ e, c.length = 3) (hi : i < e.length) (hl : cs.length = 3) : layA (e.flatten ++ rest).toArray (i * 3) cs = ((e.set i cs).flatten ++ rest).toArray := by
  unfold layA lay
  congr 1
  have hfl := flatten_len hk
  simp only []
  rw [List.take_append_of_le_length (by rw [hfl]; omega), flatten_take i hk, hl, show i * 3 + 3 = (i + 1) * 3 by omega, List.drop_append_of_le_length (by rw [hfl]; omega), flatten_drop (i + 1) hk, List.set_eq_take_append_cons_drop, if_pos hi]
  simp [List.append_assoc]
theorem Tab.set {W : World} {g n : Nat} {e : List (List Value)} {rest : List Value} (h : Tab W g n e rest) {i : Nat} {cs : List Value} (hi : i < n) (hc : rowCs cs) : Tab (W.setRow g (layA (e.flatten ++ rest).toArray (i * 3) cs)) g n (e.set i cs) rest := by
  rw [lay_flat h.k3 (by rw [h.len]; exact hi) hc.1]
  refine ⟨h.blk.set _, by rw [List.length_set, h.len], fun c hc' => ?_⟩
  rcases List.mem_or_eq_of_mem_set hc' with h1 | h1
  · exact h.row c h1
  · rw [h1]; exact hc
theorem Tab.fit {W : World} {g n : Nat} {e : List (List Value)} {rest : List Value} (h : Tab W g n e rest) {i : Nat} (hi : i < n) : i * 3 + 3 ≤ (e.flatten ++ rest).toArray.size := by
  have := flatten_len h.k3
  simp [this, h.len]
  omega
/-- What a comparison gives of two rows of a table. -/
def CmpAt (w : World) (g f : Nat) (lb : Array Value) (cf : List Value → List Value → Int) (d : List (List Value)) : Prop := ∀ x ∈ d, ∀ y ∈ d, Says Try.prog w (fun k => k = g) f lb #[.agg x.toArray, .agg y.toArray] (.int .i64 (cf x y))
theorem CmpAt.chg {w w' : World} {g f : Nat} {lb : Array Value} {cf : List Value → List Value → Int} {d : List (List Value)} (h : CmpAt w g f lb cf d) (hc : Chg w w' (fun k => k = g)) : CmpAt w' g f lb cf d := fun x hx y hy => (h x hx y hy).chg hc
theorem CmpAt.perm {w : World} {g f : Nat} {lb : Array Value} {cf : List Value → List Value → Int} {d d' : List (List Value)} (h : CmpAt w g f lb cf d) (hp : d'.Perm d) : CmpAt w g f lb cf d' := fun x hx y hy => h x (hp.mem_iff.1 hx) y (hp.mem_iff.1 hy)
/-- What sorting a range leaves. -/
def Sorts (w : World) (g n a b : Nat) (rest : List Value) (cf : List Value → List Value → Int) (d : List (List Value)) (e : Ending) (w' : World) : Prop :=
  e = .returned (.tuple #[]) ∧ ∃ d', d'.Perm d ∧ Mix d' d a b ∧ Srt cf d' a b ∧ Tab w' g n d' rest ∧ Chg w w' (fun k => k = g)
end Go.Proofs.Ytfocjfnkcabbgaa

set_option linter.unusedVariables false
namespace Go.Proofs.Ytfocjfnkcabbgaa
open Go.RowKit Go.Shelf

/-- Rows that a slice's cells hold. -/
def SrcAt (W : World) (A : Option Addr) (k : Nat) (ds : List (List Value)) : Prop := 0 < ds.length → ∃ a, A = some a ∧ RowsAt W a k ds
theorem SrcAt.chg {W W' : World} {A : Option Addr} {k : Nat} {ds : List (List Value)} {T : Nat → Prop} (h : SrcAt W A k ds) (hc : Chg W W' T) (hn : ∀ a, A = some a → ¬ T a.block) : SrcAt W' A k ds := fun hp => by
  obtain ⟨a, ha, hr⟩ := h hp
  exact ⟨a, ha, hr.chg hc (hn a ha)⟩

section
variable {P : Program} {t e : TypeId} {k bytes : Nat} {zs : List Value}
theorem ElT.appendS (hE : ElT P t e k bytes zs) {B : Nat} {W : World} {v : Value} {css : List (List Value)} (ho : Own W B e k v css) (hB : B ≤ W.heap.size) (A : Option Addr) (m c : Nat) (ds : List (List Value)) (hm : m = ds.length) (hk : ∀ cs ∈ ds, cs.length = k) (h1 : ∀ cs ∈ ds, ∀ u ∈ cs, u.oneCell' = true)
    (hr : SrcAt W A k ds) (hb : (css.length + m) * bytes ≤ 140737488355328) (hb2 : css.length + m ≤ maxLen) (ty : TypeId) :
    ∃ v' W', (Builtin.append_ #[t, t] ty #[v, .slice A m c]).run P W = .ok v' W' ∧ Own W' B e k v' (css ++ ds) ∧ Chg W W' (fun k => v.ownBlock = some k) ∧ ∀ k, v'.ownBlock = some k → v.ownBlock = some k ∨ W.heap.size ≤ k := by
  cases A with
  | none =>
    have h0 : ds = [] := by
      cases ds with
      | nil => rfl
      | cons x l =>
        obtain ⟨a, h, _⟩ := hr (by simp)
        cases h
    subst h0
    obtain rfl : m = 0 := hm
    obtain ⟨i, z, hi, hz, hs, _, _, _⟩ := hE.info
    refine ⟨v, W, ?_, by rw [List.append_nil]; exact ho, Chg.refl _ _, fun k hk => .inl hk⟩
    have := run_append_owned_none (P := P) W B t ty e i k hE.und hi v css.length css.flatten ho.1
    exact this
  | some ad =>
    have hf : ds.flatten.length = m * k := by rw [flatten_len hk, hm]
    obtain ⟨v', W', hrun, hown, hg, _, hblk⟩ := hE.append W ty B v css.length css.flatten ho.1 ad m c ds.flatten hf (fun j u hj => by
      have hjl : j < m * k := by rw [← hf]; exact (List.getElem?_eq_some_iff.1 hj).1
      have hkp := hE.pos
      have hq : j / k < ds.length := by rw [← hm]; exact Nat.div_lt_of_lt_mul (by rw [Nat.mul_comm]; exact hjl)
      obtain ⟨a, ha, hr⟩ := hr (Nat.lt_of_le_of_lt (Nat.zero_le _) hq)
      obtain rfl := Option.some.inj ha
      have hgr := hr (j / k) ds[j / k] (List.getElem?_eq_getElem hq)
      have hlen := hgr.1
      have hc : (ds[j / k])[j % k]? = some ((ds[j / k])[j % k]'(by rw [hlen]; exact Nat.mod_lt _ hkp)) := List.getElem?_eq_getElem _
      have h2 := hgr.2 (j % k) _ hc
      have hfl := flatten_get hk (i := j / k) (cs := ds[j / k]) (List.getElem?_eq_getElem hq) hc
      have hjj : j / k * k + j % k = j := by rw [Nat.mul_comm]; exact Nat.div_add_mod j k
      rw [hjj, hj] at hfl
      rw [add_add, hjj] at h2
      rw [h2, Option.some.inj hfl]) (fun u hu => by
        obtain ⟨cs, hcs, hu⟩ := List.mem_flatten.1 hu
        exact h1 cs hcs u hu) hb2 hb hB
    refine ⟨v', W', hrun, ⟨?_, fun cs hcs => ?_⟩, (Chg.of_grown hg).mono fun k _ hk => hk.symm, fun k hk => ?_⟩
    · rw [List.length_append, List.flatten_append, ← hm]
      exact hown
    · rcases List.mem_append.1 hcs with h | h
      · exact ho.2 cs h
      · exact hk cs h
    · rcases hblk with h | h
      · exact .inl (h ▸ hk)
      · rw [h] at hk
        exact .inr (Nat.le_of_eq (Option.some.inj hk))
theorem SrcAt.take {W : World} {A : Option Addr} {ds : List (List Value)} (h : SrcAt W A k ds) (i : Nat) : SrcAt W A k (ds.take i) := fun hp => by
  rw [List.length_take] at hp
  obtain ⟨a, ha, hr⟩ := h (by omega)
  refine ⟨a, ha, fun j cs hj => ?_⟩
  rw [List.getElem?_take] at hj
  split at hj
  · exact hr j cs hj
  · cases hj
theorem SrcAt.drop {W : World} {a : Addr} {ds : List (List Value)} (h : SrcAt W (some a) k ds) {i cap : Nat} (hi : i ≤ ds.length) (hc : ds.length ≤ cap) : SrcAt W (if cap = i then some a else some (a.add (i * k))) k (ds.drop i) := fun hp => by
  rw [List.length_drop] at hp
  obtain ⟨a', ha, hr⟩ := h (by omega)
  obtain rfl := Option.some.inj ha
  rw [if_neg (by omega)]
  refine ⟨_, rfl, fun j cs hj => ?_⟩
  rw [List.getElem?_drop] at hj
  have := hr (i + j) cs hj
  rw [add_add, ← Nat.add_mul]
  exact this
theorem SrcAt.dropO {W : World} {A : Option Addr} {ds : List (List Value)} (h : SrcAt W A k ds) {i cap : Nat} (hi : i ≤ ds.length) (hc : ds.length ≤ cap) : SrcAt W (if cap = i then A else A.map (fun a => a.add (i * k))) k (ds.drop i) := by
  cases A with
  | none =>
    intro hp
    rw [List.length_drop] at hp
    obtain ⟨a, ha, _⟩ := h (by omega)
    cases ha
  | some a => exact h.drop hi hc
end
end Go.Proofs.Ytfocjfnkcabbgaa
