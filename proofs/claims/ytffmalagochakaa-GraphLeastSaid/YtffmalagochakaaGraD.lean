/- graph: Dist. -/
import Derived.Test.YtffmalagochakaaFar
set_option linter.unusedVariables false
set_option linter.unusedSimpArgs false
namespace Go.Proofs.Ytffmalagochakaa
open Go.RowKit Go.Shelf

/-- The edges' table is such as there is. -/
theorem tok_tab {E : List Ed} (hE : ∀ e ∈ E, e.Fit) : TOk (tabF E) (E.map (·.b)) := by
  have key : ∀ u v c, tabF E u v = some c → ∃ e ∈ E, e.Ok ∧ e.a = u ∧ e.b = v ∧ e.c = c := fun u v c h => tab_sub E u v c h
  refine ⟨fun u v c h => ?_, fun u v c h => ?_, fun u v c h => ?_, fun u v c h => ?_⟩
  · obtain ⟨e, he, _, _, rfl, _⟩ := key u v c h
    exact List.mem_map_of_mem he
  · obtain ⟨e, he, _, _, rfl, _⟩ := key u v c h
    exact (hE e he).2.1
  · obtain ⟨e, he, h1, _, _, rfl⟩ := key u v c h
    exact h1.2.1
  · obtain ⟨e, he, h1, _, _, rfl⟩ := key u v c h
    exact h1.2.2
def mE (E : List Ed) : Nat := (E.length + 1) * (2 * E.length + 1)
theorem mE_le {E : List Ed} (h : E.length ≤ 1000) : mE E ≤ 100000000 := by
  unfold mE
  exact Nat.le_trans (Nat.mul_le_mul (show E.length + 1 ≤ 1001 by omega) (show 2 * E.length + 1 ≤ 2001 by omega)) (by omega)
/-- far, behind tabled. -/
theorem far_tab (w : World) (B b : Nat) (E : List Ed) (hT : TabAt w B b (2 * E.length) (tabF E)) (hE : ∀ e ∈ E, e.Fit) (hl : E.length ≤ 1000) (a : ByteArray) (ha : a.size ≤ maxLen) :
    Calls Try.prog 25 #[.map (some b), .string a] w (FarPost w (tabF E) a (mE E)) :=
  far25 w B b (2 * E.length) (tabF E) hT (E.map (·.b)) (tok_tab hE) a ha (mE E) (by unfold mE; rw [List.length_map]) (mE_le hl)
/-- What Dist tells. -/
noncomputable def dst (E : List Ed) (a b : ByteArray) : Option Int := by
  classical
  exact if h : ∃ o, DistO (RE E) a b o then Classical.choose h else none
theorem dst_spec {E : List Ed} {a b : ByteArray} {o : Option Int} (h : DistO (RE E) a b o) : dst E a b = o := by
  unfold dst
  rw [dif_pos ⟨o, h⟩]
  exact (Classical.choose_spec (⟨o, h⟩ : ∃ o, DistO (RE E) a b o)).uniq h
def DistPost (w : World) (E : List Ed) (a b : ByteArray) (e : Ending) (w' : World) : Prop := DistO (RE E) a b (dst E a b) ∧ e = .returned (.tuple #[.int .i64 ((dst E a b).getD 0), .bool (dst E a b).isSome]) ∧ New w w'

set_option maxHeartbeats 1000000 in
theorem dist13 (w : World) (A : Option Addr) (n c : Nat) (E : List Ed) (hn : n = E.length) (hA : SrcAt w A 3 (E.map edC)) (hE : ∀ e ∈ E, e.Fit) (hl : E.length ≤ 1000) (a b : ByteArray) (ha : a.size ≤ maxLen) (hb : b.size ≤ maxLen) :
    Calls Try.prog 13 #[.slice A n c, .string a, .string b] w (DistPost w E a b) := by
  have H1 := Lib.hid (tabled18 w A n c E hn hA hE (by omega))
  have HE := Lib.hid hE
  clear hA hE hn
  go_enter Try.func13, Try.ntmps13
  go_upto_region 1 with fail
  go_wp2_with first
    | (go_at_call 18; refine H1.out.mono ?_; rintro e w1 ⟨bt, rfl, ht, hn1⟩; have HT := Lib.hid ht; have HN1 := Lib.hid hn1; clear ht hn1)
    | (go_at_call 25; refine (far_tab _ _ _ E HT.out HE.out hl a ha).mono ?_; rintro e w2 ⟨bd, nd, f, rfl, hf, hnd, hd, hfs, hn2, hbd⟩; have HD := Lib.hid hd; have HN2 := Lib.hid (HN1.out.trans hn2 (fun _ _ x => x)); have HLk := Lib.hid (hf.look b hb); have Hds := Lib.hid (dst_spec (dist_tab (hd b))); clear hf hd hn2)
    | ((with_reducible refine wpl_lookup rfl _ _ 53 true rfl (.map (some bd)) (.string b) _ rfl rfl HLk.out ?_))
  go_ret2
  refine ⟨?_, ?_, HN2.out⟩
  · rw [Hds.out]
    exact dist_tab (HD.out b)
  · rw [Hds.out]
    rfl
end Go.Proofs.Ytffmalagochakaa
