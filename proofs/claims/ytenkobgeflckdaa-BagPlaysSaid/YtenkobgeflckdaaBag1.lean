/- The bag's parts: has, insert, Put, All, Take, Again, Move, Cut. -/
import Derived.Test.YtenkobgeflckdaaInsGram
import Derived.Test.YtenkobgeflckdaaDelFGram
import Derived.Test.YtenkobgeflckdaaCloneGram
import Derived.Deep.RegionHeld3
set_option linter.unusedVariables false
set_option linter.unusedSimpArgs false
namespace Go.Proofs.Ytenkobgeflckdaa
open Go.RowKit Go.Shelf

/-- A gram. -/
structure Gm where
  f : ByteArray
  t : ByteArray
  d : ByteArray
  deriving DecidableEq
def gcs (g : Gm) : List Value := [.string g.f, .string g.t, .string g.d]
theorem gcs_len (gs : List Gm) : ∀ cs ∈ gs.map gcs, cs.length = 3 := by
  intro cs h
  obtain ⟨g, _, rfl⟩ := List.mem_map.1 h
  rfl
theorem gcs_one (gs : List Gm) : ∀ cs ∈ gs.map gcs, ∀ u ∈ cs, u.oneCell' = true := by
  intro cs h u hu
  obtain ⟨g, _, rfl⟩ := List.mem_map.1 h
  simp only [gcs, List.mem_cons, List.not_mem_nil, or_false] at hu
  rcases hu with rfl | rfl | rfl <;> rfl
theorem gcs_flat_one (gs : List Gm) : ∀ u ∈ (gs.map gcs).flatten, u.oneCell' = true := by
  intro u hu
  obtain ⟨cs, hcs, hu⟩ := List.mem_flatten.1 hu
  exact gcs_one gs cs hcs u hu

/-- A bag (of type t) at block bb, whose row is v. -/
structure BagAt (t : TypeId) (w : World) (B bb : Nat) (v : Value) (gs : List Gm) (most : Int) : Prop where
  blk : Blk w bb t #[v, .int .i64 most]
  lo : B ≤ bb
  own : Own w B 33 3 v (gs.map gcs)
  t_ne : t ≠ 33
  le : (gs.length : Int) ≤ most
  m200 : most ≤ 200
theorem BagAt.lim {t : TypeId} {w : World} {B bb : Nat} {v : Value} {gs : List Gm} {most : Int} (h : BagAt t w B bb v gs most) : gs.length ≤ 200 := by
  have := h.le
  have := h.m200
  omega
def Terr (bb : Nat) (v : Value) (k : Nat) : Prop := k = bb ∨ v.ownBlock = some k
theorem BagAt.ne {t : TypeId} {w : World} {B bb : Nat} {v : Value} {gs : List Gm} {most : Int} (h : BagAt t w B bb v gs most) : v.ownBlock ≠ some bb := by
  intro he
  rcases h.own.1.2 with ⟨h1, _⟩ | ⟨g, cap, cur, h1, _, hg, _⟩
  · rw [h1] at he; cases he
  · rw [h1] at he
    simp only [Value.ownBlock, Option.some.injEq] at he
    subst he
    exact Blk.ne h.blk (show Blk w g _ cur from hg) h.t_ne rfl
theorem BagAt.chg {t : TypeId} {w w' : World} {T : Nat → Prop} {B bb : Nat} {v : Value} {gs : List Gm} {most : Int} (h : BagAt t w B bb v gs most) (hc : Chg w w' T) (hn : ∀ k, Terr bb v k → ¬ T k) : BagAt t w' B bb v gs most :=
  ⟨h.blk.chg hc (hn _ (.inl rfl)), h.lo, h.own.chg hc (fun g hg => hn g (.inr hg)), h.t_ne, h.le, h.m200⟩

/-- What a method leaves that turns a bag. -/
def BagTo (t : TypeId) (w : World) (B bb : Nat) (v : Value) (gs : List Gm) (most : Int) (r : Value) (e : Ending) (w' : World) : Prop :=
  e = .returned r ∧ Chg w w' (Terr bb v) ∧ ∃ v', BagAt t w' B bb v' gs most ∧ ∀ k, Terr bb v' k → Terr bb v k ∨ w.heap.size ≤ k

set_option maxHeartbeats 1000000 in
set_option maxRecDepth 100000 in
theorem insert_no (w : World) (B bb : Nat) (v : Value) (gs : List Gm) (most : Int) (h : BagAt 72 w B bb v gs most) (hf : most < (gs.length : Int) + 1) (i : Int) (A : Option Addr) (vc : Nat) :
    Calls Try.prog 45 #[.pointer (some ⟨bb, 0, none⟩), .int .i64 i, .slice A 1 vc] w (BagTo 72 w B bb v gs most (.bool false)) := by
  obtain ⟨A', cap, hv, _⟩ := h.own.form
  have c0 := h.blk.cell 0
  have c1 := h.blk.cell 1
  rw [hv] at c0
  simp only [List.length_map, List.getElem?_toArray, List.getElem?_cons_zero, List.getElem?_cons_succ] at c0 c1
  have hlim := h.lim
  have hd : decide (most < (gs.length : Int) + 1) = true := by simpa using hf
  have hfin : ∀ n, BagTo 72 w B bb v gs most (.bool false) (.returned (.bool false)) (w.drewN n) := fun n =>
    ⟨rfl, (Chg.refl w _).drewN n, v, h.chg ((Chg.refl w (fun _ => False)).drewN n) (fun _ _ x => x), fun k hk => .inl hk⟩
  have Hfin := Lib.hid hfin
  clear hfin h hv hf
  go_enter Try.func45, Try.ntmps45
  go_wp2_with fail
  go_quiet (fail)
  go_wp2_with fail
  go_ret
  exact Hfin.out _

theorem own_ne_blk {w : World} {B : Nat} {e t : TypeId} {k : Nat} {v : Value} {css : List (List Value)} {g : Nat} {cs : Array Value} (h : Own w B e k v css) (hb : Blk w g t cs) (hne : t ≠ e) : v.ownBlock ≠ some g := by
  intro he
  rcases h.1.2 with ⟨h1, _⟩ | ⟨g', cap, cur, h1, _, hg, _⟩
  · rw [h1] at he; cases he
  · rw [h1] at he
    simp only [Value.ownBlock, Option.some.injEq] at he
    subst he
    exact Blk.ne hb (show Blk w g' _ cur from hg) hne rfl

/-- The row has turned, and is stored back. -/
theorem BagTo.mk' {t : TypeId} {w w1 : World} {B bb : Nat} {v v' : Value} {gs gs' : List Gm} {most : Int} {r : Value} (h : BagAt t w B bb v gs most) (hc : Chg w w1 (fun k => v.ownBlock = some k)) (ho : Own w1 B 33 3 v' (gs'.map gcs))
    (hb : v'.ownBlock = v.ownBlock ∨ ∃ g, v'.ownBlock = some g ∧ w.heap.size ≤ g) (hl : (gs'.length : Int) ≤ most) : BagTo t w B bb v gs' most r (.returned r) (w1.setCell ⟨bb, 0, none⟩ v') := by
  have hb1 : Blk w1 bb t #[v, .int .i64 most] := h.blk.chg hc h.ne
  have hne := own_ne_blk ho hb1 h.t_ne
  refine ⟨rfl, (hc.mono fun k _ x => .inr x).setCell _ _ (fun _ => .inl rfl), v', ⟨?_, h.lo, ho.chg (T := fun k => k = bb) ((Chg.refl w1 _).setCell _ _ (fun _ => rfl)) (fun g hg e => hne (by rw [hg, e])), h.t_ne, hl, h.m200⟩, fun k hk => ?_⟩
  · have := hb1.setCell 0 v'
    simpa using this
  · rcases hk with hk | hk
    · exact .inl (.inl hk)
    · rcases hb with hb | ⟨g, hg, hlt⟩
      · exact .inl (.inr (by rw [← hb]; exact hk))
      · rw [hg, Option.some.injEq] at hk
        exact .inr (by omega)

set_option maxHeartbeats 1000000 in
set_option maxRecDepth 100000 in
theorem insert_yes (w : World) (B bb : Nat) (v : Value) (gs : List Gm) (most : Int) (h : BagAt 72 w B bb v gs most) (hf : (gs.length : Int) + 1 ≤ most) (hm : most ≤ 200) (i : Nat) (hi : i ≤ gs.length) (vb vc : Nat) (x : Gm) (tb : TypeId) (hv : Blk w vb tb (gcs x).toArray) (hvb : v.ownBlock ≠ some vb) (hB : B ≤ w.heap.size) :
    Calls Try.prog 45 #[.pointer (some ⟨bb, 0, none⟩), .int .i64 i, .slice (some ⟨vb, 0, none⟩) 1 vc] w (BagTo 72 w B bb v (gs.take i ++ x :: gs.drop i) most (.bool true)) := by
  obtain ⟨A', cap, hv', _⟩ := h.own.form
  have c0 := h.blk.cell 0
  have c1 := h.blk.cell 1
  simp only [List.getElem?_toArray, List.getElem?_cons_zero, List.getElem?_cons_succ] at c0 c1
  have c0' := c0
  rw [hv'] at c0
  simp only [List.length_map] at c0 hv'
  have hlim := h.lim
  have hd : decide (most < (gs.length : Int) + 1) = false := by simpa using hf
  have hins := fun n => insGram (w.drewN n) B v gs.length ((gs.map gcs).flatten) (by have := h.own.1; rw [List.length_map] at this; exact this) (gcs_flat_one gs) i hi vb vc (gcs x) rfl tb hv hvb (gcs_one [x] _ (by simp)) (by omega) hB
  have hfin : ∀ n e w', InsPostGram (w.drewN n) B gs.length v.ownBlock ((gs.map gcs).flatten.take (i * 3) ++ gcs x ++ (gs.map gcs).flatten.drop (i * 3)) e w' → ∃ A2 c2 n2, e = .returned (.slice A2 n2 c2) ∧ w'.cell? ⟨bb, 0, none⟩ = some v ∧ w'.frozen? ⟨bb, 0, none⟩ = false ∧
      BagTo 72 w B bb v (gs.take i ++ x :: gs.drop i) most (.bool true) (.returned (.bool true)) (w'.setCell ⟨bb, 0, none⟩ (.slice A2 n2 c2)) := by
    intro n e w' hp
    obtain ⟨v2, rfl, ho, hg, hblk⟩ := hp
    have hcss : (gs.map gcs).flatten.take (i * 3) ++ gcs x ++ (gs.map gcs).flatten.drop (i * 3) = ((gs.take i ++ x :: gs.drop i).map gcs).flatten := by
      rw [flatten_take i (gcs_len gs), flatten_drop i (gcs_len gs)]
      simp [List.map_take, List.map_drop]
    rw [hcss] at ho
    have hlen : gs.length + 1 = ((gs.take i ++ x :: gs.drop i).map gcs).length := by simp; omega
    have hown2 : Own w' B 33 3 v2 ((gs.take i ++ x :: gs.drop i).map gcs) := ⟨by rw [← hlen]; exact ho, gcs_len _⟩
    obtain ⟨A2, c2, hv2, _⟩ := hown2.form
    have hc : Chg w w' (fun k => v.ownBlock = some k) := (((Chg.refl w _).drewN n).trans (Chg.of_grown hg) (fun k _ e => e.symm))
    have hb1 : Blk w' bb 72 #[v, .int .i64 most] := h.blk.chg hc h.ne
    refine ⟨A2, c2, _, by rw [hv2], by rw [hb1.cell]; rfl, hb1.frozen 0, ?_⟩
    rw [← hv2]
    exact BagTo.mk' h hc hown2 hblk (by simp; omega)
  obtain ⟨bk, hbk⟩ : ∃ bk, bk = v.ownBlock := ⟨_, rfl⟩
  rw [← hbk] at hins hfin
  clear hbk
  rw [hv'] at hins
  have Hfin := Lib.hid hfin
  have Hins := Lib.hid hins
  clear hfin hins h hv hf c0' hvb
  clear hv'
  go_enter Try.func45, Try.ntmps45
  go_wp2_with fail
  go_quiet (fail)
  go_wp2_with fail
  refine (Hins.out _).mono ?_
  intro e w' hp
  obtain ⟨A2, c2, n2, rfl, hcell, hfro, hpost⟩ := Hfin.out _ _ _ hp
  have Hpost := Lib.hid hpost
  clear hpost hp
  go_wp2_with fail
  go_ret
  exact Hpost.out
end Go.Proofs.Ytenkobgeflckdaa
