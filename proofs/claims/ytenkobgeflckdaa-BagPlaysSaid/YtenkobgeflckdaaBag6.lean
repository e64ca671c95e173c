/- The bag's method Cut. -/
import Derived.Test.YtenkobgeflckdaaBag5
set_option linter.unusedVariables false
set_option linter.unusedSimpArgs false
namespace Go.Proofs.Ytenkobgeflckdaa
open Go.RowKit Go.Shelf

/-- Is a gram between two nodes? -/
def cutP (a c : ByteArray) (x : Gm) : Bool := decide ((x.f = a ∧ x.t = c) ∨ (x.f = c ∧ x.t = a))
def strOf : Value → ByteArray | .string s => s | _ => ⟨#[]⟩
def cutC (a c : ByteArray) (cs : List Value) : Bool := cutP a c ⟨strOf (cs.getD 0 undef), strOf (cs.getD 1 undef), strOf (cs.getD 2 undef)⟩
theorem cutC_gcs (a c : ByteArray) (x : Gm) : cutC a c (gcs x) = cutP a c x := rfl

theorem tl_eq {a b : ByteArray} : a.toList = b.toList ↔ a = b := by
  rw [ByteArray.toList_eq, ByteArray.toList_eq]
  exact ⟨fun h => ByteArray.ext (Array.toList_inj.mp h), fun h => by rw [h]⟩

set_option maxHeartbeats 4000000 in
set_option maxRecDepth 100000 in
theorem cutf_any (W : World) (ba bc : Nat) (a c : ByteArray) (x : Gm) (ha : W.cell? ⟨ba, 0, none⟩ = some (.string a)) (hc : W.cell? ⟨bc, 0, none⟩ = some (.string c)) :
    Calls Try.prog 50 #[.agg #[.string x.f, .string x.t, .string x.d], .pointer (some ⟨ba, 0, none⟩), .pointer (some ⟨bc, 0, none⟩)] W fun e W' => e = .returned (.bool (cutP a c x)) ∧ New W W' := by
  have la := World.block_lt_of_cell? W _ ha
  have lc := World.block_lt_of_cell? W _ hc
  go_enter Try.func50, Try.ntmps50
  go_wp2_with fail
  all_goals (go_ret; refine ⟨congrArg (fun b => Ending.returned (.bool b)) (Bool.eq_iff_iff.2 ?_), (Chg.refl W _).alloc _⟩; clear ha hc la lc; simp only [tl_eq] at *; simp [cutP, tl_eq, *]; try (intro h1 h2; simp_all))

set_option maxHeartbeats 4000000 in
set_option maxRecDepth 100000 in
theorem cut_any (w : World) (B bb : Nat) (v : Value) (gs : List Gm) (most : Int) (h : BagAt 72 w B bb v gs most) (a c : ByteArray) :
    Calls Try.prog 28 #[.pointer (some ⟨bb, 0, none⟩), .string a, .string c] w (BagTo 72 w B bb v (gs.filter fun x => !cutP a c x) most (.int .i64 ((gs.length : Int) - (gs.filter fun x => !cutP a c x).length))) := by
  obtain ⟨A', cap, hv, hlc, _⟩ := h.own.form
  have c0 := h.blk.cell 0
  have hbl := h.blk.lt
  have hlim := h.lim
  simp only [List.getElem?_toArray, List.getElem?_cons_zero, List.getElem?_cons_succ] at c0
  rw [hv] at c0
  simp only [List.length_map] at c0
  obtain ⟨W2, hW2⟩ : ∃ W2, W2 = (w.alloc (.cells #[.string a] 9)).alloc (.cells #[.string c] 9) := ⟨_, rfl⟩
  have hN : New w W2 := by rw [hW2]; exact ((Chg.refl w _).alloc _).alloc _
  have hba : Blk W2 w.heap.size 9 #[.string a] := by rw [hW2]; exact (Blk.new w _ _).alloc _
  have hbc : Blk W2 (w.heap.size + 1) 9 #[.string c] := by
    have := Blk.new (w.alloc (.cells #[.string a] 9)) 9 #[.string c]
    rw [World.size_alloc] at this
    rw [hW2]
    exact this
  have h2 := h.chg hN (fun _ _ x => x)
  have hlo : ∀ g, v.ownBlock = some g → g < w.heap.size := fun g hg => (h.own.lt hg).2
  have hsays : ∀ cs ∈ gs.map gcs, Says Try.prog W2 (fun k => v.ownBlock = some k) 50 #[.pointer (some ⟨w.heap.size, 0, none⟩), .pointer (some ⟨w.heap.size + 1, 0, none⟩)] #[.agg cs.toArray] (.bool (cutC a c cs)) := by
    intro cs hcs W hW
    obtain ⟨x, _, rfl⟩ := List.mem_map.1 hcs
    rw [cutC_gcs]
    exact cutf_any W w.heap.size (w.heap.size + 1) a c x (by have := (hba.chg hW (fun e => by have := hlo _ e; omega)).cell 0; exact this) (by have := (hbc.chg hW (fun e => by have := hlo _ e; omega)).cell 0; exact this)
  have hdel := delFGram W2 B v (gs.map gcs) h2.own (gcs_one gs) 50 _ (enters_of Try.func50 (by kernel_rfl) rfl) (cutC a c) hsays
  have hfil : (gs.map gcs).filter (fun cs => !cutC a c cs) = (gs.filter fun x => !cutP a c x).map gcs := by
    rw [List.filter_map]
    rfl
  rw [hfil] at hdel
  obtain ⟨gs', hgs'⟩ : ∃ gs', gs' = gs.filter fun x => !cutP a c x := ⟨_, rfl⟩
  rw [← hgs'] at hdel ⊢
  have hl' : gs'.length ≤ gs.length := by rw [hgs']; exact List.length_filter_le _ _
  obtain ⟨bk, hbk⟩ : ∃ bk, bk = v.ownBlock := ⟨_, rfl⟩
  have hfin : ∀ (e : Ending) (w' : World), DelFPostGram W2 B bk (gs'.map gcs) e w' → ∃ A2 c2, e = .returned (.slice A2 gs'.length c2) ∧ w'.cell? ⟨bb, 0, none⟩ = some v ∧ w'.frozen? ⟨bb, 0, none⟩ = false ∧
      BagTo 72 w B bb v gs' most (.int .i64 ((gs.length : Int) - gs'.length)) (.returned (.int .i64 ((gs.length : Int) - gs'.length))) (w'.setCell ⟨bb, 0, none⟩ (.slice A2 gs'.length c2)) := by
    rintro e w' ⟨v2, rfl, ho, hg, hblk⟩
    obtain ⟨A2, c2, hv2, _⟩ := ho.form
    rw [List.length_map] at hv2
    have hc : Chg W2 w' (fun k => v.ownBlock = some k) := (Chg.of_grown hg).mono fun k _ e => by rw [← hbk]; exact e.symm
    have hb1 : Blk w' bb 72 #[v, .int .i64 most] := h2.blk.chg hc h.ne
    refine ⟨A2, c2, by rw [hv2], by rw [hb1.cell]; rfl, hb1.frozen 0, ?_⟩
    rw [← hv2]
    exact BagTo.from hN (BagTo.mk' h2 hc ho (.inl (by rw [hblk, hbk])) (by have := h.le; omega))
  rw [← hbk, hv, hW2] at hdel
  simp only [List.length_map] at hdel
  rw [hW2] at hfin
  have Hdel := Lib.hid hdel
  have Hfin := Lib.hid hfin
  clear hdel hfin hsays h2 h hba hbc hN hv hW2 hbk hgs' hfil hlo
  go_enter Try.func28, Try.ntmps28
  go_wp2_with fail
  refine Hdel.out.mono ?_
  intro e w4 hp
  obtain ⟨A2, c2, rfl, k0, k1, hpost⟩ := Hfin.out _ _ hp
  have Hpost := Lib.hid hpost
  clear hpost hp
  go_wp2_with fail
  go_ret
  exact Hpost.out
end Go.Proofs.Ytenkobgeflckdaa
