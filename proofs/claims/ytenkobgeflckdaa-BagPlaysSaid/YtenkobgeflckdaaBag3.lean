/- The bag's methods: Put. -/
import Derived.Test.YtenkobgeflckdaaBag2
set_option linter.unusedVariables false
set_option linter.unusedSimpArgs false
namespace Go.Proofs.Ytenkobgeflckdaa
open Go.RowKit Go.Shelf

/-- A gram put behind the others, if there is room. -/
def putL (gs : List Gm) (most : Int) (x : Gm) : List Gm := if (gs.length : Int) + 1 ≤ most then gs ++ [x] else gs
def putOk (gs : List Gm) (most : Int) : Bool := decide ((gs.length : Int) + 1 ≤ most)

theorem insert_end (w : World) (B bb : Nat) (v : Value) (gs : List Gm) (most : Int) (h : BagAt 72 w B bb v gs most) (hm : most ≤ 200) (vb vc : Nat) (x : Gm) (tb : TypeId) (hv : Blk w vb tb (gcs x).toArray) (hvb : v.ownBlock ≠ some vb) (hB : B ≤ w.heap.size) :
    Calls Try.prog 45 #[.pointer (some ⟨bb, 0, none⟩), .int .i64 gs.length, .slice (some ⟨vb, 0, none⟩) 1 vc] w (BagTo 72 w B bb v (putL gs most x) most (.bool (putOk gs most))) := by
  unfold putL putOk
  by_cases hf : (gs.length : Int) + 1 ≤ most
  · rw [if_pos hf, decide_eq_true hf]
    have := insert_yes w B bb v gs most h hf hm gs.length (Nat.le_refl _) vb vc x tb hv hvb hB
    rw [List.take_of_length_le (Nat.le_refl _), List.drop_of_length_le (Nat.le_refl _)] at this
    exact this
  · rw [if_neg hf, decide_eq_false hf]
    exact insert_no w B bb v gs most h (by omega) gs.length _ vc

theorem BagTo.from {t : TypeId} {w w1 : World} {B bb : Nat} {v : Value} {gs : List Gm} {most : Int} {r : Value} {e : Ending} {w' : World} (hc : New w w1) (h : BagTo t w1 B bb v gs most r e w') : BagTo t w B bb v gs most r e w' := by
  obtain ⟨he, hc', v', hb, hk⟩ := h
  exact ⟨he, (hc.mono fun _ _ x => x.elim).trans hc' (fun _ _ x => x), v', hb, fun k hk' => (hk k hk').imp id fun h => Nat.le_trans hc.size h⟩

set_option maxHeartbeats 4000000 in
set_option maxRecDepth 100000 in
theorem put_any (w : World) (B bb : Nat) (v : Value) (gs : List Gm) (most : Int) (h : BagAt 72 w B bb v gs most) (hm : most ≤ 200) (x : Gm) (hB : B ≤ w.heap.size) :
    Calls Try.prog 19 #[.pointer (some ⟨bb, 0, none⟩), .agg #[.string x.f, .string x.t, .string x.d]] w (BagTo 72 w B bb v (putL gs most x) most (.bool (putOk gs most))) := by
  obtain ⟨A', cap, hv', _⟩ := h.own.form
  have hb := h.blk.lt
  have c0 := h.blk.cell 0
  simp only [List.getElem?_toArray, List.getElem?_cons_zero, List.getElem?_cons_succ] at c0
  rw [hv'] at c0
  simp only [List.length_map] at c0
  have hlim := h.lim
  have hlt : ∀ g, v.ownBlock = some g → g < w.heap.size := fun g hg => (h.own.lt hg).2
  have hN : New w ((w.alloc (.cells #[.string x.f, .string x.t, .string x.d] 33)).alloc (.cells #[.string x.f, .string x.t, .string x.d] 33)).drew := (((Chg.refl w _).alloc _).alloc _).drew
  have hB2 : Blk ((w.alloc (.cells #[.string x.f, .string x.t, .string x.d] 33)).alloc (.cells #[.string x.f, .string x.t, .string x.d] 33)).drew (w.heap.size + 1) 33 (gcs x).toArray := by
    have := Blk.new (w.alloc (.cells #[.string x.f, .string x.t, .string x.d] 33)) 33 #[.string x.f, .string x.t, .string x.d]
    rw [World.size_alloc] at this
    exact this
  have hins := insert_end _ B bb v gs most (h.chg hN (fun _ _ x => x)) hm (w.heap.size + 1) 1 x _ hB2 (fun e => by have := hlt _ e; omega) (Nat.le_trans hB hN.size)
  have Hins := Lib.hid hins
  have HN := Lib.hid hN
  clear h hv' hlt hins hN hB2
  have d0 := fun o => (((Chg.refl w (fun _ => False)).alloc o).cell (a := ⟨bb, 0, none⟩) hb id).trans c0
  go_enter Try.func19, Try.ntmps19
  go_wp2_with fail
  go_region_law ((go_simp; go_at_call 45; refine Hins.out.mono ?_; rintro e w' hp; have Hp := Lib.hid hp; obtain ⟨rfl, _⟩ := hp))
  all_goals (go_wp2_with fail; go_ret; exact BagTo.from HN.out Hp.out)
end Go.Proofs.Ytenkobgeflckdaa
