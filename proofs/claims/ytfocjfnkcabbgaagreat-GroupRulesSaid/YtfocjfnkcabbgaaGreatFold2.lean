/- folds. -/
import Derived.Test.YtfocjfnkcabbgaaGreatFold
set_option linter.unusedVariables false
set_option linter.unusedSimpArgs false
namespace Go.Proofs.YtfocjfnkcabbgaaGreat
open Go.RowKit Go.Shelf

/-- A function value that folds. -/
def FoldAt (w : World) (fv : Value) (ag : Ag) : Prop := ∃ g lb, fv = .func (.func g) #[] lb ∧ Enters Tryz.prog g ∧ ∀ W, New w W → ∀ so xv first, (ag = .count → first = false → 0 ≤ so.i ∧ so.i ≤ 1000000) →
  Calls Tryz.prog g (#[vval so, vval xv, .bool first] ++ lb) W fun e w' => e = .returned (vval (foldV ag so xv first)) ∧ New W w'
theorem FoldAt.chg {w w' : World} {fv : Value} {ag : Ag} (h : FoldAt w fv ag) (hc : New w w') : FoldAt w' fv ag := by
  obtain ⟨g, lb, h1, h2, h3⟩ := h
  exact ⟨g, lb, h1, h2, fun W hW => h3 W (hc.trans hW (fun _ _ x => x))⟩
def FoldPost (w : World) (ag : Ag) (e : Ending) (w' : World) : Prop := ∃ fv, e = .returned fv ∧ FoldAt w' fv ag ∧ New w w'

set_option maxHeartbeats 1000000 in
theorem best_fold (w : World) (ag : Ag) (sign : Int) (hs : (ag = .max ∧ sign = 1) ∨ (ag = .min ∧ sign = -1)) : Calls Tryz.prog 47 #[.int .i64 sign] w (FoldPost w ag) := by
  have hb : Blk (w.alloc (.cells #[.int .i64 sign] 3)) w.heap.size 3 #[.int .i64 sign] := Blk.new w _ _
  have hN : New w (w.alloc (.cells #[.int .i64 sign] 3)) := (Chg.refl _ _).alloc _
  have HB := Lib.hid hb
  have HN := Lib.hid hN
  have Hs := Lib.hid hs
  clear hb hN hs
  go_enter Tryz.func47, Tryz.ntmps47
  go_wp2_with fail
  go_ret
  refine ⟨_, rfl, ⟨48, _, rfl, enters_of Tryz.func48 (by kernel_rfl) rfl, fun W hW so xv first _ => ?_⟩, HN.out⟩
  have hc := hW.cellS (HB.out.cell 0) id
  have hb := best_call W w.heap.size sign (Hs.out.imp (fun h => h.2) (fun h => h.2)) hc so xv first
  rcases Hs.out with ⟨rfl, rfl⟩ | ⟨rfl, rfl⟩
  · rw [best_max] at hb; exact hb
  · rw [best_min] at hb; exact hb

set_option maxHeartbeats 2000000 in
set_option maxRecDepth 100000 in
theorem count_call (w : World) (so xv : Vl) (first : Bool) (hb : first = false → 0 ≤ so.i ∧ so.i ≤ 1000000) :
    Calls Tryz.prog 50 #[.agg #[.int .i64 so.k, .int .i64 so.i, .string so.t, .slice none 0 0], .agg #[.int .i64 xv.k, .int .i64 xv.i, .string xv.t, .slice none 0 0], .bool first] w fun e w' => e = .returned (vval (foldV .count so xv first)) ∧ New w w' := by
  obtain ⟨w1, hw1⟩ : ∃ w1, w1 = ((w.alloc (.cells #[.int .i64 so.k, .int .i64 so.i, .string so.t, .slice none 0 0] 40)).alloc (.cells #[.int .i64 xv.k, .int .i64 xv.i, .string xv.t, .slice none 0 0] 40)).alloc (.cells #[.int .i64 0, .int .i64 0, .string ⟨#[]⟩, .slice none 0 0] 40) := ⟨_, rfl⟩
  have hN1 : New w w1 := by rw [hw1]; exact (((Chg.refl _ _).alloc _).alloc _).alloc _
  have b0 : Blk w1 w.heap.size 40 #[.int .i64 so.k, .int .i64 so.i, .string so.t, .slice none 0 0] := by rw [hw1]; exact ((Blk.new w _ _).alloc _).alloc _
  have b2 : Blk w1 (w.heap.size + 1 + 1) 40 #[.int .i64 0, .int .i64 0, .string ⟨#[]⟩, .slice none 0 0] := by
    have := Blk.new ((w.alloc (.cells #[.int .i64 so.k, .int .i64 so.i, .string so.t, .slice none 0 0] 40)).alloc (.cells #[.int .i64 xv.k, .int .i64 xv.i, .string xv.t, .slice none 0 0] 40)) 40 #[.int .i64 0, .int .i64 0, .string ⟨#[]⟩, .slice none 0 0]
    simp only [World.size_alloc] at this
    rw [hw1]; exact this
  have HW1 := Lib.hid hw1
  cases first with
  | true =>
    have HNm := Lib.hid (number_any w1 1)
    have HN1 := Lib.hid hN1
    have B2 := Lib.hid b2
    clear hw1 hN1 b0 b2 hb
    go_enter Tryz.func50, Tryz.ntmps50
    go_wp2_with fail
    rw [← HW1.out]
    refine HNm.out.mono ?_
    rintro e w2 ⟨rfl, hN2⟩
    have B22 := Lib.hid (B2.out.chg hN2 id)
    have hst := (B22.out).set #[.int .i64 1, .int .i64 1, .string ⟨#[]⟩, .slice none 0 0]
    have Hst := Lib.hid (show At (w2.setRow (w.heap.size + 1 + 1) #[.int .i64 1, .int .i64 1, .string ⟨#[]⟩, .slice none 0 0]) ⟨w.heap.size + 1 + 1, 0, none⟩ [.int .i64 1, .int .i64 1, .string ⟨#[]⟩, .slice none 0 0] from (show Blk _ _ 40 ([.int .i64 1, .int .i64 1, .string ⟨#[]⟩, .slice none 0 0] : List Value).toArray from hst).at_)
    have HNf := Lib.hid ((HN1.out.trans hN2 (fun _ _ x => x)).setRow (w.heap.size + 1 + 1) #[.int .i64 1, .int .i64 1, .string ⟨#[]⟩, .slice none 0 0] (fun h => by omega))
    have hlay : layA #[.int .i64 0, .int .i64 0, .string ⟨#[]⟩, .slice none 0 0] 0 [.int .i64 1, .int .i64 1, .string ⟨#[]⟩, .slice none 0 0] = #[.int .i64 1, .int .i64 1, .string ⟨#[]⟩, .slice none 0 0] := rfl
    clear hst hN2
    go_wp2_with (((with_reducible refine wpl_store rfl (.tmp 6) (.tmp 8) 40 rfl stVal4 (w.heap.size + 1 + 1) 0 40 #[.int .i64 0, .int .i64 0, .string ⟨#[]⟩, .slice none 0 0] [.int .i64 1, .int .i64 1, .string ⟨#[]⟩, .slice none 0 0] ?_ ?_ B22.out rfl (by decide) (vcs_one [⟨1, 1, ⟨#[]⟩⟩] _ (by simp [vcs])) ?_); exact rfl; exact rfl))
    refine bodyPost_ret (v := vval ⟨1, 1, ⟨#[]⟩⟩) (res_cellK stVal4 rfl _ _ ⟨w.heap.size + 1 + 1, 0, none⟩ [.int .i64 1, .int .i64 1, .string ⟨#[]⟩, .slice none 0 0] rfl Hst.out rfl) rfl ⟨rfl, HNf.out⟩
  | false =>
    obtain ⟨hb0, hb1⟩ := hb rfl
    have kw : IntKind.i64.wrap (so.i + 1) = so.i + 1 := by rw [IntKind.wrap_i64]; omega
    have HNm := Lib.hid (number_any w1 (so.i + 1))
    have c1 := b0.cell 1
    have hf := b0.frozen 1
    simp only [List.getElem?_toArray, List.getElem?_cons_zero, List.getElem?_cons_succ] at c1
    have HC := Lib.hid c1
    have HN1 := Lib.hid hN1
    have B2 := Lib.hid b2
    rw [hw1] at c1
    clear hw1 hN1 b0 b2 hf c1
    go_enter Tryz.func50, Tryz.ntmps50
    go_wp2_with fail
    rw [← HW1.out]
    refine HNm.out.mono ?_
    rintro e w2 ⟨rfl, hN2⟩
    have B22 := Lib.hid (B2.out.chg hN2 id)
    have hst := (B22.out).set #[.int .i64 1, .int .i64 (so.i + 1), .string ⟨#[]⟩, .slice none 0 0]
    have Hst := Lib.hid (show At (w2.setRow (w.heap.size + 1 + 1) #[.int .i64 1, .int .i64 (so.i + 1), .string ⟨#[]⟩, .slice none 0 0]) ⟨w.heap.size + 1 + 1, 0, none⟩ [.int .i64 1, .int .i64 (so.i + 1), .string ⟨#[]⟩, .slice none 0 0] from (show Blk _ _ 40 ([.int .i64 1, .int .i64 (so.i + 1), .string ⟨#[]⟩, .slice none 0 0] : List Value).toArray from hst).at_)
    have HNf := Lib.hid ((HN1.out.trans hN2 (fun _ _ x => x)).setRow (w.heap.size + 1 + 1) #[.int .i64 1, .int .i64 (so.i + 1), .string ⟨#[]⟩, .slice none 0 0] (fun h => by omega))
    have hlay : layA #[.int .i64 0, .int .i64 0, .string ⟨#[]⟩, .slice none 0 0] 0 [.int .i64 1, .int .i64 (so.i + 1), .string ⟨#[]⟩, .slice none 0 0] = #[.int .i64 1, .int .i64 (so.i + 1), .string ⟨#[]⟩, .slice none 0 0] := rfl
    clear hst hN2
    go_wp2_with (((with_reducible refine wpl_store rfl (.tmp 6) (.tmp 12) 40 rfl stVal4 (w.heap.size + 1 + 1) 0 40 #[.int .i64 0, .int .i64 0, .string ⟨#[]⟩, .slice none 0 0] [.int .i64 1, .int .i64 (so.i + 1), .string ⟨#[]⟩, .slice none 0 0] ?_ ?_ B22.out rfl (by decide) (vcs_one [⟨1, so.i + 1, ⟨#[]⟩⟩] _ (by simp [vcs])) ?_); exact rfl; exact rfl))
    refine bodyPost_ret (v := vval ⟨1, so.i + 1, ⟨#[]⟩⟩) (res_cellK stVal4 rfl _ _ ⟨w.heap.size + 1 + 1, 0, none⟩ [.int .i64 1, .int .i64 (so.i + 1), .string ⟨#[]⟩, .slice none 0 0] rfl Hst.out rfl) rfl ⟨rfl, HNf.out⟩

set_option maxHeartbeats 1000000 in
theorem folds_any (w : World) (ag : Ag) : Calls Tryz.prog 24 #[.string (agName ag)] w (FoldPost w ag) := by
  have Hb := Lib.hid (fun ag sign hs => best_fold w ag sign hs)
  cases ag with
  | min =>
    unfold agName
    go_enter Tryz.func24, Tryz.ntmps24
    go_wp2_with fail
    refine (Hb.out .min (-1) (.inr ⟨rfl, rfl⟩)).mono ?_
    intro e w' hp
    have Hp := Lib.hid hp
    obtain ⟨fv, rfl, _⟩ := hp
    go_wp2_with fail
    go_ret
    exact Hp.out
  | max =>
    unfold agName
    go_enter Tryz.func24, Tryz.ntmps24
    go_wp2_with fail
    refine (Hb.out .max 1 (.inl ⟨rfl, rfl⟩)).mono ?_
    intro e w' hp
    have Hp := Lib.hid hp
    obtain ⟨fv, rfl, _⟩ := hp
    go_wp2_with fail
    go_ret
    exact Hp.out
  | count =>
    unfold agName
    go_enter Tryz.func24, Tryz.ntmps24
    go_wp2_with fail
    go_ret
    exact ⟨_, rfl, ⟨50, _, rfl, enters_of Tryz.func50 (by kernel_rfl) rfl, fun W hW so xv first hb => count_call W so xv first (hb rfl)⟩, Chg.refl _ _⟩
/-- The name of no aggregate. -/
theorem folds_sum (w : World) : Calls Tryz.prog 24 #[.string ⟨#[115, 117, 109]⟩] w fun e w' => e = .returned .nilFunc ∧ w = w' := by
  go_enter Tryz.func24, Tryz.ntmps24
  go_wp2_with fail
  go_ret
  exact ⟨rfl, rfl⟩
end Go.Proofs.YtfocjfnkcabbgaaGreat
