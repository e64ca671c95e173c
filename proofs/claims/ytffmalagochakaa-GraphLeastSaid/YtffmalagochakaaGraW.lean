/- The laws of graphs: awake. -/
import Derived.Test.YtffmalagochakaaGraE
set_option linter.unusedVariables false
set_option linter.unusedSimpArgs false
namespace Go.Proofs.Ytffmalagochakaa
open Go.RowKit Go.Shelf

theorem ex_src {W : World} {g : Nat} (h : Blk W g 40 #[.string ⟨#[120]⟩, .string ⟨#[121]⟩, .int .i64 1, .string ⟨#[121]⟩, .string ⟨#[122]⟩, .int .i64 2, .string ⟨#[120]⟩, .string ⟨#[122]⟩, .int .i64 5]) : SrcAt W (some ⟨g, 0, none⟩) 3 (exE.map edC) :=
  (Own.lit (n := 3) (css := exE.map edC) h rfl (fun cs hcs => by obtain ⟨e, _, rfl⟩ := List.mem_map.1 hcs; rfl) (by decide)).srcG.2
theorem exlen : exE.length ≤ 1000 := by decide
set_option maxHeartbeats 4000000 in
set_option maxRecDepth 100000 in
theorem awake8 (w : World) : Calls Try.prog 8 #[] w fun e w' => e = .returned (.bool true) ∧ New w w' := by
  have hb0 : Blk (w.alloc (.cells #[.string ⟨#[120]⟩, .string ⟨#[121]⟩, .int .i64 1, .string ⟨#[121]⟩, .string ⟨#[122]⟩, .int .i64 2, .string ⟨#[120]⟩, .string ⟨#[122]⟩, .int .i64 5] 40)) w.heap.size 40 #[.string ⟨#[120]⟩, .string ⟨#[121]⟩, .int .i64 1, .string ⟨#[121]⟩, .string ⟨#[122]⟩, .int .i64 2, .string ⟨#[120]⟩, .string ⟨#[122]⟩, .int .i64 5] := Blk.new _ _ _
  have HB0 := Lib.hid hb0
  have HN0 := Lib.hid (show New w (w.alloc (.cells #[.string ⟨#[120]⟩, .string ⟨#[121]⟩, .int .i64 1, .string ⟨#[121]⟩, .string ⟨#[122]⟩, .int .i64 2, .string ⟨#[120]⟩, .string ⟨#[122]⟩, .int .i64 5] 40)) from (Chg.refl _ _).alloc _)
  clear hb0
  go_enter Try.func8, Try.ntmps8
  go_upto_region 2 with fail
  generalize w.heap.size = g at HB0 ⊢
  generalize w.alloc (.cells #[.string ⟨#[120]⟩, .string ⟨#[121]⟩, .int .i64 1, .string ⟨#[121]⟩, .string ⟨#[122]⟩, .int .i64 2, .string ⟨#[120]⟩, .string ⟨#[122]⟩, .int .i64 5] 40) = w1 at HB0 HN0 ⊢
  have HD1 := Lib.hid (show Calls Try.prog 13 #[.slice (some ⟨g, 0, none⟩) 3 3, .string ⟨#[120]⟩, .string ⟨#[122]⟩] w1 (fun e w' => e = .returned (.tuple #[.int .i64 3, .bool true]) ∧ New w1 w') from
    (dist13 w1 (some ⟨g, 0, none⟩) 3 3 exE rfl (ex_src HB0.out) exE_fit exlen nX nZ (sz1 _ rfl) (sz1 _ rfl)).mono (fun e w' ⟨_, h2, h3⟩ => ⟨by rw [h2, ex_xz]; rfl, h3⟩))
  go_upto_region 3 with (go_at_call 13; refine HD1.out.mono ?_; rintro e w2 ⟨rfl, hn⟩; have HN2 := Lib.hid hn; clear hn)
  have HB2 := Lib.hid (HB0.out.chg HN2.out id)
  have HM2 := Lib.hid (HN0.out.trans HN2.out (fun _ _ x => x))
  clear HB0 HN0 HN2 HD1
  have HD2 := Lib.hid (show Calls Try.prog 13 #[.slice (some ⟨g, 0, none⟩) 3 3, .string ⟨#[122]⟩, .string ⟨#[120]⟩] w2 (fun e w' => e = .returned (.tuple #[.int .i64 0, .bool false]) ∧ New w2 w') from
    (dist13 w2 (some ⟨g, 0, none⟩) 3 3 exE rfl (ex_src HB2.out) exE_fit exlen nZ nX (sz1 _ rfl) (sz1 _ rfl)).mono (fun e w' ⟨_, h2, h3⟩ => ⟨by rw [h2, ex_zx]; rfl, h3⟩))
  go_upto_region 4 with (go_at_call 13; refine HD2.out.mono ?_; rintro e w3 ⟨rfl, hn⟩; have HN3 := Lib.hid hn; clear hn)
  have HB3 := Lib.hid (HB2.out.chg HN3.out id)
  have HM3 := Lib.hid (HM2.out.trans HN3.out (fun _ _ x => x))
  clear HB2 HM2 HN3 HD2
  have HK := Lib.hid (show Calls Try.prog 14 #[.slice (some ⟨g, 0, none⟩) 3 3, .slice (some ⟨w3.heap.size, 0, none⟩) 2 2] (w3.alloc (.cells #[.string ⟨#[120]⟩, .string ⟨#[122]⟩] 9)) (fun e w' => e = .returned (.tuple #[.int .i64 5, .bool true]) ∧ New w3 w') from by
    have hn : New w3 (w3.alloc (.cells #[.string ⟨#[120]⟩, .string ⟨#[122]⟩] 9)) := (Chg.refl _ _).alloc _
    have hb : Blk (w3.alloc (.cells #[.string ⟨#[120]⟩, .string ⟨#[122]⟩] 9)) w3.heap.size 9 #[.string ⟨#[120]⟩, .string ⟨#[122]⟩] := Blk.new _ _ _
    exact (cost14 _ (some ⟨g, 0, none⟩) 3 3 exE rfl (ex_src (HB3.out.chg hn id)) exE_fit exlen (some ⟨w3.heap.size, 0, none⟩) 2 2 [nX, nZ] rfl (Own.lit (n := 2) (css := [nX, nZ].map nmC) hb rfl nmC_len (by decide)).srcG.2 (by decide) (by decide) (fun s hs => by simp at hs; rcases hs with rfl | rfl <;> exact sz1 _ rfl) 5 ex_cost).mono (fun e w' ⟨h1, h2⟩ => ⟨h1, hn.trans h2 (fun _ _ x => x)⟩))
  go_upto_region 5 with (go_at_call 14; refine HK.out.mono ?_; rintro e w4 ⟨rfl, hn⟩; have HN4 := Lib.hid hn; clear hn)
  have HB4 := Lib.hid (HB3.out.chg HN4.out id)
  have HM4 := Lib.hid (HM3.out.trans HN4.out (fun _ _ x => x))
  clear HB3 HM3 HN4 HK
  have HWy := Lib.hid (show Calls Try.prog 12 #[.slice (some ⟨g, 0, none⟩) 3 3, .string ⟨#[120]⟩, .string ⟨#[122]⟩] w4 (WaysPost w4 exE nX nZ) from
    ways12 w4 (some ⟨g, 0, none⟩) 3 3 exE rfl (ex_src HB4.out) exE_fit exlen nX nZ (sz1 _ rfl) (sz1 _ rfl))
  go_wp2_with first
    | (go_at_call 12; refine HWy.out.mono ?_; rintro e w5 ⟨v, xs, rfl, hw, hn⟩; rw [ex_ways] at hw; have HB5 := Lib.hid (HB4.out.chg hn id); have HM5 := Lib.hid (HM4.out.trans hn (fun _ _ x => x)); have H16 := Lib.hid (ex16 w5 _ v xs hw); clear hw hn)
    | (go_at_call 16; refine H16.out.mono ?_; rintro e w6 ⟨rfl, hn⟩; have HB6 := Lib.hid (HB5.out.chg hn id); have HM6 := Lib.hid (HM5.out.trans hn (fun _ _ x => x)); have HR := Lib.hid (show Calls Try.prog 15 #[.slice (some ⟨g, 0, none⟩) 3 3, .string ⟨#[120]⟩] w6 (ReachPost w6 exE nX) from reach15 w6 (some ⟨g, 0, none⟩) 3 3 exE rfl (ex_src HB6.out) exE_fit exlen nX (sz1 _ rfl)); clear hn)
    | (go_at_call 15; refine HR.out.mono ?_; rintro e w7 ⟨hd, v7, ns, rfl, hk, ho, hn⟩; have hns : ns = [nY, nZ] := hk.uniq (ex_reach hd); subst hns; have HM7 := Lib.hid (HM6.out.trans hn (fun _ _ x => x)); have HT := Lib.hid (texts17 (w7.alloc (.cells #[.string ⟨#[121]⟩, .string ⟨#[122]⟩] 9)) v7 (.slice (some ⟨w7.heap.size, 0, none⟩) 2 2) [nY, nZ] ((Own.baseG ho (Nat.zero_le _)).chg (T := fun _ => False) ((Chg.refl _ _).alloc _) (fun _ _ x => x)) (Own.lit (n := 2) (css := [nY, nZ].map nmC) (Blk.new _ _ _) rfl nmC_len (by decide)) (by decide)); clear hd hk ho hn)
    | (go_at_call 17; refine HT.out.mono ?_; rintro e w8 ⟨rfl, hn⟩; have HM8 := Lib.hid ((HM7.out.alloc _).trans hn (fun _ _ x => x)); clear hn)
  go_ret
  exact ⟨rfl, HM8.out⟩
end Go.Proofs.Ytffmalagochakaa
