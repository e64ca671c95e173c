/- fire: ways$1$1. -/
import Derived.Test.YtenkobgeflckdabGvP
set_option linter.unusedVariables false
set_option linter.unusedSimpArgs false
namespace Go.Proofs.Ytenkobgeflckdab
open Go.RowKit Go.Shelf
attribute [local go_sem] Oper.semAt_some

set_option maxHeartbeats 2000000 in
set_option maxRecDepth 100000 in
theorem g43 (w : World) (S : Nat → Prop) (Jx : List Sta → (Nat → Prop) → World → Prop) (b1 b2 b3 : Nat) (mv l1 l2 l3 s1 s2 : Value) (o : Option Sta)
    (h1 : w.cell? ⟨b1, 0, none⟩ = some mv) (n1 : ¬ S b1) (h2 : At w ⟨b2, 0, none⟩ [l1, l2, l3]) (n2 : ¬ S b2) (h3 : At w ⟨b3, 0, none⟩ [s1, s2]) (n3 : ¬ S b3)
    (hg : ∀ W S1, Chg w W S → (∀ k, S1 k → k < W.heap.size) → (∀ k, S1 k → S k ∨ w.heap.size ≤ k) → Calls Try.prog 44 #[mv, .agg #[l1, l2, l3], .agg #[s1, s2]] W (GoesPost W S1 o)) :
    ItGives Try.prog 43 #[.pointer (some ⟨b1, 0, none⟩), .pointer (some ⟨b2, 0, none⟩), .pointer (some ⟨b3, 0, none⟩)] StAt o.toList S w Jx := by
  intro l J S' W hA hJ hc hS hy
  have hlt := fun k hk => hA.lt hJ k hk
  have hg' := hg W S' hc hlt hS
  have c1 := hc.cellS h1 n1
  have c2 := h2.chg hc n2
  have c3 := h3.chg hc n3
  have HG := Lib.hid hg'
  have C1 := Lib.hid c1
  have C2 := Lib.hid c2
  have C3 := Lib.hid c3
  have HY := Lib.hid hy
  have HA := Lib.hid hA
  have HJ := Lib.hid hJ
  clear hg hg' h1 h2 h3 c2 c3 hy hA hJ
  refine callsIn_of_wp Try.func43 rfl trivial ?_ rfl
  refine wpIn_wide.2 ?_
  simp only [Try.ntmps43, List.size_toArray, List.length_cons, List.length_nil, Nat.reduceAdd, Nat.reduceSub, Array.replicate_succ, Array.replicate_zero, List.push_toArray, List.append_toArray, List.nil_append, List.cons_append]
  have o1 : ∀ u ∈ [l1, l2, l3], True := fun _ _ => trivial
  cases o with
  | none =>
    go_wp2_with first
      | ((with_reducible refine wpl_load rfl (.tmp 2) 40 rfl stLit ⟨b2, 0, none⟩ [l1, l2, l3] ?_ rfl C2.out ?_); exact rfl)
      | ((with_reducible refine wpl_load rfl (.tmp 3) 75 rfl stSta ⟨b3, 0, none⟩ [s1, s2] ?_ rfl C3.out ?_); exact rfl)
      | (go_at_call 44; refine HG.out.mono ?_; rintro e w2 ⟨hc2, ⟨_, a, b, ha, hb, rfl⟩ | ⟨x, v, hx, _⟩⟩; (rotate_left; cases hx); have HC2 := Lib.hid hc2; have Ha := Lib.hid ha; have Hb := Lib.hid hb; clear hc2 ha hb)
      | ((with_reducible refine wpl_box rfl rfl 5 (.tmp 12) 75 rfl rfl rfl rfl stSta zSta [a, b] ?_ ?_ rfl (two_one Ha.out Hb.out) ?_); exact (by decide : 5 < 18); exact rfl; intro w4 hc4 hb4 hs4; have HC4 := Lib.hid (HC2.out.trans hc4 (fun _ _ x => x)); clear hc4 hb4 hs4)
    go_end0
    exact ⟨⟨_, rfl⟩, .inl ⟨S', HA.out.chg HJ.out (HC4.out.mono fun _ _ h => h.elim), HC4.out.mono (fun _ _ h => h.elim), fun k hk => .inl hk⟩⟩
  | some x =>
    go_upto_region 2 with first
      | ((with_reducible refine wpl_load rfl (.tmp 2) 40 rfl stLit ⟨b2, 0, none⟩ [l1, l2, l3] ?_ rfl C2.out ?_); exact rfl)
      | ((with_reducible refine wpl_load rfl (.tmp 3) 75 rfl stSta ⟨b3, 0, none⟩ [s1, s2] ?_ rfl C3.out ?_); exact rfl)
      | (go_at_call 44; refine HG.out.mono ?_; rintro e w2 ⟨hc2, ⟨hx, _⟩ | ⟨y, v, hx, rfl, hst⟩⟩; (cases hx); obtain rfl : x = y := Option.some.inj hx; clear hx; obtain ⟨A, c, rfl⟩ := hst.cells; have HC2 := Lib.hid hc2; have HSt := Lib.hid hst; clear hc2 hst)
      | ((with_reducible refine wpl_box rfl rfl 5 (.tmp 12) 75 rfl rfl rfl rfl stSta zSta [.slice A x.1.length c, .int .i64 x.2] ?_ ?_ rfl (sta_one A x.1.length c x.2) ?_); exact (by decide : 5 < 18); exact rfl; intro w4 hc4 hb4 hs4; have HC4 := Lib.hid (HC2.out.trans hc4 (fun _ _ x => x)); have HS4 := Lib.hid (HSt.out.new hc4); have HB4 := Lib.hid (Blk.at_ (cs := [.slice A x.1.length c, .int .i64 x.2]) hb4); clear hc4 hb4 hs4)
    have hJ4 : J [] S' w4 := HA.out.chg HJ.out (HC4.out.mono fun _ _ h => h.elim)
    have hyl := HY.out [] x [] S' _ w4 rfl hJ4 HS4.out
    refine (wpIn_wide (n := 0)).1 ?_
    refine wpIn_region_lit ?_
    refine liftK Wd.wide 2 (by rfl) ?_
    change wpList _ _ _ [_, _] _ _
    go_wp2_with ((with_reducible refine wpl_load rfl (.tmp 5) 75 rfl stSta ⟨w2.heap.size, 0, none⟩ [.slice A x.1.length c, .int .i64 x.2] ?_ rfl HB4.out ?_); exact rfl)
    change wpListIn _ _ _ _ _ [_] _ _
    refine wplI_yield Wd.wide rfl (.tmp 15) (.tmp 16) 75 rfl rfl rfl hyl ?_
    rintro b W2 hb
    refine wpListIn_nil ?_
    go_end0
    refine ⟨⟨_, rfl⟩, ?_⟩
    cases b with
    | true =>
      rw [if_pos rfl] at hb
      exact .inl (Stp.trans (HC4.out.mono fun _ _ h => h.elim) (fun k hk => .inl hk) hb)
    | false =>
      rw [if_neg Bool.false_ne_true] at hb
      exact .inr ⟨[], x, [], rfl, Stp.trans (HC4.out.mono fun _ _ h => h.elim) (fun k hk => .inl hk) hb⟩
end Go.Proofs.Ytenkobgeflckdab
