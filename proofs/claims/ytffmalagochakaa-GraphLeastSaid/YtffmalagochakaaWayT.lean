/- graph: Ways. -/
import Derived.Test.YtffmalagochakaaWay
set_option linter.unusedVariables false
set_option linter.unusedSimpArgs false
namespace Go.Proofs.Ytffmalagochakaa
open Go.RowKit Go.Shelf

/-- Ways in memory. -/
structure WaysAt (w : World) (B : Nat) (v : Value) (xs : List Value) (L : List (List ByteArray)) : Prop where
  own : Own w B 26 1 v (xs.map fun x => [x])
  len : xs.length = L.length
  way : ∀ (i : Nat) (x : Value) (l : List ByteArray), xs[i]? = some x → L[i]? = some l → Own w 0 9 1 x (l.map nmC)
noncomputable def waysOf (E : List Ed) (a b : ByteArray) : List (List ByteArray) := if a = b then [] else waysR (tabF E) b (rem (E.map (·.b)) [a] + 1) [a] []
def WaysPost (w : World) (E : List Ed) (a b : ByteArray) (e : Ending) (w' : World) : Prop := ∃ v xs, e = .returned v ∧ WaysAt w' w.heap.size v xs (waysOf E a b) ∧ New w w'

theorem res_waysK {f : Func} {p : Nat} (hr : f.results = #[.cell p 29]) (W : World) (tmps : Array Value) (po : Nat) (v : Value) (h2 : tmps.getD p undef = .pointer (some ⟨po, 0, none⟩)) (hb : Blk W po 29 #[v]) :
    (results f tmps).run Try.prog W = .ok v W := by
  have ha : (asAddr (.pointer (some ⟨po, 0, none⟩))).run Try.prog W = .ok ⟨po, 0, none⟩ W := rfl
  have hc := hb.cell 0
  simp only [List.getElem?_toArray, List.getElem?_cons_zero] at hc
  rw [results_cell_one hr, h2, ha]
  simp only [Result.andThen_ok]
  simp [go_sem, hc]
set_option maxHeartbeats 4000000 in
set_option maxRecDepth 100000 in
theorem ways12 (w : World) (A : Option Addr) (n c : Nat) (E : List Ed) (hn : n = E.length) (hA : SrcAt w A 3 (E.map edC)) (hE : ∀ e ∈ E, e.Fit) (hl : E.length ≤ 1000) (a b : ByteArray) (ha : a.size ≤ maxLen) (hb : b.size ≤ maxLen) :
    Calls Try.prog 12 #[.slice A n c, .string a, .string b] w (WaysPost w E a b) := by
  have hN2 : New w ((w.alloc (.cells #[.string b] 9)).alloc (.cells #[.slice none 0 0] 29)) := ((Chg.refl _ _).alloc _).alloc _
  have hbb : Blk (w.alloc (.cells #[.string b] 9)) w.heap.size 9 #[.string b] := Blk.new _ _ _
  have hbb2 : Blk ((w.alloc (.cells #[.string b] 9)).alloc (.cells #[.slice none 0 0] 29)) w.heap.size 9 #[.string b] := hbb.chg (T := fun _ => False) ((Chg.refl _ _).alloc _) id
  have hbo : Blk ((w.alloc (.cells #[.string b] 9)).alloc (.cells #[.slice none 0 0] 29)) (w.heap.size + 1) 29 #[.slice none 0 0] := by
    have := Blk.new (w.alloc (.cells #[.string b] 9)) 29 #[.slice none 0 0]
    rw [World.size_alloc] at this
    exact this
  have H1 := Lib.hid (tabled18 ((w.alloc (.cells #[.string b] 9)).alloc (.cells #[.slice none 0 0] 29)) A n c E hn (hA.chg hN2 (fun _ _ x => x)) hE (by omega))
  have HE := Lib.hid hE
  have HBb := Lib.hid hbb2
  have HBo := Lib.hid hbo
  have HN2 := Lib.hid hN2
  clear hA hE hn hbb hbb2 hbo hN2
  go_enter Try.func12, Try.ntmps12
  go_upto_region 2 with (go_at_call 18; refine H1.out.mono ?_; rintro e w3 ⟨bt, rfl, ⟨g, ht⟩, hn3⟩; have HT := Lib.hid ht; have HN3 := Lib.hid hn3; clear ht hn3)
  have hN4 : New w3 (w3.alloc (.cells #[.map (some bt)] 45)) := (Chg.refl _ _).alloc _
  have HPt := Lib.hid (Blk.new w3 45 #[.map (some bt)])
  have HT4 := Lib.hid (HT.out.chg hN4 (fun _ _ _ x => x))
  have HBb4 := Lib.hid ((HBb.out.chg HN3.out id).chg hN4 id)
  have HBo4 := Lib.hid ((HBo.out.chg HN3.out id).chg hN4 id)
  have HN4 := Lib.hid ((HN2.out.trans HN3.out (fun _ _ x => x)).trans hN4 (fun _ _ x => x))
  clear HT HBb HBo HN3 HN2 hN4 H1
  generalize w3.heap.size = pt at HPt ⊢
  generalize hpb : w.heap.size = pb at HBb4 HBo4 ⊢
  generalize w3.alloc (.cells #[.map (some bt)] 45) = w4 at HPt HT4 HBb4 HBo4 HN4 ⊢
  have hF : ∀ u : Value, Blk (w4.alloc (.cells #[u] 47)) w4.heap.size 47 #[u] := fun u => Blk.new _ _ _
  have hN5 : ∀ u : Value, New w4 (w4.alloc (.cells #[u] 47)) := fun u => (Chg.refl _ _).alloc _
  have HF := Lib.hid hF
  have HN5 := Lib.hid hN5
  clear hF hN5
  go_upto_region 3 with fail
  have HPb5 := Lib.hid (HBb4.out.chg (HN5.out .nilFunc) id)
  have HPo5 := Lib.hid (HBo4.out.chg (HN5.out .nilFunc) id)
  have HPt5 := Lib.hid (HPt.out.chg (HN5.out .nilFunc) id)
  have HT5 := Lib.hid (HT4.out.chg (HN5.out .nilFunc) (fun _ _ _ x => x))
  have HPf5 := Lib.hid (HF.out .nilFunc)
  have HNN := Lib.hid (HN4.out.trans (HN5.out .nilFunc) (fun _ _ x => x))
  have hpf : w.heap.size ≤ w4.heap.size := HN4.out.size
  have hlp : pb < w4.heap.size := HBb4.out.lt
  have hlo : pb + 1 < w4.heap.size := HBo4.out.lt
  have hlt : pt < w4.heap.size := HPt.out.lt
  clear HBb4 HBo4 HPt HT4 HF HN5 HN4
  generalize hpfe : w4.heap.size = pf at HPf5 hpf hlp hlo hlt ⊢
  generalize w4.alloc (.cells #[.nilFunc] 47) = w5 at HPb5 HPo5 HPt5 HT5 HPf5 HNN ⊢
  clear hpfe
  go_upto_region 4 with ((with_reducible refine wpl_put rfl (.tmp 8) (.tmp 11) 47 rfl rfl ?_ pf 0 47 #[.nilFunc] (.func (.func 19) #[] #[.pointer (some ⟨pb, 0, none⟩), .pointer (some ⟨pb + 1, 0, none⟩), .pointer (some ⟨pt, 0, none⟩), .pointer (some ⟨pf, 0, none⟩)]) #[.func (.func 19) #[] #[.pointer (some ⟨pb, 0, none⟩), .pointer (some ⟨pb + 1, 0, none⟩), .pointer (some ⟨pt, 0, none⟩), .pointer (some ⟨pf, 0, none⟩)]] ?_ ?_ HPf5.out ?_ ?_ ?_ ?_); exact (by kernel_rfl); exact rfl; exact rfl; exact Nat.zero_lt_succ 0; exact rfl; exact rfl; intro w6 hc6 hb6 hs6; have HEnv := Lib.hid (show WEnv w6 (pb + 1) pb pt pf _ bt (2 * E.length) (tabF E) g b from ⟨HPb5.out.chg hc6 (by omega), HPt5.out.chg hc6 (by omega), hb6, HT5.out.chgM hc6 (fun k es cl hk e => by subst e; rw [show w5.heap[k]? = _ from HPf5.out] at hk; cases hk)⟩); have HPo6 := Lib.hid (HPo5.out.chg hc6 (by omega)); have HN6 := Lib.hid (HNN.out.put hc6 hpf); clear hc6 hb6 hs6)
  clear HPb5 HPo5 HPt5 HT5 HPf5 HNN
  have hcb := HEnv.out.cb.cell 0
  simp only [List.getElem?_toArray, List.getElem?_cons_zero] at hcb
  have HOut := Lib.hid (show OutAt w6 pb (pb + 1) (.slice none 0 0) [] [] from ⟨HPo6.out, Own.nil _ _ _ _, rfl, fun i x l h => by simp at h⟩)
  have Hpb := Lib.hid hpb
  clear hpb
  by_cases hab : a = b
  · subst hab
    have HW := Lib.hid (show waysOf E a a = [] by unfold waysOf; rw [if_pos rfl])
    go_wp2_with fail
    refine bodyPost_ret (v := .slice none 0 0) (res_waysK rfl _ _ (pb + 1) _ rfl HPo6.out) rfl ?_
    exact ⟨_, [], rfl, by rw [HW.out]; exact ⟨Own.nil _ _ _ _, rfl, fun i x l h => by simp at h⟩, HN6.out⟩
  · have hsl : ¬ a.toList = b.toList := fun e => hab (tl_eqG e)
    have hq : (a.toList == b.toList) = false := by simpa using hsl
    have HW := Lib.hid (show waysOf E a b = waysR (tabF E) b (rem (E.map (·.b)) [a] + 1) [a] [] by unfold waysOf; rw [if_neg hab])
    have hcf := HEnv.out.cf.cell 0
    simp only [List.getElem?_toArray, List.getElem?_cons_zero] at hcf
    have hN7 : New w6 (w6.alloc (.cells #[.string a] 9)) := (Chg.refl _ _).alloc _
    have hb7 : Blk (w6.alloc (.cells #[.string a] 9)) w6.heap.size 9 #[.string a] := Blk.new _ _ _
    have hrl : rem (E.map (·.b)) [a] ≤ 1000 := Nat.le_trans (List.length_filter_le _ _) (by rw [List.length_map]; exact hl)
    have HCall := Lib.hid (on19 pb (pb + 1) pb pt pf _ bt (2 * E.length) (tabF E) g b (E.map (·.b)) (tok_tab HE.out) (by omega) (rem (E.map (·.b)) [a] + 1) [a] (w6.alloc (.cells #[.string a] 9)) ⟨w6.heap.size, 0, none⟩ 1 1 (.slice none 0 0) [] [] (Nat.lt_succ_self _) rfl (by omega) (by omega) (fun s hs => by rw [List.mem_singleton.1 hs]; exact ha) (Own.one (cs := nmC a) hb7 (Nat.zero_le _) rfl) (HEnv.out.new hN7) (HOut.out.new hN7) (by decide) (by rw [← Hpb.out]; exact (HN6.out.trans hN7 (fun _ _ x => x)).size))
    have HN7 := Lib.hid (HN6.out.trans hN7 (fun _ _ x => x))
    have HO7 := Lib.hid (HOut.out.new hN7)
    clear hN7 hb7
    go_wp2_with (go_at_call 19; refine HCall.out.mono ?_; rintro e w8 ⟨v', xs', rfl, ho8, hc8, hv8⟩; have HO8 := Lib.hid ho8; have HC8 := Lib.hid hc8; clear ho8 hc8 hv8)
    refine bodyPost_ret (v := v') (res_waysK rfl _ _ (pb + 1) _ rfl HO8.out.box) rfl ?_
    refine ⟨v', xs', rfl, by rw [HW.out, Hpb.out]; exact ⟨HO8.out.own, HO8.out.len, HO8.out.way⟩, ?_⟩
    exact HN7.out.trans HC8.out (fun k hk ht => by
      rcases ht with rfl | h
      · rw [Hpb.out] at hk; omega
      · cases h)
end Go.Proofs.Ytffmalagochakaa
