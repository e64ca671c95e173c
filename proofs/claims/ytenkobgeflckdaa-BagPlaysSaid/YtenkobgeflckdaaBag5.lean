/- The bag's methods: Again, Move. -/
import Derived.Test.YtenkobgeflckdaaBag4
set_option linter.unusedVariables false
set_option linter.unusedSimpArgs false
namespace Go.Proofs.Ytenkobgeflckdaa
open Go.RowKit Go.Shelf

theorem wArgs (w : World) (is : List Int) (tb : TypeId) : Blk (w.alloc (.cells (is.map (Value.int .i64)).toArray tb)) w.heap.size tb (is.map (Value.int .i64)).toArray := Blk.new w _ _

set_option maxHeartbeats 2000000 in
set_option maxRecDepth 100000 in
theorem again_no (w : World) (B bb : Nat) (v : Value) (gs : List Gm) (most : Int) (h : BagAt 72 w B bb v gs most) (i : Int) (hi : okI gs.length i = false) :
    Calls Try.prog 24 #[.pointer (some ⟨bb, 0, none⟩), .int .i64 i] w (BagTo 72 w B bb v gs most (.bool false)) := by
  have hN : New w (w.alloc (.cells #[.int .i64 i] 3)) := (Chg.refl w _).alloc _
  have hb := h.chg hN (fun _ _ x => x)
  have hhas := has_any _ B bb v gs most hb w.heap.size 1 [i] 3 rfl (by omega) (wArgs w [i] 3)
  rw [show ([i] : List Int).all (okI gs.length) = false by simp [hi]] at hhas
  have Hhas := Lib.hid hhas
  have Hfin := Lib.hid (show BagTo 72 w B bb v gs most (.bool false) (.returned (.bool false)) _ from ⟨rfl, hN.mono fun _ _ x => x.elim, v, hb, fun k hk => .inl hk⟩)
  clear hhas hb hN h hi
  go_enter Try.func24, Try.ntmps24
  go_wp2_with (go_at_call 46; refine Hhas.out.mono ?_; rintro e w' ⟨rfl, rfl⟩)
  go_ret
  exact Hfin.out

set_option maxHeartbeats 2000000 in
set_option maxRecDepth 100000 in
theorem again_yes (w : World) (B bb : Nat) (v : Value) (gs : List Gm) (most : Int) (h : BagAt 72 w B bb v gs most) (hB : B ≤ w.heap.size) (i : Nat) (x : Gm) (hx : gs[i]? = some x) :
    Calls Try.prog 24 #[.pointer (some ⟨bb, 0, none⟩), .int .i64 i] w (BagTo 72 w B bb v (putL gs most x) most (.bool (putOk gs most))) := by
  have hN : New w (w.alloc (.cells #[.int .i64 i] 3)) := (Chg.refl w _).alloc _
  have hb := h.chg hN (fun _ _ x => x)
  obtain ⟨hlt, _⟩ := List.getElem?_eq_some_iff.1 hx
  have hhas := has_any _ B bb v gs most hb w.heap.size 1 [(i : Int)] 3 rfl (by omega) (wArgs w [(i : Int)] 3)
  rw [show ([(i : Int)] : List Int).all (okI gs.length) = true by simp [okI]; omega] at hhas
  obtain ⟨A', cap, hv, hlc, _⟩ := h.own.form
  obtain ⟨a0, hA, hrows⟩ := (h.own.rows hv).2 (by rw [List.length_map]; omega)
  have hat := ((hrows i (gcs x) (by rw [List.getElem?_map, hx]; rfl)).2).chg hN id
  change At _ _ [.string x.f, .string x.t, .string x.d] at hat
  have Hat := Lib.hid hat
  have c0 := h.blk.cell 0
  have hbl := h.blk.lt
  have hlim := h.lim
  simp only [List.getElem?_toArray, List.getElem?_cons_zero, List.getElem?_cons_succ] at c0
  rw [hv, hA] at c0
  simp only [List.length_map] at c0
  have hput := put_any _ B bb v gs most hb h.m200 x (Nat.le_trans hB hN.size)
  have Hput := Lib.hid hput
  have Hhas := Lib.hid hhas
  have HN := Lib.hid hN
  clear hhas hb hN h hat hrows hx hv hlc hput hA
  go_enter Try.func24, Try.ntmps24
  go_wp2_with (first | (go_at_call 46; refine Hhas.out.mono ?_; rintro e w' ⟨rfl, rfl⟩) | ((with_reducible refine wpl_loadg ?_ (.tmp 16) 33 rfl stGram (a0.add (i * 3)) [.string x.f, .string x.t, .string x.d] ?_ rfl Hat.out ?_); exact rfl; exact rfl) | (go_at_call 19; refine Hput.out.mono ?_; rintro e w' hp; have Hp := Lib.hid hp; obtain ⟨rfl, _⟩ := hp))
  all_goals (go_ret; exact BagTo.from HN.out Hp.out)

set_option maxHeartbeats 2000000 in
set_option maxRecDepth 100000 in
theorem move_no (w : World) (B bb : Nat) (v : Value) (gs : List Gm) (most : Int) (h : BagAt 72 w B bb v gs most) (i k : Int) (hi : (okI gs.length i && okI gs.length k) = false) :
    Calls Try.prog 26 #[.pointer (some ⟨bb, 0, none⟩), .int .i64 i, .int .i64 k] w (BagTo 72 w B bb v gs most (.bool false)) := by
  have hN : New w (w.alloc (.cells #[.int .i64 i, .int .i64 k] 3)) := (Chg.refl w _).alloc _
  have hb := h.chg hN (fun _ _ x => x)
  have hhas := has_any _ B bb v gs most hb w.heap.size 2 [i, k] 3 rfl (by omega) (wArgs w [i, k] 3)
  rw [show ([i, k] : List Int).all (okI gs.length) = false by simpa using hi] at hhas
  have Hhas := Lib.hid hhas
  have Hfin := Lib.hid (show BagTo 72 w B bb v gs most (.bool false) (.returned (.bool false)) _ from ⟨rfl, hN.mono fun _ _ x => x.elim, v, hb, fun k hk => .inl hk⟩)
  clear hhas hb hN h hi
  go_enter Try.func26, Try.ntmps26
  go_wp2_with (go_at_call 46; refine Hhas.out.mono ?_; rintro e w' ⟨rfl, rfl⟩)
  go_ret
  exact Hfin.out

theorem BagTo.then {t : TypeId} {w w1 : World} {B bb : Nat} {v v1 : Value} {gs : List Gm} {most : Int} {r : Value} {e : Ending} {w' : World} (hc : Chg w w1 (Terr bb v)) (hk : ∀ k, Terr bb v1 k → Terr bb v k ∨ w.heap.size ≤ k) (h : BagTo t w1 B bb v1 gs most r e w') : BagTo t w B bb v gs most r e w' := by
  obtain ⟨he, hc', v', hb, hk'⟩ := h
  refine ⟨he, hc.trans hc' (fun k hlt ht => (hk k ht).resolve_right (by omega)), v', hb, fun k hk2 => ?_⟩
  rcases hk' k hk2 with h | h
  · exact hk k h
  · exact .inr (Nat.le_trans hc.size h)

theorem length_eraseIdx' {α : Type} {l : List α} {i : Nat} (h : i < l.length) : (l.eraseIdx i).length = l.length - 1 := by rw [List.length_eraseIdx, if_pos h]

set_option maxHeartbeats 2000000 in
set_option maxRecDepth 100000 in
theorem move_yes (w : World) (B bb : Nat) (v : Value) (gs : List Gm) (most : Int) (h : BagAt 72 w B bb v gs most) (hB : B ≤ w.heap.size) (i k : Nat) (x : Gm) (hx : gs[i]? = some x) (hk : k < gs.length) :
    Calls Try.prog 26 #[.pointer (some ⟨bb, 0, none⟩), .int .i64 i, .int .i64 k] w (BagTo 72 w B bb v ((gs.eraseIdx i).take k ++ x :: (gs.eraseIdx i).drop k) most (.bool true)) := by
  have hN : New w (w.alloc (.cells #[.int .i64 i, .int .i64 k] 3)) := (Chg.refl w _).alloc _
  obtain ⟨hlt, _⟩ := List.getElem?_eq_some_iff.1 hx
  have hb := h.chg hN (fun _ _ x => x)
  have hhas := has_any _ B bb v gs most hb w.heap.size 2 [(i : Int), (k : Int)] 3 rfl (by omega) (wArgs w [(i : Int), (k : Int)] 3)
  rw [show ([(i : Int), (k : Int)] : List Int).all (okI gs.length) = true by simp [okI]; omega] at hhas
  have htake := take_yes _ B bb v gs most hb i x hx
  unfold gval at htake
  have hle := h.le
  have hm := h.m200
  have Hhas := Lib.hid hhas
  have Htake := Lib.hid htake
  have HN := Lib.hid hN
  clear hhas htake hb hN h hx
  go_enter Try.func26, Try.ntmps26
  go_wp2_with (go_at_call 46; refine Hhas.out.mono ?_; rintro e w' ⟨rfl, rfl⟩)
  refine Htake.out.mono ?_
  rintro e w2 hp
  obtain ⟨rfl, hc2, v2, hb2, hk2⟩ := BagTo.from HN.out hp
  have hN3 : New w2 ((w2.alloc (.cells #[.string x.f, .string x.t, .string x.d] 33)).alloc (.cells #[.string x.f, .string x.t, .string x.d] 33)) := ((Chg.refl w2 _).alloc _).alloc _
  have hX : Blk ((w2.alloc (.cells #[.string x.f, .string x.t, .string x.d] 33)).alloc (.cells #[.string x.f, .string x.t, .string x.d] 33)) (w2.heap.size + 1) 33 (gcs x).toArray := by
    have := Blk.new (w2.alloc (.cells #[.string x.f, .string x.t, .string x.d] 33)) 33 #[.string x.f, .string x.t, .string x.d]
    rw [World.size_alloc] at this
    exact this
  have hins := insert_yes _ B bb v2 _ most (hb2.chg hN3 (fun _ _ x => x)) (by rw [length_eraseIdx' hlt]; omega) hm k (by rw [length_eraseIdx' hlt]; omega) (w2.heap.size + 1) 1 x _ hX (fun e => by have := (hb2.own.lt e).2; omega) (Nat.le_trans hB (Nat.le_trans hc2.size hN3.size))
  have Hins := Lib.hid hins
  have Hc2 := Lib.hid hc2
  have Hk2 := Lib.hid hk2
  have HN3 := Lib.hid hN3
  clear hins hc2 hk2 hb2 hN3 hX hp
  go_wp2_with (go_at_call 45; refine Hins.out.mono ?_; rintro e w' hp; have Hp := Lib.hid hp; obtain ⟨rfl, _⟩ := hp)
  go_ret
  exact BagTo.then Hc2.out Hk2.out (BagTo.from HN3.out Hp.out)
end Go.Proofs.Ytenkobgeflckdaa
