/- The bag's methods: Take, Again, Move. -/
import Derived.Test.YtenkobgeflckdaaBag3
set_option linter.unusedVariables false
set_option linter.unusedSimpArgs false
namespace Go.Proofs.Ytenkobgeflckdaa
open Go.RowKit Go.Shelf

def zeroG : Gm := ⟨⟨#[]⟩, ⟨#[]⟩, ⟨#[]⟩⟩
def gval (x : Gm) : Value := .agg #[.string x.f, .string x.t, .string x.d]

set_option maxHeartbeats 2000000 in
set_option maxRecDepth 100000 in
theorem take_no (w : World) (B bb : Nat) (v : Value) (gs : List Gm) (most : Int) (h : BagAt 72 w B bb v gs most) (i : Int) (hi : okI gs.length i = false) :
    Calls Try.prog 22 #[.pointer (some ⟨bb, 0, none⟩), .int .i64 i] w (BagTo 72 w B bb v gs most (.tuple #[gval zeroG, .bool false])) := by
  have hN : New w ((w.alloc (.cells #[.string ⟨#[]⟩, .string ⟨#[]⟩, .string ⟨#[]⟩] 33)).alloc (.cells #[.int .i64 i] 3)) := ((Chg.refl w _).alloc _).alloc _
  have hV : Blk ((w.alloc (.cells #[.string ⟨#[]⟩, .string ⟨#[]⟩, .string ⟨#[]⟩] 33)).alloc (.cells #[.int .i64 i] 3)) (w.heap.size + 1) 3 (([i] : List Int).map (Value.int .i64)).toArray := by
    have := Blk.new (w.alloc (.cells #[.string ⟨#[]⟩, .string ⟨#[]⟩, .string ⟨#[]⟩] 33)) 3 #[.int .i64 i]
    rw [World.size_alloc] at this
    exact this
  have hb := h.chg hN (fun _ _ x => x)
  have hhas := has_any _ B bb v gs most hb (w.heap.size + 1) 1 [i] 3 rfl (by omega) hV
  rw [show ([i] : List Int).all (okI gs.length) = false by simp [hi]] at hhas
  have Hhas := Lib.hid hhas
  have Hfin := Lib.hid (show BagTo 72 w B bb v gs most (.tuple #[gval zeroG, .bool false]) (.returned (.tuple #[gval zeroG, .bool false])) _ from ⟨rfl, hN.mono fun _ _ x => x.elim, v, hb, fun k hk => .inl hk⟩)
  clear hhas hb hV hN h hi
  go_enter Try.func22, Try.ntmps22
  go_wp2_with (go_at_call 46; refine Hhas.out.mono ?_; rintro e w' ⟨rfl, rfl⟩)
  refine bodyPost_ret (v := .tuple #[gval zeroG, .bool false]) (by simp [results, Try.results22, go_sem, gval, zeroG]) rfl ?_
  exact Hfin.out

theorem take_res (W : World) (tmps : Array Value) (N : Nat) (b : Bool) (x : Gm) (h4 : tmps.getD 4 undef = .pointer (some ⟨N, 0, none⟩)) (h5 : tmps.getD 5 undef = .bool b) (hc : At W ⟨N, 0, none⟩ (gcs x)) :
    (results Try.f22 tmps).run Try.prog W = .ok (.tuple #[gval x, .bool b]) W := by
  have hl := run_loadK (P := Try.prog) (w := W) stGram ⟨N, 0, none⟩ (gcs x) rfl hc
  rw [results_cell_tmp (p := 4) (u := 5) (ty := 33) (by rfl), h4, h5]
  have ha : (asAddr (.pointer (some ⟨N, 0, none⟩))).run Try.prog W = .ok ⟨N, 0, none⟩ W := rfl
  rw [ha]
  simp only [Result.andThen_ok, hl]
  rfl

set_option maxHeartbeats 2000000 in
set_option maxRecDepth 100000 in
theorem take_yes (w : World) (B bb : Nat) (v : Value) (gs : List Gm) (most : Int) (h : BagAt 72 w B bb v gs most) (i : Nat) (x : Gm) (hx : gs[i]? = some x) :
    Calls Try.prog 22 #[.pointer (some ⟨bb, 0, none⟩), .int .i64 i] w (BagTo 72 w B bb v (gs.eraseIdx i) most (.tuple #[gval x, .bool true])) := by
  have hN : New w ((w.alloc (.cells #[.string ⟨#[]⟩, .string ⟨#[]⟩, .string ⟨#[]⟩] 33)).alloc (.cells #[.int .i64 i] 3)) := ((Chg.refl w _).alloc _).alloc _
  have hV : Blk ((w.alloc (.cells #[.string ⟨#[]⟩, .string ⟨#[]⟩, .string ⟨#[]⟩] 33)).alloc (.cells #[.int .i64 i] 3)) (w.heap.size + 1) 3 (([(i : Int)] : List Int).map (Value.int .i64)).toArray := by
    have := Blk.new (w.alloc (.cells #[.string ⟨#[]⟩, .string ⟨#[]⟩, .string ⟨#[]⟩] 33)) 3 #[.int .i64 i]
    rw [World.size_alloc] at this
    exact this
  obtain ⟨hlt, _⟩ := List.getElem?_eq_some_iff.1 hx
  have hb := h.chg hN (fun _ _ x => x)
  have hhas := has_any _ B bb v gs most hb (w.heap.size + 1) 1 [(i : Int)] 3 rfl (by omega) hV
  rw [show ([(i : Int)] : List Int).all (okI gs.length) = true by simp [okI]; omega] at hhas
  obtain ⟨A', cap, hv, hlc, _⟩ := h.own.form
  obtain ⟨a0, hA, hrows⟩ := (h.own.rows hv).2 (by rw [List.length_map]; omega)
  have hr := (hrows i (gcs x) (by rw [List.getElem?_map, hx]; rfl)).2
  have hat := hr.chg hN id
  change At _ _ [.string x.f, .string x.t, .string x.d] at hat
  have Hat := Lib.hid hat
  have c0 := h.blk.cell 0
  have hbl := h.blk.lt
  simp only [List.getElem?_toArray, List.getElem?_cons_zero, List.getElem?_cons_succ] at c0
  rw [hv, hA] at c0
  simp only [List.length_map] at c0
  have hlim := h.lim
  have hN2 : New w ((w.alloc (.cells #[.string x.f, .string x.t, .string x.d] 33)).alloc (.cells #[.int .i64 i] 3)) := ((Chg.refl w _).alloc _).alloc _
  have hX : Blk ((w.alloc (.cells #[.string x.f, .string x.t, .string x.d] 33)).alloc (.cells #[.int .i64 i] 3)) w.heap.size 33 #[.string x.f, .string x.t, .string x.d] := (Blk.new w _ _).alloc _
  obtain ⟨W2, hW2⟩ : ∃ W2, W2 = ((w.alloc (.cells #[.string x.f, .string x.t, .string x.d] 33)).alloc (.cells #[.int .i64 i] 3)) := ⟨_, rfl⟩
  rw [← hW2] at hN2 hX
  have h2 := h.chg hN2 (fun _ _ x => x)
  have hdel := delGram W2 B v gs.length ((gs.map gcs).flatten) (by have := h2.own.1; rw [List.length_map] at this; exact this) (gcs_flat_one gs) i (i + 1) (by omega) (by omega)
  rw [show ((i + 1 : Nat) : Int) = (i : Int) + 1 by omega] at hdel
  have hfin : ∀ (e : Ending) (w' : World), (∃ v', e = .returned v' ∧ w'.ownsRow B 33 3 v' (gs.length - (i + 1 - i)) ((gs.map gcs).flatten.take (i * 3) ++ (gs.map gcs).flatten.drop ((i + 1) * 3)) ∧ W2.grownBy w' v.ownBlock ∧ v'.ownBlock = v.ownBlock) →
      ∃ A2 c2 n2, e = .returned (.slice A2 n2 c2) ∧ w'.cell? ⟨bb, 0, none⟩ = some v ∧ w'.frozen? ⟨bb, 0, none⟩ = false ∧ w'.cell? ⟨w.heap.size, 0, none⟩ = some (.string x.f) ∧ w'.cell? ⟨w.heap.size, 1, none⟩ = some (.string x.t) ∧ w'.cell? ⟨w.heap.size, 2, none⟩ = some (.string x.d) ∧
        w'.frozen? ⟨w.heap.size, 0, none⟩ = false ∧ w'.frozen? ⟨w.heap.size, 1, none⟩ = false ∧ w'.frozen? ⟨w.heap.size, 2, none⟩ = false ∧
        BagTo 72 w B bb v (gs.eraseIdx i) most (.tuple #[gval x, .bool true]) (.returned (.tuple #[gval x, .bool true])) ((((w'.setCell ⟨bb, 0, none⟩ (.slice A2 n2 c2)).setCell ⟨w.heap.size, 0, none⟩ (.string x.f)).setCell ⟨w.heap.size, 1, none⟩ (.string x.t)).setCell ⟨w.heap.size, 2, none⟩ (.string x.d)) ∧
        At ((((w'.setCell ⟨bb, 0, none⟩ (.slice A2 n2 c2)).setCell ⟨w.heap.size, 0, none⟩ (.string x.f)).setCell ⟨w.heap.size, 1, none⟩ (.string x.t)).setCell ⟨w.heap.size, 2, none⟩ (.string x.d)) ⟨w.heap.size, 0, none⟩ (gcs x) := by
    rintro e w' ⟨v2, rfl, ho, hg, hblk⟩
    have hlt0 : i < (gs.map gcs).length := by rw [List.length_map]; omega
    rw [flatten_take i (gcs_len gs), flatten_drop (i + 1) (gcs_len gs), ← List.flatten_append, ← List.map_take, ← List.map_drop, ← List.map_append, ← List.eraseIdx_eq_take_drop_succ] at ho
    have hlen : gs.length - (i + 1 - i) = ((gs.eraseIdx i).map gcs).length := by rw [List.length_map, List.length_eraseIdx, if_pos (by omega)]; omega
    have hown2 : Own w' B 33 3 v2 ((gs.eraseIdx i).map gcs) := ⟨by rw [← hlen]; exact ho, gcs_len _⟩
    obtain ⟨A2, c2, hv2, _⟩ := hown2.form
    have hlo : ∀ g, v.ownBlock = some g → g < w.heap.size := fun g hg => (h.own.lt hg).2
    have hc : Chg W2 w' (fun k => v.ownBlock = some k) := (Chg.of_grown hg).mono fun k _ e => e.symm
    have hcw : Chg w w' (fun k => v.ownBlock = some k) := (hN2.mono fun _ _ x => x.elim).trans hc (fun _ _ x => x)
    have hb1 : Blk w' bb 72 #[v, .int .i64 most] := h2.blk.chg hc h.ne
    have hx1 : Blk w' w.heap.size 33 #[.string x.f, .string x.t, .string x.d] := hX.chg hc (fun e => by have := hlo _ e; omega)
    have hne := own_ne_blk hown2 hb1 h.t_ne
    have hnx : ∀ g, v2.ownBlock = some g → g ≠ w.heap.size := fun g hg' e => by have := hlo g (by rw [← hblk]; exact hg'); omega
    refine ⟨A2, c2, _, by rw [hv2], by rw [hb1.cell]; rfl, hb1.frozen 0, by rw [hx1.cell]; rfl, by rw [hx1.cell]; rfl, by rw [hx1.cell]; rfl, hx1.frozen _, hx1.frozen _, hx1.frozen _, ?_⟩
    rw [← hv2]
    have hbn : bb ≠ w.heap.size := by omega
    refine ⟨?_, ?_⟩
    rotate_left
    · have hq := (((hx1.far (p := ⟨bb, 0, none⟩) (Ne.symm hbn) v2).setCell 0 (.string x.f)).setCell 1 (.string x.t)).setCell 2 (.string x.d)
      exact Blk.at_ (cs := gcs x) (by simpa [gcs] using hq)
    refine ⟨rfl, ((((hcw.mono (T' := Terr bb v) fun k _ x => Or.inr x).setCell _ _ (fun _ => .inl rfl)).setCell _ _ (fun h => absurd h (Nat.lt_irrefl _))).setCell _ _ (fun h => absurd h (Nat.lt_irrefl _))).setCell _ _ (fun h => absurd h (Nat.lt_irrefl _)), v2, ⟨?_, h.lo, ?_, h.t_ne, ?_, h.m200⟩, fun k hk => .inl (hk.imp id fun e => by rw [← hblk]; exact e)⟩
    · have := (((hb1.setCell 0 v2).far (p := ⟨w.heap.size, 0, none⟩) hbn (.string x.f)).far (p := ⟨w.heap.size, 1, none⟩) hbn (.string x.t)).far (p := ⟨w.heap.size, 2, none⟩) hbn (.string x.d)
      simpa using this
    · exact hown2.chg (T := fun k => k = bb ∨ k = w.heap.size) (((((Chg.refl w' _).setCell _ _ (fun _ => .inl rfl)).setCell _ _ (fun _ => .inr rfl)).setCell _ _ (fun _ => .inr rfl)).setCell _ _ (fun _ => .inr rfl)) (fun g hg => by
        rintro (e | e)
        · exact hne (by rw [hg, e])
        · exact hnx g hg e)
    · have := h.le; rw [List.length_eraseIdx, if_pos (by omega)]; omega
  obtain ⟨bk, hbk⟩ : ∃ bk, bk = v.ownBlock := ⟨_, rfl⟩
  rw [← hbk] at hfin hdel
  clear hbk
  rw [hv, hA] at hdel
  simp only [List.length_map] at hdel
  rw [hW2] at hdel
  have HW2 := Lib.hid hW2
  clear hW2
  have Hhas := Lib.hid hhas
  have Hdel := Lib.hid hdel
  have Hfin := Lib.hid hfin
  clear hhas hb hV hN h hr hat hrows hx hv hlc hdel hfin h2 hN2 hX hA
  go_enter Try.func22, Try.ntmps22
  go_wp2_with (first | (go_at_call 46; refine Hhas.out.mono ?_; rintro e w' ⟨rfl, rfl⟩) | ((with_reducible refine wpl_load rfl (.tmp 16) 33 rfl stGram (a0.add (i * 3)) [.string x.f, .string x.t, .string x.d] ?_ rfl Hat.out ?_); exact rfl))
  refine Hdel.out.mono ?_
  intro e w4 hp
  obtain ⟨A2, c2, n2, rfl, k0, k1, k2, k3, k4, k5, k6, k7, hpost, hres⟩ := Hfin.out _ _ (by rw [HW2.out]; exact hp)
  have Hpost := Lib.hid hpost
  have Hres := Lib.hid hres
  clear hpost hp hres
  go_wp2_with fail
  refine bodyPost_ret (v := .tuple #[gval x, .bool true]) (take_res _ _ w.heap.size true x rfl rfl Hres.out) rfl ?_
  exact Hpost.out
end Go.Proofs.Ytenkobgeflckdaa
