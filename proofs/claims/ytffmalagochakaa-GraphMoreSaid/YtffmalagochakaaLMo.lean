/- GraphMore: the walk. -/
import Derived.Test.YtffmalagochakaaGraL
set_option linter.unusedVariables false
set_option linter.unusedSimpArgs false
namespace Go.Proofs.Ytffmalagochakaa
open Go.RowKit Go.Shelf

theorem open_i3 {H : Type} {enc : TypeId × Value → H} {P : Program} {w : World} {base : Nat} {spare : Nat → Bool} {held : Bool} {r : Reach} {b0 : Nat} {t f : TypeId} {v : Value} {d : DataW H} {p : List MemPlace} (ht : P.underlying t = some (.array 3 f)) (hf : P.underlying f = some (.int .i64)) (hc : P.cellsOf f = 1) (hct : P.cellsOf t = 3)
    (hv : Value.okWide P w r b0 t v) (hd : DataW.Trod enc P w base spare held t v d p) : ∃ x y z : Int, v = .agg #[.int .i64 x, .int .i64 y, .int .i64 z] ∧ (-9223372036854775808 ≤ x ∧ x ≤ 9223372036854775807) ∧ (-9223372036854775808 ≤ y ∧ y ≤ 9223372036854775807) ∧ (-9223372036854775808 ≤ z ∧ z ≤ 9223372036854775807) := by
  simp only [Value.okWide, ht] at hv
  obtain ⟨cs, rfl, hs, _⟩ := hv
  rw [hct] at hs
  obtain ⟨fuel, h⟩ := hd
  have key := allInts_array (H := H) (enc := enc) (P := P) (w := w) (base := base) (spare := spare) (held := held) (C := 3) ht hf hc fuel (Value.agg cs).cells.toList (d, p) (by simp [Value.cells, hs]) h
  obtain ⟨x, hx, hx1, hx2⟩ := key 0 (by omega)
  obtain ⟨y, hy, hy1, hy2⟩ := key 1 (by omega)
  obtain ⟨z, hz, hz1, hz2⟩ := key 2 (by omega)
  refine ⟨x, y, z, ?_, ⟨hx1, hx2⟩, ⟨hy1, hy2⟩, ⟨hz1, hz2⟩⟩
  congr 1
  have hcs : (Value.agg cs).cells = cs := rfl
  rw [hcs] at hx hy hz
  refine Array.ext' ?_
  match hl : cs.toList, hx, hy, hz, (show cs.toList.length = 3 by simpa using hs) with
  | [a, b, c], hx, hy, hz, _ =>
    simp at hx hy hz
    rw [hx, hy, hz]
/-- What is put behind nil. -/
theorem edC_len {E : List Ed} : ∀ cs ∈ E.map edC, cs.length = 3 := fun cs h => by
  obtain ⟨e, _, rfl⟩ := List.mem_map.1 h
  rfl
theorem edC_one {E : List Ed} : ∀ cs ∈ E.map edC, ∀ u ∈ cs, u.oneCell' = true := fun cs h => by
  obtain ⟨e, _, rfl⟩ := List.mem_map.1 h
  exact ed_one e
theorem app_eds {W : World} {B : Nat} {v v2 : Value} {D E : List Ed} (h : Own W B 40 3 v (D.map edC)) (h2 : Own W 0 40 3 v2 (E.map edC)) (hB : B ≤ W.heap.size) (hb : D.length + E.length ≤ 1000000) :
    ∃ v' W', (Builtin.append_ #[24, 24] 24 #[v, v2]).run Try.prog W = .ok v' W' ∧ Own W' B 40 3 v' ((D ++ E).map edC) ∧ Chg W W' (fun k => v.ownBlock = some k) := by
  obtain ⟨A, c, hv, hs⟩ := own_src h2
  subst hv
  obtain ⟨v', W', h1, h3, h4, _⟩ := elEdge.appendS h hB A E.length c (E.map edC) (by rw [List.length_map]) edC_len edC_one hs (by rw [List.length_map]; omega) (by rw [List.length_map]; unfold maxLen; omega) 24
  exact ⟨v', W', h1, by rw [List.map_append]; exact h3, h4⟩
/-- Three that do not count. -/
def noE : List Ed := [⟨⟨#[97]⟩, ⟨#[97]⟩, 1⟩, ⟨⟨#[97]⟩, ⟨#[98]⟩, 0⟩, ⟨⟨#[98]⟩, ⟨#[99]⟩, -1⟩]
theorem noE_no : ∀ e ∈ noE, ¬ e.Ok := by
  intro e he
  simp only [noE, List.mem_cons, List.not_mem_nil, or_false] at he
  rcases he with rfl | rfl | rfl
  · exact fun h => h.1 rfl
  · exact fun h => absurd h.2.1 (by decide)
  · exact fun h => absurd h.2.1 (by decide)
theorem noE_fit : ∀ e ∈ noE, e.Fit := by
  intro e he
  simp only [noE, List.mem_cons, List.not_mem_nil, or_false] at he
  rcases he with rfl | rfl | rfl <;> exact ⟨sz1 _ rfl, sz1 _ rfl, by decide, by decide⟩
theorem own_noE {W : World} {g : Nat} (h : Blk W g 40 #[.string ⟨#[97]⟩, .string ⟨#[97]⟩, .int .i64 1, .string ⟨#[97]⟩, .string ⟨#[98]⟩, .int .i64 0, .string ⟨#[98]⟩, .string ⟨#[99]⟩, .int .i64 (-1)]) : Own W 0 40 3 (.slice (some ⟨g, 0, none⟩) 3 3) (noE.map edC) :=
  Own.lit (n := 3) (css := noE.map edC) h rfl edC_len (by decide)
/-- Three integers in a row of their own. -/
theorem ints_one {W : World} {g : Nat} {x y z : Int} (h : Blk W g 38 #[.int .i64 x, .int .i64 y, .int .i64 z]) (hx : -9223372036854775808 ≤ x ∧ x ≤ 9223372036854775807) (hy : -9223372036854775808 ≤ y ∧ y ≤ 9223372036854775807) (hz : -9223372036854775808 ≤ z ∧ z ≤ 9223372036854775807) :
    IntsAt W (.slice (some ⟨g, 0, none⟩) 1 1) 3 1 (fun q => if q = 0 then x else if q = 1 then y else z) := by
  refine ⟨⟨_, 1, rfl, Nat.le_refl _, by decide, fun _ => ⟨_, rfl, fun q hq => ?_⟩⟩, fun q => ?_⟩
  · rw [Addr.add_lit, Nat.zero_add, h.cell]
    rcases (show q = 0 ∨ q = 1 ∨ q = 2 by omega) with rfl | rfl | rfl <;> rfl
  · simp only
    split
    · exact hx
    · split
      · exact hy
      · exact hz

set_option maxHeartbeats 8000000 in
set_option maxRecDepth 100000 in
theorem walk_GraphMore (w : World) (v : Value) (n : Nat) (X : Nat → Int) (hx : IntsAt w v 3 n X) (x0 x1 x2 : Int) (hx0 : -9223372036854775808 ≤ x0 ∧ x0 ≤ 9223372036854775807) (hx1 : -9223372036854775808 ≤ x1 ∧ x1 ≤ 9223372036854775807) (hx2 : -9223372036854775808 ≤ x2 ∧ x2 ≤ 9223372036854775807) (one : Int) (hlo1 : -9223372036854775808 ≤ one) (hhi1 : one ≤ 9223372036854775807) (two : Int) (hlo2 : -9223372036854775808 ≤ two) (hhi2 : two ≤ 9223372036854775807) :
    Calls Try.prog 6 #[v, .agg #[.int .i64 x0, .int .i64 x1, .int .i64 x2], .int .i64 one, .int .i64 two] w fun e w' => e = .returned (.bool true) ∧ New w w' := by
  have HX := Lib.hid (show ∀ W, New w W → IntsAt W v 3 n X from fun W hn => ints_new hx hn)
  have hb0 : Blk (w.alloc (.cells #[.int .i64 x0, .int .i64 x1, .int .i64 x2] 38)) w.heap.size 38 #[.int .i64 x0, .int .i64 x1, .int .i64 x2] := Blk.new _ _ _
  have HB0 := Lib.hid hb0
  have HN0 := Lib.hid (show New w (w.alloc (.cells #[.int .i64 x0, .int .i64 x1, .int .i64 x2] 38)) from (Chg.refl _ _).alloc _)
  have eg9 : ∀ (args : Array Value) (w : World), (callFunc 9 args).run Try.prog w = .ok (.enter 9 args) w := enters_of Try.func9 (by kernel_rfl) rfl
  clear hx hb0
  go_enter Try.func6, Try.ntmps6
  go_upto_region 1 with fail
  generalize w.heap.size = gx at HB0 ⊢
  generalize w.alloc (.cells #[.int .i64 x0, .int .i64 x1, .int .i64 x2] 38) = w0 at HB0 HN0 ⊢
  go_upto_region 3 with first
    | (go_at_call 8; refine (awake8 _).mono ?_; rintro e w1 ⟨rfl, hn⟩; have HB1 := Lib.hid (HB0.out.chg hn id); have HN1 := Lib.hid (HN0.out.trans hn (fun _ _ x => x)); have HEd := Lib.hid (edges20 w1 v n X (HX.out w1 (HN0.out.trans hn (fun _ _ x => x))) false); clear hn)
    | (go_at_call 9; refine HEd.out.mono ?_; rintro e w2 ⟨ve, E, rfl, hoE, hlE, hraw, hboth, hn⟩; have HB2 := Lib.hid (HB1.out.chg hn id); have HN2 := Lib.hid (HN1.out.trans hn (fun _ _ x => x)); have HO2 := Lib.hid (Own.baseG hoE (Nat.zero_le _)); have HRaw := Lib.hid hraw; clear hoE hraw hboth hn)
  obtain ⟨AE, cE, hve, -⟩ := own_src HO2.out
  subst hve
  refine wp_region_at (by kernel_rfl) ?_
  have HBd := Lib.hid (HB2.out.chg (show New w2 w2.drew from (Chg.refl _ _).drew) id)
  have HOd := Lib.hid (HO2.out.chg (show New w2 w2.drew from (Chg.refl _ _).drew) (fun _ _ x => x))
  have HNd := Lib.hid (HN2.out.drew)
  clear HB0 HN0 HB1 HN1 HEd HB2 HN2 HO2
  generalize w2.drew = wd at HBd HOd HNd ⊢
  refine AtN.segN2 0 5 [24, 25, 26, 27, 28] (fun
    | 0 => fun vv _ => vv = .slice AE E.length cE
    | 1 => fun u W => Own W wd.heap.size 40 3 u (E.map edC)
    | 2 => fun vv _ => vv = .agg #[.int .i64 x0, .int .i64 x1, .int .i64 x2]
    | 3 => fun u W => ∃ h, u = .slice (some ⟨h, 0, none⟩) 1 1 ∧ Blk W h 38 #[.int .i64 x0, .int .i64 x1, .int .i64 x2]
    | 4 => fun u W => ∃ F : List Ed, Own W 0 40 3 u (F.map edC) ∧ F.length ≤ 24 ∧ ∀ x ∈ F, x.Raw
    | _ => fun _ _ => True) (by kernel_rfl) (by kernel_rfl) (by kernel_rfl) (by kernel_rfl) (fun j v w1 w2 hc h => ?_) (fun i hn hi o ho A0 W hN hin hk => ?_) (fun l W3 hN hl hΦ => ?_)
  · match j with
    | 1 => exact h.chg hc (fun _ _ x => x)
    | 3 => exact h.imp fun h1 h => ⟨h.1, h.2.chg hc id⟩
    | 4 => exact h.imp fun F h => ⟨h.1.chg hc (fun _ _ x => x), h.2⟩
    | 0 | 2 => exact h
    | _ + 5 => trivial
  · rcases (show i = 0 ∨ i = 1 ∨ i = 2 ∨ i = 3 ∨ i = 4 by omega) with rfl | rfl | rfl | rfl | rfl
    · cases ho
      exact .same (exec_move 10 _ rfl (hk 10 (by kernel_rfl))) rfl
    · cases ho
      have h24 : A0.tmps[24]?.getD undef = .slice AE E.length cE := hin 0 24 (by kernel_rfl)
      obtain ⟨v', W', hrun, ho, hc⟩ := app_eds (W := W) (B := wd.heap.size) (D := []) (Own.nil _ _ _ _) (HOd.out.chg hN (fun _ _ x => x)) hN.size (by rw [List.length_nil]; omega)
      exact .value (W' := W') (v := v') (exec_append _ _ _ _ rfl rfl (by simpa [Act.eval] using h24) hrun) ⟨hc.mono (fun k _ h => by cases h), ho⟩
    · cases ho
      have h5 : A0.tmps[5]?.getD undef = .pointer (some ⟨gx, 0, none⟩) := hk 5 (by kernel_rfl)
      have hb := HBd.out.chg hN id
      have c0 := hb.cell 0
      have c1 := hb.cell 1
      have c2 := hb.cell 2
      simp only [List.getElem?_toArray, List.getElem?_cons_zero, List.getElem?_cons_succ] at c0 c1 c2
      exact .same (v := .agg #[.int .i64 x0, .int .i64 x1, .int .i64 x2]) (by simp [go_sem, h5, c0, c1, c2]) rfl
    · cases ho
      have h26 : A0.tmps[26]?.getD undef = .agg #[.int .i64 x0, .int .i64 x1, .int .i64 x2] := hin 2 26 (by kernel_rfl)
      exact .value (W' := W.alloc (.cells #[.int .i64 x0, .int .i64 x1, .int .i64 x2] 38)) (v := .slice (some ⟨W.heap.size, 0, none⟩) 1 1) (by simp [go_sem, h26]) ⟨(Chg.refl _ _).alloc _, _, rfl, Blk.new _ _ _⟩
    · cases ho
      have h27 := hin 3 27 (by kernel_rfl)
      obtain ⟨h, e27, hb⟩ := h27
      refine .call (f := 9) (args := #[.slice (some ⟨h, 0, none⟩) 1 1, .bool false]) (W' := W) ?_ ((edges20 W _ 1 _ (ints_one hb hx0 hx1 hx2) false).mono ?_)
      · simp [go_sem, e27, eg9]
      · rintro e w' ⟨vf, F, rfl, hoF, hlF, hrawF, _, hn⟩
        exact ⟨_, rfl, hn, F, Own.baseG hoF (Nat.zero_le _), hlF, hrawF⟩
  obtain ⟨x24, x25, x26, x27, x28, rfl⟩ : ∃ x24 x25 x26 x27 x28, l = [x24, x25, x26, x27, x28] := by
    match l, hl with
    | [x24, x25, x26, x27, x28], _ => exact ⟨_, _, _, _, _, rfl⟩
  obtain rfl : x24 = .slice AE E.length cE := hΦ 0 (by decide)
  have hx25 := hΦ 1 (by decide)
  obtain rfl : x26 = .agg #[.int .i64 x0, .int .i64 x1, .int .i64 x2] := hΦ 2 (by decide)
  have hx27 := hΦ 3 (by decide)
  have hx28 := hΦ 4 (by decide)
  simp only [putsL, List.zip_cons_cons, List.zip_nil_left, List.zip_nil_right, List.zip, List.zipWith, Act.put, List.setIfInBounds_toArray, List.set_cons_succ, List.set_cons_zero]
  clear hΦ hl
  obtain ⟨F, hoF, hlF, hrawF⟩ := hx28
  obtain ⟨v', W4, hrun, ho4, hc4⟩ := app_eds hx25 hoF hN.size (by omega)
  have hN4 : Chg wd W4 (fun _ => False) := hN.trans hc4 (fun k hk h => by have := (hx25.lt h).1; omega)
  have HR := Lib.hid hrun
  have HO4 := Lib.hid (HOd.out.chg hN4 (fun _ _ x => x))
  have HF4 := Lib.hid (Own.baseG ho4 (Nat.zero_le _))
  have HN4 := Lib.hid (HNd.out.trans hN4 (fun _ _ x => x))
  have HRawF := Lib.hid hrawF
  clear hrun ho4 hc4 hN4 hN hx25 hoF hx27 hrawF HOd HNd HBd
  refine AtN.list 5 7 (by kernel_rfl) ?_
  change wpList _ _ _ [_, _] _ _
  refine wpl_append rfl (.tmp 25) (.tmp 28) 24 24 rfl rfl rfl HR.out ?_
  go_wp2_with fail
  change AtN _ _ _ 7 _ _
  refine AtN.done rfl ?_
  obtain ⟨AF, cF, hvF, -⟩ := own_src HF4.out
  obtain ⟨nF, hnF⟩ : ∃ nF, (E ++ F).length = nF := ⟨_, rfl⟩
  rw [hnF] at hvF
  subst hvF
  have HnF := Lib.hid hnF
  clear hnF
  obtain ⟨v5, W5, hrun5, ho5, hc5⟩ := app_eds (W := W4) (B := W4.heap.size) (D := []) (Own.nil _ _ _ _) HO4.out (Nat.le_refl _) (by rw [List.length_nil]; omega)
  have hn5 : New W4 W5 := hc5.mono (fun k _ h => by cases h)
  have hn6 : New W5 (W5.alloc (.cells #[.string ⟨#[97]⟩, .string ⟨#[97]⟩, .int .i64 1, .string ⟨#[97]⟩, .string ⟨#[98]⟩, .int .i64 0, .string ⟨#[98]⟩, .string ⟨#[99]⟩, .int .i64 (-1)] 40)) := (Chg.refl _ _).alloc _
  have hb6 : Blk (W5.alloc (.cells #[.string ⟨#[97]⟩, .string ⟨#[97]⟩, .int .i64 1, .string ⟨#[97]⟩, .string ⟨#[98]⟩, .int .i64 0, .string ⟨#[98]⟩, .string ⟨#[99]⟩, .int .i64 (-1)] 40)) W5.heap.size 40 #[.string ⟨#[97]⟩, .string ⟨#[97]⟩, .int .i64 1, .string ⟨#[97]⟩, .string ⟨#[98]⟩, .int .i64 0, .string ⟨#[98]⟩, .string ⟨#[99]⟩, .int .i64 (-1)] := Blk.new _ _ _
  obtain ⟨v7, W7, hrun7, ho7, hc7⟩ := app_eds (ho5.chg hn6 (fun _ _ x => x)) (own_noE hb6) (hn5.trans hn6 (fun _ _ x => x)).size (by rw [List.nil_append]; have : noE.length = 3 := rfl; omega)
  rw [List.nil_append] at ho7 ho5
  have hN7 : New W4 W7 := (hn5.trans hn6 (fun _ _ x => x)).trans hc7 (fun k hk h => by have := (ho5.lt h).1; omega)
  have HR5 := Lib.hid hrun5
  have HR7 := Lib.hid hrun7
  have HO7 := Lib.hid (HO4.out.chg hN7 (fun _ _ x => x))
  have HF7 := Lib.hid (HF4.out.chg hN7 (fun _ _ x => x))
  have HG7 := Lib.hid (Own.baseG ho7 (Nat.zero_le _))
  have HN7 := Lib.hid (HN4.out.trans hN7 (fun _ _ x => x))
  clear hrun5 ho5 hc5 hn5 hn6 hb6 hrun7 ho7 hc7 hN7 HO4 HF4 HN4 HR
  go_upto_region 5 with first
    | ((with_reducible refine wpl_append rfl _ (.tmp 30) 24 24 rfl ?_ ?_ HR5.out ?_); exact rfl; exact rfl)
    | ((with_reducible refine wpl_append rfl (.tmp 31) (.tmp 35) 24 24 rfl ?_ ?_ HR7.out ?_); exact rfl; exact rfl)
  clear HR5 HR7
  obtain ⟨AG, cG, hvG, -⟩ := own_src HG7.out
  obtain ⟨nG, hnG⟩ : ∃ nG, (E ++ noE).length = nG := ⟨_, rfl⟩
  rw [hnG] at hvG
  subst hvG
  have HnG := Lib.hid hnG
  clear hnG
  obtain ⟨p1, sa, hp1, hlt1, hs1, hc1⟩ := node_ex one
  have HK1 := Lib.hid (show ∀ W, Calls Try.prog 11 #[.int .i64 one, .int .i64 5] W (fun e w' => e = .returned (.int .i64 p1) ∧ W = w') from fun W => (pick20 W one 5 hlo1 hhi1 (by omega) (by omega)).mono (fun e w' h => by rw [← hp1]; exact h))
  have HC1 := Lib.hid hc1
  have HS1 := Lib.hid hs1
  have i01 : (0 : Int) ≤ (p1 : Int) := by omega
  have i11 : (p1 : Int) < 5 := by omega
  clear hc1 hs1 hp1
  go_upto_region 6 with first
    | (go_at_call 10; refine (names20 _).mono ?_; rintro e wn1 ⟨bn1, rfl, hb, hn⟩; have HNn1 := Lib.hid hn; have en1 := HC1.out _ _ hb; clear hb hn)
    | (go_at_call 11; with_reducible refine (HK1.out _).mono ?_; rintro e w' ⟨rfl, rfl⟩)
  clear en1 i01 i11 HK1 HC1
  obtain ⟨p2, sb, hp2, hlt2, hs2, hc2⟩ := node_ex two
  have HK2 := Lib.hid (show ∀ W, Calls Try.prog 11 #[.int .i64 two, .int .i64 5] W (fun e w' => e = .returned (.int .i64 p2) ∧ W = w') from fun W => (pick20 W two 5 hlo2 hhi2 (by omega) (by omega)).mono (fun e w' h => by rw [← hp2]; exact h))
  have HC2 := Lib.hid hc2
  have HS2 := Lib.hid hs2
  have i02 : (0 : Int) ≤ (p2 : Int) := by omega
  have i12 : (p2 : Int) < 5 := by omega
  clear hc2 hs2 hp2
  go_upto_region 7 with first
    | (go_at_call 10; refine (names20 _).mono ?_; rintro e wn2 ⟨bn2, rfl, hb, hn⟩; have HNn2 := Lib.hid hn; have en2 := HC2.out _ _ hb; clear hb hn)
    | (go_at_call 11; with_reducible refine (HK2.out _).mono ?_; rintro e w' ⟨rfl, rfl⟩)
  clear en2 i02 i12 HK2 HC2
  have HM := Lib.hid ((HN7.out.trans HNn1.out (fun _ _ x => x)).trans HNn2.out (fun _ _ x => x))
  have hnn : New W7 wn2 := HNn1.out.trans HNn2.out (fun _ _ x => x)
  have HOx := Lib.hid (HO7.out.chg hnn (fun _ _ x => x))
  have HFx := Lib.hid (HF7.out.chg hnn (fun _ _ x => x))
  have HGx := Lib.hid (HG7.out.chg hnn (fun _ _ x => x))
  clear hnn HNn1 HNn2 HN7 HO7 HF7 HG7
  have HFit := Lib.hid (show ∀ e ∈ E, e.Fit from fun e he => (HRaw.out e he).fit)
  have HFitF := Lib.hid (show ∀ e ∈ E ++ F, e.Fit from fun e he => (List.mem_append.1 he).elim (HFit.out e) (fun h => (HRawF.out e h).fit))
  have HFitG := Lib.hid (show ∀ e ∈ E ++ noE, e.Fit from fun e he => (List.mem_append.1 he).elim (HFit.out e) (noE_fit e))
  have hlF2 : (E ++ F).length ≤ 1000 := by rw [List.length_append]; omega
  have hlG2 : (E ++ noE).length ≤ 1000 := by rw [List.length_append, show noE.length = 3 from rfl]; omega
  have HD1 := Lib.hid (show Calls Try.prog 13 #[.slice AE E.length cE, .string sa, .string sb] wn2 (DistPost wn2 E sa sb) from
    dist13 wn2 AE E.length cE E rfl HOx.out.srcG.2 HFit.out (by omega) sa sb (nmL_size HS1.out) (nmL_size HS2.out))
  go_upto_region 8 with (go_at_call 13; refine HD1.out.mono ?_; rintro e w4 ⟨hdo, rfl, hn⟩; have HDo1 := Lib.hid hdo; have HM1 := Lib.hid (HM.out.trans hn (fun _ _ x => x)); have HF1 := Lib.hid (HFx.out.chg hn (fun _ _ x => x)); have HG1 := Lib.hid (HGx.out.chg hn (fun _ _ x => x)); clear hdo hn)
  clear HD1 HOx HFx HGx
  have HD2 := Lib.hid (show Calls Try.prog 13 #[.slice AF nF cF, .string sa, .string sb] w4 (DistPost w4 (E ++ F) sa sb) from
    dist13 w4 AF nF cF (E ++ F) HnF.out.symm HF1.out.srcG.2 HFitF.out hlF2 sa sb (nmL_size HS1.out) (nmL_size HS2.out))
  go_upto_region 9 with (go_at_call 13; refine HD2.out.mono ?_; rintro e w5 ⟨hdo, rfl, hn⟩; have HDo2 := Lib.hid hdo; have HM2 := Lib.hid (HM1.out.trans hn (fun _ _ x => x)); have HG2 := Lib.hid (HG1.out.chg hn (fun _ _ x => x)); clear hdo hn)
  clear HD2 HF1 HG1
  have HD3 := Lib.hid (show Calls Try.prog 13 #[.slice AG nG cG, .string sa, .string sb] w5 (DistPost w5 (E ++ noE) sa sb) from
    dist13 w5 AG nG cG (E ++ noE) HnG.out.symm HG2.out.srcG.2 HFitG.out hlG2 sa sb (nmL_size HS1.out) (nmL_size HS2.out))
  go_upto_region 10 with (go_at_call 13; refine HD3.out.mono ?_; rintro e w6 ⟨hdo, rfl, hn⟩; have HDo3 := Lib.hid hdo; have HM3 := Lib.hid (HM2.out.trans hn (fun _ _ x => x)); clear hdo hn)
  clear HD3 HG2
  have hz : dst (E ++ noE) sa sb = dst E sa sb := dist_mem (E := E ++ noE) (F := E) (fun e he => ⟨fun h => (List.mem_append.1 h).elim id (fun h => absurd he (noE_no e h)), fun h => List.mem_append_left _ h⟩) HDo3.out HDo1.out
  have hy : ∀ x, dst E sa sb = some x → ∃ y, dst (E ++ F) sa sb = some y ∧ y ≤ x := fun x hx =>
    dist_more (R' := RE (E ++ F)) (fun u v c ⟨e, he, h⟩ => ⟨e, List.mem_append_left _ he, h⟩) (isd_of HDo1.out hx) HDo2.out
  rw [hz]
  clear hz HDo1 HDo2 HDo3
  generalize dst E sa sb = o1 at hy ⊢
  generalize dst (E ++ F) sa sb = o2 at hy ⊢
  cases o1 with
  | none =>
    clear hy
    go_wp2_with fail
    go_ret
    exact ⟨rfl, HM3.out⟩
  | some x =>
    obtain ⟨y, rfl, hyx⟩ := hy x rfl
    clear hy
    go_wp2_with fail
    go_ret
    exact ⟨rfl, HM3.out⟩
end Go.Proofs.Ytffmalagochakaa
