/- GraphTurned: the walk. -/
import Derived.Test.YtffmalagochakaaGraL
set_option linter.unusedVariables false
set_option linter.unusedSimpArgs false
namespace Go.Proofs.Ytffmalagochakaa
open Go.RowKit Go.Shelf

def Ed.times (n : Int) (e : Ed) : Ed := ⟨e.a, e.b, e.c * n⟩
theorem app_one {W : World} {B : Nat} {v : Value} {D : List Ed} {e : Ed} {g : Nat} (h : Own W B 40 3 v (D.map edC)) (h2 : Blk W g 40 #[.string e.a, .string e.b, .int .i64 e.c]) (hB : B ≤ W.heap.size) (hb : D.length ≤ 1000) :
    ∃ v' W', (Builtin.append_ #[24, 24] 24 #[v, .slice (some ⟨g, 0, none⟩) 1 1]).run Try.prog W = .ok v' W' ∧ Own W' B 40 3 v' ((D ++ [e]).map edC) ∧ Chg W W' (fun k => v.ownBlock = some k) ∧ ∀ k, v'.ownBlock = some k → v.ownBlock = some k ∨ W.heap.size ≤ k := by
  obtain ⟨v', W', h1, h3, h4, h5⟩ := elEdge.appendS h hB (some ⟨g, 0, none⟩) 1 1 [edC e] rfl (fun cs hc => by rw [List.mem_singleton.1 hc]; rfl) (fun cs hc => by rw [List.mem_singleton.1 hc]; exact ed_one e) (src_one (show At W ⟨g, 0, none⟩ (edC e) from (show Blk W g _ (edC e).toArray from h2).at_)) (by rw [List.length_map]; omega) (by rw [List.length_map]; unfold maxLen; omega) 24
  exact ⟨v', W', h1, by rw [List.map_append]; exact h3, h4, h5⟩
theorem src_ed {W : World} {A : Option Addr} {E : List Ed} (h : SrcAt W A 3 (E.map edC)) {i : Nat} {e : Ed} (he : E[i]? = some e) : ∃ la, A = some la ∧ W.cell? (la.add (i * 3)) = some (.string e.a) ∧ W.cell? ⟨(la.add (i * 3)).block, (la.add (i * 3)).off + 1, none⟩ = some (.string e.b) ∧ W.cell? ⟨(la.add (i * 3)).block, (la.add (i * 3)).off + 2, none⟩ = some (.int .i64 e.c) := by
  obtain ⟨la, ha, hr⟩ := h (by rw [List.length_map]; exact Nat.lt_of_le_of_lt (Nat.zero_le _) (List.getElem?_eq_some_iff.1 he).1)
  have hat := (hr i (edC e) (by rw [List.getElem?_map, he]; rfl)).2
  refine ⟨la, ha, ?_, ?_, ?_⟩
  · have := hat 0 _ rfl
    rw [add_add, Nat.add_zero] at this
    exact this
  · have := hat 1 _ rfl
    rw [add_succ] at this
    exact this
  · have := hat 2 _ rfl
    rw [add_succ] at this
    exact this
theorem re_turn {E : List Ed} {u v : ByteArray} {c : Int} : RE E u v c ↔ RE (E.map Ed.turn) v u c := by
  constructor
  · rintro ⟨e, he, h1, rfl, rfl, rfl⟩
    exact ⟨e.turn, List.mem_map_of_mem he, ⟨fun q => h1.1 q.symm, h1.2⟩, rfl, rfl, rfl⟩
  · rintro ⟨e', he', h1, rfl, rfl, rfl⟩
    obtain ⟨e, he, rfl⟩ := List.mem_map.1 he'
    exact ⟨e, he, ⟨fun q => h1.1 q.symm, h1.2⟩, rfl, rfl, rfl⟩
theorem mul_bd {c n : Int} (h0 : 0 ≤ c) (h1 : c ≤ 30) (hn : 1 ≤ n) (hn2 : n ≤ 1000) : 0 ≤ c * n ∧ c * n ≤ 30000 ∧ (1 ≤ c → 1 ≤ c * n) ∧ (1 ≤ c * n → 1 ≤ c) := by
  have h3 : 0 ≤ c * n := Int.mul_nonneg h0 (by omega)
  have h4 : c * n ≤ 30 * 1000 := Int.mul_le_mul h1 hn2 (by omega) (by omega)
  refine ⟨h3, by omega, fun h => ?_, fun h => ?_⟩
  · have := Int.mul_le_mul h hn (by omega) (by omega)
    omega
  · rcases (show c = 0 ∨ 1 ≤ c by omega) with rfl | h5
    · rw [Int.zero_mul] at h; omega
    · exact h5
theorem re_times {E : List Ed} (hE : ∀ e ∈ E, e.Raw) {n : Int} (hn : 1 ≤ n) (hn2 : n ≤ 1000) {u v : ByteArray} {c : Int} : (RE E u v c → RE (E.map (Ed.times n)) u v (c * n)) ∧ (RE (E.map (Ed.times n)) u v c → ∃ c0, c = c0 * n ∧ RE E u v c0) := by
  constructor
  · rintro ⟨e, he, h1, rfl, rfl, rfl⟩
    have := mul_bd (hE e he).lo (by have := (hE e he).hi; omega) hn hn2
    exact ⟨e.times n, List.mem_map_of_mem he, ⟨h1.1, this.2.2.1 h1.2.1, by show e.c * n ≤ _; omega⟩, rfl, rfl, rfl⟩
  · rintro ⟨e', he', h1, rfl, rfl, rfl⟩
    obtain ⟨e, he, rfl⟩ := List.mem_map.1 he'
    have := mul_bd (hE e he).lo (by have := (hE e he).hi; omega) hn hn2
    exact ⟨e.c, rfl, e, he, ⟨h1.1, this.2.2.2 h1.2.1, by have := (hE e he).hi; omega⟩, rfl, rfl, rfl⟩

set_option maxHeartbeats 8000000 in
set_option maxRecDepth 100000 in
theorem walk_GraphTurned (w : World) (v : Value) (n : Nat) (X : Nat → Int) (hx : IntsAt w v 3 n X) (one : Int) (hlo1 : -9223372036854775808 ≤ one) (hhi1 : one ≤ 9223372036854775807) (two : Int) (hlo2 : -9223372036854775808 ≤ two) (hhi2 : two ≤ 9223372036854775807) (times : Int) (hlo3 : -9223372036854775808 ≤ times) (hhi3 : times ≤ 9223372036854775807) :
    Calls Try.prog 7 #[v, .int .i64 one, .int .i64 two, .int .i64 times] w fun e w' => e = .returned (.bool true) ∧ New w w' := by
  have HX := Lib.hid (show ∀ W, New w W → IntsAt W v 3 n X from fun W hn => ints_new hx hn)
  clear hx
  obtain ⟨pt, hpt⟩ : ∃ pt, pk times 1000 = pt := ⟨_, rfl⟩
  have hpt0 : 0 ≤ pt := by rw [← hpt]; exact pk_lo _ _ (by omega)
  have hpt1 : pt < 1000 := by rw [← hpt]; exact pk_hi _ _ (by omega)
  have HPt := Lib.hid (show ∀ W, Calls Try.prog 11 #[.int .i64 times, .int .i64 1000] W (fun e w' => e = .returned (.int .i64 pt) ∧ W = w') from fun W => (pick20 W times 1000 hlo3 hhi3 (by omega) (by omega)).mono (fun e w' h => by rw [← hpt]; exact h))
  have kw1 : IntKind.i64.wrap (1 + pt) = 1 + pt := by rw [IntKind.wrap_i64]; omega
  clear hpt
  go_enter Try.func7, Try.ntmps7
  go_upto_region 4 with first
    | (go_at_call 8; refine (awake8 _).mono ?_; rintro e w1 ⟨rfl, hn⟩; have HN1 := Lib.hid hn; have HEd := Lib.hid (edges20 w1 v n X (HX.out w1 hn) false); clear hn)
    | (go_at_call 9; refine HEd.out.mono ?_; rintro e w2 ⟨ve, E, rfl, hoE, hlE, hraw, hboth, hn⟩; have HN2 := Lib.hid (HN1.out.trans hn (fun _ _ x => x)); have HO2 := Lib.hid (Own.baseG hoE (Nat.zero_le _)); have HRaw := Lib.hid hraw; clear hoE hraw hboth hn)
    | (go_at_call 11; refine (HPt.out _).mono ?_; rintro e w' ⟨rfl, rfl⟩)
  obtain ⟨AE, cE, hve, -⟩ := own_src HO2.out
  subst hve
  clear HEd HN1 HPt HX kw1
  obtain ⟨nn, hnn⟩ : ∃ nn, 1 + pt = nn := ⟨_, rfl⟩
  rw [hnn]
  have hn1 : 1 ≤ nn := by omega
  have hn2 : nn ≤ 1000 := by omega
  clear hnn hpt0 hpt1
  go_wp2_with fail
  go_loopw [12, 13, 14] (fun u12 u13 u14 wr => ∃ i : Nat, i ≤ E.length ∧ u14 = .int .i64 i ∧ Own wr w2.heap.size 40 3 u12 (((E.take i).map Ed.turn).map edC) ∧ Own wr w2.heap.size 40 3 u13 (((E.take i).map (Ed.times nn)).map edC) ∧ (∀ k, u12.ownBlock = some k → u13.ownBlock ≠ some k) ∧ New w2 wr) (fun _ _ u _ => E.length - (intOf u).toNat)
  case atStart => exact ⟨0, Nat.zero_le _, rfl, Own.nil _ _ _ _, Own.nil _ _ _ _, fun k h => (by cases h), Chg.refl _ _⟩
  case round =>
    obtain ⟨i, hi, rfl, hof, hog, hne, hN⟩ := hrel
    by_cases hlt : i < E.length
    · obtain ⟨ed, hed⟩ : ∃ ed, E[i]? = some ed := ⟨_, List.getElem?_eq_getElem hlt⟩
      have HTk := Lib.hid (take_succ_get hed)
      have hraw := HRaw.out ed (List.mem_of_getElem? hed)
      obtain ⟨la, hla, hc0, hc1, hc2⟩ := src_ed (HO2.out.chg hN (fun _ _ x => x)).srcG.2 hed
      subst hla
      obtain ⟨ea, eb, ec⟩ := ed
      simp only at hc0 hc1 hc2
      have hec := mul_bd hraw.lo (by have := hraw.hi; simp only at this ⊢; omega) hn1 hn2
      simp only at hec
      have q0 : (0 : Int) ≤ (i : Int) := by omega
      have q1 : (i : Int) < (E.length : Int) := by omega
      have kw : IntKind.i64.wrap (ec * nn) = ec * nn := by rw [IntKind.wrap_i64]; omega
      have HOf := Lib.hid hof
      have HOg := Lib.hid hog
      have HNe := Lib.hid hne
      have HN := Lib.hid hN
      have C0 := Lib.hid hc0
      have C1 := Lib.hid hc1
      have C2 := Lib.hid hc2
      clear hof hog hne hN hc0 hc1 hc2 hed hraw hec
      go_upto_region 9 with fail
      refine wp_region_at (by kernel_rfl) ?_
      have hnd : New wr wr.drew := (Chg.refl _ _).drew
      have D0 := Lib.hid (hnd.cellS C0.out id)
      have D1 := Lib.hid (hnd.cellS C1.out id)
      have D2 := Lib.hid (hnd.cellS C2.out id)
      have DOf := Lib.hid (HOf.out.chg hnd (fun _ _ x => x))
      have DOg := Lib.hid (HOg.out.chg hnd (fun _ _ x => x))
      have DN := Lib.hid (HN.out.trans hnd (fun _ _ x => x))
      clear hnd C0 C1 C2 HOf HOg HN
      generalize wr.drew = wd at D0 D1 D2 DOf DOg DN ⊢
      refine AtN.segN2 0 18 [35, 36, 37, 38, 39, 40, 41, 42, 43, 44, 45, 46, 47, 48, 49, 50, 51, 52] (fun
        | 0 => fun vv _ => vv = u12
        | 1 => fun vv _ => vv = .slice (some la) E.length cE
        | 2 => fun vv _ => vv = .int .i64 i
        | 3 => fun vv _ => vv = .pointer (some (la.add (i * 3)))
        | 4 => fun vv _ => vv = .pointer (some ⟨(la.add (i * 3)).block, (la.add (i * 3)).off + 1, none⟩)
        | 5 => fun vv _ => vv = .string eb
        | 6 => fun vv _ => vv = .slice (some la) E.length cE
        | 7 => fun vv _ => vv = .int .i64 i
        | 8 => fun vv _ => vv = .pointer (some (la.add (i * 3)))
        | 9 => fun vv _ => vv = .pointer (some (la.add (i * 3)))
        | 10 => fun vv _ => vv = .string ea
        | 11 => fun vv _ => vv = .slice (some la) E.length cE
        | 12 => fun vv _ => vv = .int .i64 i
        | 13 => fun vv _ => vv = .pointer (some (la.add (i * 3)))
        | 14 => fun vv _ => vv = .pointer (some ⟨(la.add (i * 3)).block, (la.add (i * 3)).off + 2, none⟩)
        | 15 => fun vv _ => vv = .int .i64 ec
        | 16 => fun vv _ => vv = .agg #[.string eb, .string ea, .int .i64 ec]
        | 17 => fun u W => ∃ h, u = .slice (some ⟨h, 0, none⟩) 1 1 ∧ Blk W h 40 #[.string eb, .string ea, .int .i64 ec]
        | _ => fun _ _ => True) (by kernel_rfl) (by kernel_rfl) (by kernel_rfl) (by kernel_rfl) (fun j v w1 w2 hc h => ?_) (fun i hn hi o ho A0 W hN hin hk => ?_) (fun l W3 hN hl hΦ => ?_)
      · match j with
        | 17 => exact h.imp fun h1 h => ⟨h.1, h.2.chg hc id⟩
        | 0 | 1 | 2 | 3 | 4 | 5 | 6 | 7 | 8 | 9 | 10 | 11 | 12 | 13 | 14 | 15 | 16 => exact h
        | _ + 18 => trivial
      · rcases (show i = 0 ∨ i = 1 ∨ i = 2 ∨ i = 3 ∨ i = 4 ∨ i = 5 ∨ i = 6 ∨ i = 7 ∨ i = 8 ∨ i = 9 ∨ i = 10 ∨ i = 11 ∨ i = 12 ∨ i = 13 ∨ i = 14 ∨ i = 15 ∨ i = 16 ∨ i = 17 by omega) with rfl | rfl | rfl | rfl | rfl | rfl | rfl | rfl | rfl | rfl | rfl | rfl | rfl | rfl | rfl | rfl | rfl | rfl
        · cases ho
          exact .same (exec_move 12 _ rfl (hk 12 (by kernel_rfl))) rfl
        · cases ho
          exact .same (exec_move 10 _ rfl (hk 10 (by kernel_rfl))) rfl
        · cases ho
          exact .same (exec_move 14 _ rfl (hk 14 (by kernel_rfl))) rfl
        · cases ho
          have h36 : A0.tmps[36]?.getD undef = .slice (some la) E.length cE := hin 1 36 (by kernel_rfl)
          have h37 : A0.tmps[37]?.getD undef = .int .i64 i := hin 2 37 (by kernel_rfl)
          exact .same (by simp [go_sem, h36, h37, q0, q1, hlt]) rfl
        · cases ho
          have h38 : A0.tmps[38]?.getD undef = .pointer (some (la.add (i * 3))) := hin 3 38 (by kernel_rfl)
          exact .same (by simp [go_sem, h38]) rfl
        · cases ho
          have h39 : A0.tmps[39]?.getD undef = .pointer (some ⟨(la.add (i * 3)).block, (la.add (i * 3)).off + 1, none⟩) := hin 4 39 (by kernel_rfl)
          have hc : W.cell? ⟨(la.add (i * 3)).block, (la.add (i * 3)).off + 1, none⟩ = some (.string eb) := hN.cellS D1.out id
          exact .same (v := .string eb) (by simp [go_sem, h39, hc]) rfl
        · cases ho
          exact .same (exec_move 10 _ rfl (hk 10 (by kernel_rfl))) rfl
        · cases ho
          exact .same (exec_move 14 _ rfl (hk 14 (by kernel_rfl))) rfl
        · cases ho
          have h41 : A0.tmps[41]?.getD undef = .slice (some la) E.length cE := hin 6 41 (by kernel_rfl)
          have h42 : A0.tmps[42]?.getD undef = .int .i64 i := hin 7 42 (by kernel_rfl)
          exact .same (by simp [go_sem, h41, h42, q0, q1, hlt]) rfl
        · cases ho
          have h43 : A0.tmps[43]?.getD undef = .pointer (some (la.add (i * 3))) := hin 8 43 (by kernel_rfl)
          exact .same (by simp [go_sem, h43]) rfl
        · cases ho
          have h44 : A0.tmps[44]?.getD undef = .pointer (some (la.add (i * 3))) := hin 9 44 (by kernel_rfl)
          have hc : W.cell? (la.add (i * 3)) = some (.string ea) := hN.cellS D0.out id
          exact .same (v := .string ea) (by simp [go_sem, h44, hc]) rfl
        · cases ho
          exact .same (exec_move 10 _ rfl (hk 10 (by kernel_rfl))) rfl
        · cases ho
          exact .same (exec_move 14 _ rfl (hk 14 (by kernel_rfl))) rfl
        · cases ho
          have h46 : A0.tmps[46]?.getD undef = .slice (some la) E.length cE := hin 11 46 (by kernel_rfl)
          have h47 : A0.tmps[47]?.getD undef = .int .i64 i := hin 12 47 (by kernel_rfl)
          exact .same (by simp [go_sem, h46, h47, q0, q1, hlt]) rfl
        · cases ho
          have h48 : A0.tmps[48]?.getD undef = .pointer (some (la.add (i * 3))) := hin 13 48 (by kernel_rfl)
          exact .same (by simp [go_sem, h48]) rfl
        · cases ho
          have h49 : A0.tmps[49]?.getD undef = .pointer (some ⟨(la.add (i * 3)).block, (la.add (i * 3)).off + 2, none⟩) := hin 14 49 (by kernel_rfl)
          have hc : W.cell? ⟨(la.add (i * 3)).block, (la.add (i * 3)).off + 2, none⟩ = some (.int .i64 ec) := hN.cellS D2.out id
          exact .same (v := .int .i64 ec) (by simp [go_sem, h49, hc]) rfl
        · cases ho
          have h40 : A0.tmps[40]?.getD undef = .string eb := hin 5 40 (by kernel_rfl)
          have h45 : A0.tmps[45]?.getD undef = .string ea := hin 10 45 (by kernel_rfl)
          have h50 : A0.tmps[50]?.getD undef = .int .i64 ec := hin 15 50 (by kernel_rfl)
          exact .same (by simp [go_sem, h40, h45, h50]) rfl
        · cases ho
          have h51 : A0.tmps[51]?.getD undef = .agg #[.string eb, .string ea, .int .i64 ec] := hin 16 51 (by kernel_rfl)
          exact .value (W' := W.alloc (.cells #[.string eb, .string ea, .int .i64 ec] 40)) (v := .slice (some ⟨W.heap.size, 0, none⟩) 1 1) (by simp [go_sem, h51]) ⟨(Chg.refl _ _).alloc _, _, rfl, Blk.new _ _ _⟩
      obtain ⟨x35, x36, x37, x38, x39, x40, x41, x42, x43, x44, x45, x46, x47, x48, x49, x50, x51, x52, rfl⟩ : ∃ x35 x36 x37 x38 x39 x40 x41 x42 x43 x44 x45 x46 x47 x48 x49 x50 x51 x52, l = [x35, x36, x37, x38, x39, x40, x41, x42, x43, x44, x45, x46, x47, x48, x49, x50, x51, x52] := by
        match l, hl with
        | [x35, x36, x37, x38, x39, x40, x41, x42, x43, x44, x45, x46, x47, x48, x49, x50, x51, x52], _ => exact ⟨_, _, _, _, _, _, _, _, _, _, _, _, _, _, _, _, _, _, rfl⟩
      obtain rfl : u12 = x35 := (hΦ 0 (by decide)).symm
      obtain rfl : x36 = .slice (some la) E.length cE := hΦ 1 (by decide)
      obtain rfl : x37 = .int .i64 i := hΦ 2 (by decide)
      obtain rfl : x38 = .pointer (some (la.add (i * 3))) := hΦ 3 (by decide)
      obtain rfl : x39 = .pointer (some ⟨(la.add (i * 3)).block, (la.add (i * 3)).off + 1, none⟩) := hΦ 4 (by decide)
      obtain rfl : x40 = .string eb := hΦ 5 (by decide)
      obtain rfl : x41 = .slice (some la) E.length cE := hΦ 6 (by decide)
      obtain rfl : x42 = .int .i64 i := hΦ 7 (by decide)
      obtain rfl : x43 = .pointer (some (la.add (i * 3))) := hΦ 8 (by decide)
      obtain rfl : x44 = .pointer (some (la.add (i * 3))) := hΦ 9 (by decide)
      obtain rfl : x45 = .string ea := hΦ 10 (by decide)
      obtain rfl : x46 = .slice (some la) E.length cE := hΦ 11 (by decide)
      obtain rfl : x47 = .int .i64 i := hΦ 12 (by decide)
      obtain rfl : x48 = .pointer (some (la.add (i * 3))) := hΦ 13 (by decide)
      obtain rfl : x49 = .pointer (some ⟨(la.add (i * 3)).block, (la.add (i * 3)).off + 2, none⟩) := hΦ 14 (by decide)
      obtain rfl : x50 = .int .i64 ec := hΦ 15 (by decide)
      obtain rfl : x51 = .agg #[.string eb, .string ea, .int .i64 ec] := hΦ 16 (by decide)
      have hx52 := hΦ 17 (by decide)
      simp only [putsL, List.zip_cons_cons, List.zip_nil_left, List.zip_nil_right, List.zip, List.zipWith, Act.put, List.setIfInBounds_toArray, List.set_cons_succ, List.set_cons_zero]
      clear hΦ hl
      obtain ⟨h52, rfl, hb52⟩ := hx52
      obtain ⟨v4, W4, hrun, ho4, hc4, hv4⟩ := app_one (e := Ed.turn ⟨ea, eb, ec⟩) (DOf.out.chg hN (fun _ _ x => x)) hb52 (DN.out.trans hN (fun _ _ x => x)).size (by rw [List.length_map, List.length_take]; omega)
      have HR := Lib.hid hrun
      have FOf := Lib.hid ho4
      have hgb : ∀ k, u13.ownBlock = some k → ¬ u12.ownBlock = some k := fun k h1 h2 => HNe.out k h2 h1
      have FOg := Lib.hid ((DOg.out.chg hN (fun _ _ x => x)).chg hc4 hgb)
      have FN := Lib.hid ((DN.out.trans hN (fun _ _ x => x)).trans hc4 (fun k hk h => by have := (DOf.out.lt h).1; omega))
      have hla : ∀ k, (la.add (i * 3)).block = k → ¬ u12.ownBlock = some k := fun k hk h => by
        have h1 := (DOf.out.lt h).1
        have h2 : la.block < w2.heap.size := by
          have := HO2.out.lt (g := la.block) rfl
          exact this.2
        rw [add_block] at hk
        omega
      have F0 := Lib.hid (hc4.cellS (hN.cellS D0.out id) (hla _ rfl))
      have F1 := Lib.hid (hc4.cellS (hN.cellS D1.out id) (hla _ rfl))
      have F2 := Lib.hid (hc4.cellS (hN.cellS D2.out id) (hla _ rfl))
      have HNe2 := Lib.hid (show ∀ k, v4.ownBlock = some k → u13.ownBlock ≠ some k from fun k h1 h2 => by
        rcases hv4 k h1 with h3 | h3
        · exact HNe.out k h3 h2
        · have := (DOg.out.lt h2).2
          have := hN.size
          omega)
      clear hrun ho4 hc4 hv4 hgb hla hN hb52 D0 D1 D2 DOf DOg DN HNe
      refine AtN.list 18 20 (by kernel_rfl) ?_
      change wpList _ _ _ [_, _] _ _
      refine wpl_append rfl (.tmp 35) (.tmp 52) 24 24 rfl rfl rfl HR.out ?_
      go_wp2_with fail
      change AtN _ _ _ 20 _ _
      refine AtN.done rfl ?_
      clear HR
      go_upto_region 10 with fail
      refine wp_region_at (by kernel_rfl) ?_
      have hnd : New W4 W4.drew := (Chg.refl _ _).drew
      have D0 := Lib.hid (hnd.cellS F0.out id)
      have D1 := Lib.hid (hnd.cellS F1.out id)
      have D2 := Lib.hid (hnd.cellS F2.out id)
      have DOf := Lib.hid (FOf.out.chg hnd (fun _ _ x => x))
      have DOg := Lib.hid (FOg.out.chg hnd (fun _ _ x => x))
      have DN := Lib.hid (FN.out.trans hnd (fun _ _ x => x))
      clear hnd F0 F1 F2 FOf FOg FN
      generalize W4.drew = wd2 at D0 D1 D2 DOf DOg DN ⊢
      refine AtN.segN2 0 20 [54, 55, 56, 57, 58, 59, 60, 61, 62, 63, 64, 65, 66, 67, 68, 69, 70, 71, 72, 73] (fun
        | 0 => fun vv _ => vv = u13
        | 1 => fun vv _ => vv = .slice (some la) E.length cE
        | 2 => fun vv _ => vv = .int .i64 i
        | 3 => fun vv _ => vv = .pointer (some (la.add (i * 3)))
        | 4 => fun vv _ => vv = .pointer (some (la.add (i * 3)))
        | 5 => fun vv _ => vv = .string ea
        | 6 => fun vv _ => vv = .slice (some la) E.length cE
        | 7 => fun vv _ => vv = .int .i64 i
        | 8 => fun vv _ => vv = .pointer (some (la.add (i * 3)))
        | 9 => fun vv _ => vv = .pointer (some ⟨(la.add (i * 3)).block, (la.add (i * 3)).off + 1, none⟩)
        | 10 => fun vv _ => vv = .string eb
        | 11 => fun vv _ => vv = .slice (some la) E.length cE
        | 12 => fun vv _ => vv = .int .i64 i
        | 13 => fun vv _ => vv = .pointer (some (la.add (i * 3)))
        | 14 => fun vv _ => vv = .pointer (some ⟨(la.add (i * 3)).block, (la.add (i * 3)).off + 2, none⟩)
        | 15 => fun vv _ => vv = .int .i64 ec
        | 16 => fun vv _ => vv = .int .i64 nn
        | 17 => fun vv _ => vv = .int .i64 (ec * nn)
        | 18 => fun vv _ => vv = .agg #[.string ea, .string eb, .int .i64 (ec * nn)]
        | 19 => fun u W => ∃ h, u = .slice (some ⟨h, 0, none⟩) 1 1 ∧ Blk W h 40 #[.string ea, .string eb, .int .i64 (ec * nn)]
        | _ => fun _ _ => True) (by kernel_rfl) (by kernel_rfl) (by kernel_rfl) (by kernel_rfl) (fun j v w1 w2 hc h => ?_) (fun i hn hi o ho A0 W hN hin hk => ?_) (fun l W5 hN hl hΦ => ?_)
      · match j with
        | 19 => exact h.imp fun h1 h => ⟨h.1, h.2.chg hc id⟩
        | 0 | 1 | 2 | 3 | 4 | 5 | 6 | 7 | 8 | 9 | 10 | 11 | 12 | 13 | 14 | 15 | 16 | 17 | 18 => exact h
        | _ + 20 => trivial
      · rcases (show i = 0 ∨ i = 1 ∨ i = 2 ∨ i = 3 ∨ i = 4 ∨ i = 5 ∨ i = 6 ∨ i = 7 ∨ i = 8 ∨ i = 9 ∨ i = 10 ∨ i = 11 ∨ i = 12 ∨ i = 13 ∨ i = 14 ∨ i = 15 ∨ i = 16 ∨ i = 17 ∨ i = 18 ∨ i = 19 by omega) with rfl | rfl | rfl | rfl | rfl | rfl | rfl | rfl | rfl | rfl | rfl | rfl | rfl | rfl | rfl | rfl | rfl | rfl | rfl | rfl
        · cases ho
          exact .same (exec_move 13 _ rfl (hk 13 (by kernel_rfl))) rfl
        · cases ho
          exact .same (exec_move 10 _ rfl (hk 10 (by kernel_rfl))) rfl
        · cases ho
          exact .same (exec_move 14 _ rfl (hk 14 (by kernel_rfl))) rfl
        · cases ho
          have h55 : A0.tmps[55]?.getD undef = .slice (some la) E.length cE := hin 1 55 (by kernel_rfl)
          have h56 : A0.tmps[56]?.getD undef = .int .i64 i := hin 2 56 (by kernel_rfl)
          exact .same (by simp [go_sem, h55, h56, q0, q1, hlt]) rfl
        · cases ho
          have h57 : A0.tmps[57]?.getD undef = .pointer (some (la.add (i * 3))) := hin 3 57 (by kernel_rfl)
          exact .same (by simp [go_sem, h57]) rfl
        · cases ho
          have h58 : A0.tmps[58]?.getD undef = .pointer (some (la.add (i * 3))) := hin 4 58 (by kernel_rfl)
          have hc : W.cell? (la.add (i * 3)) = some (.string ea) := hN.cellS D0.out id
          exact .same (v := .string ea) (by simp [go_sem, h58, hc]) rfl
        · cases ho
          exact .same (exec_move 10 _ rfl (hk 10 (by kernel_rfl))) rfl
        · cases ho
          exact .same (exec_move 14 _ rfl (hk 14 (by kernel_rfl))) rfl
        · cases ho
          have h60 : A0.tmps[60]?.getD undef = .slice (some la) E.length cE := hin 6 60 (by kernel_rfl)
          have h61 : A0.tmps[61]?.getD undef = .int .i64 i := hin 7 61 (by kernel_rfl)
          exact .same (by simp [go_sem, h60, h61, q0, q1, hlt]) rfl
        · cases ho
          have h62 : A0.tmps[62]?.getD undef = .pointer (some (la.add (i * 3))) := hin 8 62 (by kernel_rfl)
          exact .same (by simp [go_sem, h62]) rfl
        · cases ho
          have h63 : A0.tmps[63]?.getD undef = .pointer (some ⟨(la.add (i * 3)).block, (la.add (i * 3)).off + 1, none⟩) := hin 9 63 (by kernel_rfl)
          have hc : W.cell? ⟨(la.add (i * 3)).block, (la.add (i * 3)).off + 1, none⟩ = some (.string eb) := hN.cellS D1.out id
          exact .same (v := .string eb) (by simp [go_sem, h63, hc]) rfl
        · cases ho
          exact .same (exec_move 10 _ rfl (hk 10 (by kernel_rfl))) rfl
        · cases ho
          exact .same (exec_move 14 _ rfl (hk 14 (by kernel_rfl))) rfl
        · cases ho
          have h65 : A0.tmps[65]?.getD undef = .slice (some la) E.length cE := hin 11 65 (by kernel_rfl)
          have h66 : A0.tmps[66]?.getD undef = .int .i64 i := hin 12 66 (by kernel_rfl)
          exact .same (by simp [go_sem, h65, h66, q0, q1, hlt]) rfl
        · cases ho
          have h67 : A0.tmps[67]?.getD undef = .pointer (some (la.add (i * 3))) := hin 13 67 (by kernel_rfl)
          exact .same (by simp [go_sem, h67]) rfl
        · cases ho
          have h68 : A0.tmps[68]?.getD undef = .pointer (some ⟨(la.add (i * 3)).block, (la.add (i * 3)).off + 2, none⟩) := hin 14 68 (by kernel_rfl)
          have hc : W.cell? ⟨(la.add (i * 3)).block, (la.add (i * 3)).off + 2, none⟩ = some (.int .i64 ec) := hN.cellS D2.out id
          exact .same (v := .int .i64 ec) (by simp [go_sem, h68, hc]) rfl
        · cases ho
          exact .same (exec_move 11 _ rfl (hk 11 (by kernel_rfl))) rfl
        · cases ho
          have h69 : A0.tmps[69]?.getD undef = .int .i64 ec := hin 15 69 (by kernel_rfl)
          have h70 : A0.tmps[70]?.getD undef = .int .i64 nn := hin 16 70 (by kernel_rfl)
          exact .same (by simp [go_sem, h69, h70, kw]) rfl
        · cases ho
          have h59 : A0.tmps[59]?.getD undef = .string ea := hin 5 59 (by kernel_rfl)
          have h64 : A0.tmps[64]?.getD undef = .string eb := hin 10 64 (by kernel_rfl)
          have h71 : A0.tmps[71]?.getD undef = .int .i64 (ec * nn) := hin 17 71 (by kernel_rfl)
          exact .same (by simp [go_sem, h59, h64, h71]) rfl
        · cases ho
          have h72 : A0.tmps[72]?.getD undef = .agg #[.string ea, .string eb, .int .i64 (ec * nn)] := hin 18 72 (by kernel_rfl)
          exact .value (W' := W.alloc (.cells #[.string ea, .string eb, .int .i64 (ec * nn)] 40)) (v := .slice (some ⟨W.heap.size, 0, none⟩) 1 1) (by simp [go_sem, h72]) ⟨(Chg.refl _ _).alloc _, _, rfl, Blk.new _ _ _⟩
      obtain ⟨y54, y55, y56, y57, y58, y59, y60, y61, y62, y63, y64, y65, y66, y67, y68, y69, y70, y71, y72, y73, rfl⟩ : ∃ y54 y55 y56 y57 y58 y59 y60 y61 y62 y63 y64 y65 y66 y67 y68 y69 y70 y71 y72 y73, l = [y54, y55, y56, y57, y58, y59, y60, y61, y62, y63, y64, y65, y66, y67, y68, y69, y70, y71, y72, y73] := by
        match l, hl with
        | [y54, y55, y56, y57, y58, y59, y60, y61, y62, y63, y64, y65, y66, y67, y68, y69, y70, y71, y72, y73], _ => exact ⟨_, _, _, _, _, _, _, _, _, _, _, _, _, _, _, _, _, _, _, _, rfl⟩
      obtain rfl : u13 = y54 := (hΦ 0 (by decide)).symm
      obtain rfl : y55 = .slice (some la) E.length cE := hΦ 1 (by decide)
      obtain rfl : y56 = .int .i64 i := hΦ 2 (by decide)
      obtain rfl : y57 = .pointer (some (la.add (i * 3))) := hΦ 3 (by decide)
      obtain rfl : y58 = .pointer (some (la.add (i * 3))) := hΦ 4 (by decide)
      obtain rfl : y59 = .string ea := hΦ 5 (by decide)
      obtain rfl : y60 = .slice (some la) E.length cE := hΦ 6 (by decide)
      obtain rfl : y61 = .int .i64 i := hΦ 7 (by decide)
      obtain rfl : y62 = .pointer (some (la.add (i * 3))) := hΦ 8 (by decide)
      obtain rfl : y63 = .pointer (some ⟨(la.add (i * 3)).block, (la.add (i * 3)).off + 1, none⟩) := hΦ 9 (by decide)
      obtain rfl : y64 = .string eb := hΦ 10 (by decide)
      obtain rfl : y65 = .slice (some la) E.length cE := hΦ 11 (by decide)
      obtain rfl : y66 = .int .i64 i := hΦ 12 (by decide)
      obtain rfl : y67 = .pointer (some (la.add (i * 3))) := hΦ 13 (by decide)
      obtain rfl : y68 = .pointer (some ⟨(la.add (i * 3)).block, (la.add (i * 3)).off + 2, none⟩) := hΦ 14 (by decide)
      obtain rfl : y69 = .int .i64 ec := hΦ 15 (by decide)
      obtain rfl : y70 = .int .i64 nn := hΦ 16 (by decide)
      obtain rfl : y71 = .int .i64 (ec * nn) := hΦ 17 (by decide)
      obtain rfl : y72 = .agg #[.string ea, .string eb, .int .i64 (ec * nn)] := hΦ 18 (by decide)
      have hy73 := hΦ 19 (by decide)
      simp only [putsL, List.zip_cons_cons, List.zip_nil_left, List.zip_nil_right, List.zip, List.zipWith, Act.put, List.setIfInBounds_toArray, List.set_cons_succ, List.set_cons_zero]
      clear hΦ hl
      obtain ⟨h73, rfl, hb73⟩ := hy73
      obtain ⟨v6, W6, hrun, ho6, hc6, hv6⟩ := app_one (e := Ed.times nn ⟨ea, eb, ec⟩) (DOg.out.chg hN (fun _ _ x => x)) hb73 (DN.out.trans hN (fun _ _ x => x)).size (by rw [List.length_map, List.length_take]; omega)
      have HR := Lib.hid hrun
      have HF1 := Lib.hid (show Own W6 w2.heap.size 40 3 v4 (((E.take (i + 1)).map Ed.turn).map edC) by
        rw [HTk.out, List.map_append]
        exact (DOf.out.chg hN (fun _ _ x => x)).chg hc6 (fun k h1 h2 => HNe2.out k h1 h2))
      have HG1 := Lib.hid (show Own W6 w2.heap.size 40 3 v6 (((E.take (i + 1)).map (Ed.times nn)).map edC) by
        rw [HTk.out, List.map_append]
        exact ho6)
      have HNe3 := Lib.hid (show ∀ k, v4.ownBlock = some k → v6.ownBlock ≠ some k from fun k h1 h2 => by
        rcases hv6 k h2 with h3 | h3
        · exact HNe2.out k h1 h3
        · have := (DOf.out.lt h1).2
          have := hN.size
          omega)
      have HNN := Lib.hid ((DN.out.trans hN (fun _ _ x => x)).trans hc6 (fun k hk h => by have := (DOg.out.lt h).1; omega))
      clear hrun ho6 hc6 hv6 hN hb73 D0 D1 D2 DOf DOg DN HNe2
      refine AtN.list 20 22 (by kernel_rfl) ?_
      change wpList _ _ _ [_, _] _ _
      refine wpl_append rfl (.tmp 54) (.tmp 73) 24 24 rfl rfl rfl HR.out ?_
      go_wp2_with fail
      change AtN _ _ _ 22 _ _
      refine AtN.done rfl ?_
      clear HR
      go_wp2_with fail
      go_roundw
      case rel => exact ⟨i + 1, by omega, by go_num, HF1.out, HG1.out, HNe3.out, HNN.out⟩
      case measure => simp only [intOf]; omega
    · have HOf := Lib.hid (show Own wr 0 40 3 u12 ((E.map Ed.turn).map edC) from by
        have := Own.baseG hof (Nat.zero_le _)
        rw [List.take_of_length_le (by omega)] at this
        exact this)
      have HOg := Lib.hid (show Own wr 0 40 3 u13 ((E.map (Ed.times nn)).map edC) from by
        have := Own.baseG hog (Nat.zero_le _)
        rw [List.take_of_length_le (by omega)] at this
        exact this)
      have HO3 := Lib.hid (HO2.out.chg hN (fun _ _ x => x))
      have HN3 := Lib.hid (HN2.out.trans hN (fun _ _ x => x))
      clear hof hog hne hN HO2 HN2
      obtain ⟨AF, cF, hvF, -⟩ := own_src HOf.out
      obtain ⟨AG, cG, hvG, -⟩ := own_src HOg.out
      rw [List.length_map] at hvF hvG
      subst hvF hvG
      go_upto_region 11 with fail
      obtain ⟨p1, sa, hp1, hlt1, hs1, hc1⟩ := node_ex one
      have HK1 := Lib.hid (show ∀ W, Calls Try.prog 11 #[.int .i64 one, .int .i64 5] W (fun e w' => e = .returned (.int .i64 p1) ∧ W = w') from fun W => (pick20 W one 5 hlo1 hhi1 (by omega) (by omega)).mono (fun e w' h => by rw [← hp1]; exact h))
      have HC1 := Lib.hid hc1
      have HS1 := Lib.hid hs1
      have i01 : (0 : Int) ≤ (p1 : Int) := by omega
      have i11 : (p1 : Int) < 5 := by omega
      clear hc1 hs1 hp1
      go_upto_region 12 with first
        | (go_at_call 10; refine (names20 _).mono ?_; rintro e wn1 ⟨bn1, rfl, hb, hn⟩; have HNn1 := Lib.hid hn; have en1 := HC1.out _ _ hb; clear hb hn)
        | (go_at_call 11; with_reducible refine (HK1.out _).mono ?_; rintro e w' ⟨rfl, rfl⟩)
      clear en1 i01 i11 HK1 HC1
      obtain ⟨p2, sb, hp2, hlt2, hs2, hc2⟩ := node_ex two
      have HK2 := Lib.hid (show ∀ W, Calls Try.prog 11 #[.int .i64 two, .int .i64 5] W (fun e w' => e = .returned (.int .i64 p2) ∧ W = w') from fun W => (pick20 W two 5 hlo2 hhi2 (by omega) (by omega)).mono (fun e w' h => by rw [← hp2]; exact h))
      have HC2 := Lib.hid hc2
      have HS2 := Lib.hid hs2
      have i02 : (0 : Int) ≤ (p2 : Int) := by omega
      have i12 : (p2 : Int) < 5 := by omega
      clear hc2 hs2 hp2
      go_upto_region 13 with first
        | (go_at_call 10; refine (names20 _).mono ?_; rintro e wn2 ⟨bn2, rfl, hb, hn⟩; have HNn2 := Lib.hid hn; have en2 := HC2.out _ _ hb; clear hb hn)
        | (go_at_call 11; with_reducible refine (HK2.out _).mono ?_; rintro e w' ⟨rfl, rfl⟩)
      clear en2 i02 i12 HK2 HC2
      have HM := Lib.hid ((HN3.out.trans HNn1.out (fun _ _ x => x)).trans HNn2.out (fun _ _ x => x))
      have hnn : New wr wn2 := HNn1.out.trans HNn2.out (fun _ _ x => x)
      have HOx := Lib.hid (HO3.out.chg hnn (fun _ _ x => x))
      have HFx := Lib.hid (HOf.out.chg hnn (fun _ _ x => x))
      have HGx := Lib.hid (HOg.out.chg hnn (fun _ _ x => x))
      clear hnn HNn1 HNn2 HN3 HO3 HOf HOg
      have HFit := Lib.hid (show ∀ e ∈ E, e.Fit from fun e he => (HRaw.out e he).fit)
      have HFitF := Lib.hid (show ∀ e ∈ E.map Ed.turn, e.Fit from fun e he => by
        obtain ⟨e0, h0, rfl⟩ := List.mem_map.1 he
        have := HFit.out e0 h0
        exact ⟨this.2.1, this.1, this.2.2⟩)
      have HFitG := Lib.hid (show ∀ e ∈ E.map (Ed.times nn), e.Fit from fun e he => by
        obtain ⟨e0, h0, rfl⟩ := List.mem_map.1 he
        have h1 := HFit.out e0 h0
        have h2 := mul_bd (HRaw.out e0 h0).lo (by have := (HRaw.out e0 h0).hi; omega) hn1 hn2
        exact ⟨h1.1, h1.2.1, by show -9223372036854775808 ≤ e0.c * nn; omega, by show e0.c * nn ≤ _; omega⟩)
      have HD1 := Lib.hid (show Calls Try.prog 13 #[.slice AE E.length cE, .string sa, .string sb] wn2 (DistPost wn2 E sa sb) from
        dist13 wn2 AE E.length cE E rfl HOx.out.srcG.2 HFit.out (by omega) sa sb (nmL_size HS1.out) (nmL_size HS2.out))
      go_upto_region 14 with (go_at_call 13; refine HD1.out.mono ?_; rintro e w4 ⟨hdo, rfl, hn⟩; have HDo1 := Lib.hid hdo; have HM1 := Lib.hid (HM.out.trans hn (fun _ _ x => x)); have HF1 := Lib.hid (HFx.out.chg hn (fun _ _ x => x)); have HG1 := Lib.hid (HGx.out.chg hn (fun _ _ x => x)); clear hdo hn)
      clear HD1 HOx HFx HGx
      have HD2 := Lib.hid (show Calls Try.prog 13 #[.slice AF E.length cF, .string sb, .string sa] w4 (DistPost w4 (E.map Ed.turn) sb sa) from
        dist13 w4 AF E.length cF (E.map Ed.turn) (List.length_map _).symm HF1.out.srcG.2 HFitF.out (by rw [List.length_map]; omega) sb sa (nmL_size HS2.out) (nmL_size HS1.out))
      go_upto_region 15 with (go_at_call 13; refine HD2.out.mono ?_; rintro e w5 ⟨hdo, rfl, hn⟩; have HDo2 := Lib.hid hdo; have HM2 := Lib.hid (HM1.out.trans hn (fun _ _ x => x)); have HG2 := Lib.hid (HG1.out.chg hn (fun _ _ x => x)); clear hdo hn)
      clear HD2 HF1 HG1
      have HD3 := Lib.hid (show Calls Try.prog 13 #[.slice AG E.length cG, .string sa, .string sb] w5 (DistPost w5 (E.map (Ed.times nn)) sa sb) from
        dist13 w5 AG E.length cG (E.map (Ed.times nn)) (List.length_map _).symm HG2.out.srcG.2 HFitG.out (by rw [List.length_map]; omega) sa sb (nmL_size HS1.out) (nmL_size HS2.out))
      go_upto_region 16 with (go_at_call 13; refine HD3.out.mono ?_; rintro e w6 ⟨hdo, rfl, hn⟩; have HDo3 := Lib.hid hdo; have HM3 := Lib.hid (HM2.out.trans hn (fun _ _ x => x)); clear hdo hn)
      clear HD3 HG2
      have hy : dst (E.map Ed.turn) sb sa = dst E sa sb := dst_spec (HDo1.out.turn (R' := RE (E.map Ed.turn)) (fun u v c h => re_turn.1 h) (fun u v c h => re_turn.2 h))
      have hz : dst (E.map (Ed.times nn)) sa sb = (dst E sa sb).map (· * nn) := dst_spec (HDo1.out.times (R' := RE (E.map (Ed.times nn))) hn1 (fun u v c h => (re_times HRaw.out hn1 hn2).1 h) (fun u v c h => (re_times HRaw.out hn1 hn2).2 h))
      have hbd : ∀ x, dst E sa sb = some x → 0 ≤ x ∧ x ≤ 30 := fun x hx => by
        have := (few_raw HRaw.out).dist (isd_of HDo1.out hx)
        omega
      rw [hy, hz]
      clear hy hz HDo1 HDo2 HDo3
      generalize dst E sa sb = o1 at hbd ⊢
      cases o1 with
      | none =>
        clear hbd
        go_wp2_with fail
        go_ret
        exact ⟨rfl, HM3.out⟩
      | some x =>
        obtain ⟨g1, g2⟩ := hbd x rfl
        have hm := mul_bd g1 g2 hn1 hn2
        have kw : IntKind.i64.wrap (x * nn) = x * nn := by rw [IntKind.wrap_i64]; omega
        clear hbd hm
        go_wp2_with fail
        go_ret
        exact ⟨rfl, HM3.out⟩
end Go.Proofs.Ytffmalagochakaa
