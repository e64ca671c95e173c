/- The laws of graphs: Texts, Ways: what is the same is the same. -/
import Derived.Test.YtffmalagochakaaWayT
set_option linter.unusedVariables false
set_option linter.unusedSimpArgs false
namespace Go.Proofs.Ytffmalagochakaa
open Go.RowKit Go.Shelf

set_option maxHeartbeats 2000000 in
set_option maxRecDepth 100000 in
theorem texts17 (w : World) (v v2 : Value) (ns : List ByteArray) (h : Own w 0 9 1 v (ns.map nmC)) (h2 : Own w 0 9 1 v2 (ns.map nmC)) (hb : ns.length ≤ 1000000) :
    Calls Try.prog 17 #[v, v2] w fun e w' => e = .returned (.bool true) ∧ New w w' := by
  obtain ⟨A, c, hv, -⟩ := h.formG
  obtain ⟨A2, c2, hv2, -⟩ := h2.formG
  rw [List.length_map] at hv hv2
  subst hv hv2
  have HS := Lib.hid h.srcG.2
  have HS2 := Lib.hid h2.srcG.2
  clear h h2
  go_enter Try.func17, Try.ntmps17
  go_wp2_with fail
  go_loopw [5] (fun u wr => ∃ i : Nat, i ≤ ns.length ∧ u = .int .i64 i ∧ New w wr) (fun u _ => ns.length - (intOf u).toNat)
  case atStart => exact ⟨0, Nat.zero_le _, rfl, Chg.refl _ _⟩
  case round =>
    obtain ⟨i, hin, rfl, hN⟩ := hrel
    have HN := Lib.hid hN
    clear hN
    by_cases hlt : i < ns.length
    · obtain ⟨s, hs⟩ : ∃ s, ns[i]? = some s := ⟨_, List.getElem?_eq_getElem hlt⟩
      obtain ⟨a, rfl, hc⟩ := HS.out.nm hs
      obtain ⟨a2, rfl, hc2⟩ := HS2.out.nm hs
      have e1 := HN.out.cellS hc id
      have e2 := HN.out.cellS hc2 id
      have k0 : (0 : Int) ≤ (i : Int) := by omega
      have k1 : (i : Int) < (ns.length : Int) := by omega
      clear hc hc2 hs
      go_upto_region 6 with fail
      go_quiet (fail)
      go_wp2_with fail
      go_roundw
      case rel => exact ⟨i + 1, by omega, by go_num, HN.out.drewN _⟩
      case measure => simp only [intOf]; omega
    · go_wp2_with fail
      go_ret
      exact ⟨rfl, HN.out⟩
/-- Two slices of the same ways. -/
theorem ways_get {w : World} {B : Nat} {v : Value} {xs : List Value} {L : List (List ByteArray)} (h : WaysAt w B v xs L) {i : Nat} (hi : i < L.length) : ∃ x l A c a, v = .slice (some a) L.length c ∧ A = some a ∧ xs[i]? = some x ∧ L[i]? = some l ∧ w.cell? (a.add i) = some x ∧ Own w 0 9 1 x (l.map nmC) := by
  obtain ⟨A, c, hv, -⟩ := h.own.formG
  rw [List.length_map, h.len] at hv
  obtain ⟨x, hx⟩ : ∃ x, xs[i]? = some x := ⟨_, List.getElem?_eq_getElem (by rw [h.len]; exact hi)⟩
  have hl : L[i]? = some L[i] := List.getElem?_eq_getElem hi
  have ho := h.own
  rw [hv] at ho
  obtain ⟨a, ha, hr⟩ := ho.srcG.2 (by rw [List.length_map, h.len]; omega)
  have := (hr i [x] (by rw [List.getElem?_map, hx]; rfl)).2 0 _ rfl
  rw [Nat.mul_one, add_add] at this
  exact ⟨_, _, A, c, a, by rw [hv, ha], ha, hx, hl, this, h.way i _ _ hx hl⟩
theorem WaysAt.form {w : World} {B : Nat} {v : Value} {xs : List Value} {L : List (List ByteArray)} (h : WaysAt w B v xs L) : ∃ A c, v = .slice A L.length c := by
  obtain ⟨A, c, hv, -⟩ := h.own.formG
  rw [List.length_map, h.len] at hv
  exact ⟨A, c, hv⟩
theorem WaysAt.new {w w' : World} {B : Nat} {v : Value} {xs : List Value} {L : List (List ByteArray)} (h : WaysAt w B v xs L) (hc : New w w') : WaysAt w' B v xs L :=
  ⟨h.own.chg hc (fun _ _ x => x), h.len, fun i x l hx hl => (h.way i x l hx hl).chg hc (fun _ _ x => x)⟩
set_option maxHeartbeats 4000000 in
set_option maxRecDepth 100000 in
theorem ways16 (w : World) (B B2 : Nat) (v v2 : Value) (xs xs2 : List Value) (L : List (List ByteArray)) (h : WaysAt w B v xs L) (h2 : WaysAt w B2 v2 xs2 L) (hb : L.length ≤ 1000000) (hbl : ∀ l ∈ L, l.length ≤ 1000000) :
    Calls Try.prog 16 #[v, v2] w fun e w' => e = .returned (.bool true) ∧ New w w' := by
  obtain ⟨A, c, hv⟩ := h.form
  obtain ⟨A2, c2, hv2⟩ := h2.form
  subst hv hv2
  have H := Lib.hid h
  have H2 := Lib.hid h2
  have eg17 : ∀ (args : Array Value) (w : World), (callFunc 17 args).run Try.prog w = .ok (.enter 17 args) w := enters_of Try.func17 (by kernel_rfl) rfl
  clear h h2
  go_enter Try.func16, Try.ntmps16
  go_wp2_with fail
  go_loopw [5] (fun u wr => ∃ i : Nat, i ≤ L.length ∧ u = .int .i64 i ∧ New w wr) (fun u _ => L.length - (intOf u).toNat)
  case atStart => exact ⟨0, Nat.zero_le _, rfl, Chg.refl _ _⟩
  case round =>
    obtain ⟨i, hin, rfl, hN⟩ := hrel
    have HN := Lib.hid hN
    clear hN
    by_cases hlt : i < L.length
    · obtain ⟨x, l, A', c', a, e, -, hx, hl, hc, ho⟩ := ways_get H.out hlt
      simp only [Value.slice.injEq, true_and] at e
      obtain ⟨rfl, rfl⟩ := e
      obtain ⟨x2, l2, A2', c2', a2, e, -, hx2, hl2, hc2, ho2⟩ := ways_get H2.out hlt
      simp only [Value.slice.injEq, true_and] at e
      obtain ⟨rfl, rfl⟩ := e
      obtain rfl : l = l2 := by rw [hl] at hl2; exact Option.some.inj hl2
      have hll := hbl l (List.mem_of_getElem? hl)
      have k0 : (0 : Int) ≤ (i : Int) := by omega
      have k1 : (i : Int) < (L.length : Int) := by omega
      have HC := Lib.hid hc
      have HC2 := Lib.hid hc2
      have HO := Lib.hid ho
      have HO2 := Lib.hid ho2
      clear hc hc2 ho ho2 hx hx2 hl hl2
      go_upto_region 6 with fail
      refine wp_region_at (by kernel_rfl) ?_
      have HND := Lib.hid (HN.out.drew)
      generalize wr.drew = wd at HND ⊢
      refine AtN.segN2 0 10 [17, 18, 19, 20, 21, 22, 23, 24, 25, 26] (fun
        | 0 => fun vv _ => vv = .slice (some a) L.length c
        | 1 => fun vv _ => vv = .int .i64 i
        | 2 => fun vv _ => vv = .pointer (some (a.add i))
        | 3 => fun vv _ => vv = x
        | 4 => fun vv _ => vv = .slice (some a2) L.length c2
        | 5 => fun vv _ => vv = .int .i64 i
        | 6 => fun vv _ => vv = .pointer (some (a2.add i))
        | 7 => fun vv _ => vv = x2
        | 8 => fun vv _ => vv = .bool true
        | 9 => fun vv _ => vv = .bool false
        | _ => fun _ _ => True) (by kernel_rfl) (by kernel_rfl) (by kernel_rfl) (by kernel_rfl) (fun j v w1 w2 hc h => ?_) (fun i hn hi o ho A0 W hN hin hk => ?_) (fun l W3 hN hl hΦ => ?_)
      · match j with
        | 0 | 1 | 2 | 3 | 4 | 5 | 6 | 7 | 8 | 9 => exact h
        | _ + 10 => trivial
      · rcases (show i = 0 ∨ i = 1 ∨ i = 2 ∨ i = 3 ∨ i = 4 ∨ i = 5 ∨ i = 6 ∨ i = 7 ∨ i = 8 ∨ i = 9 by omega) with rfl | rfl | rfl | rfl | rfl | rfl | rfl | rfl | rfl | rfl
        · cases ho
          exact .same (exec_move 0 _ rfl (hk 0 (by kernel_rfl))) rfl
        · cases ho
          exact .same (exec_move 5 _ rfl (hk 5 (by kernel_rfl))) rfl
        · cases ho
          have h17 : A0.tmps[17]?.getD undef = .slice (some a) L.length c := hin 0 17 (by kernel_rfl)
          have h18 : A0.tmps[18]?.getD undef = .int .i64 i := hin 1 18 (by kernel_rfl)
          exact .same (by simp [go_sem, h17, h18, k0, k1, hlt]) rfl
        · cases ho
          have h19 : A0.tmps[19]?.getD undef = .pointer (some (a.add i)) := hin 2 19 (by kernel_rfl)
          have hc : W.cell? (a.add i) = some x := (HND.out.trans hN (fun _ _ x => x)).cellS HC.out id
          exact .same (v := x) (by simp [go_sem, h19, hc]) rfl
        · cases ho
          exact .same (exec_move 1 _ rfl (hk 1 (by kernel_rfl))) rfl
        · cases ho
          exact .same (exec_move 5 _ rfl (hk 5 (by kernel_rfl))) rfl
        · cases ho
          have h21 : A0.tmps[21]?.getD undef = .slice (some a2) L.length c2 := hin 4 21 (by kernel_rfl)
          have h22 : A0.tmps[22]?.getD undef = .int .i64 i := hin 5 22 (by kernel_rfl)
          exact .same (by simp [go_sem, h21, h22, k0, k1, hlt]) rfl
        · cases ho
          have h23 : A0.tmps[23]?.getD undef = .pointer (some (a2.add i)) := hin 6 23 (by kernel_rfl)
          have hc : W.cell? (a2.add i) = some x2 := (HND.out.trans hN (fun _ _ x => x)).cellS HC2.out id
          exact .same (v := x2) (by simp [go_sem, h23, hc]) rfl
        · cases ho
          have h20 : A0.tmps[20]?.getD undef = x := hin 3 20 (by kernel_rfl)
          have h24 : A0.tmps[24]?.getD undef = x2 := hin 7 24 (by kernel_rfl)
          refine .call (f := 17) (args := #[x, x2]) (W' := W) ?_ ((texts17 W x x2 l (HO.out.chg (HND.out.trans hN (fun _ _ x => x)) (fun _ _ x => x)) (HO2.out.chg (HND.out.trans hN (fun _ _ x => x)) (fun _ _ x => x)) hll).mono ?_)
          · simp [go_sem, h20, h24, eg17]
          · rintro e w' ⟨rfl, hc⟩
            exact ⟨_, rfl, hc, rfl⟩
        · cases ho
          have h25 : A0.tmps[25]?.getD undef = .bool true := hin 8 25 (by kernel_rfl)
          exact .same (by simp [go_sem, h25]) rfl
      obtain ⟨x17, x18, x19, x20, x21, x22, x23, x24, x25, x26, rfl⟩ : ∃ x17 x18 x19 x20 x21 x22 x23 x24 x25 x26, l = [x17, x18, x19, x20, x21, x22, x23, x24, x25, x26] := by
        match l, hl with
        | [x17, x18, x19, x20, x21, x22, x23, x24, x25, x26], _ => exact ⟨_, _, _, _, _, _, _, _, _, _, rfl⟩
      obtain rfl : x17 = .slice (some a) L.length c := hΦ 0 (by decide)
      obtain rfl : x18 = .int .i64 i := hΦ 1 (by decide)
      obtain rfl : x19 = .pointer (some (a.add i)) := hΦ 2 (by decide)
      obtain rfl : x = x20 := Eq.symm <| hΦ 3 (by decide)
      obtain rfl : x21 = .slice (some a2) L.length c2 := hΦ 4 (by decide)
      obtain rfl : x22 = .int .i64 i := hΦ 5 (by decide)
      obtain rfl : x23 = .pointer (some (a2.add i)) := hΦ 6 (by decide)
      obtain rfl : x2 = x24 := Eq.symm <| hΦ 7 (by decide)
      obtain rfl : x25 = .bool true := hΦ 8 (by decide)
      obtain rfl : x26 = .bool false := hΦ 9 (by decide)
      simp only [putsL, List.zip_cons_cons, List.zip_nil_left, List.zip_nil_right, List.zip, List.zipWith, Act.put, List.setIfInBounds_toArray, List.set_cons_succ, List.set_cons_zero]
      clear hΦ hl
      have HN3 := Lib.hid (HND.out.trans hN (fun _ _ x => x))
      clear hN
      refine AtN.done rfl ?_
      go_wp2_with fail
      go_roundw
      case rel => exact ⟨i + 1, by omega, by go_num, HN3.out⟩
      case measure => simp only [intOf]; omega
    · go_wp2_with fail
      go_ret
      exact ⟨rfl, HN.out⟩
end Go.Proofs.Ytffmalagochakaa
