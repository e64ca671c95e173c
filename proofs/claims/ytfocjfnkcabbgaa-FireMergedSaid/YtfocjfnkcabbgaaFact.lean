/- The laws' raw facts. -/
import Derived.Test.YtfocjfnkcabbgaaPickW
import Derived.Test.YtfocjfnkcabbgaaCmpW
import Derived.Test.YtfocjfnkcabbgaaOrdP
import Derived.Deep.CutRange
set_option linter.unusedVariables false
set_option linter.unusedSimpArgs false
namespace Go.Proofs.Ytfocjfnkcabbgaa
open Go.RowKit Go.Shelf

def relCs : List (ByteArray × Int) := [(⟨#[108, 105, 110, 107]⟩, 3), (⟨#[112]⟩, 2), (⟨#[113]⟩, 2), (⟨#[114]⟩, 1), (⟨#[115]⟩, 3), (⟨#[116]⟩, 2)]
def relCells : Array Value := #[.string ⟨#[108, 105, 110, 107]⟩, .int .i64 3, .string ⟨#[112]⟩, .int .i64 2, .string ⟨#[113]⟩, .int .i64 2, .string ⟨#[114]⟩, .int .i64 1, .string ⟨#[115]⟩, .int .i64 3, .string ⟨#[116]⟩, .int .i64 2]

set_option maxHeartbeats 1000000 in
set_option maxRecDepth 100000 in
theorem relations06 (w : World) : Calls Try.prog 27 #[] w fun e w' => e = .returned (.slice (some ⟨w.heap.size, 0, none⟩) 6 6) ∧ Blk w' w.heap.size 76 relCells ∧ New w w' := by
  have hB : Blk (w.alloc (.cells relCells 76)) w.heap.size 76 relCells := Blk.new w _ _
  have hN : New w (w.alloc (.cells relCells 76)) := (Chg.refl _ _).alloc _
  have HB := Lib.hid hB
  have HN := Lib.hid hN
  clear hB hN
  go_enter Try.func27, Try.ntmps27
  go_wp2
  go_ret
  exact ⟨rfl, HB.out, HN.out⟩
theorem stDecl : StT Try.prog 76 2 := ⟨⟨_, Try.underlying76⟩, by kernel_rfl⟩
theorem stTuple : StT Try.prog 57 2 := ⟨⟨_, Try.underlying57⟩, by kernel_rfl⟩
theorem fact_res (W : World) (tmps : Array Value) (N : Nat) (cs : List Value) (h2 : tmps.getD 2 undef = .pointer (some ⟨N, 0, none⟩)) (hc : At W ⟨N, 0, none⟩ cs) (hl : cs.length = 2) :
    (results Try.f16 tmps).run Try.prog W = .ok (.agg cs.toArray) W := by
  have hl := run_loadK (P := Try.prog) (w := W) stTuple ⟨N, 0, none⟩ cs hl hc
  have hr : Try.f16.results = #[.cell 2 57] := by rfl
  have ha : (asAddr (.pointer (some ⟨N, 0, none⟩))).run Try.prog W = .ok ⟨N, 0, none⟩ W := rfl
  rw [results_cell_one hr, h2, ha]
  simp only [Result.andThen_ok, hl]
theorem tdiv2_bd {y : Int} (h0 : -9223372036854775808 ≤ y) (h1 : y ≤ 9223372036854775807) : -9223372036854775808 ≤ y.tdiv 2 ∧ y.tdiv 2 ≤ 9223372036854775807 := by
  rcases Int.le_total 0 y with h | h
  · rw [Int.tdiv_eq_ediv_of_nonneg h]; omega
  · have e : y.tdiv 2 = -((-y).tdiv 2) := by rw [Int.neg_tdiv]; omega
    rw [e, Int.tdiv_eq_ediv_of_nonneg (by omega)]; omega
/-- Values of raw facts and rules. -/
def rawV (v : Vl) : Prop := (∃ i : Int, 0 ≤ i ∧ i ≤ 4 ∧ v = ⟨1, i, ⟨#[]⟩⟩) ∨ (∃ b : UInt8, 97 ≤ b.toNat ∧ b.toNat ≤ 100 ∧ v = ⟨3, 0, ⟨#[b]⟩⟩)
theorem rawV.can {v : Vl} (h : rawV v) : canon v := by
  rcases h with ⟨i, h0, h1, rfl⟩ | ⟨b, h0, h1, rfl⟩
  · exact .inr ⟨rfl, rfl⟩
  · exact .inl ⟨rfl, rfl⟩
/-- What a raw fact becomes: a name, one to three values. -/
def FactPost (w : World) (e : Ending) (w' : World) : Prop := ∃ (nm : ByteArray) (v : Value) (us : List Vl), e = .returned (.agg #[.string nm, v]) ∧ 1 ≤ us.length ∧ us.length ≤ 3 ∧ (∀ u ∈ us, rawV u) ∧ (∃ p : Nat, relCs[p]? = some (nm, (us.length : Int))) ∧ Own w' w.heap.size 37 4 v (us.map vcs) ∧ New w w'

set_option maxHeartbeats 4000000 in
set_option maxRecDepth 100000 in
theorem fact06 (w : World) (y0 y1 y2 y3 y4 y5 : Int) (h1 : -9223372036854775808 ≤ y1 ∧ y1 ≤ 9223372036854775807) (h2 : -9223372036854775808 ≤ y2 ∧ y2 ≤ 9223372036854775807) (h3' : -9223372036854775808 ≤ y3 ∧ y3 ≤ 9223372036854775807) (h4 : -9223372036854775808 ≤ y4 ∧ y4 ≤ 9223372036854775807) (h5 : -9223372036854775808 ≤ y5 ∧ y5 ≤ 9223372036854775807) :
    Calls Try.prog 16 #[.agg #[.int .i64 y0, .int .i64 y1, .int .i64 y2, .int .i64 y3, .int .i64 y4, .int .i64 y5]] w (FactPost w) := by
  obtain ⟨w1, hw1⟩ : ∃ w1, w1 = (w.alloc (.cells #[.int .i64 y0, .int .i64 y1, .int .i64 y2, .int .i64 y3, .int .i64 y4, .int .i64 y5] 51)).alloc (.cells #[.string ⟨#[]⟩, .slice none 0 0] 57) := ⟨_, rfl⟩
  have hN1 : New w w1 := by rw [hw1]; exact ((Chg.refl _ _).alloc _).alloc _
  have hB1 : Blk w1 w.heap.size 51 #[.int .i64 y0, .int .i64 y1, .int .i64 y2, .int .i64 y3, .int .i64 y4, .int .i64 y5] := by rw [hw1]; exact (Blk.new w _ _).alloc _
  have hQ1 : Blk w1 (w.heap.size + 1) 57 #[.string ⟨#[]⟩, .slice none 0 0] := by
    have := Blk.new (w.alloc (.cells #[.int .i64 y0, .int .i64 y1, .int .i64 y2, .int .i64 y3, .int .i64 y4, .int .i64 y5] 51)) 57 #[.string ⟨#[]⟩, .slice none 0 0]
    rw [World.size_alloc] at this
    rw [hw1]
    exact this
  obtain ⟨p, hp⟩ : ∃ p : Nat, pk y1 6 = p := ⟨(pk y1 6).toNat, by have := pk_lo y1 6 (by omega); omega⟩
  have hp6 : p < 6 := by have := pk_hi y1 6 (by omega); omega
  have hpick := fun W => pick06 W y1 6 h1.1 h1.2 (by omega) (by omega)
  rw [hp] at hpick
  have HP := Lib.hid hpick
  have HN1 := Lib.hid hN1
  have HB1 := Lib.hid hB1
  have HQ1 := Lib.hid hQ1
  have HW1 := Lib.hid hw1
  have hbx : w.heap.size < w1.heap.size := hB1.lt
  clear hpick hp hN1 hB1 hw1 hQ1
  go_enter Try.func16, Try.ntmps16
  go_upto_region 1 with fail
  rw [← HW1.out]
  obtain ⟨nm, ar, hpr⟩ : ∃ nm ar, relCs[p]? = some (nm, ar) := by
    have : p < relCs.length := hp6
    exact ⟨_, _, List.getElem?_eq_getElem this⟩
  have har : 1 ≤ ar ∧ ar ≤ 3 := by
    rcases (show p = 0 ∨ p = 1 ∨ p = 2 ∨ p = 3 ∨ p = 4 ∨ p = 5 by omega) with rfl | rfl | rfl | rfl | rfl | rfl <;> (simp only [relCs, List.getElem?_cons_zero, List.getElem?_cons_succ, Option.some.injEq, Prod.mk.injEq] at hpr; omega)
  have hcell : ∀ W b, Blk W b 76 relCells → At W ⟨b, p * 2, none⟩ [.string nm, .int .i64 ar] := fun W b hb j u hj => by
    rw [Addr.add_lit, hb.cell]
    rcases (show p = 0 ∨ p = 1 ∨ p = 2 ∨ p = 3 ∨ p = 4 ∨ p = 5 by omega) with rfl | rfl | rfl | rfl | rfl | rfl <;> (simp only [relCs, List.getElem?_cons_zero, List.getElem?_cons_succ, Option.some.injEq, Prod.mk.injEq] at hpr; obtain ⟨rfl, rfl⟩ := hpr; match j, hj with | 0, hj => (cases hj; rfl) | 1, hj => (cases hj; rfl) | j + 2, hj => simp at hj)
  have Hcell := Lib.hid hcell
  have Har := Lib.hid har
  have HPr := Lib.hid hpr
  clear hcell har hpr
  have eg1 := enters_of Try.func27 (by kernel_rfl) rfl
  have eg2 := enters_of Try.func13 (by kernel_rfl) rfl
  unfold Enters at eg1 eg2
  have HBd := Lib.hid (HB1.out.chg ((Chg.refl w1 (fun _ => False)).drew) id)
  have HQd := Lib.hid (HQ1.out.chg ((Chg.refl w1 (fun _ => False)).drew) id)
  have HNd := Lib.hid (HN1.out.drew)
  refine wp_region_at (by kernel_rfl) ?_
  generalize w1.drew = wd at HBd HNd HQd ⊢
  have q0 : (0 : Int) ≤ (p : Int) := by omega
  have q1 : (p : Int) < 6 := by omega
  refine AtN.segN2 0 7 [6, 7, 8, 9, 10, 11, 3] (fun
    | 0 => fun v W => ∃ rb, v = .slice (some ⟨rb, 0, none⟩) 6 6 ∧ Blk W rb 76 relCells
    | 1 => fun v _ => v = .pointer (some ⟨w.heap.size, 1, none⟩)
    | 2 => fun v _ => v = .int .i64 y1
    | 3 => fun v _ => v = .int .i64 p
    | 4 => fun v W => ∃ rb, v = .pointer (some ⟨rb, p * 2, none⟩) ∧ Blk W rb 76 relCells
    | 5 => fun v _ => v = .agg #[.string nm, .int .i64 ar]
    | 6 => fun v W => ∃ b, v = .pointer (some ⟨b, 0, none⟩) ∧ Blk W b 76 #[.string ⟨#[]⟩, .int .i64 0] ∧ wd.heap.size ≤ b
    | _ => fun _ _ => True) (by kernel_rfl) (by kernel_rfl) (by kernel_rfl) (by kernel_rfl) (fun j v w1 w2 hc h => ?_) (fun i hn hi o ho A0 W hN hin hk => ?_) (fun l W2 hN hl hΦ => ?_)
  · match j with
    | 0 => exact h.imp fun b h => ⟨h.1, h.2.chg hc id⟩
    | 4 => exact h.imp fun b h => ⟨h.1, h.2.chg hc id⟩
    | 6 => exact h.imp fun b h => ⟨h.1, h.2.1.chg hc id, h.2.2⟩
    | 1 | 2 | 3 | 5 => exact h
    | _ + 7 => trivial
  · rcases (show i = 0 ∨ i = 1 ∨ i = 2 ∨ i = 3 ∨ i = 4 ∨ i = 5 ∨ i = 6 by omega) with rfl | rfl | rfl | rfl | rfl | rfl | rfl
    · cases ho
      refine .call (f := 27) (args := #[]) (W' := W) ?_ ((relations06 W).mono ?_)
      · simp [go_sem, eg1]
      · rintro e w' ⟨rfl, hb, hc⟩
        exact ⟨_, rfl, hc, _, rfl, hb⟩
    · cases ho
      have h1 : A0.tmps[1]?.getD undef = .pointer (some ⟨w.heap.size, 0, none⟩) := hk 1 (by kernel_rfl)
      exact .same (by simp [go_sem, h1]) rfl
    · cases ho
      have h7 : A0.tmps[7]?.getD undef = .pointer (some ⟨w.heap.size, 1, none⟩) := hin 1 7 (by kernel_rfl)
      have hc : W.cell? ⟨w.heap.size, 1, none⟩ = some (.int .i64 y1) := (HBd.out.chg hN id).cell 1
      exact .same (by simp [go_sem, h7, hc]) rfl
    · cases ho
      have h8 : A0.tmps[8]?.getD undef = .int .i64 y1 := hin 2 8 (by kernel_rfl)
      refine .enter (f := 13) (args := #[.int .i64 y1, .int .i64 6]) (v := .int .i64 p) ?_ ((HP.out W).mono ?_)
      · simp [go_sem, h8, eg2]
      · rintro e w' ⟨rfl, rfl⟩
        exact ⟨rfl, Chg.refl _ _, rfl⟩
    · cases ho
      have h6 := hin 0 6 (by kernel_rfl)
      have h9 : A0.tmps[9]?.getD undef = .int .i64 p := hin 3 9 (by kernel_rfl)
      obtain ⟨rb, e6, hb⟩ := h6
      exact .same (v := .pointer (some ⟨rb, p * 2, none⟩)) (by simp [go_sem, e6, h9, q0, q1, hp6]) ⟨rb, rfl, hb⟩
    · cases ho
      have h10 := hin 4 10 (by kernel_rfl)
      obtain ⟨rb, e10, hb⟩ := h10
      exact .same (exec_load 10 _ rfl stDecl ⟨rb, p * 2, none⟩ [.string nm, .int .i64 ar] e10 rfl (Hcell.out _ _ hb)) rfl
    · cases ho
      exact .value (W' := W.alloc (.cells #[.string ⟨#[]⟩, .int .i64 0] 76)) (v := .pointer (some ⟨W.heap.size, 0, none⟩)) (by simp [go_sem]) ⟨(Chg.refl _ _).alloc _, _, rfl, Blk.new _ _ _, hN.size⟩
  obtain ⟨x6, x7, x8, x9, x10, x11, x3, rfl⟩ : ∃ x6 x7 x8 x9 x10 x11 x3, l = [x6, x7, x8, x9, x10, x11, x3] := by
    match l, hl with
    | [x6, x7, x8, x9, x10, x11, x3], _ => exact ⟨_, _, _, _, _, _, _, rfl⟩
  have hx6 := hΦ 0 (by decide)
  obtain rfl : x7 = .pointer (some ⟨w.heap.size, 1, none⟩) := hΦ 1 (by decide)
  obtain rfl : x8 = .int .i64 y1 := hΦ 2 (by decide)
  obtain rfl : x9 = .int .i64 p := hΦ 3 (by decide)
  have hx10 := hΦ 4 (by decide)
  obtain rfl : x11 = .agg #[.string nm, .int .i64 ar] := hΦ 5 (by decide)
  have hx3 := hΦ 6 (by decide)
  simp only [putsL, List.zip_cons_cons, List.zip_nil_left, List.zip_nil_right, List.zip, List.zipWith, Act.put, List.setIfInBounds_toArray, List.set_cons_succ, List.set_cons_zero]
  clear hΦ hl
  obtain ⟨b3, rfl, hb3, hb3l⟩ := hx3
  have HR2 := Lib.hid (HBd.out.chg hN id)
  have HQ2 := Lib.hid (HQd.out.chg hN id)
  have hql := HQd.out.lt
  have HN2 := Lib.hid (HNd.out.trans hN (fun _ _ x => x))
  clear hx6 hx10
  refine AtN.list 7 8 (by kernel_rfl) ?_
  change wpList _ _ _ [_] _ _
  have hlay : layA #[.string ⟨#[]⟩, .int .i64 0] 0 [.string nm, .int .i64 ar] = #[.string nm, .int .i64 ar] := rfl
  refine wpl_store rfl (.tmp 3) (.tmp 11) 76 rfl stDecl b3 0 76 #[.string ⟨#[]⟩, .int .i64 0] [.string nm, .int .i64 ar] rfl rfl hb3 rfl (by decide) (fun u hu => by
    simp only [List.mem_cons, List.not_mem_nil, or_false] at hu
    rcases hu with rfl | rfl <;> rfl) ?_
  rw [hlay]
  obtain ⟨W3, hW3⟩ : ∃ W3, W3 = W2.setRow b3 #[.string nm, .int .i64 ar] := ⟨_, rfl⟩
  rw [← hW3]
  have hwd := HNd.out.size
  have hbl := HBd.out.lt
  have HB3 := Lib.hid (show Blk W3 b3 76 #[.string nm, .int .i64 ar] by rw [hW3]; exact hb3.set _)
  have HN3 := Lib.hid (show New w W3 by rw [hW3]; exact HN2.out.setRow _ _ (fun h => by omega))
  have HR3 := Lib.hid (show Blk W3 w.heap.size 51 #[.int .i64 y0, .int .i64 y1, .int .i64 y2, .int .i64 y3, .int .i64 y4, .int .i64 y5] by rw [hW3]; exact HR2.out.other (by omega) _)
  have HQ3 := Lib.hid (show Blk W3 (w.heap.size + 1) 57 #[.string ⟨#[]⟩, .slice none 0 0] by rw [hW3]; exact HQ2.out.other (by omega) _)
  have hb30 : w.heap.size + 1 < b3 := by omega
  clear hW3 hb3 hN HN2 HR2 hlay HBd HNd HQ2 HQd
  refine AtN.done rfl ?_
  simp only [Act.put]
  have e3 := HB3.out.cell 0
  have e4 := HB3.out.cell 1
  simp only [List.getElem?_toArray, List.getElem?_cons_zero, List.getElem?_cons_succ] at e3 e4
  obtain ⟨W4, hW4⟩ : ∃ W4, W4 = W3.alloc (.cells #[.string nm, .slice none 0 0] 57) := ⟨_, rfl⟩
  have hN4 : New W3 W4 := by rw [hW4]; exact (Chg.refl _ _).alloc _
  have hB4 : Blk W4 W3.heap.size 57 #[.string nm, .slice none 0 0] := by rw [hW4]; exact Blk.new W3 _ _
  have HB4 := Lib.hid hB4
  have HN4 := Lib.hid (HN3.out.trans hN4 (fun _ _ x => x))
  have HB34 := Lib.hid (HB3.out.chg hN4 id)
  have HR4 := Lib.hid (HR3.out.chg hN4 id)
  have HQ4 := Lib.hid (HQ3.out.chg hN4 id)
  have hb43 : b3 < W3.heap.size := HB3.out.lt
  have HW4 := Lib.hid hW4
  obtain ⟨b4, hb4⟩ : ∃ b4, W3.heap.size = b4 := ⟨_, rfl⟩
  rw [hb4] at HB4 hb43
  have Hb4 := Lib.hid hb4
  clear hN4 hB4 hW4 hb4
  have har := Har.out
  go_upto_region 3 with fail
  rw [← HW4.out, Hb4.out]
  clear HB3 HN3 HR3 HQ3 e3 e4 HW4 Hb4 W3
  go_wp2_with fail
  go_loopw [5] (fun u5 wr => ∃ (i : Nat) (us : List Vl) (vv : Value), (i : Int) ≤ ar ∧ u5 = .int .i64 i ∧ us.length = i ∧ (∀ u ∈ us, rawV u) ∧ Blk wr b4 57 #[.string nm, vv] ∧ Own wr w.heap.size 37 4 vv (us.map vcs) ∧ Blk wr b3 76 #[.string nm, .int .i64 ar] ∧ Blk wr w.heap.size 51 #[.int .i64 y0, .int .i64 y1, .int .i64 y2, .int .i64 y3, .int .i64 y4, .int .i64 y5] ∧ Blk wr (w.heap.size + 1) 57 #[.string ⟨#[]⟩, .slice none 0 0] ∧ New w wr) (fun u _ => ar.toNat - (intOf u).toNat)
  case atStart => exact ⟨0, [], _, by omega, rfl, rfl, fun u h => (by cases h), HB4.out, Own.nil _ _ _ _, HB34.out, HR4.out, HQ4.out, HN4.out⟩
  case round =>
    obtain ⟨i, us, vv, hia, rfl, hul, hcan, hb4, hov, hb3, hrw, hq, hN⟩ := hrel
    by_cases hlt : (i : Int) < ar
    · have h3 : i < 3 := by omega
      obtain ⟨y, hy, hyl, hyh⟩ : ∃ y, (∀ W, Blk W w.heap.size 51 #[.int .i64 y0, .int .i64 y1, .int .i64 y2, .int .i64 y3, .int .i64 y4, .int .i64 y5] → W.cell? ⟨w.heap.size, 2 + i, none⟩ = some (.int .i64 y)) ∧ -9223372036854775808 ≤ y ∧ y ≤ 9223372036854775807 := by
        rcases (show i = 0 ∨ i = 1 ∨ i = 2 by omega) with rfl | rfl | rfl
        · exact ⟨y2, fun W h => h.cell 2, h2⟩
        · exact ⟨y3, fun W h => h.cell 3, h3'⟩
        · exact ⟨y4, fun W h => h.cell 4, h4⟩
      have e0 := hb3.cell 0
      have e1 := hb3.cell 1
      simp only [List.getElem?_toArray, List.getElem?_cons_zero, List.getElem?_cons_succ] at e0 e1
      have hd : decide ((i : Int) < ar) = true := decide_eq_true hlt
      have ey := hy wr hrw
      have Hy := Lib.hid hy
      have HB4 := Lib.hid hb4
      have HOv := Lib.hid hov
      have HB3 := Lib.hid hb3
      have HRw := Lib.hid hrw
      have HQ := Lib.hid hq
      have HNw := Lib.hid hN
      have HCn := Lib.hid hcan
      have HUl := Lib.hid hul
      clear hy hb4 hov hb3 hrw hq hN hcan hul
      go_upto_region 6 with fail
      go_cut [39] from 21 to 39 (fun c wx => ∃ b, c = .bool b ∧ wx = wr)
      case first =>
        have hp2 := fun W => pick06 W y 2 hyl hyh (by omega) (by omega)
        obtain ⟨p2, hpe⟩ : ∃ p, pk y 2 = p := ⟨_, rfl⟩
        rw [hpe] at hp2
        have HP2 := Lib.hid hp2
        clear hp2 hpe
        have hz0 : decide ((i : Int) = 0) = decide (i = 0) := by congr 1; apply propext; omega
        by_cases hi0 : i = 0
        · subst hi0
          go_wp2_with fail
          go_meet
          exact ⟨true, rfl, rfl⟩
        · have q0 : decide ((i : Int) = 0) = false := decide_eq_false (by omega)
          have r0 : ((i : Int) == 0) = false := by simpa using hi0
          by_cases hi1 : i = 1
          · subst hi1
            by_cases hnm : nm = ⟨#[108, 105, 110, 107]⟩
            · subst hnm
              go_wp2_with (go_at_call 13; refine (HP2.out _).mono ?_; rintro e w' ⟨rfl, rfl⟩)
              all_goals go_meet
              all_goals exact ⟨_, rfl, rfl⟩
            · go_wp2_with (go_at_call 13; refine (HP2.out _).mono ?_; rintro e w' ⟨rfl, rfl⟩)
              all_goals go_meet
              all_goals exact ⟨_, rfl, rfl⟩
          · have q1 : decide ((i : Int) = 1) = false := decide_eq_false (by omega)
            have r1 : ((i : Int) == 1) = false := by simp; omega
            go_wp2_with fail
            go_meet
            exact ⟨false, rfl, rfl⟩
      case rest =>
        obtain ⟨b, rfl, rfl⟩ := hcut
        cases b with
        | true =>
          go_upto_region 7 with fail
          obtain ⟨q, hqe⟩ : ∃ q : Nat, pk (y.tdiv 2) 4 = q := ⟨(pk (y.tdiv 2) 4).toNat, by have := pk_lo (y.tdiv 2) 4 (by omega); omega⟩
          have hqlt : q < 4 := by have := pk_hi (y.tdiv 2) 4 (by omega); omega
          have hyb := tdiv2_bd hyl hyh
          have hpq := fun W => pick06 W (y.tdiv 2) 4 hyb.1 hyb.2 (by omega) (by omega)
          rw [hqe] at hpq
          have HPq := Lib.hid hpq
          have kq : IntKind.i64.wrap (y.tdiv 2) = y.tdiv 2 := by rw [IntKind.wrap_i64]; omega
          obtain ⟨Av, cv, hvv, _, _⟩ := HOv.out.form
          rw [List.length_map, HUl.out] at hvv
          subst hvv
          have hne4 : ∀ g, (Value.slice Av i cv).ownBlock = some g → g ≠ b4 := fun g hg e => own_ne_blk HOv.out HB4.out (by decide) (by rw [hg, e])
          have hneR : ∀ g, (Value.slice Av i cv).ownBlock = some g → g ≠ w.heap.size := fun g hg e => own_ne_blk HOv.out HRw.out (by decide) (by rw [hg, e])
          have hne3 : ∀ g, (Value.slice Av i cv).ownBlock = some g → g ≠ b3 := fun g hg e => own_ne_blk HOv.out HB3.out (by decide) (by rw [hg, e])
          have hneQ : ∀ g, (Value.slice Av i cv).ownBlock = some g → g ≠ w.heap.size + 1 := fun g hg e => own_ne_blk HOv.out HQ.out (by decide) (by rw [hg, e])
          have hlw := HNw.out.size
          clear hqe hpq
          obtain ⟨tx, htx, htb⟩ : ∃ tx : ByteArray, (#[.string ⟨#[97]⟩, .string ⟨#[98]⟩, .string ⟨#[99]⟩, .string ⟨#[100]⟩] : Array Value)[q]? = some (.string tx) ∧ ∃ b : UInt8, 97 ≤ b.toNat ∧ b.toNat ≤ 100 ∧ tx = ⟨#[b]⟩ := by
            rcases (show q = 0 ∨ q = 1 ∨ q = 2 ∨ q = 3 by omega) with rfl | rfl | rfl | rfl
            · exact ⟨_, rfl, 97, by decide, by decide, rfl⟩
            · exact ⟨_, rfl, 98, by decide, by decide, rfl⟩
            · exact ⟨_, rfl, 99, by decide, by decide, rfl⟩
            · exact ⟨_, rfl, 100, by decide, by decide, rfl⟩
          obtain ⟨nv, hnv⟩ : ∃ nv : Vl, nv = ⟨3, 0, tx⟩ := ⟨_, rfl⟩
          have hnc : rawV nv := by
            obtain ⟨b, hb1, hb2, hb3⟩ := htb
            rw [hnv, hb3]
            exact .inr ⟨b, hb1, hb2, rfl⟩
          clear htb
          have hcs : vcs nv = [.int .i64 3, .int .i64 0, .string tx, .slice none 0 0] := by rw [hnv]; rfl
          have Hnc := Lib.hid hnc
          have Hcs := Lib.hid hcs
          clear hnv hnc hcs
          refine wp_region_at (by kernel_rfl) ?_
          have hnd : New wc wc.drew := (Chg.refl _ _).drew
          have HB4d := Lib.hid (HB4.out.chg hnd id)
          have HOvd := Lib.hid (HOv.out.chg hnd (fun _ _ x => x))
          have HB3d := Lib.hid (HB3.out.chg hnd id)
          have HRwd := Lib.hid (HRw.out.chg hnd id)
          have HQd := Lib.hid (HQ.out.chg hnd id)
          have HNd := Lib.hid (HNw.out.trans hnd (fun _ _ x => x))
          have hb4l := HB4d.out.lt
          clear hnd HB4 HOv HB3 HRw HQ HNw ey e0 e1 hd
          generalize wc.drew = wd at HB4d HOvd HB3d HRwd HQd HNd hb4l ⊢
          have hlwd := HNd.out.size
          have q0 : (0 : Int) ≤ (i : Int) := by omega
          have q1 : (i : Int) < 4 := by omega
          have q2 : i < 4 := by omega
          have q3 : (0 : Int) ≤ (q : Int) := by omega
          have q4 : (q : Int) < 4 := by omega
          have HNrr := Lib.hid HNd.out
          have hst : ∀ jj uu w1 w2, New w1 w2 → (fun
              | 0 => fun v _ => v = .pointer (some ⟨b4, 1, none⟩)
              | 1 => fun v _ => v = .slice Av i cv
              | 2 => fun v W => ∃ rb, v = .slice (some ⟨rb, 0, none⟩) 4 4 ∧ Blk W rb 9 #[.string ⟨#[97]⟩, .string ⟨#[98]⟩, .string ⟨#[99]⟩, .string ⟨#[100]⟩]
              | 3 => fun v _ => v = .int .i64 i
              | 4 => fun v _ => v = .pointer (some ⟨w.heap.size, 2, none⟩)
              | 5 => fun v _ => v = .pointer (some ⟨w.heap.size, 2 + i, none⟩)
              | 6 => fun v _ => v = .int .i64 y
              | 7 => fun v _ => v = .int .i64 (y.tdiv 2)
              | 8 => fun v _ => v = .int .i64 q
              | 9 => fun v W => ∃ rb, v = .pointer (some ⟨rb, q, none⟩) ∧ Blk W rb 9 #[.string ⟨#[97]⟩, .string ⟨#[98]⟩, .string ⟨#[99]⟩, .string ⟨#[100]⟩]
              | 10 => fun v _ => v = .string tx
              | 11 => fun v _ => v = .agg #[.int .i64 3, .int .i64 0, .string tx, .slice none 0 0]
              | 12 => fun v W => ∃ rb, v = .slice (some ⟨rb, 0, none⟩) 1 1 ∧ Blk W rb 37 #[.int .i64 3, .int .i64 0, .string tx, .slice none 0 0]
              | 13 => fun v W => Own W w.heap.size 37 4 v ((us ++ [nv]).map vcs) ∧ ∀ k, v.ownBlock = some k → (Value.slice Av i cv).ownBlock = some k ∨ wd.heap.size ≤ k
              | 14 => fun v _ => v = .pointer (some ⟨b4, 1, none⟩)
              | _ => fun _ _ => True : Nat → Value → World → Prop) jj uu w1 → (fun
              | 0 => fun v _ => v = .pointer (some ⟨b4, 1, none⟩)
              | 1 => fun v _ => v = .slice Av i cv
              | 2 => fun v W => ∃ rb, v = .slice (some ⟨rb, 0, none⟩) 4 4 ∧ Blk W rb 9 #[.string ⟨#[97]⟩, .string ⟨#[98]⟩, .string ⟨#[99]⟩, .string ⟨#[100]⟩]
              | 3 => fun v _ => v = .int .i64 i
              | 4 => fun v _ => v = .pointer (some ⟨w.heap.size, 2, none⟩)
              | 5 => fun v _ => v = .pointer (some ⟨w.heap.size, 2 + i, none⟩)
              | 6 => fun v _ => v = .int .i64 y
              | 7 => fun v _ => v = .int .i64 (y.tdiv 2)
              | 8 => fun v _ => v = .int .i64 q
              | 9 => fun v W => ∃ rb, v = .pointer (some ⟨rb, q, none⟩) ∧ Blk W rb 9 #[.string ⟨#[97]⟩, .string ⟨#[98]⟩, .string ⟨#[99]⟩, .string ⟨#[100]⟩]
              | 10 => fun v _ => v = .string tx
              | 11 => fun v _ => v = .agg #[.int .i64 3, .int .i64 0, .string tx, .slice none 0 0]
              | 12 => fun v W => ∃ rb, v = .slice (some ⟨rb, 0, none⟩) 1 1 ∧ Blk W rb 37 #[.int .i64 3, .int .i64 0, .string tx, .slice none 0 0]
              | 13 => fun v W => Own W w.heap.size 37 4 v ((us ++ [nv]).map vcs) ∧ ∀ k, v.ownBlock = some k → (Value.slice Av i cv).ownBlock = some k ∨ wd.heap.size ≤ k
              | 14 => fun v _ => v = .pointer (some ⟨b4, 1, none⟩)
              | _ => fun _ _ => True : Nat → Value → World → Prop) jj uu w2 := by
            intro j uu w1 w2 hc h
            match j with
            | 2 => exact h.imp fun b h => ⟨h.1, h.2.chg hc id⟩
            | 9 => exact h.imp fun b h => ⟨h.1, h.2.chg hc id⟩
            | 12 => exact h.imp fun b h => ⟨h.1, h.2.chg hc id⟩
            | 13 => exact ⟨h.1.chg hc (fun _ _ x => x), h.2⟩
            | 0 | 1 | 3 | 4 | 5 | 6 | 7 | 8 | 10 | 11 | 14 => exact h
            | _ + 15 => trivial
          refine AtN.segX2 0 15 13 [40, 41, 42, 43, 44, 45, 46, 47, 48, 49, 50, 51, 52, 53, 54] (fun k => (Value.slice Av i cv).ownBlock = some k) (fun
              | 2 => 9
              | 9 => 10
              | 12 => 13
              | _ => 999) (fun
              | 0 => fun v _ => v = .pointer (some ⟨b4, 1, none⟩)
              | 1 => fun v _ => v = .slice Av i cv
              | 2 => fun v W => ∃ rb, v = .slice (some ⟨rb, 0, none⟩) 4 4 ∧ Blk W rb 9 #[.string ⟨#[97]⟩, .string ⟨#[98]⟩, .string ⟨#[99]⟩, .string ⟨#[100]⟩]
              | 3 => fun v _ => v = .int .i64 i
              | 4 => fun v _ => v = .pointer (some ⟨w.heap.size, 2, none⟩)
              | 5 => fun v _ => v = .pointer (some ⟨w.heap.size, 2 + i, none⟩)
              | 6 => fun v _ => v = .int .i64 y
              | 7 => fun v _ => v = .int .i64 (y.tdiv 2)
              | 8 => fun v _ => v = .int .i64 q
              | 9 => fun v W => ∃ rb, v = .pointer (some ⟨rb, q, none⟩) ∧ Blk W rb 9 #[.string ⟨#[97]⟩, .string ⟨#[98]⟩, .string ⟨#[99]⟩, .string ⟨#[100]⟩]
              | 10 => fun v _ => v = .string tx
              | 11 => fun v _ => v = .agg #[.int .i64 3, .int .i64 0, .string tx, .slice none 0 0]
              | 12 => fun v W => ∃ rb, v = .slice (some ⟨rb, 0, none⟩) 1 1 ∧ Blk W rb 37 #[.int .i64 3, .int .i64 0, .string tx, .slice none 0 0]
              | 13 => fun v W => Own W w.heap.size 37 4 v ((us ++ [nv]).map vcs) ∧ ∀ k, v.ownBlock = some k → (Value.slice Av i cv).ownBlock = some k ∨ wd.heap.size ≤ k
              | 14 => fun v _ => v = .pointer (some ⟨b4, 1, none⟩)
              | _ => fun _ _ => True : Nat → Value → World → Prop) (by kernel_rfl) (by kernel_rfl) (by kernel_rfl) (by kernel_rfl) (fun i hn hi o ho A0 W b hJ hμ hin hk => ?_) (fun l W3 hJ hl hΦ => ?_)
          · rcases (show i = 0 ∨ i = 1 ∨ i = 2 ∨ i = 3 ∨ i = 4 ∨ i = 5 ∨ i = 6 ∨ i = 7 ∨ i = 8 ∨ i = 9 ∨ i = 10 ∨ i = 11 ∨ i = 12 ∨ i = 13 ∨ i = 14 by omega) with rfl | rfl | rfl | rfl | rfl | rfl | rfl | rfl | rfl | rfl | rfl | rfl | rfl | rfl | rfl
            · cases ho
              have h4 : A0.tmps[4]?.getD undef = .pointer (some ⟨b4, 0, none⟩) := hk 4 (by kernel_rfl)
              refine .newX (i := 0) hJ hst ?_
              exact .same (v := .pointer (some ⟨b4, 1, none⟩)) (by simp [go_sem, h4]) rfl
            · cases ho
              have h40 : A0.tmps[40]?.getD undef = .pointer (some ⟨b4, 1, none⟩) := hin 0 40 (by kernel_rfl)
              refine .newX (i := 1) hJ hst ?_
              have hc : W.cell? ⟨b4, 1, none⟩ = some (.slice Av i cv) := (HB4d.out.chg hJ.1 (fun h => hne4 _ h rfl)).cell 1
              exact .same (v := .slice Av i cv) (by simp [go_sem, h40, hc]) rfl
            · cases ho
              refine .newX (i := 2) hJ hst ?_
              exact .value (W' := W.alloc (.cells #[.string ⟨#[97]⟩, .string ⟨#[98]⟩, .string ⟨#[99]⟩, .string ⟨#[100]⟩] 9)) (v := .slice (some ⟨W.heap.size, 0, none⟩) 4 4) (by simp [go_sem]) ⟨(Chg.refl _ _).alloc _, _, rfl, Blk.new _ _ _⟩
            · cases ho
              refine .newX (i := 3) hJ hst ?_
              exact .same (exec_move 5 (.int .i64 i) rfl (hk 5 (by kernel_rfl))) rfl
            · cases ho
              have h1 : A0.tmps[1]?.getD undef = .pointer (some ⟨w.heap.size, 0, none⟩) := hk 1 (by kernel_rfl)
              refine .newX (i := 4) hJ hst ?_
              exact .same (v := .pointer (some ⟨w.heap.size, 2, none⟩)) (by simp [go_sem, h1]) rfl
            · cases ho
              have h43 : A0.tmps[43]?.getD undef = .int .i64 i := hin 3 43 (by kernel_rfl)
              have h44 : A0.tmps[44]?.getD undef = .pointer (some ⟨w.heap.size, 2, none⟩) := hin 4 44 (by kernel_rfl)
              refine .newX (i := 5) hJ hst ?_
              exact .same (v := .pointer (some ⟨w.heap.size, 2 + i, none⟩)) (by simp [go_sem, h43, h44, q0, q1, q2]) rfl
            · cases ho
              have h45 : A0.tmps[45]?.getD undef = .pointer (some ⟨w.heap.size, 2 + i, none⟩) := hin 5 45 (by kernel_rfl)
              refine .newX (i := 6) hJ hst ?_
              have hc : W.cell? ⟨w.heap.size, 2 + i, none⟩ = some (.int .i64 y) := Hy.out W (HRwd.out.chg hJ.1 (fun h => hneR _ h rfl))
              exact .same (v := .int .i64 y) (by simp [go_sem, h45, hc]) rfl
            · cases ho
              have h46 : A0.tmps[46]?.getD undef = .int .i64 y := hin 6 46 (by kernel_rfl)
              refine .newX (i := 7) hJ hst ?_
              exact .same (v := .int .i64 (y.tdiv 2)) (by simp [go_sem, h46, kq]) rfl
            · cases ho
              have h47 : A0.tmps[47]?.getD undef = .int .i64 (y.tdiv 2) := hin 7 47 (by kernel_rfl)
              refine .newX (i := 8) hJ hst ?_
              refine .enter (f := 13) (args := #[.int .i64 (y.tdiv 2), .int .i64 4]) (v := .int .i64 q) ?_ ((HPq.out W).mono ?_)
              · simp [go_sem, h47, eg2]
              · rintro e w' ⟨rfl, rfl⟩
                exact ⟨rfl, Chg.refl _ _, rfl⟩
            · cases ho
              have h42 := hin 2 42 (by kernel_rfl)
              have h48 : A0.tmps[48]?.getD undef = .int .i64 q := hin 8 48 (by kernel_rfl)
              refine .newX (i := 9) hJ hst ?_
              obtain ⟨rb, e42, hb⟩ := h42
              exact .same (v := .pointer (some ⟨rb, q, none⟩)) (by simp [go_sem, e42, h48, q3, q4, hqlt]) ⟨rb, rfl, hb⟩
            · cases ho
              have h49 := hin 9 49 (by kernel_rfl)
              refine .newX (i := 10) hJ hst ?_
              obtain ⟨rb, e49, hb⟩ := h49
              have hc : W.cell? ⟨rb, q, none⟩ = some (.string tx) := (hb.cell q).trans htx
              exact .same (v := .string tx) (by simp [go_sem, e49, hc]) rfl
            · cases ho
              have h50 : A0.tmps[50]?.getD undef = .string tx := hin 10 50 (by kernel_rfl)
              refine .newX (i := 11) hJ hst ?_
              exact .same (v := .agg #[.int .i64 3, .int .i64 0, .string tx, .slice none 0 0]) (by simp [go_sem, h50]) rfl
            · cases ho
              have h51 : A0.tmps[51]?.getD undef = .agg #[.int .i64 3, .int .i64 0, .string tx, .slice none 0 0] := hin 11 51 (by kernel_rfl)
              refine .newX (i := 12) hJ hst ?_
              exact .value (W' := W.alloc (.cells #[.int .i64 3, .int .i64 0, .string tx, .slice none 0 0] 37)) (v := .slice (some ⟨W.heap.size, 0, none⟩) 1 1) (by simp [go_sem, h51]) ⟨(Chg.refl _ _).alloc _, _, rfl, Blk.new _ _ _⟩
            · cases ho
              have h41 : A0.tmps[41]?.getD undef = .slice Av i cv := hin 1 41 (by kernel_rfl)
              have h52 := hin 12 52 (by kernel_rfl)
              obtain ⟨ro, eo, hb⟩ := h52
              have hbf : b = false := hμ rfl
              have hNn : New wd W := hJ.2 hbf
              obtain ⟨v1, W', hrun, hown, hchg, hblk⟩ := elValue.appendS (HOvd.out.chg hNn (fun _ _ x => x)) (Nat.le_trans hlwd hJ.1.size) (some ⟨ro, 0, none⟩) 1 1 [vcs nv] rfl (fun cs hc => by simp only [List.mem_cons, List.not_mem_nil, or_false] at hc; subst hc; rfl) (fun cs hc => by simp only [List.mem_cons, List.not_mem_nil, or_false] at hc; subst hc; exact vcs_one [nv] _ (by simp)) (fun _ => ⟨_, rfl, fun j cs hj => by
                match j, hj with
                | 0, hj => cases hj; exact ⟨rfl, by rw [Nat.zero_mul, Hcs.out]; exact hb.at_⟩
                | j + 1, hj => simp at hj⟩) (by rw [List.length_map]; have := HUl.out; omega) (by rw [List.length_map]; have := HUl.out; unfold maxLen; omega) 35
              refine .value (exec_append _ _ _ _ rfl (by simpa [Act.eval] using h41) (by simpa [Act.eval] using eo) hrun) ⟨hJ.turn hchg (fun _ _ x => x), ⟨by rw [List.map_append]; exact hown, fun k hk => (hblk k hk).imp id (fun h => Nat.le_trans hJ.1.size h)⟩, fun k u hki hkx hka hkb h => ?_⟩
              match k with
              | 2 => exact hkb.elim (fun h => absurd h (by decide)) (fun h => ahead_no h (by kernel_rfl))
              | 9 => exact hkb.elim (fun h => absurd h (by decide)) (fun h => ahead_no h (by kernel_rfl))
              | 12 => exact absurd rfl hkx
              | 13 => exact absurd rfl hki
              | 0 | 1 | 3 | 4 | 5 | 6 | 7 | 8 | 10 | 11 | 14 => exact h
              | _ + 15 => trivial
            · cases ho
              have h4 : A0.tmps[4]?.getD undef = .pointer (some ⟨b4, 0, none⟩) := hk 4 (by kernel_rfl)
              refine .newX (i := 14) hJ hst ?_
              exact .same (v := .pointer (some ⟨b4, 1, none⟩)) (by simp [go_sem, h4]) rfl
          obtain ⟨x40, x41, x42, x43, x44, x45, x46, x47, x48, x49, x50, x51, x52, x53, x54, rfl⟩ : ∃ x40 x41 x42 x43 x44 x45 x46 x47 x48 x49 x50 x51 x52 x53 x54, l = [x40, x41, x42, x43, x44, x45, x46, x47, x48, x49, x50, x51, x52, x53, x54] := by
            match l, hl with
            | [x40, x41, x42, x43, x44, x45, x46, x47, x48, x49, x50, x51, x52, x53, x54], _ => exact ⟨_, _, _, _, _, _, _, _, _, _, _, _, _, _, _, rfl⟩
          obtain rfl : x40 = .pointer (some ⟨b4, 1, none⟩) := hΦ 0 (by decide) (by decide)
          obtain rfl : x41 = .slice Av i cv := hΦ 1 (by decide) (by decide)
          obtain rfl : x43 = .int .i64 i := hΦ 3 (by decide) (by decide)
          obtain rfl : x44 = .pointer (some ⟨w.heap.size, 2, none⟩) := hΦ 4 (by decide) (by decide)
          obtain rfl : x45 = .pointer (some ⟨w.heap.size, 2 + i, none⟩) := hΦ 5 (by decide) (by decide)
          obtain rfl : x46 = .int .i64 y := hΦ 6 (by decide) (by decide)
          obtain rfl : x47 = .int .i64 (y.tdiv 2) := hΦ 7 (by decide) (by decide)
          obtain rfl : x48 = .int .i64 q := hΦ 8 (by decide) (by decide)
          obtain rfl : x50 = .string tx := hΦ 10 (by decide) (by decide)
          obtain rfl : x51 = .agg #[.int .i64 3, .int .i64 0, .string tx, .slice none 0 0] := hΦ 11 (by decide) (by decide)
          have hx53 : (fun v W => Own W w.heap.size 37 4 v ((us ++ [nv]).map vcs) ∧ ∀ k, v.ownBlock = some k → (Value.slice Av i cv).ownBlock = some k ∨ wd.heap.size ≤ k : Value → World → Prop) x53 W3 := hΦ 13 (by decide) (by decide)
          obtain rfl : x54 = .pointer (some ⟨b4, 1, none⟩) := hΦ 14 (by decide) (by decide)
          simp only [putsL, List.zip_cons_cons, List.zip_nil_left, List.zip_nil_right, List.zip, List.zipWith, Act.put, List.setIfInBounds_toArray, List.set_cons_succ, List.set_cons_zero]
          clear hΦ hl hst
          obtain ⟨hown, hblk⟩ := hx53
          obtain ⟨An, cn, hvn, _, _⟩ := hown.form
          obtain ⟨nn, hnn⟩ : ∃ nn, (List.map vcs (us ++ [nv])).length = nn := ⟨_, rfl⟩
          rw [hnn] at hvn
          clear hnn
          have hT : ∀ g, g < wd.heap.size → ¬ ((Value.slice Av i cv).ownBlock = some g) → True := fun _ _ _ => trivial
          have hb4n := HB4d.out.chg hJ.1 (fun h => hne4 _ h rfl)
          have hb3n := HB3d.out.chg hJ.1 (fun h => hne3 _ h rfl)
          have hrwn := HRwd.out.chg hJ.1 (fun h => hneR _ h rfl)
          have hqn := HQd.out.chg hJ.1 (fun h => hneQ _ h rfl)
          have hNn : New w W3 := HNd.out.trans hJ.1 (fun k hk h => absurd ((HOvd.out.lt h).1) (by omega))
          have hne : ∀ g, x53.ownBlock = some g → g ≠ b4 := fun g hg e => own_ne_blk hown hb4n (by decide) (by rw [hg, e])
          have c1 := hb4n.cell 1
          have f1 := hb4n.frozen 1
          simp only [List.getElem?_toArray, List.getElem?_cons_zero, List.getElem?_cons_succ] at c1
          have HB4' := Lib.hid (show Blk (W3.setCell ⟨b4, 1, none⟩ x53) b4 57 #[.string nm, x53] by simpa using hb4n.setCell 1 x53)
          have HOv' := Lib.hid (show Own (W3.setCell ⟨b4, 1, none⟩ x53) w.heap.size 37 4 x53 ((us ++ [nv]).map vcs) from hown.chg (T := fun k => k = b4) ((Chg.refl _ _).setCell _ _ (fun _ => rfl)) (fun g hg e => hne g hg e))
          have HB3' := Lib.hid (hb3n.far (p := ⟨b4, 1, none⟩) (by simp; omega) x53)
          have HRw' := Lib.hid (hrwn.far (p := ⟨b4, 1, none⟩) (by simp; omega) x53)
          have HQ' := Lib.hid (hqn.far (p := ⟨b4, 1, none⟩) (by simp; omega) x53)
          have HN' := Lib.hid (hNn.setCell ⟨b4, 1, none⟩ x53 (fun h => absurd h (by simp; omega)))
          have HCn' := Lib.hid (show ∀ u ∈ us ++ [nv], rawV u from fun u hu => (List.mem_append.1 hu).elim (HCn.out u) (fun h => by rw [List.mem_singleton.1 h]; exact Hnc.out))
          clear hown hblk hT hb4n hb3n hrwn hqn hNn hne hJ HB4d HOvd HB3d HRwd HQd HNd HNrr
          subst hvn
          refine AtN.list 15 16 (by kernel_rfl) ?_
          change wpList _ _ _ [_] _ _
          go_wp2_with fail
          change AtN _ _ _ 16 _ _
          refine AtN.done rfl ?_
          go_wp2_with fail
          go_roundw
          case rel => exact ⟨i + 1, us ++ [nv], _, by omega, by go_num, by rw [List.length_append, HUl.out]; rfl, HCn'.out, HB4'.out, HOv'.out, HB3'.out, HRw'.out, HQ'.out, HN'.out⟩
          case measure => simp only [intOf]; omega
        | false =>
          go_upto_region 8 with fail
          obtain ⟨q, hqe⟩ : ∃ q : Nat, pk (y.tdiv 2) 5 = q := ⟨(pk (y.tdiv 2) 5).toNat, by have := pk_lo (y.tdiv 2) 5 (by omega); omega⟩
          have hqlt : q < 5 := by have := pk_hi (y.tdiv 2) 5 (by omega); omega
          have hyb := tdiv2_bd hyl hyh
          have hpq := fun W => pick06 W (y.tdiv 2) 5 hyb.1 hyb.2 (by omega) (by omega)
          rw [hqe] at hpq
          have HPq := Lib.hid hpq
          have kq : IntKind.i64.wrap (y.tdiv 2) = y.tdiv 2 := by rw [IntKind.wrap_i64]; omega
          obtain ⟨Av, cv, hvv, _, _⟩ := HOv.out.form
          rw [List.length_map, HUl.out] at hvv
          subst hvv
          have hne4 : ∀ g, (Value.slice Av i cv).ownBlock = some g → g ≠ b4 := fun g hg e => own_ne_blk HOv.out HB4.out (by decide) (by rw [hg, e])
          have hneR : ∀ g, (Value.slice Av i cv).ownBlock = some g → g ≠ w.heap.size := fun g hg e => own_ne_blk HOv.out HRw.out (by decide) (by rw [hg, e])
          have hne3 : ∀ g, (Value.slice Av i cv).ownBlock = some g → g ≠ b3 := fun g hg e => own_ne_blk HOv.out HB3.out (by decide) (by rw [hg, e])
          have hneQ : ∀ g, (Value.slice Av i cv).ownBlock = some g → g ≠ w.heap.size + 1 := fun g hg e => own_ne_blk HOv.out HQ.out (by decide) (by rw [hg, e])
          have hlw := HNw.out.size
          clear hqe hpq
          obtain ⟨nv, hnv⟩ : ∃ nv : Vl, nv = ⟨1, q, ⟨#[]⟩⟩ := ⟨_, rfl⟩
          have hnc : rawV nv := by rw [hnv]; exact .inl ⟨q, by omega, by omega, rfl⟩
          have hcs : vcs nv = [.int .i64 1, .int .i64 q, .string ⟨#[]⟩, .slice none 0 0] := by rw [hnv]; rfl
          have Hnc := Lib.hid hnc
          have Hcs := Lib.hid hcs
          clear hnv hnc hcs
          refine wp_region_at (by kernel_rfl) ?_
          have hnd : New wc wc.drew := (Chg.refl _ _).drew
          have HB4d := Lib.hid (HB4.out.chg hnd id)
          have HOvd := Lib.hid (HOv.out.chg hnd (fun _ _ x => x))
          have HB3d := Lib.hid (HB3.out.chg hnd id)
          have HRwd := Lib.hid (HRw.out.chg hnd id)
          have HQd := Lib.hid (HQ.out.chg hnd id)
          have HNd := Lib.hid (HNw.out.trans hnd (fun _ _ x => x))
          have hb4l := HB4d.out.lt
          clear hnd HB4 HOv HB3 HRw HQ HNw ey e0 e1 hd
          generalize wc.drew = wd at HB4d HOvd HB3d HRwd HQd HNd hb4l ⊢
          have hlwd := HNd.out.size
          have q0 : (0 : Int) ≤ (i : Int) := by omega
          have q1 : (i : Int) < 4 := by omega
          have q2 : i < 4 := by omega
          have q3 : (0 : Int) ≤ (q : Int) := by omega
          have q4 : (q : Int) < 5 := by omega
          have HNrr := Lib.hid HNd.out
          have hst : ∀ jj uu w1 w2, New w1 w2 → (fun
              | 0 => fun v _ => v = .pointer (some ⟨b4, 1, none⟩)
              | 1 => fun v _ => v = .slice Av i cv
              | 2 => fun v _ => v = .int .i64 i
              | 3 => fun v _ => v = .pointer (some ⟨w.heap.size, 2, none⟩)
              | 4 => fun v _ => v = .pointer (some ⟨w.heap.size, 2 + i, none⟩)
              | 5 => fun v _ => v = .int .i64 y
              | 6 => fun v _ => v = .int .i64 (y.tdiv 2)
              | 7 => fun v _ => v = .int .i64 q
              | 8 => fun v _ => v = .agg #[.int .i64 1, .int .i64 q, .string ⟨#[]⟩, .slice none 0 0]
              | 9 => fun v W => ∃ rb, v = .slice (some ⟨rb, 0, none⟩) 1 1 ∧ Blk W rb 37 #[.int .i64 1, .int .i64 q, .string ⟨#[]⟩, .slice none 0 0]
              | 10 => fun v W => Own W w.heap.size 37 4 v ((us ++ [nv]).map vcs) ∧ ∀ k, v.ownBlock = some k → (Value.slice Av i cv).ownBlock = some k ∨ wd.heap.size ≤ k
              | 11 => fun v _ => v = .pointer (some ⟨b4, 1, none⟩)
              | _ => fun _ _ => True : Nat → Value → World → Prop) jj uu w1 → (fun
              | 0 => fun v _ => v = .pointer (some ⟨b4, 1, none⟩)
              | 1 => fun v _ => v = .slice Av i cv
              | 2 => fun v _ => v = .int .i64 i
              | 3 => fun v _ => v = .pointer (some ⟨w.heap.size, 2, none⟩)
              | 4 => fun v _ => v = .pointer (some ⟨w.heap.size, 2 + i, none⟩)
              | 5 => fun v _ => v = .int .i64 y
              | 6 => fun v _ => v = .int .i64 (y.tdiv 2)
              | 7 => fun v _ => v = .int .i64 q
              | 8 => fun v _ => v = .agg #[.int .i64 1, .int .i64 q, .string ⟨#[]⟩, .slice none 0 0]
              | 9 => fun v W => ∃ rb, v = .slice (some ⟨rb, 0, none⟩) 1 1 ∧ Blk W rb 37 #[.int .i64 1, .int .i64 q, .string ⟨#[]⟩, .slice none 0 0]
              | 10 => fun v W => Own W w.heap.size 37 4 v ((us ++ [nv]).map vcs) ∧ ∀ k, v.ownBlock = some k → (Value.slice Av i cv).ownBlock = some k ∨ wd.heap.size ≤ k
              | 11 => fun v _ => v = .pointer (some ⟨b4, 1, none⟩)
              | _ => fun _ _ => True : Nat → Value → World → Prop) jj uu w2 := by
            intro j uu w1 w2 hc h
            match j with
            | 9 => exact h.imp fun b h => ⟨h.1, h.2.chg hc id⟩
            | 10 => exact ⟨h.1.chg hc (fun _ _ x => x), h.2⟩
            | 0 | 1 | 2 | 3 | 4 | 5 | 6 | 7 | 8 | 11 => exact h
            | _ + 12 => trivial
          refine AtN.segX2 0 12 10 [55, 56, 57, 58, 59, 60, 61, 62, 63, 64, 65, 66] (fun k => (Value.slice Av i cv).ownBlock = some k) (fun
              | 9 => 10
              | _ => 999) (fun
              | 0 => fun v _ => v = .pointer (some ⟨b4, 1, none⟩)
              | 1 => fun v _ => v = .slice Av i cv
              | 2 => fun v _ => v = .int .i64 i
              | 3 => fun v _ => v = .pointer (some ⟨w.heap.size, 2, none⟩)
              | 4 => fun v _ => v = .pointer (some ⟨w.heap.size, 2 + i, none⟩)
              | 5 => fun v _ => v = .int .i64 y
              | 6 => fun v _ => v = .int .i64 (y.tdiv 2)
              | 7 => fun v _ => v = .int .i64 q
              | 8 => fun v _ => v = .agg #[.int .i64 1, .int .i64 q, .string ⟨#[]⟩, .slice none 0 0]
              | 9 => fun v W => ∃ rb, v = .slice (some ⟨rb, 0, none⟩) 1 1 ∧ Blk W rb 37 #[.int .i64 1, .int .i64 q, .string ⟨#[]⟩, .slice none 0 0]
              | 10 => fun v W => Own W w.heap.size 37 4 v ((us ++ [nv]).map vcs) ∧ ∀ k, v.ownBlock = some k → (Value.slice Av i cv).ownBlock = some k ∨ wd.heap.size ≤ k
              | 11 => fun v _ => v = .pointer (some ⟨b4, 1, none⟩)
              | _ => fun _ _ => True : Nat → Value → World → Prop) (by kernel_rfl) (by kernel_rfl) (by kernel_rfl) (by kernel_rfl) (fun i hn hi o ho A0 W b hJ hμ hin hk => ?_) (fun l W3 hJ hl hΦ => ?_)
          · rcases (show i = 0 ∨ i = 1 ∨ i = 2 ∨ i = 3 ∨ i = 4 ∨ i = 5 ∨ i = 6 ∨ i = 7 ∨ i = 8 ∨ i = 9 ∨ i = 10 ∨ i = 11 by omega) with rfl | rfl | rfl | rfl | rfl | rfl | rfl | rfl | rfl | rfl | rfl | rfl
            · cases ho
              have h4 : A0.tmps[4]?.getD undef = .pointer (some ⟨b4, 0, none⟩) := hk 4 (by kernel_rfl)
              refine .newX (i := 0) hJ hst ?_
              exact .same (v := .pointer (some ⟨b4, 1, none⟩)) (by simp [go_sem, h4]) rfl
            · cases ho
              have h55 : A0.tmps[55]?.getD undef = .pointer (some ⟨b4, 1, none⟩) := hin 0 55 (by kernel_rfl)
              refine .newX (i := 1) hJ hst ?_
              have hc : W.cell? ⟨b4, 1, none⟩ = some (.slice Av i cv) := (HB4d.out.chg hJ.1 (fun h => hne4 _ h rfl)).cell 1
              exact .same (v := .slice Av i cv) (by simp [go_sem, h55, hc]) rfl
            · cases ho
              refine .newX (i := 2) hJ hst ?_
              exact .same (exec_move 5 (.int .i64 i) rfl (hk 5 (by kernel_rfl))) rfl
            · cases ho
              have h1 : A0.tmps[1]?.getD undef = .pointer (some ⟨w.heap.size, 0, none⟩) := hk 1 (by kernel_rfl)
              refine .newX (i := 3) hJ hst ?_
              exact .same (v := .pointer (some ⟨w.heap.size, 2, none⟩)) (by simp [go_sem, h1]) rfl
            · cases ho
              have h57 : A0.tmps[57]?.getD undef = .int .i64 i := hin 2 57 (by kernel_rfl)
              have h58 : A0.tmps[58]?.getD undef = .pointer (some ⟨w.heap.size, 2, none⟩) := hin 3 58 (by kernel_rfl)
              refine .newX (i := 4) hJ hst ?_
              exact .same (v := .pointer (some ⟨w.heap.size, 2 + i, none⟩)) (by simp [go_sem, h57, h58, q0, q1, q2]) rfl
            · cases ho
              have h59 : A0.tmps[59]?.getD undef = .pointer (some ⟨w.heap.size, 2 + i, none⟩) := hin 4 59 (by kernel_rfl)
              refine .newX (i := 5) hJ hst ?_
              have hc : W.cell? ⟨w.heap.size, 2 + i, none⟩ = some (.int .i64 y) := Hy.out W (HRwd.out.chg hJ.1 (fun h => hneR _ h rfl))
              exact .same (v := .int .i64 y) (by simp [go_sem, h59, hc]) rfl
            · cases ho
              have h60 : A0.tmps[60]?.getD undef = .int .i64 y := hin 5 60 (by kernel_rfl)
              refine .newX (i := 6) hJ hst ?_
              exact .same (v := .int .i64 (y.tdiv 2)) (by simp [go_sem, h60, kq]) rfl
            · cases ho
              have h61 : A0.tmps[61]?.getD undef = .int .i64 (y.tdiv 2) := hin 6 61 (by kernel_rfl)
              refine .newX (i := 7) hJ hst ?_
              refine .enter (f := 13) (args := #[.int .i64 (y.tdiv 2), .int .i64 5]) (v := .int .i64 q) ?_ ((HPq.out W).mono ?_)
              · simp [go_sem, h61, eg2]
              · rintro e w' ⟨rfl, rfl⟩
                exact ⟨rfl, Chg.refl _ _, rfl⟩
            · cases ho
              have h62 : A0.tmps[62]?.getD undef = .int .i64 q := hin 7 62 (by kernel_rfl)
              refine .newX (i := 8) hJ hst ?_
              exact .same (v := .agg #[.int .i64 1, .int .i64 q, .string ⟨#[]⟩, .slice none 0 0]) (by simp [go_sem, h62]) rfl
            · cases ho
              have h63 : A0.tmps[63]?.getD undef = .agg #[.int .i64 1, .int .i64 q, .string ⟨#[]⟩, .slice none 0 0] := hin 8 63 (by kernel_rfl)
              refine .newX (i := 9) hJ hst ?_
              exact .value (W' := W.alloc (.cells #[.int .i64 1, .int .i64 q, .string ⟨#[]⟩, .slice none 0 0] 37)) (v := .slice (some ⟨W.heap.size, 0, none⟩) 1 1) (by simp [go_sem, h63]) ⟨(Chg.refl _ _).alloc _, _, rfl, Blk.new _ _ _⟩
            · cases ho
              have h56 : A0.tmps[56]?.getD undef = .slice Av i cv := hin 1 56 (by kernel_rfl)
              have h64 := hin 9 64 (by kernel_rfl)
              obtain ⟨ro, eo, hb⟩ := h64
              have hbf : b = false := hμ rfl
              have hNn : New wd W := hJ.2 hbf
              obtain ⟨v1, W', hrun, hown, hchg, hblk⟩ := elValue.appendS (HOvd.out.chg hNn (fun _ _ x => x)) (Nat.le_trans hlwd hJ.1.size) (some ⟨ro, 0, none⟩) 1 1 [vcs nv] rfl (fun cs hc => by simp only [List.mem_cons, List.not_mem_nil, or_false] at hc; subst hc; rfl) (fun cs hc => by simp only [List.mem_cons, List.not_mem_nil, or_false] at hc; subst hc; exact vcs_one [nv] _ (by simp)) (fun _ => ⟨_, rfl, fun j cs hj => by
                match j, hj with
                | 0, hj => cases hj; exact ⟨rfl, by rw [Nat.zero_mul, Hcs.out]; exact hb.at_⟩
                | j + 1, hj => simp at hj⟩) (by rw [List.length_map]; have := HUl.out; omega) (by rw [List.length_map]; have := HUl.out; unfold maxLen; omega) 35
              refine .value (exec_append _ _ _ _ rfl (by simpa [Act.eval] using h56) (by simpa [Act.eval] using eo) hrun) ⟨hJ.turn hchg (fun _ _ x => x), ⟨by rw [List.map_append]; exact hown, fun k hk => (hblk k hk).imp id (fun h => Nat.le_trans hJ.1.size h)⟩, fun k u hki hkx hka hkb h => ?_⟩
              match k with
              | 9 => exact absurd rfl hkx
              | 10 => exact absurd rfl hki
              | 0 | 1 | 2 | 3 | 4 | 5 | 6 | 7 | 8 | 11 => exact h
              | _ + 12 => trivial
            · cases ho
              have h4 : A0.tmps[4]?.getD undef = .pointer (some ⟨b4, 0, none⟩) := hk 4 (by kernel_rfl)
              refine .newX (i := 11) hJ hst ?_
              exact .same (v := .pointer (some ⟨b4, 1, none⟩)) (by simp [go_sem, h4]) rfl
          obtain ⟨x55, x56, x57, x58, x59, x60, x61, x62, x63, x64, x65, x66, rfl⟩ : ∃ x55 x56 x57 x58 x59 x60 x61 x62 x63 x64 x65 x66, l = [x55, x56, x57, x58, x59, x60, x61, x62, x63, x64, x65, x66] := by
            match l, hl with
            | [x55, x56, x57, x58, x59, x60, x61, x62, x63, x64, x65, x66], _ => exact ⟨_, _, _, _, _, _, _, _, _, _, _, _, rfl⟩
          obtain rfl : x55 = .pointer (some ⟨b4, 1, none⟩) := hΦ 0 (by decide) (by decide)
          obtain rfl : x56 = .slice Av i cv := hΦ 1 (by decide) (by decide)
          obtain rfl : x57 = .int .i64 i := hΦ 2 (by decide) (by decide)
          obtain rfl : x58 = .pointer (some ⟨w.heap.size, 2, none⟩) := hΦ 3 (by decide) (by decide)
          obtain rfl : x59 = .pointer (some ⟨w.heap.size, 2 + i, none⟩) := hΦ 4 (by decide) (by decide)
          obtain rfl : x60 = .int .i64 y := hΦ 5 (by decide) (by decide)
          obtain rfl : x61 = .int .i64 (y.tdiv 2) := hΦ 6 (by decide) (by decide)
          obtain rfl : x62 = .int .i64 q := hΦ 7 (by decide) (by decide)
          obtain rfl : x63 = .agg #[.int .i64 1, .int .i64 q, .string ⟨#[]⟩, .slice none 0 0] := hΦ 8 (by decide) (by decide)
          have hx65 : (fun v W => Own W w.heap.size 37 4 v ((us ++ [nv]).map vcs) ∧ ∀ k, v.ownBlock = some k → (Value.slice Av i cv).ownBlock = some k ∨ wd.heap.size ≤ k : Value → World → Prop) x65 W3 := hΦ 10 (by decide) (by decide)
          obtain rfl : x66 = .pointer (some ⟨b4, 1, none⟩) := hΦ 11 (by decide) (by decide)
          simp only [putsL, List.zip_cons_cons, List.zip_nil_left, List.zip_nil_right, List.zip, List.zipWith, Act.put, List.setIfInBounds_toArray, List.set_cons_succ, List.set_cons_zero]
          clear hΦ hl hst
          obtain ⟨hown, hblk⟩ := hx65
          obtain ⟨An, cn, hvn, _, _⟩ := hown.form
          obtain ⟨nn, hnn⟩ : ∃ nn, (List.map vcs (us ++ [nv])).length = nn := ⟨_, rfl⟩
          rw [hnn] at hvn
          clear hnn
          have hT : ∀ g, g < wd.heap.size → ¬ ((Value.slice Av i cv).ownBlock = some g) → True := fun _ _ _ => trivial
          have hb4n := HB4d.out.chg hJ.1 (fun h => hne4 _ h rfl)
          have hb3n := HB3d.out.chg hJ.1 (fun h => hne3 _ h rfl)
          have hrwn := HRwd.out.chg hJ.1 (fun h => hneR _ h rfl)
          have hqn := HQd.out.chg hJ.1 (fun h => hneQ _ h rfl)
          have hNn : New w W3 := HNd.out.trans hJ.1 (fun k hk h => absurd ((HOvd.out.lt h).1) (by omega))
          have hne : ∀ g, x65.ownBlock = some g → g ≠ b4 := fun g hg e => own_ne_blk hown hb4n (by decide) (by rw [hg, e])
          have c1 := hb4n.cell 1
          have f1 := hb4n.frozen 1
          simp only [List.getElem?_toArray, List.getElem?_cons_zero, List.getElem?_cons_succ] at c1
          have HB4' := Lib.hid (show Blk (W3.setCell ⟨b4, 1, none⟩ x65) b4 57 #[.string nm, x65] by simpa using hb4n.setCell 1 x65)
          have HOv' := Lib.hid (show Own (W3.setCell ⟨b4, 1, none⟩ x65) w.heap.size 37 4 x65 ((us ++ [nv]).map vcs) from hown.chg (T := fun k => k = b4) ((Chg.refl _ _).setCell _ _ (fun _ => rfl)) (fun g hg e => hne g hg e))
          have HB3' := Lib.hid (hb3n.far (p := ⟨b4, 1, none⟩) (by simp; omega) x65)
          have HRw' := Lib.hid (hrwn.far (p := ⟨b4, 1, none⟩) (by simp; omega) x65)
          have HQ' := Lib.hid (hqn.far (p := ⟨b4, 1, none⟩) (by simp; omega) x65)
          have HN' := Lib.hid (hNn.setCell ⟨b4, 1, none⟩ x65 (fun h => absurd h (by simp; omega)))
          have HCn' := Lib.hid (show ∀ u ∈ us ++ [nv], rawV u from fun u hu => (List.mem_append.1 hu).elim (HCn.out u) (fun h => by rw [List.mem_singleton.1 h]; exact Hnc.out))
          clear hown hblk hT hb4n hb3n hrwn hqn hNn hne hJ HB4d HOvd HB3d HRwd HQd HNd HNrr
          subst hvn
          refine AtN.list 12 13 (by kernel_rfl) ?_
          change wpList _ _ _ [_] _ _
          go_wp2_with fail
          change AtN _ _ _ 13 _ _
          refine AtN.done rfl ?_
          go_wp2_with fail
          go_roundw
          case rel => exact ⟨i + 1, us ++ [nv], _, by omega, by go_num, by rw [List.length_append, HUl.out]; rfl, HCn'.out, HB4'.out, HOv'.out, HB3'.out, HRw'.out, HQ'.out, HN'.out⟩
          case measure => simp only [intOf]; omega
    · have hie : (i : Int) = ar := by omega
      have hl1 : 1 ≤ us.length := by omega
      have hl3 : us.length ≤ 3 := by omega
      have hrl : ∃ p : Nat, relCs[p]? = some (nm, (us.length : Int)) := ⟨p, by rw [hul, hie]; exact HPr.out⟩
      have HRl := Lib.hid hrl
      clear hrl
      have HOv := Lib.hid hov
      have HQq := Lib.hid hq
      have HCn := Lib.hid hcan
      have HNw := Lib.hid hN
      have hd : decide ((i : Int) < ar) = false := decide_eq_false hlt
      have e1 := hb3.cell 1
      simp only [List.getElem?_toArray, List.getElem?_cons_zero, List.getElem?_cons_succ] at e1
      have Hat := Lib.hid (show At wr ⟨b4, 0, none⟩ [.string nm, vv] from hb4.at_)
      have hvo : vv.oneCell' = true := by
        obtain ⟨A, c, hv, _⟩ := hov.form
        rw [hv]; rfl
      have hst : Blk (wr.setRow (w.heap.size + 1) #[.string nm, vv]) (w.heap.size + 1) 57 #[.string nm, vv] := hq.set _
      have hne : vv.ownBlock ≠ some (w.heap.size + 1) := own_ne_blk hov hq (by decide)
      have HOf := Lib.hid (show Own (wr.setRow (w.heap.size + 1) #[.string nm, vv]) w.heap.size 37 4 vv (us.map vcs) from hov.chg (T := fun k => k = w.heap.size + 1) ((Chg.refl _ _).setRow _ _ (fun _ => rfl)) (fun q hq e => hne (by rw [hq, e])))
      have HNf := Lib.hid (hN.setRow (w.heap.size + 1) #[.string nm, vv] (fun h => by omega))
      have Hst := Lib.hid hst
      have Hone := Lib.hid (show ∀ u ∈ [Value.string nm, vv], u.oneCell' = true from fun u hu => by
        simp only [List.mem_cons, List.not_mem_nil, or_false] at hu
        rcases hu with rfl | rfl
        · rfl
        · exact hvo)
      clear hb4 hov hb3 hrw hq hN hcan hie hlt hst hne hul
      go_wp2_with (first | ((with_reducible refine wpl_load rfl (.tmp 4) 57 rfl stTuple ⟨b4, 0, none⟩ [.string nm, vv] ?_ rfl Hat.out ?_); exact rfl) | ((with_reducible refine wpl_store rfl (.tmp 2) (.tmp 67) 57 rfl stTuple (w.heap.size + 1) 0 57 #[.string ⟨#[]⟩, .slice none 0 0] [.string nm, vv] ?_ ?_ HQq.out rfl (by decide) Hone.out ?_); exact rfl; exact rfl))
      refine bodyPost_ret (v := .agg #[.string nm, vv]) (fact_res _ _ (w.heap.size + 1) [.string nm, vv] rfl Hst.out.at_ rfl) rfl ⟨nm, vv, us, rfl, hl1, hl3, HCn.out, HRl.out, HOf.out, HNf.out⟩
end Go.Proofs.Ytfocjfnkcabbgaa
