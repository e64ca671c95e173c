/- Layer 13's example. -/
import Derived.Test.YtenkobgeflckdaaFind13
import Derived.Test.YtenkobgeflckdaaDelW
import Derived.Test.YtenkobgeflckdaaSameR
import Derived.Test.YtenkobgeflckdaaRaws
set_option linter.unusedVariables false
set_option linter.unusedSimpArgs false
namespace Go.Proofs.Ytenkobgeflckdaa
open Go.RowKit Go.Shelf

theorem own_rows {W : World} {B : Nat} {v : Value} {cso : List (List Value)} {rs : List Rw} (ho : Own W B 58 3 v cso) (hr : RowsCs W cso rs) : ∃ A c, v = .slice A rs.length c ∧ rs.length ≤ c ∧ c ≤ maxLen ∧ SrcAt W A 3 cso ∧ ∀ a, A = some a → B ≤ a.block ∧ a.block < W.heap.size := by
  obtain ⟨A, c, hv, h1, h2⟩ := ho.form
  have hrw := (ho.rows hv).2
  rw [hr.1] at hv h1
  exact ⟨A, c, hv, h1, h2, hrw, fun a ha => ho.lt (g := a.block) (by rw [hv, ha]; rfl)⟩
theorem blk_src {W : World} {g : Nat} {css : List (List Value)} (hb : Blk W g 58 css.flatten.toArray) (h3 : ∀ cs ∈ css, cs.length = 3) : SrcAt W (some ⟨g, 0, none⟩) 3 css := fun _ => ⟨_, rfl, fun i cs hi => ⟨h3 cs (List.mem_of_getElem? hi), fun j u hj => by
  rw [Addr.add_lit, Nat.zero_add, Addr.add_lit, hb.cell]
  have := flatten_get h3 hi hj
  simpa using this⟩⟩
theorem blk_rowsl {W : World} {g : Nat} {css : List (List Value)} {rs : List Rw} (hb : Blk W g 58 css.flatten.toArray) (hr : RowsCs W css rs) (hl : rs.length ≤ 1000) : RowSl W (.slice (some ⟨g, 0, none⟩) rs.length rs.length) rs :=
  ⟨_, _, css, rfl, hl, Nat.le_refl _, by unfold maxLen; omega, blk_src hb hr.k3, hr, fun a ha => by cases ha; exact hb.lt⟩
/-- A row with one argument. -/
theorem row_one {W : World} {g : Nat} {nm : ByteArray} {u : Vl} {st : Int} (hb : Blk W g 69 (vcs u).toArray) : RowAt W [.string nm, .slice (some ⟨g, 0, none⟩) 1 1, .int .i64 st] ⟨nm, [u], st⟩ :=
  ⟨_, 1, rfl, by show 1 ≤ 1000; omega, Nat.le_refl _, by unfold maxLen; omega, fun _ => ⟨_, rfl, fun i cs hi => by
    match i, hi with
    | 0, hi => cases hi; exact ⟨rfl, by rw [Nat.zero_mul]; exact hb.at_⟩
    | i + 1, hi => simp at hi⟩, fun a ha => by cases ha; exact hb.lt⟩
theorem rowsCs_one {W : World} {cs : List Value} {r : Rw} (h : RowAt W cs r) : RowsCs W [cs] [r] := ⟨rfl, fun i c hi => by
  match i, hi with
  | 0, hi => cases hi; exact ⟨r, rfl, h⟩
  | i + 1, hi => simp at hi⟩
theorem rowsCs_two {W : World} {cs ds : List Value} {r s : Rw} (h : RowAt W cs r) (h' : RowAt W ds s) : RowsCs W [cs, ds] [r, s] := (rowsCs_one h).snoc h'

def pRw : Rw := ⟨⟨#[112]⟩, [⟨3, 0, ⟨#[97]⟩⟩], 3⟩
def qRw : Rw := ⟨⟨#[113]⟩, [⟨3, 0, ⟨#[97]⟩⟩], 1⟩
def lRw : Rw := ⟨⟨#[112]⟩, [⟨3, 0, ⟨#[97]⟩⟩], 5⟩
theorem can_p : canonR pRw := fun u hu => by simp only [pRw, List.mem_cons, List.not_mem_nil, or_false] at hu; rw [hu]; exact .inl ⟨rfl, rfl⟩
theorem can_q : canonR qRw := fun u hu => by simp only [qRw, List.mem_cons, List.not_mem_nil, or_false] at hu; rw [hu]; exact .inl ⟨rfl, rfl⟩
theorem can_l : canonR lRw := fun u hu => by simp only [lRw, List.mem_cons, List.not_mem_nil, or_false] at hu; rw [hu]; exact .inl ⟨rfl, rfl⟩
theorem merge_p : IsMerge [pRw] [pRw] := merge_self (List.pairwise_singleton _ _)
theorem merge_ql : IsMerge [qRw, lRw] [lRw, qRw] := merge_same (rs := [lRw, qRw]) (by intro r; simp [or_comm]) (merge_self (by decide +kernel))
theorem merge_pq : IsMerge [pRw, qRw] [pRw, qRw] := merge_self (by decide +kernel)
theorem ex13a {a b : List Rw} (ha : IsMerge [pRw] a) (hb : IsMerge [qRw, lRw] b) : b.filter (misB a true) = [lRw, qRw] ∧ a.filter (misB b false) = [] := by
  obtain rfl := merge_uniq (by simp; exact can_p) ha merge_p
  obtain rfl := merge_uniq (by simp; exact ⟨can_q, can_l⟩) hb merge_ql
  exact ⟨by decide +kernel, by decide +kernel⟩
theorem ex13b {a b : List Rw} (ha : IsMerge [pRw, qRw] a) (hb : IsMerge [pRw] b) : b.filter (misB a true) = [] ∧ a.filter (misB b false) = [qRw] := by
  obtain rfl := merge_uniq (by simp; exact ⟨can_p, can_q⟩) ha merge_pq
  obtain rfl := merge_uniq (by simp; exact can_p) hb merge_p
  exact ⟨by decide +kernel, by decide +kernel⟩

set_option maxHeartbeats 4000000 in
set_option maxRecDepth 100000 in
theorem awake13 (w : World) : Calls Try.prog 33 #[] w fun e w' => e = .returned (.bool true) ∧ New w w' := by
  obtain ⟨w1, hw1⟩ : ∃ w1, w1 = ((((((((w.alloc (.cells #[.int .i64 3, .int .i64 0, .string ⟨#[97]⟩, .slice none 0 0] 69)).alloc (.cells #[.int .i64 3, .int .i64 0, .string ⟨#[97]⟩, .slice none 0 0] 69)).alloc (.cells #[.string ⟨#[112]⟩, .slice (some ⟨w.heap.size + 1, 0, none⟩) 1 1, .int .i64 3] 58)).alloc (.cells #[.int .i64 3, .int .i64 0, .string ⟨#[97]⟩, .slice none 0 0] 69)).alloc (.cells #[.string ⟨#[113]⟩, .slice (some ⟨w.heap.size + 1 + 1 + 1, 0, none⟩) 1 1, .int .i64 1] 58)).alloc (.cells #[.string ⟨#[112]⟩, .slice (some ⟨w.heap.size + 1, 0, none⟩) 1 1, .int .i64 5] 58)).alloc (.cells #[.string ⟨#[112]⟩, .slice (some ⟨w.heap.size + 1, 0, none⟩) 1 1, .int .i64 3] 58)).alloc (.cells #[.string ⟨#[113]⟩, .slice (some ⟨w.heap.size + 1 + 1 + 1, 0, none⟩) 1 1, .int .i64 1, .string ⟨#[112]⟩, .slice (some ⟨w.heap.size + 1, 0, none⟩) 1 1, .int .i64 5] 58)) := ⟨_, rfl⟩
  have hN1 : New w w1 := by rw [hw1]; exact (((((((((Chg.refl _ _).alloc _).alloc _).alloc _).alloc _).alloc _).alloc _).alloc _).alloc _)
  have b0 : Blk w1 (w.heap.size) 69 #[.int .i64 3, .int .i64 0, .string ⟨#[97]⟩, .slice none 0 0] := by
    have := Blk.new w 69 #[.int .i64 3, .int .i64 0, .string ⟨#[97]⟩, .slice none 0 0]
    try simp only [World.size_alloc] at this
    rw [hw1]; exact (((((((this.alloc _).alloc _).alloc _).alloc _).alloc _).alloc _).alloc _)
  have b1 : Blk w1 (w.heap.size + 1) 69 #[.int .i64 3, .int .i64 0, .string ⟨#[97]⟩, .slice none 0 0] := by
    have := Blk.new (w.alloc (.cells #[.int .i64 3, .int .i64 0, .string ⟨#[97]⟩, .slice none 0 0] 69)) 69 #[.int .i64 3, .int .i64 0, .string ⟨#[97]⟩, .slice none 0 0]
    try simp only [World.size_alloc] at this
    rw [hw1]; exact ((((((this.alloc _).alloc _).alloc _).alloc _).alloc _).alloc _)
  have b2 : Blk w1 (w.heap.size + 1 + 1) 58 #[.string ⟨#[112]⟩, .slice (some ⟨w.heap.size + 1, 0, none⟩) 1 1, .int .i64 3] := by
    have := Blk.new ((w.alloc (.cells #[.int .i64 3, .int .i64 0, .string ⟨#[97]⟩, .slice none 0 0] 69)).alloc (.cells #[.int .i64 3, .int .i64 0, .string ⟨#[97]⟩, .slice none 0 0] 69)) 58 #[.string ⟨#[112]⟩, .slice (some ⟨w.heap.size + 1, 0, none⟩) 1 1, .int .i64 3]
    try simp only [World.size_alloc] at this
    rw [hw1]; exact (((((this.alloc _).alloc _).alloc _).alloc _).alloc _)
  have b3 : Blk w1 (w.heap.size + 1 + 1 + 1) 69 #[.int .i64 3, .int .i64 0, .string ⟨#[97]⟩, .slice none 0 0] := by
    have := Blk.new (((w.alloc (.cells #[.int .i64 3, .int .i64 0, .string ⟨#[97]⟩, .slice none 0 0] 69)).alloc (.cells #[.int .i64 3, .int .i64 0, .string ⟨#[97]⟩, .slice none 0 0] 69)).alloc (.cells #[.string ⟨#[112]⟩, .slice (some ⟨w.heap.size + 1, 0, none⟩) 1 1, .int .i64 3] 58)) 69 #[.int .i64 3, .int .i64 0, .string ⟨#[97]⟩, .slice none 0 0]
    try simp only [World.size_alloc] at this
    rw [hw1]; exact ((((this.alloc _).alloc _).alloc _).alloc _)
  have b4 : Blk w1 (w.heap.size + 1 + 1 + 1 + 1) 58 #[.string ⟨#[113]⟩, .slice (some ⟨w.heap.size + 1 + 1 + 1, 0, none⟩) 1 1, .int .i64 1] := by
    have := Blk.new ((((w.alloc (.cells #[.int .i64 3, .int .i64 0, .string ⟨#[97]⟩, .slice none 0 0] 69)).alloc (.cells #[.int .i64 3, .int .i64 0, .string ⟨#[97]⟩, .slice none 0 0] 69)).alloc (.cells #[.string ⟨#[112]⟩, .slice (some ⟨w.heap.size + 1, 0, none⟩) 1 1, .int .i64 3] 58)).alloc (.cells #[.int .i64 3, .int .i64 0, .string ⟨#[97]⟩, .slice none 0 0] 69)) 58 #[.string ⟨#[113]⟩, .slice (some ⟨w.heap.size + 1 + 1 + 1, 0, none⟩) 1 1, .int .i64 1]
    try simp only [World.size_alloc] at this
    rw [hw1]; exact (((this.alloc _).alloc _).alloc _)
  have b5 : Blk w1 (w.heap.size + 1 + 1 + 1 + 1 + 1) 58 #[.string ⟨#[112]⟩, .slice (some ⟨w.heap.size + 1, 0, none⟩) 1 1, .int .i64 5] := by
    have := Blk.new (((((w.alloc (.cells #[.int .i64 3, .int .i64 0, .string ⟨#[97]⟩, .slice none 0 0] 69)).alloc (.cells #[.int .i64 3, .int .i64 0, .string ⟨#[97]⟩, .slice none 0 0] 69)).alloc (.cells #[.string ⟨#[112]⟩, .slice (some ⟨w.heap.size + 1, 0, none⟩) 1 1, .int .i64 3] 58)).alloc (.cells #[.int .i64 3, .int .i64 0, .string ⟨#[97]⟩, .slice none 0 0] 69)).alloc (.cells #[.string ⟨#[113]⟩, .slice (some ⟨w.heap.size + 1 + 1 + 1, 0, none⟩) 1 1, .int .i64 1] 58)) 58 #[.string ⟨#[112]⟩, .slice (some ⟨w.heap.size + 1, 0, none⟩) 1 1, .int .i64 5]
    try simp only [World.size_alloc] at this
    rw [hw1]; exact ((this.alloc _).alloc _)
  have b6 : Blk w1 (w.heap.size + 1 + 1 + 1 + 1 + 1 + 1) 58 #[.string ⟨#[112]⟩, .slice (some ⟨w.heap.size + 1, 0, none⟩) 1 1, .int .i64 3] := by
    have := Blk.new ((((((w.alloc (.cells #[.int .i64 3, .int .i64 0, .string ⟨#[97]⟩, .slice none 0 0] 69)).alloc (.cells #[.int .i64 3, .int .i64 0, .string ⟨#[97]⟩, .slice none 0 0] 69)).alloc (.cells #[.string ⟨#[112]⟩, .slice (some ⟨w.heap.size + 1, 0, none⟩) 1 1, .int .i64 3] 58)).alloc (.cells #[.int .i64 3, .int .i64 0, .string ⟨#[97]⟩, .slice none 0 0] 69)).alloc (.cells #[.string ⟨#[113]⟩, .slice (some ⟨w.heap.size + 1 + 1 + 1, 0, none⟩) 1 1, .int .i64 1] 58)).alloc (.cells #[.string ⟨#[112]⟩, .slice (some ⟨w.heap.size + 1, 0, none⟩) 1 1, .int .i64 5] 58)) 58 #[.string ⟨#[112]⟩, .slice (some ⟨w.heap.size + 1, 0, none⟩) 1 1, .int .i64 3]
    try simp only [World.size_alloc] at this
    rw [hw1]; exact (this.alloc _)
  have b7 : Blk w1 (w.heap.size + 1 + 1 + 1 + 1 + 1 + 1 + 1) 58 #[.string ⟨#[113]⟩, .slice (some ⟨w.heap.size + 1 + 1 + 1, 0, none⟩) 1 1, .int .i64 1, .string ⟨#[112]⟩, .slice (some ⟨w.heap.size + 1, 0, none⟩) 1 1, .int .i64 5] := by
    have := Blk.new (((((((w.alloc (.cells #[.int .i64 3, .int .i64 0, .string ⟨#[97]⟩, .slice none 0 0] 69)).alloc (.cells #[.int .i64 3, .int .i64 0, .string ⟨#[97]⟩, .slice none 0 0] 69)).alloc (.cells #[.string ⟨#[112]⟩, .slice (some ⟨w.heap.size + 1, 0, none⟩) 1 1, .int .i64 3] 58)).alloc (.cells #[.int .i64 3, .int .i64 0, .string ⟨#[97]⟩, .slice none 0 0] 69)).alloc (.cells #[.string ⟨#[113]⟩, .slice (some ⟨w.heap.size + 1 + 1 + 1, 0, none⟩) 1 1, .int .i64 1] 58)).alloc (.cells #[.string ⟨#[112]⟩, .slice (some ⟨w.heap.size + 1, 0, none⟩) 1 1, .int .i64 5] 58)).alloc (.cells #[.string ⟨#[112]⟩, .slice (some ⟨w.heap.size + 1, 0, none⟩) 1 1, .int .i64 3] 58)) 58 #[.string ⟨#[113]⟩, .slice (some ⟨w.heap.size + 1 + 1 + 1, 0, none⟩) 1 1, .int .i64 1, .string ⟨#[112]⟩, .slice (some ⟨w.heap.size + 1, 0, none⟩) 1 1, .int .i64 5]
    try simp only [World.size_alloc] at this
    rw [hw1]; exact this
  have hp : RowAt w1 [.string ⟨#[112]⟩, .slice (some ⟨w.heap.size + 1, 0, none⟩) 1 1, .int .i64 3] pRw := row_one b1
  have hq : RowAt w1 [.string ⟨#[113]⟩, .slice (some ⟨w.heap.size + 1 + 1 + 1, 0, none⟩) 1 1, .int .i64 1] qRw := row_one b3
  have hl : RowAt w1 [.string ⟨#[112]⟩, .slice (some ⟨w.heap.size + 1, 0, none⟩) 1 1, .int .i64 5] lRw := row_one b1
  have hd := diff_rows w1 _ _ [pRw] [qRw, lRw] (blk_rowsl (css := [[.string ⟨#[112]⟩, .slice (some ⟨w.heap.size + 1, 0, none⟩) 1 1, .int .i64 3]]) b6 (rowsCs_one hp) (by decide)) (blk_rowsl (css := [[.string ⟨#[113]⟩, .slice (some ⟨w.heap.size + 1 + 1 + 1, 0, none⟩) 1 1, .int .i64 1], [.string ⟨#[112]⟩, .slice (some ⟨w.heap.size + 1, 0, none⟩) 1 1, .int .i64 5]]) b7 (rowsCs_two hq hl) (by decide))
  have Hd := Lib.hid hd
  have HN1 := Lib.hid hN1
  have HP := Lib.hid hp
  have HQ := Lib.hid hq
  have HL := Lib.hid hl
  have B2 := Lib.hid b2
  have B4 := Lib.hid b4
  have B5 := Lib.hid b5
  have HW1 := Lib.hid hw1
  clear hd hN1 hp hq hl b0 b1 b2 b3 b4 b5 b6 b7 hw1
  go_enter Try.func33, Try.ntmps33
  go_wp2_with fail
  rw [← HW1.out]
  refine Hd.out.mono ?_
  rintro e w2 ⟨a, b, v1, v2, cs1, cs2, ha, hb, rfl, ho1, ho2, hr1, hr2, hN2⟩
  obtain ⟨ea, eb⟩ := ex13a ha hb
  rw [ea] at hr1
  rw [eb] at hr2
  obtain ⟨A1, c1, rfl, _, _, hs1, hl1⟩ := own_rows ho1 hr1
  obtain ⟨A2, c2, rfl, _, _, hs2, hl2⟩ := own_rows ho2 hr2
  simp only [List.length_cons, List.length_nil] at *
  have HS1 := Lib.hid hs1
  have HR1 := Lib.hid hr1
  have HN2 := Lib.hid hN2
  have d20 : w2.cell? ⟨w.heap.size + 1 + 1, 0, none⟩ = some (.string ⟨#[112]⟩) := (B2.out.chg hN2 id).cell 0
  have d21 : w2.cell? ⟨w.heap.size + 1 + 1, 1, none⟩ = some (.slice (some ⟨w.heap.size + 1, 0, none⟩) 1 1) := (B2.out.chg hN2 id).cell 1
  have d22 : w2.cell? ⟨w.heap.size + 1 + 1, 2, none⟩ = some (.int .i64 3) := (B2.out.chg hN2 id).cell 2
  have d23 : w.heap.size + 1 + 1 < w2.heap.size := (B2.out.chg hN2 id).lt
  have d40 : w2.cell? ⟨w.heap.size + 1 + 1 + 1 + 1, 0, none⟩ = some (.string ⟨#[113]⟩) := (B4.out.chg hN2 id).cell 0
  have d41 : w2.cell? ⟨w.heap.size + 1 + 1 + 1 + 1, 1, none⟩ = some (.slice (some ⟨w.heap.size + 1 + 1 + 1, 0, none⟩) 1 1) := (B4.out.chg hN2 id).cell 1
  have d42 : w2.cell? ⟨w.heap.size + 1 + 1 + 1 + 1, 2, none⟩ = some (.int .i64 1) := (B4.out.chg hN2 id).cell 2
  have d43 : w.heap.size + 1 + 1 + 1 + 1 < w2.heap.size := (B4.out.chg hN2 id).lt
  have d50 : w2.cell? ⟨w.heap.size + 1 + 1 + 1 + 1 + 1, 0, none⟩ = some (.string ⟨#[112]⟩) := (B5.out.chg hN2 id).cell 0
  have d51 : w2.cell? ⟨w.heap.size + 1 + 1 + 1 + 1 + 1, 1, none⟩ = some (.slice (some ⟨w.heap.size + 1, 0, none⟩) 1 1) := (B5.out.chg hN2 id).cell 1
  have d52 : w2.cell? ⟨w.heap.size + 1 + 1 + 1 + 1 + 1, 2, none⟩ = some (.int .i64 5) := (B5.out.chg hN2 id).cell 2
  have d53 : w.heap.size + 1 + 1 + 1 + 1 + 1 < w2.heap.size := (B5.out.chg hN2 id).lt
  clear ha hb ho1 ho2 hr1 hr2 hN2 ea eb hs1 hl1 hs2 hl2 HW1 Hd
  obtain ⟨w3, hw3⟩ : ∃ w3, w3 = (w2.alloc (.cells #[.string ⟨#[112]⟩, .slice (some ⟨w.heap.size + 1, 0, none⟩) 1 1, .int .i64 3, .string ⟨#[113]⟩, .slice (some ⟨w.heap.size + 1 + 1 + 1, 0, none⟩) 1 1, .int .i64 1] 58)).alloc (.cells #[.string ⟨#[112]⟩, .slice (some ⟨w.heap.size + 1, 0, none⟩) 1 1, .int .i64 3] 58) := ⟨_, rfl⟩
  have hN3 : New w2 w3 := by rw [hw3]; exact ((Chg.refl _ _).alloc _).alloc _
  have b0 : Blk w3 w2.heap.size 58 #[.string ⟨#[112]⟩, .slice (some ⟨w.heap.size + 1, 0, none⟩) 1 1, .int .i64 3, .string ⟨#[113]⟩, .slice (some ⟨w.heap.size + 1 + 1 + 1, 0, none⟩) 1 1, .int .i64 1] := by rw [hw3]; exact (Blk.new w2 _ _).alloc _
  have b1 : Blk w3 (w2.heap.size + 1) 58 #[.string ⟨#[112]⟩, .slice (some ⟨w.heap.size + 1, 0, none⟩) 1 1, .int .i64 3] := by
    have := Blk.new (w2.alloc (.cells #[.string ⟨#[112]⟩, .slice (some ⟨w.heap.size + 1, 0, none⟩) 1 1, .int .i64 3, .string ⟨#[113]⟩, .slice (some ⟨w.heap.size + 1 + 1 + 1, 0, none⟩) 1 1, .int .i64 1] 58)) 58 #[.string ⟨#[112]⟩, .slice (some ⟨w.heap.size + 1, 0, none⟩) 1 1, .int .i64 3]
    simp only [World.size_alloc] at this
    rw [hw3]; exact this
  have hN23 := HN2.out.trans hN3 (fun _ _ x => x)
  have hd := diff_rows w3 _ _ [pRw, qRw] [pRw] (blk_rowsl (css := [[.string ⟨#[112]⟩, .slice (some ⟨w.heap.size + 1, 0, none⟩) 1 1, .int .i64 3], [.string ⟨#[113]⟩, .slice (some ⟨w.heap.size + 1 + 1 + 1, 0, none⟩) 1 1, .int .i64 1]]) b0 (rowsCs_two (HP.out.chg hN23) (HQ.out.chg hN23)) (by decide)) (blk_rowsl (css := [[.string ⟨#[112]⟩, .slice (some ⟨w.heap.size + 1, 0, none⟩) 1 1, .int .i64 3]]) b1 (rowsCs_one (HP.out.chg hN23)) (by decide))
  have Hd := Lib.hid hd
  have HN3 := Lib.hid hN23
  have HN23 := Lib.hid hN3
  have HW3 := Lib.hid hw3
  clear hd hN3 hN23 b0 b1 hw3
  go_wp2_with fail
  rw [← HW3.out]
  refine Hd.out.mono ?_
  rintro e w4 ⟨a, b, v3, v4, cs3, cs4, ha, hb, rfl, ho1, ho2, hr1, hr2, hN4⟩
  obtain ⟨ea, eb⟩ := ex13b ha hb
  rw [ea] at hr1
  rw [eb] at hr2
  obtain ⟨A3, c3, rfl, _, _, hs1, hl1⟩ := own_rows ho1 hr1
  obtain ⟨A4, c4, rfl, _, _, hs2, hl2⟩ := own_rows ho2 hr2
  simp only [List.length_cons, List.length_nil] at *
  have HS4 := Lib.hid hs2
  have HR4 := Lib.hid hr2
  have HN4 := Lib.hid (HN3.out.trans hN4 (fun _ _ x => x))
  have HN24 := Lib.hid (HN23.out.trans hN4 (fun _ _ x => x))
  clear ha hb ho1 ho2 hr1 hr2 hN4 ea eb hs1 hl1 hs2 hl2 HW3 Hd d20 d21 d22 d23 d40 d41 d42 d43 d50 d51 d52 d53
  have d20 : w4.cell? ⟨w.heap.size + 1 + 1, 0, none⟩ = some (.string ⟨#[112]⟩) := (B2.out.chg HN4.out id).cell 0
  have d21 : w4.cell? ⟨w.heap.size + 1 + 1, 1, none⟩ = some (.slice (some ⟨w.heap.size + 1, 0, none⟩) 1 1) := (B2.out.chg HN4.out id).cell 1
  have d22 : w4.cell? ⟨w.heap.size + 1 + 1, 2, none⟩ = some (.int .i64 3) := (B2.out.chg HN4.out id).cell 2
  have d23 : w.heap.size + 1 + 1 < w4.heap.size := (B2.out.chg HN4.out id).lt
  have d40 : w4.cell? ⟨w.heap.size + 1 + 1 + 1 + 1, 0, none⟩ = some (.string ⟨#[113]⟩) := (B4.out.chg HN4.out id).cell 0
  have d41 : w4.cell? ⟨w.heap.size + 1 + 1 + 1 + 1, 1, none⟩ = some (.slice (some ⟨w.heap.size + 1 + 1 + 1, 0, none⟩) 1 1) := (B4.out.chg HN4.out id).cell 1
  have d42 : w4.cell? ⟨w.heap.size + 1 + 1 + 1 + 1, 2, none⟩ = some (.int .i64 1) := (B4.out.chg HN4.out id).cell 2
  have d43 : w.heap.size + 1 + 1 + 1 + 1 < w4.heap.size := (B4.out.chg HN4.out id).lt
  have d50 : w4.cell? ⟨w.heap.size + 1 + 1 + 1 + 1 + 1, 0, none⟩ = some (.string ⟨#[112]⟩) := (B5.out.chg HN4.out id).cell 0
  have d51 : w4.cell? ⟨w.heap.size + 1 + 1 + 1 + 1 + 1, 1, none⟩ = some (.slice (some ⟨w.heap.size + 1, 0, none⟩) 1 1) := (B5.out.chg HN4.out id).cell 1
  have d52 : w4.cell? ⟨w.heap.size + 1 + 1 + 1 + 1 + 1, 2, none⟩ = some (.int .i64 5) := (B5.out.chg HN4.out id).cell 2
  have d53 : w.heap.size + 1 + 1 + 1 + 1 + 1 < w4.heap.size := (B5.out.chg HN4.out id).lt
  obtain ⟨w5, hw5⟩ : ∃ w5, w5 = w4.alloc (.cells #[.string ⟨#[112]⟩, .slice (some ⟨w.heap.size + 1, 0, none⟩) 1 1, .int .i64 5, .string ⟨#[113]⟩, .slice (some ⟨w.heap.size + 1 + 1 + 1, 0, none⟩) 1 1, .int .i64 1] 58) := ⟨_, rfl⟩
  have hN5 : New w4 w5 := by rw [hw5]; exact (Chg.refl _ _).alloc _
  have b0 : Blk w5 w4.heap.size 58 #[.string ⟨#[112]⟩, .slice (some ⟨w.heap.size + 1, 0, none⟩) 1 1, .int .i64 5, .string ⟨#[113]⟩, .slice (some ⟨w.heap.size + 1 + 1 + 1, 0, none⟩) 1 1, .int .i64 1] := by rw [hw5]; exact Blk.new w4 _ _
  have hN25 := HN24.out.trans hN5 (fun _ _ x => x)
  have hN15 := HN4.out.trans hN5 (fun _ _ x => x)
  have hsa := same_rows w5 A1 2 c1 (some ⟨w4.heap.size, 0, none⟩) 2 cs1 [[.string ⟨#[112]⟩, .slice (some ⟨w.heap.size + 1, 0, none⟩) 1 1, .int .i64 5], [.string ⟨#[113]⟩, .slice (some ⟨w.heap.size + 1 + 1 + 1, 0, none⟩) 1 1, .int .i64 1]] [lRw, qRw] rfl (by omega) (HS1.out.chg hN25 (fun _ _ x => x)) (blk_src b0 (by simp)) (HR1.out.chg hN25) (rowsCs_two (HL.out.chg hN15) (HQ.out.chg hN15))
  have Hsa := Lib.hid hsa
  have HN5 := Lib.hid hN5
  have HN15 := Lib.hid hN15
  have HW5 := Lib.hid hw5
  clear hsa hN5 hN25 hN15 b0 hw5
  go_wp2_with fail
  rw [← HW5.out]
  refine Hsa.out.mono ?_
  rintro e w6 ⟨rfl, hN6⟩
  have HN6 := Lib.hid (HN15.out.trans hN6 (fun _ _ x => x))
  have HN46 := Lib.hid (HN5.out.trans hN6 (fun _ _ x => x))
  clear hN6 HW5 Hsa d20 d21 d22 d23 d40 d41 d42 d43 d50 d51 d52 d53
  have d20 : w6.cell? ⟨w.heap.size + 1 + 1, 0, none⟩ = some (.string ⟨#[112]⟩) := (B2.out.chg HN6.out id).cell 0
  have d21 : w6.cell? ⟨w.heap.size + 1 + 1, 1, none⟩ = some (.slice (some ⟨w.heap.size + 1, 0, none⟩) 1 1) := (B2.out.chg HN6.out id).cell 1
  have d22 : w6.cell? ⟨w.heap.size + 1 + 1, 2, none⟩ = some (.int .i64 3) := (B2.out.chg HN6.out id).cell 2
  have d23 : w.heap.size + 1 + 1 < w6.heap.size := (B2.out.chg HN6.out id).lt
  have d40 : w6.cell? ⟨w.heap.size + 1 + 1 + 1 + 1, 0, none⟩ = some (.string ⟨#[113]⟩) := (B4.out.chg HN6.out id).cell 0
  have d41 : w6.cell? ⟨w.heap.size + 1 + 1 + 1 + 1, 1, none⟩ = some (.slice (some ⟨w.heap.size + 1 + 1 + 1, 0, none⟩) 1 1) := (B4.out.chg HN6.out id).cell 1
  have d42 : w6.cell? ⟨w.heap.size + 1 + 1 + 1 + 1, 2, none⟩ = some (.int .i64 1) := (B4.out.chg HN6.out id).cell 2
  have d43 : w.heap.size + 1 + 1 + 1 + 1 < w6.heap.size := (B4.out.chg HN6.out id).lt
  have d50 : w6.cell? ⟨w.heap.size + 1 + 1 + 1 + 1 + 1, 0, none⟩ = some (.string ⟨#[112]⟩) := (B5.out.chg HN6.out id).cell 0
  have d51 : w6.cell? ⟨w.heap.size + 1 + 1 + 1 + 1 + 1, 1, none⟩ = some (.slice (some ⟨w.heap.size + 1, 0, none⟩) 1 1) := (B5.out.chg HN6.out id).cell 1
  have d52 : w6.cell? ⟨w.heap.size + 1 + 1 + 1 + 1 + 1, 2, none⟩ = some (.int .i64 5) := (B5.out.chg HN6.out id).cell 2
  have d53 : w.heap.size + 1 + 1 + 1 + 1 + 1 < w6.heap.size := (B5.out.chg HN6.out id).lt
  obtain ⟨w7, hw7⟩ : ∃ w7, w7 = w6.alloc (.cells #[.string ⟨#[113]⟩, .slice (some ⟨w.heap.size + 1 + 1 + 1, 0, none⟩) 1 1, .int .i64 1] 58) := ⟨_, rfl⟩
  have hN7 : New w6 w7 := by rw [hw7]; exact (Chg.refl _ _).alloc _
  have b0 : Blk w7 w6.heap.size 58 #[.string ⟨#[113]⟩, .slice (some ⟨w.heap.size + 1 + 1 + 1, 0, none⟩) 1 1, .int .i64 1] := by rw [hw7]; exact Blk.new w6 _ _
  have hN47 := HN46.out.trans hN7 (fun _ _ x => x)
  have hN17 := HN6.out.trans hN7 (fun _ _ x => x)
  have hsa := same_rows w7 A4 1 c4 (some ⟨w6.heap.size, 0, none⟩) 1 cs4 [[.string ⟨#[113]⟩, .slice (some ⟨w.heap.size + 1 + 1 + 1, 0, none⟩) 1 1, .int .i64 1]] [qRw] rfl (by omega) (HS4.out.chg hN47 (fun _ _ x => x)) (blk_src b0 (by simp)) (HR4.out.chg hN47) (rowsCs_one (HQ.out.chg hN17))
  have Hsa := Lib.hid hsa
  have HN17 := Lib.hid hN17
  have HW7 := Lib.hid hw7
  clear hsa hN7 hN47 hN17 b0 hw7
  go_wp2_with fail
  rw [← HW7.out]
  refine Hsa.out.mono ?_
  rintro e w8 ⟨rfl, hN8⟩
  have HN8 := Lib.hid ((HN1.out.trans HN17.out (fun _ _ x => x)).trans hN8 (fun _ _ x => x))
  clear hN8
  go_wp2_with fail
  go_ret
  exact ⟨rfl, HN8.out⟩
end Go.Proofs.Ytenkobgeflckdaa
