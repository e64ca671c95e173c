/- group.alike itself. -/
import Derived.Test.YtfocjfnkcabbgaaGreatEqf
import Derived.Test.YtfocjfnkcabbgaaGreatSameR
set_option linter.unusedVariables false
set_option linter.unusedSimpArgs false
namespace Go.Proofs.YtfocjfnkcabbgaaGreat
open Go.RowKit Go.Shelf

/-- Are rows the same but for their last arguments? -/
def alikeB (r s : Rw) : Bool := decide (r.name = s.name) && (decide (r.args.length = s.args.length) && decide (cmpL cmpV r.args.dropLast s.args.dropLast = 0))

set_option maxHeartbeats 4000000 in
set_option maxRecDepth 100000 in
theorem alike_row (w : World) (xc yc : List Value) (r s : Rw) (hx : RowAt w xc r) (hy : RowAt w yc s) (h1 : 1 ≤ r.args.length) (h2 : 1 ≤ s.args.length) :
    Calls Tryz.prog 29 #[.agg xc.toArray, .agg yc.toArray] w fun e w' => e = .returned (.bool (alikeB r s)) ∧ New w w' := by
  obtain ⟨A, c, rfl, g2, g3, g4, g5, g6⟩ := hx
  obtain ⟨B, d, rfl, f2, f3, f4, f5, f6⟩ := hy
  obtain ⟨la, hla⟩ : ∃ l, r.args.length = l := ⟨_, rfl⟩
  obtain ⟨lb, hlb⟩ : ∃ l, s.args.length = l := ⟨_, rfl⟩
  obtain ⟨l0, hl0⟩ : ∃ l, la = l + 1 := ⟨la - 1, by omega⟩
  obtain ⟨m0, hm0⟩ : ∃ l, lb = l + 1 := ⟨lb - 1, by omega⟩
  obtain ⟨us, hus⟩ : ∃ us, r.args.dropLast = us := ⟨_, rfl⟩
  obtain ⟨vs, hvs⟩ : ∃ vs, s.args.dropLast = vs := ⟨_, rfl⟩
  have hul : us.length = l0 := by rw [← hus, List.length_dropLast, hla, hl0]; rfl
  have hvl : vs.length = m0 := by rw [← hvs, List.length_dropLast, hlb, hm0]; rfl
  have hsu : SrcAt w A 4 (us.map vcs) := by
    have := g5.take l0
    rw [← List.map_take, show r.args.take l0 = us by rw [← hus, List.dropLast_eq_take, hla, hl0]; rfl] at this
    exact this
  have hsv : SrcAt w B 4 (vs.map vcs) := by
    have := f5.take m0
    rw [← List.map_take, show s.args.take m0 = vs by rw [← hvs, List.dropLast_eq_take, hlb, hm0]; rfl] at this
    exact this
  rw [show alikeB r s = (decide (r.name = s.name) && (decide (r.args.length = s.args.length) && decide (cmpL cmpV r.args.dropLast s.args.dropLast = 0))) from rfl]
  rw [hla] at h1 g2 g3 ⊢
  rw [hlb] at h2 f2 f3 ⊢
  rw [hus, hvs]
  obtain ⟨bc, hbc⟩ : ∃ b, decide (cmpL cmpV us vs = 0) = b := ⟨_, rfl⟩
  rw [hbc]
  have Hbc := Lib.hid hbc
  obtain ⟨w1, hw1⟩ : ∃ w1, w1 = (w.alloc (.cells #[.string r.name, .slice A la c, .int .i64 r.stamp] 44)).alloc (.cells #[.string s.name, .slice B lb d, .int .i64 s.stamp] 44) := ⟨_, rfl⟩
  have hN1 : New w w1 := by rw [hw1]; exact ((Chg.refl _ _).alloc _).alloc _
  have b0 : Blk w1 w.heap.size 44 #[.string r.name, .slice A la c, .int .i64 r.stamp] := by rw [hw1]; exact (Blk.new w _ _).alloc _
  have b1 : Blk w1 (w.heap.size + 1) 44 #[.string s.name, .slice B lb d, .int .i64 s.stamp] := by
    have := Blk.new (w.alloc (.cells #[.string r.name, .slice A la c, .int .i64 r.stamp] 44)) 44 #[.string s.name, .slice B lb d, .int .i64 s.stamp]
    simp only [World.size_alloc] at this
    rw [hw1]; exact this
  have hnd : New w1 w1.drew := (Chg.refl _ _).drew
  have hND := hN1.trans hnd (fun _ _ x => x)
  have B0 := Lib.hid (b0.chg hnd id)
  have B1 := Lib.hid (b1.chg hnd id)
  have HND := Lib.hid hND
  have HSu := Lib.hid (hsu.chg hND (fun _ _ x => x))
  have HSv := Lib.hid (hsv.chg hND (fun _ _ x => x))
  have HW1 := Lib.hid hw1
  have Hul := Lib.hid hul
  have Hvl := Lib.hid hvl
  clear b0 b1 hnd hN1 hND hw1 hsu hsv hus hvs hul hvl g5 f5 g6 f6 hla hlb hbc
  have eg1 := enters_of Tryz.func54 (by kernel_rfl) rfl
  unfold Enters at eg1
  obtain ⟨bn, hbn⟩ : ∃ b, decide (r.name = s.name) = b := ⟨_, rfl⟩
  have hbe : (r.name.toList == s.name.toList) = bn := by
    rw [← hbn]
    by_cases h : r.name = s.name
    · simp [h]
    · rw [decide_eq_false h, beq_eq_false_iff_ne]
      exact fun e => h (tl_eq'.1 e)
  rw [hbn]
  obtain ⟨bl, hbl⟩ : ∃ b, decide (la = lb) = b := ⟨_, rfl⟩
  have hbl2 : ((la : Int) == (lb : Int)) = bl := by
    rw [← hbl]
    by_cases h : la = lb
    · simp [h]
    · rw [decide_eq_false (by omega), beq_eq_false_iff_ne]; omega
  have hbl3 : (la == lb) = bl := by
    rw [← hbl]
    by_cases h : la = lb
    · simp [h]
    · rw [decide_eq_false (by omega), beq_eq_false_iff_ne]; omega
  rw [hbl]
  have Hbl := Lib.hid hbl
  have Hl0 := Lib.hid hl0
  have Hm0 := Lib.hid hm0
  clear hbn hbl hl0 hm0
  go_enter Tryz.func29, Tryz.ntmps29
  go_upto_region 1 with fail
  rw [← HW1.out]
  refine wp_region_at (by kernel_rfl) ?_
  clear HW1
  generalize w1.drew = wd at B0 B1 HND HSu HSv ⊢
  cases bn with
  | false =>
    refine AtN.segQ2 0 6 (fun
      | 0 => .pointer (some ⟨w.heap.size, 0, none⟩)
      | 1 => .string r.name
      | 2 => .pointer (some ⟨w.heap.size + 1, 0, none⟩)
      | 3 => .string s.name
      | 4 => .bool false
      | _ => .bool false)
      [(5, .pointer (some ⟨w.heap.size, 0, none⟩)), (6, .string r.name), (7, .pointer (some ⟨w.heap.size + 1, 0, none⟩)), (8, .string s.name), (9, .bool false), (10, .bool false)] (by kernel_rfl) (by kernel_rfl) (by kernel_rfl) (by kernel_rfl) rfl (fun i hn hi o ho A0 hin hk => ?_) ?_
    · rcases (show i = 0 ∨ i = 1 ∨ i = 2 ∨ i = 3 ∨ i = 4 ∨ i = 5 by omega) with rfl | rfl | rfl | rfl | rfl | rfl
      · cases ho
        have h2 : A0.tmps[2]?.getD undef = .pointer (some ⟨w.heap.size, 0, none⟩) := hk 2 (by kernel_rfl)
        exact by simp [go_sem, h2]
      · cases ho
        have h5 : A0.tmps[5]?.getD undef = .pointer (some ⟨w.heap.size, 0, none⟩) := hin 0 5 (by kernel_rfl)
        have hcx : wd.cell? ⟨w.heap.size, 0, none⟩ = some (.string r.name) := B0.out.cell 0
        exact by simp [go_sem, h5, hcx]
      · cases ho
        have h3 : A0.tmps[3]?.getD undef = .pointer (some ⟨w.heap.size + 1, 0, none⟩) := hk 3 (by kernel_rfl)
        exact by simp [go_sem, h3]
      · cases ho
        have h7 : A0.tmps[7]?.getD undef = .pointer (some ⟨w.heap.size + 1, 0, none⟩) := hin 2 7 (by kernel_rfl)
        have hcx : wd.cell? ⟨w.heap.size + 1, 0, none⟩ = some (.string s.name) := B1.out.cell 0
        exact by simp [go_sem, h7, hcx]
      · cases ho
        have h6 : A0.tmps[6]?.getD undef = .string r.name := hin 1 6 (by kernel_rfl)
        have h8 : A0.tmps[8]?.getD undef = .string s.name := hin 3 8 (by kernel_rfl)
        exact by simp [go_sem, h6, h8, hbe]
      · cases ho
        exact exec_move 9 _ rfl (hin 4 9 (by kernel_rfl))
    simp only [putsL, Act.put, List.setIfInBounds_toArray, List.set_cons_succ, List.set_cons_zero]
    refine AtN.segS2 6 13 [(11, undef), (12, undef), (13, undef), (14, undef), (15, undef), (16, undef), (17, undef)] (by kernel_rfl) (by kernel_rfl) (by kernel_rfl) (by kernel_rfl) rfl ?_
    simp only [putsL, Act.put, List.setIfInBounds_toArray, List.set_cons_succ, List.set_cons_zero]
    refine AtN.segQ2 13 15 (fun
      | 13 => .bool false
      | _ => .bool false)
      [(18, .bool false), (19, .bool false)] (by kernel_rfl) (by kernel_rfl) (by kernel_rfl) (by kernel_rfl) rfl (fun i hn hi o ho A0 hin hk => ?_) ?_
    · rcases (show i = 13 ∨ i = 14 by omega) with rfl | rfl
      · cases ho
        have h10 : A0.tmps[10]?.getD undef = .bool false := hk 10 (by kernel_rfl)
        have h17 : A0.tmps[17]?.getD undef = undef := hk 17 (by kernel_rfl)
        exact by simp [go_sem, h10, h17]
      · cases ho
        exact exec_move 18 _ rfl (hin 13 18 (by kernel_rfl))
    simp only [putsL, Act.put, List.setIfInBounds_toArray, List.set_cons_succ, List.set_cons_zero]
    refine AtN.segS2 15 30 [(20, undef), (21, undef), (22, undef), (23, undef), (24, undef), (25, undef), (26, undef), (27, undef), (28, undef), (29, undef), (30, undef), (31, undef), (32, undef), (33, undef), (34, undef)] (by kernel_rfl) (by kernel_rfl) (by kernel_rfl) (by kernel_rfl) rfl ?_
    simp only [putsL, Act.put, List.setIfInBounds_toArray, List.set_cons_succ, List.set_cons_zero]
    refine AtN.segQ2 30 32 (fun
      | 30 => .bool false
      | _ => .bool false)
      [(35, .bool false), (4, .bool false)] (by kernel_rfl) (by kernel_rfl) (by kernel_rfl) (by kernel_rfl) rfl (fun i hn hi o ho A0 hin hk => ?_) ?_
    · rcases (show i = 30 ∨ i = 31 by omega) with rfl | rfl
      · cases ho
        have h19 : A0.tmps[19]?.getD undef = .bool false := hk 19 (by kernel_rfl)
        have h34 : A0.tmps[34]?.getD undef = undef := hk 34 (by kernel_rfl)
        exact by simp [go_sem, h19, h34]
      · cases ho
        have h35 : A0.tmps[35]?.getD undef = .bool false := hin 30 35 (by kernel_rfl)
        exact by simp [go_sem, h35]
    simp only [putsL, Act.put, List.setIfInBounds_toArray, List.set_cons_succ, List.set_cons_zero]
    refine AtN.done rfl ?_
    go_wp2_with fail
    go_ret
    exact ⟨rfl, HND.out⟩
  | true =>
    refine AtN.segQ2 0 6 (fun
      | 0 => .pointer (some ⟨w.heap.size, 0, none⟩)
      | 1 => .string r.name
      | 2 => .pointer (some ⟨w.heap.size + 1, 0, none⟩)
      | 3 => .string s.name
      | 4 => .bool true
      | _ => .bool true)
      [(5, .pointer (some ⟨w.heap.size, 0, none⟩)), (6, .string r.name), (7, .pointer (some ⟨w.heap.size + 1, 0, none⟩)), (8, .string s.name), (9, .bool true), (10, .bool true)] (by kernel_rfl) (by kernel_rfl) (by kernel_rfl) (by kernel_rfl) rfl (fun i hn hi o ho A0 hin hk => ?_) ?_
    · rcases (show i = 0 ∨ i = 1 ∨ i = 2 ∨ i = 3 ∨ i = 4 ∨ i = 5 by omega) with rfl | rfl | rfl | rfl | rfl | rfl
      · cases ho
        have h2 : A0.tmps[2]?.getD undef = .pointer (some ⟨w.heap.size, 0, none⟩) := hk 2 (by kernel_rfl)
        exact by simp [go_sem, h2]
      · cases ho
        have h5 : A0.tmps[5]?.getD undef = .pointer (some ⟨w.heap.size, 0, none⟩) := hin 0 5 (by kernel_rfl)
        have hcx : wd.cell? ⟨w.heap.size, 0, none⟩ = some (.string r.name) := B0.out.cell 0
        exact by simp [go_sem, h5, hcx]
      · cases ho
        have h3 : A0.tmps[3]?.getD undef = .pointer (some ⟨w.heap.size + 1, 0, none⟩) := hk 3 (by kernel_rfl)
        exact by simp [go_sem, h3]
      · cases ho
        have h7 : A0.tmps[7]?.getD undef = .pointer (some ⟨w.heap.size + 1, 0, none⟩) := hin 2 7 (by kernel_rfl)
        have hcx : wd.cell? ⟨w.heap.size + 1, 0, none⟩ = some (.string s.name) := B1.out.cell 0
        exact by simp [go_sem, h7, hcx]
      · cases ho
        have h6 : A0.tmps[6]?.getD undef = .string r.name := hin 1 6 (by kernel_rfl)
        have h8 : A0.tmps[8]?.getD undef = .string s.name := hin 3 8 (by kernel_rfl)
        exact by simp [go_sem, h6, h8, hbe]
      · cases ho
        exact exec_move 9 _ rfl (hin 4 9 (by kernel_rfl))
    simp only [putsL, Act.put, List.setIfInBounds_toArray, List.set_cons_succ, List.set_cons_zero]
    cases bl with
    | false =>
      refine AtN.segQ2 6 13 (fun
        | 6 => .pointer (some ⟨w.heap.size, 1, none⟩)
        | 7 => .slice A la c
        | 8 => .int .i64 la
        | 9 => .pointer (some ⟨w.heap.size + 1, 1, none⟩)
        | 10 => .slice B lb d
        | 11 => .int .i64 lb
        | _ => .bool false)
        [(11, .pointer (some ⟨w.heap.size, 1, none⟩)), (12, .slice A la c), (13, .int .i64 la), (14, .pointer (some ⟨w.heap.size + 1, 1, none⟩)), (15, .slice B lb d), (16, .int .i64 lb), (17, .bool false)] (by kernel_rfl) (by kernel_rfl) (by kernel_rfl) (by kernel_rfl) rfl (fun i hn hi o ho A0 hin hk => ?_) ?_
      · rcases (show i = 6 ∨ i = 7 ∨ i = 8 ∨ i = 9 ∨ i = 10 ∨ i = 11 ∨ i = 12 by omega) with rfl | rfl | rfl | rfl | rfl | rfl | rfl
        · cases ho
          have h2 : A0.tmps[2]?.getD undef = .pointer (some ⟨w.heap.size, 0, none⟩) := hk 2 (by kernel_rfl)
          exact by simp [go_sem, h2]
        · cases ho
          have h11 : A0.tmps[11]?.getD undef = .pointer (some ⟨w.heap.size, 1, none⟩) := hin 6 11 (by kernel_rfl)
          have hcx : wd.cell? ⟨w.heap.size, 1, none⟩ = some (.slice A la c) := B0.out.cell 1
          exact by simp [go_sem, h11, hcx]
        · cases ho
          have h12 : A0.tmps[12]?.getD undef = .slice A la c := hin 7 12 (by kernel_rfl)
          exact by simp [go_sem, h12]
        · cases ho
          have h3 : A0.tmps[3]?.getD undef = .pointer (some ⟨w.heap.size + 1, 0, none⟩) := hk 3 (by kernel_rfl)
          exact by simp [go_sem, h3]
        · cases ho
          have h14 : A0.tmps[14]?.getD undef = .pointer (some ⟨w.heap.size + 1, 1, none⟩) := hin 9 14 (by kernel_rfl)
          have hcx : wd.cell? ⟨w.heap.size + 1, 1, none⟩ = some (.slice B lb d) := B1.out.cell 1
          exact by simp [go_sem, h14, hcx]
        · cases ho
          have h15 : A0.tmps[15]?.getD undef = .slice B lb d := hin 10 15 (by kernel_rfl)
          exact by simp [go_sem, h15]
        · cases ho
          have h13 : A0.tmps[13]?.getD undef = .int .i64 la := hin 8 13 (by kernel_rfl)
          have h16 : A0.tmps[16]?.getD undef = .int .i64 lb := hin 11 16 (by kernel_rfl)
          exact by simp [go_sem, h13, h16, hbl2, hbl3]
      simp only [putsL, Act.put, List.setIfInBounds_toArray, List.set_cons_succ, List.set_cons_zero]
      refine AtN.segQ2 13 15 (fun
        | 13 => .bool false
        | _ => .bool false)
        [(18, .bool false), (19, .bool false)] (by kernel_rfl) (by kernel_rfl) (by kernel_rfl) (by kernel_rfl) rfl (fun i hn hi o ho A0 hin hk => ?_) ?_
      · rcases (show i = 13 ∨ i = 14 by omega) with rfl | rfl
        · cases ho
          have h10 : A0.tmps[10]?.getD undef = .bool true := hk 10 (by kernel_rfl)
          have h17 : A0.tmps[17]?.getD undef = .bool false := hk 17 (by kernel_rfl)
          exact by simp [go_sem, h10, h17]
        · cases ho
          exact exec_move 18 _ rfl (hin 13 18 (by kernel_rfl))
      simp only [putsL, Act.put, List.setIfInBounds_toArray, List.set_cons_succ, List.set_cons_zero]
      refine AtN.segS2 15 30 [(20, undef), (21, undef), (22, undef), (23, undef), (24, undef), (25, undef), (26, undef), (27, undef), (28, undef), (29, undef), (30, undef), (31, undef), (32, undef), (33, undef), (34, undef)] (by kernel_rfl) (by kernel_rfl) (by kernel_rfl) (by kernel_rfl) rfl ?_
      simp only [putsL, Act.put, List.setIfInBounds_toArray, List.set_cons_succ, List.set_cons_zero]
      refine AtN.segQ2 30 32 (fun
        | 30 => .bool false
        | _ => .bool false)
        [(35, .bool false), (4, .bool false)] (by kernel_rfl) (by kernel_rfl) (by kernel_rfl) (by kernel_rfl) rfl (fun i hn hi o ho A0 hin hk => ?_) ?_
      · rcases (show i = 30 ∨ i = 31 by omega) with rfl | rfl
        · cases ho
          have h19 : A0.tmps[19]?.getD undef = .bool false := hk 19 (by kernel_rfl)
          have h34 : A0.tmps[34]?.getD undef = undef := hk 34 (by kernel_rfl)
          exact by simp [go_sem, h19, h34]
        · cases ho
          have h35 : A0.tmps[35]?.getD undef = .bool false := hin 30 35 (by kernel_rfl)
          exact by simp [go_sem, h35]
      simp only [putsL, Act.put, List.setIfInBounds_toArray, List.set_cons_succ, List.set_cons_zero]
      refine AtN.done rfl ?_
      go_wp2_with fail
      go_ret
      exact ⟨rfl, HND.out⟩
    | true =>
      refine AtN.segQ2 6 13 (fun
        | 6 => .pointer (some ⟨w.heap.size, 1, none⟩)
        | 7 => .slice A la c
        | 8 => .int .i64 la
        | 9 => .pointer (some ⟨w.heap.size + 1, 1, none⟩)
        | 10 => .slice B lb d
        | 11 => .int .i64 lb
        | _ => .bool true)
        [(11, .pointer (some ⟨w.heap.size, 1, none⟩)), (12, .slice A la c), (13, .int .i64 la), (14, .pointer (some ⟨w.heap.size + 1, 1, none⟩)), (15, .slice B lb d), (16, .int .i64 lb), (17, .bool true)] (by kernel_rfl) (by kernel_rfl) (by kernel_rfl) (by kernel_rfl) rfl (fun i hn hi o ho A0 hin hk => ?_) ?_
      · rcases (show i = 6 ∨ i = 7 ∨ i = 8 ∨ i = 9 ∨ i = 10 ∨ i = 11 ∨ i = 12 by omega) with rfl | rfl | rfl | rfl | rfl | rfl | rfl
        · cases ho
          have h2 : A0.tmps[2]?.getD undef = .pointer (some ⟨w.heap.size, 0, none⟩) := hk 2 (by kernel_rfl)
          exact by simp [go_sem, h2]
        · cases ho
          have h11 : A0.tmps[11]?.getD undef = .pointer (some ⟨w.heap.size, 1, none⟩) := hin 6 11 (by kernel_rfl)
          have hcx : wd.cell? ⟨w.heap.size, 1, none⟩ = some (.slice A la c) := B0.out.cell 1
          exact by simp [go_sem, h11, hcx]
        · cases ho
          have h12 : A0.tmps[12]?.getD undef = .slice A la c := hin 7 12 (by kernel_rfl)
          exact by simp [go_sem, h12]
        · cases ho
          have h3 : A0.tmps[3]?.getD undef = .pointer (some ⟨w.heap.size + 1, 0, none⟩) := hk 3 (by kernel_rfl)
          exact by simp [go_sem, h3]
        · cases ho
          have h14 : A0.tmps[14]?.getD undef = .pointer (some ⟨w.heap.size + 1, 1, none⟩) := hin 9 14 (by kernel_rfl)
          have hcx : wd.cell? ⟨w.heap.size + 1, 1, none⟩ = some (.slice B lb d) := B1.out.cell 1
          exact by simp [go_sem, h14, hcx]
        · cases ho
          have h15 : A0.tmps[15]?.getD undef = .slice B lb d := hin 10 15 (by kernel_rfl)
          exact by simp [go_sem, h15]
        · cases ho
          have h13 : A0.tmps[13]?.getD undef = .int .i64 la := hin 8 13 (by kernel_rfl)
          have h16 : A0.tmps[16]?.getD undef = .int .i64 lb := hin 11 16 (by kernel_rfl)
          exact by simp [go_sem, h13, h16, hbl2, hbl3]
      simp only [putsL, Act.put, List.setIfInBounds_toArray, List.set_cons_succ, List.set_cons_zero]
      refine AtN.segQ2 13 15 (fun
        | 13 => .bool true
        | _ => .bool true)
        [(18, .bool true), (19, .bool true)] (by kernel_rfl) (by kernel_rfl) (by kernel_rfl) (by kernel_rfl) rfl (fun i hn hi o ho A0 hin hk => ?_) ?_
      · rcases (show i = 13 ∨ i = 14 by omega) with rfl | rfl
        · cases ho
          have h10 : A0.tmps[10]?.getD undef = .bool true := hk 10 (by kernel_rfl)
          have h17 : A0.tmps[17]?.getD undef = .bool true := hk 17 (by kernel_rfl)
          exact by simp [go_sem, h10, h17]
        · cases ho
          exact exec_move 18 _ rfl (hin 13 18 (by kernel_rfl))
      simp only [putsL, Act.put, List.setIfInBounds_toArray, List.set_cons_succ, List.set_cons_zero]
      have hlm : la = lb := of_decide_eq_true Hbl.out
      subst hlm
      have hm00 : m0 = l0 := by have := Hl0.out; have := Hm0.out; omega
      subst hm00
      clear hbl2 hbl3 hbe
      have hl1 := Hl0.out
      have q0 : (0 : Int) ≤ (m0 : Int) := by omega
      have q1 : (m0 : Int) ≤ (c : Int) := by omega
      have q2 : m0 ≤ c := by omega
      have q3 : (m0 : Int) ≤ (d : Int) := by omega
      have q4 : m0 ≤ d := by omega
      have q6 : m0 ≤ 1000000 := by omega
      have q5 : IntKind.i64.wrap ((la : Int) - 1) = (m0 : Int) := by rw [IntKind.wrap_i64]; omega
      clear hl1
      refine AtN.segN2 15 32 [20, 21, 22, 23, 24, 25, 26, 27, 28, 29, 30, 31, 32, 33, 34, 35, 4] (fun
        | 15 => fun v _ => v = .pointer (some ⟨w.heap.size, 1, none⟩)
        | 16 => fun v _ => v = .slice A la c
        | 17 => fun v _ => v = .pointer (some ⟨w.heap.size, 1, none⟩)
        | 18 => fun v _ => v = .slice A la c
        | 19 => fun v _ => v = .int .i64 la
        | 20 => fun v _ => v = .int .i64 m0
        | 21 => fun v _ => v = .slice A m0 c
        | 22 => fun v _ => v = .pointer (some ⟨w.heap.size + 1, 1, none⟩)
        | 23 => fun v _ => v = .slice B la d
        | 24 => fun v _ => v = .pointer (some ⟨w.heap.size + 1, 1, none⟩)
        | 25 => fun v _ => v = .slice B la d
        | 26 => fun v _ => v = .int .i64 la
        | 27 => fun v _ => v = .int .i64 m0
        | 28 => fun v _ => v = .slice B m0 d
        | 29 => fun v _ => v = .bool bc
        | 30 => fun v _ => v = .bool bc
        | 31 => fun v _ => v = .bool bc
        | _ => fun _ _ => True) (by kernel_rfl) (by kernel_rfl) (by kernel_rfl) (by kernel_rfl) (fun j v w1 w2 hc h => ?_) (fun i hn hi o ho A0 W hN hin hk => ?_) (fun l W5 hN hl hΦ => ?_)
      · match j with
        | 15 | 16 | 17 | 18 | 19 | 20 | 21 | 22 | 23 | 24 | 25 | 26 | 27 | 28 | 29 | 30 | 31 => exact h
        | 0 | 1 | 2 | 3 | 4 | 5 | 6 | 7 | 8 | 9 | 10 | 11 | 12 | 13 | 14 => trivial
        | _ + 32 => trivial
      · rcases (show i = 15 ∨ i = 16 ∨ i = 17 ∨ i = 18 ∨ i = 19 ∨ i = 20 ∨ i = 21 ∨ i = 22 ∨ i = 23 ∨ i = 24 ∨ i = 25 ∨ i = 26 ∨ i = 27 ∨ i = 28 ∨ i = 29 ∨ i = 30 ∨ i = 31 by omega) with rfl | rfl | rfl | rfl | rfl | rfl | rfl | rfl | rfl | rfl | rfl | rfl | rfl | rfl | rfl | rfl | rfl
        · cases ho
          have h2 : A0.tmps[2]?.getD undef = .pointer (some ⟨w.heap.size, 0, none⟩) := hk 2 (by kernel_rfl)
          exact .same (by simp [go_sem, h2]) rfl
        · cases ho
          have h20 : A0.tmps[20]?.getD undef = .pointer (some ⟨w.heap.size, 1, none⟩) := hin 15 20 (by kernel_rfl)
          have hcx : W.cell? ⟨w.heap.size, 1, none⟩ = some (.slice A la c) := (B0.out.chg hN id).cell 1
          exact .same (v := .slice A la c) (by simp [go_sem, h20, hcx]) rfl
        · cases ho
          have h2 : A0.tmps[2]?.getD undef = .pointer (some ⟨w.heap.size, 0, none⟩) := hk 2 (by kernel_rfl)
          exact .same (by simp [go_sem, h2]) rfl
        · cases ho
          have h22 : A0.tmps[22]?.getD undef = .pointer (some ⟨w.heap.size, 1, none⟩) := hin 17 22 (by kernel_rfl)
          have hcx : W.cell? ⟨w.heap.size, 1, none⟩ = some (.slice A la c) := (B0.out.chg hN id).cell 1
          exact .same (v := .slice A la c) (by simp [go_sem, h22, hcx]) rfl
        · cases ho
          have h23 : A0.tmps[23]?.getD undef = .slice A la c := hin 18 23 (by kernel_rfl)
          exact .same (by simp [go_sem, h23]) rfl
        · cases ho
          have h24 : A0.tmps[24]?.getD undef = .int .i64 la := hin 19 24 (by kernel_rfl)
          exact .same (by simp [go_sem, h24, q0, q1, q2, q3, q4, q5]) rfl
        · cases ho
          have h21 : A0.tmps[21]?.getD undef = .slice A la c := hin 16 21 (by kernel_rfl)
          have h25 : A0.tmps[25]?.getD undef = .int .i64 m0 := hin 20 25 (by kernel_rfl)
          exact .same (by simp [go_sem, h21, h25, q0, q1, q2, q3, q4, q5]) rfl
        · cases ho
          have h3 : A0.tmps[3]?.getD undef = .pointer (some ⟨w.heap.size + 1, 0, none⟩) := hk 3 (by kernel_rfl)
          exact .same (by simp [go_sem, h3]) rfl
        · cases ho
          have h27 : A0.tmps[27]?.getD undef = .pointer (some ⟨w.heap.size + 1, 1, none⟩) := hin 22 27 (by kernel_rfl)
          have hcx : W.cell? ⟨w.heap.size + 1, 1, none⟩ = some (.slice B la d) := (B1.out.chg hN id).cell 1
          exact .same (v := .slice B la d) (by simp [go_sem, h27, hcx]) rfl
        · cases ho
          have h3 : A0.tmps[3]?.getD undef = .pointer (some ⟨w.heap.size + 1, 0, none⟩) := hk 3 (by kernel_rfl)
          exact .same (by simp [go_sem, h3]) rfl
        · cases ho
          have h29 : A0.tmps[29]?.getD undef = .pointer (some ⟨w.heap.size + 1, 1, none⟩) := hin 24 29 (by kernel_rfl)
          have hcx : W.cell? ⟨w.heap.size + 1, 1, none⟩ = some (.slice B la d) := (B1.out.chg hN id).cell 1
          exact .same (v := .slice B la d) (by simp [go_sem, h29, hcx]) rfl
        · cases ho
          have h30 : A0.tmps[30]?.getD undef = .slice B la d := hin 25 30 (by kernel_rfl)
          exact .same (by simp [go_sem, h30]) rfl
        · cases ho
          have h31 : A0.tmps[31]?.getD undef = .int .i64 la := hin 26 31 (by kernel_rfl)
          exact .same (by simp [go_sem, h31, q0, q1, q2, q3, q4, q5]) rfl
        · cases ho
          have h28 : A0.tmps[28]?.getD undef = .slice B la d := hin 23 28 (by kernel_rfl)
          have h32 : A0.tmps[32]?.getD undef = .int .i64 m0 := hin 27 32 (by kernel_rfl)
          exact .same (by simp [go_sem, h28, h32, q0, q1, q2, q3, q4, q5]) rfl
        · cases ho
          have h26 : A0.tmps[26]?.getD undef = .slice A m0 c := hin 21 26 (by kernel_rfl)
          have h33 : A0.tmps[33]?.getD undef = .slice B m0 d := hin 28 33 (by kernel_rfl)
          refine .call (f := 54) (args := #[.slice A m0 c, .slice B m0 d, .func (.func 55) #[] #[]]) (W' := W) ?_ ((eq_vals W A m0 c B d us vs Hul.out.symm Hvl.out.symm q6 (HSu.out.chg hN (fun _ _ x => x)) (HSv.out.chg hN (fun _ _ x => x))).mono ?_)
          · simp [go_sem, h26, h33, eg1]
          · rintro e w' ⟨rfl, hc⟩
            exact ⟨_, rfl, hc, by rw [Hbc.out]; rfl⟩
        · cases ho
          have h19 : A0.tmps[19]?.getD undef = .bool true := hk 19 (by kernel_rfl)
          have h34 : A0.tmps[34]?.getD undef = .bool bc := hin 29 34 (by kernel_rfl)
          exact .same (by simp [go_sem, h19, h34]) rfl
        · cases ho
          have h35 : A0.tmps[35]?.getD undef = .bool bc := hin 30 35 (by kernel_rfl)
          exact .same (by simp [go_sem, h35]) rfl
      obtain ⟨x20, x21, x22, x23, x24, x25, x26, x27, x28, x29, x30, x31, x32, x33, x34, x35, x4, rfl⟩ : ∃ x20 x21 x22 x23 x24 x25 x26 x27 x28 x29 x30 x31 x32 x33 x34 x35 x4, l = [x20, x21, x22, x23, x24, x25, x26, x27, x28, x29, x30, x31, x32, x33, x34, x35, x4] := by
        match l, hl with
        | [x20, x21, x22, x23, x24, x25, x26, x27, x28, x29, x30, x31, x32, x33, x34, x35, x4], _ => exact ⟨_, _, _, _, _, _, _, _, _, _, _, _, _, _, _, _, _, rfl⟩
      obtain rfl : x20 = .pointer (some ⟨w.heap.size, 1, none⟩) := hΦ 0 (by decide)
      obtain rfl : x21 = .slice A la c := hΦ 1 (by decide)
      obtain rfl : x22 = .pointer (some ⟨w.heap.size, 1, none⟩) := hΦ 2 (by decide)
      obtain rfl : x23 = .slice A la c := hΦ 3 (by decide)
      obtain rfl : x24 = .int .i64 la := hΦ 4 (by decide)
      obtain rfl : x25 = .int .i64 m0 := hΦ 5 (by decide)
      obtain rfl : x26 = .slice A m0 c := hΦ 6 (by decide)
      obtain rfl : x27 = .pointer (some ⟨w.heap.size + 1, 1, none⟩) := hΦ 7 (by decide)
      obtain rfl : x28 = .slice B la d := hΦ 8 (by decide)
      obtain rfl : x29 = .pointer (some ⟨w.heap.size + 1, 1, none⟩) := hΦ 9 (by decide)
      obtain rfl : x30 = .slice B la d := hΦ 10 (by decide)
      obtain rfl : x31 = .int .i64 la := hΦ 11 (by decide)
      obtain rfl : x32 = .int .i64 m0 := hΦ 12 (by decide)
      obtain rfl : x33 = .slice B m0 d := hΦ 13 (by decide)
      obtain rfl : x34 = .bool bc := hΦ 14 (by decide)
      obtain rfl : x35 = .bool bc := hΦ 15 (by decide)
      obtain rfl : x4 = .bool bc := hΦ 16 (by decide)
      simp only [putsL, List.zip_cons_cons, List.zip_nil_left, List.zip_nil_right, List.zip, List.zipWith, Act.put, List.setIfInBounds_toArray, List.set_cons_succ, List.set_cons_zero]
      clear hΦ hl
      refine AtN.done rfl ?_
      have HN5 := Lib.hid (HND.out.trans hN (fun _ _ x => x))
      clear hN
      go_wp2_with fail
      go_ret
      exact ⟨rfl, HN5.out⟩
end Go.Proofs.YtfocjfnkcabbgaaGreat
