/- The laws' alike of layer 11. -/
import Derived.Test.YtenkobgeflckdaaGrp2
set_option linter.unusedVariables false
set_option linter.unusedSimpArgs false
namespace Go.Proofs.Ytenkobgeflckdaa
open Go.RowKit Go.Shelf

/-- Are rows the same but for a place? -/
def alikeK (r s : Rw) (k : Nat) : Bool := decide (r.name = s.name) && (decide (r.args.length = s.args.length) && decide (∀ i, i < r.args.length → i ≠ k → cmpV (r.args.getD i zeroV) (s.args.getD i zeroV) = 0))

set_option maxHeartbeats 4000000 in
set_option maxRecDepth 100000 in
theorem alike11 (w : World) (xc yc : List Value) (r s : Rw) (hx : RowAt w xc r) (hy : RowAt w yc s) (k : Nat) (hk : k ≤ 1000) :
    Calls Try.prog 43 #[.agg xc.toArray, .agg yc.toArray, .int .i64 k] w fun e w' => e = .returned (.bool (alikeK r s k)) ∧ New w w' := by
  obtain ⟨A, c, rfl, g2, g3, g4, g5, g6⟩ := hx
  obtain ⟨B, d, rfl, f2, f3, f4, f5, f6⟩ := hy
  obtain ⟨la, hla⟩ : ∃ l, r.args.length = l := ⟨_, rfl⟩
  obtain ⟨lb, hlb⟩ : ∃ l, s.args.length = l := ⟨_, rfl⟩
  rw [show alikeK r s k = (decide (r.name = s.name) && (decide (r.args.length = s.args.length) && decide (∀ i, i < r.args.length → i ≠ k → cmpV (r.args.getD i zeroV) (s.args.getD i zeroV) = 0))) from rfl]
  rw [hla] at g2 g3 ⊢
  rw [hlb] at f2 f3 ⊢
  obtain ⟨bc, hbc⟩ : ∃ b, decide (∀ i, i < la → i ≠ k → cmpV (r.args.getD i zeroV) (s.args.getD i zeroV) = 0) = b := ⟨_, rfl⟩
  rw [hbc]
  have Hbc := Lib.hid hbc
  obtain ⟨w1, hw1⟩ : ∃ w1, w1 = (w.alloc (.cells #[.string r.name, .slice A la c, .int .i64 r.stamp] 58)).alloc (.cells #[.string s.name, .slice B lb d, .int .i64 s.stamp] 58) := ⟨_, rfl⟩
  have hN1 : New w w1 := by rw [hw1]; exact ((Chg.refl _ _).alloc _).alloc _
  have b0 : Blk w1 w.heap.size 58 #[.string r.name, .slice A la c, .int .i64 r.stamp] := by rw [hw1]; exact (Blk.new w _ _).alloc _
  have b1 : Blk w1 (w.heap.size + 1) 58 #[.string s.name, .slice B lb d, .int .i64 s.stamp] := by
    have := Blk.new (w.alloc (.cells #[.string r.name, .slice A la c, .int .i64 r.stamp] 58)) 58 #[.string s.name, .slice B lb d, .int .i64 s.stamp]
    simp only [World.size_alloc] at this
    rw [hw1]; exact this
  have B0 := Lib.hid b0
  have B1 := Lib.hid b1
  have HN1 := Lib.hid hN1
  have HSu := Lib.hid (g5.chg hN1 (fun _ _ x => x))
  have HSv := Lib.hid (f5.chg hN1 (fun _ _ x => x))
  have HW1 := Lib.hid hw1
  have Hla := Lib.hid hla
  have Hlb := Lib.hid hlb
  have e0 := b0.cell 0
  have e1 := b0.cell 1
  have e2 := b1.cell 0
  have e3 := b1.cell 1
  simp only [List.getElem?_toArray, List.getElem?_cons_zero, List.getElem?_cons_succ] at e0 e1 e2 e3
  rw [hw1] at e0 e1 e2 e3
  clear b0 b1 hN1 hw1 g5 f5 g6 f6 hla hlb hbc
  obtain ⟨bn, hbn⟩ : ∃ b, decide (r.name = s.name) = b := ⟨_, rfl⟩
  have hbe : (r.name.toList != s.name.toList) = !bn := by
    rw [← hbn]
    by_cases h : r.name = s.name
    · simp [h]
    · rw [decide_eq_false h]
      have : r.name.toList ≠ s.name.toList := fun e => h (tl_eq'.1 e)
      simp [this]
  have hbf : (r.name.toList == s.name.toList) = bn := by
    rw [← hbn]
    by_cases h : r.name = s.name
    · simp [h]
    · rw [decide_eq_false h, beq_eq_false_iff_ne]
      exact fun e => h (tl_eq'.1 e)
  rw [hbn]
  obtain ⟨bl, hbl⟩ : ∃ b, decide (la = lb) = b := ⟨_, rfl⟩
  have hbl2 : ((la : Int) != (lb : Int)) = !bl := by
    rw [← hbl]
    by_cases h : la = lb
    · simp [h]
    · rw [decide_eq_false h]
      have : (la : Int) ≠ (lb : Int) := by omega
      simp [this]
  have hbl3 : (la != lb) = !bl := by
    rw [← hbl]
    by_cases h : la = lb
    · simp [h]
    · rw [decide_eq_false h]
      simp [h]
  rw [hbl]
  have Hbl := Lib.hid hbl
  clear hbn hbl
  have eg1 := enters_of Try.func44 (by kernel_rfl) rfl
  unfold Enters at eg1
  cases bn with
  | false =>
    simp only [Bool.not_false] at hbe
    have hne : ¬ (r.name.toList = s.name.toList) := by simpa using hbf
    go_enter Try.func43, Try.ntmps43
    go_wp2_with fail
    go_ret
    rw [← HW1.out]
    exact ⟨rfl, HN1.out⟩
  | true =>
    simp only [Bool.not_true] at hbe
    have hne : r.name.toList = s.name.toList := by simpa using hbf
    have Hne := Lib.hid hne
    clear hne
    cases bl with
    | false =>
      simp only [Bool.not_false] at hbl2 hbl3
      have hnl : ¬ (la = lb) := by simpa using hbl3
      go_enter Try.func43, Try.ntmps43
      go_wp2_with fail
      go_ret
      rw [← HW1.out]
      exact ⟨rfl, HN1.out⟩
    | true =>
      simp only [Bool.not_true] at hbl2 hbl3
      have hlm : la = lb := of_decide_eq_true Hbl.out
      subst hlm
      go_enter Try.func43, Try.ntmps43
      go_wp2_with fail
      rw [← HW1.out]
      clear e0 e1 e2 e3 HW1 hbe hbf hbl2 hbl3
      go_loopw [7] (fun u7 wr => ∃ i : Nat, i ≤ la ∧ u7 = .int .i64 i ∧ (∀ j, j < i → j ≠ k → cmpV (r.args.getD j zeroV) (s.args.getD j zeroV) = 0) ∧ New w1 wr) (fun u _ => la - (intOf u).toNat)
      case atStart => exact ⟨0, Nat.zero_le _, rfl, fun j hj => absurd hj (by omega), Chg.refl _ _⟩
      case round =>
        obtain ⟨i, hil, rfl, hal, hN⟩ := hrel
        have HAl := Lib.hid hal
        have HNw := Lib.hid hN
        have e1 := (B0.out.chg hN id).cell 1
        simp only [List.getElem?_toArray, List.getElem?_cons_zero, List.getElem?_cons_succ] at e1
        clear hal hN
        by_cases hlt : i < la
        · obtain ⟨x, hx⟩ : ∃ x, r.args[i]? = some x := ⟨_, List.getElem?_eq_getElem (by rw [Hla.out]; exact hlt)⟩
          obtain ⟨y, hy⟩ : ∃ y, s.args[i]? = some y := ⟨_, List.getElem?_eq_getElem (by rw [Hlb.out]; exact hlt)⟩
          obtain ⟨ax, hax, hrx⟩ := HSu.out (by rw [List.length_map, Hla.out]; omega)
          obtain ⟨ay, hay, hry⟩ := HSv.out (by rw [List.length_map, Hlb.out]; omega)
          have hnd : New w1 wr.drew := HNw.out.drew
          have hatx := (hrx i (vcs x) (by rw [List.getElem?_map, hx]; rfl)).2.chg hnd id
          have haty := (hry i (vcs y) (by rw [List.getElem?_map, hy]; rfl)).2.chg hnd id
          change At _ _ [.int .i64 x.k, .int .i64 x.i, .string x.t, .slice none 0 0] at hatx
          change At _ _ [.int .i64 y.k, .int .i64 y.i, .string y.t, .slice none 0 0] at haty
          obtain ⟨q, hq⟩ : ∃ q, cmpV x y = q := ⟨_, rfl⟩
          have hxy : cmpV (r.args.getD i zeroV) (s.args.getD i zeroV) = q := by rw [List.getD_eq_getElem?_getD, List.getD_eq_getElem?_getD, hx, hy]; exact hq
          have HAx := Lib.hid hatx
          have HAy := Lib.hid haty
          have HB0 := Lib.hid (B0.out.chg hnd id)
          have HB1 := Lib.hid (B1.out.chg hnd id)
          have HNd := Lib.hid hnd
          have Hq := Lib.hid hq
          have Hxy := Lib.hid hxy
          have Hax := Lib.hid hax
          have Hay := Lib.hid hay
          have q0 : (0 : Int) ≤ (i : Int) := by omega
          have q1 : (i : Int) < (la : Int) := by omega
          clear hx hy hrx hry hnd hatx haty hq hxy hax hay
          go_upto_region 6 with fail
          refine wp_region_at (by kernel_rfl) ?_
          generalize wr.drew = wd at HAx HAy HB0 HB1 HNd ⊢
          by_cases hik : i = k
          · have t1 : ((i : Int) != (k : Int)) = false := by simp; omega
            have t2 : (i != k) = false := by simp; omega
            refine AtN.segQ2 0 4 (fun
              | 0 => .int .i64 i
              | 1 => .int .i64 k
              | 2 => .bool false
              | _ => .bool false)
              [(29, .int .i64 i), (30, .int .i64 k), (31, .bool false), (32, .bool false)] (by kernel_rfl) (by kernel_rfl) (by kernel_rfl) (by kernel_rfl) rfl (fun i hn hi o ho A0 hin hk => ?_) ?_
            · rcases (show i = 0 ∨ i = 1 ∨ i = 2 ∨ i = 3 by omega) with rfl | rfl | rfl | rfl
              · cases ho
                exact exec_move 7 _ rfl (hk 7 (by kernel_rfl))
              · cases ho
                exact exec_move 2 _ rfl (hk 2 (by kernel_rfl))
              · cases ho
                have h29 : A0.tmps[29]?.getD undef = .int .i64 i := hin 0 29 (by kernel_rfl)
                have h30 : A0.tmps[30]?.getD undef = .int .i64 k := hin 1 30 (by kernel_rfl)
                exact by simp [go_sem, h29, h30, t1, t2]
              · cases ho
                exact exec_move 31 _ rfl (hin 2 31 (by kernel_rfl))
            simp only [putsL, Act.put, List.setIfInBounds_toArray, List.set_cons_succ, List.set_cons_zero]
            refine AtN.segS2 4 16 [(33, undef), (34, undef), (35, undef), (36, undef), (37, undef), (38, undef), (39, undef), (40, undef), (41, undef), (42, undef), (43, undef), (44, undef)] (by kernel_rfl) (by kernel_rfl) (by kernel_rfl) (by kernel_rfl) rfl ?_
            simp only [putsL, Act.put, List.setIfInBounds_toArray, List.set_cons_succ, List.set_cons_zero]
            refine AtN.segQ2 16 17 (fun _ => .bool false)
              [(45, .bool false)] (by kernel_rfl) (by kernel_rfl) (by kernel_rfl) (by kernel_rfl) rfl (fun i hn hi o ho A0 hin hk => ?_) ?_
            · obtain rfl : i = 16 := by omega
              cases ho
              have h32 : A0.tmps[32]?.getD undef = .bool false := hk 32 (by kernel_rfl)
              have h44 : A0.tmps[44]?.getD undef = undef := hk 44 (by kernel_rfl)
              exact by simp [go_sem, h32, h44]
            simp only [putsL, Act.put, List.setIfInBounds_toArray, List.set_cons_succ, List.set_cons_zero]
            refine AtN.done rfl ?_
            have HAl2 := Lib.hid (show ∀ j, j < i + 1 → j ≠ k → cmpV (r.args.getD j zeroV) (s.args.getD j zeroV) = 0 from fun j hj hjk => HAl.out j (by omega) hjk)
            clear t1 t2
            go_wp2_with fail
            go_roundw
            case rel => exact ⟨i + 1, by omega, by go_num, HAl2.out, HNd.out⟩
            case measure => simp only [intOf]; omega
          · have t1 : ((i : Int) != (k : Int)) = true := by simp; omega
            have t2 : (i != k) = true := by simp; omega
            obtain ⟨bq, hbq⟩ : ∃ b : Bool, (q != 0) = b := ⟨_, rfl⟩
            refine AtN.segQ2 0 4 (fun
              | 0 => .int .i64 i
              | 1 => .int .i64 k
              | 2 => .bool true
              | _ => .bool true)
              [(29, .int .i64 i), (30, .int .i64 k), (31, .bool true), (32, .bool true)] (by kernel_rfl) (by kernel_rfl) (by kernel_rfl) (by kernel_rfl) rfl (fun i hn hi o ho A0 hin hk => ?_) ?_
            · rcases (show i = 0 ∨ i = 1 ∨ i = 2 ∨ i = 3 by omega) with rfl | rfl | rfl | rfl
              · cases ho
                exact exec_move 7 _ rfl (hk 7 (by kernel_rfl))
              · cases ho
                exact exec_move 2 _ rfl (hk 2 (by kernel_rfl))
              · cases ho
                have h29 : A0.tmps[29]?.getD undef = .int .i64 i := hin 0 29 (by kernel_rfl)
                have h30 : A0.tmps[30]?.getD undef = .int .i64 k := hin 1 30 (by kernel_rfl)
                exact by simp [go_sem, h29, h30, t1, t2]
              · cases ho
                exact exec_move 31 _ rfl (hin 2 31 (by kernel_rfl))
            simp only [putsL, Act.put, List.setIfInBounds_toArray, List.set_cons_succ, List.set_cons_zero]
            refine AtN.segN2 4 17 [33, 34, 35, 36, 37, 38, 39, 40, 41, 42, 43, 44, 45] (fun
              | 4 => fun v _ => v = .pointer (some ⟨w.heap.size, 1, none⟩)
              | 5 => fun v _ => v = .slice A la c
              | 6 => fun v _ => v = .int .i64 i
              | 7 => fun v _ => v = .pointer (some (ax.add (i * 4)))
              | 8 => fun v _ => v = .agg #[.int .i64 x.k, .int .i64 x.i, .string x.t, .slice none 0 0]
              | 9 => fun v _ => v = .pointer (some ⟨w.heap.size + 1, 1, none⟩)
              | 10 => fun v _ => v = .slice B la d
              | 11 => fun v _ => v = .int .i64 i
              | 12 => fun v _ => v = .pointer (some (ay.add (i * 4)))
              | 13 => fun v _ => v = .agg #[.int .i64 y.k, .int .i64 y.i, .string y.t, .slice none 0 0]
              | 14 => fun v _ => v = .int .i64 q
              | 15 => fun v _ => v = .bool bq
              | 16 => fun v _ => v = .bool bq
              | _ => fun _ _ => True) (by kernel_rfl) (by kernel_rfl) (by kernel_rfl) (by kernel_rfl) (fun j v w1 w2 hc h => ?_) (fun i hn hi o ho A0 W hN hin hk => ?_) (fun l W5 hN hl hΦ => ?_)
            · match j with
              | 4 | 5 | 6 | 7 | 8 | 9 | 10 | 11 | 12 | 13 | 14 | 15 | 16 => exact h
              | 0 | 1 | 2 | 3 => trivial
              | _ + 17 => trivial
            · rcases (show i = 4 ∨ i = 5 ∨ i = 6 ∨ i = 7 ∨ i = 8 ∨ i = 9 ∨ i = 10 ∨ i = 11 ∨ i = 12 ∨ i = 13 ∨ i = 14 ∨ i = 15 ∨ i = 16 by omega) with rfl | rfl | rfl | rfl | rfl | rfl | rfl | rfl | rfl | rfl | rfl | rfl | rfl
              · cases ho
                have h3 : A0.tmps[3]?.getD undef = .pointer (some ⟨w.heap.size, 0, none⟩) := hk 3 (by kernel_rfl)
                exact .same (by simp [go_sem, h3]) rfl
              · cases ho
                have h33 : A0.tmps[33]?.getD undef = .pointer (some ⟨w.heap.size, 1, none⟩) := hin 4 33 (by kernel_rfl)
                have hcx : W.cell? ⟨w.heap.size, 1, none⟩ = some (.slice A la c) := (HB0.out.chg hN id).cell 1
                exact .same (v := .slice A la c) (by simp [go_sem, h33, hcx]) rfl
              · cases ho
                exact .same (exec_move 7 _ rfl (hk 7 (by kernel_rfl))) rfl
              · cases ho
                have h34 : A0.tmps[34]?.getD undef = .slice A la c := hin 5 34 (by kernel_rfl)
                have h35 : A0.tmps[35]?.getD undef = .int .i64 i := hin 6 35 (by kernel_rfl)
                exact .same (by simp [go_sem, h34, h35, q0, q1, hlt, Hax.out]) rfl
              · cases ho
                have h36 : A0.tmps[36]?.getD undef = .pointer (some (ax.add (i * 4))) := hin 7 36 (by kernel_rfl)
                exact .same (exec_load 36 _ rfl stVal4 (ax.add (i * 4)) [.int .i64 x.k, .int .i64 x.i, .string x.t, .slice none 0 0] h36 rfl (HAx.out.chg hN id)) rfl
              · cases ho
                have h4 : A0.tmps[4]?.getD undef = .pointer (some ⟨w.heap.size + 1, 0, none⟩) := hk 4 (by kernel_rfl)
                exact .same (by simp [go_sem, h4]) rfl
              · cases ho
                have h38 : A0.tmps[38]?.getD undef = .pointer (some ⟨w.heap.size + 1, 1, none⟩) := hin 9 38 (by kernel_rfl)
                have hcx : W.cell? ⟨w.heap.size + 1, 1, none⟩ = some (.slice B la d) := (HB1.out.chg hN id).cell 1
                exact .same (v := .slice B la d) (by simp [go_sem, h38, hcx]) rfl
              · cases ho
                exact .same (exec_move 7 _ rfl (hk 7 (by kernel_rfl))) rfl
              · cases ho
                have h39 : A0.tmps[39]?.getD undef = .slice B la d := hin 10 39 (by kernel_rfl)
                have h40 : A0.tmps[40]?.getD undef = .int .i64 i := hin 11 40 (by kernel_rfl)
                exact .same (by simp [go_sem, h39, h40, q0, q1, hlt, Hay.out]) rfl
              · cases ho
                have h41 : A0.tmps[41]?.getD undef = .pointer (some (ay.add (i * 4))) := hin 12 41 (by kernel_rfl)
                exact .same (exec_load 41 _ rfl stVal4 (ay.add (i * 4)) [.int .i64 y.k, .int .i64 y.i, .string y.t, .slice none 0 0] h41 rfl (HAy.out.chg hN id)) rfl
              · cases ho
                have h37 : A0.tmps[37]?.getD undef = .agg #[.int .i64 x.k, .int .i64 x.i, .string x.t, .slice none 0 0] := hin 8 37 (by kernel_rfl)
                have h42 : A0.tmps[42]?.getD undef = .agg #[.int .i64 y.k, .int .i64 y.i, .string y.t, .slice none 0 0] := hin 13 42 (by kernel_rfl)
                refine .call (f := 44) (args := #[.agg #[.int .i64 x.k, .int .i64 x.i, .string x.t, .slice none 0 0], .agg #[.int .i64 y.k, .int .i64 y.i, .string y.t, .slice none 0 0]]) (W' := W) ?_ ((cmp_val x y W).mono ?_)
                · simp [go_sem, h37, h42, eg1]
                · rintro e w' ⟨rfl, hc⟩
                  exact ⟨_, rfl, hc, by rw [Hq.out]; rfl⟩
              · cases ho
                have h43 : A0.tmps[43]?.getD undef = .int .i64 q := hin 14 43 (by kernel_rfl)
                exact .same (by simp [go_sem, h43, hbq]) rfl
              · cases ho
                have h32 : A0.tmps[32]?.getD undef = .bool true := hk 32 (by kernel_rfl)
                have h44 : A0.tmps[44]?.getD undef = .bool bq := hin 15 44 (by kernel_rfl)
                exact .same (by simp [go_sem, h32, h44]) rfl
            obtain ⟨x33, x34, x35, x36, x37, x38, x39, x40, x41, x42, x43, x44, x45, rfl⟩ : ∃ x33 x34 x35 x36 x37 x38 x39 x40 x41 x42 x43 x44 x45, l = [x33, x34, x35, x36, x37, x38, x39, x40, x41, x42, x43, x44, x45] := by
              match l, hl with
              | [x33, x34, x35, x36, x37, x38, x39, x40, x41, x42, x43, x44, x45], _ => exact ⟨_, _, _, _, _, _, _, _, _, _, _, _, _, rfl⟩
            obtain rfl : x33 = .pointer (some ⟨w.heap.size, 1, none⟩) := hΦ 0 (by decide)
            obtain rfl : x34 = .slice A la c := hΦ 1 (by decide)
            obtain rfl : x35 = .int .i64 i := hΦ 2 (by decide)
            obtain rfl : x36 = .pointer (some (ax.add (i * 4))) := hΦ 3 (by decide)
            obtain rfl : x37 = .agg #[.int .i64 x.k, .int .i64 x.i, .string x.t, .slice none 0 0] := hΦ 4 (by decide)
            obtain rfl : x38 = .pointer (some ⟨w.heap.size + 1, 1, none⟩) := hΦ 5 (by decide)
            obtain rfl : x39 = .slice B la d := hΦ 6 (by decide)
            obtain rfl : x40 = .int .i64 i := hΦ 7 (by decide)
            obtain rfl : x41 = .pointer (some (ay.add (i * 4))) := hΦ 8 (by decide)
            obtain rfl : x42 = .agg #[.int .i64 y.k, .int .i64 y.i, .string y.t, .slice none 0 0] := hΦ 9 (by decide)
            obtain rfl : x43 = .int .i64 q := hΦ 10 (by decide)
            obtain rfl : x44 = .bool bq := hΦ 11 (by decide)
            obtain rfl : x45 = .bool bq := hΦ 12 (by decide)
            simp only [putsL, List.zip_cons_cons, List.zip_nil_left, List.zip_nil_right, List.zip, List.zipWith, Act.put, List.setIfInBounds_toArray, List.set_cons_succ, List.set_cons_zero]
            clear hΦ hl
            refine AtN.done rfl ?_
            have HN2 := Lib.hid (HNd.out.trans hN (fun _ _ x => x))
            clear hN t1 t2
            cases bq with
            | true =>
              have hbf : bc = false := by
                rw [← Hbc.out]
                refine decide_eq_false (fun h => ?_)
                have h1 := h i hlt hik
                rw [Hxy.out] at h1
                rw [h1] at hbq
                simp at hbq
              subst hbf
              have HNe := Lib.hid (HN1.out.trans HN2.out (fun _ _ x => x))
              clear hbq
              go_wp2_with fail
              go_ret
              exact ⟨rfl, HNe.out⟩
            | false =>
              have HAl2 := Lib.hid (show ∀ j, j < i + 1 → j ≠ k → cmpV (r.args.getD j zeroV) (s.args.getD j zeroV) = 0 from fun j hj hjk => by
                by_cases hji : j = i
                · rw [hji, Hxy.out]
                  simpa using hbq
                · exact HAl.out j (by omega) hjk)
              clear hbq
              go_wp2_with fail
              go_roundw
              case rel => exact ⟨i + 1, by omega, by go_num, HAl2.out, HN2.out⟩
              case measure => simp only [intOf]; omega
        · have hbt : bc = true := by
            rw [← Hbc.out]
            exact decide_eq_true (fun j hj hjk => HAl.out j (by omega) hjk)
          subst hbt
          have HNe := Lib.hid (HN1.out.trans HNw.out (fun _ _ x => x))
          go_wp2_with fail
          go_ret
          exact ⟨rfl, HNe.out⟩
end Go.Proofs.Ytenkobgeflckdaa
