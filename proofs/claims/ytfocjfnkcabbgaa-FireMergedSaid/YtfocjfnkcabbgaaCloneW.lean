/- slices.CompactFunc over rows; slices.Clone over Row; slices.Clone over Value. -/
import Derived.Test.YtfocjfnkcabbgaaApp
import Derived.Test.YtfocjfnkcabbgaaOrdP
import Derived.KernelRfl
import Derived.Deep.CutRange
set_option linter.unusedVariables false
set_option linter.unusedSimpArgs false
namespace Go.Proofs.Ytfocjfnkcabbgaa
open Go.RowKit Go.Shelf

def EqAt (w : World) (g f : Nat) (lb : Array Value) (q : List Value → List Value → Bool) (d : List (List Value)) : Prop := ∀ x ∈ d, ∀ y ∈ d, Says Try.prog w (fun k => k = g) f lb #[.agg x.toArray, .agg y.toArray] (.bool (q x y))
/-- What compacting leaves. -/
def Cpts (w : World) (g cap : Nat) (css : List (List Value)) (e : Ending) (w' : World) : Prop :=
  e = .returned (.slice (some ⟨g, 0, none⟩) css.length cap) ∧ (∃ rest, Tab w' g css.length css rest) ∧ Chg w w' (fun k => k = g)
theorem Tab.short {W : World} {g n m : Nat} {e l : List (List Value)} {rest : List Value} (h : Tab W g n (e ++ l) rest) (hm : e.length = m) : Tab W g m e (l.flatten ++ rest) :=
  ⟨by have := h.blk; rw [List.flatten_append, List.append_assoc] at this; exact this, hm, fun cs hc => h.row cs (List.mem_append_left _ hc)⟩

set_option maxHeartbeats 4000000 in
set_option maxRecDepth 100000 in
theorem cptRows (w : World) (g n cap : Nat) (d : List (List Value)) (rest : List Value) (hT : Tab w g n d rest) (hn : n ≤ 1000000) (hnc : n ≤ cap) (f : Nat) (lb : Array Value) (eg : Enters Try.prog f) (q : List Value → List Value → Bool) (hq : EqAt w g f lb q d) :
    Calls Try.prog 34 #[.slice (some ⟨g, 0, none⟩) n cap, .func (.func f) #[] lb] w (Cpts w g cap (cptN q d n)) := by
  unfold Enters at eg
  have hlen : d.length = n := hT.len
  have HQ := Lib.hid hq
  have HT := Lib.hid hT
  clear hT hq
  go_enter Try.func34, Try.ntmps34
  by_cases h2 : n < 2
  · have hd : decide ((n : Int) < 2) = true := decide_eq_true (by omega)
    have HE := Lib.hid (show cptN q d n = d by
      rw [cptN_all (by omega) (fun i hi => by unfold keepB; rw [show i = 0 by omega]; rfl), ← hlen, List.take_length])
    go_wp2_with fail
    go_ret
    rw [HE.out]
    exact ⟨congrArg (fun z => Ending.returned (.slice (some ⟨g, 0, none⟩) z cap)) hlen.symm, ⟨rest, by rw [hlen]; exact HT.out⟩, Chg.refl _ _⟩
  · have hd : decide ((n : Int) < 2) = false := decide_eq_false (by omega)
    go_wp2_with fail
    go_loopw [5] (fun u5 wr => ∃ k : Nat, 1 ≤ k ∧ k ≤ n ∧ u5 = .int .i64 k ∧ (∀ i, i < k → keepB q d i = true) ∧ New w wr) (fun u _ => n - (intOf u).toNat)
    case atStart => exact ⟨1, Nat.le_refl _, by omega, by go_num, fun i hi => by unfold keepB; rw [show i = 0 by omega]; rfl, Chg.refl _ _⟩
    case round =>
      obtain ⟨k, hk1, hkn, rfl, hall, hN⟩ := hrel
      have HAll := Lib.hid hall
      have HN := Lib.hid hN
      clear hall hN
      by_cases hlt : k < n
      · obtain ⟨j, rfl⟩ : ∃ j, k = j + 1 := ⟨k - 1, by omega⟩
        obtain ⟨y, hy, hye, hyr⟩ := HT.out.cs (i := j + 1) (by omega)
        obtain ⟨x, hx, hxe, hxr⟩ := HT.out.cs (i := j) (by omega)
        obtain ⟨b, hb⟩ : ∃ b, q y x = b := ⟨_, rfl⟩
        have hcall := HQ.out y hye x hxe wr.drew ((HN.out.drew).mono (fun _ _ x => x.elim))
        rw [hb] at hcall
        have hkb := keepB_at (q := q) hy hx
        rw [hb] at hkb
        have HTd := Lib.hid (HT.out.chg HN.out.drew id)
        have Hcall := Lib.hid hcall
        have Hkb := Lib.hid hkb
        have Hy := Lib.hid hy
        have HYr := Lib.hid hyr
        have HXr := Lib.hid hxr
        have HNd := Lib.hid HN.out.drew
        have Hatx := Lib.hid (HTd.out.get hx)
        have Haty := Lib.hid (HTd.out.get hy)
        clear hx hy hxe hye hxr hyr hcall HTd HN hkb hb
        go_upto_region 6 with fail
        refine wp_region_at (by kernel_rfl) ?_
        generalize wr.drew = wd at Hcall HNd Hatx Haty ⊢
        have q0 : (0 : Int) ≤ (j : Int) + 1 := by omega
        have q1 : (j : Int) + 1 < (n : Int) := by omega
        have q2 : (0 : Int) ≤ (j : Int) := by omega
        have q3 : (j : Int) < (n : Int) := by omega
        have q4 : j + 1 < n := by omega
        have q5 : j < n := by omega
        have q6 : ((j : Int) + 1).toNat = j + 1 := by omega
        have q7 : IntKind.i64.wrap (j : Int) = (j : Int) := by rw [IntKind.wrap_i64]; omega
        have q8 : IntKind.i64.wrap ((j : Int) + 1 - 1) = (j : Int) := by rw [IntKind.wrap_i64]; omega
        refine AtN.segQ2 0 10 (fun
          | 0 => .func (.func f) #[] lb
          | 1 => .slice (some ⟨g, 0, none⟩) n cap
          | 2 => .int .i64 ((j : Int) + 1)
          | 3 => .pointer (some ⟨g, (j + 1) * 3, none⟩)
          | 4 => .agg y.toArray
          | 5 => .slice (some ⟨g, 0, none⟩) n cap
          | 6 => .int .i64 ((j : Int) + 1)
          | 7 => .int .i64 (j : Int)
          | 8 => .pointer (some ⟨g, j * 3, none⟩)
          | _ => .agg x.toArray)
          [(18, .func (.func f) #[] lb), (19, .slice (some ⟨g, 0, none⟩) n cap), (20, .int .i64 ((j : Int) + 1)), (21, .pointer (some ⟨g, (j + 1) * 3, none⟩)), (22, .agg y.toArray), (23, .slice (some ⟨g, 0, none⟩) n cap), (24, .int .i64 ((j : Int) + 1)), (25, .int .i64 (j : Int)), (26, .pointer (some ⟨g, j * 3, none⟩)), (27, .agg x.toArray)] (by kernel_rfl) (by kernel_rfl) (by kernel_rfl) (by kernel_rfl) rfl (fun i hn hi o ho A0 hin hk => ?_) ?_
        · rcases (show i = 0 ∨ i = 1 ∨ i = 2 ∨ i = 3 ∨ i = 4 ∨ i = 5 ∨ i = 6 ∨ i = 7 ∨ i = 8 ∨ i = 9 by omega) with rfl | rfl | rfl | rfl | rfl | rfl | rfl | rfl | rfl | rfl
          · cases ho
            exact exec_move 1 _ rfl (hk 1 (by kernel_rfl))
          · cases ho
            exact exec_move 0 _ rfl (hk 0 (by kernel_rfl))
          · cases ho
            exact exec_move 5 _ rfl (hk 5 (by kernel_rfl))
          · cases ho
            have h19 : A0.tmps[19]?.getD undef = .slice (some ⟨g, 0, none⟩) n cap := hin 1 19 (by kernel_rfl)
            have h20 : A0.tmps[20]?.getD undef = .int .i64 ((j : Int) + 1) := hin 2 20 (by kernel_rfl)
            exact by simp [go_sem, h19, h20, q0, q1, q2, q3, q4, q5, q6, q7, q8]
          · cases ho
            have h21 : A0.tmps[21]?.getD undef = .pointer (some ⟨g, (j + 1) * 3, none⟩) := hin 3 21 (by kernel_rfl)
            exact exec_load 21 _ rfl stRow ⟨g, (j + 1) * 3, none⟩ y h21 HYr.out.1 Haty.out
          · cases ho
            exact exec_move 0 _ rfl (hk 0 (by kernel_rfl))
          · cases ho
            exact exec_move 5 _ rfl (hk 5 (by kernel_rfl))
          · cases ho
            have h24 : A0.tmps[24]?.getD undef = .int .i64 ((j : Int) + 1) := hin 6 24 (by kernel_rfl)
            exact by simp [go_sem, h24, q0, q1, q2, q3, q4, q5, q6, q7, q8]
          · cases ho
            have h23 : A0.tmps[23]?.getD undef = .slice (some ⟨g, 0, none⟩) n cap := hin 5 23 (by kernel_rfl)
            have h25 : A0.tmps[25]?.getD undef = .int .i64 (j : Int) := hin 7 25 (by kernel_rfl)
            exact by simp [go_sem, h23, h25, q0, q1, q2, q3, q4, q5, q6, q7, q8]
          · cases ho
            have h26 : A0.tmps[26]?.getD undef = .pointer (some ⟨g, j * 3, none⟩) := hin 8 26 (by kernel_rfl)
            exact exec_load 26 _ rfl stRow ⟨g, j * 3, none⟩ x h26 HXr.out.1 Hatx.out
        simp only [putsL, Act.put, List.setIfInBounds_toArray, List.set_cons_succ, List.set_cons_zero]
        refine AtN.list 10 11 (by kernel_rfl) ?_
        change wpList _ _ _ [_] _ _
        go_wp2_with fail
        refine Hcall.out.mono ?_
        rintro e3 W3 ⟨rfl, hN3⟩
        have HN3 := Lib.hid (HNd.out.trans hN3 (fun _ _ x => x))
        clear hN3 Hcall HNd Hatx Haty
        cases b with
        | false =>
          have HAll2 := Lib.hid (show ∀ i, i < j + 1 + 1 → keepB q d i = true from fun i hi => by
            by_cases h : i < j + 1
            · exact HAll.out i h
            · rw [show i = j + 1 by omega, Hkb.out]; rfl)
          go_wp2_with fail
          change AtN _ _ _ 11 _ _
          refine AtN.done rfl ?_
          go_wp2_with fail
          go_roundw
          case rel => exact ⟨j + 1 + 1, by omega, by omega, by go_num, HAll2.out, HN3.out⟩
          case measure => simp only [intOf]; omega
        | true =>
          have HT3 := Lib.hid (HT.out.chg HN3.out id)
          have hC0 : cptN q d (j + 1 + 1) = d.take (j + 1) := by
            rw [cptN_succ Hy.out, if_neg (by rw [Hkb.out]; decide), List.append_nil, cptN_all (by omega) HAll.out]
          have HC0 := Lib.hid hC0
          have hcj : ¬ cap = j + 1 := by omega
          have hcj2 : j + 1 ≤ n := by omega
          have q9 : (j : Int) + 1 ≤ (n : Int) := by omega
          have q10 : (n : Int) ≤ (cap : Int) := by omega
          clear hC0
          go_wp2_with fail
          change AtN _ _ _ 11 _ _
          refine AtN.done rfl ?_
          go_wp2_with fail
          go_loopw [5, 7] (fun u5 u7 wr => ∃ (c : Nat) (C : List (List Value)), 1 ≤ c ∧ j + 1 + c ≤ n ∧ C = cptN q d (j + 1 + c) ∧ C.length < j + 1 + c ∧ u5 = .int .i64 C.length ∧ u7 = .int .i64 c ∧ Tab wr g n (C ++ d.drop C.length) rest ∧ Chg w wr (fun k => k = g)) (fun _ u7 _ => n - (intOf u7).toNat)
          case atStart =>
            refine ⟨1, d.take (j + 1), Nat.le_refl _, by omega, HC0.out.symm, by rw [List.length_take]; omega, ?_, by go_num, ?_, HN3.out.mono (fun _ _ x => x.elim)⟩
            · rw [List.length_take, hlen, Nat.min_eq_left hcj2]
              go_num
            · rw [List.length_take, hlen, Nat.min_eq_left hcj2, List.take_append_drop]
              exact HT3.out
          case round =>
            clear HT3 HC0 HN3 q0 q1 q2 q3 q4 q5 q6 q7 q8 HXr HYr Hy Hkb HAll
            obtain ⟨c, C, hc1, hcn, hC, hCl, rfl, rfl, ht, hch⟩ := hrel
            have HC := Lib.hid hC
            have HTe := Lib.hid ht
            have HCh := Lib.hid hch
            obtain ⟨i, hi⟩ : ∃ i, C.length = i := ⟨_, rfl⟩
            rw [hi] at hCl HTe ⊢
            have Hi := Lib.hid hi
            clear hC ht hch hi
            by_cases hlt : j + 1 + c < n
            · have r1 : (c : Int) < ((n - (j + 1) : Nat) : Int) := by omega
              obtain ⟨t0, htt⟩ : ∃ t0, t0 + 1 = j + 1 + c := ⟨j + c, by omega⟩
              obtain ⟨y, hy, hye, hyr⟩ := HT.out.cs (i := t0 + 1) (by omega)
              obtain ⟨x, hx, hxe, hxr⟩ := HT.out.cs (i := t0) (by omega)
              have hgy : (C ++ d.drop i)[t0 + 1]? = some y := by
                rw [List.getElem?_append_right (by rw [Hi.out]; omega), Hi.out, List.getElem?_drop, show i + (t0 + 1 - i) = t0 + 1 by omega]; exact hy
              have hgx : (C ++ d.drop i)[t0]? = some x := by
                rw [List.getElem?_append_right (by rw [Hi.out]; omega), Hi.out, List.getElem?_drop, show i + (t0 - i) = t0 by omega]; exact hx
              obtain ⟨b, hb⟩ : ∃ b, q y x = b := ⟨_, rfl⟩
              have hcall := HQ.out y hye x hxe wr.drew HCh.out.drew
              rw [hb] at hcall
              have hkb := keepB_at (q := q) hy hx
              rw [hb] at hkb
              have hsucc := cptN_succ (q := q) hy
              rw [hkb, htt, ← HC.out] at hsucc
              have HTd := Lib.hid (HTe.out.chg ((Chg.refl wr (fun _ => False)).drew) id)
              have HSu := Lib.hid hsucc
              have Hcall := Lib.hid hcall
              have HYr := Lib.hid hyr
              have HXr := Lib.hid hxr
              have HChd := Lib.hid HCh.out.drew
              have ea : (t0 + 1) * 3 = (j + 1) * 3 + c * 3 := by omega
              have eb : t0 * 3 = (j + 1) * 3 + (c - 1) * 3 := by omega
              have hatx := HTd.out.get hgx
              have haty := HTd.out.get hgy
              rw [eb] at hatx
              rw [ea] at haty
              have Hatx := Lib.hid hatx
              have Haty := Lib.hid haty
              clear hx hy hxe hye hxr hyr hcall HTe hkb hb hgx hgy hsucc hatx haty ea eb
              go_upto_region 11 with fail
              refine wp_region_at (by kernel_rfl) ?_
              generalize wr.drew = wd at Hcall HChd Hatx Haty HTd ⊢
              have q0 : (0 : Int) ≤ (c : Int) := by omega
              have q1 : (0 : Int) ≤ (c : Int) - 1 := by omega
              have q2 : (c : Int) - 1 < ((n - (j + 1) : Nat) : Int) := by omega
              have q3 : c < n - (j + 1) := by omega
              have q4 : c - 1 < n - (j + 1) := by omega
              have q5 : ((c : Int) - 1).toNat = c - 1 := by omega
              have q6 : IntKind.i64.wrap ((c : Int) - 1) = ((c - 1 : Nat) : Int) := by rw [IntKind.wrap_i64]; omega
              have q7 : (0 : Int) ≤ ((c - 1 : Nat) : Int) := by omega
              have q8 : ((c - 1 : Nat) : Int) < ((n - (j + 1) : Nat) : Int) := by omega
              refine AtN.segQ2 0 10 (fun
                | 0 => .func (.func f) #[] lb
                | 1 => .slice (some ⟨g, (j + 1) * 3, none⟩) (n - (j + 1)) (cap - (j + 1))
                | 2 => .int .i64 c
                | 3 => .pointer (some ⟨g, (j + 1) * 3 + c * 3, none⟩)
                | 4 => .agg y.toArray
                | 5 => .slice (some ⟨g, (j + 1) * 3, none⟩) (n - (j + 1)) (cap - (j + 1))
                | 6 => .int .i64 c
                | 7 => .int .i64 ((c - 1 : Nat) : Int)
                | 8 => .pointer (some ⟨g, (j + 1) * 3 + (c - 1) * 3, none⟩)
                | _ => .agg x.toArray)
                [(38, .func (.func f) #[] lb), (39, .slice (some ⟨g, (j + 1) * 3, none⟩) (n - (j + 1)) (cap - (j + 1))), (40, .int .i64 c), (41, .pointer (some ⟨g, (j + 1) * 3 + c * 3, none⟩)), (42, .agg y.toArray), (43, .slice (some ⟨g, (j + 1) * 3, none⟩) (n - (j + 1)) (cap - (j + 1))), (44, .int .i64 c), (45, .int .i64 ((c - 1 : Nat) : Int)), (46, .pointer (some ⟨g, (j + 1) * 3 + (c - 1) * 3, none⟩)), (47, .agg x.toArray)] (by kernel_rfl) (by kernel_rfl) (by kernel_rfl) (by kernel_rfl) rfl (fun i hn hi o ho A0 hin hk => ?_) ?_
              · rcases (show i = 0 ∨ i = 1 ∨ i = 2 ∨ i = 3 ∨ i = 4 ∨ i = 5 ∨ i = 6 ∨ i = 7 ∨ i = 8 ∨ i = 9 by omega) with rfl | rfl | rfl | rfl | rfl | rfl | rfl | rfl | rfl | rfl
                · cases ho
                  exact exec_move 1 _ rfl (hk 1 (by kernel_rfl))
                · cases ho
                  exact exec_move 6 _ rfl (hk 6 (by kernel_rfl))
                · cases ho
                  exact exec_move 7 _ rfl (hk 7 (by kernel_rfl))
                · cases ho
                  have h39 : A0.tmps[39]?.getD undef = .slice (some ⟨g, (j + 1) * 3, none⟩) (n - (j + 1)) (cap - (j + 1)) := hin 1 39 (by kernel_rfl)
                  have h40 : A0.tmps[40]?.getD undef = .int .i64 c := hin 2 40 (by kernel_rfl)
                  exact by simp [go_sem, h39, h40, q0, r1, q3, q4, q7, q8]
                · cases ho
                  have h41 : A0.tmps[41]?.getD undef = .pointer (some ⟨g, (j + 1) * 3 + c * 3, none⟩) := hin 3 41 (by kernel_rfl)
                  exact exec_load 41 _ rfl stRow ⟨g, (j + 1) * 3 + c * 3, none⟩ y h41 HYr.out.1 Haty.out
                · cases ho
                  exact exec_move 6 _ rfl (hk 6 (by kernel_rfl))
                · cases ho
                  exact exec_move 7 _ rfl (hk 7 (by kernel_rfl))
                · cases ho
                  have h44 : A0.tmps[44]?.getD undef = .int .i64 c := hin 6 44 (by kernel_rfl)
                  exact by simp [go_sem, h44, q6]
                · cases ho
                  have h43 : A0.tmps[43]?.getD undef = .slice (some ⟨g, (j + 1) * 3, none⟩) (n - (j + 1)) (cap - (j + 1)) := hin 5 43 (by kernel_rfl)
                  have h45 : A0.tmps[45]?.getD undef = .int .i64 ((c - 1 : Nat) : Int) := hin 7 45 (by kernel_rfl)
                  exact by simp [go_sem, h43, h45, q0, r1, q3, q4, q7, q8]
                · cases ho
                  have h46 : A0.tmps[46]?.getD undef = .pointer (some ⟨g, (j + 1) * 3 + (c - 1) * 3, none⟩) := hin 8 46 (by kernel_rfl)
                  exact exec_load 46 _ rfl stRow ⟨g, (j + 1) * 3 + (c - 1) * 3, none⟩ x h46 HXr.out.1 Hatx.out
              simp only [putsL, Act.put, List.setIfInBounds_toArray, List.set_cons_succ, List.set_cons_zero]
              refine AtN.list 10 12 (by kernel_rfl) ?_
              change wpList _ _ _ [_, _] _ _
              go_wp2_with fail
              refine Hcall.out.mono ?_
              rintro e3 W3 ⟨rfl, hN3⟩
              have HT3 := Lib.hid (HTd.out.chg hN3 id)
              have HCh3 := Lib.hid (HChd.out.trans hN3 (fun _ _ x => x.elim))
              have Haty3 := Lib.hid (Haty.out.chg hN3 id)
              clear hN3 Hcall HTd HChd Hatx Haty
              cases b with
              | true =>
                have HS2 := Lib.hid (show C = cptN q d (j + 1 + (c + 1)) by have := HSu.out; simp only [Bool.not_true, Bool.false_eq_true, if_false, List.append_nil] at this; rw [← this]; congr 1)
                clear HSu
                go_wp2_with fail
                change AtN _ _ _ 12 _ _
                refine AtN.done rfl ?_
                go_wp2_with fail
                go_roundw
                case rel => exact ⟨c + 1, C, by omega, by omega, HS2.out, by rw [Hi.out]; omega, by rw [Hi.out], by go_num, by rw [Hi.out]; exact HT3.out, HCh3.out⟩
                case measure => simp only [intOf]; omega
              | false =>
                have HS2 := Lib.hid (show C ++ [y] = cptN q d (j + 1 + (c + 1)) by have := HSu.out; simp only [Bool.not_false, if_true] at this; rw [← this]; congr 1)
                clear HSu
                have hset : (C ++ d.drop i).set i y = (C ++ [y]) ++ d.drop (i + 1) := by
                  rw [List.set_append_right _ _ (by rw [Hi.out]; exact Nat.le_refl _), Hi.out, Nat.sub_self, List.drop_eq_getElem_cons (by omega), List.set_cons_zero, List.append_assoc, List.singleton_append]
                have hT4 := HT3.out.set (i := i) (cs := y) (by omega) HYr.out
                rw [hset] at hT4
                obtain ⟨cells, hcells⟩ : ∃ cells, cells = ((C ++ d.drop i).flatten ++ rest).toArray := ⟨_, rfl⟩
                rw [← hcells] at hT4
                have HT4 := Lib.hid hT4
                have HCh4 := Lib.hid (HCh3.out.setRow g (layA cells (i * 3) y) (fun _ => rfl))
                have Hl2 := Lib.hid (show (C ++ [y]).length = i + 1 by rw [List.length_append, Hi.out]; rfl)
                have u0 : (i : Int) < (n : Int) := by omega
                have u1 : i < n := by omega
                have Hyl := Lib.hid HYr.out.1
                have Hyo := Lib.hid HYr.out.2
                have hft := HT3.out.fit (i := i) (by omega)
                have hbk := HT3.out.blk
                rw [← hcells] at hft hbk
                have Hft := Lib.hid hft
                have Hbk := Lib.hid hbk
                clear hset hT4 hft hbk hcells
                go_wp2_with fail
                change AtN _ _ _ 12 _ _
                refine AtN.done rfl ?_
                go_wp2_with (first | ((with_reducible refine wpl_load rfl (.tmp 54) 45 rfl stRow ⟨g, (j + 1) * 3 + c * 3, none⟩ y ?_ Hyl.out Haty3.out ?_); exact rfl) | ((with_reducible refine wpl_store rfl (.tmp 56) (.tmp 55) 45 rfl stRow g (i * 3) 45 cells y ?_ ?_ Hbk.out Hyl.out Hft.out Hyo.out ?_); exact rfl; exact rfl))
                go_roundw
                case rel => exact ⟨c + 1, C ++ [y], by omega, by omega, HS2.out, by rw [Hl2.out]; omega, by rw [Hl2.out]; go_num, by go_num, by rw [Hl2.out]; exact HT4.out, HCh4.out⟩
                case measure => simp only [intOf]; omega
            · have hcc : j + 1 + c = n := by omega
              have hCn := HC.out
              rw [hcc] at hCn
              obtain ⟨Z, hZ, hcl⟩ := run_clearK elRow wr 0 g (i * 3) (n - i) (cap - i) ((C ++ d.drop i).flatten ++ rest).toArray 45 HTe.out.blk (by
                have := flatten_len HTe.out.k3
                rw [List.size_toArray, List.length_append, this, HTe.out.len]
                omega)
              have hfin : Tab (wr.setRow g (((C ++ d.drop i).flatten ++ rest).toArray.toList.take (i * 3) ++ Z ++ ((C ++ d.drop i).flatten ++ rest).toArray.toList.drop (i * 3 + (n - i) * 3)).toArray) g i C (Z ++ rest) := by
                have hk : ∀ c ∈ C, c.length = 3 := fun c hc => HTe.out.k3 c (List.mem_append_left _ hc)
                have hfl := flatten_len hk
                have hfa := flatten_len HTe.out.k3
                rw [HTe.out.len] at hfa
                refine ⟨?_, Hi.out, fun c hc => HTe.out.row c (List.mem_append_left _ hc)⟩
                have := HTe.out.blk.set (((C ++ d.drop i).flatten ++ rest).toArray.toList.take (i * 3) ++ Z ++ ((C ++ d.drop i).flatten ++ rest).toArray.toList.drop (i * 3 + (n - i) * 3)).toArray
                have e1 : ((C ++ d.drop i).flatten ++ rest).toArray.toList.take (i * 3) = C.flatten := by
                  simp only [List.flatten_append, List.append_assoc]
                  rw [List.take_append_of_le_length (by rw [hfl, Hi.out]; exact Nat.le_refl _), List.take_of_length_le (by rw [hfl, Hi.out]; exact Nat.le_refl _)]
                have e2 : ((C ++ d.drop i).flatten ++ rest).toArray.toList.drop (i * 3 + (n - i) * 3) = rest := by
                  rw [show i * 3 + (n - i) * 3 = ((C ++ d.drop i).flatten).length by rw [hfa]; omega]
                  simp only []
                  exact List.drop_left
                rw [e1, e2] at this ⊢
                rw [← List.append_assoc]
                exact this
              have hchf := HCh.out.setRow g (((C ++ d.drop i).flatten ++ rest).toArray.toList.take (i * 3) ++ Z ++ ((C ++ d.drop i).flatten ++ rest).toArray.toList.drop (i * 3 + (n - i) * 3)).toArray (fun _ => rfl)
              generalize (((C ++ d.drop i).flatten ++ rest).toArray.toList.take (i * 3) ++ Z ++ ((C ++ d.drop i).flatten ++ rest).toArray.toList.drop (i * 3 + (n - i) * 3)).toArray = cells at hcl hfin hchf
              have HChF := Lib.hid hchf
              clear hchf
              have HFin := Lib.hid hfin
              have HCn := Lib.hid hCn
              have d0 : ¬ cap = i := by omega
              have d1 : (i : Int) ≤ (n : Int) := by omega
              have d2 : (i : Int) ≤ (cap : Int) := by omega
              have d3 : i ≤ cap := by omega
              have d4 : i ≤ n := by omega
              have r1 : decide ((c : Int) < ((n - (j + 1) : Nat) : Int)) = false := decide_eq_false (by omega)
              clear hfin hCn hZ
              go_wp2_with fail
              go_ret
              refine ⟨?_, ?_, HChF.out⟩
              · rw [← HCn.out, Hi.out]
                rfl
              · rw [← HCn.out, Hi.out]
                exact ⟨_, HFin.out⟩
      · have HE := Lib.hid (show cptN q d n = d by rw [cptN_all (by omega) (fun i hi => HAll.out i (by omega)), ← hlen, List.take_length])
        go_wp2_with fail
        go_ret
        rw [HE.out]
        exact ⟨congrArg (fun z => Ending.returned (.slice (some ⟨g, 0, none⟩) z cap)) hlen.symm, ⟨rest, by rw [hlen]; exact HT.out.chg HN.out id⟩, HN.out.mono (fun _ _ x => x.elim)⟩
end Go.Proofs.Ytfocjfnkcabbgaa

set_option linter.unusedVariables false
namespace Go.Proofs.Ytfocjfnkcabbgaa
open Go.RowKit Go.Shelf

def ClonePostRow (w : World) (css : List (List Value)) (e : Ending) (w' : World) : Prop :=
  ∃ v', e = .returned v' ∧ Own w' w.heap.size 45 3 v' css ∧ New w w'

set_option maxHeartbeats 1000000 in
set_option maxRecDepth 100000 in
theorem cloneNilRow (w : World) (n c : Nat) : Calls Try.prog 30 #[.slice none n c] w (ClonePostRow w []) := by
  have hnil := fun w => Lib.run_eql_slice_nil (P := Try.prog) w 29 45 none n c 0 0 elRow.und
  go_enter Try.func30, Try.ntmps30
  go_wp2_with fail
  go_ret
  exact ⟨_, rfl, Own.nil _ _ _ _, Chg.refl _ _⟩

set_option maxHeartbeats 1000000 in
set_option maxRecDepth 100000 in
theorem cloneSomeRow (w : World) (a : Addr) (n c : Nat) (css : List (List Value)) (hn : n = css.length) (hrows : RowsAt w a 3 css) (h1 : ∀ cs ∈ css, ∀ u ∈ cs, u.oneCell' = true) (hb : n * 48 ≤ 140737488355328) (ha : a.block < w.heap.size) :
    Calls Try.prog 30 #[.slice (some a) n c] w (ClonePostRow w css) := by
  have hsome := fun w => Lib.run_eql_slice_nil (P := Try.prog) w 29 45 (some a) n c 0 0 elRow.und
  obtain ⟨w1, hw1⟩ : ∃ w1, w1 = w.alloc (.cells #[] 45) := ⟨_, rfl⟩
  have hc1 : New w w1 := by rw [hw1]; exact (Chg.refl w _).alloc _
  have hk : ∀ cs ∈ css, cs.length = 3 := fun cs hc => by
    obtain ⟨i, hi, rfl⟩ := List.getElem_of_mem hc
    exact (hrows i _ (List.getElem?_eq_getElem hi)).1
  have hown1 : w1.ownsRow w.heap.size 45 3 (.slice (some ⟨w.heap.size, 0, none⟩) 0 0) 0 [] :=
    ⟨by simp, .inr ⟨w.heap.size, 0, #[], rfl, Nat.le_refl _, by rw [hw1]; exact heap_alloc_new w _, Nat.le_refl _, Nat.zero_le _, by simp, by simp⟩⟩
  obtain ⟨v', w', hrun, hown', hgr, _, _⟩ := elRow.append w1 29 w.heap.size _ 0 [] hown1 a n c css.flatten (by rw [flatten_len hk, hn]) (fun j u hj => by
      have hlt : j < css.flatten.length := (List.getElem?_eq_some_iff.1 hj).1
      rw [flatten_len hk] at hlt
      have hq : j / 3 < css.length := Nat.div_lt_of_lt_mul (by rw [Nat.mul_comm]; exact hlt)
      have hr := hrows (j / 3) _ (List.getElem?_eq_getElem hq)
      have hjr : j % 3 < (css[j / 3]).length := by rw [hr.1]; exact Nat.mod_lt _ (by omega)
      have hu : css.flatten[j / 3 * 3 + j % 3]? = some (css[j / 3][j % 3]) := flatten_get hk (List.getElem?_eq_getElem hq) (List.getElem?_eq_getElem hjr)
      have hjj : j / 3 * 3 + j % 3 = j := by rw [Nat.mul_comm]; exact Nat.div_add_mod j 3
      rw [hjj] at hu
      rw [hu] at hj
      have hcell := hr.2 (j % 3) _ (List.getElem?_eq_getElem hjr)
      rw [add_add, hjj] at hcell
      rw [hc1.cell (by rw [add_block]; exact ha) id, hcell]
      exact hj) (fun u hu => by
        obtain ⟨cs, hcs, hu⟩ := List.mem_flatten.1 hu
        exact h1 cs hcs u hu) (by unfold maxLen; omega) (by omega) hc1.size
  simp only [Nat.zero_add, List.nil_append] at hown'
  have hfin : ClonePostRow w css (.returned v') w' := by
    refine ⟨v', rfl, ⟨by rw [← hn]; exact hown', hk⟩, hc1.trans (Chg.of_grown hgr) (fun k hk h => ?_)⟩
    simp only [Value.ownBlock, Option.some.injEq] at h
    omega
  have Hrun := Lib.hid hrun
  have Hfin := Lib.hid hfin
  have HW := Lib.hid hw1
  clear hrun hfin hown' hgr hown1 hrows h1 hc1 hk hn hw1
  go_enter Try.func30, Try.ntmps30
  go_wp2_with (rw [← HW.out]; (with_reducible refine wpl_append rfl (.tmp 5) (.tmp 6) 29 29 rfl ?_ ?_ Hrun.out ?_); exact rfl; exact rfl)
  go_ret
  exact Hfin.out

/-- slices.Clone(s). -/
theorem cloneRow (w : World) (A : Option Addr) (n c : Nat) (css : List (List Value)) (hn : n = css.length) (hrows : 0 < css.length → ∃ a, A = some a ∧ RowsAt w a 3 css) (hA : ∀ a, A = some a → a.block < w.heap.size) (h1 : ∀ cs ∈ css, ∀ u ∈ cs, u.oneCell' = true) (hb : n * 48 ≤ 140737488355328) :
    Calls Try.prog 30 #[.slice A n c] w (ClonePostRow w css) := by
  cases A with
  | none =>
    have h0 : css = [] := by
      cases css with
      | nil => rfl
      | cons x l =>
        obtain ⟨a, h, _⟩ := hrows (by simp)
        cases h
    subst h0
    exact cloneNilRow w n c
  | some a =>
    refine cloneSomeRow w a n c css hn ?_ h1 hb (hA a rfl)
    intro i cs hi
    obtain ⟨a', he, hr⟩ := hrows (by have := (List.getElem?_eq_some_iff.1 hi).1; omega)
    injection he with he
    subst he
    exact hr i cs hi
end Go.Proofs.Ytfocjfnkcabbgaa

set_option linter.unusedVariables false
namespace Go.Proofs.Ytfocjfnkcabbgaa
open Go.RowKit Go.Shelf

def ClonePostValue (w : World) (css : List (List Value)) (e : Ending) (w' : World) : Prop :=
  ∃ v', e = .returned v' ∧ Own w' w.heap.size 37 4 v' css ∧ New w w'

set_option maxHeartbeats 1000000 in
set_option maxRecDepth 100000 in
theorem cloneNilValue (w : World) (n c : Nat) : Calls Try.prog 22 #[.slice none n c] w (ClonePostValue w []) := by
  have hnil := fun w => Lib.run_eql_slice_nil (P := Try.prog) w 35 37 none n c 0 0 elValue.und
  go_enter Try.func22, Try.ntmps22
  go_wp2_with fail
  go_ret
  exact ⟨_, rfl, Own.nil _ _ _ _, Chg.refl _ _⟩

set_option maxHeartbeats 1000000 in
set_option maxRecDepth 100000 in
theorem cloneSomeValue (w : World) (a : Addr) (n c : Nat) (css : List (List Value)) (hn : n = css.length) (hrows : RowsAt w a 4 css) (h1 : ∀ cs ∈ css, ∀ u ∈ cs, u.oneCell' = true) (hb : n * 56 ≤ 140737488355328) (ha : a.block < w.heap.size) :
    Calls Try.prog 22 #[.slice (some a) n c] w (ClonePostValue w css) := by
  have hsome := fun w => Lib.run_eql_slice_nil (P := Try.prog) w 35 37 (some a) n c 0 0 elValue.und
  obtain ⟨w1, hw1⟩ : ∃ w1, w1 = w.alloc (.cells #[] 37) := ⟨_, rfl⟩
  have hc1 : New w w1 := by rw [hw1]; exact (Chg.refl w _).alloc _
  have hk : ∀ cs ∈ css, cs.length = 4 := fun cs hc => by
    obtain ⟨i, hi, rfl⟩ := List.getElem_of_mem hc
    exact (hrows i _ (List.getElem?_eq_getElem hi)).1
  have hown1 : w1.ownsRow w.heap.size 37 4 (.slice (some ⟨w.heap.size, 0, none⟩) 0 0) 0 [] :=
    ⟨by simp, .inr ⟨w.heap.size, 0, #[], rfl, Nat.le_refl _, by rw [hw1]; exact heap_alloc_new w _, Nat.le_refl _, Nat.zero_le _, by simp, by simp⟩⟩
  obtain ⟨v', w', hrun, hown', hgr, _, _⟩ := elValue.append w1 35 w.heap.size _ 0 [] hown1 a n c css.flatten (by rw [flatten_len hk, hn]) (fun j u hj => by
      have hlt : j < css.flatten.length := (List.getElem?_eq_some_iff.1 hj).1
      rw [flatten_len hk] at hlt
      have hq : j / 4 < css.length := Nat.div_lt_of_lt_mul (by rw [Nat.mul_comm]; exact hlt)
      have hr := hrows (j / 4) _ (List.getElem?_eq_getElem hq)
      have hjr : j % 4 < (css[j / 4]).length := by rw [hr.1]; exact Nat.mod_lt _ (by omega)
      have hu : css.flatten[j / 4 * 4 + j % 4]? = some (css[j / 4][j % 4]) := flatten_get hk (List.getElem?_eq_getElem hq) (List.getElem?_eq_getElem hjr)
      have hjj : j / 4 * 4 + j % 4 = j := by rw [Nat.mul_comm]; exact Nat.div_add_mod j 4
      rw [hjj] at hu
      rw [hu] at hj
      have hcell := hr.2 (j % 4) _ (List.getElem?_eq_getElem hjr)
      rw [add_add, hjj] at hcell
      rw [hc1.cell (by rw [add_block]; exact ha) id, hcell]
      exact hj) (fun u hu => by
        obtain ⟨cs, hcs, hu⟩ := List.mem_flatten.1 hu
        exact h1 cs hcs u hu) (by unfold maxLen; omega) (by omega) hc1.size
  simp only [Nat.zero_add, List.nil_append] at hown'
  have hfin : ClonePostValue w css (.returned v') w' := by
    refine ⟨v', rfl, ⟨by rw [← hn]; exact hown', hk⟩, hc1.trans (Chg.of_grown hgr) (fun k hk h => ?_)⟩
    simp only [Value.ownBlock, Option.some.injEq] at h
    omega
  have Hrun := Lib.hid hrun
  have Hfin := Lib.hid hfin
  have HW := Lib.hid hw1
  clear hrun hfin hown' hgr hown1 hrows h1 hc1 hk hn hw1
  go_enter Try.func22, Try.ntmps22
  go_wp2_with (rw [← HW.out]; (with_reducible refine wpl_append rfl (.tmp 5) (.tmp 6) 35 35 rfl ?_ ?_ Hrun.out ?_); exact rfl; exact rfl)
  go_ret
  exact Hfin.out

/-- slices.Clone(s). -/
theorem cloneValue (w : World) (A : Option Addr) (n c : Nat) (css : List (List Value)) (hn : n = css.length) (hrows : 0 < css.length → ∃ a, A = some a ∧ RowsAt w a 4 css) (hA : ∀ a, A = some a → a.block < w.heap.size) (h1 : ∀ cs ∈ css, ∀ u ∈ cs, u.oneCell' = true) (hb : n * 56 ≤ 140737488355328) :
    Calls Try.prog 22 #[.slice A n c] w (ClonePostValue w css) := by
  cases A with
  | none =>
    have h0 : css = [] := by
      cases css with
      | nil => rfl
      | cons x l =>
        obtain ⟨a, h, _⟩ := hrows (by simp)
        cases h
    subst h0
    exact cloneNilValue w n c
  | some a =>
    refine cloneSomeValue w a n c css hn ?_ h1 hb (hA a rfl)
    intro i cs hi
    obtain ⟨a', he, hr⟩ := hrows (by have := (List.getElem?_eq_some_iff.1 hi).1; omega)
    injection he with he
    subst he
    exact hr i cs hi
end Go.Proofs.Ytfocjfnkcabbgaa
