/- The walk of GroupTurns. -/
import Derived.Test.YtenkobgeflckdaaLGc
import Derived.Test.YtenkobgeflckdaaSegF
set_option linter.unusedVariables false
set_option linter.unusedSimpArgs false
namespace Go.Proofs.Ytenkobgeflckdaa
open Go.RowKit Go.Shelf

theorem nm_eq (a b : ByteArray) : (a.toList == b.toList) = decide (a = b) := by
  by_cases h : a = b
  · simp [h]
  · rw [decide_eq_false h, beq_eq_false_iff_ne]
    exact fun e => h (tl_eq'.1 e)
theorem RowsCs.take {w : World} {css : List (List Value)} {rs : List Rw} (h : RowsCs w css rs) (q : Nat) : RowsCs w (css.take q) (rs.take q) := ⟨by rw [List.length_take, List.length_take, h.1], fun i cs hi => by
  rw [List.getElem?_take] at hi
  split at hi
  · rename_i hlt
    obtain ⟨r, h1, h2⟩ := h.2 i cs hi
    exact ⟨r, by rw [List.getElem?_take, if_pos hlt]; exact h1, h2⟩
  · cases hi⟩
theorem RowsCs.drop {w : World} {css : List (List Value)} {rs : List Rw} (h : RowsCs w css rs) (q : Nat) : RowsCs w (css.drop q) (rs.drop q) := ⟨by rw [List.length_drop, List.length_drop, h.1], fun i cs hi => by
  rw [List.getElem?_drop] at hi
  obtain ⟨r, h1, h2⟩ := h.2 (q + i) cs hi
  exact ⟨r, by rw [List.getElem?_drop]; exact h1, h2⟩⟩
theorem RowSlC.take {W : World} {A : Option Addr} {n c : Nat} {css : List (List Value)} {rs : List Rw} (h : RowSlC W (.slice A n c) css rs) {q : Nat} (hq : q ≤ n) : RowSlC W (.slice A q c) (css.take q) (rs.take q) := by
  obtain ⟨A', c', e, h2, h3, h4, h5, h6, h7⟩ := h
  simp only [Value.slice.injEq] at e
  obtain ⟨rfl, e2, rfl⟩ := e
  have hl : (rs.take q).length = q := by rw [List.length_take]; omega
  exact ⟨A, c, by rw [hl], by omega, by omega, h4, h5.take q, h6.take q, h7⟩
theorem RowSlC.drop {W : World} {a : Addr} {n c : Nat} {css : List (List Value)} {rs : List Rw} (h : RowSlC W (.slice (some a) n c) css rs) {q : Nat} (hq : q < n) : RowSlC W (.slice (some (a.add (q * 3))) (n - q) (c - q)) (css.drop q) (rs.drop q) := by
  obtain ⟨A', c', e, h2, h3, h4, h5, h6, h7⟩ := h
  simp only [Value.slice.injEq] at e
  obtain ⟨rfl, e2, rfl⟩ := e
  have hl : (rs.drop q).length = n - q := by rw [List.length_drop]; omega
  have hs := h5.drop (i := q) (cap := c) (by rw [h6.1]; omega) (by rw [h6.1]; omega)
  rw [if_neg (by omega)] at hs
  exact ⟨_, _, by rw [hl], by omega, by omega, by omega, hs, h6.drop q, fun a' ha => by cases ha; rw [add_block]; exact h7 a rfl⟩
theorem turn_mem {rs : List Rw} (q : Nat) (r : Rw) : r ∈ rs ↔ r ∈ rs.drop q ++ rs.take q := by
  conv => lhs; rw [← List.take_append_drop q rs]
  rw [List.mem_append, List.mem_append]
  exact or_comm
theorem filter_take {x : List Rw} {p : Rw → Bool} {i : Nat} {r : Rw} (h : x[i]? = some r) : (x.take (i + 1)).filter p = (x.take i).filter p ++ (if p r = true then [r] else []) := by
  rw [take_succ_get h, List.filter_append]
  congr 1
  by_cases hp : p r = true <;> simp [hp]

set_option maxHeartbeats 8000000 in
set_option maxRecDepth 100000 in
theorem walk_GroupTurns (w : World) (v0 : Value) (n0 : Nat) (X0 : Nat → Int) (hx0 : IntsAt w v0 6 n0 X0) (c2 : Int) (h20 : -9223372036854775808 ≤ c2) (h21 : c2 ≤ 9223372036854775807) (c1 : Int) (h10 : -9223372036854775808 ≤ c1) (h11 : c1 ≤ 9223372036854775807) :
    Calls Try.prog 14 #[v0, .int .i64 c2, .int .i64 c1] w fun e w' => e = .returned (.bool true) ∧ New w w' := by
  have HX0 := Lib.hid hx0
  obtain ⟨a, ha⟩ : ∃ a : Nat, pk c1 3 = a := ⟨(pk c1 3).toNat, by have := pk_lo c1 3 (by omega); omega⟩
  have ha3 : a < 3 := by have := pk_hi c1 3 (by omega); omega
  have hp1 := fun W => pick11 W c1 3 h10 h11 (by omega) (by omega)
  rw [ha] at hp1
  have HP1 := Lib.hid hp1
  clear hx0 hp1 ha
  go_enter Try.func14, Try.ntmps14
  go_wp2_with fail
  refine (awake11 _).mono ?_
  rintro e w1 ⟨rfl, hN1⟩
  have HR := Lib.hid (rows_sl w1 v0 n0 X0 (HX0.out.chg hN1))
  have HN1 := Lib.hid hN1
  clear hN1 HX0
  go_wp2_with fail
  refine HR.out.mono ?_
  rintro e w2 ⟨vl, rs, rfl, hl, hl40, hg, hN2⟩
  have hcan : ∀ r ∈ rs, canonR r := fun r hr => (hg r hr).can
  have HL2 := Lib.hid hl
  have HCan := Lib.hid hcan
  have HN2 := Lib.hid (HN1.out.trans hN2 (fun _ _ x => x))
  clear hN2 hl hg HR HN1 hcan
  go_wp2_with fail
  refine (aggs_any w2).mono ?_
  rintro e w3 ⟨b, rfl, hb, hN3⟩
  have hca := ag_cell hb ha3
  obtain ⟨ag, hag⟩ : ∃ g, agOf a = g := ⟨_, rfl⟩
  rw [hag] at hca
  have hL3 := HL2.out.chg hN3
  obtain ⟨Al, cl, hvl, _⟩ := hL3.form
  subst hvl
  obtain ⟨nl, hnl⟩ : ∃ n, rs.length = n := ⟨_, rfl⟩
  rw [hnl] at hL3 hl40 ⊢
  have HL3 := Lib.hid hL3
  have Hnl := Lib.hid hnl
  have HN3 := Lib.hid (HN2.out.trans hN3 (fun _ _ x => x))
  have qa : (a : Int) < 3 := by omega
  obtain ⟨nm, hnm⟩ : ∃ s, agName ag = s := ⟨_, rfl⟩
  rw [hnm] at hca
  have HGr := Lib.hid (show ∀ W v rs', RowSl W v rs' → Calls Try.prog 41 #[.string nm, .int .i64 1, v] W (GroupPost W rs' ag 1) from fun W v rs' h => by rw [← hnm]; exact group_rows W ag 1 (by omega) (by omega) v rs' h)
  clear hN3 HL2 HN2 hb hag hL3 hnl hnm
  by_cases hz : nl = 0
  · have hrs : rs = [] := List.eq_nil_of_length_eq_zero (by rw [Hnl.out, hz])
    subst hz
    have HG0 := Lib.hid (HGr.out w3 _ rs HL3.out)
    go_wp2_with (go_at_call 40; refine (HP1.out _).mono ?_; rintro e w' ⟨rfl, rfl⟩)
    refine HG0.out.mono ?_
    rintro e w4 ⟨vg, m, res, rfl, hm, hr, hgl, hN4⟩
    rw [hrs] at hm
    obtain rfl := merge_nil (show IsMerge [] m from hm)
    obtain rfl := merge_nil (show IsMerge [] res from hr)
    obtain ⟨A0, c0, rfl⟩ := hgl.form0
    have HN4 := Lib.hid (HN3.out.trans hN4 (fun _ _ x => x))
    clear hm hr hgl hN4
    go_wp2_with fail
    go_ret
    exact ⟨rfl, HN4.out⟩
  · obtain ⟨q, hq⟩ : ∃ q : Nat, pk c2 nl = q := ⟨(pk c2 nl).toNat, by have := pk_lo c2 nl (by omega); omega⟩
    have hqn : q < nl := by have := pk_hi c2 nl (by omega); omega
    have hp2 := fun W => pick11 W c2 nl h20 h21 (by omega) (by omega)
    rw [hq] at hp2
    have HP2 := Lib.hid hp2
    have dz : ((nl : Int) == 0) = false := by simp; omega
    have dz2 : decide ((nl : Int) = 0) = false := decide_eq_false (by omega)
    obtain ⟨x0, hx0⟩ : ∃ r, rs[q]? = some r := ⟨_, List.getElem?_eq_getElem (by rw [Hnl.out]; exact hqn)⟩
    obtain ⟨la, xc, hla, hxat, hx3, hxrow⟩ := HL3.out.row hx0
    subst hla
    obtain ⟨css, hcss⟩ := HL3.out.cells
    have hncap : nl ≤ cl := by
      obtain ⟨A', c', e, _, h3, _⟩ := hcss
      simp only [Value.slice.injEq] at e
      omega
    have hlaB : la.block < w3.heap.size := by
      obtain ⟨A', c', e, _, _, _, _, _, h7⟩ := hcss
      simp only [Value.slice.injEq] at e
      exact h7 la e.1.symm
    obtain ⟨X0', x0c, hxce, _⟩ := hxrow.args
    have hxn : w3.cell? (la.add (q * 3)) = some (.string x0.name) := by
      have := hxat 0 (.string x0.name) (by rw [hxce]; rfl)
      rwa [show (la.add (q * 3)).add 0 = la.add (q * 3) from rfl] at this
    have HCs := Lib.hid hcss
    have HXn := Lib.hid hxn
    clear hp2 hq hx0 hxat hxrow hcss hxce hxn
    go_upto_region 7 with (go_at_call 40; first | ((with_reducible refine (HP1.out _).mono ?_); rintro e w' ⟨rfl, rfl⟩) | ((with_reducible refine (HP2.out _).mono ?_); rintro e w' ⟨rfl, rfl⟩))
    have hnd : New w3 w3.drew := (Chg.refl _ _).drew
    refine wp_region_at (by kernel_rfl) ?_
    have HL4 := Lib.hid (HL3.out.chg hnd)
    have HCs4 := Lib.hid (HCs.out.chg hnd)
    have HXn4 := Lib.hid (hnd.cellS HXn.out id)
    have HN4 := Lib.hid (HN3.out.trans hnd (fun _ _ x => x))
    clear hnd HL3 HCs HXn HN3 hca
    generalize w3.drew = wd at HL4 HCs4 HXn4 HN4 ⊢
    have p0 : (0 : Int) ≤ (q : Int) := by omega
    have p1 : (q : Int) ≤ (nl : Int) := by omega
    have p2 : (q : Int) ≤ (cl : Int) := by omega
    have p3 : q ≤ nl := by omega
    have p4 : ¬ (cl = q) := by omega
    have p5 : (nl : Int) ≤ (cl : Int) := by omega
    have p6 : q ≤ cl := by omega
    refine AtN.segF 0 8 0 [40, 41, 42, 43, 44, 45, 46, 47] (fun _ => False) (fun
        | 3 => true
        | 7 => true
        | _ => false) (fun
        | 3 => 7
        | _ => 999) (fun
        | 0 => fun v _ => v = .slice (some la) nl cl
        | 1 => fun v _ => v = .int .i64 q
        | 2 => fun v _ => v = .slice (some (la.add (q * 3))) (nl - q) (cl - q)
        | 3 => fun u W => Own W wd.heap.size 58 3 u (css.drop q)
        | 4 => fun v _ => v = .slice (some la) nl cl
        | 5 => fun v _ => v = .int .i64 q
        | 6 => fun v _ => v = .slice (some la) q cl
        | 7 => fun u W => Own W wd.heap.size 58 3 u (css.drop q ++ css.take q)
        | _ => fun _ _ => True : Nat → Value → World → Prop) (by kernel_rfl) (by kernel_rfl) (by kernel_rfl) (by kernel_rfl) (by kernel_rfl) (fun g hg => hg.elim) (fun k u W1 W2 T' h hc ht hT => ?_) (fun i hn hi o ho A0 W b hJ hμ hin hkp hcn => ?_) (fun l W3 hN hl hΦ hap => ?_)
    · match k with
      | 3 => exact h.chg hc (fun g hg => ht rfl g (fpv_own hg))
      | 7 => exact h.chg hc (fun g hg => ht rfl g (fpv_own hg))
      | 0 | 1 | 2 | 4 | 5 | 6 => exact h
      | _ + 8 => trivial
    · rcases (show i = 0 ∨ i = 1 ∨ i = 2 ∨ i = 3 ∨ i = 4 ∨ i = 5 ∨ i = 6 ∨ i = 7 by omega) with rfl | rfl | rfl | rfl | rfl | rfl | rfl | rfl
      · cases ho
        refine .new rfl ?_
        exact .same (exec_move 8 (.slice (some la) nl cl) rfl (hkp 8 (by kernel_rfl))) rfl
      · cases ho
        refine .new rfl ?_
        exact .same (exec_move 10 (.int .i64 q) rfl (hkp 10 (by kernel_rfl))) rfl
      · cases ho
        have h40 : A0.tmps[40]?.getD undef = .slice (some la) nl cl := hin 0 40 (by kernel_rfl)
        have h41 : A0.tmps[41]?.getD undef = .int .i64 q := hin 1 41 (by kernel_rfl)
        refine .new rfl ?_
        exact .same (v := .slice (some (la.add (q * 3))) (nl - q) (cl - q)) (by simp [go_sem, h40, h41, p0, p1, p2, p3, p4, p5, p6]) rfl
      · cases ho
        have h42 : A0.tmps[42]?.getD undef = .slice (some (la.add (q * 3))) (nl - q) (cl - q) := hin 2 42 (by kernel_rfl)
        obtain ⟨v1, W', hrun, hown, hchg, hblk⟩ := append_sl (Own.nil W wd.heap.size 58 3) hJ.1.size ((HCs4.out.drop hqn).chg hJ.1) (by simp) 50
        rw [List.nil_append] at hown
        refine GivesF.value _ (exec_append _ _ _ _ rfl (by simp [Act.eval]) (by simpa [Act.eval] using h42) hrun) hown hchg (fun g _ hg => by cases hg) (fun g hg => ?_)
        rw [hown.fpv] at hg
        exact ⟨(hown.lt hg).2, (hblk g hg).elim (fun h => by cases h) (fun h => .inr (.inl h))⟩
      · cases ho
        refine .new rfl ?_
        exact .same (exec_move 8 (.slice (some la) nl cl) rfl (hkp 8 (by kernel_rfl))) rfl
      · cases ho
        refine .new rfl ?_
        exact .same (exec_move 10 (.int .i64 q) rfl (hkp 10 (by kernel_rfl))) rfl
      · cases ho
        have h44 : A0.tmps[44]?.getD undef = .slice (some la) nl cl := hin 4 44 (by kernel_rfl)
        have h45 : A0.tmps[45]?.getD undef = .int .i64 q := hin 5 45 (by kernel_rfl)
        refine .new rfl ?_
        exact .same (v := .slice (some la) q cl) (by simp [go_sem, h44, h45, p0, p1, p2, p3, p4, p5, p6]) rfl
      · cases ho
        have h43 : (fun u W => Own W wd.heap.size 58 3 u (css.drop q) : Value → World → Prop) (A0.tmps[43]?.getD undef) W := hin 3 43 (by kernel_rfl)
        have h46 : A0.tmps[46]?.getD undef = .slice (some la) q cl := hin 6 46 (by kernel_rfl)
        obtain ⟨v1, W', hrun, hown, hchg, hblk⟩ := append_sl h43 hJ.1.size ((HCs4.out.take (by omega)).chg hJ.1) (by
          rw [List.length_drop]
          have h9 := HCs4.out.cs.1
          have h8 := Hnl.out
          omega) 50
        refine GivesF.value _ (exec_append _ _ _ _ rfl (by simp [Act.eval]) (by simpa [Act.eval] using h46) hrun) hown hchg (fun g _ hg => .inl ⟨3, 43, by kernel_rfl, fpv_own hg⟩) (fun g hg => ?_)
        rw [hown.fpv] at hg
        exact ⟨(hown.lt hg).2, (hblk g hg).elim (fun h => .inl ⟨3, 43, by kernel_rfl, fpv_own h⟩) (fun h => .inr (.inl h))⟩
    obtain ⟨x40, x41, x42, x43, x44, x45, x46, x47, rfl⟩ : ∃ x40 x41 x42 x43 x44 x45 x46 x47, l = [x40, x41, x42, x43, x44, x45, x46, x47] := by
      match l, hl with
      | [x40, x41, x42, x43, x44, x45, x46, x47], _ => exact ⟨_, _, _, _, _, _, _, _, rfl⟩
    obtain rfl : x40 = .slice (some la) nl cl := hΦ 0 (by decide) (by decide)
    obtain rfl : x41 = .int .i64 q := hΦ 1 (by decide) (by decide)
    obtain rfl : x42 = .slice (some (la.add (q * 3))) (nl - q) (cl - q) := hΦ 2 (by decide) (by decide)
    obtain rfl : x44 = .slice (some la) nl cl := hΦ 4 (by decide) (by decide)
    obtain rfl : x45 = .int .i64 q := hΦ 5 (by decide) (by decide)
    obtain rfl : x46 = .slice (some la) q cl := hΦ 6 (by decide) (by decide)
    have hx47 : (fun u W => Own W wd.heap.size 58 3 u (css.drop q ++ css.take q) : Value → World → Prop) x47 W3 := hΦ 7 (by decide) (by decide)
    simp only [putsL, List.zip_cons_cons, List.zip_nil_left, List.zip_nil_right, List.zip, List.zipWith, Act.put, List.setIfInBounds_toArray, List.set_cons_succ, List.set_cons_zero]
    clear hΦ hl
    have hx11 : RowSl W3 x47 (rs.drop q ++ rs.take q) := hx47.rowSl (((HCs4.out.drop hqn).cs.app (HCs4.out.take (by omega)).cs).chg hN) (by
      rw [List.length_append, List.length_drop, List.length_take]
      have h8 := Hnl.out
      omega)
    refine AtN.list 8 9 (by kernel_rfl) ?_
    change wpList _ _ _ [_] _ _
    go_wp2_with fail
    change AtN _ _ _ 9 _ _
    refine AtN.done rfl ?_
    have hmm : RowSl W3 x47 (rs.drop q ++ rs.take q) := hx11
    have HMm := Lib.hid hmm
    have HL5 := Lib.hid (HL4.out.chg hN)
    have HXn5 := Lib.hid ((show New wd W3 from hN).cellS HXn4.out id)
    have HN5 := Lib.hid (HN4.out.trans hN (fun _ _ x => x))
    clear hmm hx11 hN HL4 HCs4 HXn4 HN4 hap
    clear dz dz2 p0 p1 p2 p3 p4 p5 p6
    go_wp2_with fail
    go_loopw [12, 13] (fun us ux wr => ∃ (i : Nat) (cso : List (List Value)), i ≤ nl ∧ ux = .int .i64 i ∧ cso.length ≤ i ∧ Own wr W3.heap.size 58 3 us cso ∧ RowsCs W3 cso ((rs.take i).filter (nmB x0.name)) ∧ New W3 wr) (fun _ u _ => nl - (intOf u).toNat)
    case atStart => exact ⟨0, [], Nat.zero_le _, rfl, Nat.le_refl _, Own.nil _ _ _ _, ⟨rfl, fun i cs h => by simp at h⟩, Chg.refl _ _⟩
    case round =>
      obtain ⟨i, cso, hin, rfl, hcl, hov, hro, hN⟩ := hrel
      have HOv := Lib.hid hov
      have HRo := Lib.hid hro
      have HNw := Lib.hid hN
      clear hov hro hN
      by_cases hlt : i < nl
      · obtain ⟨r, hr⟩ : ∃ r, rs[i]? = some r := ⟨_, List.getElem?_eq_getElem (by rw [Hnl.out]; exact hlt)⟩
        obtain ⟨ra, rc, hra, hrat, hr3, hrrow⟩ := HL5.out.row hr
        cases hra
        obtain ⟨X2, x2, hrce, hlr1000⟩ := hrrow.args
        have htf := filter_take (p := nmB x0.name) hr
        obtain ⟨lr, hlr⟩ : ∃ l, r.args.length = l := ⟨_, rfl⟩
        rw [hlr] at hrce
        subst hrce
        have hnd := HNw.out.drew
        have hcn : wr.drew.cell? (la.add (i * 3)) = some (.string r.name) := (hrat.chg hnd id) 0 (.string r.name) rfl
        obtain ⟨bn, hbn⟩ : ∃ b, decide (r.name = x0.name) = b := ⟨_, rfl⟩
        have hnb : nmB x0.name r = bn := hbn
        have hbe : (r.name.toList == x0.name.toList) = bn := by rw [nm_eq]; exact hbn
        rw [hnb] at htf
        have Htf := Lib.hid htf
        have Hcn := Lib.hid hcn
        have HXn := Lib.hid (hnd.cellS HXn5.out id)
        have HNd := Lib.hid hnd
        have Hrat := Lib.hid hrat
        have Hrrow := Lib.hid hrrow
        have HNdd := Lib.hid (show New wr wr.drew from (Chg.refl _ _).drew)
        have i0 : (0 : Int) ≤ (i : Int) := by omega
        have i1 : (i : Int) < (nl : Int) := by omega
        have j0 : (0 : Int) ≤ (q : Int) := by omega
        have j1 : (q : Int) < (nl : Int) := by omega
        clear hr hrat hrrow htf hnd hcn hbn hnb hlr
        go_upto_region 12 with fail
        refine wp_region_at (by kernel_rfl) ?_
        generalize wr.drew = wd at Hcn HXn HNd HNdd ⊢
        refine AtN.segQ2 0 11 (fun
          | 0 => .slice (some la) nl cl
          | 1 => .int .i64 i
          | 2 => .pointer (some (la.add (i * 3)))
          | 3 => .pointer (some (la.add (i * 3)))
          | 4 => .string r.name
          | 5 => .slice (some la) nl cl
          | 6 => .int .i64 q
          | 7 => .pointer (some (la.add (q * 3)))
          | 8 => .pointer (some (la.add (q * 3)))
          | 9 => .string x0.name
          | _ => .bool bn)
          [(54, .slice (some la) nl cl), (55, .int .i64 i), (56, .pointer (some (la.add (i * 3)))), (57, .pointer (some (la.add (i * 3)))), (58, .string r.name), (59, .slice (some la) nl cl), (60, .int .i64 q), (61, .pointer (some (la.add (q * 3)))), (62, .pointer (some (la.add (q * 3)))), (63, .string x0.name), (64, .bool bn)] (by kernel_rfl) (by kernel_rfl) (by kernel_rfl) (by kernel_rfl) rfl (fun i hn hi o ho A0 hin hk => ?_) ?_
        · rcases (show i = 0 ∨ i = 1 ∨ i = 2 ∨ i = 3 ∨ i = 4 ∨ i = 5 ∨ i = 6 ∨ i = 7 ∨ i = 8 ∨ i = 9 ∨ i = 10 by omega) with rfl | rfl | rfl | rfl | rfl | rfl | rfl | rfl | rfl | rfl | rfl
          · cases ho
            exact exec_move 8 _ rfl (hk 8 (by kernel_rfl))
          · cases ho
            exact exec_move 13 _ rfl (hk 13 (by kernel_rfl))
          · cases ho
            have h54 : A0.tmps[54]?.getD undef = .slice (some la) nl cl := hin 0 54 (by kernel_rfl)
            have h55 : A0.tmps[55]?.getD undef = .int .i64 i := hin 1 55 (by kernel_rfl)
            exact by simp [go_sem, h54, h55, i0, i1, hlt]
          · cases ho
            have h56 : A0.tmps[56]?.getD undef = .pointer (some (la.add (i * 3))) := hin 2 56 (by kernel_rfl)
            exact by simp [go_sem, h56]
          · cases ho
            have h57 : A0.tmps[57]?.getD undef = .pointer (some (la.add (i * 3))) := hin 3 57 (by kernel_rfl)
            exact by simp [go_sem, h57, Hcn.out]
          · cases ho
            exact exec_move 8 _ rfl (hk 8 (by kernel_rfl))
          · cases ho
            exact exec_move 10 _ rfl (hk 10 (by kernel_rfl))
          · cases ho
            have h59 : A0.tmps[59]?.getD undef = .slice (some la) nl cl := hin 5 59 (by kernel_rfl)
            have h60 : A0.tmps[60]?.getD undef = .int .i64 q := hin 6 60 (by kernel_rfl)
            exact by simp [go_sem, h59, h60, j0, j1, hqn]
          · cases ho
            have h61 : A0.tmps[61]?.getD undef = .pointer (some (la.add (q * 3))) := hin 7 61 (by kernel_rfl)
            exact by simp [go_sem, h61]
          · cases ho
            have h62 : A0.tmps[62]?.getD undef = .pointer (some (la.add (q * 3))) := hin 8 62 (by kernel_rfl)
            exact by simp [go_sem, h62, HXn.out]
          · cases ho
            have h58 : A0.tmps[58]?.getD undef = .string r.name := hin 4 58 (by kernel_rfl)
            have h63 : A0.tmps[63]?.getD undef = .string x0.name := hin 9 63 (by kernel_rfl)
            exact by simp [go_sem, h58, h63, hbe]
        simp only [putsL, Act.put, List.setIfInBounds_toArray, List.set_cons_succ, List.set_cons_zero]
        refine AtN.done rfl ?_
        clear hbe
        have HOd := Lib.hid (HOv.out.chg HNdd.out (fun _ _ x => x))
        cases bn with
        | false =>
          have HR2 := Lib.hid (show RowsCs W3 cso ((rs.take (i + 1)).filter (nmB x0.name)) by rw [Htf.out]; simp only [Bool.false_eq_true, if_false, List.append_nil]; exact HRo.out)
          go_wp2_with fail
          go_roundw
          case rel => exact ⟨i + 1, cso, by omega, by go_num, by omega, HOd.out, HR2.out, HNd.out⟩
          case measure => simp only [intOf]; omega
        | true =>
          have HR2 := Lib.hid (show RowsCs W3 (cso ++ [[.string r.name, .slice X2 lr x2, .int .i64 r.stamp]]) ((rs.take (i + 1)).filter (nmB x0.name)) by rw [Htf.out]; simp only [if_true]; exact HRo.out.snoc Hrrow.out)
          have hN4 : New wd (wd.alloc (.cells #[.string r.name, .slice X2 lr x2, .int .i64 r.stamp] 58)) := (Chg.refl _ _).alloc _
          have hB4 : Blk (wd.alloc (.cells #[.string r.name, .slice X2 lr x2, .int .i64 r.stamp] 58)) wd.heap.size 58 ([[.string r.name, .slice X2 lr x2, .int .i64 r.stamp]].flatten).toArray := Blk.new wd _ _
          obtain ⟨v', W', hrun, hown, hchg, hblk⟩ := elRow.appendS (HOd.out.chg hN4 (fun _ _ x => x)) (HNd.out.trans hN4 (fun _ _ x => x)).size (some ⟨wd.heap.size, 0, none⟩) 1 1 [[.string r.name, .slice X2 lr x2, .int .i64 r.stamp]] rfl (fun cs hc => by simp only [List.mem_cons, List.not_mem_nil, or_false] at hc; subst hc; rfl) (fun cs hc => by simp only [List.mem_cons, List.not_mem_nil, or_false] at hc; subst hc; exact Hrrow.out.cs.2) (fun _ => ⟨_, rfl, fun j cs hj => by
            match j, hj with
            | 0, hj => cases hj; exact ⟨rfl, by rw [Nat.zero_mul]; exact (show Blk _ _ _ [.string r.name, .slice X2 lr x2, .int .i64 r.stamp].toArray from hB4).at_⟩
            | j + 1, hj => simp at hj⟩) (by omega) (by unfold maxLen; omega) 50
          have HN5' := Lib.hid ((HNd.out.trans hN4 (fun _ _ x => x)).trans hchg (fun q hq h => absurd ((HOv.out.lt h).1) (by omega)))
          have HO5 := Lib.hid hown
          have Hrun := Lib.hid hrun
          have Hat5 := Lib.hid (Hrat.out.chg HNd.out id)
          clear hN4 hB4 hrun hown hchg hblk
          go_wp2_with (first | ((with_reducible refine wpl_load rfl (.tmp 68) 58 rfl stRow (la.add (i * 3)) [.string r.name, .slice X2 lr x2, .int .i64 r.stamp] ?_ rfl Hat5.out ?_); exact rfl) | ((with_reducible refine wpl_append rfl (.tmp 65) (.tmp 70) 50 50 rfl ?_ ?_ Hrun.out ?_); exact rfl; exact rfl))
          go_roundw
          case rel => exact ⟨i + 1, _, by omega, by go_num, by simp; omega, HO5.out, HR2.out, HN5'.out⟩
          case measure => simp only [intOf]; omega
      · have HF := Lib.hid (show RowsCs W3 cso (rs.filter (nmB x0.name)) by have := HRo.out; rw [List.take_of_length_le (by rw [Hnl.out]; omega)] at this; exact this)
        clear HRo
        have hol : (rs.filter (nmB x0.name)).length ≤ 1000 := by
          have h1 := List.length_filter_le (nmB x0.name) rs
          have h2 := Hnl.out
          omega
        have hone := HOv.out.rowSl (HF.out.chg HNw.out) hol
        have HGa := Lib.hid (HGr.out wr _ _ (HL5.out.chg HNw.out))
        have HOne0 := Lib.hid hone
        clear HF hol hone HOv
        go_wp2_with fail
        refine HGa.out.mono ?_
        rintro e w6 ⟨vg, m, res, rfl, hm, hr, hgl, hN6⟩
        obtain ⟨Ag', cg, hvg, hg1000⟩ := hgl.form
        subst hvg
        obtain ⟨ng, hng⟩ : ∃ n, res.length = n := ⟨_, rfl⟩
        rw [hng] at hgl hg1000 ⊢
        have HMg := Lib.hid hm
        have HRg := Lib.hid hr
        have HGl := Lib.hid hgl
        have Hng := Lib.hid hng
        have HOne := Lib.hid (HOne0.out.chg hN6)
        have HMm5 := Lib.hid ((HMm.out.chg HNw.out).chg hN6)
        have HXn6 := Lib.hid (hN6.cellS (HNw.out.cellS HXn5.out id) id)
        have HN6 := Lib.hid ((HN5.out.trans HNw.out (fun _ _ x => x)).trans hN6 (fun _ _ x => x))
        have HN6x := Lib.hid (show New w6 w6 from Chg.refl _ _)
        clear hm hr hgl hng hN6 HGa HNw
        go_wp2_with fail
        go_loopw [15, 16] (fun us ux wr => ∃ (i : Nat) (cso : List (List Value)), i ≤ ng ∧ ux = .int .i64 i ∧ cso.length ≤ i ∧ Own wr w6.heap.size 58 3 us cso ∧ RowsCs w6 cso ((res.take i).filter (nmB x0.name)) ∧ New w6 wr) (fun _ u _ => ng - (intOf u).toNat)
        case atStart => exact ⟨0, [], Nat.zero_le _, rfl, Nat.le_refl _, Own.nil _ _ _ _, ⟨rfl, fun i cs h => by simp at h⟩, Chg.refl _ _⟩
        case round =>
          obtain ⟨i, cso, hin, rfl, hcl, hov, hro, hN⟩ := hrel
          have HOv := Lib.hid hov
          have HRo := Lib.hid hro
          have HNw := Lib.hid hN
          clear hov hro hN
          by_cases hlt : i < ng
          · obtain ⟨r, hr⟩ : ∃ r, res[i]? = some r := ⟨_, List.getElem?_eq_getElem (by rw [Hng.out]; exact hlt)⟩
            obtain ⟨ra, rc, hra, hrat, hr3, hrrow⟩ := HGl.out.row hr
            cases hra
            obtain ⟨X2, x2, hrce, hlr1000⟩ := hrrow.args
            have htf := filter_take (p := nmB x0.name) hr
            obtain ⟨lr, hlr⟩ : ∃ l, r.args.length = l := ⟨_, rfl⟩
            rw [hlr] at hrce
            subst hrce
            have hnd := HNw.out.drew
            have hcn : wr.drew.cell? (ra.add (i * 3)) = some (.string r.name) := (hrat.chg hnd id) 0 (.string r.name) rfl
            obtain ⟨bn, hbn⟩ : ∃ b, decide (r.name = x0.name) = b := ⟨_, rfl⟩
            have hnb : nmB x0.name r = bn := hbn
            have hbe : (r.name.toList == x0.name.toList) = bn := by rw [nm_eq]; exact hbn
            rw [hnb] at htf
            have Htf := Lib.hid htf
            have Hcn := Lib.hid hcn
            have HXn := Lib.hid (hnd.cellS HXn6.out id)
            have HNd := Lib.hid hnd
            have Hrat := Lib.hid hrat
            have Hrrow := Lib.hid hrrow
            have HNdd := Lib.hid (show New wr wr.drew from (Chg.refl _ _).drew)
            have i0 : (0 : Int) ≤ (i : Int) := by omega
            have i1 : (i : Int) < (ng : Int) := by omega
            have j0 : (0 : Int) ≤ (q : Int) := by omega
            have j1 : (q : Int) < (nl : Int) := by omega
            clear hr hrat hrrow htf hnd hcn hbn hnb hlr
            go_upto_region 19 with fail
            refine wp_region_at (by kernel_rfl) ?_
            generalize wr.drew = wd at Hcn HXn HNd HNdd ⊢
            refine AtN.segQ2 0 11 (fun
              | 0 => .slice (some ra) ng cg
              | 1 => .int .i64 i
              | 2 => .pointer (some (ra.add (i * 3)))
              | 3 => .pointer (some (ra.add (i * 3)))
              | 4 => .string r.name
              | 5 => .slice (some la) nl cl
              | 6 => .int .i64 q
              | 7 => .pointer (some (la.add (q * 3)))
              | 8 => .pointer (some (la.add (q * 3)))
              | 9 => .string x0.name
              | _ => .bool bn)
              [(81, .slice (some ra) ng cg), (82, .int .i64 i), (83, .pointer (some (ra.add (i * 3)))), (84, .pointer (some (ra.add (i * 3)))), (85, .string r.name), (86, .slice (some la) nl cl), (87, .int .i64 q), (88, .pointer (some (la.add (q * 3)))), (89, .pointer (some (la.add (q * 3)))), (90, .string x0.name), (91, .bool bn)] (by kernel_rfl) (by kernel_rfl) (by kernel_rfl) (by kernel_rfl) rfl (fun i hn hi o ho A0 hin hk => ?_) ?_
            · rcases (show i = 0 ∨ i = 1 ∨ i = 2 ∨ i = 3 ∨ i = 4 ∨ i = 5 ∨ i = 6 ∨ i = 7 ∨ i = 8 ∨ i = 9 ∨ i = 10 by omega) with rfl | rfl | rfl | rfl | rfl | rfl | rfl | rfl | rfl | rfl | rfl
              · cases ho
                exact exec_move 14 _ rfl (hk 14 (by kernel_rfl))
              · cases ho
                exact exec_move 16 _ rfl (hk 16 (by kernel_rfl))
              · cases ho
                have h81 : A0.tmps[81]?.getD undef = .slice (some ra) ng cg := hin 0 81 (by kernel_rfl)
                have h82 : A0.tmps[82]?.getD undef = .int .i64 i := hin 1 82 (by kernel_rfl)
                exact by simp [go_sem, h81, h82, i0, i1, hlt]
              · cases ho
                have h83 : A0.tmps[83]?.getD undef = .pointer (some (ra.add (i * 3))) := hin 2 83 (by kernel_rfl)
                exact by simp [go_sem, h83]
              · cases ho
                have h84 : A0.tmps[84]?.getD undef = .pointer (some (ra.add (i * 3))) := hin 3 84 (by kernel_rfl)
                exact by simp [go_sem, h84, Hcn.out]
              · cases ho
                exact exec_move 8 _ rfl (hk 8 (by kernel_rfl))
              · cases ho
                exact exec_move 10 _ rfl (hk 10 (by kernel_rfl))
              · cases ho
                have h86 : A0.tmps[86]?.getD undef = .slice (some la) nl cl := hin 5 86 (by kernel_rfl)
                have h87 : A0.tmps[87]?.getD undef = .int .i64 q := hin 6 87 (by kernel_rfl)
                exact by simp [go_sem, h86, h87, j0, j1, hqn]
              · cases ho
                have h88 : A0.tmps[88]?.getD undef = .pointer (some (la.add (q * 3))) := hin 7 88 (by kernel_rfl)
                exact by simp [go_sem, h88]
              · cases ho
                have h89 : A0.tmps[89]?.getD undef = .pointer (some (la.add (q * 3))) := hin 8 89 (by kernel_rfl)
                exact by simp [go_sem, h89, HXn.out]
              · cases ho
                have h85 : A0.tmps[85]?.getD undef = .string r.name := hin 4 85 (by kernel_rfl)
                have h90 : A0.tmps[90]?.getD undef = .string x0.name := hin 9 90 (by kernel_rfl)
                exact by simp [go_sem, h85, h90, hbe]
            simp only [putsL, Act.put, List.setIfInBounds_toArray, List.set_cons_succ, List.set_cons_zero]
            refine AtN.done rfl ?_
            clear hbe
            have HOd := Lib.hid (HOv.out.chg HNdd.out (fun _ _ x => x))
            cases bn with
            | false =>
              have HR2 := Lib.hid (show RowsCs w6 cso ((res.take (i + 1)).filter (nmB x0.name)) by rw [Htf.out]; simp only [Bool.false_eq_true, if_false, List.append_nil]; exact HRo.out)
              go_wp2_with fail
              go_roundw
              case rel => exact ⟨i + 1, cso, by omega, by go_num, by omega, HOd.out, HR2.out, HNd.out⟩
              case measure => simp only [intOf]; omega
            | true =>
              have HR2 := Lib.hid (show RowsCs w6 (cso ++ [[.string r.name, .slice X2 lr x2, .int .i64 r.stamp]]) ((res.take (i + 1)).filter (nmB x0.name)) by rw [Htf.out]; simp only [if_true]; exact HRo.out.snoc Hrrow.out)
              have hN4 : New wd (wd.alloc (.cells #[.string r.name, .slice X2 lr x2, .int .i64 r.stamp] 58)) := (Chg.refl _ _).alloc _
              have hB4 : Blk (wd.alloc (.cells #[.string r.name, .slice X2 lr x2, .int .i64 r.stamp] 58)) wd.heap.size 58 ([[.string r.name, .slice X2 lr x2, .int .i64 r.stamp]].flatten).toArray := Blk.new wd _ _
              obtain ⟨v', W', hrun, hown, hchg, hblk⟩ := elRow.appendS (HOd.out.chg hN4 (fun _ _ x => x)) (HNd.out.trans hN4 (fun _ _ x => x)).size (some ⟨wd.heap.size, 0, none⟩) 1 1 [[.string r.name, .slice X2 lr x2, .int .i64 r.stamp]] rfl (fun cs hc => by simp only [List.mem_cons, List.not_mem_nil, or_false] at hc; subst hc; rfl) (fun cs hc => by simp only [List.mem_cons, List.not_mem_nil, or_false] at hc; subst hc; exact Hrrow.out.cs.2) (fun _ => ⟨_, rfl, fun j cs hj => by
                match j, hj with
                | 0, hj => cases hj; exact ⟨rfl, by rw [Nat.zero_mul]; exact (show Blk _ _ _ [.string r.name, .slice X2 lr x2, .int .i64 r.stamp].toArray from hB4).at_⟩
                | j + 1, hj => simp at hj⟩) (by omega) (by unfold maxLen; omega) 50
              have HN5' := Lib.hid ((HNd.out.trans hN4 (fun _ _ x => x)).trans hchg (fun q hq h => absurd ((HOv.out.lt h).1) (by omega)))
              have HO5 := Lib.hid hown
              have Hrun := Lib.hid hrun
              have Hat5 := Lib.hid (Hrat.out.chg HNd.out id)
              clear hN4 hB4 hrun hown hchg hblk
              go_wp2_with (first | ((with_reducible refine wpl_load rfl (.tmp 95) 58 rfl stRow (ra.add (i * 3)) [.string r.name, .slice X2 lr x2, .int .i64 r.stamp] ?_ rfl Hat5.out ?_); exact rfl) | ((with_reducible refine wpl_append rfl (.tmp 92) (.tmp 97) 50 50 rfl ?_ ?_ Hrun.out ?_); exact rfl; exact rfl))
              go_roundw
              case rel => exact ⟨i + 1, _, by omega, by go_num, by simp; omega, HO5.out, HR2.out, HN5'.out⟩
              case measure => simp only [intOf]; omega
          · have HF := Lib.hid (show RowsCs w6 cso (res.filter (nmB x0.name)) by have := HRo.out; rw [List.take_of_length_le (by rw [Hng.out]; omega)] at this; exact this)
            clear HRo
            have hpl : (res.filter (nmB x0.name)).length ≤ 1000 := by
              have h1 := List.length_filter_le (nmB x0.name) res
              have h2 := Hng.out
              omega
            have HPart := Lib.hid (HOv.out.rowSl (HF.out.chg HNw.out) hpl)
            have HOne6 := Lib.hid ((HOne.out.chg HN6x.out).chg HNw.out)
            have HMm6 := Lib.hid ((HMm5.out.chg HN6x.out).chg HNw.out)
            have HGl6 := Lib.hid (HGl.out.chg HNw.out)
            have HN7 := Lib.hid (HN6.out.trans HNw.out (fun _ _ x => x))
            have HGm := Lib.hid (HGr.out wr _ _ HMm6.out)
            clear HF HOv HNw hpl
            go_wp2_with fail
            refine HGm.out.mono ?_
            rintro e w8 ⟨v8, m8, r8, rfl, hm8, hr8, hl8, hN8⟩
            have hres : res = r8 := group_same HCan.out (fun r => turn_mem q r) HMg.out hm8 HRg.out hr8
            subst hres
            have HSa := Lib.hid (same_sl w8 _ v8 res (HGl6.out.chg hN8) hl8)
            have HPart8 := Lib.hid (HPart.out.chg hN8)
            have HOne8 := Lib.hid (HOne6.out.chg hN8)
            have HN8 := Lib.hid (HN7.out.trans hN8 (fun _ _ x => x))
            clear hm8 hr8 hl8 hN8 HGm
            go_wp2_with fail
            refine HSa.out.mono ?_
            rintro e w9 ⟨rfl, hN9⟩
            have HGo := Lib.hid (HGr.out w9 _ _ (HOne8.out.chg hN9))
            have HPart9 := Lib.hid (HPart8.out.chg hN9)
            have HN9 := Lib.hid (HN8.out.trans hN9 (fun _ _ x => x))
            clear hN9 HSa
            go_wp2_with fail
            refine HGo.out.mono ?_
            rintro e w10 ⟨v10, m10, r10, rfl, hm10, hr10, hl10, hN10⟩
            have hres : r10 = res.filter (nmB x0.name) := group_named HCan.out x0.name HMg.out hm10 HRg.out hr10
            subst hres
            have HSb := Lib.hid (same_sl w10 _ v10 _ (HPart9.out.chg hN10) hl10)
            have HN10 := Lib.hid (HN9.out.trans hN10 (fun _ _ x => x))
            clear hm10 hr10 hl10 hN10 HGo
            go_wp2_with fail
            refine HSb.out.mono ?_
            rintro e w11 ⟨rfl, hN11⟩
            have HN11 := Lib.hid (HN10.out.trans hN11 (fun _ _ x => x))
            clear hN11
            go_wp2_with fail
            go_ret
            exact ⟨rfl, HN11.out⟩
end Go.Proofs.Ytenkobgeflckdaa
