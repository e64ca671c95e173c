/- The walk of GroupOnce. -/
import Derived.Test.YtenkobgeflckdaaLGc
set_option linter.unusedVariables false
set_option linter.unusedSimpArgs false
namespace Go.Proofs.Ytenkobgeflckdaa
open Go.RowKit Go.Shelf

/-- Rows of others, each alike with no other one. -/
structure Sel (k : Nat) (rs ms : List Rw) : Prop where
  sub : ∀ r ∈ ms, r ∈ rs
  len : ∀ r ∈ ms, k < r.args.length
  dis : (ms.map (kr k)).Nodup
theorem Sel.add {k : Nat} {rs ms : List Rw} {r : Rw} (h : Sel k rs ms) (hc : ∀ r ∈ rs, canonR r) (hr : r ∈ rs) (hk : k < r.args.length) (hn : ∀ g ∈ ms, ¬ alikeK g r k = true) : Sel k rs (ms ++ [r]) := by
  refine ⟨fun x hx => ?_, fun x hx => ?_, ?_⟩
  · rcases List.mem_append.1 hx with h1 | h1
    · exact h.sub x h1
    · rw [List.mem_singleton.1 h1]; exact hr
  · rcases List.mem_append.1 hx with h1 | h1
    · exact h.len x h1
    · rw [List.mem_singleton.1 h1]; exact hk
  · rw [List.map_append, List.nodup_append]
    refine ⟨h.dis, by simp, fun a ha b hb e => ?_⟩
    obtain ⟨g, hg, rfl⟩ := List.mem_map.1 ha
    simp only [List.map_cons, List.map_nil, List.mem_singleton] at hb
    refine hn g hg ((alikeK_iff (hc g (h.sub g hg)) (hc r hr) (h.len g hg)).2 ⟨hk, ?_⟩)
    rw [e, hb]

set_option maxHeartbeats 8000000 in
set_option maxRecDepth 100000 in
theorem walk_GroupOnce (w : World) (v0 : Value) (n0 : Nat) (X0 : Nat → Int) (hx0 : IntsAt w v0 6 n0 X0) (c2 : Int) (h20 : -9223372036854775808 ≤ c2) (h21 : c2 ≤ 9223372036854775807) :
    Calls Try.prog 13 #[v0, .int .i64 c2] w fun e w' => e = .returned (.bool true) ∧ New w w' := by
  have HX0 := Lib.hid hx0
  obtain ⟨q2, hq2⟩ : ∃ q, pk c2 2 = q := ⟨_, rfl⟩
  obtain ⟨k, hk⟩ : ∃ k : Nat, 1 + q2 = (k : Int) := ⟨(1 + q2).toNat, by have := pk_lo c2 2 (by omega); omega⟩
  have hk1 : 1 ≤ k := by have := pk_lo c2 2 (by omega); omega
  have hk2 : k ≤ 2 := by have := pk_hi c2 2 (by omega); omega
  have hp2 := fun W => pick11 W c2 2 h20 h21 (by omega) (by omega)
  rw [hq2] at hp2
  have HP2 := Lib.hid hp2
  have Hk := Lib.hid hk
  clear hx0 hp2 hq2 hk
  go_enter Try.func13, Try.ntmps13
  go_wp2_with fail
  refine (awake11 _).mono ?_
  rintro e w1 ⟨rfl, hN1⟩
  have HR := Lib.hid (rows_sl w1 v0 n0 X0 (HX0.out.chg hN1))
  have HN1 := Lib.hid hN1
  clear hN1 HX0
  go_wp2_with fail
  refine HR.out.mono ?_
  rintro e w2 ⟨vl, rs, rfl, hl, hl40, hg, hN2⟩
  have hcan : ∀ r ∈ rs, canonR r := fun r hr => (hg r hr).can
  obtain ⟨Al, cl, hvl, _⟩ := hl.form
  subst hvl
  obtain ⟨nl, hnl⟩ : ∃ n, rs.length = n := ⟨_, rfl⟩
  rw [hnl] at hl hl40 ⊢
  have HL2 := Lib.hid hl
  have HCan := Lib.hid hcan
  have Hnl := Lib.hid hnl
  have HN2 := Lib.hid (HN1.out.trans hN2 (fun _ _ x => x))
  have hkk := Hk.out
  have hqb : 0 ≤ q2 ∧ q2 ≤ 1 := by omega
  have egA := enters_of Try.func43 (by kernel_rfl) rfl
  unfold Enters at egA
  clear hN2 hl hg HR HN1 hcan hnl
  go_wp2_with fail
  refine (HP2.out w2).mono ?_
  rintro e w2' ⟨rfl, rfl⟩
  go_wp2_with fail
  clear hkk
  go_loopw [8, 9] (fun u8 u9 wr => ∃ (i : Nat) (cso : List (List Value)) (ms : List Rw), i ≤ nl ∧ u9 = .int .i64 i ∧ ms.length ≤ i ∧ Own wr w2.heap.size 58 3 u8 cso ∧ RowsCs w2 cso ms ∧ Sel k rs ms ∧ New w2 wr) (fun _ u _ => nl - (intOf u).toNat)
  case atStart => exact ⟨0, [], [], Nat.zero_le _, rfl, Nat.le_refl _, Own.nil _ _ _ _, ⟨rfl, fun i cs h => by simp at h⟩, ⟨fun r h => (by cases h), fun r h => (by cases h), List.nodup_nil⟩, Chg.refl _ _⟩
  case round =>
    obtain ⟨i, cso, ms, hin, rfl, hml, hov, hro, hsel, hN⟩ := hrel
    have hsl := hov.rowSl (hro.chg hN) (by omega)
    obtain ⟨Am, cm, hvm, _⟩ := hsl.form
    obtain ⟨nm, hnm⟩ : ∃ n, ms.length = n := ⟨_, rfl⟩
    rw [hnm] at hvm hml
    subst hvm
    have HOv := Lib.hid hov
    have HRo := Lib.hid hro
    have HSl := Lib.hid hsl
    have HSel := Lib.hid hsel
    have Hnm := Lib.hid hnm
    have HNw := Lib.hid hN
    clear hov hro hsl hsel hnm hN
    by_cases hlt3 : i < nl
    · obtain ⟨r, hr⟩ : ∃ r, rs[i]? = some r := ⟨_, List.getElem?_eq_getElem (by rw [Hnl.out]; exact hlt3)⟩
      obtain ⟨la, rc, hla, hrat, hr3, hrrow⟩ := HL2.out.row hr
      subst hla
      obtain ⟨X2, x2, hrce, hlr1000⟩ := hrrow.args
      obtain ⟨lr, hlr⟩ : ∃ l, r.args.length = l := ⟨_, rfl⟩
      rw [hlr] at hrce hlr1000
      subst hrce
      have hcell : wr.cell? ⟨(la.add (i * 3)).block, (la.add (i * 3)).off + 1, none⟩ = some (.slice X2 lr x2) := by
        have := (hrat.chg HNw.out id) 1 (.slice X2 lr x2) rfl
        rwa [add_succ] at this
      obtain ⟨b0, hb0⟩ : ∃ b, decide (lr ≤ k) = b := ⟨_, rfl⟩
      have hb1 : decide ((lr : Int) ≤ (k : Int)) = b0 := by rw [← hb0]; congr 1; apply propext; omega
      have Hb0 := Lib.hid hb0
      have Hrm := Lib.hid (List.mem_of_getElem? hr)
      have Hrat := Lib.hid hrat
      have Hrow := Lib.hid hrrow
      have Hlr := Lib.hid hlr
      have j0 : (0 : Int) ≤ (i : Int) := by omega
      have j1 : (i : Int) < (nl : Int) := by omega
      clear hr hrat hrrow hlr
      go_wp2_with fail
      go_loopw [10, 11] (fun u10 u11 wx => ∃ (q : Nat) (b : Bool), q ≤ nm ∧ u11 = .int .i64 q ∧ u10 = .bool b ∧ (b = true ↔ lr ≤ k ∨ ∃ g ∈ ms.take q, alikeK g r k = true) ∧ New wr wx) (fun _ u _ => nm - (intOf u).toNat)
      case atStart => exact ⟨0, b0, Nat.zero_le _, rfl, rfl, by rw [← Hb0.out, decide_eq_true_eq]; simp, Chg.refl _ _⟩
      case round =>
        obtain ⟨q, b, hqn, rfl, rfl, hbi, hN⟩ := hrel
        have HBi := Lib.hid hbi
        have HNq := Lib.hid hN
        clear hbi hN hcell
        by_cases hlt4 : q < nm
        · obtain ⟨g, hg⟩ : ∃ g, ms[q]? = some g := ⟨_, List.getElem?_eq_getElem (by rw [Hnm.out]; exact hlt4)⟩
          obtain ⟨ga, gc, hga, hgat, hg3, hgrow⟩ := RowSl.row (show RowSl _ (.slice Am nm cm) ms from HSl.out) hg
          cases hga
          obtain ⟨bo, hbo⟩ : ∃ b, alikeK g r k = b := ⟨_, rfl⟩
          have hnd := HNq.out.drew
          have hndw := HNw.out.trans hnd (fun _ _ x => x)
          have htk := take_succ_get hg
          have HAt1 := Lib.hid (hgat.chg hnd id)
          have HRow1 := Lib.hid (hgrow.chg hnd)
          have HAt2 := Lib.hid (Hrat.out.chg hndw id)
          have HRow2 := Lib.hid (Hrow.out.chg hndw)
          have HNd := Lib.hid hnd
          have Hbo := Lib.hid hbo
          have Htk := Lib.hid htk
          have i0 : (0 : Int) ≤ (q : Int) := by omega
          have i1 : (q : Int) < (nm : Int) := by omega
          clear hg hgat hgrow hnd hndw hbo htk
          go_upto_region 12 with fail
          refine wp_region_at (by kernel_rfl) ?_
          generalize wr.drew = wd at HAt1 HRow1 HAt2 HRow2 HNd ⊢
          cases b with
          | true =>
            refine AtN.segQ2 0 2 (fun
              | 0 => .bool true
              | _ => .bool true)
              [(40, .bool true), (41, .bool true)] (by kernel_rfl) (by kernel_rfl) (by kernel_rfl) (by kernel_rfl) rfl (fun i hn hi o ho A0 hin hk => ?_) ?_
            · rcases (show i = 0 ∨ i = 1 by omega) with rfl | rfl
              · cases ho
                exact exec_move 10 _ rfl (hk 10 (by kernel_rfl))
              · cases ho
                exact exec_move 40 _ rfl (hin 0 40 (by kernel_rfl))
            simp only [putsL, Act.put, List.setIfInBounds_toArray, List.set_cons_succ, List.set_cons_zero]
            refine AtN.segS2 2 12 [(42, undef), (43, undef), (44, undef), (45, undef), (46, undef), (47, undef), (48, undef), (49, undef), (50, undef), (51, undef)] (by kernel_rfl) (by kernel_rfl) (by kernel_rfl) (by kernel_rfl) rfl ?_
            simp only [putsL, Act.put, List.setIfInBounds_toArray, List.set_cons_succ, List.set_cons_zero]
            refine AtN.segQ2 12 14 (fun
              | 12 => .bool true
              | _ => .bool true)
              [(52, .bool true), (10, .bool true)] (by kernel_rfl) (by kernel_rfl) (by kernel_rfl) (by kernel_rfl) rfl (fun i hn hi o ho A0 hin hk => ?_) ?_
            · rcases (show i = 12 ∨ i = 13 by omega) with rfl | rfl
              · cases ho
                have h41 : A0.tmps[41]?.getD undef = .bool true := hk 41 (by kernel_rfl)
                have h51 : A0.tmps[51]?.getD undef = undef := hk 51 (by kernel_rfl)
                exact by simp [go_sem, h41, h51]
              · cases ho
                have h52 : A0.tmps[52]?.getD undef = .bool true := hin 12 52 (by kernel_rfl)
                exact by simp [go_sem, h52]
            simp only [putsL, Act.put, List.setIfInBounds_toArray, List.set_cons_succ, List.set_cons_zero]
            refine AtN.done rfl ?_
            have HB2 := Lib.hid (show true = true ↔ lr ≤ k ∨ ∃ g ∈ ms.take (q + 1), alikeK g r k = true from ⟨fun _ => by
              rcases HBi.out.1 rfl with h | ⟨g', h1, h2⟩
              · exact .inl h
              · exact .inr ⟨g', by rw [Htk.out]; simp [h1], h2⟩, fun _ => rfl⟩)
            go_wp2_with fail
            go_roundw
            case rel => exact ⟨q + 1, true, by omega, by go_num, rfl, HB2.out, HNd.out⟩
            case measure => simp only [intOf]; omega
          | false =>
            refine AtN.segQ2 0 2 (fun
              | 0 => .bool false
              | _ => .bool false)
              [(40, .bool false), (41, .bool false)] (by kernel_rfl) (by kernel_rfl) (by kernel_rfl) (by kernel_rfl) rfl (fun i hn hi o ho A0 hin hk => ?_) ?_
            · rcases (show i = 0 ∨ i = 1 by omega) with rfl | rfl
              · cases ho
                exact exec_move 10 _ rfl (hk 10 (by kernel_rfl))
              · cases ho
                exact exec_move 40 _ rfl (hin 0 40 (by kernel_rfl))
            simp only [putsL, Act.put, List.setIfInBounds_toArray, List.set_cons_succ, List.set_cons_zero]
            refine AtN.segN2 2 14 [42, 43, 44, 45, 46, 47, 48, 49, 50, 51, 52, 10] (fun
              | 2 => fun v _ => v = .slice (some ga) nm cm
              | 3 => fun v _ => v = .int .i64 q
              | 4 => fun v _ => v = .pointer (some (ga.add (q * 3)))
              | 5 => fun v _ => v = .agg gc.toArray
              | 6 => fun v _ => v = .slice (some la) nl cl
              | 7 => fun v _ => v = .int .i64 i
              | 8 => fun v _ => v = .pointer (some (la.add (i * 3)))
              | 9 => fun v _ => v = .agg #[.string r.name, .slice X2 lr x2, .int .i64 r.stamp]
              | 10 => fun v _ => v = .int .i64 k
              | 11 => fun v _ => v = .bool bo
              | 12 => fun v _ => v = .bool bo
              | 13 => fun v _ => v = .bool bo
              | _ => fun _ _ => True) (by kernel_rfl) (by kernel_rfl) (by kernel_rfl) (by kernel_rfl) (fun j v w1 w2 hc h => ?_) (fun i hn hi o ho A0 W hN hin hk => ?_) (fun l W5 hN hl hΦ => ?_)
            · match j with
              | 2 | 3 | 4 | 5 | 6 | 7 | 8 | 9 | 10 | 11 | 12 | 13 => exact h
              | 0 | 1 => trivial
              | _ + 14 => trivial
            · rcases (show i = 2 ∨ i = 3 ∨ i = 4 ∨ i = 5 ∨ i = 6 ∨ i = 7 ∨ i = 8 ∨ i = 9 ∨ i = 10 ∨ i = 11 ∨ i = 12 ∨ i = 13 by omega) with rfl | rfl | rfl | rfl | rfl | rfl | rfl | rfl | rfl | rfl | rfl | rfl
              · cases ho
                exact .same (exec_move 8 _ rfl (hk 8 (by kernel_rfl))) rfl
              · cases ho
                exact .same (exec_move 11 _ rfl (hk 11 (by kernel_rfl))) rfl
              · cases ho
                have h42 : A0.tmps[42]?.getD undef = .slice (some ga) nm cm := hin 2 42 (by kernel_rfl)
                have h43 : A0.tmps[43]?.getD undef = .int .i64 q := hin 3 43 (by kernel_rfl)
                exact .same (by simp [go_sem, h42, h43, i0, i1, hlt4]) rfl
              · cases ho
                have h44 : A0.tmps[44]?.getD undef = .pointer (some (ga.add (q * 3))) := hin 4 44 (by kernel_rfl)
                exact .same (exec_load 44 _ rfl stRow (ga.add (q * 3)) gc h44 hg3 (HAt1.out.chg hN id)) rfl
              · cases ho
                exact .same (exec_move 6 _ rfl (hk 6 (by kernel_rfl))) rfl
              · cases ho
                exact .same (exec_move 9 _ rfl (hk 9 (by kernel_rfl))) rfl
              · cases ho
                have h46 : A0.tmps[46]?.getD undef = .slice (some la) nl cl := hin 6 46 (by kernel_rfl)
                have h47 : A0.tmps[47]?.getD undef = .int .i64 i := hin 7 47 (by kernel_rfl)
                exact .same (by simp [go_sem, h46, h47, j0, j1, hlt3]) rfl
              · cases ho
                have h48 : A0.tmps[48]?.getD undef = .pointer (some (la.add (i * 3))) := hin 8 48 (by kernel_rfl)
                exact .same (exec_load 48 _ rfl stRow (la.add (i * 3)) [.string r.name, .slice X2 lr x2, .int .i64 r.stamp] h48 rfl (HAt2.out.chg hN id)) rfl
              · cases ho
                exact .same (exec_move 7 _ rfl (hk 7 (by kernel_rfl))) rfl
              · cases ho
                have h45 : A0.tmps[45]?.getD undef = .agg gc.toArray := hin 5 45 (by kernel_rfl)
                have h49 : A0.tmps[49]?.getD undef = .agg #[.string r.name, .slice X2 lr x2, .int .i64 r.stamp] := hin 9 49 (by kernel_rfl)
                have h50 : A0.tmps[50]?.getD undef = .int .i64 k := hin 10 50 (by kernel_rfl)
                refine .call (f := 43) (args := #[.agg gc.toArray, .agg #[.string r.name, .slice X2 lr x2, .int .i64 r.stamp], .int .i64 k]) (W' := W) ?_ ((alike11 W gc [.string r.name, .slice X2 lr x2, .int .i64 r.stamp] _ _ (HRow1.out.chg hN) (HRow2.out.chg hN) k (by omega)).mono ?_)
                · simp [go_sem, h45, h49, h50, egA]
                · rintro e w' ⟨rfl, hc⟩
                  exact ⟨_, rfl, hc, by rw [Hbo.out]; rfl⟩
              · cases ho
                have h41 : A0.tmps[41]?.getD undef = .bool false := hk 41 (by kernel_rfl)
                have h51 : A0.tmps[51]?.getD undef = .bool bo := hin 11 51 (by kernel_rfl)
                exact .same (by simp [go_sem, h41, h51]) rfl
              · cases ho
                have h52 : A0.tmps[52]?.getD undef = .bool bo := hin 12 52 (by kernel_rfl)
                exact .same (by simp [go_sem, h52]) rfl
            obtain ⟨x42, x43, x44, x45, x46, x47, x48, x49, x50, x51, x52, x10, rfl⟩ : ∃ x42 x43 x44 x45 x46 x47 x48 x49 x50 x51 x52 x10, l = [x42, x43, x44, x45, x46, x47, x48, x49, x50, x51, x52, x10] := by
              match l, hl with
              | [x42, x43, x44, x45, x46, x47, x48, x49, x50, x51, x52, x10], _ => exact ⟨_, _, _, _, _, _, _, _, _, _, _, _, rfl⟩
            obtain rfl : x42 = .slice (some ga) nm cm := hΦ 0 (by decide)
            obtain rfl : x43 = .int .i64 q := hΦ 1 (by decide)
            obtain rfl : x44 = .pointer (some (ga.add (q * 3))) := hΦ 2 (by decide)
            obtain rfl : x45 = .agg gc.toArray := hΦ 3 (by decide)
            obtain rfl : x46 = .slice (some la) nl cl := hΦ 4 (by decide)
            obtain rfl : x47 = .int .i64 i := hΦ 5 (by decide)
            obtain rfl : x48 = .pointer (some (la.add (i * 3))) := hΦ 6 (by decide)
            obtain rfl : x49 = .agg #[.string r.name, .slice X2 lr x2, .int .i64 r.stamp] := hΦ 7 (by decide)
            obtain rfl : x50 = .int .i64 k := hΦ 8 (by decide)
            obtain rfl : x51 = .bool bo := hΦ 9 (by decide)
            obtain rfl : x52 = .bool bo := hΦ 10 (by decide)
            obtain rfl : x10 = .bool bo := hΦ 11 (by decide)
            simp only [putsL, List.zip_cons_cons, List.zip_nil_left, List.zip_nil_right, List.zip, List.zipWith, Act.put, List.setIfInBounds_toArray, List.set_cons_succ, List.set_cons_zero]
            clear hΦ hl
            refine AtN.done rfl ?_
            have HN5 := Lib.hid (HNd.out.trans hN (fun _ _ x => x))
            have HB2 := Lib.hid (show bo = true ↔ lr ≤ k ∨ ∃ g ∈ ms.take (q + 1), alikeK g r k = true from by
              have hno : ¬ (lr ≤ k ∨ ∃ g ∈ ms.take q, alikeK g r k = true) := fun h => by have := HBi.out.2 h; cases this
              rw [Htk.out]
              constructor
              · intro e
                exact .inr ⟨g, by simp, by rw [Hbo.out]; exact e⟩
              · rintro (h | ⟨g', h1, h2⟩)
                · exact absurd (.inl h) hno
                · rcases List.mem_append.1 h1 with h3 | h3
                  · exact absurd (.inr ⟨g', h3, h2⟩) hno
                  · rw [List.mem_singleton.1 h3, Hbo.out] at h2; exact h2)
            clear hN
            go_wp2_with fail
            go_roundw
            case rel => exact ⟨q + 1, bo, by omega, by go_num, rfl, HB2.out, HN5.out⟩
            case measure => simp only [intOf]; omega
        · have htk : ms.take q = ms := List.take_of_length_le (by rw [Hnm.out]; omega)
          rw [htk] at HBi
          have hOq := HOv.out.chg HNq.out (fun _ _ x => x)
          have HNx := Lib.hid (HNw.out.trans HNq.out (fun _ _ x => x))
          clear htk hb0 hb1
          cases b with
          | true =>
            have HOq := Lib.hid hOq
            clear hOq
            go_wp2_with fail
            go_roundw
            case rel => exact ⟨i + 1, cso, ms, by omega, by go_num, by rw [Hnm.out]; omega, HOq.out, HRo.out, HSel.out, HNx.out⟩
            case measure => simp only [intOf]; omega
          | false =>
            have hno : ¬ (lr ≤ k ∨ ∃ g ∈ ms, alikeK g r k = true) := fun h => by have := HBi.out.2 h; cases this
            have HSel2 := Lib.hid (HSel.out.add HCan.out Hrm.out (by rw [Hlr.out]; exact Nat.lt_of_not_le fun h => hno (.inl h)) (fun g hg e => hno (.inr ⟨g, hg, e⟩)))
            have HR2 := Lib.hid (HRo.out.snoc Hrow.out)
            have hcl : cso.length = nm := by rw [HRo.out.1]; exact Hnm.out
            have hN4 : New wr (wr.alloc (.cells #[.string r.name, .slice X2 lr x2, .int .i64 r.stamp] 58)) := (Chg.refl _ _).alloc _
            have hB4 : Blk (wr.alloc (.cells #[.string r.name, .slice X2 lr x2, .int .i64 r.stamp] 58)) wr.heap.size 58 ([[.string r.name, .slice X2 lr x2, .int .i64 r.stamp]].flatten).toArray := Blk.new wr _ _
            obtain ⟨v', W', hrun, hown, hchg, hblk⟩ := elRow.appendS (hOq.chg hN4 (fun _ _ x => x)) (HNx.out.trans hN4 (fun _ _ x => x)).size (some ⟨wr.heap.size, 0, none⟩) 1 1 [[.string r.name, .slice X2 lr x2, .int .i64 r.stamp]] rfl (fun cs hc => by simp only [List.mem_cons, List.not_mem_nil, or_false] at hc; subst hc; rfl) (fun cs hc => by simp only [List.mem_cons, List.not_mem_nil, or_false] at hc; subst hc; exact Hrow.out.cs.2) (fun _ => ⟨_, rfl, fun j cs hj => by
              match j, hj with
              | 0, hj => cases hj; exact ⟨rfl, by rw [Nat.zero_mul]; exact (show Blk _ _ _ [.string r.name, .slice X2 lr x2, .int .i64 r.stamp].toArray from hB4).at_⟩
              | j + 1, hj => simp at hj⟩) (by omega) (by unfold maxLen; omega) 50
            have HN5' := Lib.hid ((HNx.out.trans hN4 (fun _ _ x => x)).trans hchg (fun q hq h => absurd ((hOq.lt h).1) (by omega)))
            have HO5 := Lib.hid hown
            have Hrun := Lib.hid hrun
            have Hat5 := Lib.hid (Hrat.out.chg HNx.out id)
            clear hN4 hB4 hrun hown hchg hblk hno hOq hcl
            go_wp2_with (first | ((with_reducible refine wpl_load rfl (.tmp 58) 58 rfl stRow (la.add (i * 3)) [.string r.name, .slice X2 lr x2, .int .i64 r.stamp] ?_ rfl Hat5.out ?_); exact rfl) | ((with_reducible refine wpl_append rfl (.tmp 55) (.tmp 60) 50 50 rfl ?_ ?_ Hrun.out ?_); exact rfl; exact rfl))
            go_roundw
            case rel => exact ⟨i + 1, _, _, by omega, by go_num, by rw [List.length_append, Hnm.out]; simp; omega, HO5.out, HR2.out, HSel2.out, HN5'.out⟩
            case measure => simp only [intOf]; omega
    · have hmc : ∀ r ∈ ms, canonR r := fun r hr => HCan.out r (HSel.out.sub r hr)
      have hgr := group_rows wr .count k hk1 (by omega) _ ms (show RowSl wr (.slice Am nm cm) ms from HSl.out)
      have HGr := Lib.hid (show Calls Try.prog 41 #[.string ⟨#[99, 111, 117, 110, 116]⟩, .int .i64 k, .slice Am nm cm] wr (GroupPost wr ms .count k) from hgr)
      have HMc := Lib.hid hmc
      clear hgr hmc
      go_wp2_with fail
      refine HGr.out.mono ?_
      rintro e w6 ⟨vg, m, res, rfl, hm, hr, hgl, hN6⟩
      have hGR := GR.of (ag := .count) HMc.out hm hr
      have hone := once_cnt HMc.out HSel.out.dis hm hr
      have hlen := once_len hGR HSel.out.len HSel.out.dis
      obtain ⟨Ag', cg, hvg, hg1000⟩ := hgl.form
      subst hvg
      rw [hlen, Hnm.out] at hgl hg1000 ⊢
      have HGl := Lib.hid hgl
      have HGR := Lib.hid hGR
      have HOne := Lib.hid hone
      have Hng := Lib.hid (hlen.trans Hnm.out)
      have HM6 := Lib.hid ((show RowSl wr (.slice Am nm cm) ms from HSl.out).chg hN6)
      have HN6 := Lib.hid ((HN2.out.trans HNw.out (fun _ _ x => x)).trans hN6 (fun _ _ x => x))
      clear hm hr hgl hN6 hGR hone hlen HGr HSl
      go_wp2_with fail
      go_loopw [13] (fun u13 wx => ∃ p : Nat, p ≤ nm ∧ u13 = .int .i64 p ∧ wx = w6) (fun u _ => nm - (intOf u).toNat)
      case atStart => exact ⟨0, Nat.zero_le _, rfl, rfl⟩
      case round =>
        obtain ⟨p, hpn, rfl, rfl⟩ := hrel
        by_cases hlt2 : p < nm
        · obtain ⟨g, hg⟩ : ∃ g, res[p]? = some g := ⟨_, List.getElem?_eq_getElem (by rw [Hng.out]; exact hlt2)⟩
          have hgm := List.mem_of_getElem? hg
          have hgk := HGR.out.len g hgm
          obtain ⟨ga, gc, hga, hgat, hg3, hgrow⟩ := HGl.out.row hg
          cases hga
          obtain ⟨gA, gx, hgce, hgarg, hgl1000⟩ := hgrow.arg hgk
          obtain ⟨lg, hlg⟩ : ∃ l, g.args.length = l := ⟨_, rfl⟩
          rw [hlg] at hgce hgk hgl1000
          have hv : (vr k g).i = 1 := HOne.out g hgm
          have hci : wr.cell? ⟨(gA.add (k * 4)).block, (gA.add (k * 4)).off + 1, none⟩ = some (.int .i64 1) := by
            have := hgarg 1 (.int .i64 (vr k g).i) rfl
            rw [hv] at this
            rwa [add_succ] at this
          have hcg : wr.cell? ⟨(ga.add (p * 3)).block, (ga.add (p * 3)).off + 1, none⟩ = some (.slice (some gA) lg gx) := by
            have := hgat 1 (.slice (some gA) lg gx) (by rw [hgce]; rfl)
            rwa [add_succ] at this
          have i0 : (0 : Int) ≤ (p : Int) := by omega
          have i1 : (p : Int) < (nm : Int) := by omega
          have k0 : (0 : Int) ≤ (k : Int) := by omega
          have k2 : (k : Int) < (lg : Int) := by omega
          clear hg hgm hgat hgrow hgce hgarg hlg hv
          go_wp2_with fail
          go_roundw
          case rel => exact ⟨p + 1, by omega, by go_num, by first | rfl | trivial⟩
          case measure => simp only [intOf]; omega
        · have hgr := group_rows wr .min k hk1 (by omega) _ ms HM6.out
          have HGr := Lib.hid (show Calls Try.prog 41 #[.string ⟨#[109, 105, 110]⟩, .int .i64 k, .slice Am nm cm] wr (GroupPost wr ms .min k) from hgr)
          have hqq : ((nm : Int) == (nm : Int)) = true := by simp
          clear hgr
          go_wp2_with fail
          refine HGr.out.mono ?_
          rintro e w7 ⟨v7, m7, r7, rfl, hm7, hr7, hl7, hN7⟩
          have HMe := Lib.hid (merge_sl w7 _ ms (HM6.out.chg hN7))
          have HM7 := Lib.hid (HM6.out.chg hN7)
          have Hm7 := Lib.hid hm7
          have Hr7 := Lib.hid hr7
          have HL7 := Lib.hid hl7
          have HN7 := Lib.hid (HN6.out.trans hN7 (fun _ _ x => x))
          clear hm7 hr7 hl7 hN7 HGr
          go_wp2_with fail
          refine HMe.out.mono ?_
          rintro e w8 ⟨v8, M8, rfl, hM8, hl8, hN8⟩
          have h78 := once_same (by decide) HMc.out HSel.out.len HSel.out.dis Hm7.out Hr7.out hM8
          subst h78
          have HSa := Lib.hid (same_sl w8 _ v8 _ (HL7.out.chg hN8) hl8)
          have HM8 := Lib.hid (HM7.out.chg hN8)
          have HN8 := Lib.hid (HN7.out.trans hN8 (fun _ _ x => x))
          clear hM8 hl8 hN8 HMe
          go_wp2_with fail
          refine HSa.out.mono ?_
          rintro e w9 ⟨rfl, hN9⟩
          have hgr := group_rows w9 .max k hk1 (by omega) _ ms (HM8.out.chg hN9)
          have HGr := Lib.hid (show Calls Try.prog 41 #[.string ⟨#[109, 97, 120]⟩, .int .i64 k, .slice Am nm cm] w9 (GroupPost w9 ms .max k) from hgr)
          have HM9 := Lib.hid (HM8.out.chg hN9)
          have HN9 := Lib.hid (HN8.out.trans hN9 (fun _ _ x => x))
          clear hgr hN9 HSa
          go_wp2_with fail
          refine HGr.out.mono ?_
          rintro e w10 ⟨v10, m10, r10, rfl, hm10, hr10, hl10, hN10⟩
          have HMe := Lib.hid (merge_sl w10 _ ms (HM9.out.chg hN10))
          have Hm10 := Lib.hid hm10
          have Hr10 := Lib.hid hr10
          have HL10 := Lib.hid hl10
          have HN10 := Lib.hid (HN9.out.trans hN10 (fun _ _ x => x))
          clear hm10 hr10 hl10 hN10 HGr
          go_wp2_with fail
          refine HMe.out.mono ?_
          rintro e w11 ⟨v11, M11, rfl, hM11, hl11, hN11⟩
          have h78 := once_same (by decide) HMc.out HSel.out.len HSel.out.dis Hm10.out Hr10.out hM11
          subst h78
          have HSb := Lib.hid (same_sl w11 _ v11 _ (HL10.out.chg hN11) hl11)
          have HN11 := Lib.hid (HN10.out.trans hN11 (fun _ _ x => x))
          clear hM11 hl11 hN11 HMe
          go_wp2_with fail
          refine HSb.out.mono ?_
          rintro e w12 ⟨rfl, hN12⟩
          have HN12 := Lib.hid (HN11.out.trans hN12 (fun _ _ x => x))
          clear hN12
          go_wp2_with fail
          go_ret
          exact ⟨rfl, HN12.out⟩
end Go.Proofs.Ytenkobgeflckdaa
