/- FireMore: the walk. -/
import Derived.Test.YtenkobgeflckdabRulS
import Derived.Test.YtenkobgeflckdabAwk10
set_option linter.unusedVariables false
set_option linter.unusedSimpArgs false
namespace Go.Proofs.Ytenkobgeflckdab
open Go.RowKit Go.Shelf

set_option maxHeartbeats 8000000 in
set_option maxRecDepth 100000 in
theorem walk_FireMore (w : World) (v0 : Value) (n0 : Nat) (X0 : Nat → Int) (hx0 : IntsAt w v0 6 n0 X0) (v1 : Value) (n1 : Nat) (X1 : Nat → Int) (hx1 : IntsAt w v1 6 n1 X1) (v2 : Value) (n2 : Nat) (X2 : Nat → Int) (hx2 : IntsAt w v2 6 n2 X2) :
    Calls Try.prog 4 #[v0, v1, v2] w fun e w' => e = .returned (.bool true) ∧ New w w' := by
  have HX0 := Lib.hid hx0
  have HX1 := Lib.hid hx1
  have HX2 := Lib.hid hx2
  clear hx0 hx1 hx2
  have eg10 : ∀ (args : Array Value) (w : World), (callFunc 10 args).run Try.prog w = .ok (.enter 10 args) w := enters_of Try.func10 (by kernel_rfl) rfl
  go_enter Try.func4, Try.ntmps4
  go_upto_region 3 with first
    | (go_at_call 6; refine (awake10 _).mono ?_; rintro e w1 ⟨rfl, hN1⟩; have HN1 := Lib.hid hN1; clear hN1)
    | (go_at_call 12; refine (rule_sl _ _ _ _ (HX0.out.chg HN1.out) 0 (by unfold B64; omega)).mono ?_; rintro e w2 ⟨vr, r, rfl, hr, hraw, hagg, hN2⟩; obtain ⟨lab, A, c, Ab, cb, rfl⟩ := hr.form; have HR2 := Lib.hid hr; have HRaw := Lib.hid hraw; have HN2 := Lib.hid (HN1.out.trans hN2 (fun _ _ x => x)); clear hr hraw hagg hN2)
    | ((with_reducible refine wpl_box rfl rfl 8 (.tmp 17) 37 rfl rfl rfl rfl stRule zRule [.string lab, .string r.h, .slice A r.ts.length c, .string r.agg, .int .i64 r.at', .slice Ab r.Ls.length cb] ?_ ?_ rfl (rule_one rfl rfl rfl) ?_); exact (by decide : 8 < 69); exact rfl; intro w3 hc3 hb3 hs3; have HB3 := Lib.hid hb3; have HR3 := Lib.hid (HR2.out.chg hc3); have HN3 := Lib.hid (HN2.out.trans hc3 (fun _ _ x => x)); clear hc3 hb3 hs3)
  obtain ⟨b8, hb8⟩ : ∃ b, w2.heap.size = b := ⟨_, rfl⟩
  rw [hb8] at HB3 ⊢
  obtain ⟨nb, hnb⟩ : ∃ nb, r.Ls.length = nb := ⟨_, rfl⟩
  rw [hnb] at HB3 HR3 ⊢
  have Hnb := Lib.hid hnb
  have e85 := HB3.out.cell 5
  simp only [List.getElem?_toArray, List.getElem?_cons_zero, List.getElem?_cons_succ] at e85
  have HHb := Lib.hid hb8
  clear HX0 HN1 HN2 HR2 hnb hb8 HHb
  have hnb4 : nb ≤ 4 := by rw [← Hnb.out]; exact HRaw.out.l4
  go_wp2_with fail
  go_loopw [9] (fun u9 wr => ∃ i : Nat, i ≤ nb ∧ u9 = .int .i64 i ∧ (∀ L ∈ r.Ls.take i, L.kind ≠ 2) ∧ wr = w3) (fun u _ => nb - (intOf u).toNat)
  case atStart => exact ⟨0, Nat.zero_le _, rfl, fun L hL => (by simp at hL), rfl⟩
  case round =>
    obtain ⟨i, hi, rfl, hno, rfl⟩ := hrel
    have HNo := Lib.hid hno
    clear hno
    by_cases hlt : i < nb
    · obtain ⟨L, hL⟩ : ∃ L, r.Ls[i]? = some L := ⟨_, List.getElem?_eq_getElem (by rw [Hnb.out]; exact hlt)⟩
      obtain ⟨a, A', c', rfl, hat⟩ := HR3.out.lit rfl hL
      have hk := hat 0 (.int .i64 L.kind) rfl
      rw [add_add] at hk
      have hk2 : wr.cell? (a.add (i * 3)) = some (.int .i64 L.kind) := hk
      obtain ⟨κ, hκ⟩ : ∃ κ, L.kind = κ := ⟨_, rfl⟩
      rw [hκ] at hk2
      have q0 : (0 : Int) ≤ (i : Int) := by omega
      have q1 : (i : Int) < (nb : Int) := by omega
      have HL := Lib.hid hL
      have Hκ := Lib.hid hκ
      clear hat hk hL hκ
      by_cases h2 : κ = 2
      · have t2 : (κ == 2) = true := by simpa using h2
        clear h2
        go_wp2_with fail
        go_ret
        exact ⟨rfl, HN3.out⟩
      · have t2 : (κ == 2) = false := by simpa using h2
        have Hκ2 := Lib.hid h2
        clear h2
        go_wp2_with fail
        go_roundw
        case rel =>
          refine ⟨i + 1, by omega, by go_num, fun L' hL' => ?_, trivial⟩
          rw [take_succ_get HL.out] at hL'
          rcases List.mem_append.1 hL' with h | h
          · exact HNo.out L' h
          · rw [List.mem_singleton.1 h, Hκ.out]; exact Hκ2.out
        case measure => simp [intOf]; omega
    · have hno2 : ∀ L ∈ r.Ls, L.kind ≠ 2 := by
        have := HNo.out
        rw [List.take_of_length_le (by rw [Hnb.out]; omega)] at this
        exact this
      have HNt := Lib.hid hno2
      clear hno2 HNo
      go_upto_region 9 with (go_at_call 7; refine (rows_own _ _ _ _ (HX1.out.chg HN3.out)).mono ?_; rintro e w4 ⟨x10, css, rs, rfl, ho4, hr4, h40, hg, hN4⟩; have hsl := ho4.rowSl hr4.cs (by omega); obtain ⟨es, hslc⟩ := hsl.cells; obtain ⟨A4, c4, rfl, hl4⟩ := hsl.form; have HS4 := Lib.hid hsl; have HC4 := Lib.hid hslc; have HG4 := Lib.hid hg; have HN34 := Lib.hid hN4; have HN4 := Lib.hid (HN3.out.trans hN4 (fun _ _ x => x)); clear hsl ho4 hr4 hg hN4 hslc)
      have happ := append_sl (Own.nil w4 w4.heap.size 30 3) (Nat.le_refl _) HC4.out (by simp) 24
      obtain ⟨va, wa, hruna, howna, hchga, -⟩ := happ
      rw [List.nil_append] at howna
      have hNa : New w4 wa := hchga.mono (fun k _ h => by cases h)
      have HRa := Lib.hid hruna
      have HOa := Lib.hid howna
      have HNa := Lib.hid hNa
      clear hruna howna hchga hNa
      go_upto_if 42 with first
        | ((with_reducible refine wpl_append rfl (.const (.slice none 0 0)) (.tmp 35) 24 24 rfl ?_ ?_ HRa.out ?_); exact rfl; exact rfl)
        | (go_at_call 7; refine (rows_own _ _ _ _ (HX2.out.chg (HN4.out.trans HNa.out (fun _ _ x => x)))).mono ?_; rintro e w5 ⟨x38, dss, ss, rfl, ho5, hr5, h405, hg5, hN5⟩; obtain ⟨vy, wb, hrunb, hy, hNb⟩ := app_after HOa.out HNa.out HC4.out.cs hN5 ho5 hr5 (by omega) 24; obtain ⟨Ay, cy, rfl, hly⟩ := hy.form; have HRb := Lib.hid hrunb; have HG5 := Lib.hid hg5; have HY := Lib.hid hy; have HNb := Lib.hid hNb; clear ho5 hr5 hg5 hN5 hrunb hy hNb)
        | ((with_reducible refine wpl_append rfl (.tmp 36) (.tmp 38) 24 24 rfl ?_ ?_ HRb.out ?_); exact rfl; exact rfl)
      obtain ⟨ny, hny⟩ : ∃ ny, rs.length + ss.length = ny := ⟨_, rfl⟩
      rw [List.length_append, hny] at HY hly
      rw [hny, show ((rs.length : Int) + (ss.length : Int)) = (ny : Int) from by omega]
      have hnx : rs.length ≤ ny := by omega
      have Hny := Lib.hid hny
      have HN3b := Lib.hid (HN34.out.trans HNb.out (fun _ _ x => x))
      have HNw := Lib.hid (HN3.out.trans HN3b.out (fun _ _ x => x))
      clear hny HRa HRb HOa HNa
      by_cases h20 : 20 < ny
      · have t20 : decide ((20 : Int) < (ny : Int)) = true := by simp; omega
        have t20' : decide (20 < ny) = true := by simp; omega
        have t20b : decide ((20 : Int) < (rs.length : Int) + (ss.length : Int)) = true := by have := Hny.out; simp; omega
        go_wp2_with fail
        go_ret
        exact ⟨rfl, HNw.out⟩
      · have t20 : decide ((20 : Int) < (ny : Int)) = false := by simp; omega
        have t20' : decide (20 < ny) = false := by simp; omega
        have t20b : decide ((20 : Int) < (rs.length : Int) + (ss.length : Int)) = false := by have := Hny.out; simp; omega
        have hgx : ∀ x ∈ rs, ∀ u ∈ x.args, rawV u := fun x hx => (HG4.out x hx).raw
        have hgy : ∀ x ∈ rs ++ ss, ∀ u ∈ x.args, rawV u := fun x hx => (List.mem_append.1 hx).elim (hgx x) (fun h => (HG5.out x h).raw)
        have hrb := HR3.out.chg HN3b.out
        have hfx := fire_sl wb _ (.slice A4 rs.length c4) r hrb HRaw.out rs (HS4.out.chg HNb.out) hgx 0 (fun m hm => merge_len hm 30 (by omega))
        have hfy := fun W (hW : New wb W) => fire_sl W _ (.slice Ay ny cy) r (hrb.chg hW) HRaw.out (rs ++ ss) (HY.out.chg hW) hgy 0 (fun m hm => merge_len hm 30 (by rw [List.length_append, Hny.out]; omega))
        have HFx := Lib.hid hfx
        have HFy := Lib.hid hfy
        have HBb := Lib.hid (HB3.out.chg HN3b.out id)
        have HGx := Lib.hid hgx
        have HGy := Lib.hid hgy
        clear hfx hfy hgx hgy hrb HB3 HN3b
        go_wp2_with first
          | ((with_reducible refine wpl_load rfl (.tmp 8) 37 rfl stRule ⟨b8, 0, none⟩ [.string lab, .string r.h, .slice A r.ts.length c, .string r.agg, .int .i64 r.at', .slice Ab nb cb] ?_ rfl HBb.out.at_ ?_); exact rfl)
          | (go_at_call 13; with_reducible refine HFx.out.mono ?_; rintro e w6 ⟨mx, x12, outx, hmx, hfx, rfl, hslx, hN6⟩; obtain ⟨A6, c6, rfl, hl6⟩ := hslx.form; have HMx := Lib.hid hmx; have HOx := Lib.hid hfx; have HS6 := Lib.hid hslx; have HN6 := Lib.hid hN6; have HBb := Lib.hid (HBb.out.chg hN6 id); clear hmx hfx hslx hN6)
          | (go_at_call 13; with_reducible refine (HFy.out _ HN6.out).mono ?_; rintro e w7 ⟨my, x13, outy, hmy, hfy, rfl, hsly, hN7⟩; obtain ⟨A7, c7, rfl, hl7⟩ := hsly.form; have HMy := Lib.hid hmy; have HOy := Lib.hid hfy; have HS7 := Lib.hid hsly; have HN7 := Lib.hid hN7; clear hmy hfy hsly hN7)
        have hund : ∀ x ∈ outx, x.stamp ≤ findS outy x := fun x hx => find_under (fire_under (merge_under (ok_canon (raw_ok HGy.out)) HMx.out HMy.out (fun x hx => List.mem_append_left _ hx)) HNt.out) HOx.out HOy.out hx
        have HU := Lib.hid hund
        have HS6b := Lib.hid (HS6.out.chg HN7.out)
        have HNe := Lib.hid ((HNw.out.trans HN6.out (fun _ _ x => x)).trans HN7.out (fun _ _ x => x))
        clear hund HMx HMy HOx HOy HS6 HN6 HN7 HFx HFy HNw HBb HGx HGy HNt HX1 HX2
        obtain ⟨na, hna⟩ : ∃ na, outx.length = na := ⟨_, rfl⟩
        obtain ⟨nz, hnz⟩ : ∃ nz, outy.length = nz := ⟨_, rfl⟩
        rw [hna] at hl6 HS6b ⊢
        rw [hnz] at hl7 HS7 ⊢
        have Hna := Lib.hid hna
        have Hnz := Lib.hid hnz
        clear hna hnz
        go_loopw [14] (fun u14 wq => ∃ k : Nat, k ≤ na ∧ u14 = .int .i64 k ∧ New w7 wq) (fun u _ => na - (intOf u).toNat)
        case atStart => exact ⟨0, Nat.zero_le _, rfl, Chg.refl _ _⟩
        case round =>
          obtain ⟨k, hk, rfl, hNq⟩ := hrel
          have HNq := Lib.hid hNq
          clear hNq
          by_cases hlk : k < na
          · obtain ⟨y, hy⟩ : ∃ y, outx[k]? = some y := ⟨_, List.getElem?_eq_getElem (by rw [Hna.out]; exact hlk)⟩
            have hS6 := HS6b.out.chg HNq.out
            obtain ⟨ay, csy, rfl, haty, hly2, hrowy⟩ := hS6.row hy
            obtain ⟨Ayy, cyy, hcsy, _⟩ := id hrowy
            have hsty := haty 2 (.int .i64 y.stamp) (by rw [hcsy]; rfl)
            rw [add_succ] at hsty
            have k0 : (0 : Int) ≤ (k : Int) := by omega
            have k1 : (k : Int) < (na : Int) := by omega
            have hge := HU.out y (List.mem_of_getElem? hy)
            obtain ⟨fs, hfs⟩ : ∃ fs, findS outy y = fs := ⟨_, rfl⟩
            rw [hfs] at hge
            have hlt3 : decide (fs < y.stamp) = false := by simp; omega
            have hFind := fun W (hW : New wr W) => find_sl W _ outy (HS7.out.chg (HNq.out.trans hW (fun _ _ x => x))) csy y (hrowy.chg hW)
            rw [hfs] at hFind
            have HLy := Lib.hid hly2
            have HFind := Lib.hid hFind
            go_upto_region 17 with fail
            refine wp_region_at (by kernel_rfl) ?_
            have hq2 : New wr wr.drew := (Chg.refl _ _).drew
            have QAy := Lib.hid (haty.chg hq2 id)
            have QSy := Lib.hid (hq2.cellS hsty id)
            have QN := Lib.hid hq2
            have QFind := Lib.hid (fun W (hW : New wr.drew W) => hFind W (hq2.trans hW (fun _ _ x => x)))
            clear hq2 hS6 haty hly2 hrowy hcsy hsty hy hge hfs hFind HFind
            have QO := Lib.hid (HNq.out.trans QN.out (fun _ _ x => x))
            clear QN
            generalize wr.drew = we at QAy QSy QFind QO ⊢
            refine AtN.segN2 0 11 [56, 57, 58, 59, 60, 61, 62, 63, 64, 65, 66] (fun
              | 0 => fun v _ => v = .slice A7 nz c7
              | 1 => fun v _ => v = .slice (some ay) na c6
              | 2 => fun v _ => v = .int .i64 k
              | 3 => fun v _ => v = .pointer (some (ay.add (k * 3)))
              | 4 => fun v _ => v = .agg csy.toArray
              | 5 => fun v _ => v = .int .i64 fs
              | 6 => fun v _ => v = .slice (some ay) na c6
              | 7 => fun v _ => v = .int .i64 k
              | 8 => fun v _ => v = .pointer (some (ay.add (k * 3)))
              | 9 => fun v _ => v = .pointer (some ⟨(ay.add (k * 3)).block, (ay.add (k * 3)).off + 2, none⟩)
              | 10 => fun v _ => v = .int .i64 y.stamp
              | _ => fun _ _ => True) (by kernel_rfl) (by kernel_rfl) (by kernel_rfl) (by kernel_rfl) (fun j v w1 w2 hc h => ?_) (fun i hn hi o ho A0 W hN hin hk => ?_) (fun l Wf hN hl hΦ => ?_)
            · match j with
              | 0 | 1 | 2 | 3 | 4 | 5 | 6 | 7 | 8 | 9 | 10 => exact h
              | _ + 11 => trivial
            · rcases (show i = 0 ∨ i = 1 ∨ i = 2 ∨ i = 3 ∨ i = 4 ∨ i = 5 ∨ i = 6 ∨ i = 7 ∨ i = 8 ∨ i = 9 ∨ i = 10 by omega) with rfl | rfl | rfl | rfl | rfl | rfl | rfl | rfl | rfl | rfl | rfl
              · cases ho
                exact .same (exec_move 13 _ rfl (hk 13 (by kernel_rfl))) rfl
              · cases ho
                exact .same (exec_move 12 _ rfl (hk 12 (by kernel_rfl))) rfl
              · cases ho
                exact .same (exec_move 14 _ rfl (hk 14 (by kernel_rfl))) rfl
              · cases ho
                have h57 : A0.tmps[57]?.getD undef = .slice (some ay) na c6 := hin 1 57 (by kernel_rfl)
                have h58 : A0.tmps[58]?.getD undef = .int .i64 k := hin 2 58 (by kernel_rfl)
                exact .same (by simp [go_sem, h57, h58, k0, k1, hlk]) rfl
              · cases ho
                have h59 : A0.tmps[59]?.getD undef = .pointer (some (ay.add (k * 3))) := hin 3 59 (by kernel_rfl)
                exact .same (exec_load 59 _ rfl stRow (ay.add (k * 3)) csy h59 HLy.out (QAy.out.chg hN id)) rfl
              · cases ho
                have h56 : A0.tmps[56]?.getD undef = .slice A7 nz c7 := hin 0 56 (by kernel_rfl)
                have h60 : A0.tmps[60]?.getD undef = .agg csy.toArray := hin 4 60 (by kernel_rfl)
                refine .call (f := 10) (args := #[.slice A7 nz c7, .agg csy.toArray]) (W' := W) ?_ ((QFind.out W hN).mono ?_)
                · simp [go_sem, h56, h60, eg10]
                · rintro e w' ⟨rfl, hc⟩
                  exact ⟨_, rfl, hc, rfl⟩
              · cases ho
                exact .same (exec_move 12 _ rfl (hk 12 (by kernel_rfl))) rfl
              · cases ho
                exact .same (exec_move 14 _ rfl (hk 14 (by kernel_rfl))) rfl
              · cases ho
                have h62 : A0.tmps[62]?.getD undef = .slice (some ay) na c6 := hin 6 62 (by kernel_rfl)
                have h63 : A0.tmps[63]?.getD undef = .int .i64 k := hin 7 63 (by kernel_rfl)
                exact .same (by simp [go_sem, h62, h63, k0, k1, hlk]) rfl
              · cases ho
                have h64 : A0.tmps[64]?.getD undef = .pointer (some (ay.add (k * 3))) := hin 8 64 (by kernel_rfl)
                exact .same (by simp [go_sem, h64]) rfl
              · cases ho
                have h65 : A0.tmps[65]?.getD undef = .pointer (some ⟨(ay.add (k * 3)).block, (ay.add (k * 3)).off + 2, none⟩) := hin 9 65 (by kernel_rfl)
                have hcx : W.cell? ⟨(ay.add (k * 3)).block, (ay.add (k * 3)).off + 2, none⟩ = some (.int .i64 y.stamp) := hN.cellS QSy.out id
                exact .same (v := .int .i64 y.stamp) (by simp [go_sem, h65, hcx]) rfl
            obtain ⟨x56, x57, x58, x59, x60, x61, x62, x63, x64, x65, x66, rfl⟩ : ∃ x56 x57 x58 x59 x60 x61 x62 x63 x64 x65 x66, l = [x56, x57, x58, x59, x60, x61, x62, x63, x64, x65, x66] := by
              match l, hl with
              | [x56, x57, x58, x59, x60, x61, x62, x63, x64, x65, x66], _ => exact ⟨_, _, _, _, _, _, _, _, _, _, _, rfl⟩
            obtain rfl : x56 = .slice A7 nz c7 := hΦ 0 (by decide)
            obtain rfl : x57 = .slice (some ay) na c6 := hΦ 1 (by decide)
            obtain rfl : x58 = .int .i64 k := hΦ 2 (by decide)
            obtain rfl : x59 = .pointer (some (ay.add (k * 3))) := hΦ 3 (by decide)
            obtain rfl : x60 = .agg csy.toArray := hΦ 4 (by decide)
            obtain rfl : x61 = .int .i64 fs := hΦ 5 (by decide)
            obtain rfl : x62 = .slice (some ay) na c6 := hΦ 6 (by decide)
            obtain rfl : x63 = .int .i64 k := hΦ 7 (by decide)
            obtain rfl : x64 = .pointer (some (ay.add (k * 3))) := hΦ 8 (by decide)
            obtain rfl : x65 = .pointer (some ⟨(ay.add (k * 3)).block, (ay.add (k * 3)).off + 2, none⟩) := hΦ 9 (by decide)
            obtain rfl : x66 = .int .i64 y.stamp := hΦ 10 (by decide)
            simp only [putsL, List.zip_cons_cons, List.zip_nil_left, List.zip_nil_right, List.zip, List.zipWith, Act.put, List.setIfInBounds_toArray, List.set_cons_succ, List.set_cons_zero]
            clear hΦ hl
            have RO := Lib.hid (QO.out.trans hN (fun _ _ x => x))
            clear hN QAy QSy QFind QO
            refine AtN.list 11 12 (by kernel_rfl) ?_
            change wpList _ _ _ [_] _ _
            go_wp2_with fail
            change AtN _ _ _ 12 _ _
            refine AtN.done rfl ?_
            go_wp2_with fail
            go_roundw
            case rel => exact ⟨k + 1, by omega, by go_num, RO.out⟩
            case measure => simp [intOf]; omega
          · go_wp2_with fail
            go_ret
            exact ⟨rfl, HNe.out.trans HNq.out (fun _ _ x => x)⟩
end Go.Proofs.Ytenkobgeflckdab
