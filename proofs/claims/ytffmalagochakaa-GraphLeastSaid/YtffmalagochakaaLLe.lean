/- GraphLeast: the walk. -/
import Derived.Test.YtffmalagochakaaLeP
import Derived.Deep.CutRange
set_option linter.unusedVariables false
set_option linter.unusedSimpArgs false
namespace Go.Proofs.Ytffmalagochakaa
open Go.RowKit Go.Shelf

noncomputable def thB (E : List Ed) (D : Int) (L : List (List ByteArray)) : Bool := L.any (fun l => decide (costW E l = D))
theorem thB_snoc (E : List Ed) (D : Int) (L : List (List ByteArray)) {i : Nat} {l : List ByteArray} (h : L[i]? = some l) : thB E D (L.take (i + 1)) = (thB E D (L.take i) || decide (costW E l = D)) := by
  unfold thB
  rw [take_succ_get h, List.any_append]
  simp

set_option maxHeartbeats 8000000 in
set_option maxRecDepth 100000 in
theorem walk_GraphLeast (w : World) (v : Value) (n : Nat) (X : Nat → Int) (hx : IntsAt w v 3 n X) (both : Bool) (one : Int) (hlo1 : -9223372036854775808 ≤ one) (hhi1 : one ≤ 9223372036854775807) (two : Int) (hlo2 : -9223372036854775808 ≤ two) (hhi2 : two ≤ 9223372036854775807) :
    Calls Try.prog 3 #[v, .bool both, .int .i64 one, .int .i64 two] w fun e w' => e = .returned (.bool true) ∧ New w w' := by
  have HX := Lib.hid (show ∀ W, New w W → IntsAt W v 3 n X from fun W hn => ints_new hx hn)
  clear hx
  go_enter Try.func3, Try.ntmps3
  go_upto_region 3 with first
    | (go_at_call 8; refine (awake8 _).mono ?_; rintro e w1 ⟨rfl, hn⟩; have HN1 := Lib.hid hn; have HEd := Lib.hid (edges20 w1 v n X (HX.out w1 hn) both); clear hn)
    | (go_at_call 9; refine HEd.out.mono ?_; rintro e w2 ⟨ve, E, rfl, hoE, hlE, hraw, hboth, hn⟩; have HN2 := Lib.hid (HN1.out.trans hn (fun _ _ x => x)); have HO2 := Lib.hid (Own.baseG hoE (Nat.zero_le _)); have HRaw := Lib.hid hraw; clear hoE hraw hboth hn)
  obtain ⟨AE, cE, hve, -⟩ := own_src HO2.out
  subst hve
  obtain ⟨p1, sa, hp1, hlt1, hs1, hc1⟩ := node_ex one
  have HK1 := Lib.hid (show ∀ W, Calls Try.prog 11 #[.int .i64 one, .int .i64 5] W (fun e w' => e = .returned (.int .i64 p1) ∧ W = w') from fun W => (pick20 W one 5 hlo1 hhi1 (by omega) (by omega)).mono (fun e w' h => by rw [← hp1]; exact h))
  have HC1 := Lib.hid hc1
  have HS1 := Lib.hid hs1
  have i01 : (0 : Int) ≤ (p1 : Int) := by omega
  have i11 : (p1 : Int) < 5 := by omega
  clear hc1 hs1 hp1
  go_upto_region 4 with first
    | (go_at_call 10; refine (names20 _).mono ?_; rintro e wn1 ⟨bn1, rfl, hb, hn⟩; have HNn1 := Lib.hid hn; have en1 := HC1.out _ _ hb; clear hb hn)
    | (go_at_call 11; with_reducible refine (HK1.out _).mono ?_; rintro e w' ⟨rfl, rfl⟩)
  clear en1 i01 i11 HK1 HC1
  obtain ⟨p2, sb, hp2, hlt2, hs2, hc2⟩ := node_ex two
  have HK2 := Lib.hid (show ∀ W, Calls Try.prog 11 #[.int .i64 two, .int .i64 5] W (fun e w' => e = .returned (.int .i64 p2) ∧ W = w') from fun W => (pick20 W two 5 hlo2 hhi2 (by omega) (by omega)).mono (fun e w' h => by rw [← hp2]; exact h))
  have HC2 := Lib.hid hc2
  have HS2 := Lib.hid hs2
  have i02 : (0 : Int) ≤ (p2 : Int) := by omega
  have i12 : (p2 : Int) < 5 := by omega
  clear hc2 hs2 hp2
  go_upto_region 5 with first
    | (go_at_call 10; refine (names20 _).mono ?_; rintro e wn2 ⟨bn2, rfl, hb, hn⟩; have HNn2 := Lib.hid hn; have en2 := HC2.out _ _ hb; clear hb hn)
    | (go_at_call 11; with_reducible refine (HK2.out _).mono ?_; rintro e w' ⟨rfl, rfl⟩)
  clear en2 i02 i12 HK2 HC2
  have HM := Lib.hid ((HN2.out.trans HNn1.out (fun _ _ x => x)).trans HNn2.out (fun _ _ x => x))
  have HO3 := Lib.hid ((HO2.out.chg HNn1.out (fun _ _ x => x)).chg HNn2.out (fun _ _ x => x))
  have HFit := Lib.hid (show ∀ e ∈ E, e.Fit from fun e he => (HRaw.out e he).fit)
  clear HNn1 HNn2 HN2 HO2 HN1 HEd HX
  by_cases hab : sa = sb
  · subst hab
    have HWy := Lib.hid (show Calls Try.prog 12 #[.slice AE E.length cE, .string sa, .string sa] wn2 (WaysPost wn2 E sa sa) from
      ways12 wn2 AE E.length cE E rfl HO3.out.srcG.2 HFit.out (by omega) sa sa (nmL_size HS1.out) (nmL_size HS1.out))
    have he : waysOf E sa sa = [] := by unfold waysOf; rw [if_pos rfl]
    have He := Lib.hid he
    clear he
    go_wp2_with (go_at_call 12; refine HWy.out.mono ?_; rintro e w5 ⟨vw, xs, rfl, hw, hn⟩; rw [He.out] at hw; obtain ⟨Aw, cw, hvw⟩ := hw.form; rw [List.length_nil] at hvw; subst hvw; have HN5 := Lib.hid (HM.out.trans hn (fun _ _ x => x)); clear hw hn)
    go_ret
    exact ⟨rfl, HN5.out⟩
  · have hsl : ¬ sa.toList = sb.toList := fun e => hab (tl_eqG e)
    have hql : (sa.toList == sb.toList) = false := by simpa using hsl
    have HD1 := Lib.hid (show Calls Try.prog 13 #[.slice AE E.length cE, .string sa, .string sb] wn2 (DistPost wn2 E sa sb) from
      dist13 wn2 AE E.length cE E rfl HO3.out.srcG.2 HFit.out (by omega) sa sb (nmL_size HS1.out) (nmL_size HS2.out))
    go_upto_region 8 with (go_at_call 13; refine HD1.out.mono ?_; rintro e w4 ⟨hdo, rfl, hn⟩; have HDo := Lib.hid hdo; have HM4 := Lib.hid (HM.out.trans hn (fun _ _ x => x)); have HO4 := Lib.hid (HO3.out.chg hn (fun _ _ x => x)); clear hdo hn)
    clear hsl hql HD1 HO3 HM
    have hle := ways_least HRaw.out HS1.out hab HDo.out
    have HOkW := Lib.hid hle.1
    have HLen := Lib.hid hle.2.1
    have HEx := Lib.hid hle.2.2
    clear hle
    have HWy := Lib.hid (show Calls Try.prog 12 #[.slice AE E.length cE, .string sa, .string sb] w4 (WaysPost w4 E sa sb) from
      ways12 w4 AE E.length cE E rfl HO4.out.srcG.2 HFit.out (by omega) sa sb (nmL_size HS1.out) (nmL_size HS2.out))
    obtain ⟨L, hL⟩ : ∃ L, waysOf E sa sb = L := ⟨_, rfl⟩
    rw [hL] at HOkW HLen HEx
    have HLe := Lib.hid hL
    clear hL
    obtain ⟨D, hD⟩ : ∃ D, (dst E sa sb).getD 0 = D := ⟨_, rfl⟩
    rw [hD]
    have HDe := Lib.hid hD
    clear hD
    have hLl := HLen.out
    go_upto_region 9 with (go_at_call 12; refine HWy.out.mono ?_; rintro e w5 ⟨vw, xs, rfl, hw, hn⟩; rw [HLe.out] at hw; obtain ⟨Aw, cw, hvw⟩ := hw.form; subst hvw; have HWs := Lib.hid hw; have HM5 := Lib.hid (HM4.out.trans hn (fun _ _ x => x)); have HO5 := Lib.hid (HO4.out.chg hn (fun _ _ x => x)); clear hw hn)
    clear HWy HM4 HO4
    go_wp2_with fail
    go_loopw [16, 17] (fun u16 u17 wr => ∃ i : Nat, i ≤ L.length ∧ u17 = .int .i64 i ∧ u16 = .bool (thB E D (L.take i)) ∧ New w5 wr) (fun _ u _ => L.length - (intOf u).toNat)
    case atStart => exact ⟨0, Nat.zero_le _, rfl, rfl, Chg.refl _ _⟩
    case round =>
      obtain ⟨i, hi, rfl, rfl, hN⟩ := hrel
      have HN := Lib.hid hN
      clear hN
      by_cases hlt : i < L.length
      · obtain ⟨x, l, A', c', aw, e, -, hxx, hl, hcw, hol⟩ := ways_get (HWs.out.new HN.out) hlt
        simp only [Value.slice.injEq, true_and] at e
        obtain ⟨rfl, rfl⟩ := e
        have hok := HOkW.out l (List.mem_of_getElem? hl)
        have HSn := Lib.hid (thB_snoc E D L hl)
        obtain ⟨Al, cl, hxl, -⟩ := hol.formG
        rw [List.length_map] at hxl
        subst hxl
        obtain ⟨al, hal, -⟩ := hol.srcG.2 (by rw [List.length_map]; have := hok.two; omega)
        subst hal
        obtain ⟨m, hm⟩ : ∃ m, l.length = m + 1 := ⟨l.length - 1, by have := hok.two; omega⟩
        have h2 := hok.two
        have h5 := hok.five
        rw [hm] at hcw h2 h5
        have HOl := Lib.hid hol
        rw [hm] at HOl
        have HO6 := Lib.hid (HO5.out.chg HN.out (fun _ _ x => x))
        have HCs := Lib.hid (show Calls Try.prog 14 #[.slice AE E.length cE, .slice (some al) (m + 1) cl] wr (fun e w' => e = .returned (.tuple #[.int .i64 (costW E l), .bool true]) ∧ New wr w') from
          cost14 wr AE E.length cE E rfl HO6.out.srcG.2 HFit.out (by omega) (some al) (m + 1) cl l hm.symm HOl.out.srcG.2 (by omega) (by omega) (fun s hs => nmL_size (hok.sz s hs)) (costW E l) hok.pc)
        have HOk := Lib.hid hok
        have HCw := Lib.hid hcw
        have HMm := Lib.hid hm
        have k0 : (0 : Int) ≤ (i : Int) := by omega
        have k1 : (i : Int) < (L.length : Int) := by omega
        clear hxx hl hol hok hm
        go_upto_region 14 with (go_at_call 14; refine HCs.out.mono ?_; rintro e w7 ⟨rfl, hn⟩; have HN7 := Lib.hid hn; clear hn)
        clear HCs hcw
        have HN8 := Lib.hid (HN.out.trans HN7.out (fun _ _ x => x))
        have e0 := HN7.out.cellS HCw.out id
        have ea : w7.cell? (al.add 0) = some (.string sa) := by
          obtain ⟨a', ha, hc⟩ := HOl.out.srcG.2.nm HOk.out.fst
          cases ha
          exact HN7.out.cellS hc id
        have eb : w7.cell? (al.add m) = some (.string sb) := by
          have h := HOk.out.lst
          rw [HMm.out, Nat.add_sub_cancel] at h
          obtain ⟨a', ha, hc⟩ := HOl.out.srcG.2.nm h
          cases ha
          exact HN7.out.cellS hc id
        have ea2 : w7.cell? al = some (.string sa) := ea
        have m0 : (0 : Int) < (m : Int) + 1 := by omega
        have m1 : (0 : Int) ≤ (m : Int) := by omega
        have m2 : (m : Int) < (m : Int) + 1 := by omega
        have kw : IntKind.i64.wrap (m : Int) = m := by rw [IntKind.wrap_i64]; omega
        have hcd : D ≤ costW E l := by
          obtain ⟨d, h1, h2⟩ := HOk.out.least
          rw [← HDe.out, h1]
          exact h2
        have hcd2 : decide (costW E l < D) = false := by simp; omega
        go_quiet (fail)
        clear e0 ea eb ea2 m0 m1 m2 kw hcd hcd2
        have HN9 := Lib.hid (HN8.out.drewN nq)
        have HN7q := Lib.hid (HN7.out.drewN nq)
        generalize w7.drewN nq = wq at HN9 HN7q ⊢
        obtain ⟨th, hth⟩ : ∃ th, thB E D (L.take i) = th := ⟨_, rfl⟩
        obtain ⟨cd, hcd⟩ : ∃ cd, decide (costW E l = D) = cd := ⟨_, rfl⟩
        have HTn := Lib.hid (show thB E D (L.take (i + 1)) = (th || cd) by rw [HSn.out, hth, hcd])
        rw [hth]
        clear hth
        obtain ⟨z, hz⟩ : ∃ z, (th || cd) = z := ⟨_, rfl⟩
        go_upto_region 16 with fail
        go_cut [16] from 107 to 112 (fun u wx => u = .bool z ∧ wx = wq)
        case first =>
          cases th with
          | true =>
            rw [Bool.true_or] at hz
            subst hz
            go_wp2_with fail
            go_meet
            exact ⟨rfl, rfl⟩
          | false =>
            rw [Bool.false_or] at hz
            have HZ := Lib.hid hz
            have HCd := Lib.hid hcd
            clear hz hcd
            go_wp2_with fail
            go_meet
            exact ⟨by rw [← HZ.out, ← HCd.out]; rfl, rfl⟩
        case rest =>
          obtain ⟨rfl, rfl⟩ := hcut
          rw [hz] at HTn
          clear hz hcd
          go_wp2_with fail
          go_loopw [20] (fun u wr2 => ∃ k : Nat, k ≤ m + 1 ∧ u = .int .i64 k ∧ New wc wr2) (fun u _ => m + 1 - (intOf u).toNat)
          case atStart => exact ⟨0, Nat.zero_le _, rfl, Chg.refl _ _⟩
          case round =>
            obtain ⟨k, hk, rfl, hN⟩ := hrel
            have HN10 := Lib.hid hN
            clear hN
            have e0 := (HN7q.out.trans HN10.out (fun _ _ x => x)).cellS HCw.out id
            by_cases hlt2 : k < m + 1
            · obtain ⟨sk, hsk⟩ : ∃ sk, l[k]? = some sk := ⟨_, List.getElem?_eq_getElem (by rw [HMm.out]; exact hlt2)⟩
              obtain ⟨a', ha, hck⟩ := HOl.out.srcG.2.nm hsk
              cases ha
              have HCk := Lib.hid hck
              have HSk := Lib.hid hsk
              have kk : (k : Int) < (m : Int) + 1 := by omega
              have kk0 : (0 : Int) ≤ (k : Int) := by omega
              clear hck hsk
              go_wp2_with fail
              clear e0
              go_loopw [21] (fun u wr3 => ∃ j : Nat, j ≤ k ∧ u = .int .i64 j ∧ New wr wr3) (fun u _ => k - (intOf u).toNat)
              case atStart => exact ⟨0, Nat.zero_le _, rfl, Chg.refl _ _⟩
              case round =>
                obtain ⟨j, hj, rfl, hN⟩ := hrel
                have HN11 := Lib.hid hN
                clear hN
                by_cases hlt3 : j < k
                · obtain ⟨sj, hsj⟩ : ∃ sj, l[j]? = some sj := ⟨_, List.getElem?_eq_getElem (by rw [HMm.out]; omega)⟩
                  obtain ⟨a', ha, hcj⟩ := HOl.out.srcG.2.nm hsj
                  cases ha
                  have hne : ¬ sj = sk := fun e => by
                    obtain ⟨g1, g2⟩ := List.getElem?_eq_some_iff.1 hsj
                    obtain ⟨g3, g4⟩ := List.getElem?_eq_some_iff.1 HSk.out
                    have := (List.pairwise_iff_getElem.1 HOk.out.nodup) j k g1 g3 hlt3
                    exact this (by rw [g2, g4]; exact e)
                  have hsl : ¬ sj.toList = sk.toList := fun e => hne (tl_eqG e)
                  have hql : (sj.toList == sk.toList) = false := by simpa using hsl
                  have hnw := ((HN7.out.drewN nq).trans (Chg.refl _ _) (fun _ _ x => x : ∀ k, k < _ → False → False))
                  have HNt := Lib.hid ((HN7q.out.trans HN10.out (fun _ _ x => x)).trans HN11.out (fun _ _ x => x))
                  have e0 := HNt.out.cellS HCw.out id
                  have e1 := HNt.out.cellS hcj id
                  have e2 := HNt.out.cellS HCk.out id
                  have j0 : (0 : Int) ≤ (j : Int) := by omega
                  have j1 : (j : Int) < (m : Int) + 1 := by omega
                  have j2 : (j : Int) < (k : Int) := by omega
                  clear hsj hcj hne hnw
                  go_upto_region 23 with fail
                  go_quiet (fail)
                  clear e0 e1 e2
                  go_wp2_with fail
                  go_roundw
                  case rel => exact ⟨j + 1, by omega, by go_num, HN11.out.drewN _⟩
                  case measure => simp only [intOf]; omega
                · have HN12 := Lib.hid (HN10.out.trans HN11.out (fun _ _ x => x))
                  go_wp2_with fail
                  go_roundw
                  case rel => exact ⟨k + 1, by omega, by go_num, HN12.out⟩
                  case measure => simp only [intOf]; omega
            · have HN12 := Lib.hid (HN9.out.trans HN10.out (fun _ _ x => x))
              go_wp2_with fail
              go_roundw
              case rel => exact ⟨i + 1, by omega, by go_num, by rw [HTn.out], HN12.out⟩
              case measure => simp only [intOf]; omega
      · have hil : i = L.length := by omega
        have HN12 := Lib.hid (HM5.out.trans HN.out (fun _ _ x => x))
        obtain ⟨th, hth⟩ : ∃ th, thB E D (L.take i) = th := ⟨_, rfl⟩
        rw [hth]
        rw [hil, List.take_length] at hth
        cases hdd : dst E sa sb with
        | none =>
          have hLn : L = [] := by
            cases L with
            | nil => rfl
            | cons l L =>
              obtain ⟨d, h1, _⟩ := (HOkW.out l (by simp)).least
              rw [hdd] at h1; cases h1
          subst hLn
          have hth0 : th = false := by rw [← hth]; rfl
          subst hth0
          have hD0 : D = 0 := by rw [← HDe.out, hdd]; rfl
          subst hD0
          clear hth hdd hil
          go_wp2_with fail
          go_ret
          exact ⟨rfl, HN12.out⟩
        | some d =>
          obtain ⟨l0, hl0, hc0⟩ := HEx.out d hdd
          have hdD : d = D := by rw [← HDe.out, hdd]; rfl
          have hlp : 0 < L.length := List.length_pos_of_mem hl0
          have hth1 : th = true := by
            rw [← hth]
            unfold thB
            rw [List.any_eq_true]
            exact ⟨l0, hl0, decide_eq_true (by rw [hc0, hdD])⟩
          subst hth1
          have l1 : (0 : Int) < (L.length : Int) := by omega
          clear hth hdd hil hl0 hc0
          go_wp2_with fail
          go_ret
          exact ⟨rfl, HN12.out⟩
end Go.Proofs.Ytffmalagochakaa
