/- GraphReaches: the walk. -/
import Derived.Test.YtffmalagochakaaGraL
set_option linter.unusedVariables false
set_option linter.unusedSimpArgs false
namespace Go.Proofs.Ytffmalagochakaa
open Go.RowKit Go.Shelf

theorem nmL_cell {i : Nat} {s : ByteArray} (h : nmL[i]? = some s) {W : World} {b : Nat} (hb : Blk W b 9 #[.string ⟨#[97]⟩, .string ⟨#[98]⟩, .string ⟨#[99]⟩, .string ⟨#[100]⟩, .string ⟨#[101]⟩]) : W.cell? ⟨b, i, none⟩ = some (.string s) := by
  have hi : i < 5 := (List.getElem?_eq_some_iff.1 h).1
  rcases (show i = 0 ∨ i = 1 ∨ i = 2 ∨ i = 3 ∨ i = 4 by omega) with rfl | rfl | rfl | rfl | rfl <;> cases h
  · exact hb.cell 0
  · exact hb.cell 1
  · exact hb.cell 2
  · exact hb.cell 3
  · exact hb.cell 4
theorem nmL_up : nmL.Pairwise (fun a b => bsL a ≤ bsL b ∧ a ≠ b) := by decide
theorem nmL_nodup : nmL.Nodup := nmL_up.imp (fun h => h.2)
/-- What one comes to, of the five. -/
noncomputable def hasD (E : List Ed) (a s : ByteArray) : Bool := (dst E a s).isSome
theorem reach_nmL {E : List Ed} (hE : ∀ e ∈ E, e.Raw) {a : ByteArray} (hd : ∀ v, DistO (RE E) a v (dst E a v)) {ns : List ByteArray} (hk : KeysF (dst E a) ns) : ns = nmL.filter (hasD E a) := by
  refine hk.uniq ⟨fun s => ?_, nmL_up.filter _⟩
  rw [List.mem_filter]
  constructor
  · rintro ⟨h1, h2⟩
    exact ⟨nmL_size h1, h2⟩
  · rintro ⟨_, h2⟩
    refine ⟨?_, h2⟩
    obtain ⟨d, hd2⟩ := Option.isSome_iff_exists.1 h2
    have h3 := isd_of (hd s) hd2
    rcases h3.1.last with h4 | ⟨x, d1, c, _, h4, _⟩
    · exact (few_raw hE _ _ _ h4).2.2.1
    · exact (few_raw hE _ _ _ h4).2.2.1
theorem filter_at {P : ByteArray → Bool} {l : List ByteArray} (hn : l.Nodup) {i : Nat} {b : ByteArray} (hb : l[i]? = some b) : (P b = true → (l.filter P)[((l.take i).filter P).length]? = some b) ∧ (P b = false → (l.filter P)[((l.take i).filter P).length]? ≠ some b) := by
  have hsp : l = l.take i ++ b :: l.drop (i + 1) := by
    have := List.getElem?_eq_some_iff.1 hb
    obtain ⟨h1, h2⟩ := this
    rw [← h2, ← List.drop_eq_getElem_cons h1, List.take_append_drop]
  have hf : l.filter P = (l.take i).filter P ++ (b :: l.drop (i + 1)).filter P := by
    conv => lhs; rw [hsp]
    rw [List.filter_append]
  rw [hf, List.getElem?_append_right (Nat.le_refl _), Nat.sub_self]
  constructor
  · intro h
    rw [List.filter_cons, if_pos h]
    rfl
  · intro h
    rw [List.filter_cons, h]
    simp only [Bool.false_eq_true, if_false]
    intro e
    have hm := List.mem_of_getElem? e
    rw [List.mem_filter] at hm
    rw [h] at hm
    cases hm.2

set_option maxHeartbeats 8000000 in
set_option maxRecDepth 100000 in
theorem walk_GraphReaches (w : World) (v : Value) (n : Nat) (X : Nat → Int) (hx : IntsAt w v 3 n X) (both : Bool) (one : Int) (hlo1 : -9223372036854775808 ≤ one) (hhi1 : one ≤ 9223372036854775807) :
    Calls Try.prog 5 #[v, .bool both, .int .i64 one] w fun e w' => e = .returned (.bool true) ∧ New w w' := by
  have HX := Lib.hid (show ∀ W, New w W → IntsAt W v 3 n X from fun W hn => ints_new hx hn)
  clear hx
  go_enter Try.func5, Try.ntmps5
  go_upto_region 3 with first
    | (go_at_call 8; refine (awake8 _).mono ?_; rintro e w1 ⟨rfl, hn⟩; have HN1 := Lib.hid hn; have HEd := Lib.hid (edges20 w1 v n X (HX.out w1 hn) both); clear hn)
    | (go_at_call 9; refine HEd.out.mono ?_; rintro e w2 ⟨ve, E, rfl, hoE, hlE, hraw, hboth, hn⟩; have HN2 := Lib.hid (HN1.out.trans hn (fun _ _ x => x)); have HO2 := Lib.hid (Own.baseG hoE (Nat.zero_le _)); have HRaw := Lib.hid hraw; clear hoE hraw hboth hn)
  obtain ⟨AE, cE, hve, -⟩ := own_src HO2.out
  subst hve
  obtain ⟨p1, sa, hp1, hlt1, hs1, hc1⟩ := node_ex one
  have HK1 := Lib.hid (show ∀ W, Calls Try.prog 11 #[.int .i64 one, .int .i64 5] W (fun e w' => e = .returned (.int .i64 p1) ∧ W = w') from fun W => (pick20 W one 5 hlo1 hhi1 (by omega) (by omega)).mono (fun e w' h => by rw [← hp1]; exact h))
  have HC1 := Lib.hid hc1
  have HS1 := Lib.hid hs1
  have i01 : (0 : Int) ≤ (p1 : Int) := by omega
  have i11 : (p1 : Int) < 5 := by omega
  clear hc1 hs1 hp1
  go_upto_region 4 with first
    | (go_at_call 10; refine (names20 _).mono ?_; rintro e wn1 ⟨bn1, rfl, hb, hn⟩; have HNn1 := Lib.hid hn; have en1 := HC1.out _ _ hb; clear hb hn)
    | (go_at_call 11; with_reducible refine (HK1.out _).mono ?_; rintro e w' ⟨rfl, rfl⟩)
  clear en1 i01 i11 HK1 HC1
  have HM1 := Lib.hid (HN2.out.trans HNn1.out (fun _ _ x => x))
  have HO3 := Lib.hid (HO2.out.chg HNn1.out (fun _ _ x => x))
  have HFit := Lib.hid (show ∀ e ∈ E, e.Fit from fun e he => (HRaw.out e he).fit)
  clear HNn1 HN2 HO2 HN1 HEd
  have HRc := Lib.hid (show Calls Try.prog 15 #[.slice AE E.length cE, .string sa] wn1 (ReachPost wn1 E sa) from reach15 wn1 AE E.length cE E rfl HO3.out.srcG.2 HFit.out (by omega) sa (nmL_size HS1.out))
  go_upto_region 5 with (go_at_call 15; refine HRc.out.mono ?_; rintro e w4 ⟨hd, vm, ns, rfl, hk, ho, hn⟩; have HD := Lib.hid hd; have HNs := Lib.hid (reach_nmL HRaw.out hd hk); have HOm := Lib.hid (Own.baseG ho (Nat.zero_le _)); have HM2 := Lib.hid (HM1.out.trans hn (fun _ _ x => x)); have HO4 := Lib.hid (HO3.out.chg hn (fun _ _ x => x)); clear hd hk ho hn)
  clear HRc HM1 HO3
  obtain ⟨Am, cm, hvm, -⟩ := HOm.out.formG
  rw [List.length_map] at hvm
  subst hvm
  have hnl : ns.length ≤ 5 := by rw [HNs.out]; exact List.length_filter_le _ _
  go_upto_region 7 with (go_at_call 10; refine (names20 _).mono ?_; rintro e w5 ⟨b5, rfl, hb, hn⟩; have HB5 := Lib.hid hb; have HM5 := Lib.hid (HM2.out.trans hn (fun _ _ x => x)); have HO5 := Lib.hid (HO4.out.chg hn (fun _ _ x => x)); have HOm5 := Lib.hid (HOm.out.chg hn (fun _ _ x => x)); clear hb hn)
  clear HM2 HO4 HOm
  go_loopw [11, 36] (fun u11 u36 wr => ∃ i : Nat, i ≤ 5 ∧ u36 = .int .i64 i ∧ u11 = .int .i64 (((nmL.take i).filter (hasD E sa)).length : Nat) ∧ New w5 wr) (fun _ u _ => 5 - (intOf u).toNat)
  case atStart => exact ⟨0, by omega, rfl, rfl, Chg.refl _ _⟩
  case round =>
    obtain ⟨i, hi5, rfl, rfl, hN⟩ := hrel
    have HN := Lib.hid hN
    clear hN
    obtain ⟨k, hk⟩ : ∃ k, ((nmL.take i).filter (hasD E sa)).length = k := ⟨_, rfl⟩
    have hk5 : k ≤ 5 := by rw [← hk]; exact Nat.le_trans (List.length_filter_le _ _) (List.length_take_le' _ _)
    by_cases hlt : i < 5
    · obtain ⟨s, hs⟩ : ∃ s, nmL[i]? = some s := ⟨_, List.getElem?_eq_getElem (show i < nmL.length from hlt)⟩
      have hat := filter_at (P := hasD E sa) nmL_nodup hs
      rw [← HNs.out, hk] at hat
      have hnext : ((nmL.take (i + 1)).filter (hasD E sa)).length = k + (if hasD E sa s = true then 1 else 0) := by
        rw [take_succ_get hs, List.filter_append, List.length_append, hk, List.filter_cons, List.filter_nil]
        split <;> rfl
      have hss := nmL_size (List.mem_of_getElem? hs)
      have hc5 := nmL_cell hs (HB5.out.chg HN.out id)
      have HO6 := Lib.hid (HO5.out.chg HN.out (fun _ _ x => x))
      have HD6 := Lib.hid (show Calls Try.prog 13 #[.slice AE E.length cE, .string sa, .string s] wr (DistPost wr E sa s) from
        dist13 wr AE E.length cE E rfl HO6.out.srcG.2 HFit.out (by omega) sa s (nmL_size HS1.out) hss)
      have Hat := Lib.hid hat
      have Hnx := Lib.hid hnext
      have k0 : (0 : Int) ≤ (i : Int) := by omega
      have k1 : (i : Int) < (5 : Int) := by omega
      rw [hk]
      have Hkk := Lib.hid hk
      clear hat hnext hs hk
      go_upto_region 10 with (go_at_call 13; refine HD6.out.mono ?_; rintro e w7 ⟨hdo, rfl, hn⟩; have HN7 := Lib.hid (HN.out.trans hn (fun _ _ x => x)); clear hdo hn)
      clear HD6 HN hc5
      obtain ⟨q, hq⟩ : ∃ q, (dst E sa s).isSome = q := ⟨_, rfl⟩
      have hq' : hasD E sa s = q := hq
      rw [hq]
      generalize (dst E sa s).getD 0 = dd
      have Hq := Lib.hid hq'
      clear hq hq'
      have HOm7 := Lib.hid (HOm5.out.chg HN7.out (fun _ _ x => x))
      cases q with
      | true =>
        have hat := Hat.out.1 Hq.out
        obtain ⟨am, ham, hcm⟩ := HOm7.out.srcG.2.nm hat
        subst ham
        have hkl := (List.getElem?_eq_some_iff.1 hat).1
        have j0 : (0 : Int) ≤ (k : Int) := by omega
        have j1 : (k : Int) < (ns.length : Int) := by omega
        have hnx := Hnx.out
        rw [Hq.out] at hnx
        simp only [if_true] at hnx
        have HNx := Lib.hid hnx
        clear hnx hat
        go_wp2_with fail
        go_roundw
        case rel => exact ⟨i + 1, by omega, by go_num, by rw [HNx.out]; go_num, HN7.out⟩
        case measure => simp only [intOf]; omega
      | false =>
        have hat := Hat.out.2 Hq.out
        have hnx := Hnx.out
        rw [Hq.out] at hnx
        simp only [Bool.false_eq_true, if_false, Nat.add_zero] at hnx
        have HNx := Lib.hid hnx
        clear hnx
        by_cases hkl : k < ns.length
        · obtain ⟨x, hx⟩ : ∃ x, ns[k]? = some x := ⟨_, List.getElem?_eq_getElem hkl⟩
          rw [hx] at hat
          have hne : x ≠ s := fun e => hat (by rw [e])
          obtain ⟨am, ham, hcm⟩ := HOm7.out.srcG.2.nm hx
          subst ham
          have hsl : ¬ x.toList = s.toList := fun e => hne (tl_eqG e)
          have hql : (x.toList == s.toList) = false := by simpa using hsl
          have j0 : (0 : Int) ≤ (k : Int) := by omega
          have j1 : (k : Int) < (ns.length : Int) := by omega
          clear hat hx hne
          go_wp2_with fail
          go_roundw
          case rel => exact ⟨i + 1, by omega, by go_num, by rw [HNx.out], HN7.out⟩
          case measure => simp only [intOf]; omega
        · have j1 : decide ((k : Int) < (ns.length : Int)) = false := by simp; omega
          clear hat
          go_wp2_with fail
          go_roundw
          case rel => exact ⟨i + 1, by omega, by go_num, by rw [HNx.out], HN7.out⟩
          case measure => simp only [intOf]; omega
    · have hk2 : k = ns.length := by
        rw [← hk, HNs.out, show i = 5 by omega]
        rfl
      rw [hk, hk2]
      clear hk hk2 hk5
      have HOm6 := Lib.hid (HOm5.out.chg HN.out (fun _ _ x => x))
      have HO6 := Lib.hid (HO5.out.chg HN.out (fun _ _ x => x))
      have HM6 := Lib.hid (HM5.out.trans HN.out (fun _ _ x => x))
      clear HOm5 HO5 HM5 HN HB5
      go_wp2_with fail
      go_loopw [17] (fun u wr2 => ∃ i : Nat, i ≤ ns.length ∧ u = .int .i64 i ∧ New wr wr2) (fun u _ => ns.length - (intOf u).toNat)
      case atStart => exact ⟨0, Nat.zero_le _, rfl, Chg.refl _ _⟩
      case round =>
        obtain ⟨i2, hi2, rfl, hN⟩ := hrel
        have HN8 := Lib.hid hN
        clear hN
        by_cases hlt2 : i2 < ns.length
        · obtain ⟨x, hx⟩ : ∃ x, ns[i2]? = some x := ⟨_, List.getElem?_eq_getElem hlt2⟩
          have hxn : x ∈ ns := List.mem_of_getElem? hx
          have hxf : x ∈ nmL ∧ hasD E sa x = true := by
            rw [HNs.out, List.mem_filter] at hxn
            exact hxn
          have hxs := nmL_size hxf.1
          have HOm8 := Lib.hid (HOm6.out.chg HN8.out (fun _ _ x => x))
          have HO8 := Lib.hid (HO6.out.chg HN8.out (fun _ _ x => x))
          obtain ⟨am, ham, hcm⟩ := HOm8.out.srcG.2.nm hx
          subst ham
          have HRc := Lib.hid (show Calls Try.prog 15 #[.slice AE E.length cE, .string x] wr (ReachPost wr E x) from reach15 wr AE E.length cE E rfl HO8.out.srcG.2 HFit.out (by omega) x hxs)
          have k0 : (0 : Int) ≤ (i2 : Int) := by omega
          have k1 : (i2 : Int) < (ns.length : Int) := by omega
          have HXf := Lib.hid hxf
          clear hx hxn hxf
          go_upto_region 22 with (go_at_call 15; refine HRc.out.mono ?_; rintro e w9 ⟨hd2, v2, ns2, rfl, hk2, ho2, hn2⟩; have HK2 := Lib.hid hk2; have HD2 := Lib.hid hd2; have HO2 := Lib.hid (Own.baseG ho2 (Nat.zero_le _)); have HN9 := Lib.hid (HN8.out.trans hn2 (fun _ _ x => x)); have HOm9 := Lib.hid (HOm8.out.chg hn2 (fun _ _ x => x)); clear hd2 hk2 ho2 hn2)
          clear hcm HRc HO8 HOm8 HN8
          obtain ⟨A2, c2, hv2, -, hc2m⟩ := HO2.out.formG
          rw [List.length_map] at hv2
          subst hv2
          have hn2l : ns2.length ≤ 5 := by rw [reach_nmL HRaw.out HD2.out HK2.out]; exact List.length_filter_le _ _
          have HSub := Lib.hid (show ∀ y ∈ ns2, y ∈ ns from fun y hy => by
            have h1 := (HK2.out.mem y).1 hy
            obtain ⟨d1, hd1⟩ := Option.isSome_iff_exists.1 h1.2
            obtain ⟨d0, hd0⟩ := Option.isSome_iff_exists.1 HXf.out.2
            have h2 := isd_of (HD2.out y) hd1
            have h3 := isd_of (HD.out x) hd0
            obtain ⟨z, hz, _⟩ := dist_triangle h3 h2 (HD.out y)
            have hy2 : y ∈ nmL := by
              have := hy
              rw [reach_nmL HRaw.out HD2.out HK2.out, List.mem_filter] at this
              exact this.1
            rw [HNs.out, List.mem_filter]
            exact ⟨hy2, by show (dst E sa y).isSome = true; rw [hz]; rfl⟩)
          go_wp2_with fail
          go_loopw [19] (fun u wr3 => ∃ j : Nat, j ≤ ns2.length ∧ u = .int .i64 j ∧ New w9 wr3) (fun u _ => ns2.length - (intOf u).toNat)
          case atStart => exact ⟨0, Nat.zero_le _, rfl, Chg.refl _ _⟩
          case round =>
            obtain ⟨j, hj, rfl, hN⟩ := hrel
            have HN10 := Lib.hid hN
            clear hN
            by_cases hlt3 : j < ns2.length
            · obtain ⟨y, hy⟩ : ∃ y, ns2[j]? = some y := ⟨_, List.getElem?_eq_getElem hlt3⟩
              have hyn := HSub.out y (List.mem_of_getElem? hy)
              have HO10 := Lib.hid (HO2.out.chg HN10.out (fun _ _ x => x))
              have HOm10 := Lib.hid (HOm9.out.chg HN10.out (fun _ _ x => x))
              obtain ⟨a2, ha2, hcy⟩ := HO10.out.srcG.2.nm hy
              subst ha2
              have HCy := Lib.hid hcy
              have HYn := Lib.hid hyn
              have j0 : (0 : Int) ≤ (j : Int) := by omega
              have j1 : (j : Int) < (ns2.length : Int) := by omega
              clear hy hyn hcy
              go_wp2_with fail
              go_loopw [20, 21] (fun u20 u21 wr4 => ∃ h : Nat, h ≤ ns.length ∧ u21 = .int .i64 h ∧ u20 = .bool (inN (ns.take h) y) ∧ New wr wr4) (fun _ u _ => ns.length - (intOf u).toNat)
              case atStart => exact ⟨0, Nat.zero_le _, rfl, rfl, Chg.refl _ _⟩
              case round =>
                obtain ⟨h, hh, rfl, rfl, hN⟩ := hrel
                have HN11 := Lib.hid hN
                clear hN
                by_cases hlt4 : h < ns.length
                · obtain ⟨z, hz⟩ : ∃ z, ns[h]? = some z := ⟨_, List.getElem?_eq_getElem hlt4⟩
                  have hstep : inN (ns.take (h + 1)) y = (inN (ns.take h) y || decide (z = y)) := by
                    rw [take_succ_get hz]
                    unfold inN
                    rw [List.any_append]
                    simp
                  have HSt := Lib.hid hstep
                  obtain ⟨am', ham, hcz⟩ := HOm10.out.srcG.2.nm hz
                  cases ham
                  have e1 := HN11.out.cellS hcz id
                  have e2 := HN11.out.cellS HCy.out id
                  have h0 : (0 : Int) ≤ (h : Int) := by omega
                  have h1 : (h : Int) < (ns.length : Int) := by omega
                  clear hstep hz hcz
                  cases hin : inN (ns.take h) y with
                  | true =>
                    have HR := Lib.hid (show inN (ns.take (h + 1)) y = true by rw [HSt.out, hin]; rfl)
                    clear hin
                    go_upto_region 29 with fail
                    go_quiet (fail)
                    go_wp2_with fail
                    go_roundw
                    case rel => exact ⟨h + 1, by omega, by go_num, by rw [HR.out], HN11.out.drewN _⟩
                    case measure => simp only [intOf]; omega
                  | false =>
                    by_cases hzy : z = y
                    · have HR := Lib.hid (show inN (ns.take (h + 1)) y = true by rw [HSt.out, hin, decide_eq_true hzy]; rfl)
                      subst hzy
                      clear hin
                      go_upto_region 29 with fail
                      go_quiet (fail)
                      go_wp2_with fail
                      go_roundw
                      case rel => exact ⟨h + 1, by omega, by go_num, by rw [HR.out], HN11.out.drewN _⟩
                      case measure => simp only [intOf]; omega
                    · have HR := Lib.hid (show inN (ns.take (h + 1)) y = false by rw [HSt.out, hin, decide_eq_false hzy]; rfl)
                      have hsl : ¬ z.toList = y.toList := fun e => hzy (tl_eqG e)
                      have hql : (z.toList == y.toList) = false := by simpa using hsl
                      clear hin hzy
                      go_upto_region 29 with fail
                      go_quiet (fail)
                      go_wp2_with fail
                      go_roundw
                      case rel => exact ⟨h + 1, by omega, by go_num, by rw [HR.out], HN11.out.drewN _⟩
                      case measure => simp only [intOf]; omega
                · have hall : inN (ns.take h) y = true := by
                    rw [List.take_of_length_le (by omega)]
                    exact inN_iff.2 HYn.out
                  rw [hall]
                  have HN12 := Lib.hid (HN10.out.trans HN11.out (fun _ _ x => x))
                  clear hall
                  go_wp2_with fail
                  go_roundw
                  case rel => exact ⟨j + 1, by omega, by go_num, HN12.out⟩
                  case measure => simp only [intOf]; omega
            · have HN12 := Lib.hid (HN9.out.trans HN10.out (fun _ _ x => x))
              go_wp2_with fail
              go_roundw
              case rel => exact ⟨i2 + 1, by omega, by go_num, HN12.out⟩
              case measure => simp only [intOf]; omega
        · have HN12 := Lib.hid (HM6.out.trans HN8.out (fun _ _ x => x))
          go_wp2_with fail
          go_ret
          exact ⟨rfl, HN12.out⟩
end Go.Proofs.Ytffmalagochakaa
