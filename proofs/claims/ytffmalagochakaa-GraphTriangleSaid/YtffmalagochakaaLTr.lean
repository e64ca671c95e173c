/- GraphTriangle: the walk. -/
import Derived.Test.YtffmalagochakaaGraL
set_option linter.unusedVariables false
set_option linter.unusedSimpArgs false
namespace Go.Proofs.Ytffmalagochakaa
open Go.RowKit Go.Shelf

set_option maxHeartbeats 8000000 in
set_option maxRecDepth 100000 in
theorem walk_GraphTriangle (w : World) (v : Value) (n : Nat) (X : Nat → Int) (hx : IntsAt w v 3 n X) (one : Int) (hlo1 : -9223372036854775808 ≤ one) (hhi1 : one ≤ 9223372036854775807) (two : Int) (hlo2 : -9223372036854775808 ≤ two) (hhi2 : two ≤ 9223372036854775807) (three : Int) (hlo3 : -9223372036854775808 ≤ three) (hhi3 : three ≤ 9223372036854775807) :
    Calls Try.prog 4 #[v, .int .i64 one, .int .i64 two, .int .i64 three] w fun e w' => e = .returned (.bool true) ∧ New w w' := by
  have HX := Lib.hid (show ∀ W, New w W → IntsAt W v 3 n X from fun W hn => ints_new hx hn)
  clear hx
  go_enter Try.func4, Try.ntmps4
  go_upto_region 3 with first
    | (go_at_call 8; refine (awake8 _).mono ?_; rintro e w1 ⟨rfl, hn⟩; have HN1 := Lib.hid hn; have HEd := Lib.hid (edges20 w1 v n X (HX.out w1 hn) true); clear hn)
    | (go_at_call 9; refine HEd.out.mono ?_; rintro e w2 ⟨ve, E, rfl, hoE, hlE, hraw, hboth, hn⟩; have HN2 := Lib.hid (HN1.out.trans hn (fun _ _ x => x)); have HO2 := Lib.hid (Own.baseG hoE (Nat.zero_le _)); have HRaw := Lib.hid hraw; have HBo := Lib.hid (hboth rfl); clear hoE hraw hboth hn)
  obtain ⟨AE, cE, hve, -⟩ := own_src HO2.out
  subst hve
  obtain ⟨p1, sa, hp1, hlt1, hs1, hc1⟩ := node_ex one
  have HK1 := Lib.hid (show ∀ W, Calls Try.prog 11 #[.int .i64 one, .int .i64 5] W (fun e w' => e = .returned (.int .i64 p1) ∧ W = w') from fun W => (pick20 W one 5 hlo1 hhi1 (by omega) (by omega)).mono (fun e w' h => by rw [← hp1]; exact h))
  have HC1 := Lib.hid hc1
  have HS1 := Lib.hid hs1
  have i01 : (0 : Int) ≤ (p1 : Int) := by omega
  have i11 : (p1 : Int) < 5 := by omega
  clear hc1 hs1 hp1
  go_upto_region 4 with first
    | (go_at_call 10; refine (names20 _).mono ?_; rintro e wn1 ⟨bn1, rfl, hb, hn⟩; have HNn1 := Lib.hid hn; have en1 := HC1.out _ _ hb; clear hb hn)
    | (go_at_call 11; with_reducible refine (HK1.out _).mono ?_; rintro e w' ⟨rfl, rfl⟩)
  clear en1 i01 i11 HK1 HC1
  obtain ⟨p2, sb, hp2, hlt2, hs2, hc2⟩ := node_ex two
  have HK2 := Lib.hid (show ∀ W, Calls Try.prog 11 #[.int .i64 two, .int .i64 5] W (fun e w' => e = .returned (.int .i64 p2) ∧ W = w') from fun W => (pick20 W two 5 hlo2 hhi2 (by omega) (by omega)).mono (fun e w' h => by rw [← hp2]; exact h))
  have HC2 := Lib.hid hc2
  have HS2 := Lib.hid hs2
  have i02 : (0 : Int) ≤ (p2 : Int) := by omega
  have i12 : (p2 : Int) < 5 := by omega
  clear hc2 hs2 hp2
  go_upto_region 5 with first
    | (go_at_call 10; refine (names20 _).mono ?_; rintro e wn2 ⟨bn2, rfl, hb, hn⟩; have HNn2 := Lib.hid hn; have en2 := HC2.out _ _ hb; clear hb hn)
    | (go_at_call 11; with_reducible refine (HK2.out _).mono ?_; rintro e w' ⟨rfl, rfl⟩)
  clear en2 i02 i12 HK2 HC2
  obtain ⟨p3, sc, hp3, hlt3, hs3, hc3⟩ := node_ex three
  have HK3 := Lib.hid (show ∀ W, Calls Try.prog 11 #[.int .i64 three, .int .i64 5] W (fun e w' => e = .returned (.int .i64 p3) ∧ W = w') from fun W => (pick20 W three 5 hlo3 hhi3 (by omega) (by omega)).mono (fun e w' h => by rw [← hp3]; exact h))
  have HC3 := Lib.hid hc3
  have HS3 := Lib.hid hs3
  have i03 : (0 : Int) ≤ (p3 : Int) := by omega
  have i13 : (p3 : Int) < 5 := by omega
  clear hc3 hs3 hp3
  go_upto_region 6 with first
    | (go_at_call 10; refine (names20 _).mono ?_; rintro e wn3 ⟨bn3, rfl, hb, hn⟩; have HNn3 := Lib.hid hn; have en3 := HC3.out _ _ hb; clear hb hn)
    | (go_at_call 11; with_reducible refine (HK3.out _).mono ?_; rintro e w' ⟨rfl, rfl⟩)
  clear en3 i03 i13 HK3 HC3
  have HM := Lib.hid (((HN2.out.trans HNn1.out (fun _ _ x => x)).trans HNn2.out (fun _ _ x => x)).trans HNn3.out (fun _ _ x => x))
  have HO3 := Lib.hid (((HO2.out.chg HNn1.out (fun _ _ x => x)).chg HNn2.out (fun _ _ x => x)).chg HNn3.out (fun _ _ x => x))
  have HFit := Lib.hid (show ∀ e ∈ E, e.Fit from fun e he => (HRaw.out e he).fit)
  clear HNn1 HNn2 HNn3 HN2 HO2 HN1 HEd
  have HD1 := Lib.hid (show Calls Try.prog 13 #[.slice AE E.length cE, .string sa, .string sb] wn3 (DistPost wn3 E sa sb) from
    dist13 wn3 AE E.length cE E rfl HO3.out.srcG.2 HFit.out (by omega) sa sb (nmL_size HS1.out) (nmL_size HS2.out))
  go_upto_region 7 with (go_at_call 13; refine HD1.out.mono ?_; rintro e w4 ⟨hdo, rfl, hn⟩; have HDo1 := Lib.hid hdo; have HM1 := Lib.hid (HM.out.trans hn (fun _ _ x => x)); have HO1x := Lib.hid (HO3.out.chg hn (fun _ _ x => x)); clear hdo hn)
  clear HD1
  have HD2 := Lib.hid (show Calls Try.prog 13 #[.slice AE E.length cE, .string sb, .string sc] w4 (DistPost w4 E sb sc) from
    dist13 w4 AE E.length cE E rfl HO1x.out.srcG.2 HFit.out (by omega) sb sc (nmL_size HS2.out) (nmL_size HS3.out))
  go_upto_region 8 with (go_at_call 13; refine HD2.out.mono ?_; rintro e w5 ⟨hdo, rfl, hn⟩; have HDo2 := Lib.hid hdo; have HM2 := Lib.hid (HM1.out.trans hn (fun _ _ x => x)); have HO2x := Lib.hid (HO1x.out.chg hn (fun _ _ x => x)); clear hdo hn)
  clear HD2
  have HD3 := Lib.hid (show Calls Try.prog 13 #[.slice AE E.length cE, .string sa, .string sc] w5 (DistPost w5 E sa sc) from
    dist13 w5 AE E.length cE E rfl HO2x.out.srcG.2 HFit.out (by omega) sa sc (nmL_size HS1.out) (nmL_size HS3.out))
  go_upto_region 9 with (go_at_call 13; refine HD3.out.mono ?_; rintro e w6 ⟨hdo, rfl, hn⟩; have HDo3 := Lib.hid hdo; have HM3 := Lib.hid (HM2.out.trans hn (fun _ _ x => x)); have HO3x := Lib.hid (HO2x.out.chg hn (fun _ _ x => x)); clear hdo hn)
  clear HD3
  have HD4 := Lib.hid (show Calls Try.prog 13 #[.slice AE E.length cE, .string sb, .string sa] w6 (DistPost w6 E sb sa) from
    dist13 w6 AE E.length cE E rfl HO3x.out.srcG.2 HFit.out (by omega) sb sa (nmL_size HS2.out) (nmL_size HS1.out))
  go_upto_region 10 with (go_at_call 13; refine HD4.out.mono ?_; rintro e w7 ⟨hdo, rfl, hn⟩; have HDo4 := Lib.hid hdo; have HM4 := Lib.hid (HM3.out.trans hn (fun _ _ x => x)); have HO4x := Lib.hid (HO3x.out.chg hn (fun _ _ x => x)); clear hdo hn)
  clear HD4
  have hback : dst E sb sa = dst E sa sb := dst_spec (HDo1.out.turn (R' := RE E) (fun u v c => RE.turn HBo.out) (fun u v c => RE.turn HBo.out))
  rw [hback]
  have htri : ∀ x y, dst E sa sb = some x → dst E sb sc = some y → 0 ≤ x ∧ 0 ≤ y ∧ x ≤ 30 ∧ y ≤ 30 ∧ ∃ z, dst E sa sc = some z ∧ z ≤ x + y := fun x y hx hy => by
    have h1 := isd_of HDo1.out hx
    have h2 := isd_of HDo2.out hy
    obtain ⟨z, h3, h4⟩ := dist_triangle h1 h2 HDo3.out
    have h5 := (few_raw HRaw.out).dist h1
    have h6 := (few_raw HRaw.out).dist h2
    exact ⟨by omega, by omega, by omega, by omega, z, h3, h4⟩
  clear hback
  generalize dst E sa sb = o1 at htri ⊢
  generalize dst E sb sc = o2 at htri ⊢
  generalize dst E sa sc = o3 at htri ⊢
  cases o1 with
  | none =>
    clear htri
    go_wp2_with fail
    go_ret
    exact ⟨rfl, HM4.out⟩
  | some x =>
    cases o2 with
    | none =>
      clear htri
      go_wp2_with fail
      go_ret
      exact ⟨rfl, HM4.out⟩
    | some y =>
      obtain ⟨g1, g2, g3, g4, z, rfl, hz⟩ := htri x y rfl rfl
      have kw : IntKind.i64.wrap (x + y) = x + y := by rw [IntKind.wrap_i64]; omega
      clear htri
      go_wp2_with fail
      go_ret
      exact ⟨rfl, HM4.out⟩
end Go.Proofs.Ytffmalagochakaa
