/- graph: Reach, Cost. -/
import Derived.Test.YtffmalagochakaaGraD
import Derived.Test.YtffmalagochakaaGraK
import Derived.Deep.CutRange
set_option linter.unusedVariables false
set_option linter.unusedSimpArgs false
namespace Go.Proofs.Ytffmalagochakaa
open Go.RowKit Go.Shelf

theorem Own.baseG {w : World} {B B' : Nat} {e : TypeId} {k : Nat} {v : Value} {css : List (List Value)} (h : Own w B e k v css) (hB : B' ≤ B) : Own w B' e k v css := by
  refine ⟨⟨h.1.1, ?_⟩, h.2⟩
  rcases h.1.2 with h1 | ⟨g, cap, cur, h1, h2, h3⟩
  · exact .inl h1
  · exact .inr ⟨g, cap, cur, h1, Nat.le_trans hB h2, h3⟩
/-- What Reach gives: what has a distance, by rising names. -/
def ReachPost (w : World) (E : List Ed) (a : ByteArray) (e : Ending) (w' : World) : Prop := (∀ v, DistO (RE E) a v (dst E a v)) ∧ ∃ (v : Value) (ns : List ByteArray), e = .returned v ∧ KeysF (dst E a) ns ∧ Own w' w.heap.size 9 1 v (ns.map nmC) ∧ New w w'

set_option maxHeartbeats 1000000 in
theorem reach15 (w : World) (A : Option Addr) (n c : Nat) (E : List Ed) (hn : n = E.length) (hA : SrcAt w A 3 (E.map edC)) (hE : ∀ e ∈ E, e.Fit) (hl : E.length ≤ 1000) (a : ByteArray) (ha : a.size ≤ maxLen) :
    Calls Try.prog 15 #[.slice A n c, .string a] w (ReachPost w E a) := by
  have H1 := Lib.hid (tabled18 w A n c E hn hA hE (by omega))
  have HE := Lib.hid hE
  have hM := mE_le hl
  clear hA hE hn
  go_enter Try.func15, Try.ntmps15
  go_upto_region 1 with fail
  go_wp2_with first
    | (go_at_call 18; refine H1.out.mono ?_; rintro e w1 ⟨bt, rfl, ht, hn1⟩; have HT := Lib.hid ht; have HN1 := Lib.hid hn1; clear ht hn1)
    | (go_at_call 25; refine (far_tab _ _ _ E HT.out HE.out hl a ha).mono ?_; rintro e w2 ⟨bd, nd, f, rfl, hf, hnd, hd, hfs, hn2, hbd⟩; have HD := Lib.hid hd; have HN2 := Lib.hid (HN1.out.trans hn2 (fun _ _ x => x)); have HS := Lib.hid (sorted21 w2 (some bd) nd f hf (by omega)); clear hf hn2; have Hef := Lib.hid (show f = dst E a from funext fun v => (dst_spec (dist_tab (hd v))).symm); clear hd)
    | (go_at_call 22; refine (keys22 _ _).mono ?_; rintro e w3 ⟨rfl, rfl⟩)
    | (go_at_call 21; refine HS.out.mono ?_; rintro e w4 ⟨v, ns, rfl, hk, ho, hn4⟩)
  go_ret
  have hN3 : New w (w2.alloc (.cells #[.map (some bd)] 53)) := HN2.out.alloc _
  rw [Hef.out] at hk
  exact ⟨fun v => by rw [← Hef.out]; exact dist_tab (HD.out v), v, ns, rfl, hk, Own.baseG ho hN3.size, hN3.trans hn4 (fun _ _ x => x)⟩

/-- The sums along a way. -/
theorem PC.sums {R : ER} {l : List ByteArray} {d : Int} (h : PC R l d) : ∃ S : Nat → Int, S 1 = 0 ∧ S l.length = d ∧ ∀ i u v, 1 ≤ i → l[i - 1]? = some u → l[i]? = some v → R u v (S (i + 1) - S i) := by
  induction h with
  | one u => exact ⟨fun _ => 0, rfl, rfl, fun i u v hi h1 h2 => by
      obtain ⟨j, rfl⟩ : ∃ j, i = j + 1 := ⟨i - 1, by omega⟩
      simp at h2⟩
  | cons h h' ih =>
    rename_i u v l c d
    obtain ⟨S, h1, h2, h3⟩ := ih
    refine ⟨fun i => if i ≤ 1 then 0 else c + S (i - 1), rfl, ?_, fun i a b hi ha hb => ?_⟩
    · simp only [List.length_cons] at h2 ⊢
      rw [if_neg (by omega), Nat.add_sub_cancel, h2]
    · simp only
      by_cases hi1 : i = 1
      · subst hi1
        have ha' : u = a := by simpa using ha
        have hb' : v = b := by simpa using hb
        subst ha' hb'
        rw [if_neg (by omega), if_pos (by omega), show 1 + 1 - 1 = 1 from rfl, h1]
        have : c + 0 - 0 = c := by omega
        rw [this]
        exact h
      · obtain ⟨j, rfl⟩ : ∃ j, i = j + 2 := ⟨i - 2, by omega⟩
        have := h3 (j + 1) a b (by omega) (by simpa using ha) (by simpa using hb)
        rw [if_neg (by omega), if_neg (by omega), show j + 2 + 1 - 1 = j + 1 + 1 by omega, show j + 2 - 1 = j + 1 by omega, show c + S (j + 1 + 1) - (c + S (j + 1)) = S (j + 1 + 1) - S (j + 1) by omega]
        exact this
/-- A slice of names. -/
def NmAt (w : World) (v : Value) (ns : List ByteArray) : Prop := ∃ A c, v = .slice A ns.length c ∧ ns.length ≤ c ∧ c ≤ maxLen ∧ SrcAt w A 1 (ns.map nmC) ∧ ∀ a, A = some a → a.block < w.heap.size
theorem NmAt.chg {w w' : World} {v : Value} {ns : List ByteArray} {S : Nat → Prop} (h : NmAt w v ns) (hc : Chg w w' S) (hn : ∀ g, v.ownBlock = some g → ¬ S g) : NmAt w' v ns := by
  obtain ⟨A, c, rfl, h1, h2, h3, h4⟩ := h
  exact ⟨A, c, rfl, h1, h2, h3.chg hc (fun a ha => hn a.block (by rw [ha]; rfl)), fun a ha => Nat.lt_of_lt_of_le (h4 a ha) hc.size⟩
theorem SrcAt.nm {w : World} {A : Option Addr} {ns : List ByteArray} (h : SrcAt w A 1 (ns.map nmC)) {i : Nat} {s : ByteArray} (hs : ns[i]? = some s) : ∃ a, A = some a ∧ w.cell? (a.add i) = some (.string s) := by
  obtain ⟨a, ha, hr⟩ := h (by rw [List.length_map]; exact Nat.lt_of_le_of_lt (Nat.zero_le _) (List.getElem?_eq_some_iff.1 hs).1)
  have := (hr i (nmC s) (by rw [List.getElem?_map, hs]; rfl)).2 0 _ rfl
  rw [Nat.mul_one] at this
  exact ⟨a, ha, by rw [add_add] at this; exact this⟩

set_option maxHeartbeats 4000000 in
set_option maxRecDepth 100000 in
theorem cost14 (w : World) (A : Option Addr) (n c : Nat) (E : List Ed) (hn : n = E.length) (hA : SrcAt w A 3 (E.map edC)) (hE : ∀ e ∈ E, e.Fit) (hl : E.length ≤ 1000) (A2 : Option Addr) (m cw : Nat) (ns : List ByteArray) (hm : m = ns.length) (hA2 : SrcAt w A2 1 (ns.map nmC)) (hm1 : 1 < m) (hm2 : m ≤ 1000) (hns : ∀ s ∈ ns, s.size ≤ maxLen) (d : Int) (hP : PC (TR (tabF E)) ns d) :
    Calls Try.prog 14 #[.slice A n c, .slice A2 m cw] w fun e w' => e = .returned (.tuple #[.int .i64 d, .bool true]) ∧ New w w' := by
  have H1 := Lib.hid (tabled18 w A n c E hn hA hE (by omega))
  have HOk := Lib.hid (tok_tab hE)
  have HA2 := Lib.hid hA2
  have HNs := Lib.hid hns
  have HMm := Lib.hid hm
  obtain ⟨T, hTe⟩ : ∃ T, tabF E = T := ⟨_, rfl⟩
  rw [hTe] at hP HOk
  have HTe := Lib.hid hTe
  obtain ⟨S, hS1, hS2, hS3⟩ := hP.sums
  have HS1 := Lib.hid hS1
  have HS2 := Lib.hid hS2
  have HS3 := Lib.hid hS3
  clear hA hE hn hA2 hns hm hTe hS1 hS2 hS3 hP
  go_enter Try.func14, Try.ntmps14
  go_upto_region 2 with (go_at_call 18; refine H1.out.mono ?_; rintro e w1 ⟨bt, rfl, ⟨g, ht⟩, hn1⟩; have HT := Lib.hid ht; have HN1 := Lib.hid hn1; clear ht hn1)
  rw [HTe.out] at HT
  go_wp2_with fail
  go_loopw [4, 7] (fun u4 u7 wr => ∃ i : Nat, 1 ≤ i ∧ i ≤ m ∧ u7 = .int .i64 i ∧ u4 = .int .i64 (S i) ∧ 0 ≤ S i ∧ S i ≤ (i : Int) * 2147483648 ∧ New w1 wr) (fun _ u _ => m - (intOf u).toNat)
  case atStart => exact ⟨1, Nat.le_refl _, by omega, rfl, by rw [HS1.out], by rw [HS1.out]; omega, by rw [HS1.out]; omega, Chg.refl _ _⟩
  case round =>
    obtain ⟨i, hi1, him, rfl, rfl, hs0, hsb, hN⟩ := hrel
    have HNw := Lib.hid hN
    clear hN
    by_cases hlt : i < m
    · obtain ⟨u, hu⟩ : ∃ u, ns[i - 1]? = some u := ⟨_, List.getElem?_eq_getElem (by rw [← HMm.out]; omega)⟩
      obtain ⟨v, hv⟩ : ∃ v, ns[i]? = some v := ⟨_, List.getElem?_eq_getElem (by rw [← HMm.out]; omega)⟩
      have hR : T u v = some (S (i + 1) - S i) := HS3.out i u v hi1 hu hv
      have hlo := HOk.out.lo _ _ _ hR
      have hhi := HOk.out.hi _ _ _ hR
      have hus := HNs.out u (List.mem_of_getElem? hu)
      have hvs := HNs.out v (List.mem_of_getElem? hv)
      obtain ⟨a, rfl, hcu⟩ := HA2.out.nm hu
      obtain ⟨a', e, hcv⟩ := HA2.out.nm hv
      cases e
      obtain ⟨j, rfl⟩ : ∃ j, i = j + 1 := ⟨i - 1, by omega⟩
      rw [Nat.add_sub_cancel] at hu hcu
      obtain ⟨k, hgk⟩ : ∃ k, g u = some k := by
        cases hg : g u with
        | some k => exact ⟨k, rfl⟩
        | none => rw [HT.out.non u hg] at hR; cases hR
      have hN1w := HN1.out.trans HNw.out (fun _ _ x => x)
      have HTr := Lib.hid (HT.out.chg HNw.out (fun _ _ _ x => x))
      have HTd := Lib.hid (show ∀ q, TabG (wr.drewN q) w.heap.size bt (2 * E.length) T g from fun q => HTr.out.chg ((show New wr wr from Chg.refl _ _).drewN q) (fun _ _ _ x => x))
      have hL1 : ∀ q, (Instr.lookup 45 (.map (some bt)) (.string u) false).run Try.prog (wr.drewN q) = .ok (.map (some k)) (wr.drewN q) := fun q => by
        have := (HTd.out q).om.look u hus
        rw [hgk] at this
        exact this
      have hL2 : ∀ q, (Instr.lookup 53 (.map (some k)) (.string v) true).run Try.prog (wr.drewN q) = .ok (.tuple #[.int .i64 (S (j + 1 + 1) - S (j + 1)), .bool true]) (wr.drewN q) := fun q => by
        have := ((HTd.out q).inn u k hgk).2.2.look v hvs
        rw [hR] at this
        exact this
      have c1 : wr.cell? (a.add j) = some (.string u) := hN1w.cellS hcu id
      have c2 : wr.cell? ⟨a.block, a.off + (j + 1), none⟩ = some (.string v) := by
        have := hN1w.cellS hcv id
        rw [add_succ] at this
        exact this
      clear hcu hcv hgk hu hv hN1w HTr HTd hR
      have l1 : (j : Int) + 1 < (m : Int) := by omega
      have l2 : (0 : Int) ≤ (j : Int) := by omega
      have l3 : (j : Int) < (m : Int) := by omega
      have l4 : j < m := by omega
      have l5 : j + 1 < m := by omega
      go_upto_region 5 with fail
      have kw : IntKind.i64.wrap (j : Int) = j := by rw [IntKind.wrap_i64]; omega
      have l6 : (0 : Int) ≤ (j : Int) + 1 := by omega
      have l7 : ((j : Int) + 1).toNat = j + 1 := by omega
      go_quiet (fail)
      have hsum : IntKind.i64.wrap (S (j + 1) + (S (j + 1 + 1) - S (j + 1))) = S (j + 1 + 1) := by rw [IntKind.wrap_i64]; omega
      have hsum2 : S (j + 1) + (S (j + 1 + 1) - S (j + 1)) = S (j + 1 + 1) := by omega
      have hsum3 : IntKind.i64.wrap (S (j + 1 + 1)) = S (j + 1 + 1) := by rw [IntKind.wrap_i64]; omega
      clear l1 l2 l3 l4 l5 l6 l7 kw c1 c2 hL1 hL2
      go_wp2_with fail
      go_roundw
      case rel => exact ⟨j + 1 + 1, by omega, by omega, by go_num, by first | rfl | rw [hsum] | rw [hsum2], by omega, by omega, HNw.out.drewN _⟩
      case measure => simp only [intOf]; omega
    · have hmi : i = m := by omega
      subst hmi
      have hd : S i = d := by rw [HMm.out]; exact HS2.out
      have l1 : (1 : Int) < (i : Int) := by omega
      have HF := Lib.hid (HN1.out.trans HNw.out (fun _ _ x => x))
      rw [hd]
      clear hd hs0 hsb
      go_wp2_with fail
      go_ret2
      exact ⟨rfl, HF.out⟩
end Go.Proofs.Ytffmalagochakaa
