/- A row's stamp among rows: find of layer 10. -/
import Derived.Test.YtenkobgeflckdabOrdP
import Derived.Test.YtenkobgeflckdabMrgW
import Derived.Test.YtenkobgeflckdabElVR
import Derived.Test.YtenkobgeflckdabOpenR
import Derived.Deep.CutRange
set_option linter.unusedVariables false
set_option linter.unusedSimpArgs false
namespace Go.Proofs.Ytenkobgeflckdab
open Go.RowKit Go.Shelf

theorem findS_at13 {rs : List Rw} {x s : Rw} {k : Nat} (h : ∀ j, j < k → ∀ s, rs[j]? = some s → cmpR s x ≠ 0) (hs : rs[k]? = some s) (he : cmpR s x = 0) : findS rs x = s.stamp := by
  unfold findS
  have : rs.find? (fun s => decide (cmpR s x = 0)) = some s := by
    rw [List.find?_eq_some_iff_getElem]
    obtain ⟨hlt, hg⟩ := List.getElem?_eq_some_iff.1 hs
    refine ⟨by simpa using he, k, hlt, hg, fun j hj => ?_⟩
    have := h j hj rs[j] (List.getElem?_eq_getElem (by omega))
    simpa using this
  rw [this]
theorem findS_end13 {rs : List Rw} {x : Rw} {k : Nat} (h : ∀ j, j < k → ∀ s, rs[j]? = some s → cmpR s x ≠ 0) (hk : rs.length ≤ k) : findS rs x = -1 := findS_none fun s hs => by
  obtain ⟨j, hj, rfl⟩ := List.getElem_of_mem hs
  exact h j (by omega) _ (List.getElem?_eq_getElem hj)

set_option maxHeartbeats 4000000 in
set_option maxRecDepth 100000 in
theorem find_rows13 (w : World) (A : Option Addr) (n c : Nat) (css : List (List Value)) (rs : List Rw) (hn : n = rs.length) (hnb : n ≤ 1000000) (hA : SrcAt w A 3 css) (hra : RowsCs w css rs) (xc : List Value) (r : Rw) (hx : RowAt w xc r) :
    Calls Try.prog 10 #[.slice A n c, .agg xc.toArray] w fun e w' => e = .returned (.int .i64 (findS rs r)) ∧ New w w' := by
  obtain ⟨w1, hw1⟩ : ∃ w1, w1 = w.alloc (.cells xc.toArray 30) := ⟨_, rfl⟩
  have hN1 : New w w1 := by rw [hw1]; exact (Chg.refl _ _).alloc _
  have hB1 : Blk w1 w.heap.size 30 xc.toArray := by rw [hw1]; exact Blk.new w _ _
  have hrx := hx.chg hN1
  obtain ⟨X1, xd, rfl, _⟩ := hx
  have HA := Lib.hid (hA.chg hN1 (fun _ _ x => x))
  have HRa := Lib.hid (hra.chg hN1)
  have HRx := Lib.hid hrx
  have HN := Lib.hid hn
  have HN1 := Lib.hid hN1
  have HB1 := Lib.hid hB1
  have HW1 := Lib.hid hw1
  clear hA hra hrx hn hN1 hB1 hw1
  go_enter Try.func10, Try.ntmps10
  go_wp2_with fail
  rw [← HW1.out]
  go_loopw [5] (fun u5 wr => ∃ k : Nat, k ≤ n ∧ u5 = .int .i64 k ∧ (∀ j, j < k → ∀ s, rs[j]? = some s → cmpR s r ≠ 0) ∧ New w1 wr) (fun u _ => n - (intOf u).toNat)
  case atStart => exact ⟨0, Nat.zero_le _, rfl, fun j hj => absurd hj (by omega), Chg.refl _ _⟩
  case round =>
    obtain ⟨k, hkn, rfl, hno, hN⟩ := hrel
    have HNo := Lib.hid hno
    have HNw := Lib.hid hN
    clear hno hN
    by_cases hlt : k < n
    · obtain ⟨cs, hcs⟩ : ∃ cs, css[k]? = some cs := ⟨_, List.getElem?_eq_getElem (by rw [HRa.out.1, ← HN.out]; exact hlt)⟩
      obtain ⟨s, hs1, hrow⟩ := HRa.out.2 k cs hcs
      obtain ⟨ad, rfl, hrA⟩ := HA.out (by rw [HRa.out.1, ← HN.out]; omega)
      have hnd : New wr wr.drew := (Chg.refl _ _).drew
      have hNd := HNw.out.drew
      have hat := (hrA k cs hcs).2.chg hNd id
      have hrs := hrow.chg hNd
      have hrr := HRx.out.chg hNd
      have hbb := HB1.out.chg hNd id
      have hk3 := hrow.cs.1
      have Hs1 := Lib.hid hs1
      have Hat := Lib.hid hat
      have Hrs := Lib.hid hrs
      have Hrr := Lib.hid hrr
      have Hbb := Lib.hid hbb
      have HNd := Lib.hid hNd
      obtain ⟨q, hq⟩ : ∃ q, cmpR s r = q := ⟨_, rfl⟩
      have Hq := Lib.hid hq
      have hst : wr.drew.cell? ⟨(ad.add (k * 3)).block, (ad.add (k * 3)).off + 2, none⟩ = some (.int .i64 s.stamp) := by
        obtain ⟨X2, x2, rfl, _⟩ := hrow
        have := hat 2 _ rfl
        rwa [add_succ] at this
      have Hst := Lib.hid hst
      clear hs1 hrow hrA hcs hnd hNd hat hrs hrr hbb hq hst
      have q0 : (0 : Int) ≤ (k : Int) := by omega
      have q1 : (k : Int) < (n : Int) := by omega
      have eg2 := enters_of Try.func9 (by kernel_rfl) rfl
      unfold Enters at eg2
      obtain ⟨bq, hbq⟩ : ∃ b : Bool, (q == 0) = b := ⟨_, rfl⟩
      go_upto_region 4 with fail
      refine wp_region_at (by kernel_rfl) ?_
      generalize wr.drew = wd at Hat Hrs Hrr Hbb HNd Hst ⊢
      refine AtN.segN2 0 7 [12, 13, 14, 15, 16, 17, 18] (fun
        | 0 => fun v _ => v = .slice (some ad) n c
        | 1 => fun v _ => v = .int .i64 k
        | 2 => fun v _ => v = .pointer (some (ad.add (k * 3)))
        | 3 => fun v _ => v = .agg cs.toArray
        | 4 => fun v _ => v = .agg #[.string r.name, .slice X1 r.args.length xd, .int .i64 r.stamp]
        | 5 => fun v _ => v = .int .i64 q
        | 6 => fun v _ => v = .bool bq
        | _ => fun _ _ => True) (by kernel_rfl) (by kernel_rfl) (by kernel_rfl) (by kernel_rfl) (fun j v w1 w2 hc h => ?_) (fun i hn hi o ho A0 W hN hin hk => ?_) (fun l W2 hN hl hΦ => ?_)
      · match j with
        | 0 | 1 | 2 | 3 | 4 | 5 | 6 => exact h
        | _ + 7 => trivial
      · rcases (show i = 0 ∨ i = 1 ∨ i = 2 ∨ i = 3 ∨ i = 4 ∨ i = 5 ∨ i = 6 by omega) with rfl | rfl | rfl | rfl | rfl | rfl | rfl
        · cases ho
          exact .same (exec_move 0 _ rfl (hk 0 (by kernel_rfl))) rfl
        · cases ho
          exact .same (exec_move 5 _ rfl (hk 5 (by kernel_rfl))) rfl
        · cases ho
          have h12 : A0.tmps[12]?.getD undef = .slice (some ad) n c := hin 0 12 (by kernel_rfl)
          have h13 : A0.tmps[13]?.getD undef = .int .i64 k := hin 1 13 (by kernel_rfl)
          exact .same (by simp [go_sem, h12, h13, q0, q1, hlt]) rfl
        · cases ho
          have h14 : A0.tmps[14]?.getD undef = .pointer (some (ad.add (k * 3))) := hin 2 14 (by kernel_rfl)
          exact .same (exec_load 14 _ rfl stRow (ad.add (k * 3)) cs h14 hk3 (Hat.out.chg hN id)) rfl
        · cases ho
          have h3 : A0.tmps[3]?.getD undef = .pointer (some ⟨w.heap.size, 0, none⟩) := hk 3 (by kernel_rfl)
          exact .same (exec_load 3 _ rfl stRow ⟨w.heap.size, 0, none⟩ [.string r.name, .slice X1 r.args.length xd, .int .i64 r.stamp] h3 rfl (Hbb.out.chg hN id).at_) rfl
        · cases ho
          have h15 : A0.tmps[15]?.getD undef = .agg cs.toArray := hin 3 15 (by kernel_rfl)
          have h16 : A0.tmps[16]?.getD undef = .agg #[.string r.name, .slice X1 r.args.length xd, .int .i64 r.stamp] := hin 4 16 (by kernel_rfl)
          refine .call (f := 9) (args := #[.agg cs.toArray, .agg #[.string r.name, .slice X1 r.args.length xd, .int .i64 r.stamp]]) (W' := W) ?_ ((cmp_row W cs [.string r.name, .slice X1 r.args.length xd, .int .i64 r.stamp] s r (Hrs.out.chg hN) (Hrr.out.chg hN)).mono ?_)
          · simp [go_sem, h15, h16, eg2]
          · rintro e w' ⟨rfl, hc⟩
            exact ⟨_, rfl, hc, by rw [Hq.out]; rfl⟩
        · cases ho
          have h17 : A0.tmps[17]?.getD undef = .int .i64 q := hin 5 17 (by kernel_rfl)
          exact .same (by simp [go_sem, h17, hbq]) rfl
      obtain ⟨x12, x13, x14, x15, x16, x17, x18, rfl⟩ : ∃ x12 x13 x14 x15 x16 x17 x18, l = [x12, x13, x14, x15, x16, x17, x18] := by
        match l, hl with
        | [x12, x13, x14, x15, x16, x17, x18], _ => exact ⟨_, _, _, _, _, _, _, rfl⟩
      obtain rfl : x12 = .slice (some ad) n c := hΦ 0 (by decide)
      obtain rfl : x13 = .int .i64 k := hΦ 1 (by decide)
      obtain rfl : x14 = .pointer (some (ad.add (k * 3))) := hΦ 2 (by decide)
      obtain rfl : x15 = .agg cs.toArray := hΦ 3 (by decide)
      obtain rfl : x16 = .agg #[.string r.name, .slice X1 r.args.length xd, .int .i64 r.stamp] := hΦ 4 (by decide)
      obtain rfl : x17 = .int .i64 q := hΦ 5 (by decide)
      obtain rfl : x18 = .bool bq := hΦ 6 (by decide)
      simp only [putsL, List.zip_cons_cons, List.zip_nil_left, List.zip_nil_right, List.zip, List.zipWith, Act.put, List.setIfInBounds_toArray, List.set_cons_succ, List.set_cons_zero]
      clear hΦ hl
      refine AtN.done rfl ?_
      have HN2 := Lib.hid (HNd.out.trans hN (fun _ _ x => x))
      have Hst2 := Lib.hid (show W2.cell? ⟨(ad.add (k * 3)).block, (ad.add (k * 3)).off + 2, none⟩ = some (.int .i64 s.stamp) from hN.cellS Hst.out id)
      clear hN
      cases bq with
      | true =>
        have hq0 : q = 0 := by simpa using hbq
        have HR := Lib.hid (findS_at13 HNo.out Hs1.out (by rw [Hq.out, hq0]))
        have e5 := Hst2.out
        clear hbq hq0
        go_wp2_with fail
        go_ret
        exact ⟨congrArg (fun z => Ending.returned (.int .i64 z)) HR.out.symm, HN1.out.trans HN2.out (fun _ _ x => x)⟩
      | false =>
        have hq0 : q ≠ 0 := by simpa using hbq
        have HNo2 := Lib.hid (show ∀ j, j < k + 1 → ∀ s, rs[j]? = some s → cmpR s r ≠ 0 from fun j hj s' hs' => by
          by_cases hjk : j = k
          · subst hjk
            have := Hs1.out
            rw [hs'] at this
            rw [Option.some.inj this, Hq.out]
            exact hq0
          · exact HNo.out j (by omega) s' hs')
        clear hbq hq0
        go_wp2_with fail
        go_roundw
        case rel => exact ⟨k + 1, by omega, by go_num, HNo2.out, HN2.out⟩
        case measure => simp only [intOf]; omega
    · have HR := Lib.hid (findS_end13 HNo.out (by rw [← HN.out]; omega))
      go_wp2_with fail
      go_ret
      exact ⟨congrArg (fun z => Ending.returned (.int .i64 z)) HR.out.symm, HN1.out.trans HNw.out (fun _ _ x => x)⟩
end Go.Proofs.Ytenkobgeflckdab
