/- A row's stamp among rows: find of layer 10; Slices of rows, in one form (seat of layer 10). -/
import Derived.Test.YtenkobgeflckdabOrdP
import Derived.Test.YtenkobgeflckdabMrgW
import Derived.Test.YtenkobgeflckdabApp
import Derived.Test.YtenkobgeflckdabOpenR
import Derived.Deep.CutRange
import Derived.Test.YtenkobgeflckdabRaws
import Derived.Test.YtenkobgeflckdabSameR
set_option linter.unusedVariables false
set_option linter.unusedSimpArgs false
namespace Go.Proofs.Ytenkobgeflckdab
open Go.RowKit Go.Shelf

theorem findS_at13 {rs : List Rw} {x s : Rw} {k : Nat} (h : ∀ j, j < k → ∀ s, rs[j]? = some s → cmpR s x ≠ 0) (hs : rs[k]? = some s) (he : cmpR s x = 0) : findS rs x = s.stamp := by
  unfold findS
  have : rs.find? (fun s => decide (cmpR s x = 0)) = some s := by
    rw [List.find?_eq_some_iff_getElem]
    obtain ⟨hlt, hg⟩ := List.getElem?_eq_some_iff.1 hs
    refine ⟨by simpa using he, k, hlt, hg, fun j hj => ?_⟩
    have := h j hj rs[j] (List.getElem?_eq_getElem (by omega))
    simpa using this
  rw [this]
theorem findS_end13 {rs : List Rw} {x : Rw} {k : Nat} (h : ∀ j, j < k → ∀ s, rs[j]? = some s → cmpR s x ≠ 0) (hk : rs.length ≤ k) : findS rs x = -1 := findS_none fun s hs => by
  obtain ⟨j, hj, rfl⟩ := List.getElem_of_mem hs
  exact h j (by omega) _ (List.getElem?_eq_getElem hj)

set_option maxHeartbeats 4000000 in
set_option maxRecDepth 100000 in
theorem find_rows13 (w : World) (A : Option Addr) (n c : Nat) (css : List (List Value)) (rs : List Rw) (hn : n = rs.length) (hnb : n ≤ 1000000) (hA : SrcAt w A 3 css) (hra : RowsCs w css rs) (xc : List Value) (r : Rw) (hx : RowAt w xc r) :
    Calls Try.prog 10 #[.slice A n c, .agg xc.toArray] w fun e w' => e = .returned (.int .i64 (findS rs r)) ∧ New w w' := by
  obtain ⟨w1, hw1⟩ : ∃ w1, w1 = w.alloc (.cells xc.toArray 30) := ⟨_, rfl⟩
  have hN1 : New w w1 := by rw [hw1]; exact (Chg.refl _ _).alloc _
  have hB1 : Blk w1 w.heap.size 30 xc.toArray := by rw [hw1]; exact Blk.new w _ _
  have hrx := hx.chg hN1
  obtain ⟨X1, xd, rfl, _⟩ := hx
  have HA := Lib.hid (hA.chg hN1 (fun _ _ x => x))
  have HRa := Lib.hid (hra.chg hN1)
  have HRx := Lib.hid hrx
  have HN := Lib.hid hn
  have HN1 := Lib.hid hN1
  have HB1 := Lib.hid hB1
  have HW1 := Lib.hid hw1
  clear hA hra hrx hn hN1 hB1 hw1
  go_enter Try.func10, Try.ntmps10
  go_wp2_with fail
  rw [← HW1.out]
  go_loopw [5] (fun u5 wr => ∃ k : Nat, k ≤ n ∧ u5 = .int .i64 k ∧ (∀ j, j < k → ∀ s, rs[j]? = some s → cmpR s r ≠ 0) ∧ New w1 wr) (fun u _ => n - (intOf u).toNat)
  case atStart => exact ⟨0, Nat.zero_le _, rfl, fun j hj => absurd hj (by omega), Chg.refl _ _⟩
  case round =>
    obtain ⟨k, hkn, rfl, hno, hN⟩ := hrel
    have HNo := Lib.hid hno
    have HNw := Lib.hid hN
    clear hno hN
    by_cases hlt : k < n
    · obtain ⟨cs, hcs⟩ : ∃ cs, css[k]? = some cs := ⟨_, List.getElem?_eq_getElem (by rw [HRa.out.1, ← HN.out]; exact hlt)⟩
      obtain ⟨s, hs1, hrow⟩ := HRa.out.2 k cs hcs
      obtain ⟨ad, rfl, hrA⟩ := HA.out (by rw [HRa.out.1, ← HN.out]; omega)
      have hnd : New wr wr.drew := (Chg.refl _ _).drew
      have hNd := HNw.out.drew
      have hat := (hrA k cs hcs).2.chg hNd id
      have hrs := hrow.chg hNd
      have hrr := HRx.out.chg hNd
      have hbb := HB1.out.chg hNd id
      have hk3 := hrow.cs.1
      have Hs1 := Lib.hid hs1
      have Hat := Lib.hid hat
      have Hrs := Lib.hid hrs
      have Hrr := Lib.hid hrr
      have Hbb := Lib.hid hbb
      have HNd := Lib.hid hNd
      obtain ⟨q, hq⟩ : ∃ q, cmpR s r = q := ⟨_, rfl⟩
      have Hq := Lib.hid hq
      have hst : wr.drew.cell? ⟨(ad.add (k * 3)).block, (ad.add (k * 3)).off + 2, none⟩ = some (.int .i64 s.stamp) := by
        obtain ⟨X2, x2, rfl, _⟩ := hrow
        have := hat 2 _ rfl
        rwa [add_succ] at this
      have Hst := Lib.hid hst
      clear hs1 hrow hrA hcs hnd hNd hat hrs hrr hbb hq hst
      have q0 : (0 : Int) ≤ (k : Int) := by omega
      have q1 : (k : Int) < (n : Int) := by omega
      have eg2 := enters_of Try.func9 (by kernel_rfl) rfl
      unfold Enters at eg2
      obtain ⟨bq, hbq⟩ : ∃ b : Bool, (q == 0) = b := ⟨_, rfl⟩
      go_upto_region 4 with fail
      refine wp_region_at (by kernel_rfl) ?_
      generalize wr.drew = wd at Hat Hrs Hrr Hbb HNd Hst ⊢
      refine AtN.segN2 0 7 [12, 13, 14, 15, 16, 17, 18] (fun
        | 0 => fun v _ => v = .slice (some ad) n c
        | 1 => fun v _ => v = .int .i64 k
        | 2 => fun v _ => v = .pointer (some (ad.add (k * 3)))
        | 3 => fun v _ => v = .agg cs.toArray
        | 4 => fun v _ => v = .agg #[.string r.name, .slice X1 r.args.length xd, .int .i64 r.stamp]
        | 5 => fun v _ => v = .int .i64 q
        | 6 => fun v _ => v = .bool bq
        | _ => fun _ _ => True) (by kernel_rfl) (by kernel_rfl) (by kernel_rfl) (by kernel_rfl) (fun j v w1 w2 hc h => ?_) (fun i hn hi o ho A0 W hN hin hk => ?_) (fun l W2 hN hl hΦ => ?_)
      · match j with
        | 0 | 1 | 2 | 3 | 4 | 5 | 6 => exact h
        | _ + 7 => trivial
      · rcases (show i = 0 ∨ i = 1 ∨ i = 2 ∨ i = 3 ∨ i = 4 ∨ i = 5 ∨ i = 6 by omega) with rfl | rfl | rfl | rfl | rfl | rfl | rfl
        · cases ho
          exact .same (exec_move 0 _ rfl (hk 0 (by kernel_rfl))) rfl
        · cases ho
          exact .same (exec_move 5 _ rfl (hk 5 (by kernel_rfl))) rfl
        · cases ho
          have h12 : A0.tmps[12]?.getD undef = .slice (some ad) n c := hin 0 12 (by kernel_rfl)
          have h13 : A0.tmps[13]?.getD undef = .int .i64 k := hin 1 13 (by kernel_rfl)
          exact .same (by simp [go_sem, h12, h13, q0, q1, hlt]) rfl
        · cases ho
          have h14 : A0.tmps[14]?.getD undef = .pointer (some (ad.add (k * 3))) := hin 2 14 (by kernel_rfl)
          exact .same (exec_load 14 _ rfl stRow (ad.add (k * 3)) cs h14 hk3 (Hat.out.chg hN id)) rfl
        · cases ho
          have h3 : A0.tmps[3]?.getD undef = .pointer (some ⟨w.heap.size, 0, none⟩) := hk 3 (by kernel_rfl)
          exact .same (exec_load 3 _ rfl stRow ⟨w.heap.size, 0, none⟩ [.string r.name, .slice X1 r.args.length xd, .int .i64 r.stamp] h3 rfl (Hbb.out.chg hN id).at_) rfl
        · cases ho
          have h15 : A0.tmps[15]?.getD undef = .agg cs.toArray := hin 3 15 (by kernel_rfl)
          have h16 : A0.tmps[16]?.getD undef = .agg #[.string r.name, .slice X1 r.args.length xd, .int .i64 r.stamp] := hin 4 16 (by kernel_rfl)
          refine .call (f := 9) (args := #[.agg cs.toArray, .agg #[.string r.name, .slice X1 r.args.length xd, .int .i64 r.stamp]]) (W' := W) ?_ ((cmp_row W cs [.string r.name, .slice X1 r.args.length xd, .int .i64 r.stamp] s r (Hrs.out.chg hN) (Hrr.out.chg hN)).mono ?_)
          · simp [go_sem, h15, h16, eg2]
          · rintro e w' ⟨rfl, hc⟩
            exact ⟨_, rfl, hc, by rw [Hq.out]; rfl⟩
        · cases ho
          have h17 : A0.tmps[17]?.getD undef = .int .i64 q := hin 5 17 (by kernel_rfl)
          exact .same (by simp [go_sem, h17, hbq]) rfl
      obtain ⟨x12, x13, x14, x15, x16, x17, x18, rfl⟩ : ∃ x12 x13 x14 x15 x16 x17 x18, l = [x12, x13, x14, x15, x16, x17, x18] := by
        match l, hl with
        | [x12, x13, x14, x15, x16, x17, x18], _ => exact ⟨_, _, _, _, _, _, _, rfl⟩
      obtain rfl : x12 = .slice (some ad) n c := hΦ 0 (by decide)
      obtain rfl : x13 = .int .i64 k := hΦ 1 (by decide)
      obtain rfl : x14 = .pointer (some (ad.add (k * 3))) := hΦ 2 (by decide)
      obtain rfl : x15 = .agg cs.toArray := hΦ 3 (by decide)
      obtain rfl : x16 = .agg #[.string r.name, .slice X1 r.args.length xd, .int .i64 r.stamp] := hΦ 4 (by decide)
      obtain rfl : x17 = .int .i64 q := hΦ 5 (by decide)
      obtain rfl : x18 = .bool bq := hΦ 6 (by decide)
      simp only [putsL, List.zip_cons_cons, List.zip_nil_left, List.zip_nil_right, List.zip, List.zipWith, Act.put, List.setIfInBounds_toArray, List.set_cons_succ, List.set_cons_zero]
      clear hΦ hl
      refine AtN.done rfl ?_
      have HN2 := Lib.hid (HNd.out.trans hN (fun _ _ x => x))
      have Hst2 := Lib.hid (show W2.cell? ⟨(ad.add (k * 3)).block, (ad.add (k * 3)).off + 2, none⟩ = some (.int .i64 s.stamp) from hN.cellS Hst.out id)
      clear hN
      cases bq with
      | true =>
        have hq0 : q = 0 := by simpa using hbq
        have HR := Lib.hid (findS_at13 HNo.out Hs1.out (by rw [Hq.out, hq0]))
        have e5 := Hst2.out
        clear hbq hq0
        go_wp2_with fail
        go_ret
        exact ⟨congrArg (fun z => Ending.returned (.int .i64 z)) HR.out.symm, HN1.out.trans HN2.out (fun _ _ x => x)⟩
      | false =>
        have hq0 : q ≠ 0 := by simpa using hbq
        have HNo2 := Lib.hid (show ∀ j, j < k + 1 → ∀ s, rs[j]? = some s → cmpR s r ≠ 0 from fun j hj s' hs' => by
          by_cases hjk : j = k
          · subst hjk
            have := Hs1.out
            rw [hs'] at this
            rw [Option.some.inj this, Hq.out]
            exact hq0
          · exact HNo.out j (by omega) s' hs')
        clear hbq hq0
        go_wp2_with fail
        go_roundw
        case rel => exact ⟨k + 1, by omega, by go_num, HNo2.out, HN2.out⟩
        case measure => simp only [intOf]; omega
    · have HR := Lib.hid (findS_end13 HNo.out (by rw [← HN.out]; omega))
      go_wp2_with fail
      go_ret
      exact ⟨congrArg (fun z => Ending.returned (.int .i64 z)) HR.out.symm, HN1.out.trans HNw.out (fun _ _ x => x)⟩
end Go.Proofs.Ytenkobgeflckdab

set_option linter.unusedVariables false
set_option linter.unusedSimpArgs false
namespace Go.Proofs.Ytenkobgeflckdab
open Go.RowKit Go.Shelf

theorem merge_len {rs out : List Rw} (h : IsMerge rs out) : ∀ (k : Nat), rs.length ≤ k → out.length ≤ k := by
  have hnd : out.Nodup := h.up.imp (fun {a b} h e => by rw [e, tri_row.refl] at h; omega)
  have key : ∀ (l m : List Rw), l.Nodup → (∀ x ∈ l, x ∈ m) → l.length ≤ m.length := by
    intro l
    induction l with
    | nil => intro m _ _; exact Nat.zero_le _
    | cons x l ih =>
      intro m hn hs
      have hxm := hs x (by simp)
      have hn2 := List.nodup_cons.1 hn
      have := ih (m.erase x) hn2.2 (fun y hy => (List.mem_erase_of_ne (show y ≠ x by rintro rfl; exact hn2.1 hy)).2 (hs y (by simp [hy])))
      rw [List.length_erase_of_mem hxm] at this
      have hpos : 0 < m.length := List.length_pos_of_mem hxm
      simp only [List.length_cons]
      omega
  exact fun k hk => Nat.le_trans (key out rs hnd h.sub) hk

theorem blk_src {W : World} {g : Nat} {css : List (List Value)} (hb : Blk W g 30 css.flatten.toArray) (h3 : ∀ cs ∈ css, cs.length = 3) : SrcAt W (some ⟨g, 0, none⟩) 3 css := fun _ => ⟨_, rfl, fun i cs hi => ⟨h3 cs (List.mem_of_getElem? hi), fun j u hj => by
  rw [Addr.add_lit, Nat.zero_add, Addr.add_lit, hb.cell]
  have := flatten_get h3 hi hj
  simpa using this⟩⟩
theorem blk_rowsl {W : World} {g : Nat} {css : List (List Value)} {rs : List Rw} (hb : Blk W g 30 css.flatten.toArray) (hr : RowsCs W css rs) (hl : rs.length ≤ 1000000) : RowSl W (.slice (some ⟨g, 0, none⟩) rs.length rs.length) rs :=
  ⟨_, _, css, rfl, hl, Nat.le_refl _, by unfold maxLen; omega, blk_src hb hr.k3, hr, fun a ha => by cases ha; exact hb.lt⟩
theorem rowsCs_one {W : World} {cs : List Value} {r : Rw} (h : RowAt W cs r) : RowsCs W [cs] [r] := ⟨rfl, fun i c hi => by
  match i, hi with
  | 0, hi => cases hi; exact ⟨r, rfl, h⟩
  | i + 1, hi => simp at hi⟩
theorem RowsCs.snoc {w : World} {css : List (List Value)} {rs : List Rw} {cs : List Value} {r : Rw} (h : RowsCs w css rs) (hr : RowAt w cs r) : RowsCs w (css ++ [cs]) (rs ++ [r]) := by
  refine ⟨by simp [h.1], fun i c hi => ?_⟩
  by_cases hl : i < css.length
  · rw [List.getElem?_append_left hl] at hi
    obtain ⟨r', h1, h2⟩ := h.2 i c hi
    exact ⟨r', by rw [List.getElem?_append_left (by rw [← h.1]; exact hl)]; exact h1, h2⟩
  · rw [List.getElem?_append_right (by omega)] at hi
    have hz : i = css.length := by
      have := (List.getElem?_eq_some_iff.1 hi).1
      simp at this
      omega
    subst hz
    rw [Nat.sub_self] at hi
    obtain rfl : cs = c := by simpa using hi
    exact ⟨r, by rw [List.getElem?_append_right (by rw [h.1]; exact Nat.le_refl _), h.1, Nat.sub_self]; rfl, hr⟩

theorem OwnTab.src {W : World} {B g m : Nat} {css : List (List Value)} {rest : List Value} {out : List Rw} {vs : List Value} (h : OwnTab W B g m css rest out vs) : SrcAt W (some ⟨g, 0, none⟩) 3 css := fun _ => ⟨_, rfl, fun i cs hi => by
  refine ⟨h.tab.k3 cs (List.mem_of_getElem? hi), ?_⟩
  rw [Addr.add_lit, Nat.zero_add]
  exact h.tab.get hi⟩
theorem OwnTab.cs {W : World} {B g m : Nat} {css : List (List Value)} {rest : List Value} {out : List Rw} {vs : List Value} (h : OwnTab W B g m css rest out vs) (hv : vs.length = m) (ho : out.length = m) : RowsCs W css out := by
  refine ⟨by rw [h.tab.len, ho], fun i cs hi => ?_⟩
  have hl := (List.getElem?_eq_some_iff.1 hi).1
  rw [h.tab.len] at hl
  obtain ⟨cs', r, h1, h2, h3⟩ := h.own i vs[i] (List.getElem?_eq_getElem (by omega))
  rw [hi] at h1
  cases h1
  exact ⟨r, h2, h3.row⟩
theorem MergePost.rows {w w' : World} {rs : List Rw} {e : Ending} (h : MergePost w rs e w') : ∃ A c css out, e = .returned (.slice A out.length c) ∧ IsMerge rs out ∧ New w w' ∧ out.length ≤ c ∧ c ≤ maxLen ∧ SrcAt w' A 3 css ∧ RowsCs w' css out ∧ ∀ a, A = some a → a.block < w'.heap.size := by
  obtain ⟨out, h1, h2, h3⟩ := h
  rcases h3 with ⟨h3, h4⟩ | ⟨g, c, css, rest, vs, B, h3, h4, h5, h6, h7, h8⟩
  · subst h3
    exact ⟨none, 0, [], [], h4, h1, h2, Nat.le_refl _, Nat.zero_le _, fun h => absurd h (by simp), ⟨rfl, fun i cs h => by simp at h⟩, fun a h => by cases h⟩
  · exact ⟨_, c, css, out, h3, h1, h2, h4, h5, h8.src, h8.cs h7 rfl, fun a ha => by cases ha; exact h8.tab.blk.lt⟩
theorem rowsCs_two {W : World} {cs ds : List Value} {r s : Rw} (h : RowAt W cs r) (h' : RowAt W ds s) : RowsCs W [cs, ds] [r, s] := (rowsCs_one h).snoc h'

theorem row_two {W : World} {g : Nat} {nm : ByteArray} {u v : Vl} {st : Int} (hb : Blk W g 46 (vcs u ++ vcs v).toArray) : RowAt W [.string nm, .slice (some ⟨g, 0, none⟩) 2 2, .int .i64 st] ⟨nm, [u, v], st⟩ :=
  ⟨_, 2, rfl, by show 2 ≤ 1000; omega, Nat.le_refl _, by unfold maxLen; omega, fun _ => ⟨_, rfl, fun i cs hi => by
    match i, hi with
    | 0, hi => cases hi; exact ⟨rfl, fun j u hj => by rw [Nat.zero_mul, Addr.add_lit, Addr.add_lit, hb.cell, List.getElem?_toArray]; simp only [Nat.zero_add]; rw [List.getElem?_append_left (List.getElem?_eq_some_iff.1 hj).1]; exact hj⟩
    | 1, hi => cases hi; exact ⟨rfl, fun j u' hj => by
        rw [Addr.add_lit, Addr.add_lit, hb.cell, List.getElem?_toArray, List.getElem?_append_right (by show 4 ≤ _; omega)]
        rw [show 0 + 1 * 4 + j - (vcs u).length = j from by show 0 + 1 * 4 + j - 4 = j; omega]
        exact hj⟩
    | i + 2, hi => simp at hi⟩, fun a ha => by cases ha; exact hb.lt⟩

theorem IntsAt.chg {W W' : World} {v : Value} {k n : Nat} {X : Nat → Int} (h : IntsAt W v k n X) (hc : New W W') : IntsAt W' v k n X := by
  obtain ⟨⟨A, c, h1, h2, h3, h4⟩, h5⟩ := h
  refine ⟨⟨A, c, h1, h2, h3, fun hp => ?_⟩, h5⟩
  obtain ⟨a, ha, hq⟩ := h4 hp
  exact ⟨a, ha, fun q hq' => hc.cellS (hq q hq') id⟩
theorem RowSl.nil (W : World) : RowSl W (.slice none 0 0) [] := ⟨none, 0, [], rfl, by simp, Nat.le_refl _, Nat.zero_le _, fun h => absurd h (by simp), ⟨rfl, fun i cs h => by simp at h⟩, fun a h => by cases h⟩
theorem RowSl.form {W : World} {v : Value} {rs : List Rw} (h : RowSl W v rs) : ∃ A c, v = .slice A rs.length c ∧ rs.length ≤ 1000000 := by
  obtain ⟨A, c, css, h1, h2, _⟩ := h
  exact ⟨A, c, h1, h2⟩
theorem RowSl.form0 {W : World} {v : Value} (h : RowSl W v []) : ∃ A c, v = .slice A 0 c := by
  obtain ⟨A, c, h1, _⟩ := h.form
  exact ⟨A, c, h1⟩
/-- A row out of a slice. -/
theorem RowSl.row {W : World} {A : Option Addr} {n c : Nat} {rs : List Rw} (h : RowSl W (.slice A n c) rs) {i : Nat} {r : Rw} (hi : rs[i]? = some r) : ∃ a cs, A = some a ∧ At W (a.add (i * 3)) cs ∧ cs.length = 3 ∧ RowAt W cs r := by
  obtain ⟨A', c', css, h1, _, _, _, h5, h6, _⟩ := h
  simp only [Value.slice.injEq] at h1
  obtain ⟨rfl, rfl, rfl⟩ := h1
  have hlt := (List.getElem?_eq_some_iff.1 hi).1
  have hcs : css[i]? = some (css[i]'(by rw [h6.1]; exact hlt)) := List.getElem?_eq_getElem _
  obtain ⟨a, ha, hr⟩ := h5 (by rw [h6.1]; omega)
  obtain ⟨r', hr', hrow⟩ := h6.2 i _ hcs
  rw [hi] at hr'
  obtain rfl := Option.some.inj hr'
  exact ⟨a, _, ha, (hr i _ hcs).2, hrow.cs.1, hrow⟩
theorem rows_sl (w : World) (v : Value) (n : Nat) (X : Nat → Int) (hx : IntsAt w v 6 n X) :
    Calls Try.prog 7 #[v] w fun e w' => ∃ v' rs, e = .returned v' ∧ RowSl w' v' rs ∧ rs.length ≤ 40 ∧ (∀ r ∈ rs, Good r) ∧ New w w' := by
  refine (rows10 w v n X hx).mono ?_
  rintro e w' ⟨v', cso, rs, rfl, ho, hr, hl, hg, hN⟩
  exact ⟨v', rs, rfl, ho.rowSl hr.cs (by omega), hl, hg, hN⟩
theorem rows_own (w : World) (v : Value) (n : Nat) (X : Nat → Int) (hx : IntsAt w v 6 n X) :
    Calls Try.prog 7 #[v] w fun e w' => ∃ v' cso rs, e = .returned v' ∧ Own w' w.heap.size 30 3 v' cso ∧ RowsOwn w' w.heap.size cso rs ∧ rs.length ≤ 40 ∧ (∀ r ∈ rs, Good r) ∧ New w w' := (rows10 w v n X hx).mono (fun e w' h => h)
theorem merge_sl (w : World) (v : Value) (rs : List Rw) (h : RowSl w v rs) :
    Calls Try.prog 8 #[v] w fun e w' => ∃ v' out, e = .returned v' ∧ IsMerge rs out ∧ RowSl w' v' out ∧ New w w' := by
  obtain ⟨A, c, css, rfl, h2, h3, h4, h5, h6, h7⟩ := h
  refine (merge_rows w A c css rs h2 h3 h4 h5 h6 h7).mono ?_
  intro e w' hp
  obtain ⟨A', c', css', out, rfl, k1, k2, k3, k4, k5, k6, k7⟩ := hp.rows
  exact ⟨_, out, rfl, k1, ⟨A', c', css', rfl, merge_len k1 1000000 h2, k3, k4, k5, k6, k7⟩, k2⟩
theorem same_sl (w : World) (v1 v2 : Value) (rs : List Rw) (h1 : RowSl w v1 rs) (h2 : RowSl w v2 rs) :
    Calls Try.prog 11 #[v1, v2] w fun e w' => e = .returned (.bool true) ∧ New w w' := by
  obtain ⟨A, c, css, rfl, a2, a3, a4, a5, a6, a7⟩ := h1
  obtain ⟨B, d, dss, rfl, b2, b3, b4, b5, b6, b7⟩ := h2
  exact same_rows w A rs.length c B d css dss rs rfl (by omega) a5 b5 a6 b6
theorem find_sl (w : World) (v : Value) (rs : List Rw) (h : RowSl w v rs) (xc : List Value) (r : Rw) (hx : RowAt w xc r) :
    Calls Try.prog 10 #[v, .agg xc.toArray] w fun e w' => e = .returned (.int .i64 (findS rs r)) ∧ New w w' := by
  obtain ⟨A, c, css, rfl, h2, h3, h4, h5, h6, h7⟩ := h
  exact find_rows13 w A rs.length c css rs rfl (by omega) h5 h6 xc r hx
/-- A slice of rows, its cells named. -/
def RowSlC (w : World) (v : Value) (css : List (List Value)) (rs : List Rw) : Prop := ∃ A c, v = .slice A rs.length c ∧ rs.length ≤ 1000000 ∧ rs.length ≤ c ∧ c ≤ maxLen ∧ SrcAt w A 3 css ∧ RowsCs w css rs ∧ ∀ a, A = some a → a.block < w.heap.size
theorem RowSl.cells {w : World} {v : Value} {rs : List Rw} (h : RowSl w v rs) : ∃ css, RowSlC w v css rs := by
  obtain ⟨A, c, css, h⟩ := h
  exact ⟨css, A, c, h⟩
theorem RowSlC.sl {w : World} {v : Value} {css : List (List Value)} {rs : List Rw} (h : RowSlC w v css rs) : RowSl w v rs := by
  obtain ⟨A, c, h⟩ := h
  exact ⟨A, c, css, h⟩
theorem RowSlC.cs {w : World} {v : Value} {css : List (List Value)} {rs : List Rw} (h : RowSlC w v css rs) : RowsCs w css rs := by
  obtain ⟨A, c, _, _, _, _, _, h, _⟩ := h
  exact h
theorem RowSlC.chg {w w' : World} {v : Value} {css : List (List Value)} {rs : List Rw} (h : RowSlC w v css rs) (hc : New w w') : RowSlC w' v css rs := by
  obtain ⟨A, c, h1, h2, h3, h4, h5, h6, h7⟩ := h
  exact ⟨A, c, h1, h2, h3, h4, h5.chg hc (fun _ _ x => x), h6.chg hc, fun a ha => Nat.lt_of_lt_of_le (h7 a ha) hc.size⟩
/-- A slice of rows appended to one of the call's own. -/
theorem append_sl {B : Nat} {W : World} {v u : Value} {cso css : List (List Value)} {ss : List Rw} (ho : Own W B 30 3 v cso) (hB : B ≤ W.heap.size) (hu : RowSlC W u css ss) (hl : cso.length ≤ 1000000) (ty : TypeId) :
    ∃ v' W', (Builtin.append_ #[24, 24] ty #[v, u]).run Try.prog W = .ok v' W' ∧ Own W' B 30 3 v' (cso ++ css) ∧ Chg W W' (fun k => v.ownBlock = some k) ∧ ∀ k, v'.ownBlock = some k → v.ownBlock = some k ∨ W.heap.size ≤ k := by
  obtain ⟨A, c, rfl, h2, h3, h4, h5, h6, h7⟩ := hu
  exact elRow.appendS ho hB A ss.length c css h6.1.symm h6.k3 h6.one h5 (by omega) (by unfold maxLen; omega) ty
theorem RowsCs.app {w : World} {css dss : List (List Value)} {rs ss : List Rw} (h : RowsCs w css rs) (h' : RowsCs w dss ss) : RowsCs w (css ++ dss) (rs ++ ss) := by
  refine ⟨by simp [h.1, h'.1], fun i c hi => ?_⟩
  by_cases hl : i < css.length
  · rw [List.getElem?_append_left hl] at hi
    obtain ⟨r', h1, h2⟩ := h.2 i c hi
    exact ⟨r', by rw [List.getElem?_append_left (by rw [← h.1]; exact hl)]; exact h1, h2⟩
  · rw [List.getElem?_append_right (by omega)] at hi
    obtain ⟨r', h1, h2⟩ := h'.2 _ c hi
    exact ⟨r', by rw [List.getElem?_append_right (by rw [← h.1]; omega), ← h.1]; exact h1, h2⟩
/-- One slice of rows behind another, in memory of one's own. -/
theorem two_sl {W : World} {v u : Value} {rs ss : List Rw} (hv : RowSl W v rs) (hu : RowSl W u ss) (hl : rs.length + ss.length ≤ 1000000) (ty ty' : TypeId) :
    ∃ v1 W1 v2 W2, (Builtin.append_ #[24, 24] ty #[.slice none 0 0, v]).run Try.prog W = .ok v1 W1 ∧ (Builtin.append_ #[24, 24] ty' #[v1, u]).run Try.prog W1 = .ok v2 W2 ∧ New W W2 ∧ RowSl W2 v2 (rs ++ ss) := by
  obtain ⟨css, hv⟩ := hv.cells
  obtain ⟨dss, hu⟩ := hu.cells
  obtain ⟨v1, W1, hrun1, ho1, hc1, hb1⟩ := append_sl (Own.nil W W.heap.size 30 3) (Nat.le_refl _) hv (by simp) ty
  have hN1 : New W W1 := hc1.mono (fun k _ h => by cases h)
  rw [List.nil_append] at ho1
  obtain ⟨v2, W2, hrun2, ho2, hc2, hb2⟩ := append_sl ho1 hN1.size (hu.chg hN1) (by rw [hv.cs.1]; omega) ty'
  have hN2 : New W W2 := hN1.trans hc2 (fun k hk h => by
    have := (ho1.lt h).1
    omega)
  exact ⟨v1, W1, v2, W2, hrun1, hrun2, hN2, ho2.rowSl ((hv.cs.chg hN2).app (hu.cs.chg hN2)) (by rw [List.length_append]; exact hl)⟩
end Go.Proofs.Ytenkobgeflckdab
