/- The laws' raw rows. -/
import Derived.Test.YtfocjfnkcabbgaaFact
import Derived.Test.YtfocjfnkcabbgaaMrgW
import Derived.Test.YtfocjfnkcabbgaaApp
import Derived.Test.YtfocjfnkcabbgaaOpenR
set_option linter.unusedVariables false
set_option linter.unusedSimpArgs false
namespace Go.Proofs.Ytfocjfnkcabbgaa
open Go.RowKit Go.Shelf

theorem own_ne_own {w : World} {b b' : Nat} {e e' : TypeId} {k k' : Nat} {v v' : Value} {css css' : List (List Value)} (h : Own w b e k v css) (h' : Own w b' e' k' v' css') (hne : e ≠ e') {g : Nat} (hg : v.ownBlock = some g) : v'.ownBlock ≠ some g := by
  intro hg'
  rcases h.1.2 with ⟨h1, h2⟩ | ⟨g1, cap, cur, h1, hb, hg1, r⟩
  · rw [h1] at hg; cases hg
  · rcases h'.1.2 with ⟨h3, h4⟩ | ⟨g2, cap', cur', h3, hb', hg2, r'⟩
    · rw [h3] at hg'; cases hg'
    · rw [h1] at hg
      rw [h3] at hg'
      have e1 : g1 = g := Option.some.inj hg
      have e2 : g2 = g := Option.some.inj hg'
      subst e1 e2
      rw [hg1] at hg2
      cases hg2
      exact hne rfl
/-- Rows, each with its arguments in memory of the call's own. -/
def RowsOwn (W : World) (B : Nat) (cso : List (List Value)) (rs : List Rw) : Prop := cso.length = rs.length ∧ ∀ (i : Nat) (cs : List Value), cso[i]? = some cs → ∃ r v, rs[i]? = some r ∧ OwnRow W B cs r v
theorem RowsOwn.cs {W : World} {B : Nat} {cso : List (List Value)} {rs : List Rw} (h : RowsOwn W B cso rs) : RowsCs W cso rs := ⟨h.1, fun i cs hi => by
  obtain ⟨r, v, h1, h2⟩ := h.2 i cs hi
  exact ⟨r, h1, h2.row⟩⟩
theorem RowsOwn.chg {W W' : World} {B B' k : Nat} {e : TypeId} {cso css : List (List Value)} {rs : List Rw} {vo : Value} (h : RowsOwn W B cso rs) (ho : Own W B' e k vo css) (he : e ≠ 37) (hc : Chg W W' (fun g => vo.ownBlock = some g)) : RowsOwn W' B cso rs := ⟨h.1, fun i cs hi => by
  obtain ⟨r, v, h1, h2⟩ := h.2 i cs hi
  exact ⟨r, v, h1, h2.chg hc (fun g hg hg' => own_ne_own ho h2.2.2 he hg' hg)⟩⟩
theorem RowsOwn.new {W W' : World} {B : Nat} {cso : List (List Value)} {rs : List Rw} (h : RowsOwn W B cso rs) (hc : New W W') : RowsOwn W' B cso rs := ⟨h.1, fun i cs hi => by
  obtain ⟨r, v, h1, h2⟩ := h.2 i cs hi
  exact ⟨r, v, h1, h2.chg hc (fun g hg hg' => hg')⟩⟩
theorem RowsOwn.snoc {W : World} {B : Nat} {cso : List (List Value)} {rs : List Rw} {cs : List Value} {r : Rw} {v : Value} (h : RowsOwn W B cso rs) (hr : OwnRow W B cs r v) : RowsOwn W B (cso ++ [cs]) (rs ++ [r]) := by
  refine ⟨by simp [h.1], fun i c hi => ?_⟩
  by_cases hl : i < cso.length
  · rw [List.getElem?_append_left hl] at hi
    obtain ⟨r', v', h1, h2⟩ := h.2 i c hi
    exact ⟨r', v', by rw [List.getElem?_append_left (by rw [← h.1]; exact hl)]; exact h1, h2⟩
  · rw [List.getElem?_append_right (by omega)] at hi
    have hz : i = cso.length := by
      have := (List.getElem?_eq_some_iff.1 hi).1
      simp at this
      omega
    subst hz
    rw [Nat.sub_self] at hi
    obtain rfl : cs = c := by simpa using hi
    exact ⟨r, v, by rw [List.getElem?_append_right (by rw [h.1]; exact Nat.le_refl _), h.1, Nat.sub_self]; rfl, hr⟩
/-- A row of the laws': values in one form, one to three, a stamp of 0 to 8. -/
structure Good (r : Rw) : Prop where
  can : canonR r
  lo : 1 ≤ r.args.length
  hi : r.args.length ≤ 3
  st0 : 0 ≤ r.stamp
  st9 : r.stamp < 9
  raw : ∀ v ∈ r.args, rawV v
  rel : ∃ p : Nat, relCs[p]? = some (r.name, (r.args.length : Int))
/-- What Rows leaves. -/
def RowsPost (w : World) (e : Ending) (w' : World) : Prop := ∃ v cso rs, e = .returned v ∧ Own w' w.heap.size 45 3 v cso ∧ RowsOwn w' w.heap.size cso rs ∧ rs.length ≤ 40 ∧ (∀ r ∈ rs, Good r) ∧ New w w'
theorem Own.rowSl {w : World} {B : Nat} {v : Value} {cso : List (List Value)} {rs : List Rw} (ho : Own w B 45 3 v cso) (hr : RowsCs w cso rs) (hl : rs.length ≤ 1000000) : RowSl w v rs := by
  obtain ⟨A, c, hv, h1, h2⟩ := ho.form
  have hrw := (ho.rows hv).2
  rw [hr.1] at hv h1
  exact ⟨A, c, cso, hv, hl, h1, h2, hrw, hr, fun a ha => (ho.lt (g := a.block) (by rw [hv, ha]; rfl)).2⟩
theorem stRaw : StT Try.prog 51 6 := ⟨⟨_, Try.underlying51⟩, by kernel_rfl⟩

set_option maxHeartbeats 4000000 in
set_option maxRecDepth 100000 in
theorem rows10 (w : World) (v : Value) (n : Nat) (X : Nat → Int) (hx : IntsAt w v 6 n X) :
    Calls Try.prog 6 #[v] w (RowsPost w) := by
  obtain ⟨⟨A, c, rfl, hnc, hcm, hat⟩, hbd⟩ := hx
  have hm := hcm
  unfold maxLen at hm
  have Hat := Lib.hid hat
  have Hbd := Lib.hid hbd
  clear hat hbd
  go_enter Try.func6, Try.ntmps6
  go_wp2_with fail
  go_loopw [3, 4] (fun u3 u4 wr => ∃ (i : Nat) (cso : List (List Value)) (rs : List Rw), i ≤ n ∧ i ≤ 40 ∧ u4 = .int .i64 i ∧ rs.length = i ∧ Own wr w.heap.size 45 3 u3 cso ∧ RowsOwn wr w.heap.size cso rs ∧ (∀ r ∈ rs, Good r) ∧ New w wr) (fun _ u _ => 40 - (intOf u).toNat)
  case atStart => exact ⟨0, [], [], Nat.zero_le _, by omega, rfl, rfl, Own.nil _ _ _ _, ⟨rfl, fun i cs h => by simp at h⟩, fun r h => (by cases h), Chg.refl _ _⟩
  case round =>
    obtain ⟨i, cso, rs, hin, hi40, rfl, hrl, hov, hro, hgd, hN⟩ := hrel
    obtain ⟨Ao, co, rfl, hc1, hc2⟩ := hov.form
    have hcl : cso.length = i := by rw [hro.1, hrl]
    obtain ⟨m, hmm⟩ : ∃ m, cso.length = m := ⟨_, rfl⟩
    rw [hmm] at hov hc1 hcl ⊢
    subst hcl
    have Hmm := Lib.hid hmm
    have HOv := Lib.hid hov
    have HRo := Lib.hid hro
    have HGd := Lib.hid hgd
    have HNw := Lib.hid hN
    have HRl := Lib.hid hrl
    clear hov hro hgd hN hrl hmm hc1 hc2
    by_cases hlt : m < n
    · have l1 : decide ((m : Int) < (n : Int)) = true := by simpa using hlt
      have l1' : decide (m < n) = true := by simpa using hlt
      by_cases h40 : m < 40
      · have l2 : decide ((m : Int) < 40) = true := by simp; omega
        obtain ⟨a, rfl, hcell⟩ := Hat.out (by omega)
        have hc : ∀ j, j < 6 → wr.cell? (a.add (m * 6 + j)) = some (.int .i64 (X (m * 6 + j))) := fun j hj => HNw.out.cellS (hcell (m * 6 + j) (by omega)) id
        have hrow : At wr (a.add (m * 6)) [.int .i64 (X (m * 6)), .int .i64 (X (m * 6 + 1)), .int .i64 (X (m * 6 + 2)), .int .i64 (X (m * 6 + 3)), .int .i64 (X (m * 6 + 4)), .int .i64 (X (m * 6 + 5))] := fun j u hj => by
          rw [add_add]
          match j, hj with
          | 0, hj => cases hj; exact hc 0 (by omega)
          | 1, hj => cases hj; exact hc 1 (by omega)
          | 2, hj => cases hj; exact hc 2 (by omega)
          | 3, hj => cases hj; exact hc 3 (by omega)
          | 4, hj => cases hj; exact hc 4 (by omega)
          | 5, hj => cases hj; exact hc 5 (by omega)
          | j + 6, hj => simp at hj
        have Hrow := Lib.hid hrow
        have Hc5 := Lib.hid (hc 5 (by omega))
        have Hf := Lib.hid (fact06 wr (X (m * 6)) (X (m * 6 + 1)) (X (m * 6 + 2)) (X (m * 6 + 3)) (X (m * 6 + 4)) (X (m * 6 + 5)) (Hbd.out _) (Hbd.out _) (Hbd.out _) (Hbd.out _) (Hbd.out _))
        have hab : a.block < w.heap.size := by
          have := World.block_lt_of_cell? w _ (hcell (m * 6) (by omega))
          rwa [add_block] at this
        clear hcell hc hrow
        have q0 : (0 : Int) ≤ (m : Int) := by omega
        have q1 : (m : Int) < (n : Int) := by omega
        go_wp2_with (first | ((with_reducible refine wpl_load rfl (.tmp 18) 51 rfl stRaw (a.add (m * 6)) _ ?_ rfl Hrow.out ?_); exact rfl))
        refine Hf.out.mono ?_
        rintro e w2 ⟨nm, va, us, rfl, hu1, hu3, huc, hurel, huo, hN2⟩
        obtain ⟨Aa, ca, rfl, _, _⟩ := huo.form
        rw [List.length_map] at huo ⊢
        obtain ⟨p9, hp9⟩ : ∃ p, pk (X (m * 6 + 5)) 9 = p := ⟨_, rfl⟩
        have h90 : 0 ≤ p9 := by have := pk_lo (X (m * 6 + 5)) 9 (by omega); omega
        have h99 : p9 < 9 := by have := pk_hi (X (m * 6 + 5)) 9 (by omega); omega
        have hpq := fun W => pick10 W (X (m * 6 + 5)) 9 (Hbd.out _).1 (Hbd.out _).2 (by omega) (by omega)
        rw [hp9] at hpq
        have HPq := Lib.hid hpq
        have eg2 := enters_of Try.func17 (by kernel_rfl) rfl
        unfold Enters at eg2
        obtain ⟨w3, hw3⟩ : ∃ w3, w3 = w2.alloc (.cells #[.string nm, .slice Aa us.length ca] 57) := ⟨_, rfl⟩
        have hN3 : New w2 w3 := by rw [hw3]; exact (Chg.refl _ _).alloc _
        have hB3 : Blk w3 w2.heap.size 57 #[.string nm, .slice Aa us.length ca] := by rw [hw3]; exact Blk.new w2 _ _
        have hN0 := hN2.trans hN3 (fun _ _ x => x)
        have hnd : New w3 w3.drew := (Chg.refl _ _).drew
        have HN2 := Lib.hid (hN0.trans hnd (fun _ _ x => x))
        have HB3 := Lib.hid (hB3.chg hnd id)
        have HUo := Lib.hid ((huo.chg hN3 (fun _ _ x => x)).chg hnd (fun _ _ x => x))
        have HW3 := Lib.hid hw3
        have HUc := Lib.hid huc
        have HUrel := Lib.hid hurel
        have hwr := HNw.out.size
        obtain ⟨bt, hbt⟩ : ∃ b, w2.heap.size = b := ⟨_, rfl⟩
        rw [hbt] at HB3
        have Hbt := Lib.hid hbt
        have HA5 := Lib.hid (show (a.add (m * 6)).block = a.block from add_block _ _)
        have HA6 := Lib.hid (show (a.add (m * 6)).off = a.off + m * 6 from add_offs _ _)
        have HA7 := Lib.hid (show a.add (m * 6 + 5) = ⟨a.block, a.off + (m * 6 + 5), none⟩ from add_succ _ _)
        clear hp9 hpq huc hurel huo hN2 hN3 hB3 hN0 hnd hw3 hbt Hf
        go_upto_region 6 with fail
        rw [← HW3.out, Hbt.out]
        refine wp_region_at (by kernel_rfl) ?_
        clear HW3 Hbt
        generalize w3.drew = wd at HN2 HB3 HUo ⊢
        have hsz := HN2.out.size
        have HNd := Lib.hid (HNw.out.trans HN2.out (fun _ _ x => x))
        have HOv2 := Lib.hid (HOv.out.chg HN2.out (fun _ _ x => x))
        have HRo2 := Lib.hid (HRo.out.new HN2.out)
        have HC5 := Lib.hid (HN2.out.cellS Hc5.out id)
        have hne3 : ∀ g, (Value.slice Ao m co).ownBlock = some g → g ≠ bt := fun g hg e => own_ne_blk HOv2.out HB3.out (by decide) (by rw [hg, e])
        have hlw := HNd.out.size
        have hneA : ∀ g, (Value.slice Ao m co).ownBlock = some g → g ≠ a.block := fun g hg e => by
          have := (HOv2.out.lt hg).1
          omega
        have q2 : m * 6 + 5 = m * 6 + 2 + 3 := rfl
        have hst : ∀ jj uu w1 w2, New w1 w2 → (fun
            | 0 => fun v _ => v = .slice Ao m co
            | 1 => fun v _ => v = .pointer (some ⟨bt, 0, none⟩)
            | 2 => fun v _ => v = .string nm
            | 3 => fun v _ => v = .pointer (some ⟨bt, 1, none⟩)
            | 4 => fun v _ => v = .slice Aa us.length ca
            | 5 => fun v _ => v = .slice (some a) n c
            | 6 => fun v _ => v = .int .i64 m
            | 7 => fun v _ => v = .pointer (some (a.add (m * 6)))
            | 8 => fun v _ => v = .pointer (some ⟨a.block, a.off + (m * 6 + 2), none⟩)
            | 9 => fun v _ => v = .pointer (some ⟨a.block, a.off + (m * 6 + 5), none⟩)
            | 10 => fun v _ => v = .int .i64 (X (m * 6 + 5))
            | 11 => fun v _ => v = .int .i64 p9
            | 12 => fun v _ => v = .agg #[.string nm, .slice Aa us.length ca, .int .i64 p9]
            | 13 => fun v W => ∃ rb, v = .slice (some ⟨rb, 0, none⟩) 1 1 ∧ Blk W rb 45 #[.string nm, .slice Aa us.length ca, .int .i64 p9]
            | 14 => fun v W => Own W w.heap.size 45 3 v (cso ++ [[.string nm, .slice Aa us.length ca, .int .i64 p9]]) ∧ ∀ k, v.ownBlock = some k → (Value.slice Ao m co).ownBlock = some k ∨ wd.heap.size ≤ k
            | _ => fun _ _ => True : Nat → Value → World → Prop) jj uu w1 → (fun
            | 0 => fun v _ => v = .slice Ao m co
            | 1 => fun v _ => v = .pointer (some ⟨bt, 0, none⟩)
            | 2 => fun v _ => v = .string nm
            | 3 => fun v _ => v = .pointer (some ⟨bt, 1, none⟩)
            | 4 => fun v _ => v = .slice Aa us.length ca
            | 5 => fun v _ => v = .slice (some a) n c
            | 6 => fun v _ => v = .int .i64 m
            | 7 => fun v _ => v = .pointer (some (a.add (m * 6)))
            | 8 => fun v _ => v = .pointer (some ⟨a.block, a.off + (m * 6 + 2), none⟩)
            | 9 => fun v _ => v = .pointer (some ⟨a.block, a.off + (m * 6 + 5), none⟩)
            | 10 => fun v _ => v = .int .i64 (X (m * 6 + 5))
            | 11 => fun v _ => v = .int .i64 p9
            | 12 => fun v _ => v = .agg #[.string nm, .slice Aa us.length ca, .int .i64 p9]
            | 13 => fun v W => ∃ rb, v = .slice (some ⟨rb, 0, none⟩) 1 1 ∧ Blk W rb 45 #[.string nm, .slice Aa us.length ca, .int .i64 p9]
            | 14 => fun v W => Own W w.heap.size 45 3 v (cso ++ [[.string nm, .slice Aa us.length ca, .int .i64 p9]]) ∧ ∀ k, v.ownBlock = some k → (Value.slice Ao m co).ownBlock = some k ∨ wd.heap.size ≤ k
            | _ => fun _ _ => True : Nat → Value → World → Prop) jj uu w2 := by
          intro j uu w1 w2 hc h
          match j with
          | 13 => exact h.imp fun b h => ⟨h.1, h.2.chg hc id⟩
          | 14 => exact ⟨h.1.chg hc (fun _ _ x => x), h.2⟩
          | 0 | 1 | 2 | 3 | 4 | 5 | 6 | 7 | 8 | 9 | 10 | 11 | 12 => exact h
          | _ + 15 => trivial
        refine AtN.segX2 0 15 14 [21, 22, 23, 24, 25, 26, 27, 28, 29, 30, 31, 32, 33, 34, 35] (fun k => (Value.slice Ao m co).ownBlock = some k) (fun
            | 13 => 14
            | _ => 999) (fun
            | 0 => fun v _ => v = .slice Ao m co
            | 1 => fun v _ => v = .pointer (some ⟨bt, 0, none⟩)
            | 2 => fun v _ => v = .string nm
            | 3 => fun v _ => v = .pointer (some ⟨bt, 1, none⟩)
            | 4 => fun v _ => v = .slice Aa us.length ca
            | 5 => fun v _ => v = .slice (some a) n c
            | 6 => fun v _ => v = .int .i64 m
            | 7 => fun v _ => v = .pointer (some (a.add (m * 6)))
            | 8 => fun v _ => v = .pointer (some ⟨a.block, a.off + (m * 6 + 2), none⟩)
            | 9 => fun v _ => v = .pointer (some ⟨a.block, a.off + (m * 6 + 5), none⟩)
            | 10 => fun v _ => v = .int .i64 (X (m * 6 + 5))
            | 11 => fun v _ => v = .int .i64 p9
            | 12 => fun v _ => v = .agg #[.string nm, .slice Aa us.length ca, .int .i64 p9]
            | 13 => fun v W => ∃ rb, v = .slice (some ⟨rb, 0, none⟩) 1 1 ∧ Blk W rb 45 #[.string nm, .slice Aa us.length ca, .int .i64 p9]
            | 14 => fun v W => Own W w.heap.size 45 3 v (cso ++ [[.string nm, .slice Aa us.length ca, .int .i64 p9]]) ∧ ∀ k, v.ownBlock = some k → (Value.slice Ao m co).ownBlock = some k ∨ wd.heap.size ≤ k
            | _ => fun _ _ => True : Nat → Value → World → Prop) (by kernel_rfl) (by kernel_rfl) (by kernel_rfl) (by kernel_rfl) (fun i hn hi o ho A0 W b hJ hμ hin hk => ?_) (fun l W3 hJ hl hΦ => ?_)
        · rcases (show i = 0 ∨ i = 1 ∨ i = 2 ∨ i = 3 ∨ i = 4 ∨ i = 5 ∨ i = 6 ∨ i = 7 ∨ i = 8 ∨ i = 9 ∨ i = 10 ∨ i = 11 ∨ i = 12 ∨ i = 13 ∨ i = 14 by omega) with rfl | rfl | rfl | rfl | rfl | rfl | rfl | rfl | rfl | rfl | rfl | rfl | rfl | rfl | rfl
          · cases ho
            refine .newX (i := 0) hJ hst ?_
            exact .same (exec_move 3 (.slice Ao m co) rfl (hk 3 (by kernel_rfl))) rfl
          · cases ho
            have h5 : A0.tmps[5]?.getD undef = .pointer (some ⟨bt, 0, none⟩) := hk 5 (by kernel_rfl)
            refine .newX (i := 1) hJ hst ?_
            exact .same (v := .pointer (some ⟨bt, 0, none⟩)) (by simp [go_sem, h5]) rfl
          · cases ho
            have h22 : A0.tmps[22]?.getD undef = .pointer (some ⟨bt, 0, none⟩) := hin 1 22 (by kernel_rfl)
            refine .newX (i := 2) hJ hst ?_
            have hc : W.cell? ⟨bt, 0, none⟩ = some (.string nm) := (HB3.out.chg hJ.1 (fun h => hne3 _ h rfl)).cell 0
            exact .same (v := .string nm) (by simp [go_sem, h22, hc]) rfl
          · cases ho
            have h5 : A0.tmps[5]?.getD undef = .pointer (some ⟨bt, 0, none⟩) := hk 5 (by kernel_rfl)
            refine .newX (i := 3) hJ hst ?_
            exact .same (v := .pointer (some ⟨bt, 1, none⟩)) (by simp [go_sem, h5]) rfl
          · cases ho
            have h24 : A0.tmps[24]?.getD undef = .pointer (some ⟨bt, 1, none⟩) := hin 3 24 (by kernel_rfl)
            refine .newX (i := 4) hJ hst ?_
            have hc : W.cell? ⟨bt, 1, none⟩ = some (.slice Aa us.length ca) := (HB3.out.chg hJ.1 (fun h => hne3 _ h rfl)).cell 1
            exact .same (v := .slice Aa us.length ca) (by simp [go_sem, h24, hc]) rfl
          · cases ho
            refine .newX (i := 5) hJ hst ?_
            exact .same (exec_move 0 (.slice (some a) n c) rfl (hk 0 (by kernel_rfl))) rfl
          · cases ho
            refine .newX (i := 6) hJ hst ?_
            exact .same (exec_move 4 (.int .i64 m) rfl (hk 4 (by kernel_rfl))) rfl
          · cases ho
            have h26 : A0.tmps[26]?.getD undef = .slice (some a) n c := hin 5 26 (by kernel_rfl)
            have h27 : A0.tmps[27]?.getD undef = .int .i64 m := hin 6 27 (by kernel_rfl)
            refine .newX (i := 7) hJ hst ?_
            exact .same (v := .pointer (some (a.add (m * 6)))) (by simp [go_sem, h26, h27, q0, q1, hlt]) rfl
          · cases ho
            have h28 : A0.tmps[28]?.getD undef = .pointer (some (a.add (m * 6))) := hin 7 28 (by kernel_rfl)
            refine .newX (i := 8) hJ hst ?_
            exact .same (v := .pointer (some ⟨a.block, a.off + (m * 6 + 2), none⟩)) (by simp [go_sem, h28, HA5.out, HA6.out, Nat.add_assoc]) rfl
          · cases ho
            have h29 : A0.tmps[29]?.getD undef = .pointer (some ⟨a.block, a.off + (m * 6 + 2), none⟩) := hin 8 29 (by kernel_rfl)
            refine .newX (i := 9) hJ hst ?_
            exact .same (v := .pointer (some ⟨a.block, a.off + (m * 6 + 5), none⟩)) (by simp [go_sem, h29, Nat.add_assoc]) rfl
          · cases ho
            have h30 : A0.tmps[30]?.getD undef = .pointer (some ⟨a.block, a.off + (m * 6 + 5), none⟩) := hin 9 30 (by kernel_rfl)
            refine .newX (i := 10) hJ hst ?_
            have hc : W.cell? ⟨a.block, a.off + (m * 6 + 5), none⟩ = some (.int .i64 (X (m * 6 + 5))) := by rw [← HA7.out]; exact hJ.1.cellS HC5.out (fun h => hneA _ h (by rw [HA7.out]))
            exact .same (v := .int .i64 (X (m * 6 + 5))) (by simp [go_sem, h30, hc]) rfl
          · cases ho
            have h31 : A0.tmps[31]?.getD undef = .int .i64 (X (m * 6 + 5)) := hin 10 31 (by kernel_rfl)
            refine .newX (i := 11) hJ hst ?_
            refine .enter (f := 17) (args := #[.int .i64 (X (m * 6 + 5)), .int .i64 9]) (v := .int .i64 p9) ?_ ((HPq.out W).mono ?_)
            · simp [go_sem, h31, eg2]
            · rintro e w' ⟨rfl, rfl⟩
              exact ⟨rfl, Chg.refl _ _, rfl⟩
          · cases ho
            have h23 : A0.tmps[23]?.getD undef = .string nm := hin 2 23 (by kernel_rfl)
            have h25 : A0.tmps[25]?.getD undef = .slice Aa us.length ca := hin 4 25 (by kernel_rfl)
            have h32 : A0.tmps[32]?.getD undef = .int .i64 p9 := hin 11 32 (by kernel_rfl)
            refine .newX (i := 12) hJ hst ?_
            exact .same (v := .agg #[.string nm, .slice Aa us.length ca, .int .i64 p9]) (by simp [go_sem, h23, h25, h32]) rfl
          · cases ho
            have h33 : A0.tmps[33]?.getD undef = .agg #[.string nm, .slice Aa us.length ca, .int .i64 p9] := hin 12 33 (by kernel_rfl)
            refine .newX (i := 13) hJ hst ?_
            exact .value (W' := W.alloc (.cells #[.string nm, .slice Aa us.length ca, .int .i64 p9] 45)) (v := .slice (some ⟨W.heap.size, 0, none⟩) 1 1) (by simp [go_sem, h33]) ⟨(Chg.refl _ _).alloc _, _, rfl, Blk.new _ _ _⟩
          · cases ho
            have h21 : A0.tmps[21]?.getD undef = .slice Ao m co := hin 0 21 (by kernel_rfl)
            have h34 := hin 13 34 (by kernel_rfl)
            obtain ⟨ro, eo, hb⟩ := h34
            have hbf : b = false := hμ rfl
            have hNn : New wd W := hJ.2 hbf
            obtain ⟨v1, W', hrun, hown, hchg, hblk⟩ := elRow.appendS (HOv2.out.chg hNn (fun _ _ x => x)) (Nat.le_trans hlw hJ.1.size) (some ⟨ro, 0, none⟩) 1 1 [[.string nm, .slice Aa us.length ca, .int .i64 p9]] rfl (fun cs hc => by simp only [List.mem_cons, List.not_mem_nil, or_false] at hc; subst hc; rfl) (fun cs hc u hu => by
              simp only [List.mem_cons, List.not_mem_nil, or_false] at hc
              subst hc
              simp only [List.mem_cons, List.not_mem_nil, or_false] at hu
              rcases hu with rfl | rfl | rfl <;> rfl) (fun _ => ⟨_, rfl, fun j cs hj => by
              match j, hj with
              | 0, hj => cases hj; exact ⟨rfl, by rw [Nat.zero_mul]; exact hb.at_⟩
              | j + 1, hj => simp at hj⟩) (by have := Hmm.out; omega) (by have := Hmm.out; unfold maxLen; omega) 29
            refine .value (exec_append _ _ _ _ rfl (by simpa [Act.eval] using h21) (by simpa [Act.eval] using eo) hrun) ⟨hJ.turn hchg (fun _ _ x => x), ⟨hown, fun k hk => (hblk k hk).imp id (fun h => Nat.le_trans hJ.1.size h)⟩, fun k u hki hkx hka hkb h => ?_⟩
            match k with
            | 13 => exact absurd rfl hkx
            | 14 => exact absurd rfl hki
            | 0 | 1 | 2 | 3 | 4 | 5 | 6 | 7 | 8 | 9 | 10 | 11 | 12 => exact h
            | _ + 15 => trivial
        obtain ⟨x21, x22, x23, x24, x25, x26, x27, x28, x29, x30, x31, x32, x33, x34, x35, rfl⟩ : ∃ x21 x22 x23 x24 x25 x26 x27 x28 x29 x30 x31 x32 x33 x34 x35, l = [x21, x22, x23, x24, x25, x26, x27, x28, x29, x30, x31, x32, x33, x34, x35] := by
          match l, hl with
          | [x21, x22, x23, x24, x25, x26, x27, x28, x29, x30, x31, x32, x33, x34, x35], _ => exact ⟨_, _, _, _, _, _, _, _, _, _, _, _, _, _, _, rfl⟩
        obtain rfl : x21 = .slice Ao m co := hΦ 0 (by decide) (by decide)
        obtain rfl : x22 = .pointer (some ⟨bt, 0, none⟩) := hΦ 1 (by decide) (by decide)
        obtain rfl : x23 = .string nm := hΦ 2 (by decide) (by decide)
        obtain rfl : x24 = .pointer (some ⟨bt, 1, none⟩) := hΦ 3 (by decide) (by decide)
        obtain rfl : x25 = .slice Aa us.length ca := hΦ 4 (by decide) (by decide)
        obtain rfl : x26 = .slice (some a) n c := hΦ 5 (by decide) (by decide)
        obtain rfl : x27 = .int .i64 m := hΦ 6 (by decide) (by decide)
        obtain rfl : x28 = .pointer (some (a.add (m * 6))) := hΦ 7 (by decide) (by decide)
        obtain rfl : x29 = .pointer (some ⟨a.block, a.off + (m * 6 + 2), none⟩) := hΦ 8 (by decide) (by decide)
        obtain rfl : x30 = .pointer (some ⟨a.block, a.off + (m * 6 + 5), none⟩) := hΦ 9 (by decide) (by decide)
        obtain rfl : x31 = .int .i64 (X (m * 6 + 5)) := hΦ 10 (by decide) (by decide)
        obtain rfl : x32 = .int .i64 p9 := hΦ 11 (by decide) (by decide)
        obtain rfl : x33 = .agg #[.string nm, .slice Aa us.length ca, .int .i64 p9] := hΦ 12 (by decide) (by decide)
        have hx35 : (fun v W => Own W w.heap.size 45 3 v (cso ++ [[.string nm, .slice Aa us.length ca, .int .i64 p9]]) ∧ ∀ k, v.ownBlock = some k → (Value.slice Ao m co).ownBlock = some k ∨ wd.heap.size ≤ k : Value → World → Prop) x35 W3 := hΦ 14 (by decide) (by decide)
        simp only [putsL, List.zip_cons_cons, List.zip_nil_left, List.zip_nil_right, List.zip, List.zipWith, Act.put, List.setIfInBounds_toArray, List.set_cons_succ, List.set_cons_zero]
        clear hΦ hl hst
        obtain ⟨hown, hblk⟩ := hx35
        have HOn := Lib.hid hown
        have hown' : OwnRow W3 w.heap.size [.string nm, .slice Aa us.length ca, .int .i64 p9] ⟨nm, us, p9⟩ (.slice Aa us.length ca) := ⟨rfl, by show us.length ≤ 1000; omega, ((HUo.out.base hwr).chg hJ.1 (fun g hg hg' => own_ne_own HOv2.out HUo.out (by decide) hg' hg))⟩
        have HRn := Lib.hid ((HRo2.out.chg HOv2.out (by decide) hJ.1).snoc hown')
        have HNn := Lib.hid (show New w W3 from HNd.out.trans hJ.1 (fun k hk h => absurd ((HOv2.out.lt h).1) (by omega)))
        have HGn := Lib.hid (show ∀ r ∈ rs ++ [⟨nm, us, p9⟩], Good r from fun r hr => (List.mem_append.1 hr).elim (HGd.out r) (fun h => by
          rw [List.mem_singleton.1 h]
          exact ⟨fun u hu => (HUc.out u hu).can, hu1, hu3, h90, h99, HUc.out, HUrel.out⟩))
        clear hown hblk hown' hJ HOv2 HRo2 HNd HUo HC5
        refine AtN.list 15 16 (by kernel_rfl) ?_
        change wpList _ _ _ [_] _ _
        go_wp2_with fail
        change AtN _ _ _ 16 _ _
        refine AtN.done rfl ?_
        go_wp2_with fail
        go_roundw
        case rel => exact ⟨m + 1, _, _, by omega, by omega, by go_num, by rw [List.length_append, HRl.out]; rfl, HOn.out, HRn.out, HGn.out, HNn.out⟩
        case measure => simp only [intOf]; omega
      · have l2 : decide ((m : Int) < 40) = false := by simp; omega
        go_wp2_with fail
        go_ret
        exact ⟨_, cso, rs, rfl, HOv.out, HRo.out, by have := HRl.out; omega, HGd.out, HNw.out⟩
    · have l1 : decide ((m : Int) < (n : Int)) = false := by simp; omega
      have l1' : decide (m < n) = false := by simpa using hlt
      go_wp2_with fail
      go_ret
      exact ⟨_, cso, rs, rfl, HOv.out, HRo.out, by have := HRl.out; omega, HGd.out, HNw.out⟩
end Go.Proofs.Ytfocjfnkcabbgaa
