/- Comparing: cmp.Compare[int], strings.Compare, value.Compare, slices.CompareFunc over values, fire.Compare; Comparing rows: fire.Compare, and what fire.Merge compares by. -/
import Derived.Test.YtfocjfnkcabbgaaApp
import Derived.Test.YtfocjfnkcabbgaaOrdP
import Derived.Laws.Externs
import Derived.KernelRfl
import Derived.Deep.CutRange
set_option linter.unusedVariables false
set_option linter.unusedSimpArgs false
namespace Go.Proofs.Ytfocjfnkcabbgaa
open Go.RowKit Go.Shelf

set_option maxHeartbeats 400000 in
theorem nan_int (x : Int) (w : World) : Calls Try.prog 44 #[.int .i64 x] w fun e w' => e = .returned (.bool false) ∧ w = w' := by
  go_enter Try.func44, Try.ntmps44
  go_wp2
  go_ret
  exact ⟨rfl, rfl⟩

set_option maxHeartbeats 1000000 in
theorem cmp_int (x y : Int) (w : World) : Calls Try.prog 33 #[.int .i64 x, .int .i64 y] w fun e w' => e = .returned (.int .i64 (cmpI x y)) ∧ w = w' := by
  unfold cmpI
  rcases Int.lt_trichotomy x y with h | h | h
  · rw [if_pos h]
    have hd : decide (x < y) = true := decide_eq_true h
    go_enter Try.func33, Try.ntmps33
    go_wp2_with (refine (nan_int _ _).mono ?_; rintro e w' ⟨rfl, rfl⟩)
    go_ret
    exact ⟨rfl, rfl⟩
  · subst h
    rw [if_neg (Int.lt_irrefl _), if_neg (Int.lt_irrefl _)]
    have hd : decide (x < x) = false := decide_eq_false (Int.lt_irrefl _)
    go_enter Try.func33, Try.ntmps33
    go_wp2_with (refine (nan_int _ _).mono ?_; rintro e w' ⟨rfl, rfl⟩)
    go_ret
    exact ⟨rfl, rfl⟩
  · rw [if_neg (by omega), if_pos h]
    have hd : decide (x < y) = false := decide_eq_false (by omega)
    have hd2 : decide (y < x) = true := decide_eq_true h
    go_enter Try.func33, Try.ntmps33
    go_wp2_with (refine (nan_int _ _).mono ?_; rintro e w' ⟨rfl, rfl⟩)
    go_ret
    exact ⟨rfl, rfl⟩

set_option maxHeartbeats 1000000 in
set_option maxRecDepth 100000 in
theorem cmp_bytes (a b : ByteArray) (w : World) : Calls Try.prog 42 #[.string a, .string b] w fun e w' => e = .returned (.int .i64 (cmpS a b)) ∧ w = w' := by
  unfold cmpS
  go_enter Try.func42, Try.ntmps42
  go_wp2
  rw [run_callFunc_extern Try.func52 (by kernel_rfl) (by kernel_rfl) (by kernel_rfl) (e := Extern.BytealgCompare.compare) (by kernel_rfl), Lib.run_compareString]
  simp only [Result.andThen]
  rw [Oper.upon_value]
  go_wp2
  go_ret
  exact ⟨rfl, rfl⟩

set_option maxHeartbeats 1000000 in
theorem cmp_str (a b : ByteArray) (w : World) : Calls Try.prog 24 #[.string a, .string b] w fun e w' => e = .returned (.int .i64 (cmpS a b)) ∧ w = w' := by
  go_enter Try.func24, Try.ntmps24
  go_wp2_with (refine (cmp_bytes _ _ _).mono ?_; rintro e w' ⟨rfl, rfl⟩)
  go_ret
  exact ⟨rfl, rfl⟩

def vcs (v : Vl) : List Value := [.int .i64 v.k, .int .i64 v.i, .string v.t, .slice none 0 0]
def vval (v : Vl) : Value := .agg #[.int .i64 v.k, .int .i64 v.i, .string v.t, .slice none 0 0]

set_option maxHeartbeats 1000000 in
set_option maxRecDepth 100000 in
theorem cmp_nil (w : World) (v : Value) : Calls Try.prog 25 #[.slice none 0 0, .slice none 0 0, v] w fun e w' => e = .returned (.int .i64 0) ∧ w = w' := by
  go_enter Try.func25, Try.ntmps25
  go_wp2
  refine wp_loop_rounds 1 ?_
  rw [rounds_succ]
  go_wp2
  go_ret
  exact ⟨rfl, rfl⟩

set_option maxHeartbeats 4000000 in
set_option maxRecDepth 100000 in
theorem cmp_val (a b : Vl) (w : World) : Calls Try.prog 26 #[.agg #[.int .i64 a.k, .int .i64 a.i, .string a.t, .slice none 0 0], .agg #[.int .i64 b.k, .int .i64 b.i, .string b.t, .slice none 0 0]] w fun e w' => e = .returned (.int .i64 (cmpV a b)) ∧ New w w' := by
  have hN : New w ((w.alloc (.cells #[.int .i64 a.k, .int .i64 a.i, .string a.t, .slice none 0 0] 37)).alloc (.cells #[.int .i64 b.k, .int .i64 b.i, .string b.t, .slice none 0 0] 37)) := ((Chg.refl w _).alloc _).alloc _
  rw [cmpV_def]
  obtain ⟨c, hc⟩ : ∃ c, cmpI a.k b.k = c := ⟨_, rfl⟩
  have hci := fun W => cmp_int a.k b.k W
  rw [hc] at hci ⊢
  have HN := Lib.hid hN
  have Hci := Lib.hid hci
  clear hN hci hc
  by_cases h0 : c = 0
  · subst h0
    rw [if_pos rfl]
    have hii := Lib.hid (fun W => cmp_int a.i b.i W)
    have hss := Lib.hid (fun W => cmp_str a.t b.t W)
    by_cases h1 : a.k = 1
    · rw [if_pos h1]
      have e1 : (a.k == 1) = true := by rw [beq_iff_eq]; exact h1
      clear h1
      go_enter Try.func26, Try.ntmps26
      go_wp2_with (go_at_call 33; first | (with_reducible refine (Hci.out _).mono ?_; rintro e w' ⟨rfl, rfl⟩) | (with_reducible refine (hii.out _).mono ?_; rintro e w' ⟨rfl, rfl⟩))
      go_ret
      exact ⟨rfl, HN.out⟩
    · rw [if_neg h1]
      have e1 : (a.k == 1) = false := by rw [beq_eq_false_iff_ne]; exact h1
      by_cases h23 : a.k = 2 ∨ a.k = 3
      · rw [if_pos h23]
        rcases h23 with h2 | h2
        · have e2 : (a.k == 2) = true := by rw [beq_iff_eq]; exact h2
          clear h1 h2
          go_enter Try.func26, Try.ntmps26
          go_wp2_with (first | (go_at_call 33; with_reducible refine (Hci.out _).mono ?_; rintro e w' ⟨rfl, rfl⟩) | (go_at_call 24; with_reducible refine (hss.out _).mono ?_; rintro e w' ⟨rfl, rfl⟩))
          go_ret
          exact ⟨rfl, HN.out⟩
        · have e2 : (a.k == 2) = false := by rw [beq_eq_false_iff_ne]; omega
          have e3 : (a.k == 3) = true := by rw [beq_iff_eq]; exact h2
          clear h1 h2
          go_enter Try.func26, Try.ntmps26
          go_wp2_with (first | (go_at_call 33; with_reducible refine (Hci.out _).mono ?_; rintro e w' ⟨rfl, rfl⟩) | (go_at_call 24; with_reducible refine (hss.out _).mono ?_; rintro e w' ⟨rfl, rfl⟩))
          go_ret
          exact ⟨rfl, HN.out⟩
      · rw [if_neg h23]
        have e2 : (a.k == 2) = false := by rw [beq_eq_false_iff_ne]; omega
        have e3 : (a.k == 3) = false := by rw [beq_eq_false_iff_ne]; omega
        have hnil := Lib.hid (fun W v => cmp_nil W v)
        by_cases h4 : a.k = 4
        · have e4 : (a.k == 4) = true := by rw [beq_iff_eq]; exact h4
          clear h1 h4 h23
          go_enter Try.func26, Try.ntmps26
          go_wp2_with (first | (go_at_call 33; with_reducible refine (Hci.out _).mono ?_; rintro e w' ⟨rfl, rfl⟩) | (refine (hnil.out _ _).mono ?_; rintro e w' ⟨rfl, rfl⟩))
          go_ret
          exact ⟨rfl, HN.out⟩
        · have e4 : (a.k == 4) = false := by rw [beq_eq_false_iff_ne]; exact h4
          clear h1 h4 h23
          go_enter Try.func26, Try.ntmps26
          go_wp2_with (go_at_call 33; with_reducible refine (Hci.out _).mono ?_; rintro e w' ⟨rfl, rfl⟩)
          go_ret
          exact ⟨rfl, HN.out⟩
  · rw [if_neg h0]
    have e0 : (c == 0) = false := by rw [beq_eq_false_iff_ne]; exact h0
    clear h0
    go_enter Try.func26, Try.ntmps26
    go_wp2_with (go_at_call 33; with_reducible refine (Hci.out _).mono ?_; rintro e w' ⟨rfl, rfl⟩)
    go_ret
    exact ⟨rfl, HN.out⟩
theorem stVal4 : StT Try.prog 37 4 := stValue
theorem cmpL_drop {α : Type} {c : α → α → Int} {us vs : List α} {k : Nat} {x y : α} (hx : us[k]? = some x) (hy : vs[k]? = some y) : cmpL c (us.drop k) (vs.drop k) = if c x y = 0 then cmpL c (us.drop (k + 1)) (vs.drop (k + 1)) else c x y := by
  obtain ⟨h1, rfl⟩ := List.getElem?_eq_some_iff.1 hx
  obtain ⟨h2, rfl⟩ := List.getElem?_eq_some_iff.1 hy
  rw [List.drop_eq_getElem_cons h1, List.drop_eq_getElem_cons h2, cmpL]

set_option maxHeartbeats 4000000 in
set_option maxRecDepth 100000 in
theorem cmp_vals (w : World) (A : Option Addr) (n c : Nat) (B : Option Addr) (m d : Nat) (us vs : List Vl) (hn : n = us.length) (hm : m = vs.length) (hnb : n ≤ 1000000) (hmb : m ≤ 1000000) (hA : SrcAt w A 4 (us.map vcs)) (hB : SrcAt w B 4 (vs.map vcs)) :
    Calls Try.prog 25 #[.slice A n c, .slice B m d, .func (.func 26) #[] #[]] w fun e w' => e = .returned (.int .i64 (cmpL cmpV us vs)) ∧ New w w' := by
  have eg := enters_of Try.func26 (by kernel_rfl) rfl
  unfold Enters at eg
  obtain ⟨R, hR⟩ : ∃ R, cmpL cmpV us vs = R := ⟨_, rfl⟩
  rw [hR]
  have HA := Lib.hid hA
  have HB := Lib.hid hB
  have HN := Lib.hid hn
  have HM := Lib.hid hm
  have HR := Lib.hid hR
  clear hA hB hn hm hR
  go_enter Try.func25, Try.ntmps25
  go_wp2_with fail
  go_loopw [13] (fun u13 wr => ∃ k : Nat, k ≤ n ∧ k ≤ m ∧ u13 = .int .i64 k ∧ New w wr ∧ cmpL cmpV (us.drop k) (vs.drop k) = R) (fun u _ => n - (intOf u).toNat)
  case atStart => exact ⟨0, Nat.zero_le _, Nat.zero_le _, rfl, Chg.refl _ _, by rw [List.drop_zero, List.drop_zero]; exact HR.out⟩
  case round =>
    obtain ⟨k, hkn, hkm, rfl, hN, hr⟩ := hrel
    have HNw := Lib.hid hN
    have Hr := Lib.hid hr
    clear hN hr
    by_cases hlt : k < n
    · obtain ⟨x, hx⟩ : ∃ x, us[k]? = some x := ⟨_, List.getElem?_eq_getElem (by rw [← HN.out]; exact hlt)⟩
      obtain ⟨ad, rfl, hrA⟩ := HA.out (by rw [List.length_map, ← HN.out]; omega)
      have hat := (hrA k (vcs x) (by rw [List.getElem?_map, hx]; rfl)).2.chg HNw.out id
      change At _ _ [.int .i64 x.k, .int .i64 x.i, .string x.t, .slice none 0 0] at hat
      have Hat := Lib.hid hat
      have Hx := Lib.hid hx
      clear hat hx hrA
      have k0 : (0 : Int) ≤ (k : Int) := by omega
      have k1 : (k : Int) < (n : Int) := by omega
      by_cases hlm : k < m
      · obtain ⟨y, hy⟩ : ∃ y, vs[k]? = some y := ⟨_, List.getElem?_eq_getElem (by rw [← HM.out]; exact hlm)⟩
        obtain ⟨bd, rfl, hrB⟩ := HB.out (by rw [List.length_map, ← HM.out]; omega)
        obtain ⟨w1, hw1⟩ : ∃ w1, w1 = wr.alloc (.cells #[.int .i64 x.k, .int .i64 x.i, .string x.t, .slice none 0 0] 37) := ⟨_, rfl⟩
        have hN1 : New wr w1 := by rw [hw1]; exact (Chg.refl _ _).alloc _
        have hB1 : Blk w1 wr.heap.size 37 #[.int .i64 x.k, .int .i64 x.i, .string x.t, .slice none 0 0] := by rw [hw1]; exact Blk.new wr _ _
        have hbt := ((hrB k (vcs y) (by rw [List.getElem?_map, hy]; rfl)).2.chg HNw.out id).chg hN1 id
        change At _ _ [.int .i64 y.k, .int .i64 y.i, .string y.t, .slice none 0 0] at hbt
        obtain ⟨w2, hw2⟩ : ∃ w2, w2 = w1.alloc (.cells #[.int .i64 y.k, .int .i64 y.i, .string y.t, .slice none 0 0] 37) := ⟨_, rfl⟩
        have hN2 : New w1 w2 := by rw [hw2]; exact (Chg.refl _ _).alloc _
        have hB2 : Blk w2 w1.heap.size 37 #[.int .i64 y.k, .int .i64 y.i, .string y.t, .slice none 0 0] := by rw [hw2]; exact Blk.new w1 _ _
        have HB1 := Lib.hid (show At w2 ⟨wr.heap.size, 0, none⟩ [.int .i64 x.k, .int .i64 x.i, .string x.t, .slice none 0 0] from (hB1.chg hN2 id).at_)
        have HB2 := Lib.hid (show At w2 ⟨w1.heap.size, 0, none⟩ [.int .i64 y.k, .int .i64 y.i, .string y.t, .slice none 0 0] from hB2.at_)
        have HNn := Lib.hid ((HNw.out.trans hN1 (fun _ _ x => x)).trans hN2 (fun _ _ x => x))
        have Hy := Lib.hid hy
        have Hbt := Lib.hid hbt
        have HW1 := Lib.hid hw1
        have HW2 := Lib.hid hw2
        have k2 : (k : Int) < (m : Int) := by omega
        obtain ⟨q, hq⟩ : ∃ q, cmpV x y = q := ⟨_, rfl⟩
        have hcv := cmp_val x y w2
        rw [hq] at hcv
        have Hcv := Lib.hid hcv
        have Hq := Lib.hid hq
        clear hy hrB hN1 hB1 hbt hN2 hB2 hw1 hw2 hq hcv
        go_upto_region 6 with ((with_reducible refine wpl_load rfl (.tmp 16) 37 rfl stVal4 (ad.add (k * 4)) [.int .i64 x.k, .int .i64 x.i, .string x.t, .slice none 0 0] ?_ rfl Hat.out ?_); exact rfl)
        rw [← HW1.out]
        go_upto_region 7 with ((with_reducible refine wpl_load rfl (.tmp 24) 37 rfl stVal4 (bd.add (k * 4)) [.int .i64 y.k, .int .i64 y.i, .string y.t, .slice none 0 0] ?_ rfl Hbt.out ?_); exact rfl)
        rw [← HW2.out]
        go_wp2_with (first | ((with_reducible refine wpl_load rfl (.tmp 8) 37 rfl stVal4 ⟨wr.heap.size, 0, none⟩ [.int .i64 x.k, .int .i64 x.i, .string x.t, .slice none 0 0] ?_ rfl HB1.out ?_); exact rfl) | ((with_reducible refine wpl_load rfl (.tmp 9) 37 rfl stVal4 ⟨w1.heap.size, 0, none⟩ [.int .i64 y.k, .int .i64 y.i, .string y.t, .slice none 0 0] ?_ rfl HB2.out ?_); exact rfl))
        refine Hcv.out.mono ?_
        rintro e W ⟨rfl, hN3⟩
        have HN3 := Lib.hid (HNn.out.trans hN3 (fun _ _ x => x))
        have hdr := Lib.hid ((cmpL_drop (c := cmpV) Hx.out Hy.out).symm.trans Hr.out)
        clear hN3
        by_cases hz : q = 0
        · have e0 : (q == 0) = true := by rw [beq_iff_eq]; exact hz
          have HR2 := Lib.hid (show cmpL cmpV (us.drop (k + 1)) (vs.drop (k + 1)) = R by have := hdr.out; rw [Hq.out, if_pos hz] at this; exact this)
          clear hz
          go_wp2_with fail
          go_roundw
          case rel => exact ⟨k + 1, by omega, by omega, by go_num, HN3.out, HR2.out⟩
          case measure => simp only [intOf]; omega
        · have e0 : (q == 0) = false := by rw [beq_eq_false_iff_ne]; exact hz
          have HR2 := Lib.hid (show q = R by have := hdr.out; rw [Hq.out, if_neg hz] at this; exact this)
          clear hz
          go_wp2_with fail
          go_ret
          exact ⟨congrArg (fun z => Ending.returned (.int .i64 z)) HR2.out, HN3.out⟩
      · have k2 : decide ((k : Int) < (m : Int)) = false := decide_eq_false (by omega)
        have k3 : decide ((m : Int) ≤ (k : Int)) = true := decide_eq_true (by omega)
        have HR2 := Lib.hid (show (1 : Int) = R by
          have := Hr.out
          obtain ⟨h1, he⟩ := List.getElem?_eq_some_iff.1 Hx.out
          rw [List.drop_eq_getElem_cons h1, show vs.drop k = [] from List.drop_of_length_le (by rw [← HM.out]; omega)] at this
          exact this)
        have HN1 := Lib.hid (HNw.out.alloc (.cells #[.int .i64 x.k, .int .i64 x.i, .string x.t, .slice none 0 0] 37))
        go_wp2_with ((with_reducible refine wpl_load rfl (.tmp 16) 37 rfl stVal4 (ad.add (k * 4)) [.int .i64 x.k, .int .i64 x.i, .string x.t, .slice none 0 0] ?_ rfl Hat.out ?_); exact rfl)
        go_ret
        exact ⟨congrArg (fun z => Ending.returned (.int .i64 z)) HR2.out, HN1.out⟩
    · obtain rfl : k = n := by omega
      by_cases hlm : k < m
      · have k3 : decide ((k : Int) < (m : Int)) = true := decide_eq_true (by omega)
        have HR2 := Lib.hid (show (-1 : Int) = R by
          have := Hr.out
          rw [show us.drop k = [] from List.drop_of_length_le (by rw [← HN.out]; omega), List.drop_eq_getElem_cons (l := vs) (by rw [← HM.out]; exact hlm)] at this
          exact this)
        go_wp2_with fail
        go_ret
        exact ⟨congrArg (fun z => Ending.returned (.int .i64 z)) HR2.out, HNw.out⟩
      · have k3 : decide ((k : Int) < (m : Int)) = false := decide_eq_false (by omega)
        have HR2 := Lib.hid (show (0 : Int) = R by
          have := Hr.out
          rw [show us.drop k = [] from List.drop_of_length_le (by rw [← HN.out]; omega), show vs.drop k = [] from List.drop_of_length_le (by rw [← HM.out]; omega)] at this
          exact this)
        go_wp2_with fail
        go_ret
        exact ⟨congrArg (fun z => Ending.returned (.int .i64 z)) HR2.out, HNw.out⟩
end Go.Proofs.Ytfocjfnkcabbgaa

set_option linter.unusedVariables false
set_option linter.unusedSimpArgs false
namespace Go.Proofs.Ytfocjfnkcabbgaa
open Go.RowKit Go.Shelf

/-- A row's cells, its arguments where they lie. -/
def RowAt (w : World) (cs : List Value) (r : Rw) : Prop := ∃ A c, cs = [.string r.name, .slice A r.args.length c, .int .i64 r.stamp] ∧ r.args.length ≤ 1000 ∧ r.args.length ≤ c ∧ c ≤ maxLen ∧ SrcAt w A 4 (r.args.map vcs) ∧ ∀ a, A = some a → a.block < w.heap.size
theorem RowAt.chg {w w' : World} {cs : List Value} {r : Rw} (h : RowAt w cs r) (hc : New w w') : RowAt w' cs r := by
  obtain ⟨A, c, h1, h2, h3, h4, h5, h6⟩ := h
  exact ⟨A, c, h1, h2, h3, h4, h5.chg hc (fun _ _ x => x), fun a ha => Nat.lt_of_lt_of_le (h6 a ha) hc.size⟩
theorem RowAt.cs {w : World} {cs : List Value} {r : Rw} (h : RowAt w cs r) : rowCs cs := by
  obtain ⟨A, c, rfl, _⟩ := h
  exact ⟨rfl, fun u hu => by
    simp only [List.mem_cons, List.not_mem_nil, or_false] at hu
    rcases hu with rfl | rfl | rfl <;> rfl⟩
theorem vcs_inj {a b : Vl} (h : vcs a = vcs b) : a = b := by
  cases a; cases b
  simp only [vcs, List.cons.injEq, Value.int.injEq, Value.string.injEq, true_and, and_true] at h
  obtain ⟨rfl, rfl, rfl⟩ := h
  rfl
theorem vcs_len (vs : List Vl) : ∀ cs ∈ vs.map vcs, cs.length = 4 := by
  intro cs h
  obtain ⟨v, _, rfl⟩ := List.mem_map.1 h
  rfl
theorem vcs_one (vs : List Vl) : ∀ cs ∈ vs.map vcs, ∀ u ∈ cs, u.oneCell' = true := by
  intro cs h u hu
  obtain ⟨v, _, rfl⟩ := List.mem_map.1 h
  simp only [vcs, List.mem_cons, List.not_mem_nil, or_false] at hu
  rcases hu with rfl | rfl | rfl | rfl <;> rfl
theorem src_uniq {w : World} {A : Option Addr} {us vs : List Vl} (hl : us.length = vs.length) (h : SrcAt w A 4 (us.map vcs)) (h' : SrcAt w A 4 (vs.map vcs)) : us = vs := by
  apply List.ext_getElem hl
  intro i h1 h2
  obtain ⟨a, rfl, hr⟩ := h (by rw [List.length_map]; omega)
  obtain ⟨a', ha, hr'⟩ := h' (by rw [List.length_map]; omega)
  obtain rfl := Option.some.inj ha
  have g1 := (hr i (vcs us[i]) (by rw [List.getElem?_map, List.getElem?_eq_getElem h1]; rfl)).2
  have g2 := (hr' i (vcs vs[i]) (by rw [List.getElem?_map, List.getElem?_eq_getElem h2]; rfl)).2
  refine vcs_inj (List.ext_getElem rfl fun j j1 j2 => ?_)
  have e1 := g1 j _ (List.getElem?_eq_getElem j1)
  have e2 := g2 j _ (List.getElem?_eq_getElem j2)
  rw [e1] at e2
  exact Option.some.inj e2
theorem RowAt.uniq {w : World} {cs : List Value} {r s : Rw} (h : RowAt w cs r) (h' : RowAt w cs s) : r = s := by
  obtain ⟨A, c, h1, h2, h3, h4, h5, h6⟩ := h
  obtain ⟨A', c', h1', h2', h3', h4', h5', h6'⟩ := h'
  rw [h1] at h1'
  simp only [List.cons.injEq, Value.string.injEq, Value.slice.injEq, Value.int.injEq, true_and, and_true] at h1'
  obtain ⟨e1, ⟨rfl, e2, rfl⟩, e3⟩ := h1'
  have := src_uniq e2 h5 h5'
  cases r; cases s
  simp_all
open Classical in
/-- The row that cells tell of. -/
noncomputable def rowOf (w : World) (cs : List Value) : Rw := if h : ∃ r, RowAt w cs r then Classical.choose h else ⟨⟨#[]⟩, [], 0⟩
theorem RowAt.of {w : World} {cs : List Value} {r : Rw} (h : RowAt w cs r) : rowOf w cs = r := by
  unfold rowOf
  rw [dif_pos ⟨r, h⟩]
  exact (Classical.choose_spec (p := fun r => RowAt w cs r) ⟨r, h⟩).uniq h

set_option maxHeartbeats 4000000 in
set_option maxRecDepth 100000 in
theorem cmp_row (w : World) (x y : List Value) (r s : Rw) (hx : RowAt w x r) (hy : RowAt w y s) :
    Calls Try.prog 12 #[.agg x.toArray, .agg y.toArray] w fun e w' => e = .returned (.int .i64 (cmpR r s)) ∧ New w w' := by
  obtain ⟨A, c, rfl, h2, h3, h4, h5, h6⟩ := hx
  obtain ⟨B, d, rfl, g2, g3, g4, g5, g6⟩ := hy
  obtain ⟨w1, hw1⟩ : ∃ w1, w1 = (w.alloc (.cells #[.string r.name, .slice A r.args.length c, .int .i64 r.stamp] 45)).alloc (.cells #[.string s.name, .slice B s.args.length d, .int .i64 s.stamp] 45) := ⟨_, rfl⟩
  have hN : New w w1 := by rw [hw1]; exact ((Chg.refl w _).alloc _).alloc _
  have hcv := cmp_vals w1 A r.args.length c B s.args.length d r.args s.args rfl rfl (by omega) (by omega) (h5.chg hN (fun _ _ x => x)) (g5.chg hN (fun _ _ x => x))
  obtain ⟨q, hq⟩ : ∃ q, cmpS r.name s.name = q := ⟨_, rfl⟩
  have hcs := cmp_str r.name s.name w1
  rw [show cmpR r s = if cmpS r.name s.name = 0 then cmpL cmpV r.args s.args else cmpS r.name s.name from rfl]
  rw [hq] at hcs ⊢
  rw [hw1] at hcv hcs
  have HN := Lib.hid hN
  have HW := Lib.hid hw1
  have Hcv := Lib.hid hcv
  have Hcs := Lib.hid hcs
  clear hN hcv hcs hw1 hq h5 g5 h6 g6
  by_cases hz : q = 0
  · have e0 : (q == 0) = true := by rw [beq_iff_eq]; exact hz
    rw [if_pos hz]
    clear hz
    go_enter Try.func12, Try.ntmps12
    go_wp2_with (go_at_call 24; refine Hcs.out.mono ?_; rintro e w' ⟨rfl, rfl⟩)
    refine Hcv.out.mono ?_
    rintro e w' ⟨rfl, hc⟩
    have Hc := Lib.hid hc
    clear hc
    go_wp2_with fail
    go_ret
    exact ⟨rfl, HN.out.trans (by rw [HW.out]; exact Hc.out) (fun _ _ x => x)⟩
  · have e0 : (q == 0) = false := by rw [beq_eq_false_iff_ne]; exact hz
    rw [if_neg hz]
    clear hz
    go_enter Try.func12, Try.ntmps12
    go_wp2_with (go_at_call 24; refine Hcs.out.mono ?_; rintro e w' ⟨rfl, rfl⟩)
    go_ret
    exact ⟨rfl, by rw [← HW.out]; exact HN.out⟩

set_option maxHeartbeats 4000000 in
set_option maxRecDepth 100000 in
theorem cmp_mrg (w : World) (x y : List Value) (r s : Rw) (hx : RowAt w x r) (hy : RowAt w y s) :
    Calls Try.prog 32 #[.agg x.toArray, .agg y.toArray] w fun e w' => e = .returned (.int .i64 (cmpM r s)) ∧ New w w' := by
  obtain ⟨w1, hw1⟩ : ∃ w1, w1 = (w.alloc (.cells x.toArray 45)).alloc (.cells y.toArray 45) := ⟨_, rfl⟩
  have hN : New w w1 := by rw [hw1]; exact ((Chg.refl w _).alloc _).alloc _
  have hcr := cmp_row w1 x y r s (hx.chg hN) (hy.chg hN)
  obtain ⟨A, c, rfl, h2, h3, h4, h5, h6⟩ := hx
  obtain ⟨B, d, rfl, g2, g3, g4, g5, g6⟩ := hy
  obtain ⟨q, hq⟩ : ∃ q, cmpR r s = q := ⟨_, rfl⟩
  rw [show cmpM r s = if cmpR r s = 0 then cmpI s.stamp r.stamp else cmpR r s from rfl]
  rw [hq] at hcr ⊢
  obtain ⟨R, hR⟩ : ∃ R, (if q = 0 then cmpI s.stamp r.stamp else q) = R := ⟨_, rfl⟩
  rw [hR]
  have HR := Lib.hid hR
  clear hR
  have hB1 : Blk w1 w.heap.size 45 #[.string r.name, .slice A r.args.length c, .int .i64 r.stamp] := by rw [hw1]; exact (Blk.new w _ _).alloc _
  have hB2 : Blk w1 (w.heap.size + 1) 45 #[.string s.name, .slice B s.args.length d, .int .i64 s.stamp] := by
    have := Blk.new (w.alloc (.cells #[.string r.name, .slice A r.args.length c, .int .i64 r.stamp] 45)) 45 #[.string s.name, .slice B s.args.length d, .int .i64 s.stamp]
    rw [World.size_alloc] at this
    rw [hw1]
    exact this
  have hci := fun W => cmp_int s.stamp r.stamp W
  have HB1 := Lib.hid hB1
  have HB2 := Lib.hid hB2
  have HN := Lib.hid hN
  have HW := Lib.hid hw1
  have Hcr := Lib.hid hcr
  have Hci := Lib.hid hci
  clear hN hcr hw1 hq h5 g5 h6 g6 hci hB1 hB2
  go_enter Try.func32, Try.ntmps32
  go_wp2_with fail
  rw [← HW.out]
  refine Hcr.out.mono ?_
  rintro e W ⟨rfl, hc⟩
  have e2 := (HB1.out.chg hc id).cell 2
  have f2 := (HB2.out.chg hc id).cell 2
  simp only [List.getElem?_toArray, List.getElem?_cons_zero, List.getElem?_cons_succ] at e2 f2
  have HNw := Lib.hid (HN.out.trans hc (fun _ _ x => x))
  clear hc
  by_cases hz : q = 0
  · have e0 : (q == 0) = true := by rw [beq_iff_eq]; exact hz
    have HR2 := Lib.hid (show cmpI s.stamp r.stamp = R by have := HR.out; rw [if_pos hz] at this; exact this)
    clear hz
    go_wp2_with (go_at_call 33; refine (Hci.out _).mono ?_; rintro e w' ⟨rfl, rfl⟩)
    go_ret
    exact ⟨congrArg (fun z => Ending.returned (.int .i64 z)) HR2.out, HNw.out⟩
  · have e0 : (q == 0) = false := by rw [beq_eq_false_iff_ne]; exact hz
    have HR2 := Lib.hid (show q = R by have := HR.out; rw [if_neg hz] at this; exact this)
    clear hz
    go_wp2_with fail
    go_ret
    exact ⟨congrArg (fun z => Ending.returned (.int .i64 z)) HR2.out, HNw.out⟩

set_option maxHeartbeats 4000000 in
set_option maxRecDepth 100000 in
theorem eq_mrg (w : World) (x y : List Value) (r s : Rw) (hx : RowAt w x r) (hy : RowAt w y s) :
    Calls Try.prog 35 #[.agg x.toArray, .agg y.toArray] w fun e w' => e = .returned (.bool (decide (cmpR r s = 0))) ∧ New w w' := by
  obtain ⟨w1, hw1⟩ : ∃ w1, w1 = (w.alloc (.cells x.toArray 45)).alloc (.cells y.toArray 45) := ⟨_, rfl⟩
  have hN : New w w1 := by rw [hw1]; exact ((Chg.refl w _).alloc _).alloc _
  have hcr := cmp_row w1 x y r s (hx.chg hN) (hy.chg hN)
  obtain ⟨A, c, rfl, h2, h3, h4, h5, h6⟩ := hx
  obtain ⟨B, d, rfl, g2, g3, g4, g5, g6⟩ := hy
  obtain ⟨q, hq⟩ : ∃ q, cmpR r s = q := ⟨_, rfl⟩
  rw [hq] at hcr ⊢
  have HN := Lib.hid hN
  have HW := Lib.hid hw1
  have Hcr := Lib.hid hcr
  clear hN hcr hw1 hq h5 g5 h6 g6
  obtain ⟨b, hb⟩ : ∃ b, decide (q = 0) = b := ⟨_, rfl⟩
  have hb2 : (q == 0) = b := by rw [← hb]; rfl
  rw [hb]
  clear hb
  go_enter Try.func35, Try.ntmps35
  go_wp2_with fail
  rw [← HW.out]
  refine Hcr.out.mono ?_
  rintro e W ⟨rfl, hc⟩
  have HNw := Lib.hid (HN.out.trans hc (fun _ _ x => x))
  clear hc
  go_wp2_with fail
  go_ret
  exact ⟨rfl, HNw.out⟩
end Go.Proofs.Ytfocjfnkcabbgaa
