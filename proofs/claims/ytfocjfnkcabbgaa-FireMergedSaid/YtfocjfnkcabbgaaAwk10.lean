/- awake of layer 10. -/
import Derived.Test.YtfocjfnkcabbgaaAwk10a
set_option linter.unusedVariables false
set_option linter.unusedSimpArgs false
namespace Go.Proofs.Ytfocjfnkcabbgaa
open Go.RowKit Go.Shelf

set_option maxHeartbeats 8000000 in
set_option maxRecDepth 100000 in
theorem awake10 (w : World) : Calls Try.prog 4 #[] w fun e w' => e = .returned (.bool true) ∧ New w w' := by
  go_enter Try.func4, Try.ntmps4
  go_upto_region 4 with fail
  obtain ⟨w1, hw1⟩ : ∃ w1, w1 = w.alloc (.cells #[.int .i64 3, .int .i64 0, .string ⟨#[97]⟩, .slice none 0 0] 37) := ⟨_, rfl⟩
  have hn1 : New w w1 := by rw [hw1]; exact (Chg.refl _ _).alloc _
  have hba : Blk w1 w.heap.size 37 #[.int .i64 3, .int .i64 0, .string ⟨#[97]⟩, .slice none 0 0] := by rw [hw1]; exact Blk.new _ _ _
  rw [← hw1]
  obtain ⟨ba, hb⟩ : ∃ b, w.heap.size = b := ⟨_, rfl⟩
  rw [hb] at hba ⊢
  have HN1 := Lib.hid hn1
  have HBa := Lib.hid hba
  clear hw1 hn1 hba hb
  go_upto_region 5 with first
    | (go_at_call 10; refine (awk_var _ _).mono ?_; rintro e w2 ⟨rfl, hN2⟩; have HN2 := Lib.hid hN2; clear hN2)
    | (go_at_call 11; refine (awk_num _ _).mono ?_; rintro e w3 ⟨rfl, hN3⟩; have HN3 := Lib.hid (HN2.out.trans hN3 (fun _ _ x => x)); clear hN3)
  obtain ⟨w5, hw5⟩ : ∃ w5, w5 = (w3.alloc (.cells #[.int .i64 1, .string ⟨#[88]⟩, .int .i64 0, .int .i64 0, .string ⟨#[]⟩, .slice none 0 0, .slice none 0 0, .int .i64 2, .string ⟨#[]⟩, .int .i64 1, .int .i64 1, .string ⟨#[]⟩, .slice none 0 0, .slice none 0 0] 39)).alloc (.cells #[.int .i64 4, .string ⟨#[43]⟩, .int .i64 0, .int .i64 0, .string ⟨#[]⟩, .slice none 0 0, .slice (some ⟨w3.heap.size, 0, none⟩) 2 2] 39) := ⟨_, rfl⟩
  have hn5 : New w3 w5 := by rw [hw5]; exact ((Chg.refl _ _).alloc _).alloc _
  have hbs : Blk w5 w3.heap.size 39 #[.int .i64 1, .string ⟨#[88]⟩, .int .i64 0, .int .i64 0, .string ⟨#[]⟩, .slice none 0 0, .slice none 0 0, .int .i64 2, .string ⟨#[]⟩, .int .i64 1, .int .i64 1, .string ⟨#[]⟩, .slice none 0 0, .slice none 0 0] := by rw [hw5]; exact (Blk.new _ _ _).alloc _
  have hbt : Blk w5 (w3.heap.size + 1) 39 #[.int .i64 4, .string ⟨#[43]⟩, .int .i64 0, .int .i64 0, .string ⟨#[]⟩, .slice none 0 0, .slice (some ⟨w3.heap.size, 0, none⟩) 2 2] := by
    rw [hw5]
    have := Blk.new (w3.alloc (.cells #[.int .i64 1, .string ⟨#[88]⟩, .int .i64 0, .int .i64 0, .string ⟨#[]⟩, .slice none 0 0, .slice none 0 0, .int .i64 2, .string ⟨#[]⟩, .int .i64 1, .int .i64 1, .string ⟨#[]⟩, .slice none 0 0, .slice none 0 0] 39)) 39 #[.int .i64 4, .string ⟨#[43]⟩, .int .i64 0, .int .i64 0, .string ⟨#[]⟩, .slice none 0 0, .slice (some ⟨w3.heap.size, 0, none⟩) 2 2]
    rwa [World.size_alloc] at this
  rw [← hw5]
  obtain ⟨bs, hbs'⟩ : ∃ b, w3.heap.size = b := ⟨_, rfl⟩
  obtain ⟨bt, hbt'⟩ : ∃ b, bs + 1 = b := ⟨_, rfl⟩
  rw [hbs'] at hbs hbt ⊢
  rw [hbt'] at hbt ⊢
  refine wp_region_at (by kernel_rfl) ?_
  have hnd : New w3 w5.drew := hn5.drew
  have DN := Lib.hid ((HN1.out.trans HN3.out (fun _ _ x => x)).trans hnd (fun _ _ x => x))
  have DA := Lib.hid (HBa.out.chg (HN3.out.trans hnd (fun _ _ x => x)) id)
  have DS := Lib.hid (show Blk w5.drew _ _ _ from hbs)
  have DT := Lib.hid (show Blk w5.drew _ _ _ from hbt)
  clear hw5 hn5 hbs hbt hbs' hbt' hnd HN1 HN2 HN3 HBa
  generalize w5.drew = wd at DN DA DS DT ⊢
  have eg15 : ∀ (args : Array Value) (w : World), (callFunc 10 args).run Try.prog w = .ok (.enter 10 args) w := enters_of Try.func10 (by kernel_rfl) rfl
  have eg16 : ∀ (args : Array Value) (w : World), (callFunc 11 args).run Try.prog w = .ok (.enter 11 args) w := enters_of Try.func11 (by kernel_rfl) rfl
  refine AtN.segN2 0 17 [17, 18, 19, 20, 21, 22, 23, 24, 25, 26, 27, 28, 29, 30, 31, 32, 5] (fun
    | 0 => fun v _ => v = .func (.func 10) #[] #[]
    | 1 => fun v _ => v = .agg #[.int .i64 1, .string ⟨#[83]⟩, .int .i64 0, .int .i64 0, .string ⟨#[]⟩, .slice none 0 0, .slice none 0 0]
    | 2 => fun v _ => v = .func (.func 10) #[] #[]
    | 3 => fun v _ => v = .agg #[.int .i64 1, .string ⟨#[89]⟩, .int .i64 0, .int .i64 0, .string ⟨#[]⟩, .slice none 0 0, .slice none 0 0]
    | 4 => fun v W => ∃ b, v = .slice (some ⟨b, 0, none⟩) 2 2 ∧ Blk W b 39 #[.int .i64 1, .string ⟨#[83]⟩, .int .i64 0, .int .i64 0, .string ⟨#[]⟩, .slice none 0 0, .slice none 0 0, .int .i64 1, .string ⟨#[89]⟩, .int .i64 0, .int .i64 0, .string ⟨#[]⟩, .slice none 0 0, .slice none 0 0]
    | 5 => fun v _ => v = .func (.func 10) #[] #[]
    | 6 => fun v _ => v = .agg #[.int .i64 1, .string ⟨#[83]⟩, .int .i64 0, .int .i64 0, .string ⟨#[]⟩, .slice none 0 0, .slice none 0 0]
    | 7 => fun v _ => v = .func (.func 10) #[] #[]
    | 8 => fun v _ => v = .agg #[.int .i64 1, .string ⟨#[88]⟩, .int .i64 0, .int .i64 0, .string ⟨#[]⟩, .slice none 0 0, .slice none 0 0]
    | 9 => fun v W => ∃ b, v = .slice (some ⟨b, 0, none⟩) 2 2 ∧ Blk W b 39 #[.int .i64 1, .string ⟨#[83]⟩, .int .i64 0, .int .i64 0, .string ⟨#[]⟩, .slice none 0 0, .slice none 0 0, .int .i64 1, .string ⟨#[88]⟩, .int .i64 0, .int .i64 0, .string ⟨#[]⟩, .slice none 0 0, .slice none 0 0]
    | 10 => fun v W => ∃ b, v = .agg #[.int .i64 1, .string ⟨#[113]⟩, .slice (some ⟨b, 0, none⟩) 2 2] ∧ Blk W b 39 #[.int .i64 1, .string ⟨#[83]⟩, .int .i64 0, .int .i64 0, .string ⟨#[]⟩, .slice none 0 0, .slice none 0 0, .int .i64 1, .string ⟨#[88]⟩, .int .i64 0, .int .i64 0, .string ⟨#[]⟩, .slice none 0 0, .slice none 0 0]
    | 11 => fun v _ => v = .agg #[.int .i64 4, .string ⟨#[43]⟩, .int .i64 0, .int .i64 0, .string ⟨#[]⟩, .slice none 0 0, .slice (some ⟨bs, 0, none⟩) 2 2]
    | 12 => fun v W => ∃ b, v = .slice (some ⟨b, 0, none⟩) 1 1 ∧ Blk W b 39 #[.int .i64 4, .string ⟨#[43]⟩, .int .i64 0, .int .i64 0, .string ⟨#[]⟩, .slice none 0 0, .slice (some ⟨bs, 0, none⟩) 2 2]
    | 13 => fun v W => ∃ b, v = .agg #[.int .i64 4, .string ⟨#[89]⟩, .slice (some ⟨b, 0, none⟩) 1 1] ∧ Blk W b 39 #[.int .i64 4, .string ⟨#[43]⟩, .int .i64 0, .int .i64 0, .string ⟨#[]⟩, .slice none 0 0, .slice (some ⟨bs, 0, none⟩) 2 2]
    | 14 => fun v W => ∃ c b9 b12, v = .slice (some ⟨c, 0, none⟩) 2 2 ∧ (Blk W c 43 #[.int .i64 1, .string ⟨#[113]⟩, .slice (some ⟨b9, 0, none⟩) 2 2, .int .i64 4, .string ⟨#[89]⟩, .slice (some ⟨b12, 0, none⟩) 1 1]) ∧ (Blk W b9 39 #[.int .i64 1, .string ⟨#[83]⟩, .int .i64 0, .int .i64 0, .string ⟨#[]⟩, .slice none 0 0, .slice none 0 0, .int .i64 1, .string ⟨#[88]⟩, .int .i64 0, .int .i64 0, .string ⟨#[]⟩, .slice none 0 0, .slice none 0 0]) ∧ (Blk W b12 39 #[.int .i64 4, .string ⟨#[43]⟩, .int .i64 0, .int .i64 0, .string ⟨#[]⟩, .slice none 0 0, .slice (some ⟨bs, 0, none⟩) 2 2])
    | 15 => fun v W => ∃ b4 c b9 b12, v = .agg #[.string ⟨#[114]⟩, .string ⟨#[112]⟩, .slice (some ⟨b4, 0, none⟩) 2 2, .string ⟨#[]⟩, .int .i64 0, .slice (some ⟨c, 0, none⟩) 2 2] ∧ (Blk W b4 39 #[.int .i64 1, .string ⟨#[83]⟩, .int .i64 0, .int .i64 0, .string ⟨#[]⟩, .slice none 0 0, .slice none 0 0, .int .i64 1, .string ⟨#[89]⟩, .int .i64 0, .int .i64 0, .string ⟨#[]⟩, .slice none 0 0, .slice none 0 0]) ∧ (Blk W c 43 #[.int .i64 1, .string ⟨#[113]⟩, .slice (some ⟨b9, 0, none⟩) 2 2, .int .i64 4, .string ⟨#[89]⟩, .slice (some ⟨b12, 0, none⟩) 1 1]) ∧ (Blk W b9 39 #[.int .i64 1, .string ⟨#[83]⟩, .int .i64 0, .int .i64 0, .string ⟨#[]⟩, .slice none 0 0, .slice none 0 0, .int .i64 1, .string ⟨#[88]⟩, .int .i64 0, .int .i64 0, .string ⟨#[]⟩, .slice none 0 0, .slice none 0 0]) ∧ (Blk W b12 39 #[.int .i64 4, .string ⟨#[43]⟩, .int .i64 0, .int .i64 0, .string ⟨#[]⟩, .slice none 0 0, .slice (some ⟨bs, 0, none⟩) 2 2])
    | 16 => fun v W => ∃ b cur, v = .pointer (some ⟨b, 0, none⟩) ∧ Blk W b 27 cur ∧ cur.size = 6 ∧ wd.heap.size ≤ b
    | _ => fun _ _ => True) (by kernel_rfl) (by kernel_rfl) (by kernel_rfl) (by kernel_rfl) (fun j v w1 w2 hc h => ?_) (fun i hn hi o ho A0 W hN hin hk => ?_) (fun l W3 hN hl hΦ => ?_)
  · match j with
    | 4 => exact h.imp fun b h => ⟨h.1, h.2.chg hc id⟩
    | 9 => exact h.imp fun b h => ⟨h.1, h.2.chg hc id⟩
    | 10 => exact h.imp fun b h => ⟨h.1, h.2.chg hc id⟩
    | 12 => exact h.imp fun b h => ⟨h.1, h.2.chg hc id⟩
    | 13 => exact h.imp fun b h => ⟨h.1, h.2.chg hc id⟩
    | 14 => exact h.imp fun c h => h.imp fun b9 h => h.imp fun b12 h => ⟨h.1, h.2.1.chg hc id, h.2.2.1.chg hc id, h.2.2.2.chg hc id⟩
    | 15 => exact h.imp fun b4 h => h.imp fun c h => h.imp fun b9 h => h.imp fun b12 h => ⟨h.1, h.2.1.chg hc id, h.2.2.1.chg hc id, h.2.2.2.1.chg hc id, h.2.2.2.2.chg hc id⟩
    | 16 => exact h.imp fun b h => h.imp fun cur h => ⟨h.1, h.2.1.chg hc id, h.2.2⟩
    | 0 | 1 | 2 | 3 | 5 | 6 | 7 | 8 | 11 => exact h
    | _ + 17 => trivial
  · rcases (show i = 0 ∨ i = 1 ∨ i = 2 ∨ i = 3 ∨ i = 4 ∨ i = 5 ∨ i = 6 ∨ i = 7 ∨ i = 8 ∨ i = 9 ∨ i = 10 ∨ i = 11 ∨ i = 12 ∨ i = 13 ∨ i = 14 ∨ i = 15 ∨ i = 16 by omega) with rfl | rfl | rfl | rfl | rfl | rfl | rfl | rfl | rfl | rfl | rfl | rfl | rfl | rfl | rfl | rfl | rfl
    · cases ho
      exact .same (exec_move 1 _ rfl (hk 1 (by kernel_rfl))) rfl
    · cases ho
      have h17 : A0.tmps[17]?.getD undef = .func (.func 10) #[] #[] := hin 0 17 (by kernel_rfl)
      refine .call (f := 10) (args := #[.string ⟨#[83]⟩]) (W' := W) ?_ ((awk_var W ⟨#[83]⟩).mono ?_)
      · simp [go_sem, h17, eg15]
      · rintro e w' ⟨rfl, hc⟩
        exact ⟨_, rfl, hc, rfl⟩
    · cases ho
      exact .same (exec_move 1 _ rfl (hk 1 (by kernel_rfl))) rfl
    · cases ho
      have h19 : A0.tmps[19]?.getD undef = .func (.func 10) #[] #[] := hin 2 19 (by kernel_rfl)
      refine .call (f := 10) (args := #[.string ⟨#[89]⟩]) (W' := W) ?_ ((awk_var W ⟨#[89]⟩).mono ?_)
      · simp [go_sem, h19, eg15]
      · rintro e w' ⟨rfl, hc⟩
        exact ⟨_, rfl, hc, rfl⟩
    · cases ho
      have h18 : A0.tmps[18]?.getD undef = .agg #[.int .i64 1, .string ⟨#[83]⟩, .int .i64 0, .int .i64 0, .string ⟨#[]⟩, .slice none 0 0, .slice none 0 0] := hin 1 18 (by kernel_rfl)
      have h20 : A0.tmps[20]?.getD undef = .agg #[.int .i64 1, .string ⟨#[89]⟩, .int .i64 0, .int .i64 0, .string ⟨#[]⟩, .slice none 0 0, .slice none 0 0] := hin 3 20 (by kernel_rfl)
      exact .value (W' := W.alloc (.cells #[.int .i64 1, .string ⟨#[83]⟩, .int .i64 0, .int .i64 0, .string ⟨#[]⟩, .slice none 0 0, .slice none 0 0, .int .i64 1, .string ⟨#[89]⟩, .int .i64 0, .int .i64 0, .string ⟨#[]⟩, .slice none 0 0, .slice none 0 0] 39)) (v := .slice (some ⟨W.heap.size, 0, none⟩) 2 2) (by simp [go_sem, h18, h20]) ⟨(Chg.refl _ _).alloc _, _, rfl, Blk.new _ _ _⟩
    · cases ho
      exact .same (exec_move 1 _ rfl (hk 1 (by kernel_rfl))) rfl
    · cases ho
      have h22 : A0.tmps[22]?.getD undef = .func (.func 10) #[] #[] := hin 5 22 (by kernel_rfl)
      refine .call (f := 10) (args := #[.string ⟨#[83]⟩]) (W' := W) ?_ ((awk_var W ⟨#[83]⟩).mono ?_)
      · simp [go_sem, h22, eg15]
      · rintro e w' ⟨rfl, hc⟩
        exact ⟨_, rfl, hc, rfl⟩
    · cases ho
      exact .same (exec_move 1 _ rfl (hk 1 (by kernel_rfl))) rfl
    · cases ho
      have h24 : A0.tmps[24]?.getD undef = .func (.func 10) #[] #[] := hin 7 24 (by kernel_rfl)
      refine .call (f := 10) (args := #[.string ⟨#[88]⟩]) (W' := W) ?_ ((awk_var W ⟨#[88]⟩).mono ?_)
      · simp [go_sem, h24, eg15]
      · rintro e w' ⟨rfl, hc⟩
        exact ⟨_, rfl, hc, rfl⟩
    · cases ho
      have h23 : A0.tmps[23]?.getD undef = .agg #[.int .i64 1, .string ⟨#[83]⟩, .int .i64 0, .int .i64 0, .string ⟨#[]⟩, .slice none 0 0, .slice none 0 0] := hin 6 23 (by kernel_rfl)
      have h25 : A0.tmps[25]?.getD undef = .agg #[.int .i64 1, .string ⟨#[88]⟩, .int .i64 0, .int .i64 0, .string ⟨#[]⟩, .slice none 0 0, .slice none 0 0] := hin 8 25 (by kernel_rfl)
      exact .value (W' := W.alloc (.cells #[.int .i64 1, .string ⟨#[83]⟩, .int .i64 0, .int .i64 0, .string ⟨#[]⟩, .slice none 0 0, .slice none 0 0, .int .i64 1, .string ⟨#[88]⟩, .int .i64 0, .int .i64 0, .string ⟨#[]⟩, .slice none 0 0, .slice none 0 0] 39)) (v := .slice (some ⟨W.heap.size, 0, none⟩) 2 2) (by simp [go_sem, h23, h25]) ⟨(Chg.refl _ _).alloc _, _, rfl, Blk.new _ _ _⟩
    · cases ho
      have h26 := hin 9 26 (by kernel_rfl)
      obtain ⟨b, e, hb⟩ := h26
      exact .same (v := .agg #[.int .i64 1, .string ⟨#[113]⟩, .slice (some ⟨b, 0, none⟩) 2 2]) (by simp [go_sem, e]) ⟨b, rfl, hb⟩
    · cases ho
      have h4 : A0.tmps[4]?.getD undef = .pointer (some ⟨bt, 0, none⟩) := hk 4 (by kernel_rfl)
      exact .same (exec_load 4 _ rfl stTerm ⟨bt, 0, none⟩ [.int .i64 4, .string ⟨#[43]⟩, .int .i64 0, .int .i64 0, .string ⟨#[]⟩, .slice none 0 0, .slice (some ⟨bs, 0, none⟩) 2 2] h4 rfl (DT.out.chg hN id).at_) rfl
    · cases ho
      have h28 : A0.tmps[28]?.getD undef = .agg #[.int .i64 4, .string ⟨#[43]⟩, .int .i64 0, .int .i64 0, .string ⟨#[]⟩, .slice none 0 0, .slice (some ⟨bs, 0, none⟩) 2 2] := hin 11 28 (by kernel_rfl)
      exact .value (W' := W.alloc (.cells #[.int .i64 4, .string ⟨#[43]⟩, .int .i64 0, .int .i64 0, .string ⟨#[]⟩, .slice none 0 0, .slice (some ⟨bs, 0, none⟩) 2 2] 39)) (v := .slice (some ⟨W.heap.size, 0, none⟩) 1 1) (by simp [go_sem, h28]) ⟨(Chg.refl _ _).alloc _, _, rfl, Blk.new _ _ _⟩
    · cases ho
      have h29 := hin 12 29 (by kernel_rfl)
      obtain ⟨b, e, hb⟩ := h29
      exact .same (v := .agg #[.int .i64 4, .string ⟨#[89]⟩, .slice (some ⟨b, 0, none⟩) 1 1]) (by simp [go_sem, e]) ⟨b, rfl, hb⟩
    · cases ho
      have h27 := hin 10 27 (by kernel_rfl)
      have h30 := hin 13 30 (by kernel_rfl)
      obtain ⟨b9, e9, hb9⟩ := h27
      obtain ⟨b12, e12, hb12⟩ := h30
      have hN1 : New W (W.alloc (.cells #[.int .i64 1, .string ⟨#[113]⟩, .slice (some ⟨b9, 0, none⟩) 2 2, .int .i64 4, .string ⟨#[89]⟩, .slice (some ⟨b12, 0, none⟩) 1 1] 43)) := (Chg.refl _ _).alloc _
      exact .value (W' := W.alloc (.cells #[.int .i64 1, .string ⟨#[113]⟩, .slice (some ⟨b9, 0, none⟩) 2 2, .int .i64 4, .string ⟨#[89]⟩, .slice (some ⟨b12, 0, none⟩) 1 1] 43)) (v := .slice (some ⟨W.heap.size, 0, none⟩) 2 2) (by simp [go_sem, e9, e12]) ⟨hN1, _, b9, b12, rfl, Blk.new _ _ _, hb9.chg hN1 id, hb12.chg hN1 id⟩
    · cases ho
      have h21 := hin 4 21 (by kernel_rfl)
      have h31 := hin 14 31 (by kernel_rfl)
      obtain ⟨b4, e4, hb4⟩ := h21
      obtain ⟨c, b9, b12, e14, hr⟩ := h31
      exact .same (v := .agg #[.string ⟨#[114]⟩, .string ⟨#[112]⟩, .slice (some ⟨b4, 0, none⟩) 2 2, .string ⟨#[]⟩, .int .i64 0, .slice (some ⟨c, 0, none⟩) 2 2]) (by simp [go_sem, e4, e14]) ⟨b4, c, b9, b12, rfl, hb4, hr⟩
    · cases ho
      exact Gives.alloc rfl zRule (fun cur hcs => ⟨(Chg.refl _ _).alloc _, _, cur, rfl, Blk.new _ _ _, hcs, hN.size⟩)
  obtain ⟨x17, x18, x19, x20, x21, x22, x23, x24, x25, x26, x27, x28, x29, x30, x31, x32, x5, rfl⟩ : ∃ x17 x18 x19 x20 x21 x22 x23 x24 x25 x26 x27 x28 x29 x30 x31 x32 x5, l = [x17, x18, x19, x20, x21, x22, x23, x24, x25, x26, x27, x28, x29, x30, x31, x32, x5] := by
    match l, hl with
    | [x17, x18, x19, x20, x21, x22, x23, x24, x25, x26, x27, x28, x29, x30, x31, x32, x5], _ => exact ⟨_, _, _, _, _, _, _, _, _, _, _, _, _, _, _, _, _, rfl⟩
  obtain rfl : x17 = .func (.func 10) #[] #[] := hΦ 0 (by decide)
  obtain rfl : x18 = .agg #[.int .i64 1, .string ⟨#[83]⟩, .int .i64 0, .int .i64 0, .string ⟨#[]⟩, .slice none 0 0, .slice none 0 0] := hΦ 1 (by decide)
  obtain rfl : x19 = .func (.func 10) #[] #[] := hΦ 2 (by decide)
  obtain rfl : x20 = .agg #[.int .i64 1, .string ⟨#[89]⟩, .int .i64 0, .int .i64 0, .string ⟨#[]⟩, .slice none 0 0, .slice none 0 0] := hΦ 3 (by decide)
  have hx21 := hΦ 4 (by decide)
  obtain rfl : x22 = .func (.func 10) #[] #[] := hΦ 5 (by decide)
  obtain rfl : x23 = .agg #[.int .i64 1, .string ⟨#[83]⟩, .int .i64 0, .int .i64 0, .string ⟨#[]⟩, .slice none 0 0, .slice none 0 0] := hΦ 6 (by decide)
  obtain rfl : x24 = .func (.func 10) #[] #[] := hΦ 7 (by decide)
  obtain rfl : x25 = .agg #[.int .i64 1, .string ⟨#[88]⟩, .int .i64 0, .int .i64 0, .string ⟨#[]⟩, .slice none 0 0, .slice none 0 0] := hΦ 8 (by decide)
  have hx26 := hΦ 9 (by decide)
  have hx27 := hΦ 10 (by decide)
  obtain rfl : x28 = .agg #[.int .i64 4, .string ⟨#[43]⟩, .int .i64 0, .int .i64 0, .string ⟨#[]⟩, .slice none 0 0, .slice (some ⟨bs, 0, none⟩) 2 2] := hΦ 11 (by decide)
  have hx29 := hΦ 12 (by decide)
  have hx30 := hΦ 13 (by decide)
  have hx31 := hΦ 14 (by decide)
  have hx32 := hΦ 15 (by decide)
  have hx5 := hΦ 16 (by decide)
  simp only [putsL, List.zip_cons_cons, List.zip_nil_left, List.zip_nil_right, List.zip, List.zipWith, Act.put, List.setIfInBounds_toArray, List.set_cons_succ, List.set_cons_zero]
  clear hΦ hl
  obtain ⟨b4, c, b9, b12, rfl, h4, h14, h9, h12⟩ := hx32
  obtain ⟨b5, cur5, rfl, h5, h5s, h5l⟩ := hx5
  obtain ⟨_, rfl, _⟩ := hx21
  obtain ⟨_, rfl, _⟩ := hx26
  obtain ⟨_, rfl, _⟩ := hx27
  obtain ⟨_, rfl, _⟩ := hx29
  obtain ⟨_, rfl, _⟩ := hx30
  obtain ⟨_, _, _, rfl, _⟩ := hx31
  have n4 : b4 ≠ b5 := h4.ne h5 (by decide)
  have n9 : b9 ≠ b5 := h9.ne h5 (by decide)
  have n12 : b12 ≠ b5 := h12.ne h5 (by decide)
  have nc : c ≠ b5 := h14.ne h5 (by decide)
  have nbs : bs ≠ b5 := by have := DS.out.lt; omega
  have nba : ba ≠ b5 := by have := DA.out.lt; omega
  have E4 := Lib.hid h4
  have E9 := Lib.hid h9
  have E12 := Lib.hid h12
  have E14 := Lib.hid h14
  have E5 := Lib.hid h5
  have E5s := Lib.hid h5s
  have EA := Lib.hid (DA.out.chg hN id)
  have ES := Lib.hid (DS.out.chg hN id)
  have EN := Lib.hid (DN.out.trans hN (fun _ _ x => x))
  have hwl := DN.out.size
  clear h4 h9 h12 h14 h5 h5s DA DS DN DT hN
  refine AtN.list 17 18 (by kernel_rfl) ?_
  change wpList _ _ _ [_] _ _
  go_wp2_with ((with_reducible refine wpl_set rfl (.tmp 5) (.tmp 32) 27 rfl rfl stRule b5 27 _ [.string ⟨#[114]⟩, .string ⟨#[112]⟩, .slice (some ⟨b4, 0, none⟩) 2 2, .string ⟨#[]⟩, .int .i64 0, .slice (some ⟨c, 0, none⟩) 2 2] ?_ ?_ E5.out rfl E5s.out (rule_one rfl rfl rfl) ?_); exact rfl; exact rfl; intro w6 hc6 hb6 hs6; have F4 := Lib.hid (E4.out.chg hc6 n4); have F9 := Lib.hid (E9.out.chg hc6 n9); have F12 := Lib.hid (E12.out.chg hc6 n12); have F14 := Lib.hid (E14.out.chg hc6 nc); have FA := Lib.hid (EA.out.chg hc6 nba); have FS := Lib.hid (ES.out.chg hc6 nbs); have FN := Lib.hid (EN.out.put hc6 (by omega)); have F5 := Lib.hid hb6; clear hc6 hb6 hs6)
  change AtN _ _ _ 18 _ _
  refine AtN.done rfl ?_
  clear E4 E9 E12 E14 EA ES EN E5 E5s
  go_upto_region 6 with fail
  refine wp_region_at (by kernel_rfl) ?_
  have hnd : New w6 w6.drew := (Chg.refl _ _).drew
  have G4 := Lib.hid (F4.out.chg hnd id)
  have G9 := Lib.hid (F9.out.chg hnd id)
  have G12 := Lib.hid (F12.out.chg hnd id)
  have G14 := Lib.hid (F14.out.chg hnd id)
  have GA := Lib.hid (FA.out.chg hnd id)
  have GS := Lib.hid (FS.out.chg hnd id)
  have G5 := Lib.hid (F5.out.chg hnd id)
  have GN := Lib.hid (FN.out.trans hnd (fun _ _ x => x))
  clear hnd F4 F9 F12 F14 FA FS F5 FN
  generalize w6.drew = we at G4 G9 G12 G14 GA GS G5 GN ⊢
  refine AtN.segN2 0 6 [33, 34, 35, 36, 37, 6] (fun
    | 0 => fun v _ => v = .agg #[.int .i64 3, .int .i64 0, .string ⟨#[97]⟩, .slice none 0 0]
    | 1 => fun v _ => v = .func (.func 11) #[] #[]
    | 2 => fun v _ => v = .agg #[.int .i64 1, .int .i64 3, .string ⟨#[]⟩, .slice none 0 0]
    | 3 => fun v W => ∃ b, v = .slice (some ⟨b, 0, none⟩) 2 2 ∧ Blk W b 37 (vcs aV ++ vcs (nV 3)).toArray
    | 4 => fun v W => ∃ b, v = .agg #[.string ⟨#[113]⟩, .slice (some ⟨b, 0, none⟩) 2 2, .int .i64 7] ∧ Blk W b 37 (vcs aV ++ vcs (nV 3)).toArray
    | 5 => fun v W => ∃ b cur, v = .pointer (some ⟨b, 0, none⟩) ∧ Blk W b 45 cur ∧ cur.size = 3 ∧ we.heap.size ≤ b
    | _ => fun _ _ => True) (by kernel_rfl) (by kernel_rfl) (by kernel_rfl) (by kernel_rfl) (fun j v w1 w2 hc h => ?_) (fun i hn hi o ho A0 W hN hin hk => ?_) (fun l W4 hN hl hΦ => ?_)
  · match j with
    | 3 => exact h.imp fun b h => ⟨h.1, h.2.chg hc id⟩
    | 4 => exact h.imp fun b h => ⟨h.1, h.2.chg hc id⟩
    | 5 => exact h.imp fun b h => h.imp fun cur h => ⟨h.1, h.2.1.chg hc id, h.2.2⟩
    | 0 | 1 | 2 => exact h
    | _ + 6 => trivial
  · rcases (show i = 0 ∨ i = 1 ∨ i = 2 ∨ i = 3 ∨ i = 4 ∨ i = 5 by omega) with rfl | rfl | rfl | rfl | rfl | rfl
    · cases ho
      have h3 : A0.tmps[3]?.getD undef = .pointer (some ⟨ba, 0, none⟩) := hk 3 (by kernel_rfl)
      exact .same (exec_load 3 _ rfl stVal4 ⟨ba, 0, none⟩ [.int .i64 3, .int .i64 0, .string ⟨#[97]⟩, .slice none 0 0] h3 rfl (GA.out.chg hN id).at_) rfl
    · cases ho
      exact .same (exec_move 2 _ rfl (hk 2 (by kernel_rfl))) rfl
    · cases ho
      have h34 : A0.tmps[34]?.getD undef = .func (.func 11) #[] #[] := hin 1 34 (by kernel_rfl)
      refine .call (f := 11) (args := #[.int .i64 3]) (W' := W) ?_ ((awk_num W 3).mono ?_)
      · simp [go_sem, h34, eg16]
      · rintro e w' ⟨rfl, hc⟩
        exact ⟨_, rfl, hc, rfl⟩
    · cases ho
      have h33 : A0.tmps[33]?.getD undef = .agg #[.int .i64 3, .int .i64 0, .string ⟨#[97]⟩, .slice none 0 0] := hin 0 33 (by kernel_rfl)
      have h35 : A0.tmps[35]?.getD undef = .agg #[.int .i64 1, .int .i64 3, .string ⟨#[]⟩, .slice none 0 0] := hin 2 35 (by kernel_rfl)
      exact .value (W' := W.alloc (.cells #[.int .i64 3, .int .i64 0, .string ⟨#[97]⟩, .slice none 0 0, .int .i64 1, .int .i64 3, .string ⟨#[]⟩, .slice none 0 0] 37)) (v := .slice (some ⟨W.heap.size, 0, none⟩) 2 2) (by simp [go_sem, h33, h35]) ⟨(Chg.refl _ _).alloc _, _, rfl, Blk.new _ _ _⟩
    · cases ho
      have h36 := hin 3 36 (by kernel_rfl)
      obtain ⟨b, e8, hb⟩ := h36
      exact .same (v := .agg #[.string ⟨#[113]⟩, .slice (some ⟨b, 0, none⟩) 2 2, .int .i64 7]) (by simp [go_sem, e8]) ⟨b, rfl, hb⟩
    · cases ho
      exact Gives.alloc rfl zRow (fun cur hcs => ⟨(Chg.refl _ _).alloc _, _, cur, rfl, Blk.new _ _ _, hcs, hN.size⟩)
  obtain ⟨x33, x34, x35, x36, x37, x6, rfl⟩ : ∃ x33 x34 x35 x36 x37 x6, l = [x33, x34, x35, x36, x37, x6] := by
    match l, hl with
    | [x33, x34, x35, x36, x37, x6], _ => exact ⟨_, _, _, _, _, _, rfl⟩
  obtain rfl : x33 = .agg #[.int .i64 3, .int .i64 0, .string ⟨#[97]⟩, .slice none 0 0] := hΦ 0 (by decide)
  obtain rfl : x34 = .func (.func 11) #[] #[] := hΦ 1 (by decide)
  obtain rfl : x35 = .agg #[.int .i64 1, .int .i64 3, .string ⟨#[]⟩, .slice none 0 0] := hΦ 2 (by decide)
  have hx36 := hΦ 3 (by decide)
  have hx37 := hΦ 4 (by decide)
  have hx6 := hΦ 5 (by decide)
  simp only [putsL, List.zip_cons_cons, List.zip_nil_left, List.zip_nil_right, List.zip, List.zipWith, Act.put, List.setIfInBounds_toArray, List.set_cons_succ, List.set_cons_zero]
  clear hΦ hl
  obtain ⟨b6v, rfl, h6v⟩ := hx37
  obtain ⟨_, rfl, _⟩ := hx36
  obtain ⟨b6, cur6, rfl, h6, h6s, h6l⟩ := hx6
  have n6v : b6v ≠ b6 := h6v.ne h6 (by decide)
  have HV := Lib.hid h6v
  have H6 := Lib.hid h6
  have H6s := Lib.hid h6s
  have m4 : b4 ≠ b6 := by have := G4.out.lt; omega
  have m9 : b9 ≠ b6 := by have := G9.out.lt; omega
  have m12 : b12 ≠ b6 := by have := G12.out.lt; omega
  have mc : c ≠ b6 := by have := G14.out.lt; omega
  have ms : bs ≠ b6 := by have := GS.out.lt; omega
  have ma : ba ≠ b6 := by have := GA.out.lt; omega
  have m5 : b5 ≠ b6 := by have := G5.out.lt; omega
  have hwl2 := GN.out.size
  have H4 := Lib.hid (G4.out.chg hN id)
  have H9 := Lib.hid (G9.out.chg hN id)
  have H12 := Lib.hid (G12.out.chg hN id)
  have H14 := Lib.hid (G14.out.chg hN id)
  have HA := Lib.hid (GA.out.chg hN id)
  have HS := Lib.hid (GS.out.chg hN id)
  have H5 := Lib.hid (G5.out.chg hN id)
  have HN := Lib.hid (GN.out.trans hN (fun _ _ x => x))
  clear h6v h6 h6s hN G4 G9 G12 G14 GA GS G5 GN
  refine AtN.list 6 7 (by kernel_rfl) ?_
  change wpList _ _ _ [_] _ _
  go_wp2_with ((with_reducible refine wpl_set rfl (.tmp 6) (.tmp 37) 45 rfl rfl stRow b6 45 _ [.string ⟨#[113]⟩, .slice (some ⟨b6v, 0, none⟩) 2 2, .int .i64 7] ?_ ?_ H6.out rfl H6s.out (row_one _ _ _ _ _) ?_); exact rfl; exact rfl; intro w7 hc7 hb7 hs7; have K4 := Lib.hid (H4.out.chg hc7 m4); have K9 := Lib.hid (H9.out.chg hc7 m9); have K12 := Lib.hid (H12.out.chg hc7 m12); have K14 := Lib.hid (H14.out.chg hc7 mc); have KA := Lib.hid (HA.out.chg hc7 ma); have KS := Lib.hid (HS.out.chg hc7 ms); have KN := Lib.hid (HN.out.put hc7 (by omega)); have K5 := Lib.hid (H5.out.chg hc7 m5); have KV := Lib.hid (HV.out.chg hc7 n6v); have K6 := Lib.hid hb7; clear hc7 hb7 hs7)
  change AtN _ _ _ 7 _ _
  refine AtN.done rfl ?_
  clear H4 H9 H12 H14 HA HS HN H5 H6 H6s HV
  go_upto_region 8 with first
    | ((with_reducible refine wpl_load rfl (.tmp 6) 45 rfl stRow ⟨b6, 0, none⟩ [.string ⟨#[113]⟩, .slice (some ⟨b6v, 0, none⟩) 2 2, .int .i64 7] ?_ rfl K6.out.at_ ?_); exact rfl)
    | ((with_reducible refine wpl_box rfl rfl 7 (.tmp 38) 45 rfl rfl rfl rfl stRow zRow [.string ⟨#[113]⟩, .slice (some ⟨b6v, 0, none⟩) 2 2, .int .i64 7] ?_ ?_ rfl (row_one _ _ _ _ _) ?_); exact (by decide : 7 < 70); exact rfl; intro w8 hc8 hb8 hs8; have HC8 := Lib.hid hc8; have HB8 := Lib.hid hb8; clear hc8 hb8 hs8)
  obtain ⟨b7, hb7⟩ : ∃ b, w7.heap.size = b := ⟨_, rfl⟩
  rw [hb7] at HB8 ⊢
  have c7 := HB8.out.cell 2
  have f7 := HB8.out.frozen 2
  simp only [List.getElem?_toArray, List.getElem?_cons_zero, List.getElem?_cons_succ] at c7
  go_upto_region 9 with fail
  have hset : Blk (w8.setCell ⟨b7, 2, none⟩ (.int .i64 2)) b7 45 #[.string ⟨#[113]⟩, .slice (some ⟨b6v, 0, none⟩) 2 2, .int .i64 2] := by simpa using HB8.out.setCell 2 (.int .i64 2)
  have hcs : Chg w7 (w8.setCell ⟨b7, 2, none⟩ (.int .i64 2)) (fun k => k = b7) := (HC8.out.mono fun _ _ h => h.elim).setCell _ _ (fun _ => rfl)
  have hn8 : New w7 (w8.setCell ⟨b7, 2, none⟩ (.int .i64 2)) := HC8.out.setCell _ _ (fun h => absurd h (by simp; omega))
  have L7 := Lib.hid hset
  have L6 := Lib.hid (K6.out.chg hn8 id)
  have L4 := Lib.hid (K4.out.chg hn8 id)
  have L9 := Lib.hid (K9.out.chg hn8 id)
  have L12 := Lib.hid (K12.out.chg hn8 id)
  have L14 := Lib.hid (K14.out.chg hn8 id)
  have LA := Lib.hid (KA.out.chg hn8 id)
  have LS := Lib.hid (KS.out.chg hn8 id)
  have L5 := Lib.hid (K5.out.chg hn8 id)
  have LV := Lib.hid (KV.out.chg hn8 id)
  have LN := Lib.hid (KN.out.trans hn8 (fun _ _ x => x))
  clear hset hcs hn8 c7 f7 hb7 K6 K4 K9 K12 K14 KA KS K5 KV KN HC8 HB8
  generalize w8.setCell ⟨b7, 2, none⟩ (.int .i64 2) = w9 at L7 L6 L4 L9 L12 L14 LA LS L5 LV LN ⊢
  have hfire : ∀ w10 br, New w9 w10 → Blk w10 br 45 #[.string ⟨#[113]⟩, .slice (some ⟨b6v, 0, none⟩) 2 2, .int .i64 2, .string ⟨#[113]⟩, .slice (some ⟨b6v, 0, none⟩) 2 2, .int .i64 7] → Calls Try.prog 7 #[.agg #[.string ⟨#[114]⟩, .string ⟨#[112]⟩, .slice (some ⟨b4, 0, none⟩) 2 2, .string ⟨#[]⟩, .int .i64 0, .slice (some ⟨c, 0, none⟩) 2 2], .slice (some ⟨br, 0, none⟩) 2 2] w10 fun e w' => ∃ v, e = .returned v ∧ RowSl w' v [pR] ∧ New w10 w' := by
    intro w10 br hn hb
    have hv := LV.out.chg hn id
    have hrs : RowSl w10 (.slice (some ⟨br, 0, none⟩) 2 2) [qR 2, qR 7] := blk_rowsl (css := [[.string ⟨#[113]⟩, .slice (some ⟨b6v, 0, none⟩) 2 2, .int .i64 2], [.string ⟨#[113]⟩, .slice (some ⟨b6v, 0, none⟩) 2 2, .int .i64 7]]) (rs := [qR 2, qR 7]) hb (rowsCs_two (row_two hv) (row_two hv)) (by decide)
    have ht : TmsAt w10 (some ⟨b4, 0, none⟩) _ tS := tms2 (c1 := [.int .i64 1, .string ⟨#[83]⟩, .int .i64 0, .int .i64 0, .string ⟨#[]⟩, .slice none 0 0, .slice none 0 0]) (c2 := [.int .i64 1, .string ⟨#[89]⟩, .int .i64 0, .int .i64 0, .string ⟨#[]⟩, .slice none 0 0, .slice none 0 0]) (L4.out.chg hn id) rfl rfl
    have ht9 : TmsAt w10 (some ⟨b9, 0, none⟩) _ tX := tms2 (c1 := [.int .i64 1, .string ⟨#[83]⟩, .int .i64 0, .int .i64 0, .string ⟨#[]⟩, .slice none 0 0, .slice none 0 0]) (c2 := [.int .i64 1, .string ⟨#[88]⟩, .int .i64 0, .int .i64 0, .string ⟨#[]⟩, .slice none 0 0, .slice none 0 0]) (L9.out.chg hn id) rfl rfl
    have hs := LS.out.chg hn id
    have hop : TmAt w10 [.int .i64 4, .string ⟨#[43]⟩, .int .i64 0, .int .i64 0, .string ⟨#[]⟩, .slice none 0 0, .slice (some ⟨bs, 0, none⟩) 2 2] sumT := ⟨⟨bs, 0, none⟩, 2, [.int .i64 1, .string ⟨#[88]⟩, .int .i64 0, .int .i64 0, .string ⟨#[]⟩, .slice none 0 0, .slice none 0 0], [.int .i64 2, .string ⟨#[]⟩, .int .i64 1, .int .i64 1, .string ⟨#[]⟩, .slice none 0 0, .slice none 0 0], rfl, hs.lt, blk_rows (css := [[.int .i64 1, .string ⟨#[88]⟩, .int .i64 0, .int .i64 0, .string ⟨#[]⟩, .slice none 0 0, .slice none 0 0], [.int .i64 2, .string ⟨#[]⟩, .int .i64 1, .int .i64 1, .string ⟨#[]⟩, .slice none 0 0, .slice none 0 0]]) hs (by decide), rfl, rfl⟩
    have ht12 : TmsAt w10 (some ⟨b12, 0, none⟩) _ [sumT] := tms1 (L12.out.chg hn id) hop
    have hl : LtsAt w10 (some ⟨c, 0, none⟩) [[.int .i64 1, .string ⟨#[113]⟩, .slice (some ⟨b9, 0, none⟩) 2 2], [.int .i64 4, .string ⟨#[89]⟩, .slice (some ⟨b12, 0, none⟩) 1 1]] bodyT := ⟨rfl, fun _ => ⟨_, rfl, blk_rows (css := [[.int .i64 1, .string ⟨#[113]⟩, .slice (some ⟨b9, 0, none⟩) 2 2], [.int .i64 4, .string ⟨#[89]⟩, .slice (some ⟨b12, 0, none⟩) 1 1]]) (L14.out.chg hn id) (by intro cs hcs; simp only [List.mem_cons, List.not_mem_nil, or_false] at hcs; rcases hcs with rfl | rfl <;> rfl)⟩, fun j cs L hj hL => by
      match j, hj, hL with
      | 0, hj, hL => cases hj; cases hL; exact ⟨_, 2, _, rfl, ht9⟩
      | 1, hj, hL => cases hj; cases hL; exact ⟨_, 1, _, rfl, ht12⟩
      | j + 2, hj, hL => simp at hj⟩
    refine (fire_val w10 ⟨#[112]⟩ (.string ⟨#[114]⟩) (.string ⟨#[]⟩) (.int .i64 0) (some ⟨b4, 0, none⟩) 2 2 _ tS rfl (by omega) ht ok_tS (some ⟨c, 0, none⟩) 2 2 _ bodyT rfl (by omega) (by unfold maxLen; omega) hl ok_body (by decide) rfl rfl rfl _ _ hrs ok_q (fun m hm => by rw [ex_m hm]; exact ex_n)).mono ?_
    rintro e w' ⟨m, v, out, hm, ho, rfl, hsl, hN⟩
    rw [ex_m hm] at ho
    rw [ex_o ho] at hsl
    exact ⟨v, rfl, hsl, hN⟩
  have HF := Lib.hid hfire
  clear hfire
  go_upto_region 10 with first
    | ((with_reducible refine wpl_load rfl (.tmp 5) 27 rfl stRule ⟨b5, 0, none⟩ [.string ⟨#[114]⟩, .string ⟨#[112]⟩, .slice (some ⟨b4, 0, none⟩) 2 2, .string ⟨#[]⟩, .int .i64 0, .slice (some ⟨c, 0, none⟩) 2 2] ?_ rfl L5.out.at_ ?_); exact rfl)
    | ((with_reducible refine wpl_load rfl (.tmp 7) 45 rfl stRow ⟨b7, 0, none⟩ [.string ⟨#[113]⟩, .slice (some ⟨b6v, 0, none⟩) 2 2, .int .i64 2] ?_ rfl L7.out.at_ ?_); exact rfl)
    | ((with_reducible refine wpl_load rfl (.tmp 6) 45 rfl stRow ⟨b6, 0, none⟩ [.string ⟨#[113]⟩, .slice (some ⟨b6v, 0, none⟩) 2 2, .int .i64 7] ?_ rfl L6.out.at_ ?_); exact rfl)
    | (go_at_call 7; refine (HF.out _ _ ((Chg.refl w9 (fun _ => False)).alloc _) (Blk.new _ _ _)).mono ?_; rintro e w11 ⟨vL, rfl, hsl, hN⟩; have HSl := Lib.hid hsl; have HN11 := Lib.hid (((Chg.refl w9 (fun _ => False)).alloc _).trans hN (fun _ _ x => x)); clear hsl hN)
  obtain ⟨AL, cL, cssL, hvL, _, _, _, _, _, _⟩ := id HSl.out
  obtain rfl := hvL
  obtain ⟨aL, csL, rfl, hatL, hlL, hrowL⟩ := HSl.out.row (i := 0) (r := pR) rfl
  have HAtL := Lib.hid hatL
  have HLL := Lib.hid hlL
  have HRowL := Lib.hid hrowL
  clear hatL hlL hrowL HF
  refine wp_region_at (by kernel_rfl) ?_
  have hnd : New w11 w11.drew := (Chg.refl _ _).drew
  have hn2 : New w9 w11.drew := HN11.out.trans hnd (fun _ _ x => x)
  have M6 := Lib.hid (L6.out.chg hn2 id)
  have M7 := Lib.hid (L7.out.chg hn2 id)
  have MA := Lib.hid (LA.out.chg hn2 id)
  have MV := Lib.hid (LV.out.chg hn2 id)
  have MN := Lib.hid (LN.out.trans hn2 (fun _ _ x => x))
  have MS := Lib.hid (HSl.out.chg hnd)
  have MAt := Lib.hid (HAtL.out.chg hnd id)
  have MRow := Lib.hid (HRowL.out.chg hnd)
  clear hnd hn2 L4 L5 L6 L7 L9 L12 L14 LA LS LV LN HSl HN11 HAtL HRowL
  generalize w11.drew = wf at M6 M7 MA MV MN MS MAt MRow ⊢
  have eg11 : ∀ (args : Array Value) (w : World), (callFunc 8 args).run Try.prog w = .ok (.enter 8 args) w := enters_of Try.func8 (by kernel_rfl) rfl
  have eg8 : ∀ (args : Array Value) (w : World), (callFunc 9 args).run Try.prog w = .ok (.enter 9 args) w := enters_of Try.func9 (by kernel_rfl) rfl
  have eg9 : ∀ (args : Array Value) (w : World), (callFunc 12 args).run Try.prog w = .ok (.enter 12 args) w := enters_of Try.func12 (by kernel_rfl) rfl
  refine AtN.segN2 0 9 [45, 46, 47, 48, 49, 50, 51, 52, 53] (fun
    | 0 => fun v _ => v = .slice (some aL) [pR].length cL
    | 1 => fun v _ => v = .agg #[.int .i64 3, .int .i64 0, .string ⟨#[97]⟩, .slice none 0 0]
    | 2 => fun v _ => v = .func (.func 11) #[] #[]
    | 3 => fun v _ => v = .agg #[.int .i64 1, .int .i64 4, .string ⟨#[]⟩, .slice none 0 0]
    | 4 => fun v W => ∃ b, v = .slice (some ⟨b, 0, none⟩) 2 2 ∧ Blk W b 37 (vcs aV ++ vcs (nV 4)).toArray
    | 5 => fun v W => ∃ b, v = .agg #[.string ⟨#[112]⟩, .slice (some ⟨b, 0, none⟩) 2 2, .int .i64 7] ∧ Blk W b 37 (vcs aV ++ vcs (nV 4)).toArray
    | 6 => fun v W => RowSl W v [pR]
    | 7 => fun v _ => v = .bool true
    | 8 => fun v _ => v = .bool true
    | _ => fun _ _ => True) (by kernel_rfl) (by kernel_rfl) (by kernel_rfl) (by kernel_rfl) (fun j v w1 w2 hc h => ?_) (fun i hn hi o ho A0 W hN hin hk => ?_) (fun l Wg hN hl hΦ => ?_)
  · match j with
    | 4 => exact h.imp fun b h => ⟨h.1, h.2.chg hc id⟩
    | 5 => exact h.imp fun b h => ⟨h.1, h.2.chg hc id⟩
    | 6 => exact h.chg hc
    | 0 | 1 | 2 | 3 | 7 | 8 => exact h
    | _ + 9 => trivial
  · rcases (show i = 0 ∨ i = 1 ∨ i = 2 ∨ i = 3 ∨ i = 4 ∨ i = 5 ∨ i = 6 ∨ i = 7 ∨ i = 8 by omega) with rfl | rfl | rfl | rfl | rfl | rfl | rfl | rfl | rfl
    · cases ho
      exact .same (exec_move 8 _ rfl (hk 8 (by kernel_rfl))) rfl
    · cases ho
      have h3 : A0.tmps[3]?.getD undef = .pointer (some ⟨ba, 0, none⟩) := hk 3 (by kernel_rfl)
      exact .same (exec_load 3 _ rfl stVal4 ⟨ba, 0, none⟩ [.int .i64 3, .int .i64 0, .string ⟨#[97]⟩, .slice none 0 0] h3 rfl (MA.out.chg hN id).at_) rfl
    · cases ho
      exact .same (exec_move 2 _ rfl (hk 2 (by kernel_rfl))) rfl
    · cases ho
      have h47 : A0.tmps[47]?.getD undef = .func (.func 11) #[] #[] := hin 2 47 (by kernel_rfl)
      refine .call (f := 11) (args := #[.int .i64 4]) (W' := W) ?_ ((awk_num W 4).mono ?_)
      · simp [go_sem, h47, eg16]
      · rintro e w' ⟨rfl, hc⟩
        exact ⟨_, rfl, hc, rfl⟩
    · cases ho
      have h46 : A0.tmps[46]?.getD undef = .agg #[.int .i64 3, .int .i64 0, .string ⟨#[97]⟩, .slice none 0 0] := hin 1 46 (by kernel_rfl)
      have h48 : A0.tmps[48]?.getD undef = .agg #[.int .i64 1, .int .i64 4, .string ⟨#[]⟩, .slice none 0 0] := hin 3 48 (by kernel_rfl)
      exact .value (W' := W.alloc (.cells #[.int .i64 3, .int .i64 0, .string ⟨#[97]⟩, .slice none 0 0, .int .i64 1, .int .i64 4, .string ⟨#[]⟩, .slice none 0 0] 37)) (v := .slice (some ⟨W.heap.size, 0, none⟩) 2 2) (by simp [go_sem, h46, h48]) ⟨(Chg.refl _ _).alloc _, _, rfl, Blk.new _ _ _⟩
    · cases ho
      have h49 := hin 4 49 (by kernel_rfl)
      obtain ⟨b, e8, hb⟩ := h49
      exact .same (v := .agg #[.string ⟨#[112]⟩, .slice (some ⟨b, 0, none⟩) 2 2, .int .i64 7]) (by simp [go_sem, e8]) ⟨b, rfl, hb⟩
    · cases ho
      have h50 := hin 5 50 (by kernel_rfl)
      obtain ⟨b, e8, hb⟩ := h50
      have hN1 : New W (W.alloc (.cells #[.string ⟨#[112]⟩, .slice (some ⟨b, 0, none⟩) 2 2, .int .i64 7] 45)) := (Chg.refl _ _).alloc _
      exact .value (W' := W.alloc (.cells #[.string ⟨#[112]⟩, .slice (some ⟨b, 0, none⟩) 2 2, .int .i64 7] 45)) (v := .slice (some ⟨W.heap.size, 0, none⟩) 1 1) (by simp [go_sem, e8]) ⟨hN1, blk_rowsl (css := [[.string ⟨#[112]⟩, .slice (some ⟨b, 0, none⟩) 2 2, .int .i64 7]]) (rs := [pR]) (Blk.new _ _ _) (rowsCs_one (row_two (hb.chg hN1 id))) (by decide)⟩
    · cases ho
      have h45 : A0.tmps[45]?.getD undef = .slice (some aL) [pR].length cL := hin 0 45 (by kernel_rfl)
      have h51 := hin 6 51 (by kernel_rfl)
      have hs := same_sl W _ _ _ (MS.out.chg hN) (show RowSl W (A0.tmps[51]?.getD undef) _ from h51)
      refine .call (f := 8) (args := #[.slice (some aL) [pR].length cL, A0.tmps[51]?.getD undef]) (W' := W) ?_ (hs.mono ?_)
      · simp [go_sem, h45, eg11]
      · rintro e w' ⟨rfl, hc⟩
        exact ⟨_, rfl, hc, rfl⟩
    · cases ho
      exact .same (exec_move 52 _ rfl (hin 7 52 (by kernel_rfl))) rfl
  obtain ⟨x45, x46, x47, x48, x49, x50, x51, x52, x53, rfl⟩ : ∃ x45 x46 x47 x48 x49 x50 x51 x52 x53, l = [x45, x46, x47, x48, x49, x50, x51, x52, x53] := by
    match l, hl with
    | [x45, x46, x47, x48, x49, x50, x51, x52, x53], _ => exact ⟨_, _, _, _, _, _, _, _, _, rfl⟩
  obtain rfl : x45 = .slice (some aL) [pR].length cL := hΦ 0 (by decide)
  obtain rfl : x46 = .agg #[.int .i64 3, .int .i64 0, .string ⟨#[97]⟩, .slice none 0 0] := hΦ 1 (by decide)
  obtain rfl : x47 = .func (.func 11) #[] #[] := hΦ 2 (by decide)
  obtain rfl : x48 = .agg #[.int .i64 1, .int .i64 4, .string ⟨#[]⟩, .slice none 0 0] := hΦ 3 (by decide)
  have hx49 := hΦ 4 (by decide)
  have hx50 := hΦ 5 (by decide)
  have hx51 := hΦ 6 (by decide)
  obtain rfl : x52 = .bool true := hΦ 7 (by decide)
  obtain rfl : x53 = .bool true := hΦ 8 (by decide)
  simp only [putsL, List.zip_cons_cons, List.zip_nil_left, List.zip_nil_right, List.zip, List.zipWith, Act.put, List.setIfInBounds_toArray, List.set_cons_succ, List.set_cons_zero]
  clear hΦ hl
  have N6 := Lib.hid (M6.out.chg hN id)
  have N7 := Lib.hid (M7.out.chg hN id)
  have NV := Lib.hid (MV.out.chg hN id)
  have NN := Lib.hid (MN.out.trans hN (fun _ _ x => x))
  have NAt := Lib.hid (MAt.out.chg hN id)
  have NRow := Lib.hid (MRow.out.chg hN)
  clear hN M6 M7 MA MV MN MS MAt MRow hx49 hx50 hx51
  refine AtN.segN2 9 18 [54, 55, 56, 57, 58, 59, 60, 61, 62] (fun
    | 9 => fun v _ => v = .agg #[.string ⟨#[113]⟩, .slice (some ⟨b6v, 0, none⟩) 2 2, .int .i64 7]
    | 10 => fun v _ => v = .agg #[.string ⟨#[113]⟩, .slice (some ⟨b6v, 0, none⟩) 2 2, .int .i64 2]
    | 11 => fun v W => RowSl W v [qR 7, qR 2]
    | 12 => fun v W => RowSl W v [qR 7]
    | 13 => fun v _ => v = .agg #[.string ⟨#[113]⟩, .slice (some ⟨b6v, 0, none⟩) 2 2, .int .i64 7]
    | 14 => fun v W => RowSl W v [qR 7]
    | 15 => fun v _ => v = .bool true
    | 16 => fun v _ => v = .bool true
    | 17 => fun v _ => v = .bool true
    | _ => fun _ _ => True) (by kernel_rfl) (by kernel_rfl) (by kernel_rfl) (by kernel_rfl) (fun j v w1 w2 hc h => ?_) (fun i hn hi o ho A0 W hN hin hk => ?_) (fun l Wh hN hl hΦ => ?_)
  · match j with
    | 11 => exact h.chg hc
    | 12 => exact h.chg hc
    | 14 => exact h.chg hc
    | 9 | 10 | 13 | 15 | 16 | 17 => exact h
    | 0 | 1 | 2 | 3 | 4 | 5 | 6 | 7 | 8 => trivial
    | _ + 18 => trivial
  · rcases (show i = 9 ∨ i = 10 ∨ i = 11 ∨ i = 12 ∨ i = 13 ∨ i = 14 ∨ i = 15 ∨ i = 16 ∨ i = 17 by omega) with rfl | rfl | rfl | rfl | rfl | rfl | rfl | rfl | rfl
    · cases ho
      have h6 : A0.tmps[6]?.getD undef = .pointer (some ⟨b6, 0, none⟩) := hk 6 (by kernel_rfl)
      exact .same (exec_load 6 _ rfl stRow ⟨b6, 0, none⟩ [.string ⟨#[113]⟩, .slice (some ⟨b6v, 0, none⟩) 2 2, .int .i64 7] h6 rfl (N6.out.chg hN id).at_) rfl
    · cases ho
      have h7 : A0.tmps[7]?.getD undef = .pointer (some ⟨b7, 0, none⟩) := hk 7 (by kernel_rfl)
      exact .same (exec_load 7 _ rfl stRow ⟨b7, 0, none⟩ [.string ⟨#[113]⟩, .slice (some ⟨b6v, 0, none⟩) 2 2, .int .i64 2] h7 rfl (N7.out.chg hN id).at_) rfl
    · cases ho
      have h54 : A0.tmps[54]?.getD undef = .agg #[.string ⟨#[113]⟩, .slice (some ⟨b6v, 0, none⟩) 2 2, .int .i64 7] := hin 9 54 (by kernel_rfl)
      have h55 : A0.tmps[55]?.getD undef = .agg #[.string ⟨#[113]⟩, .slice (some ⟨b6v, 0, none⟩) 2 2, .int .i64 2] := hin 10 55 (by kernel_rfl)
      have hv := NV.out.chg hN id
      have hN1 : New W (W.alloc (.cells #[.string ⟨#[113]⟩, .slice (some ⟨b6v, 0, none⟩) 2 2, .int .i64 7, .string ⟨#[113]⟩, .slice (some ⟨b6v, 0, none⟩) 2 2, .int .i64 2] 45)) := (Chg.refl _ _).alloc _
      exact .value (W' := W.alloc (.cells #[.string ⟨#[113]⟩, .slice (some ⟨b6v, 0, none⟩) 2 2, .int .i64 7, .string ⟨#[113]⟩, .slice (some ⟨b6v, 0, none⟩) 2 2, .int .i64 2] 45)) (v := .slice (some ⟨W.heap.size, 0, none⟩) 2 2) (by simp [go_sem, h54, h55]) ⟨hN1, blk_rowsl (css := [[.string ⟨#[113]⟩, .slice (some ⟨b6v, 0, none⟩) 2 2, .int .i64 7], [.string ⟨#[113]⟩, .slice (some ⟨b6v, 0, none⟩) 2 2, .int .i64 2]]) (rs := [qR 7, qR 2]) (Blk.new _ _ _) (rowsCs_two (row_two (hv.chg hN1 id)) (row_two (hv.chg hN1 id))) (by decide)⟩
    · cases ho
      have h56 := hin 11 56 (by kernel_rfl)
      have hs := merge_sl W _ _ (show RowSl W (A0.tmps[56]?.getD undef) _ from h56)
      refine .call (f := 9) (args := #[A0.tmps[56]?.getD undef]) (W' := W) ?_ (hs.mono ?_)
      · simp [go_sem, eg8]
      · rintro e w' ⟨v', out, rfl, hm, hsl, hc⟩
        rw [ex_m' hm] at hsl
        exact ⟨_, rfl, hc, hsl⟩
    · cases ho
      have h6 : A0.tmps[6]?.getD undef = .pointer (some ⟨b6, 0, none⟩) := hk 6 (by kernel_rfl)
      exact .same (exec_load 6 _ rfl stRow ⟨b6, 0, none⟩ [.string ⟨#[113]⟩, .slice (some ⟨b6v, 0, none⟩) 2 2, .int .i64 7] h6 rfl (N6.out.chg hN id).at_) rfl
    · cases ho
      have h58 : A0.tmps[58]?.getD undef = .agg #[.string ⟨#[113]⟩, .slice (some ⟨b6v, 0, none⟩) 2 2, .int .i64 7] := hin 13 58 (by kernel_rfl)
      have hv := NV.out.chg hN id
      have hN1 : New W (W.alloc (.cells #[.string ⟨#[113]⟩, .slice (some ⟨b6v, 0, none⟩) 2 2, .int .i64 7] 45)) := (Chg.refl _ _).alloc _
      exact .value (W' := W.alloc (.cells #[.string ⟨#[113]⟩, .slice (some ⟨b6v, 0, none⟩) 2 2, .int .i64 7] 45)) (v := .slice (some ⟨W.heap.size, 0, none⟩) 1 1) (by simp [go_sem, h58]) ⟨hN1, blk_rowsl (css := [[.string ⟨#[113]⟩, .slice (some ⟨b6v, 0, none⟩) 2 2, .int .i64 7]]) (rs := [qR 7]) (Blk.new _ _ _) (rowsCs_one (row_two (hv.chg hN1 id))) (by decide)⟩
    · cases ho
      have h57 := hin 12 57 (by kernel_rfl)
      have h59 := hin 14 59 (by kernel_rfl)
      have hs := same_sl W _ _ _ (show RowSl W (A0.tmps[57]?.getD undef) _ from h57) (show RowSl W (A0.tmps[59]?.getD undef) _ from h59)
      refine .call (f := 8) (args := #[A0.tmps[57]?.getD undef, A0.tmps[59]?.getD undef]) (W' := W) ?_ (hs.mono ?_)
      · simp [go_sem, eg11]
      · rintro e w' ⟨rfl, hc⟩
        exact ⟨_, rfl, hc, rfl⟩
    · cases ho
      have h53 : A0.tmps[53]?.getD undef = .bool true := hk 53 (by kernel_rfl)
      have h60 : A0.tmps[60]?.getD undef = .bool true := hin 15 60 (by kernel_rfl)
      exact .same (by simp [go_sem, h53, h60]) rfl
    · cases ho
      exact .same (exec_move 61 _ rfl (hin 16 61 (by kernel_rfl))) rfl
  obtain ⟨y54, y55, y56, y57, y58, y59, y60, y61, y62, rfl⟩ : ∃ y54 y55 y56 y57 y58 y59 y60 y61 y62, l = [y54, y55, y56, y57, y58, y59, y60, y61, y62] := by
    match l, hl with
    | [y54, y55, y56, y57, y58, y59, y60, y61, y62], _ => exact ⟨_, _, _, _, _, _, _, _, _, rfl⟩
  obtain rfl : y54 = .agg #[.string ⟨#[113]⟩, .slice (some ⟨b6v, 0, none⟩) 2 2, .int .i64 7] := hΦ 0 (by decide)
  obtain rfl : y55 = .agg #[.string ⟨#[113]⟩, .slice (some ⟨b6v, 0, none⟩) 2 2, .int .i64 2] := hΦ 1 (by decide)
  have hy56 := hΦ 2 (by decide)
  have hy57 := hΦ 3 (by decide)
  obtain rfl : y58 = .agg #[.string ⟨#[113]⟩, .slice (some ⟨b6v, 0, none⟩) 2 2, .int .i64 7] := hΦ 4 (by decide)
  have hy59 := hΦ 5 (by decide)
  obtain rfl : y60 = .bool true := hΦ 6 (by decide)
  obtain rfl : y61 = .bool true := hΦ 7 (by decide)
  obtain rfl : y62 = .bool true := hΦ 8 (by decide)
  simp only [putsL, List.zip_cons_cons, List.zip_nil_left, List.zip_nil_right, List.zip, List.zipWith, Act.put, List.setIfInBounds_toArray, List.set_cons_succ, List.set_cons_zero]
  clear hΦ hl
  have O6 := Lib.hid (N6.out.chg hN id)
  have OV := Lib.hid (NV.out.chg hN id)
  have ON := Lib.hid (NN.out.trans hN (fun _ _ x => x))
  have OAt := Lib.hid (NAt.out.chg hN id)
  have ORow := Lib.hid (NRow.out.chg hN)
  clear hN N6 N7 NV NN NAt NRow hy56 hy57 hy59
  refine AtN.segN2 18 25 [63, 64, 65, 66, 67, 68, 69] (fun
    | 18 => fun v _ => v = .agg #[.string ⟨#[113]⟩, .slice (some ⟨b6v, 0, none⟩) 2 2, .int .i64 7]
    | 19 => fun v _ => v = .slice (some aL) [pR].length cL
    | 20 => fun v _ => v = .pointer (some (aL.add (0 * 3)))
    | 21 => fun v _ => v = .agg csL.toArray
    | 22 => fun v _ => v = .int .i64 1
    | 23 => fun v _ => v = .bool true
    | 24 => fun v _ => v = .bool true
    | _ => fun _ _ => True) (by kernel_rfl) (by kernel_rfl) (by kernel_rfl) (by kernel_rfl) (fun j v w1 w2 hc h => ?_) (fun i hn hi o ho A0 W hN hin hk => ?_) (fun l Wi hN hl hΦ => ?_)
  · match j with
    | 18 | 19 | 20 | 21 | 22 | 23 | 24 => exact h
    | 0 | 1 | 2 | 3 | 4 | 5 | 6 | 7 | 8 | 9 | 10 | 11 | 12 | 13 | 14 | 15 | 16 | 17 => trivial
    | _ + 25 => trivial
  · rcases (show i = 18 ∨ i = 19 ∨ i = 20 ∨ i = 21 ∨ i = 22 ∨ i = 23 ∨ i = 24 by omega) with rfl | rfl | rfl | rfl | rfl | rfl | rfl
    · cases ho
      have h6 : A0.tmps[6]?.getD undef = .pointer (some ⟨b6, 0, none⟩) := hk 6 (by kernel_rfl)
      exact .same (exec_load 6 _ rfl stRow ⟨b6, 0, none⟩ [.string ⟨#[113]⟩, .slice (some ⟨b6v, 0, none⟩) 2 2, .int .i64 7] h6 rfl (O6.out.chg hN id).at_) rfl
    · cases ho
      exact .same (exec_move 8 _ rfl (hk 8 (by kernel_rfl))) rfl
    · cases ho
      have h64 : A0.tmps[64]?.getD undef = .slice (some aL) [pR].length cL := hin 19 64 (by kernel_rfl)
      exact .same (v := .pointer (some (aL.add (0 * 3)))) (by simp [go_sem, h64]) rfl
    · cases ho
      have h65 : A0.tmps[65]?.getD undef = .pointer (some (aL.add (0 * 3))) := hin 20 65 (by kernel_rfl)
      exact .same (exec_load 65 _ rfl stRow (aL.add (0 * 3)) csL h65 HLL.out (OAt.out.chg hN id)) rfl
    · cases ho
      have h63 : A0.tmps[63]?.getD undef = .agg #[.string ⟨#[113]⟩, .slice (some ⟨b6v, 0, none⟩) 2 2, .int .i64 7] := hin 18 63 (by kernel_rfl)
      have h66 : A0.tmps[66]?.getD undef = .agg csL.toArray := hin 21 66 (by kernel_rfl)
      refine .call (f := 12) (args := #[.agg #[.string ⟨#[113]⟩, .slice (some ⟨b6v, 0, none⟩) 2 2, .int .i64 7], .agg csL.toArray]) (W' := W) ?_ ((cmp_row W [.string ⟨#[113]⟩, .slice (some ⟨b6v, 0, none⟩) 2 2, .int .i64 7] csL (qR 7) pR (row_two (OV.out.chg hN id)) (ORow.out.chg hN)).mono ?_)
      · simp [go_sem, h63, h66, eg9]
      · rintro e w' ⟨rfl, hc⟩
        exact ⟨_, rfl, hc, by rw [ex_c]; rfl⟩
    · cases ho
      have h67 : A0.tmps[67]?.getD undef = .int .i64 1 := hin 22 67 (by kernel_rfl)
      exact .same (by simp [go_sem, h67]) rfl
    · cases ho
      have h62 : A0.tmps[62]?.getD undef = .bool true := hk 62 (by kernel_rfl)
      have h68 : A0.tmps[68]?.getD undef = .bool true := hin 23 68 (by kernel_rfl)
      exact .same (by simp [go_sem, h62, h68]) rfl
  obtain ⟨z63, z64, z65, z66, z67, z68, z69, rfl⟩ : ∃ z63 z64 z65 z66 z67 z68 z69, l = [z63, z64, z65, z66, z67, z68, z69] := by
    match l, hl with
    | [z63, z64, z65, z66, z67, z68, z69], _ => exact ⟨_, _, _, _, _, _, _, rfl⟩
  obtain rfl : z63 = .agg #[.string ⟨#[113]⟩, .slice (some ⟨b6v, 0, none⟩) 2 2, .int .i64 7] := hΦ 0 (by decide)
  obtain rfl : z64 = .slice (some aL) [pR].length cL := hΦ 1 (by decide)
  obtain rfl : z65 = .pointer (some (aL.add (0 * 3))) := hΦ 2 (by decide)
  obtain rfl : z66 = .agg csL.toArray := hΦ 3 (by decide)
  obtain rfl : z67 = .int .i64 1 := hΦ 4 (by decide)
  obtain rfl : z68 = .bool true := hΦ 5 (by decide)
  obtain rfl : z69 = .bool true := hΦ 6 (by decide)
  simp only [putsL, List.zip_cons_cons, List.zip_nil_left, List.zip_nil_right, List.zip, List.zipWith, Act.put, List.setIfInBounds_toArray, List.set_cons_succ, List.set_cons_zero]
  clear hΦ hl
  have PN := Lib.hid (ON.out.trans hN (fun _ _ x => x))
  clear hN
  refine AtN.list 25 26 (by kernel_rfl) ?_
  change wpList _ _ _ [_] _ _
  go_wp2_with fail
  change AtN _ _ _ 26 _ _
  refine AtN.done rfl ?_
  go_wp2_with fail
  go_ret
  exact ⟨rfl, PN.out⟩
end Go.Proofs.Ytfocjfnkcabbgaa
