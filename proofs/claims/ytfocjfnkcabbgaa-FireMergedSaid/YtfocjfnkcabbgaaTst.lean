/- builtin.Test. -/
import Derived.Test.YtfocjfnkcabbgaaOp
set_option linter.unusedVariables false
set_option linter.unusedSimpArgs false
namespace Go.Proofs.Ytfocjfnkcabbgaa
open Go.RowKit Go.Shelf

def tstB (j : Nat) (c : Int) : Bool := match j with | 0 => c == 0 | 1 => !(c == 0) | 2 => decide (c < 0) | 3 => decide (c ≤ 0) | 4 => decide (0 < c) | _ => decide (0 ≤ c)
def opT (j : Nat) : ByteArray := match j with | 0 => ⟨#[61, 61]⟩ | 1 => ⟨#[33, 61]⟩ | 2 => ⟨#[60]⟩ | 3 => ⟨#[60, 61]⟩ | 4 => ⟨#[62]⟩ | _ => ⟨#[62, 61]⟩
def testV (j : Nat) (a b : Vl) : Bool := rightV a && rightV b && tstB j (cmpV a b)

set_option maxHeartbeats 2000000 in
set_option maxRecDepth 100000 in
theorem test_r1 (w : World) (s : ByteArray) (a b : Vl) (ka : ∀ W, Calls Try.prog 58 #[.agg #[.int .i64 a.k, .int .i64 a.i, .string a.t, .slice none 0 0]] W fun e w' => e = .returned (.bool false) ∧ New W w') : Calls Try.prog 47 #[.string s, .agg #[.int .i64 a.k, .int .i64 a.i, .string a.t, .slice none 0 0], .agg #[.int .i64 b.k, .int .i64 b.i, .string b.t, .slice none 0 0]] w
    fun e w' => e = .returned (.bool false) ∧ New w w' := by
  have KA := Lib.hid ka
  clear ka
  have hb1 : Blk ((w.alloc (.cells #[.int .i64 a.k, .int .i64 a.i, .string a.t, .slice none 0 0] 37)).alloc (.cells #[.int .i64 b.k, .int .i64 b.i, .string b.t, .slice none 0 0] 37)) w.heap.size 37 #[.int .i64 a.k, .int .i64 a.i, .string a.t, .slice none 0 0] := (Blk.new w _ _).alloc _
  have hb2 : Blk ((w.alloc (.cells #[.int .i64 a.k, .int .i64 a.i, .string a.t, .slice none 0 0] 37)).alloc (.cells #[.int .i64 b.k, .int .i64 b.i, .string b.t, .slice none 0 0] 37)) (w.heap.size + 1) 37 #[.int .i64 b.k, .int .i64 b.i, .string b.t, .slice none 0 0] := by
    have := Blk.new (w.alloc (.cells #[.int .i64 a.k, .int .i64 a.i, .string a.t, .slice none 0 0] 37)) 37 #[.int .i64 b.k, .int .i64 b.i, .string b.t, .slice none 0 0]
    rwa [World.size_alloc] at this
  have hc : New w ((w.alloc (.cells #[.int .i64 a.k, .int .i64 a.i, .string a.t, .slice none 0 0] 37)).alloc (.cells #[.int .i64 b.k, .int .i64 b.i, .string b.t, .slice none 0 0] 37)) := ((Chg.refl w _).alloc _).alloc _
  have Ha := Lib.hid hb1.vcs
  have Hb := Lib.hid hb2.vcs
  have Hc := Lib.hid hc
  clear hb1 hb2 hc
  go_enter Try.func47, Try.ntmps47
  go_wp2_with first
    | (go_at_call 58; refine (KA.out _).mono ?_; rintro e w3 ⟨rfl, hc3⟩; replace Ha := Lib.hid (Ha.out.chg hc3 id); replace Hb := Lib.hid (Hb.out.chg hc3 id); replace Hc := Lib.hid (Hc.out.trans hc3 (fun _ _ x => x)); clear hc3)
    | ((with_reducible refine wpl_load rfl (.tmp 4) 37 rfl stVal4 ⟨w.heap.size, 0, none⟩ (vcs a) ?_ (vcl_len _) Ha.out ?_); exact rfl)
  go_ret
  exact ⟨rfl, Hc.out⟩

set_option maxHeartbeats 2000000 in
set_option maxRecDepth 100000 in
theorem test_r2 (w : World) (s : ByteArray) (a b : Vl) (ka : ∀ W, Calls Try.prog 58 #[.agg #[.int .i64 a.k, .int .i64 a.i, .string a.t, .slice none 0 0]] W fun e w' => e = .returned (.bool true) ∧ New W w')
    (kb : ∀ W, Calls Try.prog 58 #[.agg #[.int .i64 b.k, .int .i64 b.i, .string b.t, .slice none 0 0]] W fun e w' => e = .returned (.bool false) ∧ New W w') : Calls Try.prog 47 #[.string s, .agg #[.int .i64 a.k, .int .i64 a.i, .string a.t, .slice none 0 0], .agg #[.int .i64 b.k, .int .i64 b.i, .string b.t, .slice none 0 0]] w
    fun e w' => e = .returned (.bool false) ∧ New w w' := by
  have KA := Lib.hid ka
  have KB := Lib.hid kb
  clear ka kb
  have hb1 : Blk ((w.alloc (.cells #[.int .i64 a.k, .int .i64 a.i, .string a.t, .slice none 0 0] 37)).alloc (.cells #[.int .i64 b.k, .int .i64 b.i, .string b.t, .slice none 0 0] 37)) w.heap.size 37 #[.int .i64 a.k, .int .i64 a.i, .string a.t, .slice none 0 0] := (Blk.new w _ _).alloc _
  have hb2 : Blk ((w.alloc (.cells #[.int .i64 a.k, .int .i64 a.i, .string a.t, .slice none 0 0] 37)).alloc (.cells #[.int .i64 b.k, .int .i64 b.i, .string b.t, .slice none 0 0] 37)) (w.heap.size + 1) 37 #[.int .i64 b.k, .int .i64 b.i, .string b.t, .slice none 0 0] := by
    have := Blk.new (w.alloc (.cells #[.int .i64 a.k, .int .i64 a.i, .string a.t, .slice none 0 0] 37)) 37 #[.int .i64 b.k, .int .i64 b.i, .string b.t, .slice none 0 0]
    rwa [World.size_alloc] at this
  have hc : New w ((w.alloc (.cells #[.int .i64 a.k, .int .i64 a.i, .string a.t, .slice none 0 0] 37)).alloc (.cells #[.int .i64 b.k, .int .i64 b.i, .string b.t, .slice none 0 0] 37)) := ((Chg.refl w _).alloc _).alloc _
  have Ha := Lib.hid hb1.vcs
  have Hb := Lib.hid hb2.vcs
  have Hc := Lib.hid hc
  clear hb1 hb2 hc
  go_enter Try.func47, Try.ntmps47
  go_wp2_with first
    | (go_at_call 58; refine (KA.out _).mono ?_; rintro e w3 ⟨rfl, hc3⟩; replace Ha := Lib.hid (Ha.out.chg hc3 id); replace Hb := Lib.hid (Hb.out.chg hc3 id); replace Hc := Lib.hid (Hc.out.trans hc3 (fun _ _ x => x)); clear hc3)
    | ((with_reducible refine wpl_load rfl (.tmp 4) 37 rfl stVal4 ⟨w.heap.size, 0, none⟩ (vcs a) ?_ (vcl_len _) Ha.out ?_); exact rfl)
    | ((with_reducible refine wpl_loadg ?_ (.tmp 5) 37 rfl stVal4 ⟨w.heap.size + 1, 0, none⟩ (vcs b) ?_ (vcl_len _) Hb.out ?_); rfl; exact rfl)
  refine (KB.out _).mono ?_
  rintro e w4 ⟨rfl, hc4⟩
  replace Ha := Lib.hid (Ha.out.chg hc4 id)
  replace Hb := Lib.hid (Hb.out.chg hc4 id)
  replace Hc := Lib.hid (Hc.out.trans hc4 (fun _ _ x => x))
  clear hc4
  go_wp2_with fail
  go_ret
  exact ⟨rfl, Hc.out⟩

set_option maxHeartbeats 2000000 in
set_option maxRecDepth 100000 in
theorem test_0 (w : World) (a b : Vl) (ka : ∀ W, Calls Try.prog 58 #[.agg #[.int .i64 a.k, .int .i64 a.i, .string a.t, .slice none 0 0]] W fun e w' => e = .returned (.bool true) ∧ New W w')
    (kb : ∀ W, Calls Try.prog 58 #[.agg #[.int .i64 b.k, .int .i64 b.i, .string b.t, .slice none 0 0]] W fun e w' => e = .returned (.bool true) ∧ New W w') : Calls Try.prog 47 #[.string ⟨#[61, 61]⟩, .agg #[.int .i64 a.k, .int .i64 a.i, .string a.t, .slice none 0 0], .agg #[.int .i64 b.k, .int .i64 b.i, .string b.t, .slice none 0 0]] w
    fun e w' => e = .returned (.bool (tstB 0 (cmpV a b))) ∧ New w w' := by
  have KA := Lib.hid ka
  have KB := Lib.hid kb
  clear ka kb
  have kc := fun W => cmp_val a b W
  obtain ⟨c, hcc⟩ : ∃ c, cmpV a b = c := ⟨_, rfl⟩
  rw [hcc] at kc ⊢
  clear hcc
  have KC := Lib.hid kc
  clear kc
  have hb1 : Blk ((w.alloc (.cells #[.int .i64 a.k, .int .i64 a.i, .string a.t, .slice none 0 0] 37)).alloc (.cells #[.int .i64 b.k, .int .i64 b.i, .string b.t, .slice none 0 0] 37)) w.heap.size 37 #[.int .i64 a.k, .int .i64 a.i, .string a.t, .slice none 0 0] := (Blk.new w _ _).alloc _
  have hb2 : Blk ((w.alloc (.cells #[.int .i64 a.k, .int .i64 a.i, .string a.t, .slice none 0 0] 37)).alloc (.cells #[.int .i64 b.k, .int .i64 b.i, .string b.t, .slice none 0 0] 37)) (w.heap.size + 1) 37 #[.int .i64 b.k, .int .i64 b.i, .string b.t, .slice none 0 0] := by
    have := Blk.new (w.alloc (.cells #[.int .i64 a.k, .int .i64 a.i, .string a.t, .slice none 0 0] 37)) 37 #[.int .i64 b.k, .int .i64 b.i, .string b.t, .slice none 0 0]
    rwa [World.size_alloc] at this
  have hc : New w ((w.alloc (.cells #[.int .i64 a.k, .int .i64 a.i, .string a.t, .slice none 0 0] 37)).alloc (.cells #[.int .i64 b.k, .int .i64 b.i, .string b.t, .slice none 0 0] 37)) := ((Chg.refl w _).alloc _).alloc _
  have Ha := Lib.hid hb1.vcs
  have Hb := Lib.hid hb2.vcs
  have Hc := Lib.hid hc
  clear hb1 hb2 hc
  go_enter Try.func47, Try.ntmps47
  go_wp2_with first
    | (go_at_call 58; refine (KA.out _).mono ?_; rintro e w3 ⟨rfl, hc3⟩; replace Ha := Lib.hid (Ha.out.chg hc3 id); replace Hb := Lib.hid (Hb.out.chg hc3 id); replace Hc := Lib.hid (Hc.out.trans hc3 (fun _ _ x => x)); clear hc3)
    | ((with_reducible refine wpl_load rfl (.tmp 4) 37 rfl stVal4 ⟨w.heap.size, 0, none⟩ (vcs a) ?_ (vcl_len _) Ha.out ?_); exact rfl)
    | ((with_reducible refine wpl_loadg ?_ (.tmp 5) 37 rfl stVal4 ⟨w.heap.size + 1, 0, none⟩ (vcs b) ?_ (vcl_len _) Hb.out ?_); rfl; exact rfl)
  refine (KB.out _).mono ?_
  rintro e w4 ⟨rfl, hc4⟩
  replace Ha := Lib.hid (Ha.out.chg hc4 id)
  replace Hb := Lib.hid (Hb.out.chg hc4 id)
  replace Hc := Lib.hid (Hc.out.trans hc4 (fun _ _ x => x))
  clear hc4
  go_wp2_with first
    | (go_at_call 26; refine (KC.out _).mono ?_; rintro e w5 ⟨rfl, hc5⟩; replace Ha := Lib.hid (Ha.out.chg hc5 id); replace Hb := Lib.hid (Hb.out.chg hc5 id); replace Hc := Lib.hid (Hc.out.trans hc5 (fun _ _ x => x)); clear hc5)
    | ((with_reducible refine wpl_load rfl (.tmp 4) 37 rfl stVal4 ⟨w.heap.size, 0, none⟩ (vcs a) ?_ (vcl_len _) Ha.out ?_); exact rfl)
    | ((with_reducible refine wpl_load rfl (.tmp 5) 37 rfl stVal4 ⟨w.heap.size + 1, 0, none⟩ (vcs b) ?_ (vcl_len _) Hb.out ?_); exact rfl)
  go_ret
  exact ⟨by first | rfl | (unfold tstB; simp) | (unfold tstB; simp; omega), Hc.out⟩

set_option maxHeartbeats 2000000 in
set_option maxRecDepth 100000 in
theorem test_1 (w : World) (a b : Vl) (ka : ∀ W, Calls Try.prog 58 #[.agg #[.int .i64 a.k, .int .i64 a.i, .string a.t, .slice none 0 0]] W fun e w' => e = .returned (.bool true) ∧ New W w')
    (kb : ∀ W, Calls Try.prog 58 #[.agg #[.int .i64 b.k, .int .i64 b.i, .string b.t, .slice none 0 0]] W fun e w' => e = .returned (.bool true) ∧ New W w') : Calls Try.prog 47 #[.string ⟨#[33, 61]⟩, .agg #[.int .i64 a.k, .int .i64 a.i, .string a.t, .slice none 0 0], .agg #[.int .i64 b.k, .int .i64 b.i, .string b.t, .slice none 0 0]] w
    fun e w' => e = .returned (.bool (tstB 1 (cmpV a b))) ∧ New w w' := by
  have KA := Lib.hid ka
  have KB := Lib.hid kb
  clear ka kb
  have kc := fun W => cmp_val a b W
  obtain ⟨c, hcc⟩ : ∃ c, cmpV a b = c := ⟨_, rfl⟩
  rw [hcc] at kc ⊢
  clear hcc
  have KC := Lib.hid kc
  clear kc
  have hb1 : Blk ((w.alloc (.cells #[.int .i64 a.k, .int .i64 a.i, .string a.t, .slice none 0 0] 37)).alloc (.cells #[.int .i64 b.k, .int .i64 b.i, .string b.t, .slice none 0 0] 37)) w.heap.size 37 #[.int .i64 a.k, .int .i64 a.i, .string a.t, .slice none 0 0] := (Blk.new w _ _).alloc _
  have hb2 : Blk ((w.alloc (.cells #[.int .i64 a.k, .int .i64 a.i, .string a.t, .slice none 0 0] 37)).alloc (.cells #[.int .i64 b.k, .int .i64 b.i, .string b.t, .slice none 0 0] 37)) (w.heap.size + 1) 37 #[.int .i64 b.k, .int .i64 b.i, .string b.t, .slice none 0 0] := by
    have := Blk.new (w.alloc (.cells #[.int .i64 a.k, .int .i64 a.i, .string a.t, .slice none 0 0] 37)) 37 #[.int .i64 b.k, .int .i64 b.i, .string b.t, .slice none 0 0]
    rwa [World.size_alloc] at this
  have hc : New w ((w.alloc (.cells #[.int .i64 a.k, .int .i64 a.i, .string a.t, .slice none 0 0] 37)).alloc (.cells #[.int .i64 b.k, .int .i64 b.i, .string b.t, .slice none 0 0] 37)) := ((Chg.refl w _).alloc _).alloc _
  have Ha := Lib.hid hb1.vcs
  have Hb := Lib.hid hb2.vcs
  have Hc := Lib.hid hc
  clear hb1 hb2 hc
  go_enter Try.func47, Try.ntmps47
  go_wp2_with first
    | (go_at_call 58; refine (KA.out _).mono ?_; rintro e w3 ⟨rfl, hc3⟩; replace Ha := Lib.hid (Ha.out.chg hc3 id); replace Hb := Lib.hid (Hb.out.chg hc3 id); replace Hc := Lib.hid (Hc.out.trans hc3 (fun _ _ x => x)); clear hc3)
    | ((with_reducible refine wpl_load rfl (.tmp 4) 37 rfl stVal4 ⟨w.heap.size, 0, none⟩ (vcs a) ?_ (vcl_len _) Ha.out ?_); exact rfl)
    | ((with_reducible refine wpl_loadg ?_ (.tmp 5) 37 rfl stVal4 ⟨w.heap.size + 1, 0, none⟩ (vcs b) ?_ (vcl_len _) Hb.out ?_); rfl; exact rfl)
  refine (KB.out _).mono ?_
  rintro e w4 ⟨rfl, hc4⟩
  replace Ha := Lib.hid (Ha.out.chg hc4 id)
  replace Hb := Lib.hid (Hb.out.chg hc4 id)
  replace Hc := Lib.hid (Hc.out.trans hc4 (fun _ _ x => x))
  clear hc4
  go_wp2_with first
    | (go_at_call 26; refine (KC.out _).mono ?_; rintro e w5 ⟨rfl, hc5⟩; replace Ha := Lib.hid (Ha.out.chg hc5 id); replace Hb := Lib.hid (Hb.out.chg hc5 id); replace Hc := Lib.hid (Hc.out.trans hc5 (fun _ _ x => x)); clear hc5)
    | ((with_reducible refine wpl_load rfl (.tmp 4) 37 rfl stVal4 ⟨w.heap.size, 0, none⟩ (vcs a) ?_ (vcl_len _) Ha.out ?_); exact rfl)
    | ((with_reducible refine wpl_load rfl (.tmp 5) 37 rfl stVal4 ⟨w.heap.size + 1, 0, none⟩ (vcs b) ?_ (vcl_len _) Hb.out ?_); exact rfl)
  go_ret
  exact ⟨by first | rfl | (unfold tstB; simp) | (unfold tstB; simp; omega), Hc.out⟩

set_option maxHeartbeats 2000000 in
set_option maxRecDepth 100000 in
theorem test_2 (w : World) (a b : Vl) (ka : ∀ W, Calls Try.prog 58 #[.agg #[.int .i64 a.k, .int .i64 a.i, .string a.t, .slice none 0 0]] W fun e w' => e = .returned (.bool true) ∧ New W w')
    (kb : ∀ W, Calls Try.prog 58 #[.agg #[.int .i64 b.k, .int .i64 b.i, .string b.t, .slice none 0 0]] W fun e w' => e = .returned (.bool true) ∧ New W w') : Calls Try.prog 47 #[.string ⟨#[60]⟩, .agg #[.int .i64 a.k, .int .i64 a.i, .string a.t, .slice none 0 0], .agg #[.int .i64 b.k, .int .i64 b.i, .string b.t, .slice none 0 0]] w
    fun e w' => e = .returned (.bool (tstB 2 (cmpV a b))) ∧ New w w' := by
  have KA := Lib.hid ka
  have KB := Lib.hid kb
  clear ka kb
  have kc := fun W => cmp_val a b W
  obtain ⟨c, hcc⟩ : ∃ c, cmpV a b = c := ⟨_, rfl⟩
  rw [hcc] at kc ⊢
  clear hcc
  have KC := Lib.hid kc
  clear kc
  have hb1 : Blk ((w.alloc (.cells #[.int .i64 a.k, .int .i64 a.i, .string a.t, .slice none 0 0] 37)).alloc (.cells #[.int .i64 b.k, .int .i64 b.i, .string b.t, .slice none 0 0] 37)) w.heap.size 37 #[.int .i64 a.k, .int .i64 a.i, .string a.t, .slice none 0 0] := (Blk.new w _ _).alloc _
  have hb2 : Blk ((w.alloc (.cells #[.int .i64 a.k, .int .i64 a.i, .string a.t, .slice none 0 0] 37)).alloc (.cells #[.int .i64 b.k, .int .i64 b.i, .string b.t, .slice none 0 0] 37)) (w.heap.size + 1) 37 #[.int .i64 b.k, .int .i64 b.i, .string b.t, .slice none 0 0] := by
    have := Blk.new (w.alloc (.cells #[.int .i64 a.k, .int .i64 a.i, .string a.t, .slice none 0 0] 37)) 37 #[.int .i64 b.k, .int .i64 b.i, .string b.t, .slice none 0 0]
    rwa [World.size_alloc] at this
  have hc : New w ((w.alloc (.cells #[.int .i64 a.k, .int .i64 a.i, .string a.t, .slice none 0 0] 37)).alloc (.cells #[.int .i64 b.k, .int .i64 b.i, .string b.t, .slice none 0 0] 37)) := ((Chg.refl w _).alloc _).alloc _
  have Ha := Lib.hid hb1.vcs
  have Hb := Lib.hid hb2.vcs
  have Hc := Lib.hid hc
  clear hb1 hb2 hc
  go_enter Try.func47, Try.ntmps47
  go_wp2_with first
    | (go_at_call 58; refine (KA.out _).mono ?_; rintro e w3 ⟨rfl, hc3⟩; replace Ha := Lib.hid (Ha.out.chg hc3 id); replace Hb := Lib.hid (Hb.out.chg hc3 id); replace Hc := Lib.hid (Hc.out.trans hc3 (fun _ _ x => x)); clear hc3)
    | ((with_reducible refine wpl_load rfl (.tmp 4) 37 rfl stVal4 ⟨w.heap.size, 0, none⟩ (vcs a) ?_ (vcl_len _) Ha.out ?_); exact rfl)
    | ((with_reducible refine wpl_loadg ?_ (.tmp 5) 37 rfl stVal4 ⟨w.heap.size + 1, 0, none⟩ (vcs b) ?_ (vcl_len _) Hb.out ?_); rfl; exact rfl)
  refine (KB.out _).mono ?_
  rintro e w4 ⟨rfl, hc4⟩
  replace Ha := Lib.hid (Ha.out.chg hc4 id)
  replace Hb := Lib.hid (Hb.out.chg hc4 id)
  replace Hc := Lib.hid (Hc.out.trans hc4 (fun _ _ x => x))
  clear hc4
  go_wp2_with first
    | (go_at_call 26; refine (KC.out _).mono ?_; rintro e w5 ⟨rfl, hc5⟩; replace Ha := Lib.hid (Ha.out.chg hc5 id); replace Hb := Lib.hid (Hb.out.chg hc5 id); replace Hc := Lib.hid (Hc.out.trans hc5 (fun _ _ x => x)); clear hc5)
    | ((with_reducible refine wpl_load rfl (.tmp 4) 37 rfl stVal4 ⟨w.heap.size, 0, none⟩ (vcs a) ?_ (vcl_len _) Ha.out ?_); exact rfl)
    | ((with_reducible refine wpl_load rfl (.tmp 5) 37 rfl stVal4 ⟨w.heap.size + 1, 0, none⟩ (vcs b) ?_ (vcl_len _) Hb.out ?_); exact rfl)
  go_ret
  exact ⟨by first | rfl | (unfold tstB; simp) | (unfold tstB; simp; omega), Hc.out⟩

set_option maxHeartbeats 2000000 in
set_option maxRecDepth 100000 in
theorem test_3 (w : World) (a b : Vl) (ka : ∀ W, Calls Try.prog 58 #[.agg #[.int .i64 a.k, .int .i64 a.i, .string a.t, .slice none 0 0]] W fun e w' => e = .returned (.bool true) ∧ New W w')
    (kb : ∀ W, Calls Try.prog 58 #[.agg #[.int .i64 b.k, .int .i64 b.i, .string b.t, .slice none 0 0]] W fun e w' => e = .returned (.bool true) ∧ New W w') : Calls Try.prog 47 #[.string ⟨#[60, 61]⟩, .agg #[.int .i64 a.k, .int .i64 a.i, .string a.t, .slice none 0 0], .agg #[.int .i64 b.k, .int .i64 b.i, .string b.t, .slice none 0 0]] w
    fun e w' => e = .returned (.bool (tstB 3 (cmpV a b))) ∧ New w w' := by
  have KA := Lib.hid ka
  have KB := Lib.hid kb
  clear ka kb
  have kc := fun W => cmp_val a b W
  obtain ⟨c, hcc⟩ : ∃ c, cmpV a b = c := ⟨_, rfl⟩
  rw [hcc] at kc ⊢
  clear hcc
  have KC := Lib.hid kc
  clear kc
  have hb1 : Blk ((w.alloc (.cells #[.int .i64 a.k, .int .i64 a.i, .string a.t, .slice none 0 0] 37)).alloc (.cells #[.int .i64 b.k, .int .i64 b.i, .string b.t, .slice none 0 0] 37)) w.heap.size 37 #[.int .i64 a.k, .int .i64 a.i, .string a.t, .slice none 0 0] := (Blk.new w _ _).alloc _
  have hb2 : Blk ((w.alloc (.cells #[.int .i64 a.k, .int .i64 a.i, .string a.t, .slice none 0 0] 37)).alloc (.cells #[.int .i64 b.k, .int .i64 b.i, .string b.t, .slice none 0 0] 37)) (w.heap.size + 1) 37 #[.int .i64 b.k, .int .i64 b.i, .string b.t, .slice none 0 0] := by
    have := Blk.new (w.alloc (.cells #[.int .i64 a.k, .int .i64 a.i, .string a.t, .slice none 0 0] 37)) 37 #[.int .i64 b.k, .int .i64 b.i, .string b.t, .slice none 0 0]
    rwa [World.size_alloc] at this
  have hc : New w ((w.alloc (.cells #[.int .i64 a.k, .int .i64 a.i, .string a.t, .slice none 0 0] 37)).alloc (.cells #[.int .i64 b.k, .int .i64 b.i, .string b.t, .slice none 0 0] 37)) := ((Chg.refl w _).alloc _).alloc _
  have Ha := Lib.hid hb1.vcs
  have Hb := Lib.hid hb2.vcs
  have Hc := Lib.hid hc
  clear hb1 hb2 hc
  go_enter Try.func47, Try.ntmps47
  go_wp2_with first
    | (go_at_call 58; refine (KA.out _).mono ?_; rintro e w3 ⟨rfl, hc3⟩; replace Ha := Lib.hid (Ha.out.chg hc3 id); replace Hb := Lib.hid (Hb.out.chg hc3 id); replace Hc := Lib.hid (Hc.out.trans hc3 (fun _ _ x => x)); clear hc3)
    | ((with_reducible refine wpl_load rfl (.tmp 4) 37 rfl stVal4 ⟨w.heap.size, 0, none⟩ (vcs a) ?_ (vcl_len _) Ha.out ?_); exact rfl)
    | ((with_reducible refine wpl_loadg ?_ (.tmp 5) 37 rfl stVal4 ⟨w.heap.size + 1, 0, none⟩ (vcs b) ?_ (vcl_len _) Hb.out ?_); rfl; exact rfl)
  refine (KB.out _).mono ?_
  rintro e w4 ⟨rfl, hc4⟩
  replace Ha := Lib.hid (Ha.out.chg hc4 id)
  replace Hb := Lib.hid (Hb.out.chg hc4 id)
  replace Hc := Lib.hid (Hc.out.trans hc4 (fun _ _ x => x))
  clear hc4
  go_wp2_with first
    | (go_at_call 26; refine (KC.out _).mono ?_; rintro e w5 ⟨rfl, hc5⟩; replace Ha := Lib.hid (Ha.out.chg hc5 id); replace Hb := Lib.hid (Hb.out.chg hc5 id); replace Hc := Lib.hid (Hc.out.trans hc5 (fun _ _ x => x)); clear hc5)
    | ((with_reducible refine wpl_load rfl (.tmp 4) 37 rfl stVal4 ⟨w.heap.size, 0, none⟩ (vcs a) ?_ (vcl_len _) Ha.out ?_); exact rfl)
    | ((with_reducible refine wpl_load rfl (.tmp 5) 37 rfl stVal4 ⟨w.heap.size + 1, 0, none⟩ (vcs b) ?_ (vcl_len _) Hb.out ?_); exact rfl)
  go_ret
  exact ⟨by first | rfl | (unfold tstB; simp) | (unfold tstB; simp; omega), Hc.out⟩

set_option maxHeartbeats 2000000 in
set_option maxRecDepth 100000 in
theorem test_4 (w : World) (a b : Vl) (ka : ∀ W, Calls Try.prog 58 #[.agg #[.int .i64 a.k, .int .i64 a.i, .string a.t, .slice none 0 0]] W fun e w' => e = .returned (.bool true) ∧ New W w')
    (kb : ∀ W, Calls Try.prog 58 #[.agg #[.int .i64 b.k, .int .i64 b.i, .string b.t, .slice none 0 0]] W fun e w' => e = .returned (.bool true) ∧ New W w') : Calls Try.prog 47 #[.string ⟨#[62]⟩, .agg #[.int .i64 a.k, .int .i64 a.i, .string a.t, .slice none 0 0], .agg #[.int .i64 b.k, .int .i64 b.i, .string b.t, .slice none 0 0]] w
    fun e w' => e = .returned (.bool (tstB 4 (cmpV a b))) ∧ New w w' := by
  have KA := Lib.hid ka
  have KB := Lib.hid kb
  clear ka kb
  have kc := fun W => cmp_val a b W
  obtain ⟨c, hcc⟩ : ∃ c, cmpV a b = c := ⟨_, rfl⟩
  rw [hcc] at kc ⊢
  clear hcc
  have KC := Lib.hid kc
  clear kc
  have hb1 : Blk ((w.alloc (.cells #[.int .i64 a.k, .int .i64 a.i, .string a.t, .slice none 0 0] 37)).alloc (.cells #[.int .i64 b.k, .int .i64 b.i, .string b.t, .slice none 0 0] 37)) w.heap.size 37 #[.int .i64 a.k, .int .i64 a.i, .string a.t, .slice none 0 0] := (Blk.new w _ _).alloc _
  have hb2 : Blk ((w.alloc (.cells #[.int .i64 a.k, .int .i64 a.i, .string a.t, .slice none 0 0] 37)).alloc (.cells #[.int .i64 b.k, .int .i64 b.i, .string b.t, .slice none 0 0] 37)) (w.heap.size + 1) 37 #[.int .i64 b.k, .int .i64 b.i, .string b.t, .slice none 0 0] := by
    have := Blk.new (w.alloc (.cells #[.int .i64 a.k, .int .i64 a.i, .string a.t, .slice none 0 0] 37)) 37 #[.int .i64 b.k, .int .i64 b.i, .string b.t, .slice none 0 0]
    rwa [World.size_alloc] at this
  have hc : New w ((w.alloc (.cells #[.int .i64 a.k, .int .i64 a.i, .string a.t, .slice none 0 0] 37)).alloc (.cells #[.int .i64 b.k, .int .i64 b.i, .string b.t, .slice none 0 0] 37)) := ((Chg.refl w _).alloc _).alloc _
  have Ha := Lib.hid hb1.vcs
  have Hb := Lib.hid hb2.vcs
  have Hc := Lib.hid hc
  clear hb1 hb2 hc
  go_enter Try.func47, Try.ntmps47
  go_wp2_with first
    | (go_at_call 58; refine (KA.out _).mono ?_; rintro e w3 ⟨rfl, hc3⟩; replace Ha := Lib.hid (Ha.out.chg hc3 id); replace Hb := Lib.hid (Hb.out.chg hc3 id); replace Hc := Lib.hid (Hc.out.trans hc3 (fun _ _ x => x)); clear hc3)
    | ((with_reducible refine wpl_load rfl (.tmp 4) 37 rfl stVal4 ⟨w.heap.size, 0, none⟩ (vcs a) ?_ (vcl_len _) Ha.out ?_); exact rfl)
    | ((with_reducible refine wpl_loadg ?_ (.tmp 5) 37 rfl stVal4 ⟨w.heap.size + 1, 0, none⟩ (vcs b) ?_ (vcl_len _) Hb.out ?_); rfl; exact rfl)
  refine (KB.out _).mono ?_
  rintro e w4 ⟨rfl, hc4⟩
  replace Ha := Lib.hid (Ha.out.chg hc4 id)
  replace Hb := Lib.hid (Hb.out.chg hc4 id)
  replace Hc := Lib.hid (Hc.out.trans hc4 (fun _ _ x => x))
  clear hc4
  go_wp2_with first
    | (go_at_call 26; refine (KC.out _).mono ?_; rintro e w5 ⟨rfl, hc5⟩; replace Ha := Lib.hid (Ha.out.chg hc5 id); replace Hb := Lib.hid (Hb.out.chg hc5 id); replace Hc := Lib.hid (Hc.out.trans hc5 (fun _ _ x => x)); clear hc5)
    | ((with_reducible refine wpl_load rfl (.tmp 4) 37 rfl stVal4 ⟨w.heap.size, 0, none⟩ (vcs a) ?_ (vcl_len _) Ha.out ?_); exact rfl)
    | ((with_reducible refine wpl_load rfl (.tmp 5) 37 rfl stVal4 ⟨w.heap.size + 1, 0, none⟩ (vcs b) ?_ (vcl_len _) Hb.out ?_); exact rfl)
  go_ret
  exact ⟨by first | rfl | (unfold tstB; simp) | (unfold tstB; simp; omega), Hc.out⟩

set_option maxHeartbeats 2000000 in
set_option maxRecDepth 100000 in
theorem test_5 (w : World) (a b : Vl) (ka : ∀ W, Calls Try.prog 58 #[.agg #[.int .i64 a.k, .int .i64 a.i, .string a.t, .slice none 0 0]] W fun e w' => e = .returned (.bool true) ∧ New W w')
    (kb : ∀ W, Calls Try.prog 58 #[.agg #[.int .i64 b.k, .int .i64 b.i, .string b.t, .slice none 0 0]] W fun e w' => e = .returned (.bool true) ∧ New W w') : Calls Try.prog 47 #[.string ⟨#[62, 61]⟩, .agg #[.int .i64 a.k, .int .i64 a.i, .string a.t, .slice none 0 0], .agg #[.int .i64 b.k, .int .i64 b.i, .string b.t, .slice none 0 0]] w
    fun e w' => e = .returned (.bool (tstB 5 (cmpV a b))) ∧ New w w' := by
  have KA := Lib.hid ka
  have KB := Lib.hid kb
  clear ka kb
  have kc := fun W => cmp_val a b W
  obtain ⟨c, hcc⟩ : ∃ c, cmpV a b = c := ⟨_, rfl⟩
  rw [hcc] at kc ⊢
  clear hcc
  have KC := Lib.hid kc
  clear kc
  have hb1 : Blk ((w.alloc (.cells #[.int .i64 a.k, .int .i64 a.i, .string a.t, .slice none 0 0] 37)).alloc (.cells #[.int .i64 b.k, .int .i64 b.i, .string b.t, .slice none 0 0] 37)) w.heap.size 37 #[.int .i64 a.k, .int .i64 a.i, .string a.t, .slice none 0 0] := (Blk.new w _ _).alloc _
  have hb2 : Blk ((w.alloc (.cells #[.int .i64 a.k, .int .i64 a.i, .string a.t, .slice none 0 0] 37)).alloc (.cells #[.int .i64 b.k, .int .i64 b.i, .string b.t, .slice none 0 0] 37)) (w.heap.size + 1) 37 #[.int .i64 b.k, .int .i64 b.i, .string b.t, .slice none 0 0] := by
    have := Blk.new (w.alloc (.cells #[.int .i64 a.k, .int .i64 a.i, .string a.t, .slice none 0 0] 37)) 37 #[.int .i64 b.k, .int .i64 b.i, .string b.t, .slice none 0 0]
    rwa [World.size_alloc] at this
  have hc : New w ((w.alloc (.cells #[.int .i64 a.k, .int .i64 a.i, .string a.t, .slice none 0 0] 37)).alloc (.cells #[.int .i64 b.k, .int .i64 b.i, .string b.t, .slice none 0 0] 37)) := ((Chg.refl w _).alloc _).alloc _
  have Ha := Lib.hid hb1.vcs
  have Hb := Lib.hid hb2.vcs
  have Hc := Lib.hid hc
  clear hb1 hb2 hc
  go_enter Try.func47, Try.ntmps47
  go_wp2_with first
    | (go_at_call 58; refine (KA.out _).mono ?_; rintro e w3 ⟨rfl, hc3⟩; replace Ha := Lib.hid (Ha.out.chg hc3 id); replace Hb := Lib.hid (Hb.out.chg hc3 id); replace Hc := Lib.hid (Hc.out.trans hc3 (fun _ _ x => x)); clear hc3)
    | ((with_reducible refine wpl_load rfl (.tmp 4) 37 rfl stVal4 ⟨w.heap.size, 0, none⟩ (vcs a) ?_ (vcl_len _) Ha.out ?_); exact rfl)
    | ((with_reducible refine wpl_loadg ?_ (.tmp 5) 37 rfl stVal4 ⟨w.heap.size + 1, 0, none⟩ (vcs b) ?_ (vcl_len _) Hb.out ?_); rfl; exact rfl)
  refine (KB.out _).mono ?_
  rintro e w4 ⟨rfl, hc4⟩
  replace Ha := Lib.hid (Ha.out.chg hc4 id)
  replace Hb := Lib.hid (Hb.out.chg hc4 id)
  replace Hc := Lib.hid (Hc.out.trans hc4 (fun _ _ x => x))
  clear hc4
  go_wp2_with first
    | (go_at_call 26; refine (KC.out _).mono ?_; rintro e w5 ⟨rfl, hc5⟩; replace Ha := Lib.hid (Ha.out.chg hc5 id); replace Hb := Lib.hid (Hb.out.chg hc5 id); replace Hc := Lib.hid (Hc.out.trans hc5 (fun _ _ x => x)); clear hc5)
    | ((with_reducible refine wpl_load rfl (.tmp 4) 37 rfl stVal4 ⟨w.heap.size, 0, none⟩ (vcs a) ?_ (vcl_len _) Ha.out ?_); exact rfl)
    | ((with_reducible refine wpl_load rfl (.tmp 5) 37 rfl stVal4 ⟨w.heap.size + 1, 0, none⟩ (vcs b) ?_ (vcl_len _) Hb.out ?_); exact rfl)
  go_ret
  exact ⟨by first | rfl | (unfold tstB; simp) | (unfold tstB; simp; omega), Hc.out⟩

/-- builtin.Test. -/
theorem test_val (w : World) (j : Nat) (a b : Vl) (ha : okV a) (hb : okV b) (ha0 : -9223372036854775808 ≤ a.i) (ha1 : a.i ≤ 9223372036854775807) (hb0 : -9223372036854775808 ≤ b.i) (hb1 : b.i ≤ 9223372036854775807) :
    Calls Try.prog 47 #[.string (opT j), vval a, vval b] w fun e w' => e = .returned (.bool (testV j a b)) ∧ New w w' := by
  have ra := fun W => right_val W a ha ha0 ha1
  have rb := fun W => right_val W b hb hb0 hb1
  cases hqa : rightV a with
  | false =>
    rw [hqa] at ra
    have : testV j a b = false := by unfold testV; rw [hqa]; rfl
    rw [this]
    exact test_r1 w _ a b ra
  | true =>
    rw [hqa] at ra
    cases hqb : rightV b with
    | false =>
      rw [hqb] at rb
      have : testV j a b = false := by unfold testV; rw [hqa, hqb]; rfl
      rw [this]
      exact test_r2 w _ a b ra rb
    | true =>
      rw [hqb] at rb
      have : testV j a b = tstB j (cmpV a b) := by unfold testV; rw [hqa, hqb]; rfl
      rw [this]
      match j with
      | 0 => exact test_0 w a b ra rb
      | 1 => exact test_1 w a b ra rb
      | 2 => exact test_2 w a b ra rb
      | 3 => exact test_3 w a b ra rb
      | 4 => exact test_4 w a b ra rb
      | _ + 5 => exact test_5 w a b ra rb
end Go.Proofs.Ytfocjfnkcabbgaa
