/- The laws of graphs: Edges. -/
import Derived.Test.YtffmalagochakaaGra1
import Derived.Deep.CutRange
set_option linter.unusedVariables false
set_option linter.unusedSimpArgs false
namespace Go.Proofs.Ytffmalagochakaa
open Go.RowKit Go.Shelf

/-- An edge of the laws. -/
structure Ed.Raw (e : Ed) : Prop where
  a : e.a ∈ nmL
  b : e.b ∈ nmL
  lo : 0 ≤ e.c
  hi : e.c ≤ 6
def Ed.turn (e : Ed) : Ed := ⟨e.b, e.a, e.c⟩
def EdgesPost (w : World) (both : Bool) (e : Ending) (w' : World) : Prop := ∃ (v : Value) (E : List Ed), e = .returned v ∧ Own w' w.heap.size 40 3 v (E.map edC) ∧ E.length ≤ 24 ∧ (∀ x ∈ E, x.Raw) ∧ (both = true → ∀ x ∈ E, x.turn ∈ E) ∧ New w w'
theorem nm_get {p : Nat} (hp : p < 5) : ∃ s : ByteArray, s ∈ nmL ∧ ∀ W b, Blk W b 9 #[.string ⟨#[97]⟩, .string ⟨#[98]⟩, .string ⟨#[99]⟩, .string ⟨#[100]⟩, .string ⟨#[101]⟩] → W.cell? ⟨b, p, none⟩ = some (.string s) := by
  rcases (show p = 0 ∨ p = 1 ∨ p = 2 ∨ p = 3 ∨ p = 4 by omega) with rfl | rfl | rfl | rfl | rfl
  · exact ⟨_, .head _, fun W b h => h.cell 0⟩
  · exact ⟨_, .tail _ (.head _), fun W b h => h.cell 1⟩
  · exact ⟨_, .tail _ (.tail _ (.head _)), fun W b h => h.cell 2⟩
  · exact ⟨_, .tail _ (.tail _ (.tail _ (.head _))), fun W b h => h.cell 3⟩
  · exact ⟨_, .tail _ (.tail _ (.tail _ (.tail _ (.head _)))), fun W b h => h.cell 4⟩
theorem ed_one (e : Ed) : ∀ u ∈ edC e, u.oneCell' = true := by
  intro u hu
  simp only [edC, List.mem_cons, List.not_mem_nil, or_false] at hu
  rcases hu with rfl | rfl | rfl <;> rfl

set_option maxHeartbeats 8000000 in
set_option maxRecDepth 100000 in
theorem edges20 (w : World) (v : Value) (n : Nat) (X : Nat → Int) (hx : IntsAt w v 3 n X) (both : Bool) :
    Calls Try.prog 9 #[v, .bool both] w (EdgesPost w both) := by
  obtain ⟨⟨A, c, rfl, hnc, hcm, hat⟩, hbd⟩ := hx
  have hm := hcm
  unfold maxLen at hm
  have Hat := Lib.hid hat
  have Hbd := Lib.hid hbd
  clear hat hbd
  have eg10 : ∀ (args : Array Value) (w : World), (callFunc 10 args).run Try.prog w = .ok (.enter 10 args) w := enters_of Try.func10 (by kernel_rfl) rfl
  have eg11 : ∀ (args : Array Value) (w : World), (callFunc 11 args).run Try.prog w = .ok (.enter 11 args) w := enters_of Try.func11 (by kernel_rfl) rfl
  go_enter Try.func9, Try.ntmps9
  go_wp2_with fail
  go_loopw [5, 6] (fun u5 u6 wr => ∃ (i : Nat) (E : List Ed), i ≤ n ∧ i ≤ 12 ∧ u6 = .int .i64 i ∧ E.length ≤ 2 * i ∧ Own wr w.heap.size 40 3 u5 (E.map edC) ∧ (∀ x ∈ E, x.Raw) ∧ (both = true → ∀ x ∈ E, x.turn ∈ E) ∧ New w wr) (fun _ u _ => 12 - (intOf u).toNat)
  case atStart => exact ⟨0, [], Nat.zero_le _, by omega, rfl, Nat.le_refl _, Own.nil _ _ _ _, fun x hx => (by cases hx), fun _ x hx => (by cases hx), Chg.refl _ _⟩
  case round =>
    obtain ⟨i, E, hin, hi12, rfl, hEl, hov, hraw, hboth, hN⟩ := hrel
    have HOv := Lib.hid hov
    have HRaw := Lib.hid hraw
    have HBoth := Lib.hid hboth
    have HNw := Lib.hid hN
    have HEl := Lib.hid hEl
    clear hov hraw hboth hN hEl
    by_cases hgo : i < n ∧ i < 12
    · obtain ⟨hlt, hi12'⟩ := hgo
      have l1 : decide ((i : Int) < (n : Int)) = true := by simpa using hlt
      have l1' : decide (i < n) = true := by simpa using hlt
      have l2 : decide ((i : Int) < 12) = true := by simp; omega
      have l2' : decide (i < 12) = true := by simp; omega
      obtain ⟨la, rfl, hcell⟩ := Hat.out (by omega)
      have q0 : (0 : Int) ≤ (i : Int) := by omega
      have q1 : (i : Int) < (n : Int) := by omega
      obtain ⟨p0, hp0⟩ : ∃ p : Nat, pk (X (i * 3)) 5 = p := ⟨(pk (X (i * 3)) 5).toNat, by have := pk_lo (X (i * 3)) 5 (by omega); omega⟩
      have h05 : p0 < 5 := by have := pk_hi (X (i * 3)) 5 (by omega); omega
      obtain ⟨p1, hp1⟩ : ∃ p : Nat, pk (X (i * 3 + 1)) 5 = p := ⟨(pk (X (i * 3 + 1)) 5).toNat, by have := pk_lo (X (i * 3 + 1)) 5 (by omega); omega⟩
      have h15 : p1 < 5 := by have := pk_hi (X (i * 3 + 1)) 5 (by omega); omega
      obtain ⟨p2, hp2⟩ : ∃ p : Int, pk (X (i * 3 + 2)) 7 = p := ⟨_, rfl⟩
      have h27 : 0 ≤ p2 ∧ p2 ≤ 6 := by rw [← hp2]; have := pk_lo (X (i * 3 + 2)) 7 (by omega); have := pk_hi (X (i * 3 + 2)) 7 (by omega); omega
      have hk0 := fun W => pick20 W (X (i * 3)) 5 (Hbd.out _).1 (Hbd.out _).2 (by omega) (by omega)
      have hk1 := fun W => pick20 W (X (i * 3 + 1)) 5 (Hbd.out _).1 (Hbd.out _).2 (by omega) (by omega)
      have hk2 := fun W => pick20 W (X (i * 3 + 2)) 7 (Hbd.out _).1 (Hbd.out _).2 (by omega) (by omega)
      rw [hp0] at hk0
      rw [hp1] at hk1
      rw [hp2] at hk2
      have HK0 := Lib.hid hk0
      have HK1 := Lib.hid hk1
      have HK2 := Lib.hid hk2
      obtain ⟨sa, hsa, hsac⟩ := nm_get h05
      obtain ⟨sb, hsb, hsbc⟩ := nm_get h15
      have HSa := Lib.hid hsac
      have HSb := Lib.hid hsbc
      have hc0 : wr.cell? (la.add (i * 3)) = some (.int .i64 (X (i * 3))) := HNw.out.cellS (hcell (i * 3) (by omega)) id
      have hc1 : wr.cell? ⟨(la.add (i * 3)).block, (la.add (i * 3)).off + 1, none⟩ = some (.int .i64 (X (i * 3 + 1))) := by
        have := HNw.out.cellS (hcell (i * 3 + 1) (by omega)) id
        rw [← add_add, add_succ] at this
        exact this
      have hc2 : wr.cell? ⟨(la.add (i * 3)).block, (la.add (i * 3)).off + 2, none⟩ = some (.int .i64 (X (i * 3 + 2))) := by
        have := HNw.out.cellS (hcell (i * 3 + 2) (by omega)) id
        rw [← add_add, add_succ] at this
        exact this
      clear hcell hp0 hp1 hp2 hk0 hk1 hk2 hsac hsbc
      go_upto_region 5 with fail
      refine wp_region_at (by kernel_rfl) ?_
      have hnd : New wr wr.drew := (Chg.refl _ _).drew
      have C0 := Lib.hid (hnd.cellS hc0 id)
      have C1 := Lib.hid (hnd.cellS hc1 id)
      have C2 := Lib.hid (hnd.cellS hc2 id)
      have DN := Lib.hid (HNw.out.trans hnd (fun _ _ x => x))
      have DOv := Lib.hid (HOv.out.chg hnd (fun _ _ x => x))
      clear hnd hc0 hc1 hc2 HNw HOv
      generalize wr.drew = wd at C0 C1 C2 DN DOv ⊢
      refine AtN.segN2 0 26 [18, 19, 20, 21, 22, 23, 24, 25, 26, 27, 28, 29, 30, 31, 32, 33, 34, 35, 36, 37, 38, 39, 40, 41, 42, 7] (fun
        | 0 => fun v W => ∃ b, v = .slice (some ⟨b, 0, none⟩) 5 5 ∧ Blk W b 9 #[.string ⟨#[97]⟩, .string ⟨#[98]⟩, .string ⟨#[99]⟩, .string ⟨#[100]⟩, .string ⟨#[101]⟩]
        | 1 => fun v _ => v = .slice (some la) n c
        | 2 => fun v _ => v = .int .i64 i
        | 3 => fun v _ => v = .pointer (some (la.add (i * 3)))
        | 4 => fun v _ => v = .pointer (some (la.add (i * 3)))
        | 5 => fun v _ => v = .int .i64 (X (i * 3))
        | 6 => fun v _ => v = .int .i64 p0
        | 7 => fun v W => ∃ b, v = .pointer (some ⟨b, p0, none⟩) ∧ Blk W b 9 #[.string ⟨#[97]⟩, .string ⟨#[98]⟩, .string ⟨#[99]⟩, .string ⟨#[100]⟩, .string ⟨#[101]⟩]
        | 8 => fun v _ => v = .string sa
        | 9 => fun v W => ∃ b, v = .slice (some ⟨b, 0, none⟩) 5 5 ∧ Blk W b 9 #[.string ⟨#[97]⟩, .string ⟨#[98]⟩, .string ⟨#[99]⟩, .string ⟨#[100]⟩, .string ⟨#[101]⟩]
        | 10 => fun v _ => v = .slice (some la) n c
        | 11 => fun v _ => v = .int .i64 i
        | 12 => fun v _ => v = .pointer (some (la.add (i * 3)))
        | 13 => fun v _ => v = .pointer (some ⟨(la.add (i * 3)).block, (la.add (i * 3)).off + 1, none⟩)
        | 14 => fun v _ => v = .int .i64 (X (i * 3 + 1))
        | 15 => fun v _ => v = .int .i64 p1
        | 16 => fun v W => ∃ b, v = .pointer (some ⟨b, p1, none⟩) ∧ Blk W b 9 #[.string ⟨#[97]⟩, .string ⟨#[98]⟩, .string ⟨#[99]⟩, .string ⟨#[100]⟩, .string ⟨#[101]⟩]
        | 17 => fun v _ => v = .string sb
        | 18 => fun v _ => v = .slice (some la) n c
        | 19 => fun v _ => v = .int .i64 i
        | 20 => fun v _ => v = .pointer (some (la.add (i * 3)))
        | 21 => fun v _ => v = .pointer (some ⟨(la.add (i * 3)).block, (la.add (i * 3)).off + 2, none⟩)
        | 22 => fun v _ => v = .int .i64 (X (i * 3 + 2))
        | 23 => fun v _ => v = .int .i64 p2
        | 24 => fun v _ => v = .agg #[.string sa, .string sb, .int .i64 p2]
        | 25 => fun v W => ∃ b cur, v = .pointer (some ⟨b, 0, none⟩) ∧ Blk W b 40 cur ∧ cur.size = 3 ∧ wd.heap.size ≤ b
        | _ => fun _ _ => True) (by kernel_rfl) (by kernel_rfl) (by kernel_rfl) (by kernel_rfl) (fun j v w1 w2 hc h => ?_) (fun i hn hi o ho A0 W hN hin hk => ?_) (fun l W3 hN hl hΦ => ?_)
      · match j with
        | 0 => exact h.imp fun b h => ⟨h.1, h.2.chg hc id⟩
        | 7 => exact h.imp fun b h => ⟨h.1, h.2.chg hc id⟩
        | 9 => exact h.imp fun b h => ⟨h.1, h.2.chg hc id⟩
        | 16 => exact h.imp fun b h => ⟨h.1, h.2.chg hc id⟩
        | 25 => exact h.imp fun b h => h.imp fun cur h => ⟨h.1, h.2.1.chg hc id, h.2.2⟩
        | 1 | 2 | 3 | 4 | 5 | 6 | 8 | 10 | 11 | 12 | 13 | 14 | 15 | 17 | 18 | 19 | 20 | 21 | 22 | 23 | 24 => exact h
        | _ + 26 => trivial
      · rcases (show i = 0 ∨ i = 1 ∨ i = 2 ∨ i = 3 ∨ i = 4 ∨ i = 5 ∨ i = 6 ∨ i = 7 ∨ i = 8 ∨ i = 9 ∨ i = 10 ∨ i = 11 ∨ i = 12 ∨ i = 13 ∨ i = 14 ∨ i = 15 ∨ i = 16 ∨ i = 17 ∨ i = 18 ∨ i = 19 ∨ i = 20 ∨ i = 21 ∨ i = 22 ∨ i = 23 ∨ i = 24 ∨ i = 25 by omega) with rfl | rfl | rfl | rfl | rfl | rfl | rfl | rfl | rfl | rfl | rfl | rfl | rfl | rfl | rfl | rfl | rfl | rfl | rfl | rfl | rfl | rfl | rfl | rfl | rfl | rfl
        · cases ho
          refine .call (f := 10) (args := #[]) (W' := W) ?_ ((names20 W).mono ?_)
          · simp [go_sem, eg10]
          · rintro e w' ⟨b, rfl, hb, hc⟩
            exact ⟨_, rfl, hc, b, rfl, hb⟩
        · cases ho
          exact .same (exec_move 0 _ rfl (hk 0 (by kernel_rfl))) rfl
        · cases ho
          exact .same (exec_move 6 _ rfl (hk 6 (by kernel_rfl))) rfl
        · cases ho
          have h19 : A0.tmps[19]?.getD undef = .slice (some la) n c := hin 1 19 (by kernel_rfl)
          have h20 : A0.tmps[20]?.getD undef = .int .i64 i := hin 2 20 (by kernel_rfl)
          exact .same (by simp [go_sem, h19, h20, q0, q1, hlt]) rfl
        · cases ho
          have h21 : A0.tmps[21]?.getD undef = .pointer (some (la.add (i * 3))) := hin 3 21 (by kernel_rfl)
          exact .same (by simp [go_sem, h21]) rfl
        · cases ho
          have h22 : A0.tmps[22]?.getD undef = .pointer (some (la.add (i * 3))) := hin 4 22 (by kernel_rfl)
          have hc : W.cell? (la.add (i * 3)) = some (.int .i64 (X (i * 3))) := hN.cellS C0.out id
          exact .same (v := .int .i64 (X (i * 3))) (by simp [go_sem, h22, hc]) rfl
        · cases ho
          have h23 : A0.tmps[23]?.getD undef = .int .i64 (X (i * 3)) := hin 5 23 (by kernel_rfl)
          refine .enter (f := 11) (args := #[.int .i64 (X (i * 3)), .int .i64 5]) (v := .int .i64 p0) ?_ ((HK0.out W).mono ?_)
          · simp [go_sem, h23, eg11]
          · rintro e w' ⟨rfl, rfl⟩
            exact ⟨rfl, Chg.refl _ _, rfl⟩
        · cases ho
          have h18 := hin 0 18 (by kernel_rfl)
          have h24 : A0.tmps[24]?.getD undef = .int .i64 p0 := hin 6 24 (by kernel_rfl)
          obtain ⟨b, e, hb⟩ := h18
          have k0 : (0 : Int) ≤ (p0 : Int) := by omega
          have k1 : (p0 : Int) < 5 := by omega
          exact .same (v := .pointer (some ⟨b, p0, none⟩)) (by simp [go_sem, e, h24, k0, k1, h05]) ⟨b, rfl, hb⟩
        · cases ho
          have h25 := hin 7 25 (by kernel_rfl)
          obtain ⟨b, e, hb⟩ := h25
          have hc := HSa.out W b hb
          exact .same (v := .string sa) (by simp [go_sem, e, hc]) rfl
        · cases ho
          refine .call (f := 10) (args := #[]) (W' := W) ?_ ((names20 W).mono ?_)
          · simp [go_sem, eg10]
          · rintro e w' ⟨b, rfl, hb, hc⟩
            exact ⟨_, rfl, hc, b, rfl, hb⟩
        · cases ho
          exact .same (exec_move 0 _ rfl (hk 0 (by kernel_rfl))) rfl
        · cases ho
          exact .same (exec_move 6 _ rfl (hk 6 (by kernel_rfl))) rfl
        · cases ho
          have h28 : A0.tmps[28]?.getD undef = .slice (some la) n c := hin 10 28 (by kernel_rfl)
          have h29 : A0.tmps[29]?.getD undef = .int .i64 i := hin 11 29 (by kernel_rfl)
          exact .same (by simp [go_sem, h28, h29, q0, q1, hlt]) rfl
        · cases ho
          have h30 : A0.tmps[30]?.getD undef = .pointer (some (la.add (i * 3))) := hin 12 30 (by kernel_rfl)
          exact .same (by simp [go_sem, h30]) rfl
        · cases ho
          have h31 : A0.tmps[31]?.getD undef = .pointer (some ⟨(la.add (i * 3)).block, (la.add (i * 3)).off + 1, none⟩) := hin 13 31 (by kernel_rfl)
          have hc : W.cell? ⟨(la.add (i * 3)).block, (la.add (i * 3)).off + 1, none⟩ = some (.int .i64 (X (i * 3 + 1))) := hN.cellS C1.out id
          exact .same (v := .int .i64 (X (i * 3 + 1))) (by simp [go_sem, h31, hc]) rfl
        · cases ho
          have h32 : A0.tmps[32]?.getD undef = .int .i64 (X (i * 3 + 1)) := hin 14 32 (by kernel_rfl)
          refine .enter (f := 11) (args := #[.int .i64 (X (i * 3 + 1)), .int .i64 5]) (v := .int .i64 p1) ?_ ((HK1.out W).mono ?_)
          · simp [go_sem, h32, eg11]
          · rintro e w' ⟨rfl, rfl⟩
            exact ⟨rfl, Chg.refl _ _, rfl⟩
        · cases ho
          have h27 := hin 9 27 (by kernel_rfl)
          have h33 : A0.tmps[33]?.getD undef = .int .i64 p1 := hin 15 33 (by kernel_rfl)
          obtain ⟨b, e, hb⟩ := h27
          have k0 : (0 : Int) ≤ (p1 : Int) := by omega
          have k1 : (p1 : Int) < 5 := by omega
          exact .same (v := .pointer (some ⟨b, p1, none⟩)) (by simp [go_sem, e, h33, k0, k1, h15]) ⟨b, rfl, hb⟩
        · cases ho
          have h34 := hin 16 34 (by kernel_rfl)
          obtain ⟨b, e, hb⟩ := h34
          have hc := HSb.out W b hb
          exact .same (v := .string sb) (by simp [go_sem, e, hc]) rfl
        · cases ho
          exact .same (exec_move 0 _ rfl (hk 0 (by kernel_rfl))) rfl
        · cases ho
          exact .same (exec_move 6 _ rfl (hk 6 (by kernel_rfl))) rfl
        · cases ho
          have h36 : A0.tmps[36]?.getD undef = .slice (some la) n c := hin 18 36 (by kernel_rfl)
          have h37 : A0.tmps[37]?.getD undef = .int .i64 i := hin 19 37 (by kernel_rfl)
          exact .same (by simp [go_sem, h36, h37, q0, q1, hlt]) rfl
        · cases ho
          have h38 : A0.tmps[38]?.getD undef = .pointer (some (la.add (i * 3))) := hin 20 38 (by kernel_rfl)
          exact .same (by simp [go_sem, h38]) rfl
        · cases ho
          have h39 : A0.tmps[39]?.getD undef = .pointer (some ⟨(la.add (i * 3)).block, (la.add (i * 3)).off + 2, none⟩) := hin 21 39 (by kernel_rfl)
          have hc : W.cell? ⟨(la.add (i * 3)).block, (la.add (i * 3)).off + 2, none⟩ = some (.int .i64 (X (i * 3 + 2))) := hN.cellS C2.out id
          exact .same (v := .int .i64 (X (i * 3 + 2))) (by simp [go_sem, h39, hc]) rfl
        · cases ho
          have h40 : A0.tmps[40]?.getD undef = .int .i64 (X (i * 3 + 2)) := hin 22 40 (by kernel_rfl)
          refine .enter (f := 11) (args := #[.int .i64 (X (i * 3 + 2)), .int .i64 7]) (v := .int .i64 p2) ?_ ((HK2.out W).mono ?_)
          · simp [go_sem, h40, eg11]
          · rintro e w' ⟨rfl, rfl⟩
            exact ⟨rfl, Chg.refl _ _, rfl⟩
        · cases ho
          have h26 : A0.tmps[26]?.getD undef = .string sa := hin 8 26 (by kernel_rfl)
          have h35 : A0.tmps[35]?.getD undef = .string sb := hin 17 35 (by kernel_rfl)
          have h41 : A0.tmps[41]?.getD undef = .int .i64 p2 := hin 23 41 (by kernel_rfl)
          exact .same (by simp [go_sem, h26, h35, h41]) rfl
        · cases ho
          exact .value (W' := W.alloc (.cells #[.string ⟨#[]⟩, .string ⟨#[]⟩, .int .i64 0] 40)) (v := .pointer (some ⟨W.heap.size, 0, none⟩)) (by simp [go_sem]) ⟨(Chg.refl _ _).alloc _, _, _, rfl, Blk.new _ _ _, rfl, hN.size⟩
      have hlq0 : l.length = 26 := hl
      obtain ⟨x18, lq1, rfl, hlq1⟩ := len_cons hlq0
      obtain ⟨x19, lq2, rfl, hlq2⟩ := len_cons hlq1
      obtain ⟨x20, lq3, rfl, hlq3⟩ := len_cons hlq2
      obtain ⟨x21, lq4, rfl, hlq4⟩ := len_cons hlq3
      obtain ⟨x22, lq5, rfl, hlq5⟩ := len_cons hlq4
      obtain ⟨x23, lq6, rfl, hlq6⟩ := len_cons hlq5
      obtain ⟨x24, lq7, rfl, hlq7⟩ := len_cons hlq6
      obtain ⟨x25, lq8, rfl, hlq8⟩ := len_cons hlq7
      obtain ⟨x26, lq9, rfl, hlq9⟩ := len_cons hlq8
      obtain ⟨x27, lq10, rfl, hlq10⟩ := len_cons hlq9
      obtain ⟨x28, lq11, rfl, hlq11⟩ := len_cons hlq10
      obtain ⟨x29, lq12, rfl, hlq12⟩ := len_cons hlq11
      obtain ⟨x30, lq13, rfl, hlq13⟩ := len_cons hlq12
      obtain ⟨x31, lq14, rfl, hlq14⟩ := len_cons hlq13
      obtain ⟨x32, lq15, rfl, hlq15⟩ := len_cons hlq14
      obtain ⟨x33, lq16, rfl, hlq16⟩ := len_cons hlq15
      obtain ⟨x34, lq17, rfl, hlq17⟩ := len_cons hlq16
      obtain ⟨x35, lq18, rfl, hlq18⟩ := len_cons hlq17
      obtain ⟨x36, lq19, rfl, hlq19⟩ := len_cons hlq18
      obtain ⟨x37, lq20, rfl, hlq20⟩ := len_cons hlq19
      obtain ⟨x38, lq21, rfl, hlq21⟩ := len_cons hlq20
      obtain ⟨x39, lq22, rfl, hlq22⟩ := len_cons hlq21
      obtain ⟨x40, lq23, rfl, hlq23⟩ := len_cons hlq22
      obtain ⟨x41, lq24, rfl, hlq24⟩ := len_cons hlq23
      obtain ⟨x42, lq25, rfl, hlq25⟩ := len_cons hlq24
      obtain ⟨x7, lq26, rfl, hlq26⟩ := len_cons hlq25
      obtain rfl := List.eq_nil_of_length_eq_zero hlq26
      clear hlq0 hlq1 hlq2 hlq3 hlq4 hlq5 hlq6 hlq7 hlq8 hlq9 hlq10 hlq11 hlq12 hlq13 hlq14 hlq15 hlq16 hlq17 hlq18 hlq19 hlq20 hlq21 hlq22 hlq23 hlq24 hlq25 hlq26
      have hx18 := hΦ 0 (by decide)
      obtain rfl : x19 = .slice (some la) n c := hΦ 1 (by decide)
      obtain rfl : x20 = .int .i64 i := hΦ 2 (by decide)
      obtain rfl : x21 = .pointer (some (la.add (i * 3))) := hΦ 3 (by decide)
      obtain rfl : x22 = .pointer (some (la.add (i * 3))) := hΦ 4 (by decide)
      obtain rfl : x23 = .int .i64 (X (i * 3)) := hΦ 5 (by decide)
      obtain rfl : x24 = .int .i64 p0 := hΦ 6 (by decide)
      have hx25 := hΦ 7 (by decide)
      obtain rfl : x26 = .string sa := hΦ 8 (by decide)
      have hx27 := hΦ 9 (by decide)
      obtain rfl : x28 = .slice (some la) n c := hΦ 10 (by decide)
      obtain rfl : x29 = .int .i64 i := hΦ 11 (by decide)
      obtain rfl : x30 = .pointer (some (la.add (i * 3))) := hΦ 12 (by decide)
      obtain rfl : x31 = .pointer (some ⟨(la.add (i * 3)).block, (la.add (i * 3)).off + 1, none⟩) := hΦ 13 (by decide)
      obtain rfl : x32 = .int .i64 (X (i * 3 + 1)) := hΦ 14 (by decide)
      obtain rfl : x33 = .int .i64 p1 := hΦ 15 (by decide)
      have hx34 := hΦ 16 (by decide)
      obtain rfl : x35 = .string sb := hΦ 17 (by decide)
      obtain rfl : x36 = .slice (some la) n c := hΦ 18 (by decide)
      obtain rfl : x37 = .int .i64 i := hΦ 19 (by decide)
      obtain rfl : x38 = .pointer (some (la.add (i * 3))) := hΦ 20 (by decide)
      obtain rfl : x39 = .pointer (some ⟨(la.add (i * 3)).block, (la.add (i * 3)).off + 2, none⟩) := hΦ 21 (by decide)
      obtain rfl : x40 = .int .i64 (X (i * 3 + 2)) := hΦ 22 (by decide)
      obtain rfl : x41 = .int .i64 p2 := hΦ 23 (by decide)
      obtain rfl : x42 = .agg #[.string sa, .string sb, .int .i64 p2] := hΦ 24 (by decide)
      have hx7 := hΦ 25 (by decide)
      simp only [putsL, List.zip_cons_cons, List.zip_nil_left, List.zip_nil_right, List.zip, List.zipWith, Act.put, List.setIfInBounds_toArray, List.set_cons_succ, List.set_cons_zero]
      clear hΦ hl
      obtain ⟨b7, cur, rfl, hb7, hcs, hbl⟩ := hx7
      have EN := Lib.hid (DN.out.trans hN (fun _ _ x => x))
      have EO := Lib.hid (DOv.out.chg hN (fun _ _ x => x))
      have E7 := Lib.hid hb7
      have Ecs := Lib.hid hcs
      have HOne := Lib.hid (show ∀ u ∈ ([.string sa, .string sb, .int .i64 p2] : List Value), u.oneCell' = true from ed_one ⟨sa, sb, p2⟩)
      have hwl := DN.out.size
      have hvl : ∀ g, u5.ownBlock = some g → g < wd.heap.size := fun g hg => (DOv.out.lt hg).2
      have HVl := Lib.hid hvl
      clear hvl hN DN DOv C0 C1 C2 hb7 hcs hx18 hx25 hx27 hx34
      refine AtN.list 26 27 (by kernel_rfl) ?_
      change wpList _ _ _ [_] _ _
      go_wp2_with ((with_reducible refine wpl_set rfl (.tmp 7) (.tmp 42) 40 rfl rfl stEdge b7 40 _ [.string sa, .string sb, .int .i64 p2] ?_ ?_ E7.out rfl Ecs.out HOne.out ?_); exact rfl; exact rfl; intro w6 hc6 hb6 hs6; have F7 := Lib.hid hb6; have FN := Lib.hid (EN.out.trans hc6 (fun k hk e => by omega)); have FO := Lib.hid (EO.out.chg hc6 (fun g hg e => by have := HVl.out g hg; omega)); clear hc6 hb6 hs6)
      change AtN _ _ _ 27 _ _
      refine AtN.done rfl ?_
      obtain ⟨ed, hed⟩ : ∃ ed : Ed, ed = ⟨sa, sb, p2⟩ := ⟨_, rfl⟩
      have hedr : ed.Raw := by rw [hed]; exact ⟨hsa, hsb, h27.1, h27.2⟩
      have hecs : edC ed = [.string sa, .string sb, .int .i64 p2] := by rw [hed]; rfl
      have hect : edC ed.turn = [.string sb, .string sa, .int .i64 p2] := by rw [hed]; rfl
      have G2 := FO.out
      obtain ⟨v8, w8, hrun8, hown8, hchg8, -⟩ := elEdge.appOne FO.out FN.out.size (edC ed) (by rw [hecs]; rfl) (ed_one ed) (by rw [List.length_map]; have := HEl.out; omega) (by rw [List.length_map]; have := HEl.out; unfold maxLen; omega) 24 w6.heap.size rfl
      have HR8 := Lib.hid hrun8
      have hN8 : New w w8 := FN.out.trans hchg8 (fun k hk h => absurd (FO.out.lt h).1 (by omega))
      have hB8 : Blk w8 b7 40 #[.string sa, .string sb, .int .i64 p2] := F7.out.chg hchg8 (fun e => by have := HVl.out _ e; omega)
      have hO8 : Own w8 w.heap.size 40 3 v8 ((E ++ [ed]).map edC) := by rw [List.map_append]; exact hown8
      have HN8 := Lib.hid hN8
      have HB8 := Lib.hid hB8
      have HO8 := Lib.hid hO8
      rw [hecs] at HR8
      have HEr := Lib.hid hedr
      have Hecs := Lib.hid hecs
      have Hect := Lib.hid hect
      clear hrun8 hown8 hchg8 hN8 hB8 hO8 G2 hed hedr hecs hect EN EO E7 FO FN
      cases both with
      | false =>
        go_wp2_with first
          | ((with_reducible refine wpl_load rfl (.tmp 7) 40 rfl stEdge ⟨b7, 0, none⟩ [.string sa, .string sb, .int .i64 p2] ?_ rfl F7.out.at_ ?_); exact rfl)
          | ((with_reducible refine wpl_append rfl (.tmp 43) (.tmp 45) 24 24 rfl ?_ ?_ HR8.out ?_); exact rfl; exact rfl)
        go_roundw
        case rel =>
          refine ⟨i + 1, E ++ [ed], by omega, by omega, by go_num, by rw [List.length_append, List.length_singleton]; have := HEl.out; omega, HO8.out, fun x hx => ?_, fun h => (by cases h), HN8.out⟩
          rcases List.mem_append.1 hx with hx | hx
          · exact HRaw.out x hx
          · rw [List.mem_singleton.1 hx]; exact HEr.out
        case measure => simp only [intOf]; omega
      | true =>
        have e70 := HB8.out.cell 0
        have e71 := HB8.out.cell 1
        have e72 := HB8.out.cell 2
        simp only [List.getElem?_toArray, List.getElem?_cons_zero, List.getElem?_cons_succ] at e70 e71 e72
        obtain ⟨v9, w9, hrun9, hown9, hchg9, -⟩ := elEdge.appOne HO8.out HN8.out.size (edC ed.turn) (by rw [Hect.out]; rfl) (ed_one ed.turn) (by rw [List.length_map, List.length_append, List.length_singleton]; have := HEl.out; omega) (by rw [List.length_map, List.length_append, List.length_singleton]; have := HEl.out; unfold maxLen; omega) 24 w8.heap.size rfl
        rw [Hect.out] at hrun9
        have HR9 := Lib.hid hrun9
        have HN9 := Lib.hid (show New w w9 from HN8.out.trans hchg9 (fun k hk h => absurd (HO8.out.lt h).1 (by omega)))
        have HO9 := Lib.hid (show Own w9 w.heap.size 40 3 v9 (((E ++ [ed]) ++ [ed.turn]).map edC) by rw [List.map_append (l₁ := E ++ [ed])]; exact hown9)
        clear hrun9 hown9 hchg9
        go_wp2_with first
          | ((with_reducible refine wpl_load rfl (.tmp 7) 40 rfl stEdge ⟨b7, 0, none⟩ [.string sa, .string sb, .int .i64 p2] ?_ rfl F7.out.at_ ?_); exact rfl)
          | ((with_reducible refine wpl_append rfl (.tmp 43) (.tmp 45) 24 24 rfl ?_ ?_ HR8.out ?_); exact rfl; exact rfl)
          | ((with_reducible refine wpl_append rfl (.tmp 48) (.tmp 56) 24 24 rfl ?_ ?_ HR9.out ?_); exact rfl; exact rfl)
        go_roundw
        case rel =>
          refine ⟨i + 1, (E ++ [ed]) ++ [ed.turn], by omega, by omega, by go_num, by rw [List.length_append, List.length_append, List.length_singleton, List.length_singleton]; have := HEl.out; omega, HO9.out, fun x hx => ?_, fun h x hx => ?_, HN9.out⟩
          · rcases List.mem_append.1 hx with hx | hx
            · rcases List.mem_append.1 hx with hx | hx
              · exact HRaw.out x hx
              · rw [List.mem_singleton.1 hx]; exact HEr.out
            · rw [List.mem_singleton.1 hx]
              exact ⟨HEr.out.b, HEr.out.a, HEr.out.lo, HEr.out.hi⟩
          · rcases List.mem_append.1 hx with hx | hx
            · rcases List.mem_append.1 hx with hx | hx
              · exact List.mem_append_left _ (List.mem_append_left _ (HBoth.out rfl x hx))
              · rw [List.mem_singleton.1 hx]; exact List.mem_append_right _ (List.mem_singleton.2 rfl)
            · rw [List.mem_singleton.1 hx]
              exact List.mem_append_left _ (List.mem_append_right _ (List.mem_singleton.2 rfl))
        case measure => simp only [intOf]; omega
    · obtain hl | hl : (¬ i < n) ∨ (i < n ∧ ¬ i < 12) := by omega
      · have l1 : decide ((i : Int) < (n : Int)) = false := by simp; omega
        have l1' : decide (i < n) = false := by simp; omega
        go_wp2_with fail
        go_ret
        exact ⟨_, E, rfl, HOv.out, by have := HEl.out; omega, HRaw.out, HBoth.out, HNw.out⟩
      · have l1 : decide ((i : Int) < (n : Int)) = true := by simp; omega
        have l1' : decide (i < n) = true := by simp; omega
        have l2 : decide ((i : Int) < 12) = false := by simp; omega
        have l2' : decide (i < 12) = false := by simp; omega
        go_wp2_with fail
        go_ret
        exact ⟨_, E, rfl, HOv.out, by have := HEl.out; omega, HRaw.out, HBoth.out, HNw.out⟩
end Go.Proofs.Ytffmalagochakaa
