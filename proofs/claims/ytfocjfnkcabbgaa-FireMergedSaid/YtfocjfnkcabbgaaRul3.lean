/- The raw rules: Literal. -/
import Derived.Test.YtfocjfnkcabbgaaRul2
set_option linter.unusedVariables false
set_option linter.unusedSimpArgs false
namespace Go.Proofs.Ytfocjfnkcabbgaa
open Go.RowKit Go.Shelf

def rawL : Lt → Prop
  | .atom _ nm ts => (∃ p : Nat, relCs[p]? = some (nm, (ts.length : Int))) ∧ 1 ≤ ts.length ∧ ts.length ≤ 3 ∧ (∃ c, ts[0]? = some (.var (vNm c))) ∧ ∀ t ∈ ts, rawT t
  | .test j a b => j < 6 ∧ (∃ c, a = .var (vNm c)) ∧ rawT b
  | .assign nm t => (∃ c, nm = vNm c) ∧ rawT t
theorem rawL.ok {L : Lt} (h : rawL L) : okLt L ∧ L.size ≤ 3 := by
  cases L with
  | atom b nm ts => exact ⟨fun t ht => rawT.ok (h.2.2.2.2 t ht), h.2.2.1⟩
  | test j a b =>
    refine ⟨fun t ht => ?_, by show 2 ≤ 3; omega⟩
    obtain ⟨_, ⟨c, rfl⟩, hb⟩ := h
    simp only [Lt.args, List.mem_cons, List.not_mem_nil, or_false] at ht
    rcases ht with rfl | rfl
    · trivial
    · exact rawT.ok hb
  | assign nm t =>
    refine ⟨fun u hu => ?_, by show 1 ≤ 3; omega⟩
    simp only [Lt.args, List.mem_cons, List.not_mem_nil, or_false] at hu
    subst hu
    exact rawT.ok h.2
def LitPost (w : World) (e : Ending) (w' : World) : Prop := ∃ (L : Lt) (A : Option Addr) (c : Nat), e = .returned (.agg #[.int .i64 L.kind, .string L.name, .slice A L.args.length c]) ∧ rawL L ∧ Stays w' (fun k => k < w.heap.size) (fun W => LtAt W [.int .i64 L.kind, .string L.name, .slice A L.args.length c] L) ∧ New w w'
theorem Stays.imp {w : World} {S : Nat → Prop} {P Q : World → Prop} (h : Stays w S P) (hq : ∀ W, P W → Q W) : Stays w S Q := fun W' hc => hq _ (h W' hc)
theorem tms_stays {w : World} {B : Nat} {A : Option Addr} {n c : Nat} {css : List (List Value)} {ts : List Tm} (ho : Own w B 39 7 (.slice A n c) css) (h : Stays w (fun k => k < B) (fun W => TmL W css ts)) : Stays w (fun k => k < B) (fun W => TmsAt W A css ts) := by
  intro W' hc
  have ho' := ho.chg hc (fun g hg e => by have := (ho.lt hg).1; omega)
  have ht := h W' hc
  exact ⟨ht.len, fun hp => (ho'.rows rfl).2 hp, ht.at_⟩
theorem zLit3 : ∃ i z, Try.prog.info? 43 = some i ∧ i.zero = some z ∧ z.cells.size = 3 := zLit
theorem field_var (s : ByteArray) (W : World) : (Instr.field 39 (.agg #[.int .i64 1, .string s, .int .i64 0, .int .i64 0, .string ⟨#[]⟩, .slice none 0 0, .slice none 0 0]) 1).run Try.prog W = .ok (.string s) W := by kernel_rfl
theorem len_cons {α : Type} {l : List α} {n : Nat} (h : l.length = n + 1) : ∃ x t, l = x :: t ∧ t.length = n := by
  cases l with
  | nil => cases h
  | cons x t => exact ⟨x, t, rfl, Nat.succ.inj h⟩
theorem lit_one (i : Int) (s : ByteArray) (A : Option Addr) (n c : Nat) : ∀ u ∈ [Value.int .i64 i, .string s, .slice A n c], u.oneCell' = true := three_one rfl rfl rfl

set_option maxHeartbeats 8000000 in
set_option maxRecDepth 100000 in
theorem lit06 (w : World) (y0 y1 y2 y3 y4 y5 : Int) (h0 : B64 y0) (h1 : B64 y1) (h2 : B64 y2) (h3' : B64 y3) (h4 : B64 y4) (h5 : B64 y5) :
    Calls Try.prog 15 #[.agg #[.int .i64 y0, .int .i64 y1, .int .i64 y2, .int .i64 y3, .int .i64 y4, .int .i64 y5]] w (LitPost w) := by
  obtain ⟨w1, hw1⟩ : ∃ w1, w1 = (w.alloc (.cells #[.int .i64 y0, .int .i64 y1, .int .i64 y2, .int .i64 y3, .int .i64 y4, .int .i64 y5] 51)).alloc (.cells #[.int .i64 0, .string ⟨#[]⟩, .slice none 0 0] 43) := ⟨_, rfl⟩
  have hN1 : New w w1 := by rw [hw1]; exact ((Chg.refl _ _).alloc _).alloc _
  have hB1 : Blk w1 w.heap.size 51 #[.int .i64 y0, .int .i64 y1, .int .i64 y2, .int .i64 y3, .int .i64 y4, .int .i64 y5] := by rw [hw1]; exact (Blk.new w _ _).alloc _
  have hL1 : Blk w1 (w.heap.size + 1) 43 #[.int .i64 0, .string ⟨#[]⟩, .slice none 0 0] := by
    have := Blk.new (w.alloc (.cells #[.int .i64 y0, .int .i64 y1, .int .i64 y2, .int .i64 y3, .int .i64 y4, .int .i64 y5] 51)) 43 #[.int .i64 0, .string ⟨#[]⟩, .slice none 0 0]
    rw [World.size_alloc] at this
    rw [hw1]
    exact this
  have hsz1 : w1.heap.size = w.heap.size + 2 := by rw [hw1]; simp
  obtain ⟨p, hp⟩ : ∃ p : Nat, pk y0 8 = p := ⟨(pk y0 8).toNat, by have := pk_lo y0 8 (by omega); omega⟩
  have hp8 : p < 8 := by have := pk_hi y0 8 (by omega); omega
  have hpick := fun W => pick06 W y0 8 h0.1 h0.2 (by omega) (by omega)
  rw [hp] at hpick
  obtain ⟨j, hj⟩ : ∃ p : Nat, pk y1 6 = p := ⟨(pk y1 6).toNat, by have := pk_lo y1 6 (by omega); omega⟩
  have hj6 : j < 6 := by have := pk_hi y1 6 (by omega); omega
  have hpick1 := fun W => pick06 W y1 6 h1.1 h1.2 (by omega) (by omega)
  rw [hj] at hpick1
  have HP := Lib.hid hpick
  have HP1 := Lib.hid hpick1
  have HN1 := Lib.hid hN1
  have HB1 := Lib.hid hB1
  have HL1 := Lib.hid hL1
  have HW1 := Lib.hid hw1
  have HZ1 := Lib.hid hsz1
  clear hpick hp hN1 hB1 hw1 hL1 hpick1 hj hsz1
  go_enter Try.func15, Try.ntmps15
  go_upto_region 1 with fail
  rw [← HW1.out]
  have hld := HB1.out.at_
  have HLd := Lib.hid hld
  clear hld
  go_upto_region 2 with first
    | ((with_reducible refine wpl_load rfl (.tmp 1) 51 rfl stRaw ⟨w.heap.size, 0, none⟩ [.int .i64 y0, .int .i64 y1, .int .i64 y2, .int .i64 y3, .int .i64 y4, .int .i64 y5] ?_ rfl HLd.out ?_); exact rfl)
    | (go_at_call 14; refine (atom06 _ y0 y1 y2 y3 y4 y5 h1 h2 h3' h4).mono ?_; rintro e w2 ⟨nm, v4, ts, css, rfl, hrel, hl1, hl3, hfst, hraw, hst, hown, hN2⟩; obtain ⟨A4, c4, rfl, hc1, hc2⟩ := hown.form; have HRel := Lib.hid hrel; have HFst := Lib.hid hfst; have HRaw := Lib.hid hraw; have HSt := Lib.hid hst; have HOwn := Lib.hid hown; have HN2 := Lib.hid hN2; have Hl := Lib.hid (show css.length = ts.length from hst.now.len); have Hl1 := Lib.hid hl1; have Hl3 := Lib.hid hl3; clear hrel hfst hraw hst hown hN2 hl1 hl3 hc1 hc2)
  rw [Hl.out] at HOwn ⊢
  have HB2 := Lib.hid (HB1.out.chg HN2.out id)
  have HL2 := Lib.hid (HL1.out.chg HN2.out id)
  have HNa := Lib.hid (HN1.out.trans HN2.out (fun _ _ x => x))
  have HTs := Lib.hid (tms_stays HOwn.out HSt.out)
  have eR0 := HB2.out.cell 0
  have eR1 := HB2.out.cell 1
  simp only [List.getElem?_toArray, List.getElem?_cons_zero, List.getElem?_cons_succ] at eR0 eR1
  have hatom : ∀ (b : Bool) (W : World), Chg w2 W (fun k => k = w.heap.size + 1) → Stays W (fun k => k < w.heap.size) (fun W => LtAt W [.int .i64 (Lt.atom b nm ts).kind, .string nm, .slice A4 ts.length c4] (.atom b nm ts)) := fun b W hc =>
    (HTs.out.chg hc (fun k _ e => by have := HZ1.out; omega) (S1 := fun k => k < w.heap.size) (fun k _ e => by have := HZ1.out; omega)).imp fun W' h => ⟨A4, c4, css, rfl, h⟩
  have HAtom := Lib.hid hatom
  have hend : ∀ W, Chg w2 W (fun k => k = w.heap.size + 1) → New w W := fun W hc => HNa.out.trans hc (fun k hk e => by omega)
  have HEnd := Lib.hid hend
  clear hatom hend HLd HL1 HB1 HN1 HW1 HN2 HSt HOwn HTs
  rcases (show p < 4 ∨ p = 4 ∨ (p = 5 ∨ p = 6) ∨ p = 7 by omega) with hq | rfl | hq | rfl
  · rcases (show p = 0 ∨ p = 1 ∨ p = 2 ∨ p = 3 by omega) with rfl | rfl | rfl | rfl
    all_goals
      go_wp2_with first
        | (go_at_call 13; refine (HP.out _).mono ?_; rintro e w' ⟨rfl, rfl⟩; clear HP)
        | ((with_reducible refine wpl_set rfl (.tmp 2) (.tmp 21) 43 rfl rfl stLit (w.heap.size + 1) 43 _ [.int .i64 1, .string nm, .slice A4 ts.length c4] ?_ ?_ HL2.out rfl rfl (lit_one _ _ _ _ _) ?_); exact rfl; exact rfl; intro w6 hc6 hb6 hs6; have HC6 := Lib.hid hc6; have HB6 := Lib.hid hb6; clear hc6 hb6 hs6)
      exact bodyPost_ret (v := .agg #[.int .i64 1, .string nm, .slice A4 ts.length c4]) (res_cellK stLit rfl _ _ ⟨w.heap.size + 1, 0, none⟩ [.int .i64 1, .string nm, .slice A4 ts.length c4] rfl HB6.out.at_ rfl) rfl ⟨.atom false nm ts, A4, c4, rfl, ⟨HRel.out, Hl1.out, Hl3.out, HFst.out, HRaw.out⟩, HAtom.out false _ HC6.out, HEnd.out _ HC6.out⟩
  · go_wp2_with first
      | (go_at_call 13; refine (HP.out _).mono ?_; rintro e w' ⟨rfl, rfl⟩; clear HP)
      | ((with_reducible refine wpl_set rfl (.tmp 2) (.tmp 26) 43 rfl rfl stLit (w.heap.size + 1) 43 _ [.int .i64 2, .string nm, .slice A4 ts.length c4] ?_ ?_ HL2.out rfl rfl (lit_one _ _ _ _ _) ?_); exact rfl; exact rfl; intro w6 hc6 hb6 hs6; have HC6 := Lib.hid hc6; have HB6 := Lib.hid hb6; clear hc6 hb6 hs6)
    exact bodyPost_ret (v := .agg #[.int .i64 2, .string nm, .slice A4 ts.length c4]) (res_cellK stLit rfl _ _ ⟨w.heap.size + 1, 0, none⟩ [.int .i64 2, .string nm, .slice A4 ts.length c4] rfl HB6.out.at_ rfl) rfl ⟨.atom true nm ts, A4, c4, rfl, ⟨HRel.out, Hl1.out, Hl3.out, HFst.out, HRaw.out⟩, HAtom.out true _ HC6.out, HEnd.out _ HC6.out⟩
  · clear HAtom HRel HFst HRaw
    obtain ⟨wo, hwo⟩ : ∃ wo, wo = w2.alloc (.cells #[.string ⟨#[61, 61]⟩, .string ⟨#[33, 61]⟩, .string ⟨#[60]⟩, .string ⟨#[60, 61]⟩, .string ⟨#[62]⟩, .string ⟨#[62, 61]⟩] 9) := ⟨_, rfl⟩
    have hcs : (w2.alloc (.cells #[.string ⟨#[61, 61]⟩, .string ⟨#[33, 61]⟩, .string ⟨#[60]⟩, .string ⟨#[60, 61]⟩, .string ⟨#[62]⟩, .string ⟨#[62, 61]⟩] 9)).cell? ⟨w2.heap.size, j, none⟩ = some (.string (opT j)) := by
      have hb : Blk (w2.alloc (.cells #[.string ⟨#[61, 61]⟩, .string ⟨#[33, 61]⟩, .string ⟨#[60]⟩, .string ⟨#[60, 61]⟩, .string ⟨#[62]⟩, .string ⟨#[62, 61]⟩] 9)) w2.heap.size 9 #[.string ⟨#[61, 61]⟩, .string ⟨#[33, 61]⟩, .string ⟨#[60]⟩, .string ⟨#[60, 61]⟩, .string ⟨#[62]⟩, .string ⟨#[62, 61]⟩] := Blk.new _ _ _
      rcases (show j = 0 ∨ j = 1 ∨ j = 2 ∨ j = 3 ∨ j = 4 ∨ j = 5 by omega) with rfl | rfl | rfl | rfl | rfl | rfl
      · exact hb.cell 0
      · exact hb.cell 1
      · exact hb.cell 2
      · exact hb.cell 3
      · exact hb.cell 4
      · exact hb.cell 5
    have s0 : (0 : Int) ≤ (j : Int) := by omega
    have s1 : (j : Int) < 6 := by omega
    have hno : New w2 wo := by rw [hwo]; exact (Chg.refl _ _).alloc _
    replace HB2 := Lib.hid (HB2.out.chg hno id)
    replace HL2 := Lib.hid (HL2.out.chg hno id)
    replace HNa := Lib.hid (HNa.out.trans hno (fun _ _ x => x))
    have eR1' : (w2.alloc (.cells #[.string ⟨#[61, 61]⟩, .string ⟨#[33, 61]⟩, .string ⟨#[60]⟩, .string ⟨#[60, 61]⟩, .string ⟨#[62]⟩, .string ⟨#[62, 61]⟩] 9)).cell? ⟨w.heap.size, 1, none⟩ = some (.int .i64 y1) := by
      rw [← hwo]; exact HB2.out.cell 1
    have Hwo := Lib.hid hwo
    clear hwo hno HEnd
    rcases hq with rfl | rfl
    all_goals
      go_upto_region 13 with first
        | (go_at_call 13; refine (HP.out _).mono ?_; rintro e w' ⟨rfl, rfl⟩; clear HP)
        | (go_at_call 13; refine (HP1.out _).mono ?_; rintro e w' ⟨rfl, rfl⟩; clear HP1)
      rw [← Hwo.out]
      clear hcs eR1' eR1 eR0 Hwo
      obtain ⟨w2, hw2⟩ : ∃ w2, w2 = wo := ⟨_, rfl⟩
      rw [← hw2] at HB2 HL2 HNa ⊢
      clear hw2
      obtain ⟨q, hq⟩ : ∃ p : Nat, pk y5 2 = p := ⟨(pk y5 2).toNat, by have := pk_lo y5 2 (by omega); omega⟩
      have hq2 : q < 2 := by have := pk_hi y5 2 (by omega); omega
      have hpickq := fun W => pick06 W y5 2 h5.1 h5.2 (by omega) (by omega)
      rw [hq] at hpickq
      have HPq := Lib.hid hpickq
      have kq0 : (0 : Int) ≤ (q : Int) := by omega
      have kq1 : (q : Int) < 2 := by omega
      clear hpickq hq
      obtain ⟨tx, x0, x1, x2, x3, x4, x5, x6, htx, hx, hxc⟩ : ∃ (tx : Tm) (x0 x1 x2 x3 x4 x5 x6 : Value), rawT tx ∧ (∀ W, TmAt W [x0, x1, x2, x3, x4, x5, x6] tx) ∧ ∀ W b, Blk W b 39 #[.int .i64 2, .string ⟨#[]⟩, .int .i64 1, .int .i64 (pk y4 4), .string ⟨#[]⟩, .slice none 0 0, .slice none 0 0, .int .i64 1, .string (vNm y3), .int .i64 0, .int .i64 0, .string ⟨#[]⟩, .slice none 0 0, .slice none 0 0] → At W ⟨b, q * 7, none⟩ [x0, x1, x2, x3, x4, x5, x6] := by
        have h7 : ∀ (W : World) (b : Nat) (ca cb : List Value), ca.length = 7 → cb.length = 7 → Blk W b 39 (ca ++ cb).toArray → At W ⟨b, 0 * 7, none⟩ ca ∧ At W ⟨b, 1 * 7, none⟩ cb := fun W b ca cb hca hcb hb => ⟨fun j u hj => by
            rw [Nat.zero_mul, Addr.add_lit, hb.cell, List.getElem?_toArray, Nat.zero_add, List.getElem?_append_left (List.getElem?_eq_some_iff.1 hj).1]; exact hj, fun j u hj => by
            rw [Addr.add_lit, hb.cell, List.getElem?_toArray, List.getElem?_append_right (by rw [hca]; omega), hca, show 1 * 7 + j - 7 = j by omega]; exact hj⟩
        rcases (show q = 0 ∨ q = 1 by omega) with rfl | rfl
        · exact ⟨.val ⟨1, pk y4 4, ⟨#[]⟩⟩, _, _, _, _, _, _, _, .inl ⟨pk y4 4, pk_lo _ _ (by omega), by have := pk_hi y4 4 (by omega); omega, rfl⟩, fun W => rfl, fun W b hb => (h7 W b [.int .i64 2, .string ⟨#[]⟩, .int .i64 1, .int .i64 (pk y4 4), .string ⟨#[]⟩, .slice none 0 0, .slice none 0 0] [.int .i64 1, .string (vNm y3), .int .i64 0, .int .i64 0, .string ⟨#[]⟩, .slice none 0 0, .slice none 0 0] rfl rfl hb).1⟩
        · exact ⟨.var (vNm y3), _, _, _, _, _, _, _, ⟨y3, rfl⟩, fun W => rfl, fun W b hb => (h7 W b [.int .i64 2, .string ⟨#[]⟩, .int .i64 1, .int .i64 (pk y4 4), .string ⟨#[]⟩, .slice none 0 0, .slice none 0 0] [.int .i64 1, .string (vNm y3), .int .i64 0, .int .i64 0, .string ⟨#[]⟩, .slice none 0 0, .slice none 0 0] rfl rfl hb).2⟩
      have HTx := Lib.hid htx
      have Hx := Lib.hid hx
      have Hxc := Lib.hid hxc
      clear htx hx hxc
      have hpick4 := fun W => pick06 W y4 4 h4.1 h4.2 (by omega) (by omega)
      have HP4 := Lib.hid hpick4
      clear hpick4
      obtain ⟨p4, hp4⟩ : ∃ p4, pk y4 4 = p4 := ⟨_, rfl⟩
      rw [hp4] at HP4 Hxc
      clear hp4
      have eg25 : ∀ (args : Array Value) (w : World), (callFunc 13 args).run Try.prog w = .ok (.enter 13 args) w := enters_of Try.func13 (by kernel_rfl) rfl
      have eg39 : ∀ (args : Array Value) (w : World), (callFunc 28 args).run Try.prog w = .ok (.enter 28 args) w := enters_of Try.func28 (by kernel_rfl) rfl
      have eg40 : ∀ (args : Array Value) (w : World), (callFunc 29 args).run Try.prog w = .ok (.enter 29 args) w := enters_of Try.func29 (by kernel_rfl) rfl
      refine wp_region_at (by kernel_rfl) ?_
      have hnd : New w2 w2.drew := (Chg.refl _ _).drew
      have DB := Lib.hid (HB2.out.chg hnd id)
      have DL := Lib.hid (HL2.out.chg hnd id)
      have DN := Lib.hid (HNa.out.trans hnd (fun _ _ x => x))
      clear hnd HB2 HL2 HNa
      generalize w2.drew = wd at DB DL DN ⊢
      refine AtN.segN2 0 23 [36, 37, 38, 39, 40, 41, 42, 43, 44, 45, 46, 47, 48, 49, 50, 51, 52, 53, 54, 55, 56, 57, 58] (fun
        | 0 => fun v _ => v = .string (opT j)
        | 1 => fun v _ => v = .pointer (some ⟨w.heap.size, 2, none⟩)
        | 2 => fun v _ => v = .pointer (some ⟨w.heap.size, 2, none⟩)
        | 3 => fun v _ => v = .int .i64 y2
        | 4 => fun v _ => v = .agg #[.int .i64 1, .string (vNm y2), .int .i64 0, .int .i64 0, .string ⟨#[]⟩, .slice none 0 0, .slice none 0 0]
        | 5 => fun v _ => v = .pointer (some ⟨w.heap.size, 2, none⟩)
        | 6 => fun v _ => v = .pointer (some ⟨w.heap.size, 4, none⟩)
        | 7 => fun v _ => v = .int .i64 y4
        | 8 => fun v _ => v = .int .i64 p4
        | 9 => fun v _ => v = .agg #[.int .i64 2, .string ⟨#[]⟩, .int .i64 1, .int .i64 p4, .string ⟨#[]⟩, .slice none 0 0, .slice none 0 0]
        | 10 => fun v _ => v = .pointer (some ⟨w.heap.size, 2, none⟩)
        | 11 => fun v _ => v = .pointer (some ⟨w.heap.size, 3, none⟩)
        | 12 => fun v _ => v = .int .i64 y3
        | 13 => fun v _ => v = .agg #[.int .i64 1, .string (vNm y3), .int .i64 0, .int .i64 0, .string ⟨#[]⟩, .slice none 0 0, .slice none 0 0]
        | 14 => fun v W => ∃ b, v = .slice (some ⟨b, 0, none⟩) 2 2 ∧ Blk W b 39 #[.int .i64 2, .string ⟨#[]⟩, .int .i64 1, .int .i64 p4, .string ⟨#[]⟩, .slice none 0 0, .slice none 0 0, .int .i64 1, .string (vNm y3), .int .i64 0, .int .i64 0, .string ⟨#[]⟩, .slice none 0 0, .slice none 0 0] ∧ wd.heap.size ≤ b
        | 15 => fun v _ => v = .pointer (some ⟨w.heap.size, 2, none⟩)
        | 16 => fun v _ => v = .pointer (some ⟨w.heap.size, 5, none⟩)
        | 17 => fun v _ => v = .int .i64 y5
        | 18 => fun v _ => v = .int .i64 q
        | 19 => fun v W => ∃ b, v = .pointer (some ⟨b, q * 7, none⟩) ∧ Blk W b 39 #[.int .i64 2, .string ⟨#[]⟩, .int .i64 1, .int .i64 p4, .string ⟨#[]⟩, .slice none 0 0, .slice none 0 0, .int .i64 1, .string (vNm y3), .int .i64 0, .int .i64 0, .string ⟨#[]⟩, .slice none 0 0, .slice none 0 0]
        | 20 => fun v _ => v = .agg #[x0, x1, x2, x3, x4, x5, x6]
        | 21 => fun v W => ∃ b, v = .slice (some ⟨b, 0, none⟩) 2 2 ∧ Blk W b 39 #[.int .i64 1, .string (vNm y2), .int .i64 0, .int .i64 0, .string ⟨#[]⟩, .slice none 0 0, .slice none 0 0, x0, x1, x2, x3, x4, x5, x6] ∧ wd.heap.size ≤ b
        | 22 => fun v W => ∃ b, v = .agg #[.int .i64 3, .string (opT j), .slice (some ⟨b, 0, none⟩) 2 2] ∧ Blk W b 39 #[.int .i64 1, .string (vNm y2), .int .i64 0, .int .i64 0, .string ⟨#[]⟩, .slice none 0 0, .slice none 0 0, x0, x1, x2, x3, x4, x5, x6] ∧ wd.heap.size ≤ b
        | _ => fun _ _ => True) (by kernel_rfl) (by kernel_rfl) (by kernel_rfl) (by kernel_rfl) (fun j v w1 w2 hc h => ?_) (fun i hn hi o ho A0 W hN hin hk => ?_) (fun l W3 hN hl hΦ => ?_)
      · match j with
        | 14 => exact h.imp fun b h => ⟨h.1, h.2.1.chg hc id, h.2.2⟩
        | 19 => exact h.imp fun b h => ⟨h.1, h.2.chg hc id⟩
        | 21 => exact h.imp fun b h => ⟨h.1, h.2.1.chg hc id, h.2.2⟩
        | 22 => exact h.imp fun b h => ⟨h.1, h.2.1.chg hc id, h.2.2⟩
        | 0 | 1 | 2 | 3 | 4 | 5 | 6 | 7 | 8 | 9 | 10 | 11 | 12 | 13 | 15 | 16 | 17 | 18 | 20 => exact h
        | _ + 23 => trivial
      · rcases (show i = 0 ∨ i = 1 ∨ i = 2 ∨ i = 3 ∨ i = 4 ∨ i = 5 ∨ i = 6 ∨ i = 7 ∨ i = 8 ∨ i = 9 ∨ i = 10 ∨ i = 11 ∨ i = 12 ∨ i = 13 ∨ i = 14 ∨ i = 15 ∨ i = 16 ∨ i = 17 ∨ i = 18 ∨ i = 19 ∨ i = 20 ∨ i = 21 ∨ i = 22 by omega) with rfl | rfl | rfl | rfl | rfl | rfl | rfl | rfl | rfl | rfl | rfl | rfl | rfl | rfl | rfl | rfl | rfl | rfl | rfl | rfl | rfl | rfl | rfl
        · cases ho
          exact .same (exec_move 5 _ rfl (hk 5 (by kernel_rfl))) rfl
        · cases ho
          have h1 : A0.tmps[1]?.getD undef = .pointer (some ⟨w.heap.size, 0, none⟩) := hk 1 (by kernel_rfl)
          exact .same (by simp [go_sem, h1]) rfl
        · cases ho
          have h37 : A0.tmps[37]?.getD undef = .pointer (some ⟨w.heap.size, 2, none⟩) := hin 1 37 (by kernel_rfl)
          exact .same (by simp [go_sem, h37]) rfl
        · cases ho
          have h38 : A0.tmps[38]?.getD undef = .pointer (some ⟨w.heap.size, 2, none⟩) := hin 2 38 (by kernel_rfl)
          have hc : W.cell? ⟨w.heap.size, 2, none⟩ = some (.int .i64 y2) := (DB.out.chg hN id).cell 2
          exact .same (by simp [go_sem, h38, hc]) rfl
        · cases ho
          have h39 : A0.tmps[39]?.getD undef = .int .i64 y2 := hin 3 39 (by kernel_rfl)
          refine .call (f := 28) (args := #[.int .i64 y2]) (W' := W) ?_ ((v06 W y2 h2).mono ?_)
          · simp [go_sem, h39, eg39]
          · rintro e w' ⟨rfl, hc⟩
            exact ⟨_, rfl, hc, rfl⟩
        · cases ho
          have h1 : A0.tmps[1]?.getD undef = .pointer (some ⟨w.heap.size, 0, none⟩) := hk 1 (by kernel_rfl)
          exact .same (by simp [go_sem, h1]) rfl
        · cases ho
          have h41 : A0.tmps[41]?.getD undef = .pointer (some ⟨w.heap.size, 2, none⟩) := hin 5 41 (by kernel_rfl)
          exact .same (by simp [go_sem, h41]) rfl
        · cases ho
          have h42 : A0.tmps[42]?.getD undef = .pointer (some ⟨w.heap.size, 4, none⟩) := hin 6 42 (by kernel_rfl)
          have hc : W.cell? ⟨w.heap.size, 4, none⟩ = some (.int .i64 y4) := (DB.out.chg hN id).cell 4
          exact .same (by simp [go_sem, h42, hc]) rfl
        · cases ho
          have h43 : A0.tmps[43]?.getD undef = .int .i64 y4 := hin 7 43 (by kernel_rfl)
          refine .enter (f := 13) (args := #[.int .i64 y4, .int .i64 4]) (v := .int .i64 p4) ?_ ((HP4.out W).mono ?_)
          · simp [go_sem, h43, eg25]
          · rintro e w' ⟨rfl, rfl⟩
            exact ⟨rfl, Chg.refl _ _, rfl⟩
        · cases ho
          have h44 : A0.tmps[44]?.getD undef = .int .i64 p4 := hin 8 44 (by kernel_rfl)
          refine .call (f := 29) (args := #[.int .i64 p4]) (W' := W) ?_ ((num06 W p4).mono ?_)
          · simp [go_sem, h44, eg40]
          · rintro e w' ⟨rfl, hc⟩
            exact ⟨_, rfl, hc, rfl⟩
        · cases ho
          have h1 : A0.tmps[1]?.getD undef = .pointer (some ⟨w.heap.size, 0, none⟩) := hk 1 (by kernel_rfl)
          exact .same (by simp [go_sem, h1]) rfl
        · cases ho
          have h46 : A0.tmps[46]?.getD undef = .pointer (some ⟨w.heap.size, 2, none⟩) := hin 10 46 (by kernel_rfl)
          exact .same (by simp [go_sem, h46]) rfl
        · cases ho
          have h47 : A0.tmps[47]?.getD undef = .pointer (some ⟨w.heap.size, 3, none⟩) := hin 11 47 (by kernel_rfl)
          have hc : W.cell? ⟨w.heap.size, 3, none⟩ = some (.int .i64 y3) := (DB.out.chg hN id).cell 3
          exact .same (by simp [go_sem, h47, hc]) rfl
        · cases ho
          have h48 : A0.tmps[48]?.getD undef = .int .i64 y3 := hin 12 48 (by kernel_rfl)
          refine .call (f := 28) (args := #[.int .i64 y3]) (W' := W) ?_ ((v06 W y3 h3').mono ?_)
          · simp [go_sem, h48, eg39]
          · rintro e w' ⟨rfl, hc⟩
            exact ⟨_, rfl, hc, rfl⟩
        · cases ho
          have h45 : A0.tmps[45]?.getD undef = .agg #[.int .i64 2, .string ⟨#[]⟩, .int .i64 1, .int .i64 p4, .string ⟨#[]⟩, .slice none 0 0, .slice none 0 0] := hin 9 45 (by kernel_rfl)
          have h49 : A0.tmps[49]?.getD undef = .agg #[.int .i64 1, .string (vNm y3), .int .i64 0, .int .i64 0, .string ⟨#[]⟩, .slice none 0 0, .slice none 0 0] := hin 13 49 (by kernel_rfl)
          exact .value (W' := W.alloc (.cells #[.int .i64 2, .string ⟨#[]⟩, .int .i64 1, .int .i64 p4, .string ⟨#[]⟩, .slice none 0 0, .slice none 0 0, .int .i64 1, .string (vNm y3), .int .i64 0, .int .i64 0, .string ⟨#[]⟩, .slice none 0 0, .slice none 0 0] 39)) (v := .slice (some ⟨W.heap.size, 0, none⟩) 2 2) (by simp [go_sem, h45, h49]) ⟨(Chg.refl _ _).alloc _, _, rfl, Blk.new _ _ _, hN.size⟩
        · cases ho
          have h1 : A0.tmps[1]?.getD undef = .pointer (some ⟨w.heap.size, 0, none⟩) := hk 1 (by kernel_rfl)
          exact .same (by simp [go_sem, h1]) rfl
        · cases ho
          have h51 : A0.tmps[51]?.getD undef = .pointer (some ⟨w.heap.size, 2, none⟩) := hin 15 51 (by kernel_rfl)
          exact .same (by simp [go_sem, h51]) rfl
        · cases ho
          have h52 : A0.tmps[52]?.getD undef = .pointer (some ⟨w.heap.size, 5, none⟩) := hin 16 52 (by kernel_rfl)
          have hc : W.cell? ⟨w.heap.size, 5, none⟩ = some (.int .i64 y5) := (DB.out.chg hN id).cell 5
          exact .same (by simp [go_sem, h52, hc]) rfl
        · cases ho
          have h53 : A0.tmps[53]?.getD undef = .int .i64 y5 := hin 17 53 (by kernel_rfl)
          refine .enter (f := 13) (args := #[.int .i64 y5, .int .i64 2]) (v := .int .i64 q) ?_ ((HPq.out W).mono ?_)
          · simp [go_sem, h53, eg25]
          · rintro e w' ⟨rfl, rfl⟩
            exact ⟨rfl, Chg.refl _ _, rfl⟩
        · cases ho
          have h50 := hin 14 50 (by kernel_rfl)
          have h54 : A0.tmps[54]?.getD undef = .int .i64 q := hin 18 54 (by kernel_rfl)
          obtain ⟨b, e, hb, _⟩ := h50
          exact .same (v := .pointer (some ⟨b, q * 7, none⟩)) (by simp [go_sem, e, h54, kq0, kq1, hq2]) ⟨b, rfl, hb⟩
        · cases ho
          have h55 := hin 19 55 (by kernel_rfl)
          obtain ⟨b, e, hb⟩ := h55
          exact .same (exec_load 55 _ rfl stTerm ⟨b, q * 7, none⟩ [x0, x1, x2, x3, x4, x5, x6] e rfl (Hxc.out W b hb)) rfl
        · cases ho
          have h40 : A0.tmps[40]?.getD undef = .agg #[.int .i64 1, .string (vNm y2), .int .i64 0, .int .i64 0, .string ⟨#[]⟩, .slice none 0 0, .slice none 0 0] := hin 4 40 (by kernel_rfl)
          have h56 : A0.tmps[56]?.getD undef = .agg #[x0, x1, x2, x3, x4, x5, x6] := hin 20 56 (by kernel_rfl)
          exact .value (W' := W.alloc (.cells #[.int .i64 1, .string (vNm y2), .int .i64 0, .int .i64 0, .string ⟨#[]⟩, .slice none 0 0, .slice none 0 0, x0, x1, x2, x3, x4, x5, x6] 39)) (v := .slice (some ⟨W.heap.size, 0, none⟩) 2 2) (by simp [go_sem, h40, h56]) ⟨(Chg.refl _ _).alloc _, _, rfl, Blk.new _ _ _, hN.size⟩
        · cases ho
          have h36 : A0.tmps[36]?.getD undef = .string (opT j) := hin 0 36 (by kernel_rfl)
          have h57 := hin 21 57 (by kernel_rfl)
          obtain ⟨b, e, hb⟩ := h57
          exact .same (v := .agg #[.int .i64 3, .string (opT j), .slice (some ⟨b, 0, none⟩) 2 2]) (by simp [go_sem, e, h36]) ⟨b, rfl, hb⟩
      have hlq0 : l.length = 23 := hl
      obtain ⟨x36, lq1, rfl, hlq1⟩ := len_cons hlq0
      obtain ⟨x37, lq2, rfl, hlq2⟩ := len_cons hlq1
      obtain ⟨x38, lq3, rfl, hlq3⟩ := len_cons hlq2
      obtain ⟨x39, lq4, rfl, hlq4⟩ := len_cons hlq3
      obtain ⟨x40, lq5, rfl, hlq5⟩ := len_cons hlq4
      obtain ⟨x41, lq6, rfl, hlq6⟩ := len_cons hlq5
      obtain ⟨x42, lq7, rfl, hlq7⟩ := len_cons hlq6
      obtain ⟨x43, lq8, rfl, hlq8⟩ := len_cons hlq7
      obtain ⟨x44, lq9, rfl, hlq9⟩ := len_cons hlq8
      obtain ⟨x45, lq10, rfl, hlq10⟩ := len_cons hlq9
      obtain ⟨x46, lq11, rfl, hlq11⟩ := len_cons hlq10
      obtain ⟨x47, lq12, rfl, hlq12⟩ := len_cons hlq11
      obtain ⟨x48, lq13, rfl, hlq13⟩ := len_cons hlq12
      obtain ⟨x49, lq14, rfl, hlq14⟩ := len_cons hlq13
      obtain ⟨x50, lq15, rfl, hlq15⟩ := len_cons hlq14
      obtain ⟨x51, lq16, rfl, hlq16⟩ := len_cons hlq15
      obtain ⟨x52, lq17, rfl, hlq17⟩ := len_cons hlq16
      obtain ⟨x53, lq18, rfl, hlq18⟩ := len_cons hlq17
      obtain ⟨x54, lq19, rfl, hlq19⟩ := len_cons hlq18
      obtain ⟨x55, lq20, rfl, hlq20⟩ := len_cons hlq19
      obtain ⟨x56, lq21, rfl, hlq21⟩ := len_cons hlq20
      obtain ⟨x57, lq22, rfl, hlq22⟩ := len_cons hlq21
      obtain ⟨x58, lq23, rfl, hlq23⟩ := len_cons hlq22
      obtain rfl := List.eq_nil_of_length_eq_zero hlq23
      clear hlq0 hlq1 hlq2 hlq3 hlq4 hlq5 hlq6 hlq7 hlq8 hlq9 hlq10 hlq11 hlq12 hlq13 hlq14 hlq15 hlq16 hlq17 hlq18 hlq19 hlq20 hlq21 hlq22 hlq23
      obtain rfl : x36 = .string (opT j) := hΦ 0 (by decide)
      obtain rfl : x37 = .pointer (some ⟨w.heap.size, 2, none⟩) := hΦ 1 (by decide)
      obtain rfl : x38 = .pointer (some ⟨w.heap.size, 2, none⟩) := hΦ 2 (by decide)
      obtain rfl : x39 = .int .i64 y2 := hΦ 3 (by decide)
      obtain rfl : x40 = .agg #[.int .i64 1, .string (vNm y2), .int .i64 0, .int .i64 0, .string ⟨#[]⟩, .slice none 0 0, .slice none 0 0] := hΦ 4 (by decide)
      obtain rfl : x41 = .pointer (some ⟨w.heap.size, 2, none⟩) := hΦ 5 (by decide)
      obtain rfl : x42 = .pointer (some ⟨w.heap.size, 4, none⟩) := hΦ 6 (by decide)
      obtain rfl : x43 = .int .i64 y4 := hΦ 7 (by decide)
      obtain rfl : x44 = .int .i64 p4 := hΦ 8 (by decide)
      obtain rfl : x45 = .agg #[.int .i64 2, .string ⟨#[]⟩, .int .i64 1, .int .i64 p4, .string ⟨#[]⟩, .slice none 0 0, .slice none 0 0] := hΦ 9 (by decide)
      obtain rfl : x46 = .pointer (some ⟨w.heap.size, 2, none⟩) := hΦ 10 (by decide)
      obtain rfl : x47 = .pointer (some ⟨w.heap.size, 3, none⟩) := hΦ 11 (by decide)
      obtain rfl : x48 = .int .i64 y3 := hΦ 12 (by decide)
      obtain rfl : x49 = .agg #[.int .i64 1, .string (vNm y3), .int .i64 0, .int .i64 0, .string ⟨#[]⟩, .slice none 0 0, .slice none 0 0] := hΦ 13 (by decide)
      have hx50 := hΦ 14 (by decide)
      obtain rfl : x51 = .pointer (some ⟨w.heap.size, 2, none⟩) := hΦ 15 (by decide)
      obtain rfl : x52 = .pointer (some ⟨w.heap.size, 5, none⟩) := hΦ 16 (by decide)
      obtain rfl : x53 = .int .i64 y5 := hΦ 17 (by decide)
      obtain rfl : x54 = .int .i64 q := hΦ 18 (by decide)
      have hx55 := hΦ 19 (by decide)
      obtain rfl : x56 = .agg #[x0, x1, x2, x3, x4, x5, x6] := hΦ 20 (by decide)
      have hx57 := hΦ 21 (by decide)
      have hx58 := hΦ 22 (by decide)
      simp only [putsL, List.zip_cons_cons, List.zip_nil_left, List.zip_nil_right, List.zip, List.zipWith, Act.put, List.setIfInBounds_toArray, List.set_cons_succ, List.set_cons_zero]
      clear hΦ hl
      obtain ⟨b, rfl, hbb, hbl⟩ := hx58
      obtain ⟨_, rfl, _⟩ := hx50
      obtain ⟨_, rfl, _⟩ := hx55
      obtain ⟨_, rfl, _⟩ := hx57
      have HBb := Lib.hid hbb
      have HL3 := Lib.hid (DL.out.chg hN id)
      have HN3 := Lib.hid (DN.out.trans hN (fun _ _ x => x))
      have hlb := DL.out.lt
      have hwl := DN.out.size
      clear hbb DL DB DN hN
      refine AtN.list 23 24 (by kernel_rfl) ?_
      change wpList _ _ _ [_] _ _
      go_wp2_with ((with_reducible refine wpl_set rfl (.tmp 2) (.tmp 58) 43 rfl rfl stLit (w.heap.size + 1) 43 _ [.int .i64 3, .string (opT j), .slice (some ⟨b, 0, none⟩) 2 2] ?_ ?_ HL3.out rfl rfl (lit_one _ _ _ _ _) ?_); exact rfl; exact rfl; intro w6 hc6 hb6 hs6; have HC6 := Lib.hid hc6; have HB6 := Lib.hid hb6; clear hc6 hb6 hs6)
      change AtN _ _ _ 24 _ _
      refine AtN.done rfl ?_
      go_wp2_with fail
      have hS : Stays w6 (fun k => k < w.heap.size) (fun W => LtAt W [.int .i64 3, .string (opT j), .slice (some ⟨b, 0, none⟩) 2 2] (.test j (.var (vNm y2)) tx)) := fun W' hc => by
        have hb' := (HBb.out.chg HC6.out (fun e => by omega)).chg hc (fun e => by omega)
        exact ⟨some ⟨b, 0, none⟩, 2, [[.int .i64 1, .string (vNm y2), .int .i64 0, .int .i64 0, .string ⟨#[]⟩, .slice none 0 0, .slice none 0 0], [x0, x1, x2, x3, x4, x5, x6]], rfl, tms2 hb' rfl (Hx.out W')⟩
      exact bodyPost_ret (v := .agg #[.int .i64 3, .string (opT j), .slice (some ⟨b, 0, none⟩) 2 2]) (res_cellK stLit rfl _ _ ⟨w.heap.size + 1, 0, none⟩ [.int .i64 3, .string (opT j), .slice (some ⟨b, 0, none⟩) 2 2] rfl HB6.out.at_ rfl) rfl ⟨.test j (.var (vNm y2)) tx, some ⟨b, 0, none⟩, 2, rfl, ⟨hj6, ⟨y2, rfl⟩, HTx.out⟩, hS, HN3.out.trans HC6.out (fun k hk e => by omega)⟩
  · clear HAtom HRel HFst HRaw
    go_upto_region 14 with (go_at_call 13; refine (HP.out _).mono ?_; rintro e w' ⟨rfl, rfl⟩; clear HP)
    clear HEnd eR0 eR1
    have hyb := tdiv_bd (d := 2) (by omega) h5.1 h5.2
    have kw : IntKind.i64.wrap (y5.tdiv 2) = y5.tdiv 2 := by rw [IntKind.wrap_i64]; omega
    have hBq : B64 (y5.tdiv 2) := hyb
    obtain ⟨q, hq⟩ : ∃ p : Nat, pk (y5.tdiv 2) 2 = p := ⟨(pk (y5.tdiv 2) 2).toNat, by have := pk_lo (y5.tdiv 2) 2 (by omega); omega⟩
    have hq2 : q < 2 := by have := pk_hi (y5.tdiv 2) 2 (by omega); omega
    have hpickq := fun W => pick06 W (y5.tdiv 2) 2 hBq.1 hBq.2 (by omega) (by omega)
    rw [hq] at hpickq
    have HPq := Lib.hid hpickq
    have kq0 : (0 : Int) ≤ (q : Int) := by omega
    have kq1 : (q : Int) < 2 := by omega
    clear hpickq hq
    obtain ⟨tx, x0, x1, x2, x3, x4, x5, x6, htx, hx, hxc⟩ : ∃ (tx : Tm) (x0 x1 x2 x3 x4 x5 x6 : Value), rawT tx ∧ (∀ W, TmAt W [x0, x1, x2, x3, x4, x5, x6] tx) ∧ ∀ W b, Blk W b 39 #[.int .i64 2, .string ⟨#[]⟩, .int .i64 1, .int .i64 1, .string ⟨#[]⟩, .slice none 0 0, .slice none 0 0, .int .i64 1, .string (vNm y4), .int .i64 0, .int .i64 0, .string ⟨#[]⟩, .slice none 0 0, .slice none 0 0] → At W ⟨b, q * 7, none⟩ [x0, x1, x2, x3, x4, x5, x6] := by
      have h7 : ∀ (W : World) (b : Nat) (ca cb : List Value), ca.length = 7 → cb.length = 7 → Blk W b 39 (ca ++ cb).toArray → At W ⟨b, 0 * 7, none⟩ ca ∧ At W ⟨b, 1 * 7, none⟩ cb := fun W b ca cb hca hcb hb => ⟨fun j u hj => by
          rw [Nat.zero_mul, Addr.add_lit, hb.cell, List.getElem?_toArray, Nat.zero_add, List.getElem?_append_left (List.getElem?_eq_some_iff.1 hj).1]; exact hj, fun j u hj => by
          rw [Addr.add_lit, hb.cell, List.getElem?_toArray, List.getElem?_append_right (by rw [hca]; omega), hca, show 1 * 7 + j - 7 = j by omega]; exact hj⟩
      rcases (show q = 0 ∨ q = 1 by omega) with rfl | rfl
      · exact ⟨.val ⟨1, 1, ⟨#[]⟩⟩, _, _, _, _, _, _, _, .inl ⟨1, by omega, by omega, rfl⟩, fun W => rfl, fun W b hb => (h7 W b [.int .i64 2, .string ⟨#[]⟩, .int .i64 1, .int .i64 1, .string ⟨#[]⟩, .slice none 0 0, .slice none 0 0] [.int .i64 1, .string (vNm y4), .int .i64 0, .int .i64 0, .string ⟨#[]⟩, .slice none 0 0, .slice none 0 0] rfl rfl hb).1⟩
      · exact ⟨.var (vNm y4), _, _, _, _, _, _, _, ⟨y4, rfl⟩, fun W => rfl, fun W b hb => (h7 W b [.int .i64 2, .string ⟨#[]⟩, .int .i64 1, .int .i64 1, .string ⟨#[]⟩, .slice none 0 0, .slice none 0 0] [.int .i64 1, .string (vNm y4), .int .i64 0, .int .i64 0, .string ⟨#[]⟩, .slice none 0 0, .slice none 0 0] rfl rfl hb).2⟩
    have HTx := Lib.hid htx
    have Hx := Lib.hid hx
    have Hxc := Lib.hid hxc
    clear htx hx hxc
    obtain ⟨m, hm⟩ : ∃ p : Nat, pk y5 2 = p := ⟨(pk y5 2).toNat, by have := pk_lo y5 2 (by omega); omega⟩
    have hm2 : m < 2 := by have := pk_hi y5 2 (by omega); omega
    have hpm := fun W => pick06 W y5 2 h5.1 h5.2 (by omega) (by omega)
    rw [hm] at hpm
    have HPm := Lib.hid hpm
    have km0 : (0 : Int) ≤ (m : Int) := by omega
    have km1 : (m : Int) < 2 := by omega
    obtain ⟨mb, hmb⟩ : ∃ mb : Bool, ∀ W b, Blk W b 9 #[.string ⟨#[43]⟩, .string ⟨#[45]⟩] → W.cell? ⟨b, m, none⟩ = some (.string (opS mb)) := by
      rcases (show m = 0 ∨ m = 1 by omega) with rfl | rfl
      · exact ⟨false, fun W b hb => hb.cell 0⟩
      · exact ⟨true, fun W b hb => hb.cell 1⟩
    have Hmb := Lib.hid hmb
    clear hpm hm hmb hyb
    have eg25 : ∀ (args : Array Value) (w : World), (callFunc 13 args).run Try.prog w = .ok (.enter 13 args) w := enters_of Try.func13 (by kernel_rfl) rfl
    have eg39 : ∀ (args : Array Value) (w : World), (callFunc 28 args).run Try.prog w = .ok (.enter 28 args) w := enters_of Try.func28 (by kernel_rfl) rfl
    have eg40 : ∀ (args : Array Value) (w : World), (callFunc 29 args).run Try.prog w = .ok (.enter 29 args) w := enters_of Try.func29 (by kernel_rfl) rfl
    refine wp_region_at (by kernel_rfl) ?_
    have hnd : New w2 w2.drew := (Chg.refl _ _).drew
    have DB := Lib.hid (HB2.out.chg hnd id)
    have DL := Lib.hid (HL2.out.chg hnd id)
    have DN := Lib.hid (HNa.out.trans hnd (fun _ _ x => x))
    clear hnd HB2 HL2 HNa
    generalize w2.drew = wd at DB DL DN ⊢
    refine AtN.segN2 0 33 [59, 60, 61, 62, 63, 64, 65, 66, 67, 68, 69, 70, 71, 72, 73, 74, 75, 76, 77, 78, 79, 80, 81, 82, 83, 84, 85, 86, 87, 88, 89, 90, 91] (fun
      | 0 => fun v _ => v = .pointer (some ⟨w.heap.size, 2, none⟩)
      | 1 => fun v _ => v = .pointer (some ⟨w.heap.size, 2, none⟩)
      | 2 => fun v _ => v = .int .i64 y2
      | 3 => fun v _ => v = .agg #[.int .i64 1, .string (vNm y2), .int .i64 0, .int .i64 0, .string ⟨#[]⟩, .slice none 0 0, .slice none 0 0]
      | 4 => fun v _ => v = .string (vNm y2)
      | 5 => fun v W => ∃ b, v = .slice (some ⟨b, 0, none⟩) 2 2 ∧ Blk W b 9 #[.string ⟨#[43]⟩, .string ⟨#[45]⟩] ∧ wd.heap.size ≤ b
      | 6 => fun v _ => v = .pointer (some ⟨w.heap.size, 2, none⟩)
      | 7 => fun v _ => v = .pointer (some ⟨w.heap.size, 5, none⟩)
      | 8 => fun v _ => v = .int .i64 y5
      | 9 => fun v _ => v = .int .i64 m
      | 10 => fun v W => ∃ b, v = .pointer (some ⟨b, m, none⟩) ∧ Blk W b 9 #[.string ⟨#[43]⟩, .string ⟨#[45]⟩]
      | 11 => fun v _ => v = .string (opS mb)
      | 12 => fun v _ => v = .pointer (some ⟨w.heap.size, 2, none⟩)
      | 13 => fun v _ => v = .pointer (some ⟨w.heap.size, 3, none⟩)
      | 14 => fun v _ => v = .int .i64 y3
      | 15 => fun v _ => v = .agg #[.int .i64 1, .string (vNm y3), .int .i64 0, .int .i64 0, .string ⟨#[]⟩, .slice none 0 0, .slice none 0 0]
      | 16 => fun v _ => v = .agg #[.int .i64 2, .string ⟨#[]⟩, .int .i64 1, .int .i64 1, .string ⟨#[]⟩, .slice none 0 0, .slice none 0 0]
      | 17 => fun v _ => v = .pointer (some ⟨w.heap.size, 2, none⟩)
      | 18 => fun v _ => v = .pointer (some ⟨w.heap.size, 4, none⟩)
      | 19 => fun v _ => v = .int .i64 y4
      | 20 => fun v _ => v = .agg #[.int .i64 1, .string (vNm y4), .int .i64 0, .int .i64 0, .string ⟨#[]⟩, .slice none 0 0, .slice none 0 0]
      | 21 => fun v W => ∃ b, v = .slice (some ⟨b, 0, none⟩) 2 2 ∧ Blk W b 39 #[.int .i64 2, .string ⟨#[]⟩, .int .i64 1, .int .i64 1, .string ⟨#[]⟩, .slice none 0 0, .slice none 0 0, .int .i64 1, .string (vNm y4), .int .i64 0, .int .i64 0, .string ⟨#[]⟩, .slice none 0 0, .slice none 0 0] ∧ wd.heap.size ≤ b
      | 22 => fun v _ => v = .pointer (some ⟨w.heap.size, 2, none⟩)
      | 23 => fun v _ => v = .pointer (some ⟨w.heap.size, 5, none⟩)
      | 24 => fun v _ => v = .int .i64 y5
      | 25 => fun v _ => v = .int .i64 (y5.tdiv 2)
      | 26 => fun v _ => v = .int .i64 q
      | 27 => fun v W => ∃ b, v = .pointer (some ⟨b, q * 7, none⟩) ∧ Blk W b 39 #[.int .i64 2, .string ⟨#[]⟩, .int .i64 1, .int .i64 1, .string ⟨#[]⟩, .slice none 0 0, .slice none 0 0, .int .i64 1, .string (vNm y4), .int .i64 0, .int .i64 0, .string ⟨#[]⟩, .slice none 0 0, .slice none 0 0]
      | 28 => fun v _ => v = .agg #[x0, x1, x2, x3, x4, x5, x6]
      | 29 => fun v W => ∃ b, v = .slice (some ⟨b, 0, none⟩) 2 2 ∧ Blk W b 39 #[.int .i64 1, .string (vNm y3), .int .i64 0, .int .i64 0, .string ⟨#[]⟩, .slice none 0 0, .slice none 0 0, x0, x1, x2, x3, x4, x5, x6] ∧ wd.heap.size ≤ b
      | 30 => fun v W => ∃ b, v = .agg #[.int .i64 4, .string (opS mb), .int .i64 0, .int .i64 0, .string ⟨#[]⟩, .slice none 0 0, .slice (some ⟨b, 0, none⟩) 2 2] ∧ Blk W b 39 #[.int .i64 1, .string (vNm y3), .int .i64 0, .int .i64 0, .string ⟨#[]⟩, .slice none 0 0, .slice none 0 0, x0, x1, x2, x3, x4, x5, x6] ∧ wd.heap.size ≤ b
      | 31 => fun v W => ∃ b d, v = .slice (some ⟨d, 0, none⟩) 1 1 ∧ Blk W b 39 #[.int .i64 1, .string (vNm y3), .int .i64 0, .int .i64 0, .string ⟨#[]⟩, .slice none 0 0, .slice none 0 0, x0, x1, x2, x3, x4, x5, x6] ∧ wd.heap.size ≤ b ∧ Blk W d 39 #[.int .i64 4, .string (opS mb), .int .i64 0, .int .i64 0, .string ⟨#[]⟩, .slice none 0 0, .slice (some ⟨b, 0, none⟩) 2 2] ∧ wd.heap.size ≤ d
      | 32 => fun v W => ∃ b d, v = .agg #[.int .i64 4, .string (vNm y2), .slice (some ⟨d, 0, none⟩) 1 1] ∧ Blk W b 39 #[.int .i64 1, .string (vNm y3), .int .i64 0, .int .i64 0, .string ⟨#[]⟩, .slice none 0 0, .slice none 0 0, x0, x1, x2, x3, x4, x5, x6] ∧ wd.heap.size ≤ b ∧ Blk W d 39 #[.int .i64 4, .string (opS mb), .int .i64 0, .int .i64 0, .string ⟨#[]⟩, .slice none 0 0, .slice (some ⟨b, 0, none⟩) 2 2] ∧ wd.heap.size ≤ d
      | _ => fun _ _ => True) (by kernel_rfl) (by kernel_rfl) (by kernel_rfl) (by kernel_rfl) (fun j v w1 w2 hc h => ?_) (fun i hn hi o ho A0 W hN hin hk => ?_) (fun l W3 hN hl hΦ => ?_)
    · match j with
      | 5 => exact h.imp fun b h => ⟨h.1, h.2.1.chg hc id, h.2.2⟩
      | 10 => exact h.imp fun b h => ⟨h.1, h.2.chg hc id⟩
      | 21 => exact h.imp fun b h => ⟨h.1, h.2.1.chg hc id, h.2.2⟩
      | 27 => exact h.imp fun b h => ⟨h.1, h.2.chg hc id⟩
      | 29 => exact h.imp fun b h => ⟨h.1, h.2.1.chg hc id, h.2.2⟩
      | 30 => exact h.imp fun b h => ⟨h.1, h.2.1.chg hc id, h.2.2⟩
      | 31 => exact h.imp fun b h => h.imp fun d h => ⟨h.1, h.2.1.chg hc id, h.2.2.1, h.2.2.2.1.chg hc id, h.2.2.2.2⟩
      | 32 => exact h.imp fun b h => h.imp fun d h => ⟨h.1, h.2.1.chg hc id, h.2.2.1, h.2.2.2.1.chg hc id, h.2.2.2.2⟩
      | 0 | 1 | 2 | 3 | 4 | 6 | 7 | 8 | 9 | 11 | 12 | 13 | 14 | 15 | 16 | 17 | 18 | 19 | 20 | 22 | 23 | 24 | 25 | 26 | 28 => exact h
      | _ + 33 => trivial
    · rcases (show i = 0 ∨ i = 1 ∨ i = 2 ∨ i = 3 ∨ i = 4 ∨ i = 5 ∨ i = 6 ∨ i = 7 ∨ i = 8 ∨ i = 9 ∨ i = 10 ∨ i = 11 ∨ i = 12 ∨ i = 13 ∨ i = 14 ∨ i = 15 ∨ i = 16 ∨ i = 17 ∨ i = 18 ∨ i = 19 ∨ i = 20 ∨ i = 21 ∨ i = 22 ∨ i = 23 ∨ i = 24 ∨ i = 25 ∨ i = 26 ∨ i = 27 ∨ i = 28 ∨ i = 29 ∨ i = 30 ∨ i = 31 ∨ i = 32 by omega) with rfl | rfl | rfl | rfl | rfl | rfl | rfl | rfl | rfl | rfl | rfl | rfl | rfl | rfl | rfl | rfl | rfl | rfl | rfl | rfl | rfl | rfl | rfl | rfl | rfl | rfl | rfl | rfl | rfl | rfl | rfl | rfl | rfl
      · cases ho
        have h1 : A0.tmps[1]?.getD undef = .pointer (some ⟨w.heap.size, 0, none⟩) := hk 1 (by kernel_rfl)
        exact .same (by simp [go_sem, h1]) rfl
      · cases ho
        have h59 : A0.tmps[59]?.getD undef = .pointer (some ⟨w.heap.size, 2, none⟩) := hin 0 59 (by kernel_rfl)
        exact .same (by simp [go_sem, h59]) rfl
      · cases ho
        have h60 : A0.tmps[60]?.getD undef = .pointer (some ⟨w.heap.size, 2, none⟩) := hin 1 60 (by kernel_rfl)
        have hc : W.cell? ⟨w.heap.size, 2, none⟩ = some (.int .i64 y2) := (DB.out.chg hN id).cell 2
        exact .same (by simp [go_sem, h60, hc]) rfl
      · cases ho
        have h61 : A0.tmps[61]?.getD undef = .int .i64 y2 := hin 2 61 (by kernel_rfl)
        refine .call (f := 28) (args := #[.int .i64 y2]) (W' := W) ?_ ((v06 W y2 h2).mono ?_)
        · simp [go_sem, h61, eg39]
        · rintro e w' ⟨rfl, hc⟩
          exact ⟨_, rfl, hc, rfl⟩
      · cases ho
        have h62 : A0.tmps[62]?.getD undef = .agg #[.int .i64 1, .string (vNm y2), .int .i64 0, .int .i64 0, .string ⟨#[]⟩, .slice none 0 0, .slice none 0 0] := hin 3 62 (by kernel_rfl)
        exact .same (by simp [go_sem, h62, field_var]) rfl
      · cases ho
        exact .value (W' := W.alloc (.cells #[.string ⟨#[43]⟩, .string ⟨#[45]⟩] 9)) (v := .slice (some ⟨W.heap.size, 0, none⟩) 2 2) (by simp [go_sem, Nat.zero_lt_one]) ⟨(Chg.refl _ _).alloc _, _, rfl, Blk.new _ _ _, hN.size⟩
      · cases ho
        have h1 : A0.tmps[1]?.getD undef = .pointer (some ⟨w.heap.size, 0, none⟩) := hk 1 (by kernel_rfl)
        exact .same (by simp [go_sem, h1]) rfl
      · cases ho
        have h65 : A0.tmps[65]?.getD undef = .pointer (some ⟨w.heap.size, 2, none⟩) := hin 6 65 (by kernel_rfl)
        exact .same (by simp [go_sem, h65]) rfl
      · cases ho
        have h66 : A0.tmps[66]?.getD undef = .pointer (some ⟨w.heap.size, 5, none⟩) := hin 7 66 (by kernel_rfl)
        have hc : W.cell? ⟨w.heap.size, 5, none⟩ = some (.int .i64 y5) := (DB.out.chg hN id).cell 5
        exact .same (by simp [go_sem, h66, hc]) rfl
      · cases ho
        have h67 : A0.tmps[67]?.getD undef = .int .i64 y5 := hin 8 67 (by kernel_rfl)
        refine .enter (f := 13) (args := #[.int .i64 y5, .int .i64 2]) (v := .int .i64 m) ?_ ((HPm.out W).mono ?_)
        · simp [go_sem, h67, eg25]
        · rintro e w' ⟨rfl, rfl⟩
          exact ⟨rfl, Chg.refl _ _, rfl⟩
      · cases ho
        have h64 := hin 5 64 (by kernel_rfl)
        have h68 : A0.tmps[68]?.getD undef = .int .i64 m := hin 9 68 (by kernel_rfl)
        obtain ⟨b, e, hb, _⟩ := h64
        exact .same (v := .pointer (some ⟨b, m, none⟩)) (by simp [go_sem, e, h68, km0, km1, hm2]) ⟨b, rfl, hb⟩
      · cases ho
        have h69 := hin 10 69 (by kernel_rfl)
        obtain ⟨b, e, hb⟩ := h69
        have hc := Hmb.out W b hb
        exact .same (v := .string (opS mb)) (by simp [go_sem, e, hc]) rfl
      · cases ho
        have h1 : A0.tmps[1]?.getD undef = .pointer (some ⟨w.heap.size, 0, none⟩) := hk 1 (by kernel_rfl)
        exact .same (by simp [go_sem, h1]) rfl
      · cases ho
        have h71 : A0.tmps[71]?.getD undef = .pointer (some ⟨w.heap.size, 2, none⟩) := hin 12 71 (by kernel_rfl)
        exact .same (by simp [go_sem, h71]) rfl
      · cases ho
        have h72 : A0.tmps[72]?.getD undef = .pointer (some ⟨w.heap.size, 3, none⟩) := hin 13 72 (by kernel_rfl)
        have hc : W.cell? ⟨w.heap.size, 3, none⟩ = some (.int .i64 y3) := (DB.out.chg hN id).cell 3
        exact .same (by simp [go_sem, h72, hc]) rfl
      · cases ho
        have h73 : A0.tmps[73]?.getD undef = .int .i64 y3 := hin 14 73 (by kernel_rfl)
        refine .call (f := 28) (args := #[.int .i64 y3]) (W' := W) ?_ ((v06 W y3 h3').mono ?_)
        · simp [go_sem, h73, eg39]
        · rintro e w' ⟨rfl, hc⟩
          exact ⟨_, rfl, hc, rfl⟩
      · cases ho
        refine .call (f := 29) (args := #[.int .i64 1]) (W' := W) ?_ ((num06 W 1).mono ?_)
        · simp [go_sem, eg40]
        · rintro e w' ⟨rfl, hc⟩
          exact ⟨_, rfl, hc, rfl⟩
      · cases ho
        have h1 : A0.tmps[1]?.getD undef = .pointer (some ⟨w.heap.size, 0, none⟩) := hk 1 (by kernel_rfl)
        exact .same (by simp [go_sem, h1]) rfl
      · cases ho
        have h76 : A0.tmps[76]?.getD undef = .pointer (some ⟨w.heap.size, 2, none⟩) := hin 17 76 (by kernel_rfl)
        exact .same (by simp [go_sem, h76]) rfl
      · cases ho
        have h77 : A0.tmps[77]?.getD undef = .pointer (some ⟨w.heap.size, 4, none⟩) := hin 18 77 (by kernel_rfl)
        have hc : W.cell? ⟨w.heap.size, 4, none⟩ = some (.int .i64 y4) := (DB.out.chg hN id).cell 4
        exact .same (by simp [go_sem, h77, hc]) rfl
      · cases ho
        have h78 : A0.tmps[78]?.getD undef = .int .i64 y4 := hin 19 78 (by kernel_rfl)
        refine .call (f := 28) (args := #[.int .i64 y4]) (W' := W) ?_ ((v06 W y4 h4).mono ?_)
        · simp [go_sem, h78, eg39]
        · rintro e w' ⟨rfl, hc⟩
          exact ⟨_, rfl, hc, rfl⟩
      · cases ho
        have h75 : A0.tmps[75]?.getD undef = .agg #[.int .i64 2, .string ⟨#[]⟩, .int .i64 1, .int .i64 1, .string ⟨#[]⟩, .slice none 0 0, .slice none 0 0] := hin 16 75 (by kernel_rfl)
        have h79 : A0.tmps[79]?.getD undef = .agg #[.int .i64 1, .string (vNm y4), .int .i64 0, .int .i64 0, .string ⟨#[]⟩, .slice none 0 0, .slice none 0 0] := hin 20 79 (by kernel_rfl)
        exact .value (W' := W.alloc (.cells #[.int .i64 2, .string ⟨#[]⟩, .int .i64 1, .int .i64 1, .string ⟨#[]⟩, .slice none 0 0, .slice none 0 0, .int .i64 1, .string (vNm y4), .int .i64 0, .int .i64 0, .string ⟨#[]⟩, .slice none 0 0, .slice none 0 0] 39)) (v := .slice (some ⟨W.heap.size, 0, none⟩) 2 2) (by simp [go_sem, h75, h79]) ⟨(Chg.refl _ _).alloc _, _, rfl, Blk.new _ _ _, hN.size⟩
      · cases ho
        have h1 : A0.tmps[1]?.getD undef = .pointer (some ⟨w.heap.size, 0, none⟩) := hk 1 (by kernel_rfl)
        exact .same (by simp [go_sem, h1]) rfl
      · cases ho
        have h81 : A0.tmps[81]?.getD undef = .pointer (some ⟨w.heap.size, 2, none⟩) := hin 22 81 (by kernel_rfl)
        exact .same (by simp [go_sem, h81]) rfl
      · cases ho
        have h82 : A0.tmps[82]?.getD undef = .pointer (some ⟨w.heap.size, 5, none⟩) := hin 23 82 (by kernel_rfl)
        have hc : W.cell? ⟨w.heap.size, 5, none⟩ = some (.int .i64 y5) := (DB.out.chg hN id).cell 5
        exact .same (by simp [go_sem, h82, hc]) rfl
      · cases ho
        have h83 : A0.tmps[83]?.getD undef = .int .i64 y5 := hin 24 83 (by kernel_rfl)
        exact .same (by simp [go_sem, h83, kw]) rfl
      · cases ho
        have h84 : A0.tmps[84]?.getD undef = .int .i64 (y5.tdiv 2) := hin 25 84 (by kernel_rfl)
        refine .enter (f := 13) (args := #[.int .i64 (y5.tdiv 2), .int .i64 2]) (v := .int .i64 q) ?_ ((HPq.out W).mono ?_)
        · simp [go_sem, h84, eg25]
        · rintro e w' ⟨rfl, rfl⟩
          exact ⟨rfl, Chg.refl _ _, rfl⟩
      · cases ho
        have h80 := hin 21 80 (by kernel_rfl)
        have h85 : A0.tmps[85]?.getD undef = .int .i64 q := hin 26 85 (by kernel_rfl)
        obtain ⟨b, e, hb, _⟩ := h80
        exact .same (v := .pointer (some ⟨b, q * 7, none⟩)) (by simp [go_sem, e, h85, kq0, kq1, hq2]) ⟨b, rfl, hb⟩
      · cases ho
        have h86 := hin 27 86 (by kernel_rfl)
        obtain ⟨b, e, hb⟩ := h86
        exact .same (exec_load 86 _ rfl stTerm ⟨b, q * 7, none⟩ [x0, x1, x2, x3, x4, x5, x6] e rfl (Hxc.out W b hb)) rfl
      · cases ho
        have h74 : A0.tmps[74]?.getD undef = .agg #[.int .i64 1, .string (vNm y3), .int .i64 0, .int .i64 0, .string ⟨#[]⟩, .slice none 0 0, .slice none 0 0] := hin 15 74 (by kernel_rfl)
        have h87 : A0.tmps[87]?.getD undef = .agg #[x0, x1, x2, x3, x4, x5, x6] := hin 28 87 (by kernel_rfl)
        exact .value (W' := W.alloc (.cells #[.int .i64 1, .string (vNm y3), .int .i64 0, .int .i64 0, .string ⟨#[]⟩, .slice none 0 0, .slice none 0 0, x0, x1, x2, x3, x4, x5, x6] 39)) (v := .slice (some ⟨W.heap.size, 0, none⟩) 2 2) (by simp [go_sem, h74, h87]) ⟨(Chg.refl _ _).alloc _, _, rfl, Blk.new _ _ _, hN.size⟩
      · cases ho
        have h70 : A0.tmps[70]?.getD undef = .string (opS mb) := hin 11 70 (by kernel_rfl)
        have h88 := hin 29 88 (by kernel_rfl)
        obtain ⟨b, e, hb⟩ := h88
        exact .same (v := .agg #[.int .i64 4, .string (opS mb), .int .i64 0, .int .i64 0, .string ⟨#[]⟩, .slice none 0 0, .slice (some ⟨b, 0, none⟩) 2 2]) (by simp [go_sem, e, h70]) ⟨b, rfl, hb⟩
      · cases ho
        have h89 := hin 30 89 (by kernel_rfl)
        obtain ⟨b, e, hb, hl⟩ := h89
        have hN1 : New W (W.alloc (.cells #[.int .i64 4, .string (opS mb), .int .i64 0, .int .i64 0, .string ⟨#[]⟩, .slice none 0 0, .slice (some ⟨b, 0, none⟩) 2 2] 39)) := (Chg.refl _ _).alloc _
        exact .value (W' := W.alloc (.cells #[.int .i64 4, .string (opS mb), .int .i64 0, .int .i64 0, .string ⟨#[]⟩, .slice none 0 0, .slice (some ⟨b, 0, none⟩) 2 2] 39)) (v := .slice (some ⟨W.heap.size, 0, none⟩) 1 1) (by simp [go_sem, e]) ⟨hN1, b, _, rfl, hb.chg hN1 id, hl, Blk.new _ _ _, hN.size⟩
      · cases ho
        have h63 : A0.tmps[63]?.getD undef = .string (vNm y2) := hin 4 63 (by kernel_rfl)
        have h90 := hin 31 90 (by kernel_rfl)
        obtain ⟨b, d, e, hb⟩ := h90
        exact .same (v := .agg #[.int .i64 4, .string (vNm y2), .slice (some ⟨d, 0, none⟩) 1 1]) (by simp [go_sem, e, h63]) ⟨b, d, rfl, hb⟩
    have hlq0 : l.length = 33 := hl
    obtain ⟨x59, lq1, rfl, hlq1⟩ := len_cons hlq0
    obtain ⟨x60, lq2, rfl, hlq2⟩ := len_cons hlq1
    obtain ⟨x61, lq3, rfl, hlq3⟩ := len_cons hlq2
    obtain ⟨x62, lq4, rfl, hlq4⟩ := len_cons hlq3
    obtain ⟨x63, lq5, rfl, hlq5⟩ := len_cons hlq4
    obtain ⟨x64, lq6, rfl, hlq6⟩ := len_cons hlq5
    obtain ⟨x65, lq7, rfl, hlq7⟩ := len_cons hlq6
    obtain ⟨x66, lq8, rfl, hlq8⟩ := len_cons hlq7
    obtain ⟨x67, lq9, rfl, hlq9⟩ := len_cons hlq8
    obtain ⟨x68, lq10, rfl, hlq10⟩ := len_cons hlq9
    obtain ⟨x69, lq11, rfl, hlq11⟩ := len_cons hlq10
    obtain ⟨x70, lq12, rfl, hlq12⟩ := len_cons hlq11
    obtain ⟨x71, lq13, rfl, hlq13⟩ := len_cons hlq12
    obtain ⟨x72, lq14, rfl, hlq14⟩ := len_cons hlq13
    obtain ⟨x73, lq15, rfl, hlq15⟩ := len_cons hlq14
    obtain ⟨x74, lq16, rfl, hlq16⟩ := len_cons hlq15
    obtain ⟨x75, lq17, rfl, hlq17⟩ := len_cons hlq16
    obtain ⟨x76, lq18, rfl, hlq18⟩ := len_cons hlq17
    obtain ⟨x77, lq19, rfl, hlq19⟩ := len_cons hlq18
    obtain ⟨x78, lq20, rfl, hlq20⟩ := len_cons hlq19
    obtain ⟨x79, lq21, rfl, hlq21⟩ := len_cons hlq20
    obtain ⟨x80, lq22, rfl, hlq22⟩ := len_cons hlq21
    obtain ⟨x81, lq23, rfl, hlq23⟩ := len_cons hlq22
    obtain ⟨x82, lq24, rfl, hlq24⟩ := len_cons hlq23
    obtain ⟨x83, lq25, rfl, hlq25⟩ := len_cons hlq24
    obtain ⟨x84, lq26, rfl, hlq26⟩ := len_cons hlq25
    obtain ⟨x85, lq27, rfl, hlq27⟩ := len_cons hlq26
    obtain ⟨x86, lq28, rfl, hlq28⟩ := len_cons hlq27
    obtain ⟨x87, lq29, rfl, hlq29⟩ := len_cons hlq28
    obtain ⟨x88, lq30, rfl, hlq30⟩ := len_cons hlq29
    obtain ⟨x89, lq31, rfl, hlq31⟩ := len_cons hlq30
    obtain ⟨x90, lq32, rfl, hlq32⟩ := len_cons hlq31
    obtain ⟨x91, lq33, rfl, hlq33⟩ := len_cons hlq32
    obtain rfl := List.eq_nil_of_length_eq_zero hlq33
    clear hlq0 hlq1 hlq2 hlq3 hlq4 hlq5 hlq6 hlq7 hlq8 hlq9 hlq10 hlq11 hlq12 hlq13 hlq14 hlq15 hlq16 hlq17 hlq18 hlq19 hlq20 hlq21 hlq22 hlq23 hlq24 hlq25 hlq26 hlq27 hlq28 hlq29 hlq30 hlq31 hlq32 hlq33
    obtain rfl : x59 = .pointer (some ⟨w.heap.size, 2, none⟩) := hΦ 0 (by decide)
    obtain rfl : x60 = .pointer (some ⟨w.heap.size, 2, none⟩) := hΦ 1 (by decide)
    obtain rfl : x61 = .int .i64 y2 := hΦ 2 (by decide)
    obtain rfl : x62 = .agg #[.int .i64 1, .string (vNm y2), .int .i64 0, .int .i64 0, .string ⟨#[]⟩, .slice none 0 0, .slice none 0 0] := hΦ 3 (by decide)
    obtain rfl : x63 = .string (vNm y2) := hΦ 4 (by decide)
    have hx64 := hΦ 5 (by decide)
    obtain rfl : x65 = .pointer (some ⟨w.heap.size, 2, none⟩) := hΦ 6 (by decide)
    obtain rfl : x66 = .pointer (some ⟨w.heap.size, 5, none⟩) := hΦ 7 (by decide)
    obtain rfl : x67 = .int .i64 y5 := hΦ 8 (by decide)
    obtain rfl : x68 = .int .i64 m := hΦ 9 (by decide)
    have hx69 := hΦ 10 (by decide)
    obtain rfl : x70 = .string (opS mb) := hΦ 11 (by decide)
    obtain rfl : x71 = .pointer (some ⟨w.heap.size, 2, none⟩) := hΦ 12 (by decide)
    obtain rfl : x72 = .pointer (some ⟨w.heap.size, 3, none⟩) := hΦ 13 (by decide)
    obtain rfl : x73 = .int .i64 y3 := hΦ 14 (by decide)
    obtain rfl : x74 = .agg #[.int .i64 1, .string (vNm y3), .int .i64 0, .int .i64 0, .string ⟨#[]⟩, .slice none 0 0, .slice none 0 0] := hΦ 15 (by decide)
    obtain rfl : x75 = .agg #[.int .i64 2, .string ⟨#[]⟩, .int .i64 1, .int .i64 1, .string ⟨#[]⟩, .slice none 0 0, .slice none 0 0] := hΦ 16 (by decide)
    obtain rfl : x76 = .pointer (some ⟨w.heap.size, 2, none⟩) := hΦ 17 (by decide)
    obtain rfl : x77 = .pointer (some ⟨w.heap.size, 4, none⟩) := hΦ 18 (by decide)
    obtain rfl : x78 = .int .i64 y4 := hΦ 19 (by decide)
    obtain rfl : x79 = .agg #[.int .i64 1, .string (vNm y4), .int .i64 0, .int .i64 0, .string ⟨#[]⟩, .slice none 0 0, .slice none 0 0] := hΦ 20 (by decide)
    have hx80 := hΦ 21 (by decide)
    obtain rfl : x81 = .pointer (some ⟨w.heap.size, 2, none⟩) := hΦ 22 (by decide)
    obtain rfl : x82 = .pointer (some ⟨w.heap.size, 5, none⟩) := hΦ 23 (by decide)
    obtain rfl : x83 = .int .i64 y5 := hΦ 24 (by decide)
    obtain rfl : x84 = .int .i64 (y5.tdiv 2) := hΦ 25 (by decide)
    obtain rfl : x85 = .int .i64 q := hΦ 26 (by decide)
    have hx86 := hΦ 27 (by decide)
    obtain rfl : x87 = .agg #[x0, x1, x2, x3, x4, x5, x6] := hΦ 28 (by decide)
    have hx88 := hΦ 29 (by decide)
    have hx89 := hΦ 30 (by decide)
    have hx90 := hΦ 31 (by decide)
    have hx91 := hΦ 32 (by decide)
    simp only [putsL, List.zip_cons_cons, List.zip_nil_left, List.zip_nil_right, List.zip, List.zipWith, Act.put, List.setIfInBounds_toArray, List.set_cons_succ, List.set_cons_zero]
    clear hΦ hl
    obtain ⟨b, d, rfl, hbb, hbl, hdd, hdl⟩ := hx91
    obtain ⟨_, rfl, _⟩ := hx64
    obtain ⟨_, rfl, _⟩ := hx69
    obtain ⟨_, rfl, _⟩ := hx80
    obtain ⟨_, rfl, _⟩ := hx86
    obtain ⟨_, rfl, _⟩ := hx88
    obtain ⟨_, rfl, _⟩ := hx89
    obtain ⟨_, _, rfl, _⟩ := hx90
    have HBb := Lib.hid hbb
    have HDd := Lib.hid hdd
    have HL3 := Lib.hid (DL.out.chg hN id)
    have HN3 := Lib.hid (DN.out.trans hN (fun _ _ x => x))
    have hlb := DL.out.lt
    have hwl := DN.out.size
    clear hbb hdd DL DB DN hN
    refine AtN.list 33 34 (by kernel_rfl) ?_
    change wpList _ _ _ [_] _ _
    go_wp2_with ((with_reducible refine wpl_set rfl (.tmp 2) (.tmp 91) 43 rfl rfl stLit (w.heap.size + 1) 43 _ [.int .i64 4, .string (vNm y2), .slice (some ⟨d, 0, none⟩) 1 1] ?_ ?_ HL3.out rfl rfl (lit_one _ _ _ _ _) ?_); exact rfl; exact rfl; intro w6 hc6 hb6 hs6; have HC6 := Lib.hid hc6; have HB6 := Lib.hid hb6; clear hc6 hb6 hs6)
    change AtN _ _ _ 34 _ _
    refine AtN.done rfl ?_
    go_wp2_with fail
    have hS : Stays w6 (fun k => k < w.heap.size) (fun W => LtAt W [.int .i64 4, .string (vNm y2), .slice (some ⟨d, 0, none⟩) 1 1] (.assign (vNm y2) (.op mb (.var (vNm y3)) tx))) := fun W' hc => by
      have hb' := (HBb.out.chg HC6.out (fun e => by omega)).chg hc (fun e => by omega)
      have hd' := (HDd.out.chg HC6.out (fun e => by omega)).chg hc (fun e => by omega)
      refine ⟨some ⟨d, 0, none⟩, 1, [[.int .i64 4, .string (opS mb), .int .i64 0, .int .i64 0, .string ⟨#[]⟩, .slice none 0 0, .slice (some ⟨b, 0, none⟩) 2 2]], rfl, tms1 hd' ?_⟩
      obtain ⟨a, h1, h2⟩ := (tms2 (t1 := .var (vNm y3)) (t2 := tx) (c1 := [.int .i64 1, .string (vNm y3), .int .i64 0, .int .i64 0, .string ⟨#[]⟩, .slice none 0 0, .slice none 0 0]) (c2 := [x0, x1, x2, x3, x4, x5, x6]) hb' rfl (Hx.out W')).src (by simp)
      cases h1
      exact ⟨⟨b, 0, none⟩, 2, _, _, rfl, hb'.lt, h2, rfl, Hx.out W'⟩
    exact bodyPost_ret (v := .agg #[.int .i64 4, .string (vNm y2), .slice (some ⟨d, 0, none⟩) 1 1]) (res_cellK stLit rfl _ _ ⟨w.heap.size + 1, 0, none⟩ [.int .i64 4, .string (vNm y2), .slice (some ⟨d, 0, none⟩) 1 1] rfl HB6.out.at_ rfl) rfl ⟨.assign (vNm y2) (.op mb (.var (vNm y3)) tx), some ⟨d, 0, none⟩, 1, rfl, ⟨⟨y2, rfl⟩, ⟨y3, rfl⟩, HTx.out⟩, hS, HN3.out.trans HC6.out (fun k hk e => by omega)⟩
end Go.Proofs.Ytfocjfnkcabbgaa
