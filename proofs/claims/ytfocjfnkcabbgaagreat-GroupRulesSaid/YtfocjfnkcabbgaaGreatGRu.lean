/- group.Rule. -/
import Derived.Test.YtfocjfnkcabbgaaGreatRulS
import Derived.Test.YtfocjfnkcabbgaaGreatGrp2
import Derived.Test.YtfocjfnkcabbgaaGreatGrpU
set_option linter.unusedVariables false
set_option linter.unusedSimpArgs false
namespace Go.Proofs.YtfocjfnkcabbgaaGreat
open Go.RowKit Go.Shelf

def FPost (w : World) (r : Ru) (rows : List Rw) (e : Ending) (w' : World) : Prop := ∃ m v' out, IsMerge rows m ∧ IsMerge (fireR r m) out ∧ e = .returned v' ∧ RowSl w' v' out ∧ New w w'
def GRPost (w : World) (r : Ru) (ag : Ag) (rows : List Rw) (e : Ending) (w' : World) : Prop := ∃ m o v' m2 res, IsMerge rows m ∧ IsMerge (fireR r m) o ∧ IsMerge (trn 1 o) m2 ∧ IsMerge ((grp ag m2).map (bck 1)) res ∧ e = .returned v' ∧ RowSl w' v' res ∧ New w w'

set_option maxHeartbeats 4000000 in
set_option maxRecDepth 100000 in
theorem grule_plain (w : World) (v vr : Value) (r : Ru) (hr : RuSl w v r) (hraw : r.Raw) (hag : r.agg = ⟨#[]⟩) (rows : List Rw) (hrs : RowSl w vr rows) (hrw : ∀ x ∈ rows, ∀ u ∈ x.args, rawV u) (hk : ∀ m, IsMerge rows m → m.length ≤ 30) :
    Calls Tryz.prog 9 #[v, vr] w (FPost w r rows) := by
  obtain ⟨lab, A, c, Ab, cb, rfl⟩ := hr.form
  have hf := fun W (hW : New w W) => fire_sl W _ vr r (hr.chg hW) hraw rows (hrs.chg hW) hrw 0 hk
  rw [hag] at hf ⊢
  have HF := Lib.hid hf
  have hbl := Blk.new w 27 #[.string lab, .string r.h, .slice A r.ts.length c, .string ⟨#[]⟩, .int .i64 r.at', .slice Ab r.Ls.length cb]
  have hn0 : New w (w.alloc (.cells #[.string lab, .string r.h, .slice A r.ts.length c, .string ⟨#[]⟩, .int .i64 r.at', .slice Ab r.Ls.length cb] 27)) := (Chg.refl _ _).alloc _
  have HBl := Lib.hid hbl
  have HN0 := Lib.hid hn0
  clear hf hbl hn0 hr hrs
  go_enter Tryz.func9, Tryz.ntmps9
  go_wp2_with (go_at_call 7; refine (HF.out _ HN0.out).mono ?_; rintro e w1 ⟨m, v', out, hm, ho, rfl, hsl, hN1⟩; have e3 := (HBl.out.chg hN1 id).cell 3; simp only [List.getElem?_toArray, List.getElem?_cons_zero, List.getElem?_cons_succ] at e3; have HM := Lib.hid hm; have HO := Lib.hid ho; have HS := Lib.hid hsl; have HN1 := Lib.hid (HN0.out.trans hN1 (fun _ _ x => x)); clear hm ho hsl hN1)
  go_ret
  exact ⟨m, _, out, HM.out, HO.out, rfl, HS.out, HN1.out⟩

set_option maxHeartbeats 8000000 in
set_option maxRecDepth 100000 in
theorem grule_agg (w : World) (v vr : Value) (r : Ru) (hr : RuSl w v r) (hraw : r.Raw) (ag : Ag) (hag : r.agg = agName ag) (hat : r.at' = 1) (rows : List Rw) (hrs : RowSl w vr rows) (hrw : ∀ x ∈ rows, ∀ u ∈ x.args, rawV u) (hk : ∀ m, IsMerge rows m → m.length ≤ 30) :
    Calls Tryz.prog 9 #[v, vr] w (GRPost w r ag rows) := by
  obtain ⟨lab, A, c, Ab, cb, rfl⟩ := hr.form
  have hf := fun W (hW : New w W) => fire_sl W _ vr r (hr.chg hW) hraw rows (hrs.chg hW) hrw 0 hk
  rw [hag, hat] at hf ⊢
  have HF := Lib.hid hf
  have hg := fun W v' o h => group_rows W ag 1 (by omega) (by omega) v' o h
  have HG := Lib.hid hg
  clear hf hr hrs hg hag hat
  obtain ⟨nm, hnm⟩ : ∃ nm, agName ag = nm := ⟨_, rfl⟩
  have hne : (nm != ⟨#[]⟩) = true ∧ (nm.toList == ([] : List UInt8)) = false := by
    rw [← hnm]
    cases ag <;> exact ⟨by decide +kernel, by decide +kernel⟩
  have hbl := Blk.new w 27 #[.string lab, .string r.h, .slice A r.ts.length c, .string nm, .int .i64 1, .slice Ab r.Ls.length cb]
  have hn0 : New w (w.alloc (.cells #[.string lab, .string r.h, .slice A r.ts.length c, .string nm, .int .i64 1, .slice Ab r.Ls.length cb] 27)) := (Chg.refl _ _).alloc _
  rw [hnm] at HF HG ⊢
  have HBl := Lib.hid hbl
  have HN0 := Lib.hid hn0
  obtain ⟨hne1, hne2⟩ := hne
  clear hbl hn0 hnm
  go_enter Tryz.func9, Tryz.ntmps9
  go_wp2_with first
    | (go_at_call 7; refine (HF.out _ HN0.out).mono ?_; rintro e w1 ⟨m, v', out, hm, ho, rfl, hsl, hN1⟩; have e3 := (HBl.out.chg hN1 id).cell 3; have e4 := (HBl.out.chg hN1 id).cell 4; simp only [List.getElem?_toArray, List.getElem?_cons_zero, List.getElem?_cons_succ] at e3 e4; have HM := Lib.hid hm; have HO := Lib.hid ho; have HS := Lib.hid hsl; have HN1 := Lib.hid (HN0.out.trans hN1 (fun _ _ x => x)); clear hm ho hsl hN1)
    | (go_at_call 12; refine (HG.out _ _ _ HS.out).mono ?_; rintro e w2 ⟨v2, m2, res, rfl, hm2, hres, hsl2, hN2⟩; have HM2 := Lib.hid hm2; have HR2 := Lib.hid hres; have HS2 := Lib.hid hsl2; have HN2 := Lib.hid (HN1.out.trans hN2 (fun _ _ x => x)); clear hm2 hres hsl2 hN2)
  go_ret
  exact ⟨m, out, _, m2, res, HM.out, HO.out, HM2.out, HR2.out, rfl, HS2.out, HN2.out⟩
/-- Rows do not lie in a rule's block. -/
theorem rowsAt_rule {W W' : World} {a : Addr} {css : List (List Value)} {rs : List Rw} (hr : RowsAt W a 3 css) (hcs : RowsCs W css rs) (hp : 0 < css.length) {b : Nat} {c0 c1 c3 : ByteArray} {A2 A5 : Option Addr} {n2 k2 n5 k5 : Nat} {i4 : Int}
    (hb : Blk W b 27 #[.string c0, .string c1, .slice A2 n2 k2, .string c3, .int .i64 i4, .slice A5 n5 k5]) : a.block ≠ b := by
  intro e
  obtain ⟨cs, h0⟩ : ∃ cs, css[0]? = some cs := ⟨_, List.getElem?_eq_getElem hp⟩
  obtain ⟨r, _, A, c, rfl, _⟩ := hcs.2 0 cs h0
  have h1 := (hr 0 _ h0).2 1 (.slice A r.args.length c) rfl
  have h2 := (hr 0 _ h0).2 2 (.int .i64 r.stamp) rfl
  rw [Nat.zero_mul, add_add, add_succ, e, hb.cell, List.getElem?_toArray] at h1 h2
  simp only [Nat.zero_add] at h1 h2
  obtain ⟨o, ho⟩ : ∃ o, a.off = o := ⟨_, rfl⟩
  rw [ho] at h1 h2
  match o, h1, h2 with
  | 0, h1, _ => simp at h1
  | 1, _, h2 => simp at h2
  | 2, h1, _ => simp at h1
  | 3, h1, _ => simp at h1
  | 4, _, h2 => simp at h2
  | o + 5, h1, _ => simp at h1
theorem vals_rule {W : World} {a : Addr} {us : List Vl} (hr : RowsAt W a 4 (us.map vcs)) (hp : 0 < us.length) {b : Nat} {c0 c1 c3 : ByteArray} {A2 A5 : Option Addr} {n2 k2 n5 k5 : Nat} {i4 : Int}
    (hb : Blk W b 27 #[.string c0, .string c1, .slice A2 n2 k2, .string c3, .int .i64 i4, .slice A5 n5 k5]) : a.block ≠ b := by
  intro e
  obtain ⟨u, h0⟩ : ∃ u, us[0]? = some u := ⟨_, List.getElem?_eq_getElem hp⟩
  have h0' : (us.map vcs)[0]? = some (vcs u) := by rw [List.getElem?_map, h0]; rfl
  have h1 := (hr 0 _ h0').2 1 (.int .i64 u.i) rfl
  have h2 := (hr 0 _ h0').2 2 (.string u.t) rfl
  rw [Nat.zero_mul, add_add, add_succ, e, hb.cell, List.getElem?_toArray] at h1 h2
  simp only [Nat.zero_add] at h1 h2
  obtain ⟨o, ho⟩ : ∃ o, a.off = o := ⟨_, rfl⟩
  rw [ho] at h1 h2
  match o, h1, h2 with
  | 0, h1, _ => simp at h1
  | 1, h1, _ => simp at h1
  | 2, h1, _ => simp at h1
  | 3, _, h2 => simp at h2
  | 4, h1, _ => simp at h1
  | o + 5, h1, _ => simp at h1
theorem RowSl.chgRule {W W' : World} {v : Value} {rs : List Rw} (h : RowSl W v rs) {b : Nat} {c0 c1 c3 : ByteArray} {A2 A5 : Option Addr} {n2 k2 n5 k5 : Nat} {i4 : Int}
    (hb : Blk W b 27 #[.string c0, .string c1, .slice A2 n2 k2, .string c3, .int .i64 i4, .slice A5 n5 k5]) (hc : Chg W W' (fun k => k = b)) : RowSl W' v rs := by
  obtain ⟨A, c, css, h1, h2, h3, h4, h5, h6, h7⟩ := h
  refine ⟨A, c, css, h1, h2, h3, h4, fun hp => ?_, ⟨h6.1, fun i cs hi => ?_⟩, fun a ha => Nat.lt_of_lt_of_le (h7 a ha) hc.size⟩
  · obtain ⟨a, ha, hr⟩ := h5 hp
    exact ⟨a, ha, hr.chg hc (rowsAt_rule (W' := W') hr h6 hp hb)⟩
  · obtain ⟨r, hr, A', c', e1, e2, e3, e4, e5, e6⟩ := h6.2 i cs hi
    refine ⟨r, hr, A', c', e1, e2, e3, e4, fun hp => ?_, fun a ha => Nat.lt_of_lt_of_le (e6 a ha) hc.size⟩
    obtain ⟨a, ha, hrw⟩ := e5 hp
    exact ⟨a, ha, hrw.chg hc (vals_rule hrw (by simpa using hp) hb)⟩
def agOf : Nat → Ag
  | 0 => .min
  | 1 => .max
  | _ => .count
theorem ag_cell {W : World} {b a : Nat} (h : Blk W b 9 #[.string (agName .min), .string (agName .max), .string (agName .count)]) (ha : a < 3) : W.cell? ⟨b, a, none⟩ = some (.string (agName (agOf a))) := by
  rcases (show a = 0 ∨ a = 1 ∨ a = 2 by omega) with rfl | rfl | rfl
  · exact h.cell 0
  · exact h.cell 1
  · exact h.cell 2
end Go.Proofs.YtfocjfnkcabbgaaGreat
