/- graph.tabled: the table of edges. -/
import Derived.Test.YtffmalagochakaaGra1
import Derived.Test.YtffmalagochakaaGraO
import Derived.Deep.CutRange
set_option linter.unusedVariables false
set_option linter.unusedSimpArgs false
namespace Go.Proofs.Ytffmalagochakaa
open Go.RowKit Go.Shelf

theorem tl_eqG {a b : ByteArray} (h : a.toList = b.toList) : a = b := by
  rw [ByteArray.toList_eq, ByteArray.toList_eq] at h
  exact ByteArray.ext (Array.toList_inj.mp h)
def TabPost (w : World) (E : List Ed) (e : Ending) (w' : World) : Prop := ∃ b, e = .returned (.map (some b)) ∧ TabAt w' w.heap.size b (2 * E.length) (tabF E) ∧ New w w'
theorem take_tab {E : List Ed} {i : Nat} {e : Ed} (h : E[i]? = some e) : tabF (E.take (i + 1)) = putE (tabF (E.take i)) e := by
  rw [take_succ_get h, tabF_snoc]

set_option maxHeartbeats 4000000 in
set_option maxRecDepth 100000 in
theorem tabled18 (w : World) (A : Option Addr) (n c : Nat) (E : List Ed) (hn : n = E.length) (hA : SrcAt w A 3 (E.map edC)) (hE : ∀ e ∈ E, e.Fit) (hb : n ≤ 1000000) :
    Calls Try.prog 18 #[.slice A n c] w (TabPost w E) := by
  have HA := Lib.hid hA
  have HE := Lib.hid hE
  have HN := Lib.hid hn
  clear hA hE hn
  have hmm := @run_makeMap Try.prog
  go_enter Try.func18, Try.ntmps18
  go_wp2_with fail
  have hT0 := TabG.made w w.heap.size (Nat.le_refl _)
  have hN0 : New w (w.alloc (.map #[] 0)) := (Chg.refl _ _).alloc _
  generalize hbb : w.heap.size = bb at hT0 ⊢
  go_loopw [11] (fun u wr => ∃ (i : Nat), i ≤ n ∧ u = .int .i64 i ∧ TabAt wr bb bb (2 * i) (tabF (E.take i)) ∧ New w wr) (fun u _ => n - (intOf u).toNat)
  case atStart => exact ⟨0, Nat.zero_le _, rfl, ⟨_, hT0⟩, hN0⟩
  case round =>
    obtain ⟨i, hin, rfl, ⟨g, htb⟩, hN⟩ := hrel
    have HT := Lib.hid htb
    have HNw := Lib.hid hN
    have Hbb := Lib.hid hbb
    clear htb hN hT0 hN0 hbb
    by_cases hlt : i < n
    · obtain ⟨ed, hed⟩ : ∃ ed, E[i]? = some ed := ⟨_, List.getElem?_eq_getElem (by rw [← HN.out]; exact hlt)⟩
      obtain ⟨ad, rfl, hrA⟩ := HA.out (by rw [List.length_map, ← HN.out]; omega)
      have hat := (hrA i (edC ed) (by rw [List.getElem?_map, hed]; rfl)).2.chg HNw.out id
      have hfit := HE.out ed (List.mem_of_getElem? hed)
      have Htk := Lib.hid (take_tab hed)
      obtain ⟨ea, eb, ec⟩ := ed
      obtain ⟨hfa, hfb, hfl, hfh⟩ := hfit
      simp only at hfa hfb hfl hfh
      simp only [edC] at hat
      have Hat := Lib.hid hat
      clear hat hrA hed
      have hN1 : New wr (wr.alloc (.cells #[.string ea, .string eb, .int .i64 ec] 40)) := (Chg.refl _ _).alloc _
      have hB1 : Blk (wr.alloc (.cells #[.string ea, .string eb, .int .i64 ec] 40)) wr.heap.size 40 #[.string ea, .string eb, .int .i64 ec] := Blk.new wr _ _
      have HT1 := Lib.hid (HT.out.chg hN1 (fun _ _ _ x => x))
      have HN1 := Lib.hid (HNw.out.trans hN1 (fun _ _ x => x))
      have hwb := HNw.out.size
      rw [Hbb.out] at hwb
      have k0 : (0 : Int) ≤ (i : Int) := by omega
      have k1 : (i : Int) < (n : Int) := by omega
      have HB1 := Lib.hid hB1
      have hbx : bb < wr.heap.size := HT.out.om.lt
      have Hkx := Lib.hid (show ∀ s k, g s = some k → k < wr.heap.size from fun s k h => (HT.out.inn s k h).2.2.lt)
      clear hN1 hB1 HT
      go_upto_region 5 with ((with_reducible refine wpl_load rfl (.tmp 13) 40 rfl stEdge (ad.add (i * 3)) [.string ea, .string eb, .int .i64 ec] ?_ rfl Hat.out ?_); exact rfl)
      generalize wr.alloc (.cells #[.string ea, .string eb, .int .i64 ec] 40) = w1 at HT1 HN1 HB1 ⊢
      generalize wr.heap.size = bx at HB1 hwb hbx Hkx ⊢
      have e0 := HB1.out.cell 0
      have e1 := HB1.out.cell 1
      have e2 := HB1.out.cell 2
      simp only [List.getElem?_toArray, List.getElem?_cons_zero, List.getElem?_cons_succ] at e0 e1 e2
      go_cut [29] from 15 to 29 (fun z wx => z = .bool (!(Ed.mk ea eb ec).ok) ∧ wx = w1)
      case first =>
        by_cases hab : ea = eb
        · subst hab
          have hok : (Ed.mk ea ea ec).ok = false := by simp [Ed.ok]
          go_wp2_with fail
          go_meet
          exact ⟨by rw [hok]; rfl, rfl⟩
        · have hsl : ¬ ea.toList = eb.toList := fun e => hab (tl_eqG e)
          by_cases hc1 : ec < 1
          · have hok : (Ed.mk ea eb ec).ok = false := by simp [Ed.ok]; omega
            go_wp2_with fail
            go_meet
            exact ⟨by rw [hok]; rfl, rfl⟩
          · by_cases hc2 : 2147483647 < ec
            · have hok : (Ed.mk ea eb ec).ok = false := by simp [Ed.ok]; omega
              go_wp2_with fail
              go_meet
              exact ⟨by rw [hok]; rfl, rfl⟩
            · have hok : (Ed.mk ea eb ec).ok = true := by simp [Ed.ok, hab]; omega
              have hq : (ea.toList == eb.toList) = false := by simpa using hsl
              go_wp2_with fail
              go_meet
              exact ⟨by rw [hok]; first | rfl | (rw [hq]; rfl), rfl⟩
      case rest =>
        obtain ⟨rfl, rfl⟩ := hcut
        obtain ⟨k, hk⟩ : ∃ k, (Ed.mk ea eb ec).ok = k := ⟨_, rfl⟩
        rw [hk]
        have Hk := Lib.hid hk
        clear hk
        cases k with
        | false =>
          have HT2 := Lib.hid (show TabAt wc bb bb (2 * (i + 1)) (tabF (E.take (i + 1))) by rw [Htk.out, putE_no Hk.out]; exact ⟨_, HT1.out.mono (by omega)⟩)
          clear e0 e1 e2
          go_wp2_with fail
          go_roundw
          case rel => exact ⟨i + 1, by omega, by go_num, HT2.out, HN1.out⟩
          case measure => simp only [intOf]; omega
        | true =>
          have hml : 2 * i + 2 < maxLen := by unfold maxLen; omega
          have hm1 : ∀ w, (binOp .eql 53 (.map none) (.map none)).run Try.prog w = .ok (.bool true) w := fun _ => by kernel_rfl
          have hm2 : ∀ k w, (binOp .eql 53 (.map (some k)) (.map none)).run Try.prog w = .ok (.bool false) w := fun _ _ => by kernel_rfl
          cases hg : g ea with
          | none =>
            have HG := Lib.hid hg
            have HL1 := Lib.hid (HT1.out.om.look ea hfa)
            rw [hg] at HL1
            obtain ⟨w2, hrun2, ht2, hc2⟩ := HT1.out.new (by have := HB1.out.lt; omega) (by omega) ea hfa hg
            have HR2 := Lib.hid hrun2
            have HT2 := Lib.hid ht2
            have HN2 := Lib.hid (HN1.out.put hc2 (by rw [Hbb.out]; exact Nat.le_refl _))
            have HB2 := Lib.hid (HB1.out.chg hc2 (fun e => absurd hbx (by omega)))
            have hg2 : updG g ea wc.heap.size ea = some wc.heap.size := by unfold updG; rw [if_pos rfl]
            have hkb : bx < wc.heap.size := HB1.out.lt
            have HNA := Lib.hid (show ∀ o, New wc (wc.alloc o) from fun o => (Chg.refl _ _).alloc _)
            have HBA := Lib.hid (show ∀ o, Blk (wc.alloc o) bx 40 #[.string ea, .string eb, .int .i64 ec] from fun o => HB1.out.chg (HNA.out o) id)
            clear hrun2 ht2 hc2 hg
            go_upto_region 7 with first
              | ((with_reducible refine wpl_lookup rfl _ _ 45 false rfl (.map (some bb)) (.string ea) (.map none) rfl rfl HL1.out ?_))
            have e0 := (HBA.out (.map #[] 0)).cell 0
            simp only [List.getElem?_toArray, List.getElem?_cons_zero] at e0
            have HL2 := Lib.hid (HT2.out.om.look ea hfa)
            rw [hg2] at HL2
            have HL3 := Lib.hid ((HT2.out.inn ea wc.heap.size hg2).2.2.look eb hfb)
            rw [HT1.out.non ea HG.out] at HL3
            obtain ⟨w3, hrun3, ht3, hc3⟩ := HT2.out.put (by omega) ea eb hfb hg2 ec hfl hfh
            have HR3 := Lib.hid hrun3
            have HF := Lib.hid (show TabAt w3 bb bb (2 * (i + 1)) (tabF (E.take (i + 1))) by
              rw [Htk.out, putE_put Hk.out (fun c hc => by simp only at hc; rw [HT1.out.non ea HG.out] at hc; cases hc)]
              exact ⟨_, ht3.mono (by omega)⟩)
            have HNF := Lib.hid (HN2.out.put hc3 (by rw [Hbb.out]; omega))
            clear hrun3 ht3 hc3 hg2 HT1 HT2 HN1
            go_upto_region 8 with first
              | ((with_reducible refine wpl_mapup rfl _ _ _ 45 rfl (.map (some bb)) (.string ea) (.map (some wc.heap.size)) rfl rfl rfl HR2.out rfl ?_))
            clear e0 HR2
            generalize wc.heap.size = k at HL2 HL3 HR3 hkb ⊢
            have e0 := HB2.out.cell 0
            have e1 := HB2.out.cell 1
            have e2 := HB2.out.cell 2
            simp only [List.getElem?_toArray, List.getElem?_cons_zero, List.getElem?_cons_succ] at e0 e1 e2
            go_wp2_with first
              | ((with_reducible refine wpl_lookup rfl _ _ 45 false rfl (.map (some bb)) (.string ea) (.map (some k)) rfl rfl HL2.out ?_))
              | ((with_reducible refine wpl_lookup rfl _ _ 53 true rfl (.map (some k)) (.string eb) (.tuple #[.int .i64 ((none : Option Int).getD 0), .bool (none : Option Int).isSome]) rfl rfl HL3.out ?_))
              | ((with_reducible refine wpl_mapup rfl _ _ _ 53 rfl (.map (some k)) (.string eb) (.int .i64 ec) rfl rfl rfl HR3.out rfl ?_))
            go_roundw
            case rel => exact ⟨i + 1, by omega, by go_num, HF.out, HNF.out⟩
            case measure => simp only [intOf]; omega
          | some k =>
            have HG := Lib.hid hg
            have HL1 := Lib.hid (HT1.out.om.look ea hfa)
            rw [hg] at HL1
            have HL3 := Lib.hid ((HT1.out.inn ea k hg).2.2.look eb hfb)
            have hbk := (HT1.out.inn ea k hg).2.1
            obtain ⟨w3, hrun3, ht3, hc3⟩ := HT1.out.put (by omega) ea eb hfb hg ec hfl hfh
            have HR3 := Lib.hid hrun3
            have HT3 := Lib.hid ht3
            have HNF0 := Lib.hid (HN1.out.put hc3 (by rw [Hbb.out]; exact hbk))
            clear hrun3 ht3 hc3
            have hg1 : g ea = some k := hg
            clear hg
            cases hto : tabF (E.take i) ea eb with
            | none =>
              rw [hto] at HL3
              have HF := Lib.hid (show TabAt w3 bb bb (2 * (i + 1)) (tabF (E.take (i + 1))) by
                rw [Htk.out, putE_put Hk.out (fun c hc => by simp only at hc; rw [hto] at hc; cases hc)]
                exact ⟨_, HT3.out.mono (by omega)⟩)
              have HNF := HNF0
              clear hto HT3 HT1
              go_wp2_with first
                | ((with_reducible refine wpl_lookup rfl _ _ 45 false rfl (.map (some bb)) (.string ea) (.map (some k)) rfl rfl HL1.out ?_))
                | ((with_reducible refine wpl_lookup rfl _ _ 53 true rfl (.map (some k)) (.string eb) (.tuple #[.int .i64 ((none : Option Int).getD 0), .bool (none : Option Int).isSome]) rfl rfl HL3.out ?_))
                | ((with_reducible refine wpl_mapup rfl _ _ _ 53 rfl (.map (some k)) (.string eb) (.int .i64 ec) rfl rfl rfl HR3.out rfl ?_))
              go_roundw
              case rel => exact ⟨i + 1, by omega, by go_num, HF.out, HNF.out⟩
              case measure => simp only [intOf]; omega
            | some c =>
              rw [hto] at HL3
              by_cases hl : ec < c
              · have HF := Lib.hid (show TabAt w3 bb bb (2 * (i + 1)) (tabF (E.take (i + 1))) by
                  rw [Htk.out, putE_put Hk.out (fun c' hc => by simp only at hc; rw [hto] at hc; cases hc; exact hl)]
                  exact ⟨_, HT3.out.mono (by omega)⟩)
                have HNF := HNF0
                have hdl : decide (ec < c) = true := decide_eq_true hl
                clear hto HT3 HT1
                go_wp2_with first
                  | ((with_reducible refine wpl_lookup rfl _ _ 45 false rfl (.map (some bb)) (.string ea) (.map (some k)) rfl rfl HL1.out ?_))
                  | ((with_reducible refine wpl_lookup rfl _ _ 53 true rfl (.map (some k)) (.string eb) (.tuple #[.int .i64 ((some c).getD 0), .bool (some c).isSome]) rfl rfl HL3.out ?_))
                  | ((with_reducible refine wpl_mapup rfl _ _ _ 53 rfl (.map (some k)) (.string eb) (.int .i64 ec) rfl rfl rfl HR3.out rfl ?_))
                go_roundw
                case rel => exact ⟨i + 1, by omega, by go_num, HF.out, HNF.out⟩
                case measure => simp only [intOf]; omega
              · have HF := Lib.hid (show TabAt wc bb bb (2 * (i + 1)) (tabF (E.take (i + 1))) by
                  rw [Htk.out, putE_keep Hk.out hto hl]
                  exact ⟨_, HT1.out.mono (by omega)⟩)
                have HNF := HN1
                have hdl : decide (ec < c) = false := decide_eq_false hl
                clear hto HT3 HT1
                go_wp2_with first
                  | ((with_reducible refine wpl_lookup rfl _ _ 45 false rfl (.map (some bb)) (.string ea) (.map (some k)) rfl rfl HL1.out ?_))
                  | ((with_reducible refine wpl_lookup rfl _ _ 53 true rfl (.map (some k)) (.string eb) (.tuple #[.int .i64 ((some c).getD 0), .bool (some c).isSome]) rfl rfl HL3.out ?_))
                go_roundw
                case rel => exact ⟨i + 1, by omega, by go_num, HF.out, HNF.out⟩
                case measure => simp only [intOf]; omega
    · have l1 : decide ((i : Int) < (n : Int)) = false := by simp; omega
      have HF := Lib.hid (show TabAt wr bb bb (2 * E.length) (tabF E) by
        have := HT.out
        rw [show i = E.length by have := HN.out; omega, List.take_length] at this
        exact ⟨_, this⟩)
      go_wp2_with fail
      go_ret
      exact ⟨bb, rfl, by rw [Hbb.out]; exact HF.out, HNw.out⟩
end Go.Proofs.Ytffmalagochakaa
