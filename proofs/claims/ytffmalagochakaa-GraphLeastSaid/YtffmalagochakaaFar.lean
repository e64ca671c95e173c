/- graph: far. -/
import Derived.Test.YtffmalagochakaaFarP
import Derived.Deep.CutRange
set_option linter.unusedVariables false
set_option linter.unusedSimpArgs false
namespace Go.Proofs.Ytffmalagochakaa
open Go.RowKit Go.Shelf

/-- far's state at the head of its loop. -/
def FarSt (w wr : World) (T : Tb) (V : List ByteArray) (n : Nat) (a : ByteArray) (bd M m : Nat) (u6 u7 : Value) : Prop :=
  ∃ (q : List QE) (f : ByteArray → Option Int) (nd : Nat) (first : Bool), u7 = .bool first ∧ QAt wr w.heap.size 59 2 u6 (q.map qC) ∧ IMap wr bd nd f ∧ nd + m ≤ M ∧ m ≤ M ∧ q.length ≤ m ∧ New w wr ∧ CostOk M m q ∧ (∀ s, maxLen < s.size → f s = none) ∧ FarQ T V n a M m q f first
/-- .. at the head of the loop over what one comes to. -/
def InSt (w wr : World) (T : Tb) (x : QE) (q' : List QE) (ob : Option Nat) (r n bd nd bx : Nat) (f : ByteArray → Option Int) (k : Nat) (u6 : Value) : Prop :=
  ∃ (left : ByteArray → Bool) (ps : List QE), IRngO wr ob r n (T x.1) left k ∧ QAt wr w.heap.size 59 2 u6 ((q' ++ ps.map (pushQ x)).map qC) ∧ ps.length + k ≤ n ∧ (∀ p ∈ ps, T x.1 p.1 = some p.2) ∧ (∀ s c, T x.1 s = some c → left s = true ∨ (s, c) ∈ ps) ∧ IMap wr bd nd f ∧ Blk wr bx 59 #[.string x.1, .int .i64 x.2] ∧ (∀ g, u6.ownBlock = some g → g ≠ bx) ∧ New w wr
def FarPost (w : World) (T : Tb) (a : ByteArray) (M : Nat) (e : Ending) (w' : World) : Prop := ∃ bd nd f, e = .returned (.map (some bd)) ∧ IMap w' bd nd f ∧ nd ≤ M ∧ (∀ v, DistO (TR T) a v (f v)) ∧ (∀ s, maxLen < s.size → f s = none) ∧ New w w' ∧ w.heap.size ≤ bd

set_option maxHeartbeats 8000000 in
set_option maxRecDepth 100000 in
theorem far25 (w : World) (B b n : Nat) (T : Tb) (hT : TabAt w B b n T) (V : List ByteArray) (hok : TOk T V) (a : ByteArray) (ha : a.size ≤ maxLen) (M : Nat) (hM : M = (V.length + 1) * (n + 1)) (hMb : M ≤ 100000000) :
    Calls Try.prog 25 #[.map (some b), .string a] w (FarPost w T a M) := by
  obtain ⟨g, hT⟩ := hT
  have HT := Lib.hid hT
  have HOk := Lib.hid hok
  have HMM := Lib.hid hM
  have hM0 : 0 < M := by rw [hM, Nat.add_mul]; omega
  clear hT hok hM
  have hmm := @run_makeMap Try.prog
  go_enter Try.func25, Try.ntmps25
  go_wp2_with fail
  have hN0 : New w ((w.alloc (.map #[] 0)).alloc (.cells #[.string a, .int .i64 0] 59)) := ((Chg.refl _ _).alloc _).alloc _
  have hI0 : IMap ((w.alloc (.map #[] 0)).alloc (.cells #[.string a, .int .i64 0] 59)) w.heap.size 0 (fun _ => none) := (IMap.made w).chg (T := fun _ => False) ((Chg.refl _ _).alloc _) id
  have hQ0 : QAt ((w.alloc (.map #[] 0)).alloc (.cells #[.string a, .int .i64 0] 59)) w.heap.size 59 2 (.slice (some ⟨w.heap.size + 1, 0, none⟩) 1 1) [qC (a, 0)] := by
    refine QAt.one ?_ (Nat.le_succ _) rfl
    have := Blk.new (w.alloc (.map #[] 0)) 59 #[.string a, .int .i64 0]
    rw [World.size_alloc] at this
    exact this
  have hS0 : FarSt w ((w.alloc (.map #[] 0)).alloc (.cells #[.string a, .int .i64 0] 59)) T V n a w.heap.size M M (.slice (some ⟨w.heap.size + 1, 0, none⟩) 1 1) (.bool true) :=
    ⟨[(a, 0)], fun _ => none, 0, true, rfl, hQ0, hI0, by omega, Nat.le_refl _, by simp; omega, hN0, fun p hp => by rw [List.mem_singleton.1 hp]; exact ⟨ha, Int.le_refl _, by simp⟩, fun s hs => rfl, rfl, rfl, rfl⟩
  clear hN0 hI0 hQ0
  generalize hbd : w.heap.size = bd at hS0 ⊢
  go_loopw [6, 7] (fun u6 u7 wr => ∃ m, FarSt w wr T V n a bd M m u6 u7) (fun u6 u7 wr => least (fun m => FarSt w wr T V n a bd M m u6 u7))
  case atStart => exact ⟨M, hS0⟩
  case round =>
    clear hS0
    have hst := least_spec hrel
    obtain ⟨m, hLm⟩ : ∃ m, least (fun m => FarSt w wr T V n a bd M m u6 u7) = m := ⟨_, rfl⟩
    rw [hLm] at hst
    have HL := Lib.hid hLm
    clear hLm hrel
    obtain ⟨q, f, nd, first, rfl, hq, hf, hnd, hmM, hqm, hN, hco, hfs, hfq⟩ := hst
    obtain ⟨gq, o, cap, hu⟩ := hq.formF
    rw [List.length_map] at hu
    subst hu
    have HQ := Lib.hid hq
    have HF := Lib.hid hf
    have HNw := Lib.hid hN
    have HCo := Lib.hid hco
    have HFs := Lib.hid hfs
    have HFq := Lib.hid hfq
    have Hbd := Lib.hid hbd
    clear hq hf hN hco hfs hfq hbd
    by_cases hz : q = []
    · subst hz
      have HE := Lib.hid (show ∀ v, DistO (TR T) a v (f v) by
        cases first with
        | true =>
          have := HFq.out.1
          cases this
        | false => exact HFq.out.1.end (fun u v c h => HOk.out.lo u v c h))
      go_wp2_with fail
      go_ret
      exact ⟨bd, nd, f, rfl, HF.out, by omega, HE.out, HFs.out, HNw.out, Nat.le_of_eq Hbd.out⟩
    · have hp : 0 < q.length := List.length_pos_iff.2 hz
      have HS := Lib.hid (sort30 wr w.heap.size gq o cap q HQ.out (by omega) hp)
      have l1 : (0 : Int) < (q.length : Int) := by omega
      go_upto_region 7 with (go_at_call 30; refine HS.out.mono ?_; rintro e w1 ⟨rfl, x, q', hq1, hmem, hmin, hl, hc1⟩)
      rw [List.map_cons, hl] at hq1
      obtain ⟨-, hcap, hcm, hBg, hgl, hAt, hTl⟩ := hq1.headF
      rw [List.length_map] at hcap
      have hgd : gq ≠ bd := fun e => HF.out.ne HQ.out (by rw [e]; rfl)
      have HAt := Lib.hid (show At w1 ⟨gq, o, none⟩ [.string x.1, .int .i64 x.2] from hAt)
      obtain ⟨xn, xc⟩ := x
      simp only at HAt hmin
      have hNb : New w1 (w1.alloc (.cells #[.string xn, .int .i64 xc] 59)) := (Chg.refl _ _).alloc _
      have HBx := Lib.hid (Blk.new w1 59 #[.string xn, .int .i64 xc])
      have HN2 := Lib.hid ((HNw.out.trans hc1 (fun j hj e => by omega)).trans hNb (fun _ _ x => x))
      have HF2 := Lib.hid ((HF.out.chg hc1 (fun e => hgd e.symm)).chg hNb id)
      have HTl := Lib.hid (hTl.chg hNb (fun _ _ x => x))
      have hgx : gq < w1.heap.size := hgl
      have Hm := Lib.hid hmem
      have Hmin := Lib.hid hmin
      clear hAt hTl hNb hq1 hmem hmin hc1
      go_upto_region 8 with ((with_reducible refine wpl_load rfl (.tmp 23) 59 rfl stReached ⟨gq, o, none⟩ [.string xn, .int .i64 xc] ?_ rfl HAt.out ?_); exact rfl)
      generalize hbx : w1.heap.size = bx at HBx hgx hgl ⊢
      generalize w1.alloc (.cells #[.string xn, .int .i64 xc] 59) = w2 at HN2 HF2 HTl HBx ⊢
      clear hbx HAt
      go_upto_region 9 with fail
      have htb : ∀ j, (Value.slice (if cap = 1 then some ⟨gq, o, none⟩ else some ⟨gq, o + 2, none⟩) (q.length - 1) (cap - 1)).ownBlock = some j → j ≠ bx := fun j hj => by
        have : j = gq := by
          split at hj <;> (cases hj; rfl)
        omega
      generalize Value.slice (if cap = 1 then some ⟨gq, o, none⟩ else some ⟨gq, o + 2, none⟩) (q.length - 1) (cap - 1) = vq at HTl htb ⊢
      have Htb := Lib.hid htb
      clear htb
      have hxs := ((HCo.out _ ((Hm.out (xn, xc)).2 (.inl rfl)))).1
      simp only at hxs
      cases first with
      | true =>
        have HT2 := Lib.hid (HT.out.chg HN2.out (fun _ _ _ x => x))
        have HLk := Lib.hid (HT2.out.om.look xn hxs)
        have HMo := Lib.hid (show IMapO _ (g xn) n (T xn) by
          cases hgx : g xn with
          | none => exact HT2.out.non xn hgx
          | some k => exact (HT2.out.inn xn k hgx).2.2)
        have HOb := Lib.hid (show ∀ k, g xn = some k → k < w.heap.size from fun k hk => (HT.out.inn xn k hk).2.2.lt)
        generalize g xn = ob at HLk HMo HOb
        clear HT2
        have e0 := HBx.out.cell 0
        simp only [List.getElem?_toArray, List.getElem?_cons_zero] at e0
        go_wp2_with first
          | ((with_reducible refine wpl_lookup rfl _ _ 45 false rfl (.map (some b)) (.string xn) (.map ob) rfl rfl HLk.out ?_))
          | ((with_reducible refine wpl_rangeO (ob := ob) (n := n) (f := T xn) rfl _ rfl rfl HMo.out ?_); intro w4 k0 hrg hN4; have HRg := Lib.hid hrg; have HN4 := Lib.hid (HN2.out.trans hN4 (fun _ _ x => x)); have HF4 := Lib.hid (HF2.out.chg hN4 id); have HTl4 := Lib.hid (HTl.out.chg hN4 (fun _ _ x => x)); have HBx4 := Lib.hid (HBx.out.chg hN4 id); clear hrg hN4)
        clear e0 HLk HMo
        have HRr := Lib.hid (show w.heap.size ≤ w2.heap.size from HN2.out.size)
        generalize w2.heap.size = r at HRg HRr ⊢
        clear HN2 HF2 HTl HBx
        go_frame
        go_loopw [6] (fun u6 wr2 => ∃ k, InSt w wr2 T (xn, xc) q' ob r n bd (nd) bx (f) k u6) (fun u6 wr2 => least (fun k => InSt w wr2 T (xn, xc) q' ob r n bd (nd) bx (f) k u6))
        case atStart => exact ⟨k0, _, [], HRg.out, by rw [List.map_nil, List.append_nil]; exact HTl4.out, by rw [List.length_nil, Nat.zero_add]; exact HRg.out.cnt_le, fun p hp => (by cases hp), fun s c hs => .inl (by show (T xn s).isSome = true; rw [show T xn s = some c from hs]; rfl), HF4.out, HBx4.out, Htb.out, HN4.out⟩
        case round =>
          clear HRg HTl4 HF4 HBx4 HN4 Htb
          have hst2 := least_spec hrel
          obtain ⟨k, hLk⟩ : ∃ k, least (fun k => InSt w wr T (xn, xc) q' ob r n bd (nd) bx (f) k u6) = k := ⟨_, rfl⟩
          rw [hLk] at hst2
          have HL2 := Lib.hid hLk
          clear hLk hrel
          obtain ⟨left, ps, hrg, hq2, hpl, hps, hall, hf2, hbx2, hne, hN5⟩ := hst2
          have HQ2 := Lib.hid hq2
          have HF5 := Lib.hid hf2
          have HBx5 := Lib.hid hbx2
          have HN5 := Lib.hid hN5
          have Hne := Lib.hid hne
          have Hps := Lib.hid hps
          have Hall := Lib.hid hall
          have hrb : ∀ k, ob = some k → k < r := fun k hk => by have := HOb.out k hk; have := HRr.out; omega
          have Hqr := Lib.hid (hrg.ne hq2)
          have Hbr := Lib.hid (hrg.ne_map hf2)
          have Hbq := Lib.hid (hf2.ne hq2)
          have Hrx := Lib.hid (show bx ≠ r from fun e => by
            subst e
            cases ob with
            | none =>
              have := hrg.1
              rw [show wr.heap[bx]? = _ from hbx2] at this
              cases this
            | some b =>
              obtain ⟨D, lf, ⟨es, clock, since, seen, c0, h1, h2, h3, h4, h5, _⟩, _⟩ := hrg
              rw [show wr.heap[bx]? = _ from hbx2] at h5
              cases h5)
          clear hq2 hf2 hbx2 hne hps hall
          rcases hrg.step 0 with ⟨hl0, hrun⟩ | ⟨s, c, w5, k5, hs, hls, hfs, hrun, hrg5, hlt5, hc5, hen⟩
          · -- nothing is left
            have HR := Lib.hid (show FarQ T V n a M (m - 1) (q' ++ ps.map (pushQ (xn, xc))) (f) false ∧ 0 < m from
              HFq.out.start Hm.out hl HMM.out Hps.out (fun s c h => by
                rcases Hall.out s c h with h1 | h1
                · rw [hl0 s (HOk.out.size _ _ _ h)] at h1; cases h1
                · exact h1) (by omega))
            have hm0 := HR.out.2
            have HFin := Lib.hid (show FarSt w wr T V n a bd M (m - 1) u6 (.bool false) from
              ⟨_, _, nd, false, rfl, HQ2.out, HF5.out, by omega, by omega, by have := HR.out.1.2.1; omega, HN5.out, HCo.out.next HOk.out Hm.out Hps.out (by omega) hmM, HFs.out, HR.out.1⟩)
            clear hrg
            go_wp2_with fail
            go_roundw
            case rel => exact ⟨m - 1, HFin.out⟩
            case measure => rw [HL.out]; exact Nat.lt_of_le_of_lt (least_le HFin.out) (by omega)
          · -- one comes
            have hN5' : Chg w w5 (fun _ => False) := HN5.out.trans hc5 (fun j hj e => by have := HRr.out; omega)
            have HNa := Lib.hid hN5'
            have HQa := Lib.hid (HQ2.out.chg hc5 (fun j hj e => Hqr.out.2 (by rw [hj, show j = r from e])))
            have HFa := Lib.hid (HF5.out.chg hc5 Hbr.out)
            have HBa := Lib.hid (HBx5.out.chg hc5 Hrx.out)
            have hco := HCo.out _ ((Hm.out (xn, xc)).2 (.inl rfl))
            have hlo := HOk.out.lo _ _ _ hfs
            have hhi := HOk.out.hi _ _ _ hfs
            have hql : (q' ++ ps.map (pushQ (xn, xc))).length ≤ M + n := by rw [List.length_append, List.length_map]; omega
            have hnM : n ≤ M := by rw [HMM.out, Nat.add_mul]; omega
            obtain ⟨v6, w6, hrun6, hq6, hc6, hv6⟩ := elReached.appQ HQa.out HNa.out.size (qC (s, xc + c)) rfl (q_one _) (by rw [List.length_map]; omega) (by rw [List.length_map]; unfold maxLen; omega) 60 w5.heap.size rfl
            have HR6 := Lib.hid hrun6
            have hne6 : ∀ j, u6.ownBlock = some j → j ≠ bx := Hne.out
            have HSt := Lib.hid (show InSt w w6 T (xn, xc) q' ob r n bd (nd) bx (f) k5 v6 from by
              refine ⟨_, ps ++ [(s, c)], hrg5.chg hc6 (fun b hb e => ?_) (fun e => ?_), ?_, by rw [List.length_append, List.length_singleton]; omega, fun p hp => ?_, fun t e ht => ?_, HFa.out.chg hc6 (fun e => HFa.out.ne HQa.out e), HBa.out.chg hc6 (fun e => hne6 _ e rfl), fun j hj e => ?_, HNa.out.trans hc6 (fun j hj e => by have := (HQa.out.lt j e).1; omega)⟩
              · exact (hrg5.ne HQa.out).1 b hb e
              · exact (hrg5.ne HQa.out).2 e
              · have he : q' ++ (ps ++ [(s, c)]).map (pushQ (xn, xc)) = (q' ++ ps.map (pushQ (xn, xc))) ++ [(s, xc + c)] := by rw [List.map_append, List.append_assoc]; rfl
                rw [he, List.map_append (l₁ := q' ++ ps.map (pushQ (xn, xc)))]
                exact hq6
              · rcases List.mem_append.1 hp with hp | hp
                · exact Hps.out p hp
                · rw [List.mem_singleton.1 hp]; exact hfs
              · by_cases hts : t = s
                · subst hts
                  rw [show T xn t = some e from ht] at hfs
                  cases hfs
                  exact .inr (List.mem_append_right _ (List.mem_singleton.2 rfl))
                · rcases Hall.out t e ht with h1 | h1
                  · exact .inl (by rw [h1, decide_eq_true hts]; rfl)
                  · exact .inr (List.mem_append_left _ h1)
              · rcases hv6 j hj with h1 | h1
                · exact hne6 j h1 e
                · have := HBa.out.lt; omega)
            have hk5 := hlt5
            clear hrun6 hq6 hc6 hv6 hN5' hrg hrg5 hc5 hls hql hne6
            have hsum : IntKind.i64.wrap (xc + c) = xc + c := by
              have h3 := hco.2.2
              have h4 := hco.2.1
              simp only at h3 h4
              rw [IntKind.wrap_i64]; omega
            have e1 := HBa.out.cell 1
            simp only [List.getElem?_toArray, List.getElem?_cons_zero, List.getElem?_cons_succ] at e1
            go_wp2_with ((with_reducible refine wpl_append rfl (.tmp 52) (.tmp 59) 60 60 rfl ?_ ?_ HR6.out ?_); exact rfl; exact rfl)
            go_roundw
            case rel => exact ⟨k5, HSt.out⟩
            case measure => rw [HL2.out]; exact Nat.lt_of_le_of_lt (least_le HSt.out) hk5
      | false =>
        have HLd := Lib.hid (HF2.out.look xn hxs)
        cases hfx : f xn with
        | some d =>
          rw [hfx] at HLd
          have HR := Lib.hid (HFq.out.old Hm.out hl hfx)
          have hm0 := HR.out.2
          have HFin := Lib.hid (show FarSt w w2 T V n a bd M (m - 1) vq (.bool false) from
            ⟨q', f, nd, false, rfl, HTl.out, HF2.out, by omega, by omega, by have := HR.out.1.2.1; omega, HN2.out, fun p hp => by
              have := (HCo.out.next (ps := []) HOk.out Hm.out (fun p hp => by cases hp) (show m - 1 < m by omega) hmM) p (by simpa using hp)
              exact this, HFs.out, HR.out.1⟩)
          have e0 := HBx.out.cell 0
          simp only [List.getElem?_toArray, List.getElem?_cons_zero] at e0
          clear hfx
          go_wp2_with ((with_reducible refine wpl_lookup rfl _ _ 53 true rfl (.map (some bd)) (.string xn) (.tuple #[.int .i64 ((some d).getD 0), .bool (some d).isSome]) rfl rfl HLd.out ?_))
          go_roundw
          case rel => exact ⟨m - 1, HFin.out⟩
          case measure => rw [HL.out]; exact Nat.lt_of_le_of_lt (least_le HFin.out) (by omega)
        | none =>
          rw [hfx] at HLd
          have HNo := Lib.hid hfx
          have hco0 := HCo.out _ ((Hm.out (xn, xc)).2 (.inl rfl))
          simp only at hco0
          obtain ⟨w3, hrun3, hf3, hc3⟩ := HF2.out.put (by unfold maxLen; omega) xn hxs xc (by omega) (by omega)
          have HR3 := Lib.hid hrun3
          have HF3 := Lib.hid hf3
          have HN3 := Lib.hid (HN2.out.put hc3 (Nat.le_of_eq Hbd.out))
          have HTl3 := Lib.hid (HTl.out.chg hc3 (fun j hj e => HF2.out.ne HTl.out (by rw [hj, show j = bd from e])))
          have hxd : bx ≠ bd := fun e => by
            subst e
            obtain ⟨D, ⟨es, cl, h1, _⟩, _⟩ := HF2.out
            rw [show w2.heap[bx]? = _ from HBx.out] at h1
            cases h1
          have HBx3 := Lib.hid (HBx.out.chg hc3 hxd)
          have HFs2 := Lib.hid (show ∀ s, maxLen < s.size → updF f xn xc s = none from fun s hs => by
            unfold updF
            rw [if_neg (fun e => by rw [e] at hs; omega)]
            exact HFs.out s hs)
          have e0 := HBx.out.cell 0
          have e1 := HBx.out.cell 1
          simp only [List.getElem?_toArray, List.getElem?_cons_zero, List.getElem?_cons_succ] at e0 e1
          clear hrun3 hf3 hc3 hfx hxd
          go_upto_region 13 with first
            | ((with_reducible refine wpl_lookup rfl _ _ 53 true rfl (.map (some bd)) (.string xn) (.tuple #[.int .i64 ((none : Option Int).getD 0), .bool (none : Option Int).isSome]) rfl rfl HLd.out ?_))
            | ((with_reducible refine wpl_mapup rfl _ _ _ 53 rfl (.map (some bd)) (.string xn) (.int .i64 xc) rfl rfl rfl HR3.out rfl ?_))
          clear e0 e1 HR3 HLd HF2 HN2 HTl HBx
          have HT2 := Lib.hid (HT.out.chg HN3.out (fun _ _ _ x => x))
          have HLk := Lib.hid (HT2.out.om.look xn hxs)
          have HMo := Lib.hid (show IMapO _ (g xn) n (T xn) by
            cases hgx : g xn with
            | none => exact HT2.out.non xn hgx
            | some k => exact (HT2.out.inn xn k hgx).2.2)
          have HOb := Lib.hid (show ∀ k, g xn = some k → k < w.heap.size from fun k hk => (HT.out.inn xn k hk).2.2.lt)
          generalize g xn = ob at HLk HMo HOb
          clear HT2
          have e0 := HBx3.out.cell 0
          simp only [List.getElem?_toArray, List.getElem?_cons_zero] at e0
          go_wp2_with first
            | ((with_reducible refine wpl_lookup rfl _ _ 45 false rfl (.map (some b)) (.string xn) (.map ob) rfl rfl HLk.out ?_))
            | ((with_reducible refine wpl_rangeO (ob := ob) (n := n) (f := T xn) rfl _ rfl rfl HMo.out ?_); intro w4 k0 hrg hN4; have HRg := Lib.hid hrg; have HN4 := Lib.hid (HN3.out.trans hN4 (fun _ _ x => x)); have HF4 := Lib.hid (HF3.out.chg hN4 id); have HTl4 := Lib.hid (HTl3.out.chg hN4 (fun _ _ x => x)); have HBx4 := Lib.hid (HBx3.out.chg hN4 id); clear hrg hN4)
          clear e0 HLk HMo
          have HRr := Lib.hid (show w.heap.size ≤ w3.heap.size from HN3.out.size)
          generalize w3.heap.size = r at HRg HRr ⊢
          clear HN3 HF3 HTl3 HBx3
          go_frame
          go_loopw [6] (fun u6 wr2 => ∃ k, InSt w wr2 T (xn, xc) q' ob r n bd (nd + 1) bx (updF f xn xc) k u6) (fun u6 wr2 => least (fun k => InSt w wr2 T (xn, xc) q' ob r n bd (nd + 1) bx (updF f xn xc) k u6))
          case atStart => exact ⟨k0, _, [], HRg.out, by rw [List.map_nil, List.append_nil]; exact HTl4.out, by rw [List.length_nil, Nat.zero_add]; exact HRg.out.cnt_le, fun p hp => (by cases hp), fun s c hs => .inl (by show (T xn s).isSome = true; rw [show T xn s = some c from hs]; rfl), HF4.out, HBx4.out, Htb.out, HN4.out⟩
          case round =>
            clear HRg HTl4 HF4 HBx4 HN4 Htb
            have hst2 := least_spec hrel
            obtain ⟨k, hLk⟩ : ∃ k, least (fun k => InSt w wr T (xn, xc) q' ob r n bd (nd + 1) bx (updF f xn xc) k u6) = k := ⟨_, rfl⟩
            rw [hLk] at hst2
            have HL2 := Lib.hid hLk
            clear hLk hrel
            obtain ⟨left, ps, hrg, hq2, hpl, hps, hall, hf2, hbx2, hne, hN5⟩ := hst2
            have HQ2 := Lib.hid hq2
            have HF5 := Lib.hid hf2
            have HBx5 := Lib.hid hbx2
            have HN5 := Lib.hid hN5
            have Hne := Lib.hid hne
            have Hps := Lib.hid hps
            have Hall := Lib.hid hall
            have hrb : ∀ k, ob = some k → k < r := fun k hk => by have := HOb.out k hk; have := HRr.out; omega
            have Hqr := Lib.hid (hrg.ne hq2)
            have Hbr := Lib.hid (hrg.ne_map hf2)
            have Hbq := Lib.hid (hf2.ne hq2)
            have Hrx := Lib.hid (show bx ≠ r from fun e => by
              subst e
              cases ob with
              | none =>
                have := hrg.1
                rw [show wr.heap[bx]? = _ from hbx2] at this
                cases this
              | some b =>
                obtain ⟨D, lf, ⟨es, clock, since, seen, c0, h1, h2, h3, h4, h5, _⟩, _⟩ := hrg
                rw [show wr.heap[bx]? = _ from hbx2] at h5
                cases h5)
            clear hq2 hf2 hbx2 hne hps hall
            rcases hrg.step 0 with ⟨hl0, hrun⟩ | ⟨s, c, w5, k5, hs, hls, hfs, hrun, hrg5, hlt5, hc5, hen⟩
            · -- nothing is left
              have HR := Lib.hid (show FarQ T V n a M (m - 1) (q' ++ ps.map (pushQ (xn, xc))) (updF f xn xc) false ∧ 0 < m from
                HFq.out.new HOk.out Hm.out Hmin.out hl HNo.out Hps.out (fun s c h => by
                  rcases Hall.out s c h with h1 | h1
                  · rw [hl0 s (HOk.out.size _ _ _ h)] at h1; cases h1
                  · exact h1) (by omega))
              have hm0 := HR.out.2
              have HFin := Lib.hid (show FarSt w wr T V n a bd M (m - 1) u6 (.bool false) from
                ⟨_, _, nd + 1, false, rfl, HQ2.out, HF5.out, by omega, by omega, by have := HR.out.1.2.1; omega, HN5.out, HCo.out.next HOk.out Hm.out Hps.out (by omega) hmM, HFs2.out, HR.out.1⟩)
              clear hrg
              go_wp2_with fail
              go_roundw
              case rel => exact ⟨m - 1, HFin.out⟩
              case measure => rw [HL.out]; exact Nat.lt_of_le_of_lt (least_le HFin.out) (by omega)
            · -- one comes
              have hN5' : Chg w w5 (fun _ => False) := HN5.out.trans hc5 (fun j hj e => by have := HRr.out; omega)
              have HNa := Lib.hid hN5'
              have HQa := Lib.hid (HQ2.out.chg hc5 (fun j hj e => Hqr.out.2 (by rw [hj, show j = r from e])))
              have HFa := Lib.hid (HF5.out.chg hc5 Hbr.out)
              have HBa := Lib.hid (HBx5.out.chg hc5 Hrx.out)
              have hco := HCo.out _ ((Hm.out (xn, xc)).2 (.inl rfl))
              have hlo := HOk.out.lo _ _ _ hfs
              have hhi := HOk.out.hi _ _ _ hfs
              have hql : (q' ++ ps.map (pushQ (xn, xc))).length ≤ M + n := by rw [List.length_append, List.length_map]; omega
              have hnM : n ≤ M := by rw [HMM.out, Nat.add_mul]; omega
              obtain ⟨v6, w6, hrun6, hq6, hc6, hv6⟩ := elReached.appQ HQa.out HNa.out.size (qC (s, xc + c)) rfl (q_one _) (by rw [List.length_map]; omega) (by rw [List.length_map]; unfold maxLen; omega) 60 w5.heap.size rfl
              have HR6 := Lib.hid hrun6
              have hne6 : ∀ j, u6.ownBlock = some j → j ≠ bx := Hne.out
              have HSt := Lib.hid (show InSt w w6 T (xn, xc) q' ob r n bd (nd + 1) bx (updF f xn xc) k5 v6 from by
                refine ⟨_, ps ++ [(s, c)], hrg5.chg hc6 (fun b hb e => ?_) (fun e => ?_), ?_, by rw [List.length_append, List.length_singleton]; omega, fun p hp => ?_, fun t e ht => ?_, HFa.out.chg hc6 (fun e => HFa.out.ne HQa.out e), HBa.out.chg hc6 (fun e => hne6 _ e rfl), fun j hj e => ?_, HNa.out.trans hc6 (fun j hj e => by have := (HQa.out.lt j e).1; omega)⟩
                · exact (hrg5.ne HQa.out).1 b hb e
                · exact (hrg5.ne HQa.out).2 e
                · have he : q' ++ (ps ++ [(s, c)]).map (pushQ (xn, xc)) = (q' ++ ps.map (pushQ (xn, xc))) ++ [(s, xc + c)] := by rw [List.map_append, List.append_assoc]; rfl
                  rw [he, List.map_append (l₁ := q' ++ ps.map (pushQ (xn, xc)))]
                  exact hq6
                · rcases List.mem_append.1 hp with hp | hp
                  · exact Hps.out p hp
                  · rw [List.mem_singleton.1 hp]; exact hfs
                · by_cases hts : t = s
                  · subst hts
                    rw [show T xn t = some e from ht] at hfs
                    cases hfs
                    exact .inr (List.mem_append_right _ (List.mem_singleton.2 rfl))
                  · rcases Hall.out t e ht with h1 | h1
                    · exact .inl (by rw [h1, decide_eq_true hts]; rfl)
                    · exact .inr (List.mem_append_left _ h1)
                · rcases hv6 j hj with h1 | h1
                  · exact hne6 j h1 e
                  · have := HBa.out.lt; omega)
              have hk5 := hlt5
              clear hrun6 hq6 hc6 hv6 hN5' hrg hrg5 hc5 hls hql hne6
              have hsum : IntKind.i64.wrap (xc + c) = xc + c := by
                have h3 := hco.2.2
                have h4 := hco.2.1
                simp only at h3 h4
                rw [IntKind.wrap_i64]; omega
              have e1 := HBa.out.cell 1
              simp only [List.getElem?_toArray, List.getElem?_cons_zero, List.getElem?_cons_succ] at e1
              go_wp2_with ((with_reducible refine wpl_append rfl (.tmp 52) (.tmp 59) 60 60 rfl ?_ ?_ HR6.out ?_); exact rfl; exact rfl)
              go_roundw
              case rel => exact ⟨k5, HSt.out⟩
              case measure => rw [HL2.out]; exact Nat.lt_of_le_of_lt (least_le HSt.out) hk5
end Go.Proofs.Ytffmalagochakaa
