/- graph: the closure of Ways. -/
import Derived.Test.YtffmalagochakaaWayP
import Derived.Deep.CutRange
set_option linter.unusedVariables false
set_option linter.unusedSimpArgs false
namespace Go.Proofs.Ytffmalagochakaa
open Go.RowKit Go.Shelf

def OnPost (w : World) (B po : Nat) (v : Value) (L : List (List ByteArray)) (e : Ending) (w' : World) : Prop := ∃ v' xs', e = .returned (.tuple #[]) ∧ OutAt w' B po v' xs' L ∧ Chg w w' (TW po v) ∧ ∀ k, v'.ownBlock = some k → v.ownBlock = some k ∨ w.heap.size ≤ k
theorem last_get {so : List ByteArray} {j : Nat} (h : so.length = j + 1) : so[j]? = some (lastN so) := by
  unfold lastN
  rw [List.getLast?_eq_getElem?, h, Nat.add_sub_cancel, List.getElem?_eq_getElem (by omega)]
  rfl
theorem OutAt.put {w w' w'' : World} {B po : Nat} {v v' x : Value} {xs : List Value} {L : List (List ByteArray)} {so : List ByteArray} (h : OutAt w B po v xs L) (hx : Own w 0 9 1 x (so.map nmC)) (hc : Chg w w' (fun k => v.ownBlock = some k)) (ho : Own w' B 26 1 v' ((xs.map fun x => [x]) ++ [[x]]))
    (hc2 : Chg w' w'' (fun k => k = po)) (hb : Blk w'' po 29 #[v']) : OutAt w'' B po v' (xs ++ [x]) (L ++ [so]) := by
  have hs1 : ∀ k cur, Blk w k 9 cur → ¬ v.ownBlock = some k := fun k cur hk e => own_ne_blk h.own hk (by decide) e
  have hbp : Blk w' po 29 #[v] := h.box.chg hc (fun e => own_ne_blk h.own h.box (by decide) e)
  have hs2 : ∀ k cur, Blk w' k 9 cur → ¬ k = po := fun k cur hk e => by
    subst e
    exact Blk.ne hk hbp (by decide) rfl
  refine ⟨hb, ?_, by rw [List.length_append, List.length_append, h.len]; rfl, fun i y l hy hl => ?_⟩
  · have := ho.chg hc2 (fun g hg e => own_ne_blk ho hbp (by decide) (by rw [hg, show g = po from e]))
    rw [List.map_append]
    exact this
  · by_cases hi : i < xs.length
    · rw [List.getElem?_append_left hi] at hy
      rw [List.getElem?_append_left (by rw [← h.len]; exact hi)] at hl
      exact own_chg_str (own_chg_str (h.way i y l hy hl) hc hs1) hc2 hs2
    · rw [List.getElem?_append_right (by omega)] at hy
      have hz : i - xs.length = 0 := by
        have := (List.getElem?_eq_some_iff.1 hy).1
        simp at this
        omega
      rw [hz] at hy
      rw [List.getElem?_append_right (by rw [← h.len]; omega), ← h.len, hz] at hl
      obtain rfl : x = y := by simpa using hy
      obtain rfl : so = l := by simpa using hl
      exact own_chg_str (own_chg_str hx hc hs1) hc2 hs2

set_option maxHeartbeats 8000000 in
set_option maxRecDepth 100000 in
theorem on19 (B po pb pt pf Bt bt nt : Nat) (T : Tb) (g : ByteArray → Option Nat) (b : ByteArray) (V : List ByteArray) (hV : TOk T V) (hnt : nt ≤ 1000000) : ∀ (r : Nat) (so : List ByteArray) (w : World) (a : Addr) (n c : Nat) (v : Value) (xs : List Value) (L : List (List ByteArray)),
    rem V so < r → n = so.length → 0 < n → n + rem V so ≤ 100000 → (∀ s ∈ so, s.size ≤ maxLen) → Own w 0 9 1 (.slice (some a) n c) (so.map nmC) → WEnv w po pb pt pf Bt bt nt T g b → OutAt w B po v xs L → L.length < 1000 → B ≤ w.heap.size →
    Calls Try.prog 19 #[.slice (some a) n c, .pointer (some ⟨pb, 0, none⟩), .pointer (some ⟨po, 0, none⟩), .pointer (some ⟨pt, 0, none⟩), .pointer (some ⟨pf, 0, none⟩)] w (OnPost w B po v (waysR T b r so L)) := by
  intro r
  induction r with
  | zero => intro so w a n c v xs L h; exact absurd h (Nat.not_lt_zero _)
  | succ r ih =>
    intro so w a n c v xs L hrem hn hn0 hnb hso hown henv hout hL hB
    have HIh := Lib.hid ih
    clear ih
    obtain ⟨j, rfl⟩ : ∃ j, n = j + 1 := ⟨n - 1, by omega⟩
    obtain ⟨hn', hsrc⟩ := hown.srcG
    have hlast := last_get hn.symm
    obtain ⟨la, hla⟩ : ∃ la, lastN so = la := ⟨_, rfl⟩
    rw [hla] at hlast
    have hls := hso _ (List.mem_of_getElem? hlast)
    obtain ⟨a', e, hcl⟩ := hsrc.nm hlast
    cases e
    have hcb := henv.cb.cell 0
    simp only [List.getElem?_toArray, List.getElem?_cons_zero] at hcb
    have HOwn := Lib.hid hown
    have HSrc := Lib.hid hsrc
    have HEnv := Lib.hid henv
    have HOut := Lib.hid hout
    have HSo := Lib.hid hso
    have HLa := Lib.hid hla
    have HNn := Lib.hid hn
    have l1 : (0 : Int) ≤ (j : Int) := by omega
    have l2 : (j : Int) < (j : Int) + 1 := by omega
    have kw : IntKind.i64.wrap (j : Int) = j := by rw [IntKind.wrap_i64]; omega
    have hjc : j + 1 ≤ c := by
      obtain ⟨A', c', e, h1, _⟩ := hown.formG
      simp only [Value.slice.injEq] at e
      obtain ⟨-, e1, e2⟩ := e
      omega
    have eg20 : ∀ (args : Array Value) (w : World), (callFunc 20 args).run Try.prog w = .ok (.enter 20 args) w := enters_of Try.func20 (by kernel_rfl) rfl
    have eg24 : ∀ (args : Array Value) (w : World), (callFunc 24 args).run Try.prog w = .ok (.enter 24 args) w := enters_of Try.func24 (by kernel_rfl) rfl
    clear hown hsrc henv hout hso hla hlast hn hn'
    go_enter Try.func19, Try.ntmps19
    go_upto_region 1 with fail
    clear l1 l2 kw hcl
    by_cases hb : la = b
    · subst hb
      have HE := Lib.hid (waysR_end (T := T) (b := la) (r := r) (L := L) HLa.out)
      go_upto_region 2 with fail
      refine wp_region_at (by kernel_rfl) ?_
      have hnd : New w w.drew := (Chg.refl _ _).drew
      have DOwn := Lib.hid (HOwn.out.chg hnd (fun _ _ x => x))
      have DOut := Lib.hid (HOut.out.new hnd)
      have hdB : B ≤ w.drew.heap.size := hB
      clear hcb
      generalize hwd : w.drew = wd at hnd DOwn DOut hdB ⊢
      have DN := Lib.hid hnd
      have HWs := Lib.hid (show wd.heap.size = w.heap.size by rw [← hwd]; rfl)
      clear hnd hwd
      refine AtN.segN2 0 4 [18, 19, 20, 21] (fun
        | 0 => fun vv _ => vv = v
        | 1 => fun vv _ => vv = .slice (some a) (j + 1) c
        | 2 => fun x W => Own W 0 9 1 x (so.map nmC)
        | 3 => fun u W => ∃ h x, u = .slice (some ⟨h, 0, none⟩) 1 1 ∧ Blk W h 26 #[x] ∧ Own W 0 9 1 x (so.map nmC)
        | _ => fun _ _ => True) (by kernel_rfl) (by kernel_rfl) (by kernel_rfl) (by kernel_rfl) (fun j v w1 w2 hc h => ?_) (fun i hn hi o ho A0 W hN hin hk => ?_) (fun l W3 hN hl hΦ => ?_)
      · match j with
        | 2 => exact h.chg hc (fun _ _ x => x)
        | 3 => exact h.imp fun h1 h => h.imp fun x h => ⟨h.1, h.2.1.chg hc id, h.2.2.chg hc (fun _ _ x => x)⟩
        | 0 | 1 => exact h
        | _ + 4 => trivial
      · rcases (show i = 0 ∨ i = 1 ∨ i = 2 ∨ i = 3 by omega) with rfl | rfl | rfl | rfl
        · cases ho
          have h2 : A0.tmps[2]?.getD undef = .pointer (some ⟨po, 0, none⟩) := hk 2 (by kernel_rfl)
          have hc := (DOut.out.box.chg hN id).cell 0
          simp only [List.getElem?_toArray, List.getElem?_cons_zero] at hc
          exact .same (v := v) (by simp [go_sem, h2, hc]) rfl
        · cases ho
          exact .same (exec_move 0 _ rfl (hk 0 (by kernel_rfl))) rfl
        · cases ho
          have h19 : A0.tmps[19]?.getD undef = .slice (some a) (j + 1) c := hin 1 19 (by kernel_rfl)
          refine .call (f := 20) (args := #[.slice (some a) (j + 1) c]) (W' := W) ?_ ((clone20 W a (j + 1) c so HNn.out (DOwn.out.chg hN (fun _ _ x => x)).srcG.2 (by omega)).mono ?_)
          · simp [go_sem, h19, eg20]
          · rintro e w' ⟨x, rfl, ho, hc⟩
            exact ⟨_, rfl, hc, Own.baseG ho (Nat.zero_le _)⟩
        · cases ho
          have h20 := hin 2 20 (by kernel_rfl)
          obtain ⟨x, hx⟩ : ∃ x, A0.tmps[20]?.getD undef = x := ⟨_, rfl⟩
          rw [hx] at h20
          exact .value (W' := W.alloc (.cells #[x] 26)) (v := .slice (some ⟨W.heap.size, 0, none⟩) 1 1) (by
            obtain ⟨A, c', e, _⟩ := Own.formG h20
            subst e
            simp [go_sem, hx]) ⟨(Chg.refl _ _).alloc _, _, _, rfl, Blk.new _ _ _, h20.chg ((Chg.refl _ _).alloc _) (fun _ _ x => x)⟩
      obtain ⟨x18, x19, x20, x21, rfl⟩ : ∃ x18 x19 x20 x21, l = [x18, x19, x20, x21] := by
        match l, hl with
        | [x18, x19, x20, x21], _ => exact ⟨_, _, _, _, rfl⟩
      obtain rfl : v = x18 := (hΦ 0 (by decide)).symm
      obtain rfl : x19 = .slice (some a) (j + 1) c := hΦ 1 (by decide)
      have hx20 := hΦ 2 (by decide)
      have hx21 := hΦ 3 (by decide)
      simp only [putsL, List.zip_cons_cons, List.zip_nil_left, List.zip_nil_right, List.zip, List.zipWith, Act.put, List.setIfInBounds_toArray, List.set_cons_succ, List.set_cons_zero]
      clear hΦ hl
      obtain ⟨hb, x, rfl, hbl, hxo⟩ := hx21
      have hx1 : x.oneCell' = true := by
        obtain ⟨A, c', e, _⟩ := hxo.formG
        rw [e]; rfl
      obtain ⟨v', W4, hrun, hown4, hchg4, hv4⟩ := elStrs.appendS (DOut.out.own.chg hN (fun _ _ x => x)) (Nat.le_trans hdB hN.size) (some ⟨hb, 0, none⟩) 1 1 [[x]] rfl (fun cs h => by rw [List.mem_singleton.1 h]; rfl) (fun cs h u hu => by rw [List.mem_singleton.1 h] at hu; rw [List.mem_singleton.1 hu]; exact hx1) (src_one (show At W3 ⟨hb, 0, none⟩ [x] from hbl.at_)) (by rw [List.length_map, DOut.out.len]; omega) (by rw [List.length_map, DOut.out.len]; unfold maxLen; omega) 29
      have HR := Lib.hid hrun
      have H4 := Lib.hid hown4
      have HC4 := Lib.hid hchg4
      have HV4 := Lib.hid hv4
      have HX := Lib.hid hxo
      have EOut := Lib.hid (DOut.out.new hN)
      have EN := Lib.hid (DN.out.trans hN (fun _ _ x => x))
      have HB4 := Lib.hid (EOut.out.box.chg hchg4 (fun e => own_ne_blk EOut.out.own EOut.out.box (by decide) e))
      have hv1 : v'.oneCell' = true := by
        obtain ⟨A, c', e, _⟩ := hown4.formG
        rw [e]; rfl
      clear hrun hown4 hchg4 hv4 hxo hbl hx20 hN
      refine AtN.list 4 6 (by kernel_rfl) ?_
      change wpList _ _ _ [_, _] _ _
      refine wpl_append rfl (.tmp 18) (.tmp 21) 29 29 rfl rfl rfl HR.out ?_
      refine wpl_put rfl (.tmp 2) (.tmp 22) 29 rfl rfl (by kernel_rfl) po 0 29 #[v] v' #[v'] rfl rfl HB4.out (Nat.zero_lt_succ 0) hv1 rfl ?_
      intro w5 hc5 hb5 hs5
      have HC5 := Lib.hid hc5
      have HB5 := Lib.hid hb5
      clear hc5 hb5 hs5
      change AtN _ _ _ 6 _ _
      refine AtN.done rfl ?_
      go_wp2_with fail
      go_end0
      refine ⟨v', xs ++ [x], rfl, ?_, ?_, fun k hk => ?_⟩
      · rw [HE.out]
        exact OutAt.put EOut.out HX.out HC4.out H4.out HC5.out HB5.out
      · exact (EN.out.mono (T' := TW po v) (fun _ _ x => x.elim)).trans ((HC4.out.mono (T' := TW po v) (fun k _ e => .inr e)).trans HC5.out (fun k _ e => .inl e)) (fun k _ e => e)
      · rcases HV4.out k hk with h1 | h1
        · exact .inl h1
        · exact .inr (Nat.le_trans EN.out.size h1)
    · have hbl : ¬ la.toList = b.toList := fun e => hb (tl_eqG e)
      have hq : (la.toList == b.toList) = false := by simpa using hbl
      have HE := Lib.hid (waysR_on (T := T) (b := b) (r := r) (L := L) (show lastN so ≠ b by rw [HLa.out]; exact hb))
      rw [HLa.out] at HE
      go_upto_region 3 with fail
      have hct := HEnv.out.ct.cell 0
      simp only [List.getElem?_toArray, List.getElem?_cons_zero] at hct
      have HLk := Lib.hid (HEnv.out.tab.om.look la hls)
      have HMo := Lib.hid (show IMapO w (g la) nt (T la) by
        cases hgx : g la with
        | none => exact HEnv.out.tab.non la hgx
        | some k => exact (HEnv.out.tab.inn la k hgx).2.2)
      generalize g la = ob at HLk HMo
      have HSd := Lib.hid (sorted21 w ob nt (T la) HMo.out (by omega))
      go_wp2_with first
        | ((with_reducible refine wpl_lookup rfl _ _ 45 false rfl (.map (some bt)) (.string la) (.map ob) rfl rfl HLk.out ?_))
        | (go_at_call 22; refine (keys22 _ _).mono ?_; rintro e w1 ⟨rfl, rfl⟩)
        | (go_at_call 21; refine HSd.out.mono ?_; rintro e w2 ⟨vk, ks, rfl, hk, ho, hn2⟩; obtain ⟨Ak, ck, hvk, hkc, hkm⟩ := ho.formG; rw [List.length_map] at hvk hkc; subst hvk; unfold maxLen at hkm; have HK := Lib.hid hk; have HOk := Lib.hid (Own.baseG ho (Nat.zero_le _)); have HN2 := Lib.hid ((show New w (w.alloc (.cells #[.map ob] 53)) from (Chg.refl _ _).alloc _).trans hn2 (fun _ _ x => x)); clear ho hn2 hk)
      rw [HK.out.eq] at HE
      clear hct HLk HMo HSd hcb
      go_loopw [29] (fun u wr => ∃ (i : Nat) (v1 : Value) (xs1 : List Value) (L1 : List (List ByteArray)), i ≤ ks.length ∧ u = .int .i64 i ∧ OutAt wr B po v1 xs1 L1 ∧ L1 = (ks.take i).foldl (wStep T b r so) L ∧ L1.length ≤ 1000 ∧ Chg w wr (TW po v) ∧ (∀ k, v1.ownBlock = some k → v.ownBlock = some k ∨ w.heap.size ≤ k) ∧ Own wr 0 9 1 (.slice Ak ks.length ck) (ks.map nmC)) (fun u _ => ks.length - (intOf u).toNat)
      case atStart => exact ⟨0, v, xs, L, Nat.zero_le _, rfl, HOut.out.new HN2.out, rfl, Nat.le_of_lt hL, HN2.out.mono (fun _ _ x => x.elim), fun k hk => .inl hk, HOk.out⟩
      case round =>
        obtain ⟨i, v1, xs1, L1, hik, rfl, hout1, hL1e, hL1, hcw, hvw, hok⟩ := hrel
        have HO1 := Lib.hid hout1
        have HLe := Lib.hid hL1e
        have HCw := Lib.hid hcw
        have HVw := Lib.hid hvw
        have HK1 := Lib.hid hok
        clear hout1 hL1e hcw hvw hok
        by_cases hlt : i < ks.length
        · obtain ⟨nx, hnx⟩ : ∃ nx, ks[i]? = some nx := ⟨_, List.getElem?_eq_getElem hlt⟩
          obtain ⟨ak, hak, hcx⟩ := HK1.out.srcG.2.nm hnx
          subst hak
          have hmem := (HK.out.mem nx).1 (List.mem_of_getElem? hnx)
          have HOwn1 := Lib.hid (own_tw HOwn.out HOut.out HCw.out)
          have HEnv1 := Lib.hid (HEnv.out.chg HOut.out HCw.out)
          obtain ⟨A1, c1, hv1, -⟩ := HO1.out.own.formG
          rw [List.length_map, HO1.out.len] at hv1
          subst hv1
          have hcp := HO1.out.box.cell 0
          simp only [List.getElem?_toArray, List.getElem?_cons_zero] at hcp
          have HCt := Lib.hid (contains23 wr a (j + 1) c so HNn.out HOwn1.out.srcG.2 nx (by omega))
          have HTk := Lib.hid (show (ks.take (i + 1)).foldl (wStep T b r so) L = wStep T b r so L1 nx by
            rw [take_succ_get hnx, List.foldl_append, ← HLe.out]; rfl)
          have k0 : (0 : Int) ≤ (i : Int) := by omega
          have k1 : (i : Int) < (ks.length : Int) := by omega
          by_cases hc1 : L1.length < 1000 ∧ inN so nx = false
          · obtain ⟨hc1, hc2⟩ := hc1
            have d1 : (L1.length : Int) < 1000 := by omega
            rw [hc2] at HCt
            have HSt := Lib.hid (show wStep T b r so L1 nx = waysR T b r (so ++ [nx]) L1 by unfold wStep; rw [if_pos ⟨hc1, hc2⟩])
            have HIn := Lib.hid hc2
            clear hc2 hnx
            go_upto_region 7 with (go_at_call 23; refine HCt.out.mono ?_; rintro e w5 ⟨rfl, rfl⟩)
            refine wp_region_at (by kernel_rfl) ?_
            have hnd : New wr wr.drew := (Chg.refl _ _).drew
            have DOwn := Lib.hid (HOwn1.out.chg hnd (fun _ _ x => x))
            have DOut := Lib.hid (HO1.out.new hnd)
            have DEnv := Lib.hid (HEnv1.out.new hnd)
            have DK := Lib.hid (HK1.out.chg hnd (fun _ _ x => x))
            have DC := Lib.hid (HCw.out.trans hnd (fun _ _ x => x.elim))
            clear hcp hcx HCt hnd
            generalize wr.drew = wd at DOwn DOut DEnv DK DC ⊢
            refine AtN.segN2 0 6 [42, 43, 44, 45, 46, 47] (fun
              | 0 => fun vv _ => vv = .func (.func 19) #[] #[.pointer (some ⟨pb, 0, none⟩), .pointer (some ⟨po, 0, none⟩), .pointer (some ⟨pt, 0, none⟩), .pointer (some ⟨pf, 0, none⟩)]
              | 1 => fun vv _ => vv = .slice (some a) (j + 1) c
              | 2 => fun vv _ => vv = .slice (some a) (j + 1) (j + 1)
              | 3 => fun vv _ => vv = .string nx
              | 4 => fun u W => ∃ h, u = .slice (some ⟨h, 0, none⟩) 1 1 ∧ Blk W h 9 #[.string nx]
              | 5 => fun u W => ∃ a2 c2, u = .slice (some a2) (j + 1 + 1) c2 ∧ Own W 0 9 1 u ((so ++ [nx]).map nmC)
              | _ => fun _ _ => True) (by kernel_rfl) (by kernel_rfl) (by kernel_rfl) (by kernel_rfl) (fun j v w1 w2 hc h => ?_) (fun i hn hi o ho A0 W hN hin hk => ?_) (fun l W3 hN hl hΦ => ?_)
            · match j with
              | 4 => exact h.imp fun h1 h => ⟨h.1, h.2.chg hc id⟩
              | 5 => exact h.imp fun a2 h => h.imp fun c2 h => ⟨h.1, h.2.chg hc (fun _ _ x => x)⟩
              | 0 | 1 | 2 | 3 => exact h
              | _ + 6 => trivial
            · rcases (show i = 0 ∨ i = 1 ∨ i = 2 ∨ i = 3 ∨ i = 4 ∨ i = 5 by omega) with rfl | rfl | rfl | rfl | rfl | rfl
              · cases ho
                have h4 : A0.tmps[4]?.getD undef = .pointer (some ⟨pf, 0, none⟩) := hk 4 (by kernel_rfl)
                have hc := (DEnv.out.cf.chg hN id).cell 0
                simp only [List.getElem?_toArray, List.getElem?_cons_zero] at hc
                exact .same (v := .func (.func 19) #[] #[.pointer (some ⟨pb, 0, none⟩), .pointer (some ⟨po, 0, none⟩), .pointer (some ⟨pt, 0, none⟩), .pointer (some ⟨pf, 0, none⟩)]) (by simp [go_sem, h4, hc]) rfl
              · cases ho
                exact .same (exec_move 0 _ rfl (hk 0 (by kernel_rfl))) rfl
              · cases ho
                have h43 : A0.tmps[43]?.getD undef = .slice (some a) (j + 1) c := hin 1 43 (by kernel_rfl)
                refine .enter (f := 24) (args := #[.slice (some a) (j + 1) c]) (v := .slice (some a) (j + 1) (j + 1)) ?_ ((clip24 W a (j + 1) c hjc).mono ?_)
                · simp [go_sem, h43, eg24]
                · rintro e w' ⟨rfl, rfl⟩
                  exact ⟨rfl, Chg.refl _ _, rfl⟩
              · cases ho
                exact .same (exec_move 8 _ rfl (hk 8 (by kernel_rfl))) rfl
              · cases ho
                have h45 : A0.tmps[45]?.getD undef = .string nx := hin 3 45 (by kernel_rfl)
                exact .value (W' := W.alloc (.cells #[.string nx] 9)) (v := .slice (some ⟨W.heap.size, 0, none⟩) 1 1) (by simp [go_sem, h45]) ⟨(Chg.refl _ _).alloc _, _, rfl, Blk.new _ _ _⟩
              · cases ho
                have h44 : A0.tmps[44]?.getD undef = .slice (some a) (j + 1) (j + 1) := hin 2 44 (by kernel_rfl)
                have h46 := hin 4 46 (by kernel_rfl)
                obtain ⟨hb, e46, hbl⟩ := h46
                obtain ⟨v', W', hrun, ho, hn⟩ := app_clip (W := W) (a := a) (ns := so) (n := j + 1) HNn.out (DOwn.out.chg hN (fun _ _ x => x)).srcG.2 (by omega) nx hb hbl 26
                refine .value (W' := W') (v := v') (exec_append _ _ _ _ rfl (by simpa [Act.eval] using h44) (by simpa [Act.eval] using e46) hrun) ⟨hn, ?_⟩
                obtain ⟨A2, c2, hv2, -⟩ := ho.formG
                rw [List.length_map, List.length_append, List.length_singleton, ← HNn.out] at hv2
                subst hv2
                obtain ⟨a2, ha2, _⟩ := ho.srcG.2 (by rw [List.length_map, List.length_append, List.length_singleton]; omega)
                subst ha2
                exact ⟨a2, c2, rfl, Own.baseG ho (Nat.zero_le _)⟩
            obtain ⟨x42, x43, x44, x45, x46, x47, rfl⟩ : ∃ x42 x43 x44 x45 x46 x47, l = [x42, x43, x44, x45, x46, x47] := by
              match l, hl with
              | [x42, x43, x44, x45, x46, x47], _ => exact ⟨_, _, _, _, _, _, rfl⟩
            obtain rfl : x42 = .func (.func 19) #[] #[.pointer (some ⟨pb, 0, none⟩), .pointer (some ⟨po, 0, none⟩), .pointer (some ⟨pt, 0, none⟩), .pointer (some ⟨pf, 0, none⟩)] := hΦ 0 (by decide)
            obtain rfl : x43 = .slice (some a) (j + 1) c := hΦ 1 (by decide)
            obtain rfl : x44 = .slice (some a) (j + 1) (j + 1) := hΦ 2 (by decide)
            obtain rfl : x45 = .string nx := hΦ 3 (by decide)
            have hx46 := hΦ 4 (by decide)
            have hx47 := hΦ 5 (by decide)
            simp only [putsL, List.zip_cons_cons, List.zip_nil_left, List.zip_nil_right, List.zip, List.zipWith, Act.put, List.setIfInBounds_toArray, List.set_cons_succ, List.set_cons_zero]
            clear hΦ hl
            obtain ⟨a2, c2, rfl, hown2⟩ := hx47
            have hvV : nx ∈ V := by
              obtain ⟨cc, hcc⟩ := Option.isSome_iff_exists.1 hmem.2
              exact hV.tgt la nx cc hcc
            have hrs := rem_snoc hvV HIn.out
            have EOut := Lib.hid (DOut.out.new hN)
            have EEnv := Lib.hid (DEnv.out.new hN)
            have EK := Lib.hid (DK.out.chg hN (fun _ _ x => x))
            have EC := Lib.hid (DC.out.trans hN (fun _ _ x => x.elim))
            have HCall := Lib.hid (HIh.out (so ++ [nx]) W3 a2 (j + 1 + 1) c2 _ xs1 L1 (by omega) (by rw [List.length_append, List.length_singleton, ← HNn.out]) (by omega) (by omega) (fun s hs => by
              rcases List.mem_append.1 hs with hs | hs
              · exact HSo.out s hs
              · rw [List.mem_singleton.1 hs]; exact hmem.1) hown2 EEnv.out EOut.out hc1 (Nat.le_trans hB EC.out.size))
            clear hown2 hN hx46 DOwn DOut DEnv DK DC
            refine AtN.list 6 7 (by kernel_rfl) ?_
            change wpList _ _ _ [_] _ _
            go_wp2_with (go_at_call 19; refine HCall.out.mono ?_; rintro e w6 ⟨v2, xs2, rfl, ho2, hc2, hv2⟩)
            change AtN _ _ _ 7 _ _
            refine AtN.done rfl ?_
            have HF := Lib.hid (show ∃ v2 xs2 L2, OutAt w6 B po v2 xs2 L2 ∧ L2 = (ks.take (i + 1)).foldl (wStep T b r so) L ∧ L2.length ≤ 1000 ∧ Chg w w6 (TW po v) ∧ (∀ k, v2.ownBlock = some k → v.ownBlock = some k ∨ w.heap.size ≤ k) ∧ Own w6 0 9 1 (.slice (some ak) ks.length ck) (ks.map nmC) from
              ⟨v2, xs2, _, ho2, by rw [HTk.out, HSt.out], waysR_len T b r (so ++ [nx]) L1 hc1, TW.trans EC.out HVw.out hc2, fun k hk => by
                rcases hv2 k hk with h1 | h1
                · exact HVw.out k h1
                · exact .inr (Nat.le_trans EC.out.size h1), own_tw EK.out EOut.out hc2⟩)
            clear ho2 hc2 hv2 HCall
            go_wp2_with fail
            obtain ⟨v2, xs2, L2, g1, g2, g3, g4, g5, g6⟩ := HF.out
            go_roundw
            case rel => exact ⟨i + 1, v2, xs2, L2, by omega, by go_num, g1, g2, g3, g4, g5, g6⟩
            case measure => simp only [intOf]; omega
          · have HSt := Lib.hid (show wStep T b r so L1 nx = L1 by unfold wStep; rw [if_neg hc1])
            have HR := Lib.hid (show L1 = (ks.take (i + 1)).foldl (wStep T b r so) L by rw [HTk.out, HSt.out])
            by_cases hc2 : L1.length < 1000
            · have d1 : (L1.length : Int) < 1000 := by omega
              have hc3 : inN so nx = true := by
                cases hi : inN so nx with
                | true => rfl
                | false => exact absurd ⟨hc2, hi⟩ hc1
              rw [hc3] at HCt
              clear hc3 hc1 hnx
              go_wp2_with (go_at_call 23; refine HCt.out.mono ?_; rintro e w5 ⟨rfl, rfl⟩)
              go_roundw
              case rel => exact ⟨i + 1, _, xs1, L1, by omega, by go_num, HO1.out, HR.out, hL1, HCw.out, HVw.out, HK1.out⟩
              case measure => simp only [intOf]; omega
            · have d1 : decide ((L1.length : Int) < 1000) = false := by simp; omega
              clear hc1 hnx
              go_wp2_with fail
              go_roundw
              case rel => exact ⟨i + 1, _, xs1, L1, by omega, by go_num, HO1.out, HR.out, hL1, HCw.out, HVw.out, HK1.out⟩
              case measure => simp only [intOf]; omega
        · have HF := Lib.hid (show L1 = waysR T b (r + 1) so L by rw [HE.out, HLe.out, List.take_of_length_le (by omega)])
          go_wp2_with fail
          go_end0
          exact ⟨v1, xs1, rfl, by rw [← HF.out]; exact HO1.out, HCw.out, HVw.out⟩
end Go.Proofs.Ytffmalagochakaa
