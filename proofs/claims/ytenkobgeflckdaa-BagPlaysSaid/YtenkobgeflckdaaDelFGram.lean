/- slices.DeleteFunc over Gram, on a row that the caller owns. -/
import Derived.Test.YtenkobgeflckdaaIdxGram
set_option linter.unusedVariables false
namespace Go.Proofs.Ytenkobgeflckdaa
open Go.RowKit Go.Shelf

def DelFPostGram (w : World) (base : Nat) (bk : Option Nat) (css : List (List Value)) (e : Ending) (w' : World) : Prop :=
  ∃ v', e = .returned v' ∧ Own w' base 33 3 v' css ∧ w.grownBy w' bk ∧ v'.ownBlock = bk

set_option maxHeartbeats 2000000 in
set_option maxRecDepth 100000 in
/-- slices.DeleteFunc(s, p): those at which p says no. -/
theorem delFGram (w : World) (base : Nat) (v : Value) (css : List (List Value)) (hown : Own w base 33 3 v css) (h1 : ∀ cs ∈ css, ∀ u ∈ cs, u.oneCell' = true) (g : Nat) (lb : Array Value) (eg : Enters Try.prog g) (p : List Value → Bool)
    (hp : ∀ cs ∈ css, Says Try.prog w (fun k => v.ownBlock = some k) g lb #[.agg cs.toArray] (.bool (p cs))) :
    Calls Try.prog 49 #[v, .func (.func g) #[] lb] w (DelFPostGram w base v.ownBlock (css.filter fun c => !p c)) := by
  obtain ⟨A, cap, hv, hnc, hcm⟩ := hown.form
  have hix := idxGram w A css.length cap css rfl (by omega) (fun h => (hown.rows hv).2 h) g lb eg p (fun k => v.ownBlock = some k) hp
  rw [← hv] at hix
  have hcm' := hcm
  unfold maxLen at hcm'
  unfold Enters at eg
  cases hf : css.findIdx? p with
  | none =>
    have Hix := Lib.hid hix
    have hfin : DelFPostGram w base v.ownBlock (css.filter fun c => !p c) (.returned v) w := by
      refine ⟨v, rfl, ?_, World.grownBy.refl w _, rfl⟩
      rw [List.filter_eq_self.2 (by rw [List.findIdx?_eq_none_iff] at hf; intro c hc; simp [hf c hc])]
      exact hown
    have hfin2 : ∀ w', New w w' → DelFPostGram w base v.ownBlock (css.filter fun c => !p c) (.returned v) w' := by
      intro w' hc
      obtain ⟨v', he, ho, hg, hb⟩ := hfin
      injection he with he
      subst he
      exact ⟨_, rfl, ho.chg hc (fun _ _ x => x), (hc.mono fun k _ x => x.elim).to_grown, rfl⟩
    have Hfin := Lib.hid hfin2
    have Hf := Lib.hid hf
    clear hfin hfin2 hix hf hp h1 hown hv
    go_enter Try.func49, Try.ntmps49
    go_wp2_with fail
    refine Hix.out.mono ?_
    rintro e w1 (⟨i, h, _⟩ | ⟨_, rfl, hc⟩)
    · rw [Hf.out] at h
      cases h
    have Hc := Lib.hid hc
    clear hc
    go_wp2_with fail
    go_ret
    exact Hfin.out _ Hc.out
  | some k0 =>
    obtain ⟨hk0, hpk0, hbefore⟩ := List.findIdx?_eq_some_iff_getElem.1 hf
    obtain ⟨g0, rfl, cur, hbg, hg, hcs, htake⟩ : ∃ g0, v = .slice (some ⟨g0, 0, none⟩) css.length cap ∧ ∃ cur, base ≤ g0 ∧ Blk w g0 33 cur ∧ cur.size = cap * 3 ∧ cur.toList.take (css.length * 3) = css.flatten := by
      rcases hown.1.2 with ⟨h, hz⟩ | ⟨g', cap', cur, hv', hbg, hg, _, _, hcs, htake⟩
      · omega
      · rw [hv] at hv'
        simp only [Value.slice.injEq, true_and] at hv'
        obtain ⟨hA, hcap⟩ := hv'
        subst hcap
        exact ⟨g', by rw [hv, hA], cur, hbg, hg, hcs, htake⟩
    clear hv
    have hf0 : (css.take (k0 + 1)).filter (fun c => !p c) = css.take k0 := by
      rw [take_succ_get (List.getElem?_eq_getElem hk0), List.filter_append, List.filter_eq_self.2 ?_]
      · simp [hpk0]
      · intro c hc
        obtain ⟨j, hj, rfl⟩ := List.getElem_of_mem hc
        rw [List.length_take] at hj
        have := hbefore j (by omega)
        simp only [List.getElem_take]
        simpa using this
    have hinv0 : DfInv 3 (k0 + 1) k0 css.length cap css p cur.toList := by
      refine ⟨by rw [Array.length_toList, hcs], by rw [hf0, List.length_take]; omega, by omega, hk0, ?_, fun q cs _ hq r u hu => ?_⟩
      · rw [hf0, ← flatten_take k0 hown.2, ← htake, List.take_take]
        congr 1
        omega
      · have h0 := flatten_get hown.2 hq hu
        rw [← htake, List.getElem?_take] at h0
        split at h0
        · exact h0
        · cases h0
    obtain ⟨n, hn⟩ : ∃ n, n = css.length := ⟨_, rfl⟩
    rw [← hn] at hix hinv0 hnc ⊢
    have hk0n : k0 < n := by omega
    have Hix := Lib.hid hix
    have Hf := Lib.hid hf
    have Hp := Lib.hid hp
    have H1 := Lib.hid h1
    have HN := Lib.hid hn
    have HG := Lib.hid hg
    have HI := Lib.hid hinv0
    have HO := Lib.hid hown
    clear hf hp h1 hn hg hinv0 hown hix hpk0 hbefore hcs htake hf0 hk0
    have hz0 := elGram.zero
    have Hz := Lib.hid hz0
    clear hz0
    go_enter Try.func49, Try.ntmps49
    go_wp2_with fail
    refine Hix.out.mono ?_
    rintro e w1 (⟨i, h, rfl, hc⟩ | ⟨h, _⟩)
    rotate_left
    · rw [Hf.out] at h
      cases h
    obtain rfl : k0 = i := by
      rw [Hf.out] at h
      simpa using h
    have Hc := Lib.hid hc
    clear hc h
    have hk1 : ((k0 : Int) == -1) = false := by rw [beq_eq_false_iff_ne]; omega
    go_wp2_with fail
    go_loopw [5, 6, 7] (fun i j _ wr => ∃ (i' j' : Nat) (L : Array Value), i = .int .i64 i' ∧ j = .int .i64 j' ∧ DfInv 3 j' i' n cap css p L.toList ∧ Blk wr g0 33 L ∧ Chg w wr (fun k => some g0 = some k)) (fun _ j _ _ => n - (intOf j).toNat)
    case atStart => exact ⟨k0, k0 + 1, cur, rfl, by go_num, HI.out, HG.out.chg Hc.out id, Hc.out.mono fun _ _ x => x.elim⟩
    case round =>
      obtain ⟨i, j, L, rfl, rfl, hinv, hB, hC⟩ := hrel
      have hij := hinv.lt
      have hjn := hinv.le
      have Hinv := Lib.hid hinv
      have HB := Lib.hid hB
      have HC := Lib.hid hC
      clear hinv hB hC
      by_cases hlt : j < n
      · obtain ⟨cs, hcs⟩ : ∃ cs, css[j]? = some cs := ⟨_, List.getElem?_eq_getElem (by rw [← HN.out]; exact hlt)⟩
        have hmem := List.mem_of_getElem? hcs
        have hl := HO.out.2 cs hmem
        have hone := H1.out cs hmem
        have hat : At wr ⟨g0, j * 3, none⟩ cs := fun r u hr => by
          have := Hinv.out.back j cs (Nat.le_refl _) hcs r u hr
          rw [Addr.add_lit, HB.out.cell]
          simpa using this
        have Hat := Lib.hid hat
        have Hl := Lib.hid hl
        have Hone := Lib.hid hone
        have Hcs := Lib.hid hcs
        have Hmem := Lib.hid hmem
        clear hat hl hone hcs hmem
        go_wp2_with (first | ((with_reducible refine wpl_load rfl (.tmp 24) 33 rfl stGram ⟨g0, j * 3, none⟩ cs ?_ Hl.out Hat.out ?_); exact rfl) | ((with_reducible refine wpl_box rfl rfl 7 (.tmp 25) 33 rfl rfl rfl rfl stGram Hz.out cs ?_ ?_ Hl.out Hone.out ?_); exact (by decide : 7 < 42); exact rfl; intro w2 hc2 hb2 hs2; have HC2 := Lib.hid hc2; have HB2 := Lib.hid hb2; clear hc2 hb2 hs2) | ((with_reducible refine wpl_load rfl (.tmp 7) 33 rfl stGram ⟨wr.heap.size, 0, none⟩ cs ?_ Hl.out HB2.out.at_ ?_); exact rfl))
        have hcw2 : Chg w w2 (fun k => (Value.slice (some ⟨g0, 0, none⟩) css.length cap).ownBlock = some k) := HC.out.trans HC2.out (fun _ _ x => x.elim)
        refine ((Hp.out cs Hmem.out) w2 hcw2).mono ?_
        rintro e w3 ⟨rfl, hc3⟩
        have HC3 := Lib.hid (HC2.out.trans hc3 (fun _ _ x => x))
        have HB3 := Lib.hid (HB2.out.chg hc3 id)
        clear hc3 hcw2
        have HG3 := Lib.hid (HB.out.chg HC3.out id)
        have HK3 := Lib.hid (HC.out.trans HC3.out (fun _ _ x => x.elim))
        obtain ⟨b, hb⟩ : ∃ b, p cs = b := ⟨_, rfl⟩
        rw [hb]
        have Hb := Lib.hid hb
        clear hb
        cases b with
        | true =>
          go_wp2_with fail
          go_roundw
          case rel => exact ⟨i, j + 1, L, rfl, by go_num, Hinv.out.drop Hcs.out hlt Hb.out, HG3.out, HK3.out⟩
          case measure => simp [intOf]; omega
        | false =>
          have hfit : i * 3 + 3 ≤ L.size := by
            have h1 := Hinv.out.len
            rw [Array.length_toList] at h1
            rw [h1]
            have : i * 3 + 3 ≤ cap * 3 := by rw [← Nat.succ_mul]; exact Nat.mul_le_mul_right _ (by omega)
            exact this
          have Hfit := Lib.hid hfit
          clear hfit
          go_wp2_with (first | ((with_reducible refine wpl_load rfl (.tmp 7) 33 rfl stGram ⟨wr.heap.size, 0, none⟩ cs ?_ Hl.out HB3.out.at_ ?_); exact rfl) | ((with_reducible refine wpl_store rfl (.tmp 33) (.tmp 32) 33 rfl stGram g0 (i * 3) 33 L cs ?_ ?_ HG3.out Hl.out Hfit.out Hone.out ?_); exact rfl; exact rfl))
          go_roundw
          case rel => exact ⟨i + 1, j + 1, _, by go_num, by go_num, Hinv.out.keep Hcs.out hlt (by omega) Hb.out Hl.out, HG3.out.set _, HK3.out.setRow _ _ (fun _ => rfl)⟩
          case measure => simp [intOf]; omega
      · obtain rfl : j = n := by omega
        have hle : i ≤ j := by omega
        have hci : ¬ cap = i := by omega
        have hLs : L.size = cap * 3 := by rw [← Hinv.out.len, Array.length_toList]
        obtain ⟨Z, hZ, hcl⟩ := run_clearK elGram wr 0 g0 (i * 3) (j - i) (cap - i) L 33 HB.out (by rw [hLs, ← Nat.add_mul]; exact Nat.mul_le_mul_right _ (by omega))
        have HZ := Lib.hid hZ
        have HL := Lib.hid hLs
        clear hZ hLs
        go_wp2_with fail
        go_ret
        have hfit : i * 3 ≤ cap * 3 := Nat.mul_le_mul_right _ (by omega)
        have hji : i * 3 + (j - i) * 3 = j * 3 := by rw [← Nat.add_mul]; congr 1; omega
        have hjc : j * 3 ≤ cap * 3 := Nat.mul_le_mul_right _ (by omega)
        have htk : (css.take j).filter (fun c => !p c) = css.filter fun c => !p c := by rw [List.take_of_length_le (by rw [HN.out]; exact Nat.le_refl _)]
        have hcnt : i = (css.filter fun c => !p c).length := by rw [← htk]; exact Hinv.out.cnt
        have hfr : L.toList.take (i * 3) = (css.filter fun c => !p c).flatten := by rw [← htk]; exact Hinv.out.front
        have hkk : ∀ c ∈ css.filter (fun c => !p c), c.length = 3 := fun c hc => HO.out.2 c ((List.mem_filter.1 hc).1)
        refine ⟨.slice (some ⟨g0, 0, none⟩) i cap, rfl, ⟨⟨?_, Or.inr ⟨g0, cap, _, by rw [← hcnt], hbg, HB.out.set _, by omega, hcm, ?_, ?_⟩⟩, hkk⟩, ?_, rfl⟩
        · rw [flatten_len hkk]
        · simp only [List.size_toArray, List.length_append, List.length_take, List.length_drop, Array.length_toList, HL.out, HZ.out]
          omega
        · rw [← hcnt, ← hfr]
          simp only []
          rw [List.take_append_of_le_length (by rw [List.length_take, Array.length_toList, HL.out]; omega), List.take_take, Nat.min_self]
        · exact ((HC.out.setRow g0 _ (fun _ => rfl)).mono fun k _ h => h.symm).to_grown
end Go.Proofs.Ytenkobgeflckdaa
