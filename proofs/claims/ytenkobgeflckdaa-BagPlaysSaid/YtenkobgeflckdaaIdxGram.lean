/- slices.IndexFunc over Gram. -/
import Derived.Test.YtenkobgeflckdaaElGram
set_option linter.unusedVariables false
namespace Go.Proofs.Ytenkobgeflckdaa
open Go.RowKit Go.Shelf

def idxPostGram (css : List (List Value)) (p : List Value → Bool) (w : World) (e : Ending) (w' : World) : Prop :=
  (∃ i, css.findIdx? p = some i ∧ e = .returned (.int .i64 i) ∧ New w w') ∨ (css.findIdx? p = none ∧ e = .returned (.int .i64 (-1)) ∧ New w w')

set_option maxHeartbeats 1000000 in
set_option maxRecDepth 100000 in
/-- slices.IndexFunc(s, p): the first at which p says yes. -/
theorem idxGram (w : World) (A : Option Addr) (n c : Nat) (css : List (List Value)) (hn : n = css.length) (hm : n ≤ maxLen) (hrows : 0 < css.length → ∃ a, A = some a ∧ RowsAt w a 3 css) (g : Nat) (lb : Array Value) (eg : Enters Try.prog g) (p : List Value → Bool)
    (T : Nat → Prop) (hp : ∀ cs ∈ css, Says Try.prog w T g lb #[.agg cs.toArray] (.bool (p cs))) :
    Calls Try.prog 72 #[.slice A n c, .func (.func g) #[] lb] w (idxPostGram css p w) := by
  unfold maxLen at hm
  unfold Enters at eg
  have HN := Lib.hid hn
  have Hp := Lib.hid hp
  have Hrows := Lib.hid hrows
  clear hn hp hrows
  go_enter Try.func72, Try.ntmps72
  go_wp2
  go_loopw [5, 8] (fun _ i wr => ∃ k : Nat, k ≤ n ∧ i = .int .i64 k ∧ New w wr ∧ ∀ j cs, j < k → css[j]? = some cs → p cs = false) (fun _ i _ => n - (intOf i).toNat)
  case atStart => exact ⟨0, Nat.zero_le _, rfl, Chg.refl w _, fun j cs h => absurd h (by omega)⟩
  case round =>
    obtain ⟨k, hk, rfl, hc, hno⟩ := hrel
    have Hc := Lib.hid hc
    have Hno := Lib.hid hno
    clear hc hno
    by_cases hlt : k < n
    · obtain ⟨ad, rfl, hrw⟩ := Hrows.out (by rw [← HN.out]; omega)
      obtain ⟨cs, hcs⟩ : ∃ cs, css[k]? = some cs := ⟨_, List.getElem?_eq_getElem (by rw [← HN.out]; exact hlt)⟩
      have hat := (hrw k cs hcs).2.chg Hc.out id
      have hl := (hrw k cs hcs).1
      have hs := Hp.out cs (List.mem_of_getElem? hcs) wr (Hc.out.mono fun _ _ x => x.elim)
      have Hat := Lib.hid hat
      have Hl := Lib.hid hl
      have Hs := Lib.hid hs
      have Hcs := Lib.hid hcs
      clear hat hl hs hrw hcs
      go_wp2_with ((with_reducible refine wpl_load rfl (.tmp 14) 33 rfl stGram (ad.add (k * 3)) cs ?_ Hl.out Hat.out ?_); exact rfl)
      refine Hs.out.mono ?_
      rintro e w2 ⟨rfl, hc2⟩
      have Hc2 := Lib.hid (Hc.out.trans hc2 (fun _ _ x => x))
      clear hc2
      obtain ⟨b, hb⟩ : ∃ b, p cs = b := ⟨_, rfl⟩
      rw [hb]
      have Hb := Lib.hid hb
      clear hb
      cases b with
      | true =>
        go_wp2_with fail
        go_ret
        refine Or.inl ⟨k, ?_, rfl, Hc2.out⟩
        obtain ⟨hlt', he⟩ := List.getElem?_eq_some_iff.1 Hcs.out
        rw [List.findIdx?_eq_some_iff_getElem]
        refine ⟨hlt', by rw [he]; exact Hb.out, fun j hj => ?_⟩
        have := Hno.out j _ hj (List.getElem?_eq_getElem (by omega))
        simp [this]
      | false =>
        go_wp2_with fail
        go_roundw
        case rel =>
          refine ⟨k + 1, by omega, by go_num, Hc2.out, fun j cs' hj hcs' => ?_⟩
          by_cases hjk : j = k
          · subst hjk
            have := Hcs.out.symm.trans hcs'
            simp only [Option.some.injEq] at this
            subst this
            exact Hb.out
          · exact Hno.out j cs' (by omega) hcs'
        case measure => simp [intOf]; omega
    · go_wp2_with fail
      go_ret
      refine Or.inr ⟨?_, rfl, Hc.out⟩
      rw [List.findIdx?_eq_none_iff]
      intro cs hcs
      obtain ⟨j, hj, rfl⟩ := List.getElem_of_mem hcs
      exact Hno.out j _ (by have := HN.out; omega) (List.getElem?_eq_getElem hj)
end Go.Proofs.Ytenkobgeflckdaa
