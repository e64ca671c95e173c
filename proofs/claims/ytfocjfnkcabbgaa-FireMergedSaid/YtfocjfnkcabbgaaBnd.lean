/- The slice types over Bind; slices.Clone, slices.IndexFunc over Bind. -/
import Derived.Test.YtfocjfnkcabbgaaApp
import Derived.Test.YtfocjfnkcabbgaaCmpW
set_option linter.unusedVariables false
namespace Go.Proofs.Ytfocjfnkcabbgaa
theorem elBind : ElT Try.prog 64 98 5 72 (Value.cells (.agg #[.string ⟨#[]⟩, .int .i64 0, .int .i64 0, .string ⟨#[]⟩, .slice none 0 0])).toList :=
  ElT.mk' (by kernel_rfl) (by kernel_rfl) rfl (by omega) (by intro u hu; simp only [Value.cells, List.mem_cons, List.not_mem_nil, or_false] at hu; rcases hu with rfl | rfl | rfl | rfl | rfl <;> rfl)
theorem elScope : ElT Try.prog 99 98 5 72 (Value.cells (.agg #[.string ⟨#[]⟩, .int .i64 0, .int .i64 0, .string ⟨#[]⟩, .slice none 0 0])).toList :=
  ElT.mk' (by kernel_rfl) (by kernel_rfl) rfl (by omega) (by intro u hu; simp only [Value.cells, List.mem_cons, List.not_mem_nil, or_false] at hu; rcases hu with rfl | rfl | rfl | rfl | rfl <;> rfl)
theorem stBind : StT Try.prog 98 5 := ⟨⟨_, Try.underlying98⟩, by kernel_rfl⟩
end Go.Proofs.Ytfocjfnkcabbgaa

set_option linter.unusedVariables false
namespace Go.Proofs.Ytfocjfnkcabbgaa
open Go.RowKit Go.Shelf

def ClonePostBind (w : World) (css : List (List Value)) (e : Ending) (w' : World) : Prop :=
  ∃ v', e = .returned v' ∧ Own w' w.heap.size 98 5 v' css ∧ New w w'

set_option maxHeartbeats 1000000 in
set_option maxRecDepth 100000 in
theorem cloneNilBind (w : World) (n c : Nat) : Calls Try.prog 55 #[.slice none n c] w (ClonePostBind w []) := by
  have hnil := fun w => Lib.run_eql_slice_nil (P := Try.prog) w 64 98 none n c 0 0 elBind.und
  go_enter Try.func55, Try.ntmps55
  go_wp2_with fail
  go_ret
  exact ⟨_, rfl, Own.nil _ _ _ _, Chg.refl _ _⟩

set_option maxHeartbeats 1000000 in
set_option maxRecDepth 100000 in
theorem cloneSomeBind (w : World) (a : Addr) (n c : Nat) (css : List (List Value)) (hn : n = css.length) (hrows : RowsAt w a 5 css) (h1 : ∀ cs ∈ css, ∀ u ∈ cs, u.oneCell' = true) (hb : n * 72 ≤ 140737488355328) (ha : a.block < w.heap.size) :
    Calls Try.prog 55 #[.slice (some a) n c] w (ClonePostBind w css) := by
  have hsome := fun w => Lib.run_eql_slice_nil (P := Try.prog) w 64 98 (some a) n c 0 0 elBind.und
  obtain ⟨w1, hw1⟩ : ∃ w1, w1 = w.alloc (.cells #[] 98) := ⟨_, rfl⟩
  have hc1 : New w w1 := by rw [hw1]; exact (Chg.refl w _).alloc _
  have hk : ∀ cs ∈ css, cs.length = 5 := fun cs hc => by
    obtain ⟨i, hi, rfl⟩ := List.getElem_of_mem hc
    exact (hrows i _ (List.getElem?_eq_getElem hi)).1
  have hown1 : w1.ownsRow w.heap.size 98 5 (.slice (some ⟨w.heap.size, 0, none⟩) 0 0) 0 [] :=
    ⟨by simp, .inr ⟨w.heap.size, 0, #[], rfl, Nat.le_refl _, by rw [hw1]; exact heap_alloc_new w _, Nat.le_refl _, Nat.zero_le _, by simp, by simp⟩⟩
  obtain ⟨v', w', hrun, hown', hgr, _, _⟩ := elBind.append w1 64 w.heap.size _ 0 [] hown1 a n c css.flatten (by rw [flatten_len hk, hn]) (fun j u hj => by
      have hlt : j < css.flatten.length := (List.getElem?_eq_some_iff.1 hj).1
      rw [flatten_len hk] at hlt
      have hq : j / 5 < css.length := Nat.div_lt_of_lt_mul (by rw [Nat.mul_comm]; exact hlt)
      have hr := hrows (j / 5) _ (List.getElem?_eq_getElem hq)
      have hjr : j % 5 < (css[j / 5]).length := by rw [hr.1]; exact Nat.mod_lt _ (by omega)
      have hu : css.flatten[j / 5 * 5 + j % 5]? = some (css[j / 5][j % 5]) := flatten_get hk (List.getElem?_eq_getElem hq) (List.getElem?_eq_getElem hjr)
      have hjj : j / 5 * 5 + j % 5 = j := by rw [Nat.mul_comm]; exact Nat.div_add_mod j 5
      rw [hjj] at hu
      rw [hu] at hj
      have hcell := hr.2 (j % 5) _ (List.getElem?_eq_getElem hjr)
      rw [add_add, hjj] at hcell
      rw [hc1.cell (by rw [add_block]; exact ha) id, hcell]
      exact hj) (fun u hu => by
        obtain ⟨cs, hcs, hu⟩ := List.mem_flatten.1 hu
        exact h1 cs hcs u hu) (by unfold maxLen; omega) (by omega) hc1.size
  simp only [Nat.zero_add, List.nil_append] at hown'
  have hfin : ClonePostBind w css (.returned v') w' := by
    refine ⟨v', rfl, ⟨by rw [← hn]; exact hown', hk⟩, hc1.trans (Chg.of_grown hgr) (fun k hk h => ?_)⟩
    simp only [Value.ownBlock, Option.some.injEq] at h
    omega
  have Hrun := Lib.hid hrun
  have Hfin := Lib.hid hfin
  have HW := Lib.hid hw1
  clear hrun hfin hown' hgr hown1 hrows h1 hc1 hk hn hw1
  go_enter Try.func55, Try.ntmps55
  go_wp2_with (rw [← HW.out]; (with_reducible refine wpl_append rfl (.tmp 5) (.tmp 6) 64 64 rfl ?_ ?_ Hrun.out ?_); exact rfl; exact rfl)
  go_ret
  exact Hfin.out

/-- slices.Clone(s). -/
theorem cloneBind (w : World) (A : Option Addr) (n c : Nat) (css : List (List Value)) (hn : n = css.length) (hrows : 0 < css.length → ∃ a, A = some a ∧ RowsAt w a 5 css) (hA : ∀ a, A = some a → a.block < w.heap.size) (h1 : ∀ cs ∈ css, ∀ u ∈ cs, u.oneCell' = true) (hb : n * 72 ≤ 140737488355328) :
    Calls Try.prog 55 #[.slice A n c] w (ClonePostBind w css) := by
  cases A with
  | none =>
    have h0 : css = [] := by
      cases css with
      | nil => rfl
      | cons x l =>
        obtain ⟨a, h, _⟩ := hrows (by simp)
        cases h
    subst h0
    exact cloneNilBind w n c
  | some a =>
    refine cloneSomeBind w a n c css hn ?_ h1 hb (hA a rfl)
    intro i cs hi
    obtain ⟨a', he, hr⟩ := hrows (by have := (List.getElem?_eq_some_iff.1 hi).1; omega)
    injection he with he
    subst he
    exact hr i cs hi
end Go.Proofs.Ytfocjfnkcabbgaa

set_option linter.unusedVariables false
namespace Go.Proofs.Ytfocjfnkcabbgaa
open Go.RowKit Go.Shelf

def idxPostBind (css : List (List Value)) (p : List Value → Bool) (w : World) (e : Ending) (w' : World) : Prop :=
  (∃ i, css.findIdx? p = some i ∧ e = .returned (.int .i64 i) ∧ New w w') ∨ (css.findIdx? p = none ∧ e = .returned (.int .i64 (-1)) ∧ New w w')

set_option maxHeartbeats 1000000 in
set_option maxRecDepth 100000 in
/-- slices.IndexFunc(s, p): the first at which p says yes. -/
theorem idxBind (w : World) (A : Option Addr) (n c : Nat) (css : List (List Value)) (hn : n = css.length) (hm : n ≤ maxLen) (hrows : 0 < css.length → ∃ a, A = some a ∧ RowsAt w a 5 css) (g : Nat) (lb : Array Value) (eg : Enters Try.prog g) (p : List Value → Bool)
    (T : Nat → Prop) (hp : ∀ cs ∈ css, Says Try.prog w T g lb #[.agg cs.toArray] (.bool (p cs))) :
    Calls Try.prog 65 #[.slice A n c, .func (.func g) #[] lb] w (idxPostBind css p w) := by
  unfold maxLen at hm
  unfold Enters at eg
  have HN := Lib.hid hn
  have Hp := Lib.hid hp
  have Hrows := Lib.hid hrows
  clear hn hp hrows
  go_enter Try.func65, Try.ntmps65
  go_wp2
  go_loopw [5, 8] (fun _ i wr => ∃ k : Nat, k ≤ n ∧ i = .int .i64 k ∧ New w wr ∧ ∀ j cs, j < k → css[j]? = some cs → p cs = false) (fun _ i _ => n - (intOf i).toNat)
  case atStart => exact ⟨0, Nat.zero_le _, rfl, Chg.refl w _, fun j cs h => absurd h (by omega)⟩
  case round =>
    obtain ⟨k, hk, rfl, hc, hno⟩ := hrel
    have Hc := Lib.hid hc
    have Hno := Lib.hid hno
    clear hc hno
    by_cases hlt : k < n
    · obtain ⟨ad, rfl, hrw⟩ := Hrows.out (by rw [← HN.out]; omega)
      obtain ⟨cs, hcs⟩ : ∃ cs, css[k]? = some cs := ⟨_, List.getElem?_eq_getElem (by rw [← HN.out]; exact hlt)⟩
      have hat := (hrw k cs hcs).2.chg Hc.out id
      have hl := (hrw k cs hcs).1
      have hs := Hp.out cs (List.mem_of_getElem? hcs) wr (Hc.out.mono fun _ _ x => x.elim)
      have Hat := Lib.hid hat
      have Hl := Lib.hid hl
      have Hs := Lib.hid hs
      have Hcs := Lib.hid hcs
      clear hat hl hs hrw hcs
      go_wp2_with ((with_reducible refine wpl_load rfl (.tmp 14) 98 rfl stBind (ad.add (k * 5)) cs ?_ Hl.out Hat.out ?_); exact rfl)
      refine Hs.out.mono ?_
      rintro e w2 ⟨rfl, hc2⟩
      have Hc2 := Lib.hid (Hc.out.trans hc2 (fun _ _ x => x))
      clear hc2
      obtain ⟨b, hb⟩ : ∃ b, p cs = b := ⟨_, rfl⟩
      rw [hb]
      have Hb := Lib.hid hb
      clear hb
      cases b with
      | true =>
        go_wp2_with fail
        go_ret
        refine Or.inl ⟨k, ?_, rfl, Hc2.out⟩
        obtain ⟨hlt', he⟩ := List.getElem?_eq_some_iff.1 Hcs.out
        rw [List.findIdx?_eq_some_iff_getElem]
        refine ⟨hlt', by rw [he]; exact Hb.out, fun j hj => ?_⟩
        have := Hno.out j _ hj (List.getElem?_eq_getElem (by omega))
        simp [this]
      | false =>
        go_wp2_with fail
        go_roundw
        case rel =>
          refine ⟨k + 1, by omega, by go_num, Hc2.out, fun j cs' hj hcs' => ?_⟩
          by_cases hjk : j = k
          · subst hjk
            have := Hcs.out.symm.trans hcs'
            simp only [Option.some.injEq] at this
            subst this
            exact Hb.out
          · exact Hno.out j cs' (by omega) hcs'
        case measure => simp [intOf]; omega
    · go_wp2_with fail
      go_ret
      refine Or.inr ⟨?_, rfl, Hc.out⟩
      rw [List.findIdx?_eq_none_iff]
      intro cs hcs
      obtain ⟨j, hj, rfl⟩ := List.getElem_of_mem hcs
      exact Hno.out j _ (by have := HN.out; omega) (List.getElem?_eq_getElem hj)
end Go.Proofs.Ytfocjfnkcabbgaa
