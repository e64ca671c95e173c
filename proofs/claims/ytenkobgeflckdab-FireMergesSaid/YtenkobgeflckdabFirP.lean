/- A map from names is written; rows by their names. -/
import Derived.Test.YtenkobgeflckdabHed
import Derived.Test.YtenkobgeflckdabRaws
set_option linter.unusedVariables false
set_option linter.unusedSimpArgs false
namespace Go.Proofs.Ytenkobgeflckdab
open Go.RowKit Go.Shelf

theorem find_now2 (s : ByteArray) : ∀ (es : List MapEntry) (m : List (ByteArray × Value)) (i : Nat), es.map (fun e => (e.key, e.val)) = m.map (fun p => (Value.string p.1, p.2)) →
    (∃ n v, Instr.findNow .string (.string s) es i = some (some (i + n, v)) ∧ n < m.length ∧ ∀ v', (∀ t, lookM (m.set n (s, v')) t = if t = s then v' else lookM m t) ∧ (∀ e, es[n]? = some e → e.key = .string s)) ∨
    (Instr.findNow .string (.string s) es i = some none ∧ ∀ v' t, lookM (m ++ [(s, v')]) t = if t = s then v' else lookM m t)
  | [], [], i, h => .inr ⟨rfl, fun v' t => by
      by_cases ht : t = s
      · subst ht; simp [lookM]
      · have hs : ¬ s = t := fun e => ht e.symm
        simp [lookM, ht, hs]⟩
  | [], p :: m, i, h => by cases h
  | e :: es, [], i, h => by cases h
  | e :: es, p :: m, i, h => by
    simp only [List.map_cons, List.cons.injEq, Prod.mk.injEq] at h
    obtain ⟨⟨hk, hv⟩, ht⟩ := h
    by_cases hs : p.1 = s
    · refine .inl ⟨0, e.val, ?_, by simp, fun v' => ⟨fun t => ?_, fun e' he' => ?_⟩⟩
      · unfold Instr.findNow
        rw [hk]
        simp only [Instr.sameNow]
        rw [show (s == p.1) = true by rw [beqB, hs]; exact decide_eq_true rfl]
        rfl
      · rw [List.set_cons_zero]
        by_cases h2 : t = s
        · subst h2; simp [lookM]
        · have h3 : ¬ s = t := fun e => h2 e.symm
          have h4 : ¬ p.1 = t := fun e => h3 (hs ▸ e)
          simp [lookM, h2, h3, h4]
      · cases he'
        rw [hk, hs]
    · have hf : Instr.findNow .string (.string s) (e :: es) i = Instr.findNow .string (.string s) es (i + 1) := by
        conv => lhs; unfold Instr.findNow
        rw [hk]
        simp only [Instr.sameNow]
        rw [show (s == p.1) = false by rw [beqB]; exact decide_eq_false (fun h => hs h.symm)]
      have hl : ∀ m' t, lookM (p :: m') t = if p.1 = t then p.2 else lookM m' t := fun m' t => by
        by_cases h2 : p.1 = t <;> simp [lookM, h2]
      rcases find_now2 s es m (i + 1) ht with ⟨n, v, h1, h2, h3⟩ | ⟨h1, h2⟩
      · refine .inl ⟨n + 1, v, by rw [hf, h1, show i + 1 + n = i + (n + 1) by omega], by simp; exact h2, fun v' => ⟨fun t => ?_, fun e' he' => (h3 v').2 e' (by simpa using he')⟩⟩
        rw [List.set_cons_succ, hl, hl, (h3 v').1 t]
        by_cases h4 : p.1 = t
        · rw [if_pos h4, if_pos h4]
          rw [if_neg (fun e => hs (h4.trans e))]
        · rw [if_neg h4, if_neg h4]
      · refine .inr ⟨by rw [hf, h1], fun v' t => ?_⟩
        rw [List.cons_append, hl, hl, h2 v' t]
        by_cases h4 : p.1 = t
        · rw [if_pos h4, if_pos h4]
          rw [if_neg (fun e => hs (h4.trans e))]
        · rw [if_neg h4, if_neg h4]

theorem run_updM {w : World} {b : Nat} {m : List (ByteArray × Value)} (h : MapAt w b m) (s : ByteArray) (v : Value) :
    ∃ w' m', (Instr.mapUpdate 69 (.map (some b)) (.string s) v).run Try.prog w = .ok () w' ∧ MapAt w' b m' ∧ (∀ t, lookM m' t = if t = s then v else lookM m t) ∧ Chg w w' (fun k => k = b) := by
  obtain ⟨es, cl, hb, hm⟩ := h
  have ht := Try.underlying69
  have hk := Try.underlying9
  generalize Try.prog = P at ht hk ⊢
  have hck : ∀ e, (Instr.checkKey e 10000 9 (.string s)).run P w = .ok () w := fun e => by
    rw [show (10000 : Nat) = 9999 + 1 from rfl]
    unfold Instr.checkKey
    simp [underlying, hk]
  have hgo : (getObj b).run P w = .ok (.map es cl) w := by simp [getObj, Sem.run, hb]
  have hset : ∀ es' cl', (setObj b (.map es' cl')).run P w = .ok () (w.putObj b (.map es' cl')) := fun es' cl' => by simp [setObj, Sem.run, hb, World.putObj]
  have hc : ∀ o, Chg w (w.putObj b o) (fun k => k = b) := fun o => (Chg.of_grown (grownBy_putObj' w b o)).mono fun k _ h => by cases h; rfl
  have hbs : b < w.heap.size := lt_of_heap hb
  rcases find_now2 s es.toList m 0 hm with ⟨n, u, h1, h2, h3⟩ | ⟨h1, h2⟩
  · have hlen : n < es.size := by
      have := congrArg List.length hm
      simp at this
      omega
    have hkey : (((es[n]?).map (·.key)).getD (.string s)) = .string s := by
      have he : es[n]? = some es[n] := by simp [hlen]
      rw [he]
      exact (h3 v).2 es[n] (by rw [Array.getElem?_toList]; exact he)
    have hstay : (Instr.keyThatStays (.string s) (.string s)).run P w = .ok (.string s) w := by
      unfold Instr.keyThatStays
      rw [show (10000 : Nat) = 9999 + 1 from rfl]
      unfold Instr.sameBits
      simp [beqB]
    refine ⟨w.putObj b (.map (es.modify n fun e => { e with key := .string s, val := v }) cl), m.set n (s, v), ?_, ⟨_, cl, World.putObj_heap_same hbs, ?_⟩, (h3 v).1, hc _⟩
    · rw [Nat.zero_add] at h1
      unfold Instr.mapUpdate
      simp [underlying, ht, hk, hck, hgo, Instr.findKey, h1, hkey, hstay, hset]
    · apply List.ext_getElem?
      intro j
      have hmj := congrArg (fun l => l[j]?) hm
      simp only [List.getElem?_map] at hmj
      simp only [List.getElem?_map, Array.toList_modify, List.getElem?_modify, List.getElem?_set]
      by_cases hj : n = j
      · subst hj
        have he : es.toList[n]? = some es[n] := by rw [Array.getElem?_toList]; simp [hlen]
        simp [he, h2]
      · simp only [hj, if_false]
        simpa using hmj
  · refine ⟨w.putObj b (.map (es.push { key := .string s, val := v, born := cl }) (cl + 1)), m ++ [(s, v)], ?_, ⟨_, _, World.putObj_heap_same hbs, ?_⟩, h2 v, hc _⟩
    · unfold Instr.mapUpdate
      simp [underlying, ht, hk, hck, hgo, Instr.findKey, h1, hset]
    · rw [Array.toList_push, List.map_append, List.map_append, hm]
      rfl
end Go.Proofs.Ytenkobgeflckdab
