/- Rules in memory: small parts. -/
import Derived.Test.YtfocjfnkcabbgaaSlB
import Derived.Test.YtfocjfnkcabbgaaFire
set_option linter.unusedVariables false
set_option linter.unusedSimpArgs false
namespace Go.Proofs.Ytfocjfnkcabbgaa
open Go.RowKit Go.Shelf

theorem exec_new {P : Program} {o : Oper} {ρ : Operand → Value} {w : World} {e : TypeId} {k : Nat} (ho : o.op = .alloc e) (hz : ∃ i z, P.info? e = some i ∧ i.zero = some z ∧ z.cells.size = k) : ∃ cur, cur.size = k ∧ (execOp ρ o).run P w = .ok (.value (.pointer (some ⟨w.heap.size, 0, none⟩))) (w.alloc (.cells cur e)) := by
  obtain ⟨i, z, hi, hz, hzs⟩ := hz
  refine ⟨z.cells, hzs, ?_⟩
  unfold execOp
  simp [ho, Instr.alloc, newVar, newRow, zeroValue, typeInfo, hi, hz]
theorem Gives.alloc {P : Program} {o : Oper} {ρ : Operand → Value} {w : World} {e : TypeId} {k : Nat} {R : Value → World → Prop} (ho : o.op = .alloc e) (hz : ∃ i z, P.info? e = some i ∧ i.zero = some z ∧ z.cells.size = k) (h : ∀ cur : Array Value, cur.size = k → R (.pointer (some ⟨w.heap.size, 0, none⟩)) (w.alloc (.cells cur e))) : Gives P o ρ w R := by
  obtain ⟨cur, hc, hrun⟩ := exec_new (ρ := ρ) (w := w) ho hz
  exact .value hrun (h cur hc)
theorem zRule : ∃ i z, Try.prog.info? 27 = some i ∧ i.zero = some z ∧ z.cells.size = 6 := zero_of (z := .agg #[.string ⟨#[]⟩, .string ⟨#[]⟩, .slice none 0 0, .string ⟨#[]⟩, .int .i64 0, .slice none 0 0]) (by kernel_rfl) rfl
theorem tms1 {W : World} {b : Nat} {c1 : List Value} {t1 : Tm} (hb : Blk W b 39 c1.toArray) (h1 : TmAt W c1 t1) : TmsAt W (some ⟨b, 0, none⟩) [c1] [t1] :=
  ⟨rfl, fun _ => ⟨_, rfl, fun i cs hi => by
    match i, hi with
    | 0, hi => cases hi; exact ⟨h1.len, by rw [Nat.zero_mul]; exact hb.at_⟩
    | i + 1, hi => simp at hi⟩, fun j cs t hj ht => by
    match j, hj, ht with
    | 0, hj, ht => cases hj; cases ht; exact h1
    | j + 1, hj, ht => simp at hj⟩
theorem tms2 {W : World} {b : Nat} {c1 c2 : List Value} {t1 t2 : Tm} (hb : Blk W b 39 (c1 ++ c2).toArray) (h1 : TmAt W c1 t1) (h2 : TmAt W c2 t2) : TmsAt W (some ⟨b, 0, none⟩) [c1, c2] [t1, t2] :=
  ⟨rfl, fun _ => ⟨_, rfl, fun i cs hi => by
    match i, hi with
    | 0, hi => cases hi; exact ⟨h1.len, fun j u hj => by rw [Nat.zero_mul, Addr.add_lit, Addr.add_lit, hb.cell, List.getElem?_toArray]; simp only [Nat.zero_add]; rw [List.getElem?_append_left (List.getElem?_eq_some_iff.1 hj).1]; exact hj⟩
    | 1, hi => cases hi; exact ⟨h2.len, fun j u hj => by
        rw [Addr.add_lit, Addr.add_lit, hb.cell, List.getElem?_toArray, List.getElem?_append_right (by rw [h1.len]; omega)]
        rw [show 0 + 1 * 7 + j - c1.length = j from by rw [h1.len]; omega]
        exact hj⟩
    | i + 2, hi => simp at hi⟩, fun j cs t hj ht => by
    match j, hj, ht with
    | 0, hj, ht => cases hj; cases ht; exact h1
    | 1, hj, ht => cases hj; cases ht; exact h2
    | j + 2, hj, ht => simp at hj⟩
end Go.Proofs.Ytfocjfnkcabbgaa
