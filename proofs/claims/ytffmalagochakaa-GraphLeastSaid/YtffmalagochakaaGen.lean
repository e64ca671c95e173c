/- Small laws of memory that name no type. -/
import Derived.Test.YtffmalagochakaaWa
import Derived.Test.YtffmalagochakaaWS
import Derived.Lib.Hide
set_option linter.unusedVariables false
set_option linter.unusedSimpArgs false
namespace Go.Proofs.Ytffmalagochakaa
open Go.RowKit Go.Shelf

theorem layA_all {cur : Array Value} {cs : List Value} (h : cur.size = cs.length) : layA cur 0 cs = cs.toArray := by
  unfold layA lay
  congr 1
  rw [List.drop_of_length_le (by simp; omega)]
  simp

theorem stored_at {w : World} {g : Nat} {t : TypeId} {cur : Array Value} {cs : List Value} (h : Blk w g t cur) (hc : cur.size = cs.length) : At (w.setRow g (layA cur 0 cs)) ⟨g, 0, none⟩ cs := by
  rw [layA_all hc]
  exact (h.set _).at_
theorem res_cellK {P : Program} {f : Func} {p : Nat} {ty : TypeId} {k : Nat} (hS : StT P ty k) (hr : f.results = #[.cell p ty]) (W : World) (tmps : Array Value) (ad : Addr) (cs : List Value) (h2 : tmps.getD p undef = .pointer (some ad)) (hc : At W ad cs) (hl : cs.length = k) :
    (results f tmps).run P W = .ok (.agg cs.toArray) W := by
  have hl := run_loadK (P := P) (w := W) hS ad cs hl hc
  have ha : (asAddr (.pointer (some ad))).run P W = .ok ad W := rfl
  rw [results_cell_one hr, h2, ha]
  simp only [Result.andThen_ok, hl]
/-- Rows that a slice's cells hold. -/
def SrcAt (W : World) (A : Option Addr) (k : Nat) (ds : List (List Value)) : Prop := 0 < ds.length → ∃ a, A = some a ∧ RowsAt W a k ds
theorem SrcAt.chg {W W' : World} {A : Option Addr} {k : Nat} {ds : List (List Value)} {T : Nat → Prop} (h : SrcAt W A k ds) (hc : Chg W W' T) (hn : ∀ a, A = some a → ¬ T a.block) : SrcAt W' A k ds := fun hp => by
  obtain ⟨a, ha, hr⟩ := h hp
  exact ⟨a, ha, hr.chg hc (hn a ha)⟩

section
variable {P : Program} {t e : TypeId} {k bytes : Nat} {zs : List Value}
theorem ElT.appendS (hE : ElT P t e k bytes zs) {B : Nat} {W : World} {v : Value} {css : List (List Value)} (ho : Own W B e k v css) (hB : B ≤ W.heap.size) (A : Option Addr) (m c : Nat) (ds : List (List Value)) (hm : m = ds.length) (hk : ∀ cs ∈ ds, cs.length = k) (h1 : ∀ cs ∈ ds, ∀ u ∈ cs, u.oneCell' = true)
    (hr : SrcAt W A k ds) (hb : (css.length + m) * bytes ≤ 140737488355328) (hb2 : css.length + m ≤ maxLen) (ty : TypeId) :
    ∃ v' W', (Builtin.append_ #[t, t] ty #[v, .slice A m c]).run P W = .ok v' W' ∧ Own W' B e k v' (css ++ ds) ∧ Chg W W' (fun k => v.ownBlock = some k) ∧ ∀ k, v'.ownBlock = some k → v.ownBlock = some k ∨ W.heap.size ≤ k := by
  cases A with
  | none =>
    have h0 : ds = [] := by
      cases ds with
      | nil => rfl
      | cons x l =>
        obtain ⟨a, h, _⟩ := hr (by simp)
        cases h
    subst h0
    obtain rfl : m = 0 := hm
    obtain ⟨i, z, hi, hz, hs, _, _, _⟩ := hE.info
    refine ⟨v, W, ?_, by rw [List.append_nil]; exact ho, Chg.refl _ _, fun k hk => .inl hk⟩
    have := run_append_owned_none (P := P) W B t ty e i k hE.und hi v css.length css.flatten ho.1
    exact this
  | some ad =>
    have hf : ds.flatten.length = m * k := by rw [flatten_len hk, hm]
    obtain ⟨v', W', hrun, hown, hg, _, hblk⟩ := hE.append W ty B v css.length css.flatten ho.1 ad m c ds.flatten hf (fun j u hj => by
      have hjl : j < m * k := by rw [← hf]; exact (List.getElem?_eq_some_iff.1 hj).1
      have hkp := hE.pos
      have hq : j / k < ds.length := by rw [← hm]; exact Nat.div_lt_of_lt_mul (by rw [Nat.mul_comm]; exact hjl)
      obtain ⟨a, ha, hr⟩ := hr (Nat.lt_of_le_of_lt (Nat.zero_le _) hq)
      obtain rfl := Option.some.inj ha
      have hgr := hr (j / k) ds[j / k] (List.getElem?_eq_getElem hq)
      have hlen := hgr.1
      have hc : (ds[j / k])[j % k]? = some ((ds[j / k])[j % k]'(by rw [hlen]; exact Nat.mod_lt _ hkp)) := List.getElem?_eq_getElem _
      have h2 := hgr.2 (j % k) _ hc
      have hfl := flatten_get hk (i := j / k) (cs := ds[j / k]) (List.getElem?_eq_getElem hq) hc
      have hjj : j / k * k + j % k = j := by rw [Nat.mul_comm]; exact Nat.div_add_mod j k
      rw [hjj, hj] at hfl
      rw [add_add, hjj] at h2
      rw [h2, Option.some.inj hfl]) (fun u hu => by
        obtain ⟨cs, hcs, hu⟩ := List.mem_flatten.1 hu
        exact h1 cs hcs u hu) hb2 hb hB
    refine ⟨v', W', hrun, ⟨?_, fun cs hcs => ?_⟩, (Chg.of_grown hg).mono fun k _ hk => hk.symm, fun k hk => ?_⟩
    · rw [List.length_append, List.flatten_append, ← hm]
      exact hown
    · rcases List.mem_append.1 hcs with h | h
      · exact ho.2 cs h
      · exact hk cs h
    · rcases hblk with h | h
      · exact .inl (h ▸ hk)
      · rw [h] at hk
        exact .inr (Nat.le_of_eq (Option.some.inj hk))
theorem SrcAt.take {W : World} {A : Option Addr} {ds : List (List Value)} (h : SrcAt W A k ds) (i : Nat) : SrcAt W A k (ds.take i) := fun hp => by
  rw [List.length_take] at hp
  obtain ⟨a, ha, hr⟩ := h (by omega)
  refine ⟨a, ha, fun j cs hj => ?_⟩
  rw [List.getElem?_take] at hj
  split at hj
  · exact hr j cs hj
  · cases hj
theorem SrcAt.drop {W : World} {a : Addr} {ds : List (List Value)} (h : SrcAt W (some a) k ds) {i cap : Nat} (hi : i ≤ ds.length) (hc : ds.length ≤ cap) : SrcAt W (if cap = i then some a else some (a.add (i * k))) k (ds.drop i) := fun hp => by
  rw [List.length_drop] at hp
  obtain ⟨a', ha, hr⟩ := h (by omega)
  obtain rfl := Option.some.inj ha
  rw [if_neg (by omega)]
  refine ⟨_, rfl, fun j cs hj => ?_⟩
  rw [List.getElem?_drop] at hj
  have := hr (i + j) cs hj
  rw [add_add, ← Nat.add_mul]
  exact this
theorem SrcAt.dropO {W : World} {A : Option Addr} {ds : List (List Value)} (h : SrcAt W A k ds) {i cap : Nat} (hi : i ≤ ds.length) (hc : ds.length ≤ cap) : SrcAt W (if cap = i then A else A.map (fun a => a.add (i * k))) k (ds.drop i) := by
  cases A with
  | none =>
    intro hp
    rw [List.length_drop] at hp
    obtain ⟨a, ha, _⟩ := h (by omega)
    cases ha
  | some a => exact h.drop hi hc
end
theorem src_one {w : World} {g k : Nat} {cs : List Value} (h : At w ⟨g, 0, none⟩ cs) (hk : cs.length = k := by rfl) : SrcAt w (some ⟨g, 0, none⟩) k [cs] := fun _ => ⟨_, rfl, fun j d hj => by
  match j, hj with
  | 0, hj => cases hj; exact ⟨hk, by rw [Nat.zero_mul]; exact h⟩
  | j + 1, hj => simp at hj⟩
section
variable {P : Program} {ops : Array Oper} {Q : Exit → Act → World → Prop} {o : Oper} {rest : List Oper} {a : Act} {w : World} {x y : Value}
/-- append, by what it leaves. -/
theorem wpl_app {t1 t2 ty : TypeId} {R : Value → World → Prop} (hrun : ∃ v' W', (Builtin.append_ #[t1, t2] ty #[x, y]).run P w = .ok v' W' ∧ R v' W') (hg : o.guard = none) (s u : Operand) (ho : o.op = .call { callee := .builtin .append, args := #[s, u], argTypes := #[t1, t2] })
    (hs : a.eval s = x) (hu : a.eval u = y) (h : ∀ v' W', R v' W' → wpList P ops Q rest (a.put o.dst v') W') (hty : o.type = ty := by rfl) : wpList P ops Q (o :: rest) a w := by
  subst hty
  obtain ⟨v', W', hr, hR⟩ := hrun
  exact wpl_append hg s u t1 t2 ho hs hu hr (h v' W' hR)
end

section
variable {P : Program} {ops : Array Oper} {Q : Exit → Act → World → Prop} {o : Oper} {rest : List Oper} {a : Act} {w : World} {k : Nat}
/-- A new variable. -/
theorem wpl_new (hg : o.guard = none) (e : TypeId) (ho : o.op = .alloc e) (hz : ∃ i z, P.info? e = some i ∧ i.zero = some z ∧ z.cells.size = k)
    (h : ∀ w2 (cur : Array Value), New w w2 → Blk w2 w.heap.size e cur → cur.size = k → w2.heap.size = w.heap.size + 1 → wpList P ops Q rest (a.put o.dst (.pointer (some ⟨w.heap.size, 0, none⟩))) w2) : wpList P ops Q (o :: rest) a w := by
  refine wpList_plain hg fun K hK => ?_
  obtain ⟨i, z, hi, hz, hzs⟩ := hz
  have hrun : (execOp a.eval o).run P w = .ok (.value (.pointer (some ⟨w.heap.size, 0, none⟩))) (w.alloc (.cells z.cells e)) := by
    unfold execOp
    simp [ho, Instr.alloc, newVar, newRow, zeroValue, typeInfo, hi, hz]
  unfold Oper.wp
  rw [hrun]
  simp only [Oper.upon]
  exact hK _ _ (h _ _ ((Chg.refl w _).alloc _) (Blk.new w e z.cells) hzs (by simp))
/-- A whole variable is written. -/
theorem wpl_set (hg : o.guard = none) (x y : Operand) (e : TypeId) (ho : o.op = .store e x y) (hd : o.dst = none) (hS : StT P e k) (g : Nat) (t : TypeId) (cur : Array Value) (cs : List Value) (hx : a.eval x = .pointer (some ⟨g, 0, none⟩)) (hy : a.eval y = .agg cs.toArray)
    (hB : Blk w g t cur) (hl : cs.length = k) (hc : cur.size = k) (h1 : ∀ u ∈ cs, u.oneCell' = true)
    (h : ∀ w2, Chg w w2 (fun j => j = g) → Blk w2 g t cs.toArray → w2.heap.size = w.heap.size → wpList P ops Q rest a w2) : wpList P ops Q (o :: rest) a w := by
  refine wpl_store hg x y e ho hS g 0 t cur cs hx hy hB hl (by omega) h1 ?_
  simp only [hd, Act.put]
  refine h _ ((Chg.refl w _).setRow _ _ (fun _ => rfl)) ?_ (by simp)
  have hb := hB.set (layA cur 0 cs)
  rw [layA_all (by omega)] at hb ⊢
  exact hb
end

theorem Chg.put {w w2 w3 : World} {T : Nat → Prop} {g : Nat} (h : Chg w w2 T) (h3 : Chg w2 w3 (fun j => j = g)) (hg : w.heap.size ≤ g) : Chg w w3 T :=
  h.trans h3 (fun k hk e => absurd hk (Nat.not_lt.2 (Nat.le_trans hg (Nat.le_of_eq (show k = g from e).symm))))

theorem Own.one {w : World} {base g k : Nat} {e : TypeId} {cs : List Value} (hb : Blk w g e cs.toArray) (hB : base ≤ g) (hl : cs.length = k) : Own w base e k (.slice (some ⟨g, 0, none⟩) 1 1) [cs] :=
  ⟨⟨by simp [hl], .inr ⟨g, 1, cs.toArray, rfl, hB, hb, Nat.le_refl _, by decide, by simp [hl], by simp [← hl]⟩⟩, by simp [hl]⟩
section
variable {P : Program} {t e : TypeId} {k bytes : Nat} {zs : List Value}
/-- One put behind: what buildSlice made. -/
theorem ElT.appOne (hE : ElT P t e k bytes zs) {B : Nat} {W : World} {v : Value} {css : List (List Value)} (ho : Own W B e k v css) (hB : B ≤ W.heap.size) (cs : List Value) (hk : cs.length = k) (h1 : ∀ u ∈ cs, u.oneCell' = true)
    (hb : (css.length + 1) * bytes ≤ 140737488355328) (hb2 : css.length + 1 ≤ maxLen) (ty : TypeId) (g : Nat) (hg : W.heap.size = g) :
    ∃ v' W', (Builtin.append_ #[t, t] ty #[v, .slice (some ⟨g, 0, none⟩) 1 1]).run P (W.alloc (.cells cs.toArray e)) = .ok v' W' ∧ (Own W' B e k v' (css ++ [cs]) ∧ Chg W W' (fun k => v.ownBlock = some k) ∧ ∀ k, v'.ownBlock = some k → v.ownBlock = some k ∨ W.heap.size ≤ k) := by
  subst hg
  have hn : New W (W.alloc (.cells cs.toArray e)) := (Chg.refl _ _).alloc _
  have hbl : Blk (W.alloc (.cells cs.toArray e)) W.heap.size e cs.toArray := Blk.new _ _ _
  obtain ⟨v', W', h1, h2, h3, h4⟩ := hE.appendS (ho.chg hn (fun _ _ x => x)) (Nat.le_trans hB hn.size) (some ⟨W.heap.size, 0, none⟩) 1 1 [cs] rfl (fun d hd => by rw [List.mem_singleton.1 hd]; exact hk) (fun d hd => by rw [List.mem_singleton.1 hd]; exact h1) (src_one hbl.at_ hk) hb hb2 ty
  exact ⟨v', W', h1, h2, (hn.mono (T' := fun k => v.ownBlock = some k) (fun _ _ x => x.elim)).trans h3 (fun _ _ x => x), fun k hk => (h4 k hk).imp id (fun h => Nat.le_trans hn.size h)⟩
end
/-- What holds, whatever is done to S. -/
def Stays (w : World) (S : Nat → Prop) (P : World → Prop) : Prop := ∀ W', Chg w W' S → P W'
theorem Stays.now {w : World} {S : Nat → Prop} {P : World → Prop} (h : Stays w S P) : P w := h w (Chg.refl _ _)
theorem Stays.chg {w w1 : World} {S T S1 : Nat → Prop} {P : World → Prop} (h : Stays w S P) (hc : Chg w w1 T) (hT : ∀ k, k < w.heap.size → T k → S k) (hS : ∀ k, k < w.heap.size → S1 k → S k) : Stays w1 S1 P :=
  fun W' hW => h W' ((hc.mono hT).trans hW hS)
section
variable {P : Program} {ops : Array Oper} {Q : Exit → Act → World → Prop} {o : Oper} {rest : List Oper} {a : Act} {w : World}
theorem cells_one {u : Value} (hu : u.oneCell' = true) : u.cells = #[u] := by
  cases u <;> first | rfl | (simp [Value.oneCell'] at hu)
theorem run_putOne {e : TypeId} (hsz : (P.info? e).map (·.size) = some 1) (g off : Nat) (t : TypeId) (cur : Array Value) (u : Value) (hB : Blk w g t cur) (hfit : off < cur.size) (hu : u.oneCell' = true) :
    (storeVar e ⟨g, off, none⟩ u).run P w = .ok () (w.setRow g (layA cur off [u])) := by
  have hst := run_storeCells_at P g off t [u] 0 cur w hB (by simp; omega) (fun v hv => by rw [List.mem_singleton.1 hv]; exact hu)
  simp only [Nat.add_zero] at hst
  cases hq : P.info? e with
  | none => simp [hq] at hsz
  | some i =>
    have hs : i.size = 1 := by simpa [hq] using hsz
    simp [storeVar, sizeOf, typeInfo, hq, cells_one hu, hs, hst, layA, lay]
/-- One cell of a block is written. -/
theorem wpl_put (hg : o.guard = none) (x y : Operand) (e : TypeId) (ho : o.op = .store e x y) (hd : o.dst = none) (hsz : (P.info? e).map (·.size) = some 1) (g off : Nat) (t : TypeId) (cur : Array Value) (u : Value) (cs' : Array Value) (hx : a.eval x = .pointer (some ⟨g, off, none⟩)) (hy : a.eval y = u)
    (hB : Blk w g t cur) (hfit : off < cur.size) (hu : u.oneCell' = true) (hcs : layA cur off [u] = cs')
    (h : ∀ w2, Chg w w2 (fun j => j = g) → Blk w2 g t cs' → w2.heap.size = w.heap.size → wpList P ops Q rest a w2) : wpList P ops Q (o :: rest) a w := by
  refine wpList_plain hg fun K hK => ?_
  have hrun := run_putOne (P := P) hsz g off t cur u hB hfit hu
  unfold Oper.wp execOp
  simp only [ho, hx, hy, Instr.storeAt, Instr.sureAddr, Sem.run_bind, Sem.run_pure, Result.andThen_ok, hrun]
  refine hK _ _ ?_
  simp only [hd, Act.put]
  refine h _ ((Chg.refl w _).setRow _ _ (fun _ => rfl)) ?_ (by simp)
  rw [← hcs]
  exact hB.set _
end

theorem len_cons {α : Type} {l : List α} {n : Nat} (h : l.length = n + 1) : ∃ x t, l = x :: t ∧ t.length = n := by
  cases l with
  | nil => cases h
  | cons x t => exact ⟨x, t, rfl, Nat.succ.inj h⟩
end Go.Proofs.Ytffmalagochakaa
