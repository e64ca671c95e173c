/- A stretch's end, the state written out by what was put. -/
import Derived.Test.YtenkobgeflckdaaWd
set_option linter.unusedVariables false
set_option linter.unusedSimpArgs false
namespace Go.Proofs.Ytenkobgeflckdaa
open Go.RowKit

def putsL : List (Nat × Value) → Act → Act
  | [], a => a
  | p :: l, a => putsL l (a.put (some p.1) p.2)
theorem putsL_size : ∀ (l : List (Nat × Value)) (a : Act), (putsL l a).tmps.size = a.tmps.size
  | [], _ => rfl
  | p :: l, a => by rw [putsL, putsL_size l, put_size]
theorem putsL_defers : ∀ (l : List (Nat × Value)) (a : Act), (putsL l a).defers = a.defers
  | [], _ => rfl
  | p :: l, a => by rw [putsL, putsL_defers l, put_defers']
theorem putsL_not : ∀ (l : List (Nat × Value)) (a : Act) (t : Nat), t ∉ l.map (·.1) → slot (putsL l a) t = slot a t
  | [], _, _, _ => rfl
  | p :: l, a, t, h => by
    simp only [List.map_cons, List.mem_cons, not_or] at h
    rw [putsL, putsL_not l _ t h.2, slot_put_ne (fun e => h.1 (Option.some.inj e).symm)]
theorem putsL_in : ∀ (l : List (Nat × Value)) (a : Act) (d : Nat) (v : Value), (l.map (·.1)).Nodup → (d, v) ∈ l → d < a.tmps.size → slot (putsL l a) d = v
  | [], _, _, _, _, h, _ => by cases h
  | p :: l, a, d, v, hn, h, hd => by
    simp only [List.map_cons, List.nodup_cons] at hn
    rcases List.mem_cons.1 h with h | h
    · subst h
      rw [putsL, putsL_not l _ d hn.1, slot_put_same hd]
    · rw [putsL]
      exact putsL_in l _ d v hn.2 h (by rw [put_size]; exact hd)
theorem act_ext {A B : Act} (h1 : A.defers = B.defers) (h2 : A.tmps.size = B.tmps.size) (h : ∀ t, slot A t = slot B t) : A = B := by
  rw [act_eta A _ _ rfl h1, act_eta B B.tmps.size _ rfl rfl, h2]
  congr 2
  exact List.map_congr_left fun t _ => h t

def dsB (ops : Array Oper) (n m : Nat) (ds : List Nat) : Bool := decide (ds.length = m - n) && decide ds.Nodup && (List.range (m - n)).all fun j => dstOf ops (n + j) == ds[j]?
theorem dsB_at {ops : Array Oper} {n m : Nat} {ds : List Nat} (h : dsB ops n m ds = true) {i : Nat} (hn : n ≤ i) (hi : i < m) : ∃ d, dstOf ops i = some d ∧ ds[i - n]? = some d := by
  simp only [dsB, Bool.and_eq_true, decide_eq_true_eq, List.all_eq_true, List.mem_range, beq_iff_eq] at h
  have h1 := h.2 (i - n) (by omega)
  rw [show n + (i - n) = i by omega] at h1
  have h2 : ds[i - n]? = some (ds[i - n]'(by omega)) := List.getElem?_eq_getElem _
  exact ⟨_, h1.trans h2, h2⟩

section
variable {P : Program} {ops : Array Oper} {Q : Exit → Act → World → Prop} {a : Act} {w : World}

theorem puts_eq {n m : Nat} {ds : List Nat} (hds : dsB ops n m ds = true) (hd : sDstB ops n m a.tmps.size = true) {A : Act} {l : List (Nat × Value)} (hl : l.map (·.1) = ds) (h1 : A.defers = a.defers) (h2 : A.tmps.size = a.tmps.size)
    (h3 : ∀ i d, sOutB ops n m i d = true → ∀ v, l[i - n]? = some (d, v) → slot A d = v) (h4 : ∀ t, sOldB ops n m t = true → slot A t = slot a t) : A = putsL l a := by
  have hds' := hds
  simp only [dsB, Bool.and_eq_true, decide_eq_true_eq, List.all_eq_true, List.mem_range, beq_iff_eq] at hds'
  obtain ⟨⟨hlen, hnd⟩, _⟩ := hds'
  refine act_ext (by rw [putsL_defers, h1]) (by rw [putsL_size, h2]) fun t => ?_
  by_cases ht : t ∈ ds
  · obtain ⟨j, hj, he⟩ := List.getElem_of_mem ht
    have hll : l.length = m - n := by rw [← hlen, ← hl, List.length_map]
    have hjl : l[j]? = some (l[j]'(by omega)) := List.getElem?_eq_getElem _
    have hfst : (l[j]'(by omega)).1 = t := by
      have h7 : (l.map (·.1))[j]? = some t := by rw [hl, List.getElem?_eq_getElem hj, he]
      rw [List.getElem?_map, hjl] at h7
      exact Option.some.inj h7
    have hpair : l[j]'(by omega) = (t, (l[j]'(by omega)).2) := by rw [← hfst]
    obtain ⟨d, hd1, hd2⟩ := dsB_at hds (i := n + j) (by omega) (by omega)
    rw [show n + j - n = j by omega, List.getElem?_eq_getElem hj, he] at hd2
    obtain rfl := Option.some.inj hd2
    have hout := h3 (n + j) t (by simp [sOutB, hd1]; omega) (l[j]'(by omega)).2 (by rw [show n + j - n = j by omega, hjl, ← hpair])
    rw [hout]
    symm
    have hsz : t < a.tmps.size := by
      simp only [sDstB, List.all_eq_true, List.mem_range, Bool.or_eq_true, decide_eq_true_eq] at hd
      have := (hd (n + j) (by omega)).resolve_left (by omega)
      rw [hd1] at this
      simpa using this
    refine putsL_in l a t _ (by rw [hl]; exact hnd) ?_ hsz
    rw [← hpair]
    exact List.getElem_mem _
  · rw [putsL_not l a t (by rw [hl]; exact ht)]
    refine h4 t ?_
    simp only [sOldB, List.all_eq_true, List.mem_range, Bool.or_eq_true, decide_eq_true_eq, bne_iff_ne]
    intro j hj
    by_cases hjn : j < n
    · exact .inl hjn
    · refine .inr fun he => ht ?_
      obtain ⟨d, hd1, hd2⟩ := dsB_at hds (i := j) (by omega) hj
      rw [he] at hd1
      obtain rfl := Option.some.inj hd1
      exact List.mem_of_getElem? hd2

theorem AtN.segV2 (n m μ : Nat) (vs : Nat → Value) (l : List (Nat × Value)) (J : Bool → World → Prop) (hh : segB ops n m = true) (hwn : wantB ops n m a.tmps = true) (hd : sDstB ops n m a.tmps.size = true) (hds : dsB ops n m (l.map (·.1)) = true) (hl : l.map (·.2) = (List.range (m - n)).map fun j => vs (n + j)) (h0 : J false w)
    (hstep : ∀ i, n ≤ i → i < m → ∀ o, ops[i]? = some o → ∀ (A : Act) (W : World) (b : Bool), J b W → (i = μ → b = false) → (∀ j d, sInB ops n m i j d = true → A.tmps[d]?.getD undef = vs j) →
      (∀ t, sKeptB ops n m i t = true → A.tmps[t]?.getD undef = slot a t) → Gives P o A.eval W fun v W' => J (b || i == μ) W' ∧ v = vs i)
    (htail : ∀ (W : World), J (decide (n ≤ μ) && decide (μ < m)) W → AtN P ops Q m (putsL l a) W) : AtN P ops Q n a w := by
  refine AtN.segV n m μ vs J hh hwn hd h0 hstep (fun A W hJ h1 h2 h3 h4 => ?_)
  rw [puts_eq hds hd rfl h1 h2 (fun i d hid v hv => ?_) h4]
  · exact htail W hJ
  · rw [h3 i d hid]
    simp only [sOutB, Bool.and_eq_true, decide_eq_true_eq, beq_iff_eq] at hid
    have h5 : (l.map (·.2))[i - n]? = some v := by rw [List.getElem?_map, hv]; rfl
    rw [hl, List.getElem?_map, List.getElem?_range (by omega)] at h5
    have h6 : vs (n + (i - n)) = v := Option.some.inj h5
    rw [← h6, show n + (i - n) = i by omega]

theorem AtN.segQ2 (n m : Nat) (vs : Nat → Value) (l : List (Nat × Value)) (hh : segB ops n m = true) (hwn : wantB ops n m a.tmps = true) (hd : sDstB ops n m a.tmps.size = true) (hds : dsB ops n m (l.map (·.1)) = true) (hl : l.map (·.2) = (List.range (m - n)).map fun j => vs (n + j))
    (hstep : ∀ i, n ≤ i → i < m → ∀ o, ops[i]? = some o → ∀ (A : Act), (∀ j d, sInB ops n m i j d = true → A.tmps[d]?.getD undef = vs j) →
      (∀ t, sKeptB ops n m i t = true → A.tmps[t]?.getD undef = slot a t) → (execOp A.eval o).run P w = .ok (.value (vs i)) w)
    (htail : AtN P ops Q m (putsL l a) w) : AtN P ops Q n a w := by
  refine AtN.segV2 n m m vs l (fun _ W => W = w) hh hwn hd hds hl rfl (fun i hn hi o ho A W b hJ _ hin hk => ?_) (fun W hJ => ?_)
  · subst hJ
    exact .inl ⟨_, _, hstep i hn hi o ho A hin hk, rfl, rfl⟩
  · subst hJ
    exact htail

theorem AtN.segS2 (n m : Nat) (l : List (Nat × Value)) (hh : segB ops n m = true) (hwn : (List.range m).all (fun i => decide (i < n) || match ops[i]? with | some o => !Region.wanted o (yielded ops a.tmps) | none => true) = true) (hd : sDstB ops n m a.tmps.size = true) (hds : dsB ops n m (l.map (·.1)) = true) (hl : l.map (·.2) = (List.range (m - n)).map fun _ => undef)
    (htail : AtN P ops Q m (putsL l a) w) : AtN P ops Q n a w := by
  refine AtN.seg' n m m (fun _ v _ => v = undef) (fun _ W => W = w) hh (fun i o hn hi ho h => ⟨by omega, fun _ => rfl⟩) hd rfl (fun i hn hi o ho hw0 A W b hJ _ hin hk => ?_) (fun A W hJ h1 h2 h3 h4 => ?_)
  · exfalso
    simp only [List.all_eq_true, List.mem_range, Bool.or_eq_true, decide_eq_true_eq] at hwn
    have h0 := (hwn i hi).resolve_left (by omega)
    rw [ho] at h0
    simp only [hw0] at h0
    cases h0
  · subst hJ
    rw [puts_eq hds hd rfl h1 h2 (fun i d hid v hv => ?_) h4]
    · exact htail
    · rw [h3 i d hid]
      simp only [sOutB, Bool.and_eq_true, decide_eq_true_eq, beq_iff_eq] at hid
      have h5 : (l.map (·.2))[i - n]? = some v := by rw [List.getElem?_map, hv]; rfl
      rw [hl, List.getElem?_map, List.getElem?_range (by omega)] at h5
      exact Option.some.inj h5

theorem AtN.segN2 (n m : Nat) (ds : List Nat) (Φ : Nat → Value → World → Prop) (hh : segB ops n m = true) (hwn : wantB ops n m a.tmps = true) (hd : sDstB ops n m a.tmps.size = true) (hds : dsB ops n m ds = true) (hst : ∀ i v w1 w2, New w1 w2 → Φ i v w1 → Φ i v w2)
    (hstep : ∀ i, n ≤ i → i < m → ∀ o, ops[i]? = some o → ∀ (A : Act) (W : World), New w W → (∀ j d, sInB ops n m i j d = true → Φ j (A.tmps[d]?.getD undef) W) →
      (∀ t, sKeptB ops n m i t = true → A.tmps[t]?.getD undef = slot a t) → Gives P o A.eval W fun v W' => New W W' ∧ Φ i v W')
    (htail : ∀ (l : List Value) (W : World), New w W → l.length = m - n → (∀ j, j < m - n → Φ (n + j) (l.getD j undef) W) → AtN P ops Q m (putsL (ds.zip l) a) W) : AtN P ops Q n a w := by
  refine AtN.segN n m Φ hh hwn hd hst hstep (fun A W hN h1 h2 h3 h4 => ?_)
  have hds' := hds
  simp only [dsB, Bool.and_eq_true, decide_eq_true_eq] at hds'
  obtain ⟨⟨hlen, hnd⟩, _⟩ := hds'
  have hz : (ds.zip (ds.map (slot A))).map (·.1) = ds := List.map_fst_zip (by simp)
  rw [puts_eq (l := ds.zip (ds.map (slot A))) hds hd hz h1 h2 (fun i d hid v hv => ?_) h4]
  · refine htail _ W hN (by simpa using hlen) (fun j hj => ?_)
    obtain ⟨d, hd1, hd2⟩ := dsB_at hds (i := n + j) (by omega) (by omega)
    rw [show n + j - n = j by omega] at hd2
    have := h3 (n + j) d (by simp [sOutB, hd1]; omega)
    rw [List.getD_eq_getElem?_getD, List.getElem?_map, hd2]
    exact this
  · rw [List.getElem?_zip_eq_some] at hv
    obtain ⟨e1, e2⟩ := hv
    rw [List.getElem?_map, e1] at e2
    exact Option.some.inj e2
end
theorem wpq_loadg {P : Program} {ops : Array Oper} {Q : Act → Prop} {o : Oper} {rest : List Oper} {a : Act} {w : World} {k : Nat} (hw : Region.wanted o (yielded ops a.tmps) = true) (x : Operand) (e : TypeId) (ho : o.op = .load e x) (hS : StT P e k) (ad : Addr) (cs : List Value) (hx : a.eval x = .pointer (some ad)) (hl : cs.length = k) (hc : At w ad cs)
    (h : wpQuiet P ops (fun w' => ∃ n, w' = w.drewN n) Q rest (a.put o.dst (.agg cs.toArray))) : wpQuiet P ops (fun w' => ∃ n, w' = w.drewN n) Q (o :: rest) a := by
  unfold wpQuiet
  rw [if_pos hw]
  refine ⟨_, ?_, h⟩
  rintro W ⟨n, rfl⟩
  have hrun := run_loadK (P := P) hS ad cs hl (hc.drewN' n)
  unfold Oper.quietAt execOp
  simp only [ho, hx, Instr.loadAt, Instr.sureAddr, Sem.run_bind, Sem.run_pure, Result.andThen_ok, hrun]
  exact ⟨rfl, rfl⟩
theorem wpq_valg {P : Program} {ops : Array Oper} {Q : Act → Prop} {o : Oper} {rest : List Oper} {a : Act} {w : World} (hw : Region.wanted o (yielded ops a.tmps) = true) (v : Value) (hr : ∀ n, (execOp a.eval o).run P (w.drewN n) = .ok (.value v) (w.drewN n))
    (h : wpQuiet P ops (fun w' => ∃ n, w' = w.drewN n) Q rest (a.put o.dst v)) : wpQuiet P ops (fun w' => ∃ n, w' = w.drewN n) Q (o :: rest) a := by
  unfold wpQuiet
  rw [if_pos hw]
  refine ⟨v, ?_, h⟩
  rintro W ⟨n, rfl⟩
  unfold Oper.quietAt
  rw [hr]
  exact ⟨rfl, rfl⟩
theorem exec_append {P : Program} {o : Oper} {ρ : Operand → Value} {w w' : World} {v x y : Value} (s u : Operand) (t1 t2 : TypeId) (ho : o.op = .call { callee := .builtin .append, args := #[s, u], argTypes := #[t1, t2] }) (hs : ρ s = x) (hu : ρ u = y)
    (hrun : (Builtin.append_ #[t1, t2] o.type #[x, y]).run P w = .ok v w') : (execOp ρ o).run P w = .ok (.value v) w' := by
  unfold execOp
  simp only [ho, resolve, invoke, builtin, Sem.run_bind, Sem.run_pure, Result.andThen_ok, List.map_toArray, List.map_cons, List.map_nil, hs, hu, hrun]
end Go.Proofs.Ytenkobgeflckdaa
