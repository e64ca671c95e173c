/- The search's state, plain; ranges over a map that may be nil. -/
import Derived.Test.YtffmalagochakaaGra3
import Derived.Test.YtffmalagochakaaGraT
set_option linter.unusedVariables false
set_option linter.unusedSimpArgs false
namespace Go.Proofs.Ytffmalagochakaa
open Go.RowKit Go.Shelf

/-- A measure that hangs on what no slot holds. -/
noncomputable def least (p : Nat → Prop) : Nat := by
  classical
  exact if h : ∃ n, p n ∧ ∀ m, p m → n ≤ m then Classical.choose h else 0
theorem least_ex {p : Nat → Prop} : (∃ n, p n) → ∃ n, p n ∧ ∀ m, p m → n ≤ m := by
  rintro ⟨n, hn⟩
  induction n using Nat.strongRecOn with
  | _ n ih =>
    by_cases h : ∃ m, m < n ∧ p m
    · obtain ⟨m, h1, h2⟩ := h
      exact ih m h1 h2
    · exact ⟨n, hn, fun m hm => Nat.le_of_not_lt fun hl => h ⟨m, hl, hm⟩⟩
theorem least_spec {p : Nat → Prop} (h : ∃ n, p n) : p (least p) := by
  unfold least
  rw [dif_pos (least_ex h)]
  exact (Classical.choose_spec (least_ex h)).1
theorem least_le {p : Nat → Prop} {m : Nat} (h : p m) : least p ≤ m := by
  unfold least
  rw [dif_pos (least_ex ⟨m, h⟩)]
  exact (Classical.choose_spec (least_ex ⟨m, h⟩)).2 m h

theorem IRng.chg {w w' : World} {b r n : Nat} {f : ByteArray → Option Int} {left : ByteArray → Bool} {cnt : Nat} {S : Nat → Prop} (h : IRng w b r n f left cnt) (hc : Chg w w' S) (hb : ¬ S b) (hr : ¬ S r) : IRng w' b r n f left cnt := by
  obtain ⟨D, lf, ⟨es, clock, since, seen, c0, h1, h2, h3, h4, h5, h6⟩, h7⟩ := h
  exact ⟨D, lf, ⟨es, clock, since, seen, c0, (hc.block b (lt_of_heap h1) hb).trans h1, h2, h3, h4, (hc.block r (lt_of_heap h5) hr).trans h5, h6⟩, h7⟩
theorem IRng.cnt_le {w : World} {b r n : Nat} {f : ByteArray → Option Int} {left : ByteArray → Bool} {cnt : Nat} (h : IRng w b r n f left cnt) : cnt ≤ n := by
  obtain ⟨D, lf, ⟨es, clock, since, seen, c0, h1, h2, h3, h4, h5, h6, h7, h8⟩, h9⟩ := h
  rw [← h7]
  refine Nat.le_trans ?_ h3
  unfold leftOf
  exact Array.size_filter_le
/-- A map that may be nil, a range over it. -/
def IMapO (w : World) (ob : Option Nat) (n : Nat) (f : ByteArray → Option Int) : Prop := match ob with
  | some b => IMap w b n f
  | none => f = fun _ => none
def IRngO (w : World) (ob : Option Nat) (r n : Nat) (f : ByteArray → Option Int) (left : ByteArray → Bool) (cnt : Nat) : Prop := match ob with
  | some b => IRng w b r n f left cnt
  | none => w.heap[r]? = some (.mapIter none 0 #[] 0) ∧ (f = fun _ => none) ∧ (∀ s, left s = false) ∧ cnt = 0
theorem IRngO.chg {w w' : World} {ob : Option Nat} {r n : Nat} {f : ByteArray → Option Int} {left : ByteArray → Bool} {cnt : Nat} {S : Nat → Prop} (h : IRngO w ob r n f left cnt) (hc : Chg w w' S) (hb : ∀ b, ob = some b → ¬ S b) (hr : ¬ S r) : IRngO w' ob r n f left cnt := by
  cases ob with
  | none => exact ⟨(hc.block r (lt_of_heap h.1) hr).trans h.1, h.2⟩
  | some b => exact IRng.chg h hc (hb b rfl) hr
theorem IRngO.cnt_le {w : World} {ob : Option Nat} {r n : Nat} {f : ByteArray → Option Int} {left : ByteArray → Bool} {cnt : Nat} (h : IRngO w ob r n f left cnt) : cnt ≤ n := by
  cases ob with
  | none => rw [h.2.2.2]; exact Nat.zero_le _
  | some b => exact IRng.cnt_le h
theorem IRngO.ne {w : World} {ob : Option Nat} {r n : Nat} {f : ByteArray → Option Int} {left : ByteArray → Bool} {cnt : Nat} (h : IRngO w ob r n f left cnt) {B : Nat} {e : TypeId} {k : Nat} {v : Value} {css : List (List Value)} (hq : QAt w B e k v css) : (∀ b, ob = some b → v.ownBlock ≠ some b) ∧ v.ownBlock ≠ some r := by
  obtain ⟨g, o, cap, cur, rfl, _, hb, _⟩ := hq
  refine ⟨fun b hob e => ?_, fun e => ?_⟩
  · cases e
    subst hob
    obtain ⟨D, lf, ⟨es, clock, since, seen, c0, h1, _⟩, _⟩ := h
    rw [show w.heap[g]? = _ from hb] at h1
    cases h1
  · cases e
    cases ob with
    | none =>
      have := h.1
      rw [show w.heap[g]? = _ from hb] at this
      cases this
    | some b =>
      obtain ⟨D, lf, ⟨es, clock, since, seen, c0, h1, h2, h3, h4, h5, _⟩, _⟩ := h
      rw [show w.heap[g]? = _ from hb] at h5
      cases h5
theorem IMap.ne {w : World} {b n : Nat} {f : ByteArray → Option Int} (h : IMap w b n f) {B : Nat} {e : TypeId} {k : Nat} {v : Value} {css : List (List Value)} (hq : QAt w B e k v css) : v.ownBlock ≠ some b := by
  obtain ⟨g, o, cap, cur, rfl, _, hb, _⟩ := hq
  intro e
  cases e
  obtain ⟨D, ⟨es, cl, h1, _⟩, _⟩ := h
  rw [show w.heap[g]? = _ from hb] at h1
  cases h1
theorem IRngO.ne_map {w : World} {ob : Option Nat} {r n : Nat} {f : ByteArray → Option Int} {left : ByteArray → Bool} {cnt : Nat} (h : IRngO w ob r n f left cnt) {b m : Nat} {f' : ByteArray → Option Int} (hm : IMap w b m f') : b ≠ r := by
  intro e
  subst e
  obtain ⟨D, ⟨es, cl, h1, _⟩, _⟩ := hm
  cases ob with
  | none =>
    have := h.1
    rw [h1] at this
    cases this
  | some b =>
    obtain ⟨D, lf, ⟨es, clock, since, seen, c0, h2, h3, h4, h5, h6, _⟩, _⟩ := h
    rw [h1] at h6
    cases h6
section
variable {ops : Array Oper} {Q : Exit → Act → World → Prop} {o : Oper} {rest : List Oper} {a : Act} {w : World}
theorem wpl_rangeO {ob : Option Nat} {n : Nat} {f : ByteArray → Option Int} (hg : o.guard = none) (m : Operand) (hop : o.op = Op.range 53 m) (hm : a.eval m = .map ob) (h : IMapO w ob n f)
    (hK : ∀ w' cnt, IRngO w' ob w.heap.size n f (fun s => (f s).isSome) cnt → New w w' → wpList Try.prog ops Q rest (a.put o.dst (.pointer (some ⟨w.heap.size, 0, none⟩))) w') : wpList Try.prog ops Q (o :: rest) a w := by
  cases ob with
  | some b => exact wpl_range hg m hop hm h hK
  | none =>
    refine wpList_plain hg fun K' hK' => ?_
    have hrun := run_range_nilMap (P := Try.prog) w 53 9 3 Try.underlying53
    unfold Oper.wp
    simp [execOp, hop, hm, hrun, Result.andThen]
    obtain rfl : f = fun _ => none := h
    exact hK' _ _ (hK (w.alloc (.mapIter none 0 #[] 0)) 0 ⟨heap_alloc_new _ _, rfl, fun s => rfl, rfl⟩ ((Chg.refl _ _).alloc _))
theorem wpl_nextO {ob : Option Nat} {r n : Nat} {f : ByteArray → Option Int} {left : ByteArray → Bool} {cnt : Nat} (hg : o.guard = none) (it : Operand) (hop : o.op = Op.next it false) (hit : a.eval it = .pointer (some ⟨r, 0, none⟩)) (h : IRngO w ob r n f left cnt)
    (hDone : (∀ s : ByteArray, s.size ≤ maxLen → left s = false) → wpList Try.prog ops Q rest (a.put o.dst (.tuple #[.bool false])) w)
    (hMore : ∀ (s : ByteArray) (c : Int) (w' : World) (cnt' : Nat), s.size ≤ maxLen → left s = true → f s = some c → IRngO w' ob r n f (fun t => left t && decide (t ≠ s)) cnt' → cnt' < cnt → Chg w w' (fun k => k = r) → w'.heap.size = w.heap.size →
      (Instr.entry (.pointer (some ⟨r, 0, none⟩))).run Try.prog w' = .ok (.tuple #[.string s, .int .i64 c]) w' → wpList Try.prog ops Q rest (a.put o.dst (.tuple #[.bool true, .string s, .int .i64 c])) w') : wpList Try.prog ops Q (o :: rest) a w := by
  cases ob with
  | some b => exact wpl_next hg it hop hit h hDone hMore
  | none =>
    refine wpList_plain hg fun K' hK' => ?_
    obtain ⟨h1, h2, h3, h4⟩ := h
    have hrun : ∀ ty, (Instr.next (.pointer (some ⟨r, 0, none⟩)) false ty).run Try.prog w = .ok (.tuple #[.bool false]) w := fun ty => by
      simp only [Instr.next, getObj, Sem.run_bind, Sem.run, h1, Result.andThen]
      rfl
    unfold Oper.wp
    simp [execOp, hop, hit, hrun, Result.andThen]
    exact hK' _ _ (hDone (fun s _ => h3 s))
end

theorem IRngO.step {w : World} {ob : Option Nat} {r n : Nat} {f : ByteArray → Option Int} {left : ByteArray → Bool} {cnt : Nat} (h : IRngO w ob r n f left cnt) (ty : TypeId) :
    ((∀ s : ByteArray, s.size ≤ maxLen → left s = false) ∧ (Instr.next (.pointer (some ⟨r, 0, none⟩)) false ty).run Try.prog w = .ok (.tuple #[.bool false]) w) ∨
    ∃ (s : ByteArray) (c : Int) (w' : World) (cnt' : Nat), s.size ≤ maxLen ∧ left s = true ∧ f s = some c ∧ (Instr.next (.pointer (some ⟨r, 0, none⟩)) false ty).run Try.prog w = .ok (.tuple #[.bool true, .string s, .int .i64 c]) w' ∧
      IRngO w' ob r n f (fun t => left t && decide (t ≠ s)) cnt' ∧ cnt' < cnt ∧ Chg w w' (fun k => k = r) ∧ (Instr.entry (.pointer (some ⟨r, 0, none⟩))).run Try.prog w' = .ok (.tuple #[.string s, .int .i64 c]) w' := by
  cases ob with
  | none =>
    obtain ⟨h1, h2, h3, h4⟩ := h
    refine .inl ⟨fun s _ => h3 s, ?_⟩
    simp only [Instr.next, getObj, Sem.run_bind, Sem.run, h1, Result.andThen]
    rfl
  | some b =>
    obtain ⟨D, lf, hr, hl, hf⟩ := h
    rcases hr.next (Maps.string_keyed Try.underlying9) ty with ⟨_, h0, hrun⟩ | ⟨key, v, kl, y, w', cnt', hk, hlk, hv, hat, hrun, hrg, hlt, hgr, hsz, hen⟩
    · exact .inl ⟨fun s hs => by rw [← hl s hs]; exact h0 _, hrun⟩
    · obtain ⟨x, rfl, hs, rfl⟩ := keyStr hk
      obtain ⟨c, rfl, hy, _⟩ := plainElem_int_inv Try.underlying3 hv
      obtain ⟨h1, h2⟩ := hf x hs
      have hh := Maps.has_true_of_atKey hat
      rw [h1] at hh
      obtain ⟨c0, hc0⟩ := Option.isSome_iff_exists.1 hh
      have h3 := h2 c0 hc0 .nil
      rw [hat .nil, hy] at h3
      have : c0 = c := by
        injection h3 with e
        injection e with e1 e2
        exact e2.symm
      subst this
      refine .inr ⟨x, c0, w', cnt', hs, by rw [← hl x hs]; exact hlk, hc0, hrun, ⟨D, _, hrg, fun t ht => ?_, hf⟩, hlt, (Chg.of_grown hgr).mono fun k _ hk => Option.some.inj hk, hen⟩
      show (lf _ && !Lit.sameKey _ _) = _
      rw [hl t ht]
      congr 1
      show (!(t.data.toList == x.data.toList)) = decide (t ≠ x)
      by_cases hts : t = x
      · subst hts; simp
      · have : t.data.toList ≠ x.data.toList := fun e => hts (ByteArray.ext (Array.toList_inj.1 e))
        rw [decide_eq_true (show t ≠ x from hts), beq_eq_false_iff_ne.2 this]
        rfl

/-- How many are not done. -/
def und (V : List ByteArray) (f : ByteArray → Option Int) : Nat := (V.filter (fun v => (f v).isNone)).length
theorem und_le (V : List ByteArray) (f : ByteArray → Option Int) : und V f ≤ V.length := List.length_filter_le _ _
theorem und_upd {V : List ByteArray} {f : ByteArray → Option Int} {x : ByteArray} (c : Int) (hx : x ∈ V) (hf : f x = none) : und V (updF f x c) + 1 ≤ und V f := by
  unfold und updF
  induction V with
  | nil => cases hx
  | cons v V ih =>
    have hle : ∀ V : List ByteArray, (V.filter (fun v => (if v = x then some c else f v).isNone)).length ≤ (V.filter (fun v => (f v).isNone)).length := by
      intro V
      induction V with
      | nil => exact Nat.le_refl _
      | cons y V ih2 =>
        rw [List.filter_cons, List.filter_cons]
        by_cases hy : y = x
        · rw [if_neg (by simp [hy]), hy, hf, Option.isNone_none, if_pos rfl, List.length_cons]
          omega
        · simp only [hy, if_false]
          split
          · rw [List.length_cons, List.length_cons]; omega
          · exact ih2
    rw [List.filter_cons, List.filter_cons]
    by_cases hv : v = x
    · rw [if_neg (by simp [hv]), hv, hf, Option.isNone_none, if_pos rfl, List.length_cons]
      have := hle V
      omega
    · simp only [hv, if_false]
      have := ih (by
        rcases List.mem_cons.1 hx with h | h
        · exact absurd h.symm hv
        · exact h)
      split
      · rw [List.length_cons, List.length_cons]; omega
      · exact this
/-- A table whose names and costs are such as there are. -/
structure TOk (T : Tb) (V : List ByteArray) : Prop where
  tgt : ∀ u v c, T u v = some c → v ∈ V
  size : ∀ u v c, T u v = some c → v.size ≤ maxLen
  lo : ∀ u v c, T u v = some c → 1 ≤ c
  hi : ∀ u v c, T u v = some c → c ≤ 2147483647
def pushQ (x : QE) (p : QE) : QE := (p.1, x.2 + p.2)
/-- The search at the head of its loop. -/
def FarQ (T : Tb) (V : List ByteArray) (n : Nat) (a : ByteArray) (M m : Nat) (q : List QE) (f : ByteArray → Option Int) : Bool → Prop
  | true => q = [(a, 0)] ∧ (f = fun _ => none) ∧ m = M
  | false => Far (TR T) a f q ∧ und V f * (n + 1) + q.length ≤ m ∧ m ≤ M
def CostOk (M m : Nat) (q : List QE) : Prop := ∀ p ∈ q, p.1.size ≤ maxLen ∧ 0 ≤ p.2 ∧ p.2 ≤ ((M - m : Nat) : Int) * 2147483648
theorem CostOk.next {T : Tb} {V : List ByteArray} (hT : TOk T V) {M m m' : Nat} {q q' : List QE} {x : QE} {ps : List QE} (h : CostOk M m q) (hq : ∀ p, p ∈ q ↔ p = x ∨ p ∈ q') (hps : ∀ p ∈ ps, T x.1 p.1 = some p.2) (hm : m' < m) (hM : m ≤ M) : CostOk M m' (q' ++ ps.map (pushQ x)) := by
  have hle : ((M - m : Nat) : Int) * 2147483648 + 2147483648 ≤ ((M - m' : Nat) : Int) * 2147483648 := by omega
  intro p hp
  rcases List.mem_append.1 hp with hp | hp
  · obtain ⟨h1, h2, h3⟩ := h p ((hq p).2 (.inr hp))
    exact ⟨h1, h2, by omega⟩
  · obtain ⟨y, hy, rfl⟩ := List.mem_map.1 hp
    obtain ⟨h1, h2, h3⟩ := h x ((hq x).2 (.inl rfl))
    have h4 := hps y hy
    have := hT.lo _ _ _ h4
    have := hT.hi _ _ _ h4
    exact ⟨hT.size _ _ _ h4, by show 0 ≤ x.2 + y.2; omega, by show x.2 + y.2 ≤ _; omega⟩
theorem FarQ.old {T : Tb} {V : List ByteArray} {n : Nat} {a : ByteArray} {M m : Nat} {q q' : List QE} {f : ByteArray → Option Int} {x : QE} (h : FarQ T V n a M m q f false) (hq : ∀ p, p ∈ q ↔ p = x ∨ p ∈ q') (hl : q'.length + 1 = q.length) {d : Int} (hd : f x.1 = some d) : FarQ T V n a M (m - 1) q' f false ∧ 0 < m := by
  obtain ⟨h1, h2, h3⟩ := h
  exact ⟨⟨h1.old hd hq, by omega, by omega⟩, by omega⟩
theorem FarQ.new {T : Tb} {V : List ByteArray} (hT : TOk T V) {n : Nat} {a : ByteArray} {M m : Nat} {q q' : List QE} {f : ByteArray → Option Int} {x : QE} {ps : List QE} (h : FarQ T V n a M m q f false) (hq : ∀ p, p ∈ q ↔ p = x ∨ p ∈ q') (hmin : ∀ p ∈ q, x.2 ≤ p.2) (hl : q'.length + 1 = q.length) (hf : f x.1 = none)
    (hps : ∀ p ∈ ps, T x.1 p.1 = some p.2) (hall : ∀ s c, T x.1 s = some c → (s, c) ∈ ps) (hpl : ps.length ≤ n) : FarQ T V n a M (m - 1) (q' ++ ps.map (pushQ x)) (updF f x.1 x.2) false ∧ 0 < m := by
  obtain ⟨h1, h2, h3⟩ := h
  have hin : x ∈ q := (hq x).2 (.inl rfl)
  have hV : x.1 ∈ V := by
    rcases (h1.walk x hin).last with h4 | ⟨v, d1, c, _, h4, _⟩
    · exact hT.tgt _ _ _ h4
    · exact hT.tgt _ _ _ h4
  have hu := und_upd x.2 hV hf
  have hmul : und V (updF f x.1 x.2) * (n + 1) + (n + 1) ≤ und V f * (n + 1) := by
    have := Nat.mul_le_mul_right (n + 1) hu
    rw [Nat.add_mul, Nat.one_mul] at this
    exact this
  refine ⟨⟨h1.new (c := x.2) (x := x.1) (fun u v c h => hT.lo u v c h) hf hmin hin (fun v => rfl) (fun p hp hne => ?_) (fun t e ht => ?_) (fun p hp => ?_), ?_, by omega⟩, by omega⟩
  · rcases (hq p).1 hp with h4 | h4
    · exact absurd h4 hne
    · exact List.mem_append_left _ h4
  · exact List.mem_append_right _ (List.mem_map.2 ⟨(t, e), hall t e ht, rfl⟩)
  · rcases List.mem_append.1 hp with h4 | h4
    · exact .inl ((hq p).2 (.inr h4))
    · obtain ⟨y, hy, rfl⟩ := List.mem_map.1 h4
      exact .inr ⟨y.1, y.2, hps y hy, rfl⟩
  · rw [List.length_append, List.length_map]
    omega
theorem FarQ.start {T : Tb} {V : List ByteArray} {n : Nat} {a : ByteArray} {M m : Nat} {q q' : List QE} {f : ByteArray → Option Int} {x : QE} {ps : List QE} (h : FarQ T V n a M m q f true) (hq : ∀ p, p ∈ q ↔ p = x ∨ p ∈ q') (hl : q'.length + 1 = q.length) (hM : M = (V.length + 1) * (n + 1))
    (hps : ∀ p ∈ ps, T x.1 p.1 = some p.2) (hall : ∀ s c, T x.1 s = some c → (s, c) ∈ ps) (hpl : ps.length ≤ n) : FarQ T V n a M (m - 1) (q' ++ ps.map (pushQ x)) f false ∧ 0 < m := by
  obtain ⟨rfl, rfl, rfl⟩ := h
  obtain rfl : q' = [] := List.eq_nil_of_length_eq_zero (by simpa using hl)
  obtain rfl : x = (a, 0) := by simpa using (hq x).2 (.inl rfl)
  have hpp : ps.map (pushQ (a, 0)) = ps := by
    refine (List.map_congr_left (g := id) fun p _ => ?_).trans (List.map_id _)
    show (p.1, 0 + p.2) = p
    rw [Int.zero_add]
  rw [hpp, List.nil_append]
  have hu := Nat.mul_le_mul_right (n + 1) (und_le V (fun _ => none))
  rw [hM, Nat.add_mul, Nat.one_mul]
  exact ⟨⟨Far.begin hall hps, by omega, by omega⟩, by omega⟩
theorem QAt.headF {w : World} {B : Nat} {e : TypeId} {k g o n cap : Nat} {css : List (List Value)} {cs : List Value} (h : QAt w B e k (.slice (some ⟨g, o, none⟩) n cap) (cs :: css)) : n = css.length + 1 ∧ css.length + 1 ≤ cap ∧ cap ≤ maxLen ∧ B ≤ g ∧ g < w.heap.size ∧ At w ⟨g, o, none⟩ cs ∧ QAt w B e k (.slice (if cap = 1 then some ⟨g, o, none⟩ else some ⟨g, o + k, none⟩) (n - 1) (cap - 1)) css := by
  obtain ⟨g', o', cap', h0, h1, h2, h3, h4, h5, h6⟩ := h.head
  simp only [Value.slice.injEq, Option.some.injEq, Addr.mk.injEq, and_true] at h0
  obtain ⟨⟨rfl, rfl⟩, rfl, rfl⟩ := h0
  refine ⟨rfl, h1, h2, h3, h4, h5, ?_⟩
  rw [Nat.add_sub_cancel]
  by_cases hc : cap = 1
  · rw [if_pos hc] at h6 ⊢
    exact h6
  · rw [if_neg hc] at h6 ⊢
    exact h6
theorem QAt.formF {w : World} {B : Nat} {e : TypeId} {k : Nat} {v : Value} {css : List (List Value)} (h : QAt w B e k v css) : ∃ g o cap, v = .slice (some ⟨g, o, none⟩) css.length cap := by
  obtain ⟨g, o, cap, cur, h, _⟩ := h
  exact ⟨g, o, cap, h⟩
theorem stReached : StT Try.prog 59 2 := ⟨⟨_, Try.underlying59⟩, by kernel_rfl⟩
theorem elReached : ElT Try.prog 60 59 2 24 (Value.cells (.agg #[.string ⟨#[]⟩, .int .i64 0])).toList :=
  ElT.mk' (by kernel_rfl) (by kernel_rfl) rfl (by omega) (by intro u hu; simp only [Value.cells, List.mem_cons, List.not_mem_nil, or_false] at hu; rcases hu with rfl | rfl <;> rfl)
theorem q_one (x : QE) : ∀ u ∈ qC x, u.oneCell' = true := by
  intro u hu
  simp only [qC, List.mem_cons, List.not_mem_nil, or_false] at hu
  rcases hu with rfl | rfl <;> rfl
end Go.Proofs.Ytffmalagochakaa
