/- What a rule's body does: plain; states and literals in memory; a map by names. -/
import Derived.Test.YtenkobgeflckdabMch
import Derived.Test.YtenkobgeflckdabLif
import Derived.Test.YtenkobgeflckdabTst
set_option linter.unusedVariables false
set_option linter.unusedSimpArgs false
namespace Go.Proofs.Ytenkobgeflckdab
open Go.RowKit Go.Shelf

/-- On the way: what is bound, the stamp. -/
abbrev Sta := Env × Int
inductive Lt where
  | atom (neg : Bool) (name : ByteArray) (args : List Tm)
  | test (j : Nat) (a b : Tm)
  | assign (name : ByteArray) (t : Tm)
def Lt.args : Lt → List Tm
  | .atom _ _ ts => ts
  | .test _ a b => [a, b]
  | .assign _ t => [t]
def Lt.kind : Lt → Int
  | .atom false _ _ => 1
  | .atom true _ _ => 2
  | .test _ _ _ => 3
  | .assign _ _ => 4
def Lt.name : Lt → ByteArray
  | .atom _ s _ => s
  | .test j _ _ => opT j
  | .assign s _ => s
def Lt.size (L : Lt) : Nat := L.args.length
def okLt (L : Lt) : Prop := ∀ t ∈ L.args, okTm t
def minI (a b : Int) : Int := if a ≤ b then a else b

def named (rows : List Rw) (s : ByteArray) : List Rw := rows.filter (fun r => decide (r.name = s))
def atomS (ts : List Tm) (s : Sta) (r : Rw) : Option Sta := (matchV ts r.args s.1).map (fun e => (e, minI s.2 r.stamp))
def atomsV (rows : List Rw) (nm : ByteArray) (ts : List Tm) (s : Sta) : List Sta := (named rows nm).filterMap (atomS ts s)
def goesV (rows : List Rw) (L : Lt) (s : Sta) : Option Sta := match L with
  | .atom _ nm ts => if (atomsV rows nm ts s).isEmpty then some s else none
  | .test j a b => match evalT s.1 a, evalT s.1 b with
    | some x, some y => if testV j x y then some s else none
    | _, _ => none
  | .assign nm t => match evalT s.1 t with
    | some x => if (lookE s.1 nm).isSome then none else some (s.1 ++ [(nm, x)], s.2)
    | none => none
def nextV (rows : List Rw) (L : Lt) (s : Sta) : List Sta := match L with
  | .atom false nm ts => atomsV rows nm ts s
  | L => (goesV rows L s).toList
def waysV (rows : List Rw) : List Lt → Sta → List Sta
  | [], s => [s]
  | L :: Ls, s => (nextV rows L s).flatMap (waysV rows Ls)
def okSta (s : Sta) : Prop := okEnv s.1 ∧ -9223372036854775808 ≤ s.2 ∧ s.2 ≤ 9223372036854775807

/-- A state as a value: its block is not among S. -/
def StAt (x : Sta) (v : Value) (S : Nat → Prop) (W : World) : Prop := ∃ A c, v = .agg #[.slice A x.1.length c, .int .i64 x.2] ∧ x.1.length ≤ c ∧ c ≤ maxLen ∧ SrcAt W A 5 (x.1.map bcs) ∧ ∀ a, A = some a → a.block < W.heap.size ∧ ¬ S a.block
theorem StAt.less {x : Sta} {v : Value} {S S2 : Nat → Prop} {W : World} (h : StAt x v S W) (hs : ∀ k, S2 k → S k) : StAt x v S2 W := by
  obtain ⟨A, c, h1, h2, h3, h4, h5⟩ := h
  exact ⟨A, c, h1, h2, h3, h4, fun a ha => ⟨(h5 a ha).1, fun h => (h5 a ha).2 (hs _ h)⟩⟩
theorem StAt.chg {x : Sta} {v : Value} {S S2 : Nat → Prop} {W W' : World} (h : StAt x v S W) (hc : Chg W W' S) (hs : ∀ k, S2 k → S k ∨ W.heap.size ≤ k) : StAt x v S2 W' := by
  obtain ⟨A, c, h1, h2, h3, h4, h5⟩ := h
  refine ⟨A, c, h1, h2, h3, h4.chg hc (fun a ha => (h5 a ha).2), fun a ha => ⟨Nat.lt_of_lt_of_le (h5 a ha).1 hc.size, fun h => ?_⟩⟩
  rcases hs _ h with h | h
  · exact (h5 a ha).2 h
  · have := (h5 a ha).1; omega
theorem StAt.new {x : Sta} {v : Value} {S : Nat → Prop} {W W' : World} (h : StAt x v S W) (hc : New W W') : StAt x v S W' := by
  obtain ⟨A, c, h1, h2, h3, h4, h5⟩ := h
  exact ⟨A, c, h1, h2, h3, h4.chg hc (fun a ha => id), fun a ha => ⟨Nat.lt_of_lt_of_le (h5 a ha).1 hc.size, (h5 a ha).2⟩⟩
theorem StAt.cells {x : Sta} {v : Value} {S : Nat → Prop} {W : World} (h : StAt x v S W) : ∃ A c, v = .agg #[.slice A x.1.length c, .int .i64 x.2] := by
  obtain ⟨A, c, h1, _⟩ := h
  exact ⟨A, c, h1⟩

/-- A literal's cells. -/
def LtAt (w : World) (cs : List Value) (L : Lt) : Prop := ∃ A c css, cs = [.int .i64 L.kind, .string L.name, .slice A L.args.length c] ∧ TmsAt w A css L.args
theorem LtAt.chg {w w' : World} {cs : List Value} {L : Lt} (h : LtAt w cs L) (hc : New w w') : LtAt w' cs L := by
  obtain ⟨A, c, css, h1, h2⟩ := h
  exact ⟨A, c, css, h1, h2.chg hc⟩

/-- A map from names. -/
def MapAt (w : World) (b : Nat) (m : List (ByteArray × Value)) : Prop := ∃ es clock, w.heap[b]? = some (.map es clock) ∧ es.toList.map (fun e => (e.key, e.val)) = m.map (fun p => (Value.string p.1, p.2))
theorem MapAt.chg {w w' : World} {b : Nat} {m : List (ByteArray × Value)} {T : Nat → Prop} (h : MapAt w b m) (hc : Chg w w' T) (hn : ¬ T b) : MapAt w' b m := by
  obtain ⟨es, cl, h1, h2⟩ := h
  exact ⟨es, cl, (hc.block b (lt_of_heap h1) hn).trans h1, h2⟩
def lookM (m : List (ByteArray × Value)) (s : ByteArray) : Value := match m.find? (fun p => decide (p.1 = s)) with
  | some p => p.2
  | none => .slice none 0 0
theorem beqB (a b : ByteArray) : (a == b) = decide (a = b) := by
  by_cases h : a = b
  · subst h; rw [decide_eq_true rfl]; show (a.data == a.data) = true; exact beq_self_eq_true _
  · rw [decide_eq_false h]; show (a.data == b.data) = false; exact beq_eq_false_iff_ne.2 (fun e => h (ByteArray.ext e))
theorem find_now (s : ByteArray) : ∀ (es : List MapEntry) (m : List (ByteArray × Value)) (i : Nat), es.map (fun e => (e.key, e.val)) = m.map (fun p => (Value.string p.1, p.2)) →
    ∃ r, Instr.findNow .string (.string s) es i = some r ∧ (∀ p, m.find? (fun p => decide (p.1 = s)) = some p → ∃ j, r = some (j, p.2)) ∧ (m.find? (fun p => decide (p.1 = s)) = none → r = none)
  | [], [], i, h => ⟨none, rfl, fun p h => (by cases h), fun _ => rfl⟩
  | [], p :: m, i, h => by cases h
  | e :: es, [], i, h => by cases h
  | e :: es, p :: m, i, h => by
    simp only [List.map_cons, List.cons.injEq, Prod.mk.injEq] at h
    obtain ⟨⟨hk, hv⟩, ht⟩ := h
    obtain ⟨r, h1, h2, h3⟩ := find_now s es m (i + 1) ht
    unfold Instr.findNow
    rw [hk]
    simp only [Instr.sameNow]
    by_cases hs : p.1 = s
    · rw [show (s == p.1) = true by rw [beqB, hs]; exact decide_eq_true rfl]
      refine ⟨some (i, e.val), rfl, fun q hq => ?_, fun hq => ?_⟩
      · rw [List.find?_cons_of_pos (by simpa using hs)] at hq
        cases hq
        exact ⟨i, by rw [hv]⟩
      · rw [List.find?_cons_of_pos (by simpa using hs)] at hq
        cases hq
    · rw [show (s == p.1) = false by rw [beqB]; exact decide_eq_false (fun h => hs h.symm)]
      refine ⟨r, h1, fun q hq => ?_, fun hq => ?_⟩
      · rw [List.find?_cons_of_neg (by simpa using hs)] at hq
        exact h2 q hq
      · rw [List.find?_cons_of_neg (by simpa using hs)] at hq
        exact h3 hq
theorem run_lookM {w : World} {b : Nat} {m : List (ByteArray × Value)} (h : MapAt w b m) (s : ByteArray) : (Instr.lookup 69 (.map (some b)) (.string s) false).run Try.prog w = .ok (lookM m s) w := by
  obtain ⟨es, cl, hb, hm⟩ := h
  obtain ⟨r, h1, h2, h3⟩ := find_now s es.toList m 0 hm
  have hz : (zeroValue 24).run Try.prog w = .ok (.slice none 0 0) w := by
    have hi : (Try.prog.info? 24).map (fun i => i.zero) = some (some (.slice none 0 0)) := by kernel_rfl
    cases hq : Try.prog.info? 24 with
    | none => rw [hq] at hi; cases hi
    | some i =>
      rw [hq] at hi
      have hi' : i.zero = some (.slice none 0 0) := Option.some.inj hi
      simp [zeroValue, typeInfo, hq, hi']
  have ht := Try.underlying69
  have hk := Try.underlying9
  generalize Try.prog = P at ht hk hz ⊢
  have hck : ∀ e, (Instr.checkKey e 10000 9 (.string s)).run P w = .ok () w := fun e => by
    rw [show (10000 : Nat) = 9999 + 1 from rfl]
    unfold Instr.checkKey
    simp [underlying, hk]
  have hgo : (getObj b).run P w = .ok (.map es cl) w := by simp [getObj, Sem.run, hb]
  unfold Instr.lookup
  cases hf : m.find? (fun p => decide (p.1 = s)) with
  | none =>
    obtain rfl := h3 hf
    simp [underlying, ht, hk, hck, hgo, Instr.findKey, h1, hb, lookM, hf, hz]
  | some p =>
    obtain ⟨j, rfl⟩ := h2 p hf
    simp [underlying, ht, hk, hck, hgo, Instr.findKey, h1, hb, lookM, hf]
theorem zero_of {P : Program} {e : TypeId} {z : Value} {k : Nat} (h : (P.info? e).map (fun i => i.zero) = some (some z)) (hk : z.cells.size = k) : ∃ i z, P.info? e = some i ∧ i.zero = some z ∧ z.cells.size = k := by
  cases hi : P.info? e with
  | none => rw [hi] at h; cases h
  | some i =>
    rw [hi] at h
    exact ⟨i, z, rfl, Option.some.inj h, hk⟩
theorem stSta : StT Try.prog 75 2 := ⟨⟨_, Try.underlying75⟩, by kernel_rfl⟩
theorem zSta : ∃ i z, Try.prog.info? 75 = some i ∧ i.zero = some z ∧ z.cells.size = 2 := zero_of (z := .agg #[.slice none 0 0, .int .i64 0]) (by kernel_rfl) rfl
theorem stLit : StT Try.prog 40 3 := ⟨⟨_, Try.underlying40⟩, by kernel_rfl⟩
theorem zLit : ∃ i z, Try.prog.info? 40 = some i ∧ i.zero = some z ∧ z.cells.size = 3 := zero_of (z := .agg #[.int .i64 0, .string ⟨#[]⟩, .slice none 0 0]) (by kernel_rfl) rfl
theorem zRow : ∃ i z, Try.prog.info? 30 = some i ∧ i.zero = some z ∧ z.cells.size = 3 := zero_of (z := .agg #[.string ⟨#[]⟩, .slice none 0 0, .int .i64 0]) (by kernel_rfl) rfl
theorem sta_one (A : Option Addr) (n c : Nat) (i : Int) : ∀ u ∈ [Value.slice A n c, .int .i64 i], u.oneCell' = true := by
  intro u hu
  simp only [List.mem_cons, List.not_mem_nil, or_false] at hu
  rcases hu with rfl | rfl <;> rfl
theorem two_one {a b : Value} (ha : a.oneCell' = true) (hb : b.oneCell' = true) : ∀ u ∈ [a, b], u.oneCell' = true := by
  intro u hu
  simp only [List.mem_cons, List.not_mem_nil, or_false] at hu
  rcases hu with rfl | rfl
  · exact ha
  · exact hb
theorem filterMap_at {α β : Type} {f : α → Option β} {l : List α} {k : Nat} {r : α} {x : β} (hr : l[k]? = some r) (hx : f r = some x) : l.filterMap f = (l.take k).filterMap f ++ x :: (l.drop (k + 1)).filterMap f := by
  obtain ⟨hlt, he⟩ := List.getElem?_eq_some_iff.1 hr
  have h : l = l.take k ++ r :: l.drop (k + 1) := by
    rw [← he, List.getElem_cons_drop, List.take_append_drop]
  conv => lhs; rw [h]
  rw [List.filterMap_append, List.filterMap_cons_some hx]
theorem filterMap_take_some {α β : Type} {f : α → Option β} {l : List α} {k : Nat} {r : α} {x : β} (hr : l[k]? = some r) (hx : f r = some x) : (l.take (k + 1)).filterMap f = (l.take k).filterMap f ++ [x] := by
  rw [take_succ_get hr, List.filterMap_append, List.filterMap_cons_some hx]
  rfl
theorem filterMap_take_none {α β : Type} {f : α → Option β} {l : List α} {k : Nat} {r : α} (hr : l[k]? = some r) (hx : f r = none) : (l.take (k + 1)).filterMap f = (l.take k).filterMap f := by
  rw [take_succ_get hr, List.filterMap_append, List.filterMap_cons_none hx]
  simp
/-- The consumer steps on. -/
theorem Stp.then {α : Type} {J' : List α → (Nat → Prop) → World → Prop} {ys : List α} {S S1 : Nat → Prop} {W W1 W2 W3 : World} (hc : Chg W W1 S) (hs : ∀ k, S1 k → S k ∨ W.heap.size ≤ k) (hn : New W1 W2) (h : Stp J' ys S1 W2 W3) : Stp J' ys S W W3 :=
  Stp.trans (hc.trans hn (fun _ _ h => h.elim)) hs h
/-- What goes leaves. -/
def GoesPost (W : World) (S : Nat → Prop) (o : Option Sta) (e : Ending) (W' : World) : Prop :=
  New W W' ∧ ((o = none ∧ ∃ a b, a.oneCell' = true ∧ b.oneCell' = true ∧ e = .returned (.tuple #[.agg #[a, b], .bool false])) ∨ ∃ x v, o = some x ∧ e = .returned (.tuple #[v, .bool true]) ∧ StAt x v S W')
end Go.Proofs.Ytenkobgeflckdab
