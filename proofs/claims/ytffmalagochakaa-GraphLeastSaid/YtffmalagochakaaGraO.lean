/- The table of graphs: a map of maps, in memory. -/
import Derived.Test.YtffmalagochakaaGraM
import Derived.Test.YtffmalagochakaaGraP
import Derived.Test.YtffmalagochakaaGen
set_option linter.unusedVariables false
set_option linter.unusedSimpArgs false
namespace Go.Proofs.Ytffmalagochakaa
open Go.RowKit Go.Shelf

/-- A map's value read as its block's number. -/
def rB (v : Value) : Option (D1 × List MemPlace) := match v with
  | .map (some b) => some (.lit (.int .i64 (b : Int)), [])
  | .map none => some (.lit (.int .i64 (-1)), [])
  | _ => none
theorem rB_inv {v : Value} {c : Int} {ps : List MemPlace} (h : rB v = some (.lit (.int .i64 c), ps)) : (c = -1 ∧ v = .map none) ∨ ∃ b : Nat, c = b ∧ v = .map (some b) := by
  unfold rB at h
  split at h
  · rename_i b
    simp only [Option.some.injEq, Prod.mk.injEq, DataW.lit.injEq, Lit.int.injEq, true_and] at h
    exact .inr ⟨b, h.1.symm, rfl⟩
  · simp only [Option.some.injEq, Prod.mk.injEq, DataW.lit.injEq, Lit.int.injEq, true_and] at h
    exact .inl ⟨h.1.symm, rfl⟩
  · cases h
def OMap (w : World) (b n : Nat) (g : ByteArray → Option Nat) : Prop := ∃ D : D1, w.ownsMap Try.prog 9 rB b n D ∧ ∀ s : ByteArray, s.size ≤ maxLen → Maps.has D (.string s.data.toList) = (g s).isSome ∧ ∀ c, g s = some c → ∀ zd, D.atKey (.string s.data.toList) zd = .lit (.int .i64 (c : Int))
theorem OMap.made (w : World) : OMap (w.alloc (.map #[] 0)) w.heap.size 0 (fun _ => none) := ⟨.map [], World.ownsMap_made w _ _ _, fun s _ => ⟨rfl, fun c h => by cases h⟩⟩
theorem OMap.chg {w w' : World} {b n : Nat} {g : ByteArray → Option Nat} {T : Nat → Prop} (h : OMap w b n g) (hc : Chg w w' T) (hn : ¬ T b) : OMap w' b n g := by
  obtain ⟨D, ⟨es, cl, h1, h2⟩, h3⟩ := h
  exact ⟨D, ⟨es, cl, (hc.block b (lt_of_heap h1) hn).trans h1, h2⟩, h3⟩
theorem OMap.lt {w : World} {b n : Nat} {g : ByteArray → Option Nat} (h : OMap w b n g) : b < w.heap.size := by
  obtain ⟨D, h1, _⟩ := h
  exact h1.lt
def updG (g : ByteArray → Option Nat) (s : ByteArray) (c : Nat) : ByteArray → Option Nat := fun t => if t = s then some c else g t
theorem OMap.put {w : World} {b n : Nat} {g : ByteArray → Option Nat} (h : OMap w b n g) (hn : n < maxLen) (s : ByteArray) (hs : s.size ≤ maxLen) (c : Nat) :
    ∃ w', (Instr.mapUpdate 45 (.map (some b)) (.string s) (.map (some c))).run Try.prog w = .ok () w' ∧ OMap w' b (n + 1) (updG g s c) ∧ Chg w w' (fun k => k = b) := by
  obtain ⟨D, hD, hf⟩ := h
  obtain ⟨w', hrun, ho, hg⟩ := hD.update (Maps.string_keyed Try.underlying9) Try.underlying45 hn (kS hs) (show rB (.map (some c)) = some (.lit (.int .i64 (c : Int)), []) from rfl)
  have hm : Maps.IsMap D := by
    obtain ⟨es, cl, _, _, _, rfl⟩ := hD
    exact ⟨_, rfl⟩
  refine ⟨w', hrun, ⟨_, ho, fun t ht => ?_⟩, (Chg.of_grown hg).mono fun k _ hk => Option.some.inj hk⟩
  unfold updG
  by_cases hts : t = s
  · subst hts
    simp only [if_true]
    exact ⟨Maps.has_put_same hm (by trivial) _, fun c' hc zd => by cases hc; exact Maps.atKey_put_same hm (by trivial) _ _⟩
  · rw [if_neg hts]
    obtain ⟨h2, h3⟩ := hf t ht
    exact ⟨by rw [Maps.has_put_other (lit_ne hts)]; exact h2, fun c' hc zd => by rw [Maps.atKey_put_other (lit_ne hts)]; exact h3 c' hc zd⟩
theorem OMap.look {w : World} {b n : Nat} {g : ByteArray → Option Nat} (h : OMap w b n g) (s : ByteArray) (hs : s.size ≤ maxLen) :
    (Instr.lookup 45 (.map (some b)) (.string s) false).run Try.prog w = .ok (.map (g s)) w := by
  obtain ⟨D, hD, hf⟩ := h
  have hz : (zeroValue 53).run Try.prog w = .ok (.map none) w := rfl
  obtain ⟨v, ps, hrun, hv⟩ := hD.lookup (Maps.string_keyed Try.underlying9) Try.underlying45 hz (show rB (.map none) = some (.lit (.int .i64 (-1)), []) from rfl) (kS hs)
  obtain ⟨h1, h2⟩ := hf s hs
  rw [hrun]
  cases hfs : g s with
  | none =>
    rw [hfs] at h1
    rw [Maps.atKey_of_not_has h1] at hv
    rcases rB_inv hv with ⟨_, rfl⟩ | ⟨b', e, _⟩
    · rfl
    · omega
  | some c =>
    rw [h2 c hfs] at hv
    rcases rB_inv hv with ⟨e, _⟩ | ⟨b', e, rfl⟩
    · omega
    · have : c = b' := by omega
      rw [this]
/-- A map that is nil. -/
theorem look_nil (w : World) (s : ByteArray) : (Instr.lookup 53 (.map none) (.string s) true).run Try.prog w = .ok (.tuple #[.int .i64 0, .bool false]) w := by
  have ht := Try.underlying53
  have hk := Try.underlying9
  have hz : (zeroValue 3).run Try.prog w = .ok (.int .i64 0) w := rfl
  generalize Try.prog = P at ht hk hz ⊢
  have hck : ∀ e, (Instr.checkKey e 10000 9 (.string s)).run P w = .ok () w := fun e => by
    rw [show (10000 : Nat) = 9999 + 1 from rfl]
    unfold Instr.checkKey
    simp [underlying, hk]
  unfold Instr.lookup
  simp [underlying, ht, hk, hck, hz, Instr.findKey, Instr.findNow]
/-- The table. -/
structure TabG (w : World) (B b n : Nat) (T : Tb) (g : ByteArray → Option Nat) : Prop where
  base : B ≤ b
  om : OMap w b n g
  inn : ∀ s k, g s = some k → k ≠ b ∧ B ≤ k ∧ IMap w k n (T s)
  non : ∀ s, g s = none → T s = fun _ => none
  inj : ∀ s t k, g s = some k → g t = some k → s = t
def TabAt (w : World) (B b n : Nat) (T : Tb) : Prop := ∃ g, TabG w B b n T g
theorem IMap.mono {w : World} {b n m : Nat} {f : ByteArray → Option Int} (h : IMap w b n f) (hm : n ≤ m) : IMap w b m f := by
  obtain ⟨D, ⟨es, cl, h1, h2, h3, h4⟩, h5⟩ := h
  exact ⟨D, ⟨es, cl, h1, h2, Nat.le_trans h3 hm, h4⟩, h5⟩
theorem OMap.mono {w : World} {b n m : Nat} {g : ByteArray → Option Nat} (h : OMap w b n g) (hm : n ≤ m) : OMap w b m g := by
  obtain ⟨D, ⟨es, cl, h1, h2, h3, h4⟩, h5⟩ := h
  exact ⟨D, ⟨es, cl, h1, h2, Nat.le_trans h3 hm, h4⟩, h5⟩
theorem TabG.mono {w : World} {B b n m : Nat} {T : Tb} {g : ByteArray → Option Nat} (h : TabG w B b n T g) (hm : n ≤ m) : TabG w B b m T g :=
  ⟨h.base, h.om.mono hm, fun s k hs => ⟨(h.inn s k hs).1, (h.inn s k hs).2.1, (h.inn s k hs).2.2.mono hm⟩, h.non, h.inj⟩
theorem TabG.chg {w w' : World} {B b n : Nat} {T : Tb} {g : ByteArray → Option Nat} {S : Nat → Prop} (h : TabG w B b n T g) (hc : Chg w w' S) (hn : ∀ k, k < w.heap.size → B ≤ k → ¬ S k) : TabG w' B b n T g :=
  ⟨h.base, h.om.chg hc (hn _ h.om.lt h.base), fun s k hs => by
    obtain ⟨h1, h2, h3⟩ := h.inn s k hs
    exact ⟨h1, h2, h3.chg hc (hn _ h3.lt h2)⟩, h.non, h.inj⟩
theorem TabG.made (w : World) (B : Nat) (hB : B ≤ w.heap.size) : TabG (w.alloc (.map #[] 0)) B w.heap.size 0 (fun _ _ => none) (fun _ => none) :=
  ⟨hB, OMap.made w, fun s k hs => (by cases hs), fun s _ => rfl, fun s t k hs => (by cases hs)⟩
theorem TabG.new {w : World} {B b n : Nat} {T : Tb} {g : ByteArray → Option Nat} (h : TabG w B b n T g) (hB : B ≤ w.heap.size) (hn : n < maxLen) (s : ByteArray) (hs : s.size ≤ maxLen) (hg : g s = none) :
    ∃ w', (Instr.mapUpdate 45 (.map (some b)) (.string s) (.map (some w.heap.size))).run Try.prog (w.alloc (.map #[] 0)) = .ok () w' ∧ TabG w' B b (n + 1) T (updG g s w.heap.size) ∧ Chg w w' (fun k => k = b) := by
  have hN : New w (w.alloc (.map #[] 0)) := (Chg.refl _ _).alloc _
  have h1 := h.chg hN (fun k _ _ x => x)
  obtain ⟨w', hrun, ho, hc⟩ := h1.om.put hn s hs w.heap.size
  have hb := h.om.lt
  refine ⟨w', hrun, ⟨h.base, ho, fun t k ht => ?_, fun t ht => ?_, fun t u k ht hu => ?_⟩, (hN.mono (T' := fun k => k = b) (fun _ _ x => x.elim)).trans hc (fun _ _ x => x)⟩
  · unfold updG at ht
    by_cases hts : t = s
    · rw [if_pos hts] at ht
      cases ht
      refine ⟨by omega, hB, ?_⟩
      rw [hts, h.non s hg]
      exact ((IMap.made w).chg hc (by omega)).mono (Nat.zero_le _)
    · rw [if_neg hts] at ht
      obtain ⟨h2, h3, h4⟩ := h1.inn t k ht
      exact ⟨h2, h3, (h4.chg hc h2).mono (Nat.le_succ _)⟩
  · unfold updG at ht
    by_cases hts : t = s
    · rw [if_pos hts] at ht; cases ht
    · rw [if_neg hts] at ht; exact h.non t ht
  · unfold updG at ht hu
    by_cases hts : t = s <;> by_cases hus : u = s
    · rw [hts, hus]
    · rw [if_pos hts] at ht; rw [if_neg hus] at hu
      cases ht
      exact absurd (h.inn u _ hu).2.2.lt (Nat.lt_irrefl _)
    · rw [if_neg hts] at ht; rw [if_pos hus] at hu
      cases hu
      exact absurd (h.inn t _ ht).2.2.lt (Nat.lt_irrefl _)
    · rw [if_neg hts] at ht; rw [if_neg hus] at hu; exact h.inj t u k ht hu
def updT (T : Tb) (s t : ByteArray) (c : Int) : Tb := fun u => if u = s then updF (T s) t c else T u
theorem TabG.put {w : World} {B b n : Nat} {T : Tb} {g : ByteArray → Option Nat} (h : TabG w B b n T g) (hn : n < maxLen) (s t : ByteArray) (ht : t.size ≤ maxLen) {k : Nat} (hg : g s = some k) (c : Int) (h0 : -9223372036854775808 ≤ c) (h1 : c ≤ 9223372036854775807) :
    ∃ w', (Instr.mapUpdate 53 (.map (some k)) (.string t) (.int .i64 c)).run Try.prog w = .ok () w' ∧ TabG w' B b (n + 1) (updT T s t c) g ∧ Chg w w' (fun j => j = k) := by
  obtain ⟨h2, h3, h4⟩ := h.inn s k hg
  obtain ⟨w', hrun, ho, hc⟩ := h4.put hn t ht c h0 h1
  refine ⟨w', hrun, ⟨h.base, (h.om.chg hc (fun e => h2 e.symm)).mono (Nat.le_succ _), fun u j hu => ?_, fun u hu => ?_, h.inj⟩, hc⟩
  · unfold updT
    by_cases hus : u = s
    · subst hus
      rw [hg] at hu
      cases hu
      rw [if_pos rfl]
      exact ⟨h2, h3, ho⟩
    · rw [if_neg hus]
      obtain ⟨h5, h6, h7⟩ := h.inn u j hu
      exact ⟨h5, h6, (h7.chg hc (fun e => hus (h.inj u s k (by rw [hu, e]) hg))).mono (Nat.le_succ _)⟩
  · unfold updT
    rw [if_neg (fun e => by rw [e, hg] at hu; cases hu)]
    exact h.non u hu
theorem putE_no {T : Tb} {e : Ed} (h : e.ok = false) : putE T e = T := by
  unfold putE
  rw [if_neg (by rw [h]; exact Bool.false_ne_true)]
theorem putE_put {T : Tb} {e : Ed} (h : e.ok = true) (hc : ∀ c, T e.a e.b = some c → e.c < c) : putE T e = updT T e.a e.b e.c := by
  unfold putE
  rw [if_pos h]
  funext u v
  unfold updT updF
  by_cases hu : u = e.a
  · subst hu
    by_cases hv : v = e.b
    · subst hv
      simp only [and_self, if_true]
      cases ht : T e.a e.b with
      | none => rfl
      | some c => simp only [hc c ht, if_true]
    · simp [hv]
  · simp [hu]
theorem putE_keep {T : Tb} {e : Ed} (h : e.ok = true) {c : Int} (hc : T e.a e.b = some c) (hl : ¬ e.c < c) : putE T e = T := by
  unfold putE
  rw [if_pos h]
  funext u v
  by_cases hu : u = e.a ∧ v = e.b
  · rw [if_pos hu, hc, hu.1, hu.2, hc]
    simp only [hl, if_false]
  · rw [if_neg hu]

section
variable {P : Program} {ops : Array Oper} {Q : Exit → Act → World → Prop} {o : Oper} {rest : List Oper} {a : Act} {w : World}
theorem wpl_lookup (hg : o.guard = none) (m x : Operand) (t : TypeId) (ok : Bool) (hop : o.op = Op.lookup t m x ok) (mv kv r : Value) (hm : a.eval m = mv) (hx : a.eval x = kv) (hrun : (Instr.lookup t mv kv ok).run P w = .ok r w)
    (h : wpList P ops Q rest (a.put o.dst r) w) : wpList P ops Q (o :: rest) a w := by
  refine wpList_plain hg fun K hK => ?_
  unfold Oper.wp
  simp only [execOp, hop, hm, hx, Sem.run_bind, hrun, Result.andThen_ok, Sem.run_pure]
  exact hK _ _ h
theorem wpl_mapup (hg : o.guard = none) (m x y : Operand) (t : TypeId) (hop : o.op = Op.mapUpdate t m x y) (mv kv yv : Value) (hm : a.eval m = mv) (hx : a.eval x = kv) (hy : a.eval y = yv) {w' : World} (hrun : (Instr.mapUpdate t mv kv yv).run P w = .ok () w')
    (hd : o.dst = none) (h : wpList P ops Q rest a w') : wpList P ops Q (o :: rest) a w := by
  refine wpList_plain hg fun K hK => ?_
  unfold Oper.wp
  simp only [execOp, hop, hm, hx, hy, Sem.run_bind, hrun, Result.andThen_ok, Sem.run_pure]
  refine hK _ _ ?_
  rw [hd]
  exact h
end
/-- A slice of edges. -/
def EdAt (w : World) (v : Value) (E : List Ed) : Prop := ∃ A c, v = .slice A E.length c ∧ E.length ≤ c ∧ c ≤ maxLen ∧ SrcAt w A 3 (E.map (fun e => [.string e.a, .string e.b, .int .i64 e.c])) ∧ ∀ a, A = some a → a.block < w.heap.size
/-- Its strings and numbers are such as there are. -/
def Ed.Fit (e : Ed) : Prop := e.a.size ≤ maxLen ∧ e.b.size ≤ maxLen ∧ -9223372036854775808 ≤ e.c ∧ e.c ≤ 9223372036854775807
theorem EdAt.chg {w w' : World} {v : Value} {E : List Ed} {S : Nat → Prop} (h : EdAt w v E) (hc : Chg w w' S) (hn : ∀ g, v.ownBlock = some g → ¬ S g) : EdAt w' v E := by
  obtain ⟨A, c, rfl, h1, h2, h3, h4⟩ := h
  exact ⟨A, c, rfl, h1, h2, h3.chg hc (fun a ha => hn a.block (by rw [ha]; rfl)), fun a ha => Nat.lt_of_lt_of_le (h4 a ha) hc.size⟩
end Go.Proofs.Ytffmalagochakaa
