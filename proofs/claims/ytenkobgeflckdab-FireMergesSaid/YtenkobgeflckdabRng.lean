/- A range over a function, by a law of one's own over the kit's: the iterator's contract names the blocks that the consumer may write. No program is named here. -/
import Derived.Test.YtenkobgeflckdabWa
import Derived.RangeFuncNested
import Derived.RangeFuncLeaves
set_option linter.unusedSimpArgs false
set_option linter.unusedVariables false
namespace Go.Proofs.Ytenkobgeflckdab
open Go.RowKit

/-- States of a consumer: what has come, the blocks that it may write, the world. It abides whatever writes blocks from n on that are not its own. -/
structure Acc {α : Type} (n : Nat) (J : List α → (Nat → Prop) → World → Prop) : Prop where
  lt : ∀ {pre S W}, J pre S W → ∀ k, S k → k < W.heap.size
  chg : ∀ {pre S W W'}, J pre S W → Chg W W' (fun k => n ≤ k ∧ ¬ S k) → J pre S W'

theorem Acc.mono {α : Type} {n n' : Nat} {J : List α → (Nat → Prop) → World → Prop} (h : Acc n J) (hn : n ≤ n') : Acc n' J :=
  ⟨h.lt, fun hj hc => h.chg hj (hc.mono fun k _ ⟨a, b⟩ => ⟨Nat.le_trans hn a, b⟩)⟩

/-- What a call of yield brings: true and J, or false and Jx. -/
def Yld (P : Program) (l : Nat) (v : Value) (W : World) (R : Bool → World → Prop) : Prop :=
  ∀ m, YieldAt Fence.wide m P l #[v] W fun e W' => ∃ b, e = .returned (.bool b) ∧ R b W'

theorem Yld.mono {P : Program} {l : Nat} {v : Value} {W : World} {R R' : Bool → World → Prop} (h : Yld P l v W R) (hr : ∀ b W', R b W' → R' b W') : Yld P l v W R' := fun m => by
  obtain ⟨fn, tmps, assign, body, hy, hR⟩ := h m
  exact ⟨fn, tmps, assign, body, hy, hR.mono fun e W' ⟨b, he, hb⟩ => ⟨b, he, hr b W' hb⟩⟩

/-- Behind a step of a consumer. -/
def Stp {α : Type} (J : List α → (Nat → Prop) → World → Prop) (xs : List α) (S : Nat → Prop) (W W' : World) : Prop :=
  ∃ S', J xs S' W' ∧ Chg W W' S ∧ ∀ k, S' k → S k ∨ W.heap.size ≤ k

/-- An iterator gives the values xs, told by enc, to whoever's blocks are S. -/
def ItGives {α : Type} (P : Program) (gf : FuncId) (lb : Array Value) (enc : α → Value → (Nat → Prop) → World → Prop) (xs : List α) (S : Nat → Prop) (w : World) (Jx : List α → (Nat → Prop) → World → Prop) : Prop :=
  ∀ (l : Nat) (J : List α → (Nat → Prop) → World → Prop) (S' : Nat → Prop) (W : World), Acc w.heap.size J → J [] S' W → Chg w W S → (∀ k, S' k → S k ∨ w.heap.size ≤ k) →
    (∀ pre x rest S1 v W1, xs = pre ++ x :: rest → J pre S1 W1 → enc x v S1 W1 →
      Yld P l v W1 fun b W2 => if b = true then Stp J (pre ++ [x]) S1 W1 W2 else Stp Jx (pre ++ [x]) S1 W1 W2) →
    CallsIn Fence.wide 0 P gf (#[.func (.yield l) #[] #[]] ++ lb) W fun e W' => (∃ v, e = .returned v) ∧ (Stp J xs S' W W' ∨ ∃ pre x rest, xs = pre ++ x :: rest ∧ Stp Jx (pre ++ [x]) S' W W')

/-- How a round may be left. -/
def rndPost {α : Type} (I : List α → (Nat → Prop) → World → Prop) (Ix : Code → List α → (Nat → Prop) → World → Prop) (xs : List α) (S : Nat → Prop) (W : World) : Exit → Act → World → Prop
  | .normal, _, W' => Stp I xs S W W'
  | .ret, _, W' => Stp (Ix .ret) xs S W W'
  | .exit id, _, W' => Stp (Ix (.exit id)) xs S W W'
  | .goto t, _, W' => Stp (Ix (.goto t)) xs S W W'
  | .panic _, _, _ => False
  | .outgrown, _, _ => False

theorem Stp.trans {α : Type} {J : List α → (Nat → Prop) → World → Prop} {ys : List α} {S S1 : Nat → Prop} {W W1 W2 : World} (hc : Chg W W1 S) (hs : ∀ k, S1 k → S k ∨ W.heap.size ≤ k) (h : Stp J ys S1 W1 W2) : Stp J ys S W W2 := by
  obtain ⟨S2, hj, hc2, hs2⟩ := h
  refine ⟨S2, hj, hc.trans hc2 (fun k hk h1 => ?_), fun k hk => ?_⟩
  · rcases hs k h1 with h | h
    · exact h
    · omega
  · rcases hs2 k hk with h | h
    · exact hs k h
    · exact .inr (Nat.le_trans hc.size h)

/-- Behind the iterator. -/
def Bck {α : Type} (J : List α → (Nat → Prop) → World → Prop) (xs : List α) (S : Nat → Prop) (l : Nat) (o : Obj) (W1 W2 : World) : Prop :=
  ∃ S', J xs S' W2 ∧ Chg W1 W2 (fun k => S k ∨ k = l) ∧ (∀ k, S' k → S k ∨ W1.heap.size ≤ k) ∧ W2.heap[l]? = some o

section core
variable {P : Program} {α : Type} {assign body : Code} {tmps : Array Value} {p : Tmp}

/-- The iterator's call, at a record that is ready. -/
theorem range_core {gf : FuncId} {lb : Array Value} {enc : α → Value → (Nat → Prop) → World → Prop} {xs : List α} {S : Nat → Prop} {w W1 : World}
    {I : List α → (Nat → Prop) → World → Prop} {Ix : Code → List α → (Nat → Prop) → World → Prop} (hI : Acc w.heap.size I) (hIx : ∀ c, Acc w.heap.size (Ix c))
    (hseq : ∀ Jx, Acc w.heap.size Jx → ItGives P gf lb enc xs S w Jx) (h0 : I [] S w) (rec : LoopState → Option Code → Loop)
    (fn : FuncId) (D : Nat) (hrec : rec = fun st pe => { state := st, pending := pe, fn, tmps := tmps, params := #[p], assign, body, defers := D }) (l : Nat) (hl0 : w.heap.size ≤ l) (hl : W1.heap[l]? = some (.loop (rec .ready none))) (hn : New w W1)
    (henc : ∀ {x v S1 S2 W}, enc x v S1 W → (∀ k, S2 k → S1 k) → enc x v S2 W)
    (hround : ∀ pre x rest S1 v W, xs = pre ++ x :: rest → l < W.heap.size → (∃ r, W.heap[l]? = some (.loop r)) → ¬ S1 l → I pre S1 W → enc x v S1 W → 
      assign.wpIn (Fence.wide.inRound l) 0 P (Exit.then (fun a1 Wa => New W Wa ∧ ∀ W2, Chg W W2 (fun k => k = l) → Chg Wa W2 (fun k => k = l) → (∃ r, W2.heap[l]? = some (.loop r)) → I pre S1 W2 →
        body.wpIn (Fence.wide.inRound l) 0 P (rndPost I Ix (pre ++ [x]) S1 W2) a1 W2) (fun _ _ _ => False)) { tmps := tmps.setIfInBounds p v, defers := [] } W) :
    CallsIn Fence.wide 0 P gf (#[.func (.yield l) #[] #[]] ++ lb) W1 fun e W2 => (∃ v, e = .returned v) ∧
      (Bck I xs S l (.loop (rec .ready none)) W1 W2 ∨ ∃ c pre x rest, xs = pre ++ x :: rest ∧ Bck (Ix c) (pre ++ [x]) S l (.loop (rec .done (some c))) W1 W2) := by
  have hSl : ∀ k, S k → k < w.heap.size := fun k hk => hI.lt h0 k hk
  have hlW : l < W1.heap.size := lt_of_heap hl
  have hJ : ∀ {I : List α → (Nat → Prop) → World → Prop} (hI : Acc w.heap.size I) (o : Obj), Acc w.heap.size (fun pre S' W => ∃ Sc, S' = (fun k => Sc k ∨ k = l) ∧ ¬ Sc l ∧ I pre Sc W ∧ W.heap[l]? = some o) := by
    intro I hI o
    constructor
    · rintro pre S' W ⟨Sc, rfl, hn, hi, ho⟩ k (hk | rfl)
      · exact hI.lt hi k hk
      · exact lt_of_heap ho
    · rintro pre S' W W' ⟨Sc, rfl, hn, hi, ho⟩ hc
      refine ⟨Sc, rfl, hn, hI.chg hi (hc.mono fun k _ ⟨a, b⟩ => ⟨a, fun h => b (.inl h)⟩), (hc.block l (lt_of_heap ho) (fun h => h.2 (.inr rfl))).trans ho⟩
  refine (hseq (fun pre S' W => ∃ c, ∃ Sc, S' = (fun k => Sc k ∨ k = l) ∧ ¬ Sc l ∧ Ix c pre Sc W ∧ W.heap[l]? = some (.loop (rec .done (some c)))) ⟨?_, ?_⟩ l
    (fun pre S' W => ∃ Sc, S' = (fun k => Sc k ∨ k = l) ∧ ¬ Sc l ∧ I pre Sc W ∧ W.heap[l]? = some (.loop (rec .ready none))) (fun k => S k ∨ k = l) W1 (hJ hI _)
    ⟨S, rfl, fun h => by have := hSl l h; omega, hI.chg h0 (hn.mono fun k _ h => h.elim), hl⟩ (hn.mono fun k _ h => h.elim) (fun k h => by rcases h with h | rfl; exact .inl h; exact .inr hl0) ?_).mono ?_
  · rintro pre S' W ⟨c, h⟩ k hk
    exact (hJ (hIx c) _).lt h k hk
  · rintro pre S' W W' ⟨c, h⟩ hc
    exact ⟨c, (hJ (hIx c) _).chg h hc⟩
  · rintro pre x rest S1 v W hxs ⟨Sc, rfl, hnl, hi, hr⟩ he m
    have hy := run_yield (P := P) (args := #[v]) hr (by rw [hrec]; rfl)
    have hlW2 := lt_of_heap hr
    refine ⟨fn, tmps.setIfInBounds p v, assign, body, ?_, ?_⟩
    · rw [hy, hrec]
      simp
    have key := hround pre x rest Sc v W hxs hlW2 ⟨_, hr⟩ hnl hi (henc he fun k hk => .inl hk)
    refine roundIn_of_wpIn (n := m) trivial ?_
    have hm : ∀ {c : Code} {Q : Exit → Act → World → Prop} {a : Act} {w : World}, c.wpIn (Fence.wide.inRound l) 0 P Q a w → c.wpIn (Fence.wide.inRound l) m P Q a w := by
      intro c Q a w h b k cs hro hb hroom
      exact h b k cs hro hb (room_wide _)
    refine hm (Go.wpIn_mono key ?_)
    intro e a1 Wa hq
    cases e with
    | normal =>
      obtain ⟨hna, hk⟩ := hq
      have hra : Wa.heap[l]? = some (.loop (rec .ready none)) := (hna.block l hlW2 (fun h => h)).trans hr
      refine ⟨_, run_beginRound hra (by rw [hrec]), ?_⟩
      have hca : Chg Wa (Wa.putObj l (.loop { rec .ready none with state := .busy })) (fun k => k = l) := (Chg.of_grown (grownBy_putObj' Wa l _)).mono fun k _ h => by cases h; rfl
      have hcw : Chg W (Wa.putObj l (.loop { rec .ready none with state := .busy })) (fun k => k = l) := (hna.mono (T' := fun k => k = l) fun k _ h => h.elim).trans hca fun k _ h => h
      have hr2 : (Wa.putObj l (.loop { rec .ready none with state := .busy })).heap[l]? = some (.loop { rec .ready none with state := .busy }) := World.putObj_heap_same (lt_of_heap hra)
      have hi2 : I pre Sc (Wa.putObj l (.loop { rec .ready none with state := .busy })) := hI.chg hi (hcw.mono fun k _ h => by subst h; exact ⟨hl0, hnl⟩)
      refine hm (Go.wpIn_mono (hk _ hcw hca ⟨_, hr2⟩ hi2) ?_)
      have hlP : l < (Wa.putObj l (.loop { rec .ready none with state := .busy })).heap.size := lt_of_heap hr2
      -- how a round ends
      have fin : ∀ {J : List α → (Nat → Prop) → World → Prop} (hA : Acc w.heap.size J) (jump : Option Code) (W3 : World), Stp J (pre ++ [x]) Sc (Wa.putObj l (.loop { rec .ready none with state := .busy })) W3 →
          (Instr.endRound l jump).run P W3 = .ok (.bool jump.isNone) (W3.putObj l (.loop (rec (if jump.isNone then .ready else .done) jump))) ∧
          Stp (fun pre S' W => ∃ Sc, S' = (fun k => Sc k ∨ k = l) ∧ ¬ Sc l ∧ J pre Sc W ∧ W.heap[l]? = some (.loop (rec (if jump.isNone then .ready else .done) jump))) (pre ++ [x]) (fun k => Sc k ∨ k = l) W (W3.putObj l (.loop (rec (if jump.isNone then .ready else .done) jump))) := by
        rintro J hA jump W3 ⟨S3, hj, hc3, hs3⟩
        have hr3 : W3.heap[l]? = some (.loop { rec .ready none with state := .busy }) := (hc3.block l hlP hnl).trans hr2
        have hn3 : ¬ S3 l := fun h => by
          rcases hs3 l h with h | h
          · exact hnl h
          · omega
        have hend := run_endRound (P := P) jump hr3
        have hc4 : Chg W3 (W3.putObj l (.loop (rec (if jump.isNone then .ready else .done) jump))) (fun k => k = l) := (Chg.of_grown (grownBy_putObj' W3 l _)).mono fun k _ h => by cases h; rfl
        refine ⟨by rw [hend, hrec], fun k => S3 k ∨ k = l, ⟨S3, rfl, hn3, hA.chg hj (hc4.mono fun k _ h => by subst h; exact ⟨hl0, hn3⟩), World.putObj_heap_same (lt_of_heap hr3)⟩, ?_, ?_⟩
        · refine ((hcw.mono (T' := fun k => Sc k ∨ k = l) fun k _ h => .inr h).trans hc3 fun k _ h => .inl h).trans hc4 fun k _ h => .inr h
        · rintro k (h | h)
          · rcases hs3 k h with h | h
            · exact .inl (.inl h)
            · exact .inr (Nat.le_trans hcw.size h)
          · exact .inl (.inr h)
      intro e a3 W3 hp
      cases e with
      | normal =>
        obtain ⟨hrun, hs⟩ := fin hI none W3 hp
        exact ⟨_, _, hrun, true, rfl, by dsimp only; rw [if_pos rfl]; exact hs⟩
      | ret =>
        obtain ⟨hrun, S3, hj, hr⟩ := fin (hIx _) (some .ret) W3 hp
        exact ⟨_, _, hrun, false, rfl, by dsimp only; rw [if_neg Bool.false_ne_true]; exact ⟨S3, ⟨_, hj⟩, hr⟩⟩
      | exit id =>
        obtain ⟨hrun, S3, hj, hr⟩ := fin (hIx _) (some (.exit id)) W3 hp
        exact ⟨_, _, hrun, false, rfl, by dsimp only; rw [if_neg Bool.false_ne_true]; exact ⟨S3, ⟨_, hj⟩, hr⟩⟩
      | goto t =>
        obtain ⟨hrun, S3, hj, hr⟩ := fin (hIx _) (some (.goto t)) W3 hp
        exact ⟨_, _, hrun, false, rfl, by dsimp only; rw [if_neg Bool.false_ne_true]; exact ⟨S3, ⟨_, hj⟩, hr⟩⟩
      | panic ch => exact hp.elim
      | outgrown => exact hp.elim
    | _ => exact hq.elim
  · rintro e W2 ⟨hv, h⟩
    refine ⟨hv, ?_⟩
    have stp : ∀ {J : List α → (Nat → Prop) → World → Prop} {ys : List α} {S2 Sc : Nat → Prop} {o : Obj}, S2 = (fun k => Sc k ∨ k = l) → J ys Sc W2 → Chg W1 W2 (fun k => S k ∨ k = l) → (∀ k, S2 k → (S k ∨ k = l) ∨ W1.heap.size ≤ k) → ¬ Sc l → W2.heap[l]? = some o → Bck J ys S l o W1 W2 := by
      intro J ys S2 Sc o e hj hc hs hnl ho
      subst e
      refine ⟨Sc, hj, hc, fun k hk => ?_, ho⟩
      rcases hs k (.inl hk) with (h | rfl) | h
      · exact .inl h
      · exact absurd hk hnl
      · exact .inr h
    rcases h with ⟨S2, ⟨Sc, he, hnl, hi, hr⟩, hc, hs⟩ | ⟨pre, x, rest, hxs, S2, ⟨c, Sc, he, hnl, hi, hr⟩, hc, hs⟩
    · exact .inl (stp he hi hc hs hnl hr)
    · exact .inr ⟨c, pre, x, rest, hxs, stp he hi hc hs hnl hr⟩

/-- The record is shut. -/
theorem Bck.shut {J : List α → (Nat → Prop) → World → Prop} {xs : List α} {S : Nat → Prop} {w W1 W2 : World} {l : Nat} {r : Loop} (hJ : Acc w.heap.size J) (hSl : ∀ k, S k → k < w.heap.size) (hl0 : w.heap.size ≤ l) (hlW : l < W1.heap.size) (hn : New w W1)
    (h : Bck J xs S l (.loop r) W1 W2) (o : Obj) : ∃ S', J xs S' (W2.putObj l o) ∧ Chg w (W2.putObj l o) S ∧ (∀ k, S' k → S k ∨ W1.heap.size ≤ k) ∧ ∀ k, k < W1.heap.size → w.heap.size ≤ k → k ≠ l → (W2.putObj l o).heap[k]? = W1.heap[k]? := by
  obtain ⟨S', hj, hc, hs, ho⟩ := h
  have hnl : ¬ S' l := fun h => by
    rcases hs l h with h | h
    · have := hSl l h; omega
    · omega
  have hc4 : Chg W2 (W2.putObj l o) (fun k => k = l) := (Chg.of_grown (grownBy_putObj' W2 l _)).mono fun k _ h => by cases h; rfl
  refine ⟨S', hJ.chg hj (hc4.mono fun k _ h => by subst h; exact ⟨hl0, hnl⟩), ?_, hs, fun k hk hk0 hne => ?_⟩
  · refine ((hn.mono (T' := S) fun k _ h => h.elim).trans hc (fun k hk h => ?_)).trans hc4 fun k hk h => ?_
    · rcases h with h | rfl
      · exact h
      · omega
    · subst h; omega
  · refine (hc4.block k (Nat.lt_of_lt_of_le hk hc.size) hne).trans (hc.block k hk ?_)
    rintro (h | h)
    · have := hSl k h; omega
    · exact hne h

/-- **An outermost range over a function.** -/
theorem wp_range {g : Operand} {Q : Exit → Act → World → Prop} {a : Act} {gf : FuncId} {lb : Array Value} {enc : α → Value → (Nat → Prop) → World → Prop} {xs : List α} {S : Nat → Prop} {w : World}
    (hg : a.eval g = .func (.func gf) #[] lb) (eg : ∀ args w, (callFunc gf args).run P w = .ok (.enter gf args) w)
    (I : List α → (Nat → Prop) → World → Prop) (Ix : Code → List α → (Nat → Prop) → World → Prop) (hI : Acc w.heap.size I) (hIx : ∀ c, Acc w.heap.size (Ix c))
    (hseq : ∀ Jx, Acc w.heap.size Jx → ItGives P gf lb enc xs S w Jx) (h0 : I [] S w)
    (henc : ∀ {x v S1 S2 W}, enc x v S1 W → (∀ k, S2 k → S1 k) → enc x v S2 W)
    (hround : ∀ l pre x rest S1 v W, xs = pre ++ x :: rest → w.heap.size ≤ l → l < W.heap.size → (∃ r, W.heap[l]? = some (.loop r)) → ¬ S1 l → I pre S1 W → enc x v S1 W → 
      assign.wpIn (Fence.wide.inRound l) 0 P (Exit.then (fun a1 Wa => New W Wa ∧ ∀ W2, Chg W W2 (fun k => k = l) → Chg Wa W2 (fun k => k = l) → (∃ r, W2.heap[l]? = some (.loop r)) → I pre S1 W2 →
        body.wpIn (Fence.wide.inRound l) 0 P (rndPost I Ix (pre ++ [x]) S1 W2) a1 W2) (fun _ _ _ => False)) { tmps := a.tmps.setIfInBounds p v, defers := [] } W)
    (hdone : ∀ D S' W, w.heap.size ≤ D → W.heap[D]? = some (.deferred (some [])) → I xs S' W → Chg w W S → (∀ k, S' k → S k ∨ w.heap.size ≤ k) → ¬ S' D → Q .normal { a with defers := { target := .collected D, args := #[] } :: a.defers } W)
    (hstop : ∀ D c pre x rest S' W, xs = pre ++ x :: rest → w.heap.size ≤ D → W.heap[D]? = some (.deferred (some [])) → Ix c (pre ++ [x]) S' W → Chg w W S → (∀ k, S' k → S k ∨ w.heap.size ≤ k) → ¬ S' D →
      c.wp P Q { a with defers := { target := .collected D, args := #[] } :: a.defers } W) :
    (Code.rangeFunc g #[p] assign body).wp P Q a w := by
  refine (wpIn_wide (n := 0)).1 ?_
  refine wpIn_rangeFunc ?_
  intro fn _
  have hSl : ∀ k, S k → k < w.heap.size := fun k hk => hI.lt h0 k hk
  obtain ⟨rec, hrec⟩ : ∃ rec : LoopState → Option Code → Loop, rec = fun st pe => { state := st, pending := pe, fn, tmps := a.tmps, params := #[p], assign, body, defers := w.heap.size } := ⟨_, rfl⟩
  obtain ⟨W1, hW1⟩ : ∃ W1, (w.alloc (.deferred (some []))).alloc (.loop (rec .ready none)) = W1 := ⟨_, rfl⟩
  have hL1 : W1.heap[w.heap.size + 1]? = some (.loop (rec .ready none)) := by
    rw [← hW1]; have := World.alloc_heap_new (w.alloc (.deferred (some []))) (.loop (rec .ready none)); rwa [World.size_alloc] at this
  have hK1 : W1.heap[w.heap.size]? = some (.deferred (some [])) := by
    rw [← hW1]; exact (Below.heap_alloc _ _ _ (by simp)).trans (World.alloc_heap_new w _)
  have hn1 : New w W1 := by rw [← hW1]; exact ((Chg.refl w _).alloc _).alloc _
  have hsz : W1.heap.size = w.heap.size + 2 := by rw [← hW1]; simp
  refine ⟨w.heap.size + 1, [{ target := .collected w.heap.size, args := #[] }], W1, { target := .fn (.func gf) lb, args := #[.func (.yield (w.heap.size + 1)) #[] #[]] }, W1, gf,
    #[.func (.yield (w.heap.size + 1)) #[] #[]] ++ lb, W1, ?_, ?_, fun _ _ => trivial, ?_, fun h => absurd h (by simp [Fence.wide, Fence.inRound]), ?_⟩
  · rw [← hW1, hrec]; exact run_enterLoop_outer _ _ _ _ _
  · simp only [resolve, hg]
    simp [go_sem]
  · simp [invoke, go_sem, eg]
  · refine (range_core hI hIx hseq h0 rec fn w.heap.size hrec (w.heap.size + 1) (by omega) hL1 hn1 henc ?_).mono ?_
    · intro pre x rest S1 v W hxs hl hlr hn hi he
      exact hround _ pre x rest S1 v W hxs (by omega) hl hlr hn hi he
    · rintro e W2 ⟨⟨v, rfl⟩, h⟩
      have tail : ∀ {J : List α → (Nat → Prop) → World → Prop} {ys : List α} {r : Loop}, Acc w.heap.size J → Bck J ys S (w.heap.size + 1) (.loop r) W1 W2 → r.state ≠ .busy →
          ∃ S' W3, (Instr.endLoop (w.heap.size + 1)).run P W2 = .ok r.pending W3 ∧ J ys S' W3 ∧ Chg w W3 S ∧ (∀ k, S' k → S k ∨ w.heap.size ≤ k) ∧ ¬ S' w.heap.size ∧ W3.heap[w.heap.size]? = some (.deferred (some [])) := by
        intro J ys r hJ hb hne
        obtain ⟨_, _, _, _, ho⟩ := id hb
        have hrun := run_endLoop (P := P) ho hne
        obtain ⟨S', hj, hc, hs, hk⟩ := hb.shut hJ hSl (by omega) (by omega) hn1 (.loop { r with state := .exhausted })
        refine ⟨S', _, hrun, hj, hc, fun k hk => ?_, fun h => ?_, (hk _ (by omega) (Nat.le_refl _) (by omega)).trans hK1⟩
        · rcases hs k hk with h | h
          · exact .inl h
          · exact .inr (by omega)
        · rcases hs _ h with h | h
          · have := hSl _ h; omega
          · omega
      rcases h with h | ⟨c, pre, x, rest, hxs, h⟩
      · obtain ⟨S', W3, hrun, hj, hc, hs, hnD, hD⟩ := tail hI h (by rw [hrec]; simp)
        rw [hrec] at hrun
        exact ⟨none, W3, hrun, hdone _ S' W3 (Nat.le_refl _) hD hj hc hs hnD⟩
      · obtain ⟨S', W3, hrun, hj, hc, hs, hnD, hD⟩ := tail (hIx c) h (by rw [hrec]; simp)
        rw [hrec] at hrun
        exact ⟨some c, W3, hrun, wpIn_wide.2 (hstop _ c pre x rest S' W3 hxs (Nat.le_refl _) hD hj hc hs hnD)⟩

/-- **A range over a function within a round of another.** -/
theorem wpIn_range {g : Operand} {Q : Exit → Act → World → Prop} {a : Act} {gf : FuncId} {lb : Array Value} {enc : α → Value → (Nat → Prop) → World → Prop} {xs : List α} {S : Nat → Prop} {w : World} {l₀ : Nat} (hl₀ : ∃ r₀, w.heap[l₀]? = some (.loop r₀))
    (hg : a.eval g = .func (.func gf) #[] lb) (eg : ∀ args w, (callFunc gf args).run P w = .ok (.enter gf args) w)
    (I : List α → (Nat → Prop) → World → Prop) (Ix : Code → List α → (Nat → Prop) → World → Prop) (hI : Acc w.heap.size I) (hIx : ∀ c, Acc w.heap.size (Ix c))
    (hseq : ∀ Jx, Acc w.heap.size Jx → ItGives P gf lb enc xs S w Jx) (h0 : I [] S w)
    (henc : ∀ {x v S1 S2 W}, enc x v S1 W → (∀ k, S2 k → S1 k) → enc x v S2 W)
    (hround : ∀ l pre x rest S1 v W, xs = pre ++ x :: rest → w.heap.size ≤ l → l < W.heap.size → (∃ r, W.heap[l]? = some (.loop r)) → ¬ S1 l → I pre S1 W → enc x v S1 W → 
      assign.wpIn (Fence.wide.inRound l) 0 P (Exit.then (fun a1 Wa => New W Wa ∧ ∀ W2, Chg W W2 (fun k => k = l) → Chg Wa W2 (fun k => k = l) → (∃ r, W2.heap[l]? = some (.loop r)) → I pre S1 W2 →
        body.wpIn (Fence.wide.inRound l) 0 P (rndPost I Ix (pre ++ [x]) S1 W2) a1 W2) (fun _ _ _ => False)) { tmps := a.tmps.setIfInBounds p v, defers := [] } W)
    (hdone : ∀ S' W, I xs S' W → Chg w W S → (∀ k, S' k → S k ∨ w.heap.size ≤ k) → Q .normal a W)
    (hstop : ∀ c pre x rest S' W, xs = pre ++ x :: rest → Ix c (pre ++ [x]) S' W → Chg w W S → (∀ k, S' k → S k ∨ w.heap.size ≤ k) → c.wpIn (Fence.wide.inRound l₀) 0 P Q a W) :
    (Code.rangeFunc g #[p] assign body).wpIn (Fence.wide.inRound l₀) 0 P Q a w := by
  obtain ⟨r₀, hr₀⟩ := hl₀
  refine wpIn_rangeFunc ?_
  intro fn _
  have hSl : ∀ k, S k → k < w.heap.size := fun k hk => hI.lt h0 k hk
  obtain ⟨rec, hrec⟩ : ∃ rec : LoopState → Option Code → Loop, rec = fun st pe => { state := st, pending := pe, fn, tmps := a.tmps, params := #[p], assign, body, defers := r₀.defers } := ⟨_, rfl⟩
  obtain ⟨W1, hW1⟩ : ∃ W1, w.alloc (.loop (rec .ready none)) = W1 := ⟨_, rfl⟩
  have hL1 : W1.heap[w.heap.size]? = some (.loop (rec .ready none)) := by rw [← hW1]; exact World.alloc_heap_new w _
  have hn1 : New w W1 := by rw [← hW1]; exact (Chg.refl w _).alloc _
  have hsz : W1.heap.size = w.heap.size + 1 := by rw [← hW1]; simp
  refine ⟨w.heap.size, [], W1, { target := .fn (.func gf) lb, args := #[.func (.yield w.heap.size) #[] #[]] }, W1, gf,
    #[.func (.yield w.heap.size) #[] #[]] ++ lb, W1, ?_, ?_, fun _ _ => trivial, ?_, fun h => absurd h (by simp [Fence.wide, Fence.inRound]), ?_⟩
  · rw [← hW1, hrec]; exact run_enterLoop_inner hr₀ _ _ _ _ _
  · simp only [resolve, hg]
    simp [go_sem]
  · simp [invoke, go_sem, eg]
  · refine CallsIn.inRound l₀ ((range_core hI hIx hseq h0 rec fn r₀.defers hrec w.heap.size (Nat.le_refl _) hL1 hn1 henc ?_).mono ?_)
    · intro pre x rest S1 v W hxs hl hlr hn hi he
      exact hround _ pre x rest S1 v W hxs (Nat.le_refl _) hl hlr hn hi he
    · rintro e W2 ⟨⟨v, rfl⟩, h⟩
      have tail : ∀ {J : List α → (Nat → Prop) → World → Prop} {ys : List α} {r : Loop}, Acc w.heap.size J → Bck J ys S w.heap.size (.loop r) W1 W2 → r.state ≠ .busy →
          ∃ S' W3, (Instr.endLoop w.heap.size).run P W2 = .ok r.pending W3 ∧ J ys S' W3 ∧ Chg w W3 S ∧ (∀ k, S' k → S k ∨ w.heap.size ≤ k) := by
        intro J ys r hJ hb hne
        obtain ⟨_, _, _, _, ho⟩ := id hb
        have hrun := run_endLoop (P := P) ho hne
        obtain ⟨S', hj, hc, hs, hk⟩ := hb.shut hJ hSl (Nat.le_refl _) (by omega) hn1 (.loop { r with state := .exhausted })
        refine ⟨S', _, hrun, hj, hc, fun k hk => ?_⟩
        rcases hs k hk with h | h
        · exact .inl h
        · exact .inr (by omega)
      rcases h with h | ⟨c, pre, x, rest, hxs, h⟩
      · obtain ⟨S', W3, hrun, hj, hc, hs⟩ := tail hI h (by rw [hrec]; simp)
        rw [hrec] at hrun
        exact ⟨none, W3, hrun, hdone S' W3 hj hc hs⟩
      · obtain ⟨S', W3, hrun, hj, hc, hs⟩ := tail (hIx c) h (by rw [hrec]; simp)
        rw [hrec] at hrun
        exact ⟨some c, W3, hrun, hstop c pre x rest S' W3 hxs hj hc hs⟩
end core
end Go.Proofs.Ytenkobgeflckdab
