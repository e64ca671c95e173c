/- The program's bag and the reference's side by side. -/
import Derived.Test.YtenkobgeflckdaaRef18d
set_option linter.unusedVariables false
set_option linter.unusedSimpArgs false
namespace Go.Proofs.Ytenkobgeflckdaa
open Go.RowKit Go.Shelf

structure Two (w W : World) (ba br : Nat) (gs hs : List Gm) (most : Int) (S : Nat → Prop) : Prop where
  new : New w W
  bags : ∃ v u, BagAt 72 W w.heap.size ba v gs most ∧ BagAt 74 W w.heap.size br u hs most ∧ (∀ k, Terr ba v k → ¬ Terr br u k ∧ ¬ S k) ∧ ∀ k, Terr br u k → ¬ S k
  lt : ∀ k, S k → k < W.heap.size

section
variable {w W W' : World} {ba br : Nat} {gs hs gs' hs' : List Gm} {most : Int} {S : Nat → Prop} {f : FuncId} {args : Array Value} {r : Value}
theorem Two.left (h : Two w W ba br gs hs most S) : BagS 72 w W ba gs most S := by
  obtain ⟨v, u, h1, h2, h3, h4⟩ := h.bags
  exact ⟨h.new, ⟨v, h1, fun k hk => (h3 k hk).2⟩, h.lt⟩
theorem Two.right (h : Two w W ba br gs hs most S) : BagS 74 w W br hs most S := by
  obtain ⟨v, u, h1, h2, h3, h4⟩ := h.bags
  exact ⟨h.new, ⟨u, h2, h4⟩, h.lt⟩
theorem Two.opA (h : Two w W ba br gs hs most S) (hc : ∀ S', BagS 72 w W ba gs most S' → Calls Try.prog f args W (BagGo 72 w W ba gs' most S' r)) :
    Calls Try.prog f args W fun e W' => e = .returned r ∧ Two w W' ba br gs' hs most S ∧ Chg W W' (fun k => ¬ S k) := by
  obtain ⟨v, u, h1, h2, h3, h4⟩ := h.bags
  refine (hc (fun k => S k ∨ Terr br u k) ⟨h.new, ⟨v, h1, fun k hk hn => hn.elim (h3 k hk).2 (h3 k hk).1⟩, fun k hk => hk.elim (h.lt k) (fun hk => (h2.terr_lt hk).2)⟩).mono ?_
  rintro e W' ⟨he, ⟨hN, ⟨v', hb, hn⟩, hl⟩, hch⟩
  exact ⟨he, ⟨hN, ⟨v', u, hb, h2.chg hch (fun k hk hn => hn (.inr hk)), fun k hk => ⟨fun h => hn k hk (.inr h), fun h => hn k hk (.inl h)⟩, h4⟩, fun k hk => hl k (.inl hk)⟩, hch.mono fun k _ hk hS => hk (.inl hS)⟩
theorem Two.opR (h : Two w W ba br gs hs most S) (hc : ∀ S', BagS 74 w W br hs most S' → Calls Try.prog f args W (BagGo 74 w W br hs' most S' r)) :
    Calls Try.prog f args W fun e W' => e = .returned r ∧ Two w W' ba br gs hs' most S ∧ Chg W W' (fun k => ¬ S k) := by
  obtain ⟨v, u, h1, h2, h3, h4⟩ := h.bags
  refine (hc (fun k => S k ∨ Terr ba v k) ⟨h.new, ⟨u, h2, fun k hk hn => hn.elim (h4 k hk) (fun hv => (h3 k hv).1 hk)⟩, fun k hk => hk.elim (h.lt k) (fun hk => (h1.terr_lt hk).2)⟩).mono ?_
  rintro e W' ⟨he, ⟨hN, ⟨u', hb, hn⟩, hl⟩, hch⟩
  exact ⟨he, ⟨hN, ⟨v, u', h1.chg hch (fun k hk hn => hn (.inr hk)), hb, fun k hk => ⟨fun h => hn k h (.inr hk), (h3 k hk).2⟩, fun k hk hS => hn k hk (.inl hS)⟩, fun k hk => hl k (.inl hk)⟩, hch.mono fun k _ hk hS => hk (.inl hS)⟩
theorem Two.stay (h : Two w W ba br gs hs most S) (hc : New W W') : Two w W' ba br gs hs most S := by
  obtain ⟨v, u, h1, h2, h3, h4⟩ := h.bags
  exact ⟨h.new.trans hc (fun _ _ x => x), ⟨v, u, h1.chg hc (fun _ _ x => x), h2.chg hc (fun _ _ x => x), h3, h4⟩, fun k hk => Nat.lt_of_lt_of_le (h.lt k hk) hc.size⟩
/-- Another set of blocks kept, of which each is old or new. -/
theorem Two.keep (h : Two w W ba br gs hs most S) (hc : New W W') (T : Nat → Prop) (hT : ∀ k, T k → S k ∨ (W.heap.size ≤ k ∧ k < W'.heap.size)) : Two w W' ba br gs hs most T := by
  obtain ⟨v, u, h1, h2, h3, h4⟩ := h.bags
  refine ⟨h.new.trans hc (fun _ _ x => x), ⟨v, u, h1.chg hc (fun _ _ x => x), h2.chg hc (fun _ _ x => x), fun k hk => ⟨(h3 k hk).1, fun ht => ?_⟩, fun k hk ht => ?_⟩, fun k hk => ?_⟩
  · rcases hT k ht with h | h
    · exact (h3 k hk).2 h
    · have := (h1.terr_lt hk).2; omega
  · rcases hT k ht with h | h
    · exact h4 k hk h
    · have := (h2.terr_lt hk).2; omega
  · rcases hT k hk with h' | h'
    · exact Nat.lt_of_lt_of_le (h.lt k h') hc.size
    · exact h'.2
theorem Two.less (h : Two w W ba br gs hs most S) {T : Nat → Prop} (hT : ∀ k, T k → S k) : Two w W ba br gs hs most T := h.keep (Chg.refl _ _) T (fun k hk => .inl (hT k hk))
end

/-- Two new bags. -/
theorem two_new {w W : World} (m : Int) (hN : New w W) : Calls Try.prog 16 #[.int .i64 m] W fun e W1 => e = .returned (.pointer (some ⟨W.heap.size, 0, none⟩)) ∧ New w W1 ∧
    Calls Try.prog 17 #[.int .i64 m] W1 fun e W2 => e = .returned (.pointer (some ⟨W1.heap.size, 0, none⟩)) ∧ Two w W2 W.heap.size W1.heap.size [] [] (min (max m 0) 200) (fun _ => False) := by
  refine (new_any m W w.heap.size hN.size).mono ?_
  rintro e W1 ⟨he, hb, hc⟩
  have hN1 := hN.trans hc (fun _ _ x => x)
  refine ⟨he, hN1, (rnew_any m W1 w.heap.size hN1.size).mono ?_⟩
  rintro e W2 ⟨he, hb2, hc2⟩
  refine ⟨he, hN1.trans hc2 (fun _ _ x => x), ⟨_, _, hb.chg hc2 (fun _ _ x => x), hb2, fun k hk => ⟨fun hk2 => ?_, id⟩, fun _ _ x => x⟩, fun _ h => h.elim⟩
  have h1 := (hb.terr_lt hk).2
  rcases hk2 with h2 | h2
  · omega
  · cases h2

section
variable {P : Program} {ops : Array Oper} {rest : List Oper} {o : Oper} {a : Act} {w : World} {Q : Exit → Act → World → Prop}
theorem wpl_value (hg : o.guard = none) (v : Value) (hr : (execOp a.eval o).run P w = .ok (.value v) w) (h : wpList P ops Q rest (a.put o.dst v) w) : wpList P ops Q (o :: rest) a w := by
  refine wpList_plain hg fun K hK => ?_
  unfold Oper.wp
  rw [hr]
  exact hK _ _ h
end
end Go.Proofs.Ytenkobgeflckdaa
