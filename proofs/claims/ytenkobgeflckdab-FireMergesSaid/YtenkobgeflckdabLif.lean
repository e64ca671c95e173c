/- A round's operations by the plain walk; a call of yield. No program is named here. -/
import Derived.Test.YtenkobgeflckdabRng
import Derived.Shelf.RegionOpen
import Derived.WalkKit
import Derived.OwnWalkIn
import Derived.TacticsInMore
import Derived.LoopNIn
import Derived.LoopIn
import Derived.RangeFuncBound
import Derived.RangeFuncCalls
set_option linter.unusedVariables false
set_option linter.unusedSimpArgs false
namespace Go.Proofs.Ytenkobgeflckdab
open Go.RowKit Go.Shelf

/-- The wide fence, or a round within it. -/
def Wd (F : Fence) : Prop := F = Fence.wide ∨ ∃ l, F = Fence.wide.inRound l
theorem Wd.wide : Wd Fence.wide := .inl rfl
theorem Wd.round (l : Nat) : Wd (Fence.wide.inRound l) := .inr ⟨l, rfl⟩
theorem Wd.fn {F : Fence} (h : Wd F) (f : FuncId) : F.fn f := by rcases h with rfl | ⟨l, rfl⟩ <;> trivial
theorem Wd.depth {F : Fence} (h : Wd F) (n : Nat) : F.depth.isSome = true → 1 ≤ n := by rcases h with rfl | ⟨l, rfl⟩ <;> intro h <;> cases h
theorem Wd.calls {F : Fence} (h : Wd F) {n : Nat} {P : Program} {f : FuncId} {args : Array Value} {w : World} {R : Ending → World → Prop} (hc : Calls P f args w R) : CallsIn F n P f args w R := by
  rcases h with rfl | ⟨l, rfl⟩
  · exact callsIn_wide.2 hc
  · exact CallsIn.inRound l (callsIn_wide.2 hc)
theorem Wd.rows {F : Fence} (h : Wd F) {n : Nat} {P : Program} {row : String} {args : Array Value} {w : World} {R : Value → World → Prop} (hc : Rows P row args w R) : RowsIn F n P row args w R := by
  have h0 : RowsIn Fence.wide n P row args w R := fun c cs _ => let ⟨v, w', r, s⟩ := hc c cs; ⟨v, w', r, stepsIn_wide.2 s⟩
  rcases h with rfl | ⟨l, rfl⟩
  · exact h0
  · exact h0
theorem Wd.roundIn {F : Fence} (h : Wd F) {n : Nat} {P : Program} {l : Nat} {f : FuncId} {tmps : Array Value} {assign body : Code} {w : World} {R : Ending → World → Prop} (hc : RoundIn Fence.wide n P l f tmps assign body w R) : RoundIn F n P l f tmps assign body w R := by
  rcases h with rfl | ⟨l, rfl⟩
  · exact hc
  · exact hc

def noDefer (l : List Oper) : Bool := l.all fun o => match o.op with | .defer _ => false | _ => true

section
variable {F : Fence} {n : Nat} {P : Program} {ops : Array Oper} {Q : Exit → Act → World → Prop} {rest : List Oper}
theorem liftL (hF : Wd F) : ∀ (l : List Oper), noDefer l = true → ∀ (a : Act) (w : World), wpList P ops (Exit.then (fun a w => wpListIn F n P ops Q rest a w) (fun _ _ _ => False)) l a w → wpListIn F n P ops Q (l ++ rest) a w
  | [], _, a, w, h => h
  | o :: l, hd, a, w, h => by
    have hd' : noDefer l = true := by unfold noDefer at hd ⊢; rw [List.all_cons, Bool.and_eq_true] at hd; exact hd.2
    have hdo : ∀ c, o.op ≠ .defer c := by
      unfold noDefer at hd
      rw [List.all_cons, Bool.and_eq_true] at hd
      intro c hc
      rw [hc] at hd
      exact absurd hd.1 (by simp)
    have ih := fun a w => liftL hF l hd' a w
    show wpListIn F n P ops Q (o :: (l ++ rest)) a w
    unfold wpListIn
    unfold wpList at h
    by_cases hw : Region.wanted o (yielded ops a.tmps) = true
    · rw [if_pos hw] at h ⊢
      have h1 : o.wp P a w (wpList P ops (Exit.then (fun a w => wpListIn F n P ops Q rest a w) (fun _ _ _ => False)) l) (Exit.then (fun a w => wpListIn F n P ops Q rest a w) (fun _ _ _ => False)) := by
        rcases h with h | ⟨_, ⟨_, _, h⟩⟩
        · exact h
        · exact h.elim
      refine ⟨fun f _ => hF.fn f, ?_⟩
      rw [Oper.semAt_plain F _ _ hdo]
      unfold Oper.wp at h1
      generalize (execOp a.eval o).run P w = r at h1 ⊢
      match r, h1 with
      | .ok (.value v) w', h1 => exact ih _ _ h1
      | .ok .skip w', h1 => exact ih _ _ h1
      | .ok (.defer d) w', h1 => exact ih _ _ h1
      | .ok (.enter f args) w', h1 =>
        refine ⟨hF.depth n, hF.calls (Calls.mono h1 ?_)⟩
        intro e w'' he
        cases e with
        | returned v => exact ih _ _ he
        | panicked c => exact he.elim
        | outgrown => obtain ⟨_, _, he⟩ := he; exact he.elim
      | .ok (.row row args) w', h1 => exact ⟨hF.depth n, hF.rows (Rows.mono h1 fun v w'' he => ih _ _ he)⟩
      | .halt (.panic v) w', h1 => exact h1.elim
    · rw [if_neg hw] at h ⊢
      exact ⟨fun f _ => hF.fn f, ih _ _ h⟩
/-- The first k operations by the plain walk. -/
theorem liftK (hF : Wd F) (k : Nat) {l : List Oper} {a : Act} {w : World} (hd : noDefer (l.take k) = true) (h : wpList P ops (Exit.then (fun a w => wpListIn F n P ops Q (l.drop k) a w) (fun _ _ _ => False)) (l.take k) a w) : wpListIn F n P ops Q l a w := by
  have := liftL hF (l.take k) hd a w h
  rwa [List.take_append_drop] at this
/-- A call of yield. -/
theorem wplI_yield (hF : Wd F) {o : Oper} {a : Act} {w : World} {l : Nat} {v : Value} {R : Bool → World → Prop} (hw : Region.wanted o (yielded ops a.tmps) = true) (x y : Operand) (t : TypeId) (ho : o.op = .call { callee := .value x, args := #[y], argTypes := #[t] })
    (hx : a.eval x = .func (.yield l) #[] #[]) (hy : a.eval y = v) (hY : Yld P l v w R) (h : ∀ b W', R b W' → wpListIn F n P ops Q rest (a.put o.dst (.bool b)) W') : wpListIn F n P ops Q (o :: rest) a w := by
  unfold wpListIn
  rw [if_pos hw]
  refine ⟨fun f _ => hF.fn f, ?_⟩
  rw [Oper.semAt_plain F _ _ (by rw [ho]; intro c hc; cases hc)]
  obtain ⟨fn, tmps, assign, body, hrun, hR⟩ := hY (n - 1)
  have hr : (execOp a.eval o).run P w = .ok (.round l fn tmps assign body) w := by
    unfold execOp
    simp [ho, resolve, invoke, hx, hy, Deferred.ofValue, hrun]
  rw [hr]
  refine ⟨hF.depth n, hF.roundIn (hR.mono ?_)⟩
  rintro e W' ⟨b, rfl, hb⟩
  exact h b W' hb
end
end Go.Proofs.Ytenkobgeflckdab
