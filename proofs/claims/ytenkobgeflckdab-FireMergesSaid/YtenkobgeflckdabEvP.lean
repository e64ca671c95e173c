/- Terms, and what they are worth: plain; how they lie in memory. -/
import Derived.Test.YtenkobgeflckdabLkp
set_option linter.unusedVariables false
set_option linter.unusedSimpArgs false
namespace Go.Proofs.Ytenkobgeflckdab
open Go.RowKit

/-- Terms of the raw worlds. -/
inductive Tm where
  | var (s : ByteArray)
  | val (v : Vl)
  | op (m : Bool) (a b : Tm)

def evalT (env : Env) : Tm → Option Vl
  | .var s => lookE env s
  | .val v => some v
  | .op m a b => match evalT env a, evalT env b with
    | some x, some y => opV m x y
    | _, _ => none

def okW (v : Vl) : Prop := okV v ∧ -9223372036854775808 ≤ v.i ∧ v.i ≤ 9223372036854775807
def okTm : Tm → Prop
  | .var _ => True
  | .val v => okW v
  | .op _ a b => okTm a ∧ okTm b
def okEnv (env : Env) : Prop := ∀ p ∈ env, okW p.2

theorem lookE_ok {env : Env} (h : okEnv env) {s : ByteArray} {v : Vl} (hv : lookE env s = some v) : okW v := by
  unfold lookE at hv
  cases hf : env.find? (fun p => decide (p.1 = s)) with
  | none => rw [hf] at hv; cases hv
  | some p =>
    rw [hf] at hv
    cases hv
    exact h p (List.mem_of_find?_eq_some hf)
theorem okR_ok {n : Int} {v : Vl} (hv : okR ⟨1, n, ⟨#[]⟩⟩ = some v) : okW v := by
  unfold okR at hv
  by_cases h : rightV ⟨1, n, ⟨#[]⟩⟩ = true
  · rw [if_pos h] at hv
    cases hv
    simp only [rightV, ne_eq, not_true_eq_false, decide_false, Bool.false_or, Bool.and_eq_true, decide_eq_true_eq] at h
    exact ⟨.inl ⟨rfl, rfl⟩, by dsimp only at h ⊢; omega, by dsimp only at h ⊢; omega⟩
  · rw [if_neg h] at hv
    cases hv
theorem opV_ok {m : Bool} {a b v : Vl} (hv : opV m a b = some v) : okW v := by
  unfold opV at hv
  by_cases h : a.k = 1 ∧ b.k = 1 ∧ rightV a = true ∧ rightV b = true
  · rw [if_pos h] at hv
    exact okR_ok hv
  · rw [if_neg h] at hv
    cases hv
theorem evalT_ok {env : Env} (h : okEnv env) : ∀ {t : Tm}, okTm t → ∀ {v : Vl}, evalT env t = some v → okW v
  | .var s, _, v, hv => lookE_ok h hv
  | .val u, hu, v, hv => by cases hv; exact hu
  | .op m a b, _, v, hv => by
    unfold evalT at hv
    split at hv
    · exact opV_ok hv
    · cases hv

/-- A term's cells. -/
def TmAt (w : World) : List Value → Tm → Prop
  | cs, .var s => cs = [.int .i64 1, .string s] ++ vcs zV ++ [.slice none 0 0]
  | cs, .val v => cs = [.int .i64 2, .string ⟨#[]⟩] ++ vcs v ++ [.slice none 0 0]
  | cs, .op m a b => ∃ ad c ca cb, cs = [.int .i64 4, .string (opS m)] ++ vcs zV ++ [.slice (some ad) 2 c] ∧ ad.block < w.heap.size ∧ RowsAt w ad 7 [ca, cb] ∧ TmAt w ca a ∧ TmAt w cb b
theorem TmAt.chg {w w' : World} (hc : New w w') : ∀ {t : Tm} {cs : List Value}, TmAt w cs t → TmAt w' cs t
  | .var s, cs, h => h
  | .val v, cs, h => h
  | .op m a b, cs, ⟨ad, c, ca, cb, h1, h2, h3, h4, h5⟩ => ⟨ad, c, ca, cb, h1, Nat.lt_of_lt_of_le h2 hc.size, h3.chg hc id, TmAt.chg hc h4, TmAt.chg hc h5⟩
theorem TmAt.len {w : World} {t : Tm} {cs : List Value} (h : TmAt w cs t) : cs.length = 7 := by
  cases t with
  | var s => rw [show cs = _ from h]; rfl
  | val v => rw [show cs = _ from h]; rfl
  | op m a b => obtain ⟨ad, c, ca, cb, h1, _⟩ := h; rw [h1]; rfl
end Go.Proofs.Ytenkobgeflckdab
