/- The laws of graphs: pick, names. -/
import Derived.Test.YtffmalagochakaaWS
import Derived.Test.YtffmalagochakaaGen
import Derived.Test.YtffmalagochakaaOpenR
import Derived.Test.YtffmalagochakaaGraP
import Derived.Lib.Hide
set_option linter.unusedVariables false
set_option linter.unusedSimpArgs false
namespace Go.Proofs.Ytffmalagochakaa
open Go.RowKit Go.Shelf

/-- Which of n things a raw number speaks of. -/
def pk (c n : Int) : Int := (if c < 0 then -(c + 1) else c) % n
theorem pk_lo (c n : Int) (h : 0 < n) : 0 ≤ pk c n := by unfold pk; exact Int.emod_nonneg _ (by omega)
theorem pk_hi (c n : Int) (h : 0 < n) : pk c n < n := by unfold pk; exact Int.emod_lt_of_pos _ h
set_option maxHeartbeats 400000 in
theorem pick20 (w : World) (c n : Int) (h0 : -9223372036854775808 ≤ c) (h1 : c ≤ 9223372036854775807) (hn : 0 < n) (hn2 : n ≤ 9223372036854775807) :
    Calls Try.prog 11 #[.int .i64 c, .int .i64 n] w fun e w' => e = .returned (.int .i64 (pk c n)) ∧ w = w' := by
  by_cases hc : c < 0
  · have hp : -((c + 1).tmod n) = pk c n := by unfold pk; rw [if_pos hc, ← Int.neg_tmod, Int.tmod_eq_emod_of_nonneg (by omega)]
    have Hp := Lib.hid hp
    clear hp
    go_enter Try.func11, Try.ntmps11
    go_wp2_with fail
    go_ret
    exact ⟨congrArg (fun z => Ending.returned (.int .i64 z)) Hp.out, rfl⟩
  · have hp : pk c n = c % n := by unfold pk; rw [if_neg hc]
    have Hp := Lib.hid hp
    clear hp
    go_enter Try.func11, Try.ntmps11
    go_wp2_with fail
    go_ret
    exact ⟨by rw [Hp.out]; rfl, rfl⟩


theorem own_ne_blk {w : World} {B : Nat} {e t : TypeId} {k : Nat} {v : Value} {css : List (List Value)} {g : Nat} {cs : Array Value} (h : Own w B e k v css) (hb : Blk w g t cs) (hne : t ≠ e) : v.ownBlock ≠ some g := by
  intro he
  rcases h.1.2 with ⟨h1, _⟩ | ⟨g', cap, cur, h1, _, hg, _⟩
  · rw [h1] at he; cases he
  · rw [h1] at he
    simp only [Value.ownBlock, Option.some.injEq] at he
    subst he
    exact Blk.ne hb (show Blk w g' _ cur from hg) hne rfl

/-- The nodes. -/
def nmL : List ByteArray := [⟨#[97]⟩, ⟨#[98]⟩, ⟨#[99]⟩, ⟨#[100]⟩, ⟨#[101]⟩]
def edC (e : Ed) : List Value := [.string e.a, .string e.b, .int .i64 e.c]
theorem names20 (w : World) : Calls Try.prog 10 #[] w fun e w' => ∃ b, e = .returned (.slice (some ⟨b, 0, none⟩) 5 5) ∧ Blk w' b 9 #[.string ⟨#[97]⟩, .string ⟨#[98]⟩, .string ⟨#[99]⟩, .string ⟨#[100]⟩, .string ⟨#[101]⟩] ∧ New w w' := by
  have hB : Blk (w.alloc (.cells #[.string ⟨#[97]⟩, .string ⟨#[98]⟩, .string ⟨#[99]⟩, .string ⟨#[100]⟩, .string ⟨#[101]⟩] 9)) w.heap.size 9 #[.string ⟨#[97]⟩, .string ⟨#[98]⟩, .string ⟨#[99]⟩, .string ⟨#[100]⟩, .string ⟨#[101]⟩] := Blk.new w _ _
  have hN : New w (w.alloc (.cells #[.string ⟨#[97]⟩, .string ⟨#[98]⟩, .string ⟨#[99]⟩, .string ⟨#[100]⟩, .string ⟨#[101]⟩] 9)) := (Chg.refl _ _).alloc _
  have HB := Lib.hid hB
  have HN := Lib.hid hN
  clear hB hN
  go_enter Try.func10, Try.ntmps10
  go_wp2_with fail
  go_ret
  exact ⟨_, rfl, HB.out, HN.out⟩
theorem nm_cell {W : World} {b p : Nat} (h : Blk W b 9 #[.string ⟨#[97]⟩, .string ⟨#[98]⟩, .string ⟨#[99]⟩, .string ⟨#[100]⟩, .string ⟨#[101]⟩]) (hp : p < 5) : ∃ s ∈ nmL, ∀ W', Blk W' b 9 #[.string ⟨#[97]⟩, .string ⟨#[98]⟩, .string ⟨#[99]⟩, .string ⟨#[100]⟩, .string ⟨#[101]⟩] → W'.cell? ⟨b, p, none⟩ = some (.string s) := by
  rcases (show p = 0 ∨ p = 1 ∨ p = 2 ∨ p = 3 ∨ p = 4 by omega) with rfl | rfl | rfl | rfl | rfl
  · exact ⟨_, .head _, fun W' h => h.cell 0⟩
  · exact ⟨_, .tail _ (.head _), fun W' h => h.cell 1⟩
  · exact ⟨_, .tail _ (.tail _ (.head _)), fun W' h => h.cell 2⟩
  · exact ⟨_, .tail _ (.tail _ (.tail _ (.head _))), fun W' h => h.cell 3⟩
  · exact ⟨_, .tail _ (.tail _ (.tail _ (.tail _ (.head _)))), fun W' h => h.cell 4⟩
theorem stEdge : StT Try.prog 40 3 := ⟨⟨_, Try.underlying40⟩, by kernel_rfl⟩
theorem elEdge : ElT Try.prog 24 40 3 40 (Value.cells (.agg #[.string ⟨#[]⟩, .string ⟨#[]⟩, .int .i64 0])).toList :=
  ElT.mk' (by kernel_rfl) (by kernel_rfl) rfl (by omega) (by intro u hu; simp only [Value.cells, List.mem_cons, List.not_mem_nil, or_false] at hu; rcases hu with rfl | rfl | rfl <;> rfl)
end Go.Proofs.Ytffmalagochakaa
