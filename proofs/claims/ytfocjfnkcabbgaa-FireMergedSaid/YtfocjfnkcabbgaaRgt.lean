/- value.Name at one letter; value.empty, right, Right, builtin.right at values without lists. -/
import Derived.Test.YtfocjfnkcabbgaaCmpW
import Derived.Test.YtfocjfnkcabbgaaWS
import Derived.Laws.RangeString
import Derived.LoopTactic
set_option linter.unusedVariables false
set_option linter.unusedSimpArgs false
namespace Go.Proofs.Ytfocjfnkcabbgaa
open Go.RowKit Go.Shelf

set_option maxHeartbeats 1000000 in
theorem name_one (w : World) (b : UInt8) (h1 : 97 ≤ b.toNat) (h2 : b.toNat ≤ 122) : Calls Try.prog 76 #[.string ⟨#[b]⟩] w fun e w' => e = .returned (.bool true) ∧ New w w' := by
  obtain ⟨s, hs⟩ : ∃ s : ByteArray, s = ⟨#[b]⟩ := ⟨_, rfl⟩
  have hsz : s.size = 1 := by rw [hs]; rfl
  have hget : ∀ h : 0 < s.size, s[0]'h = b := by subst hs; intro h; rfl
  have hne : s.toList.isEmpty = false := by
    rw [ByteArray.toList, ByteArray.toList.loop, if_pos (by omega), ByteArray.toList.loop, if_neg (by omega)]
    rfl
  rw [← hs]
  clear hs
  go_enter Try.func76, Try.ntmps76
  go_wp2
  go_loopw [3, 4, 5] (fun _ _ _ wr => ∃ k : Nat, k ≤ 1 ∧ wr = w.iter s k) (fun _ _ _ wr => match wr.heap[w.heap.size]? with | some (.stringIter _ k) => 1 - k | _ => 0)
  case atStart => exact ⟨0, by omega, rfl⟩
  case round =>
    obtain ⟨k, hk, rfl⟩ := hrel
    by_cases h0 : k = 0
    · subst h0
      have hnx := fun ty => run_next_ascii (P := Try.prog) w s 0 ty (by omega) (by rw [hget]; omega)
      rw [hget] at hnx
      go_wp2
      go_roundw
      case rel => exact ⟨1, Nat.le_refl _, rfl⟩
      case measure =>
        rw [World.iter_heap, World.iter_heap]
        exact Nat.zero_lt_one
    · have hk1 : k = 1 := by omega
      subst hk1
      have hnx := fun ty => run_next_end (P := Try.prog) w s 1 ty (by omega)
      go_wp2
      go_ret
      exact ⟨rfl, (Chg.refl w _).alloc _⟩

/-- Values that the raw worlds know: small numbers, addresses of one letter. -/
def okV (v : Vl) : Prop := (v.k = 1 ∧ v.t = ⟨#[]⟩) ∨ (v.k = 3 ∧ v.i = 0 ∧ ∃ b : UInt8, v.t = ⟨#[b]⟩ ∧ 97 ≤ b.toNat ∧ b.toNat ≤ 122)
def rightV (v : Vl) : Bool := decide (v.k ≠ 1) || (decide (v.i ≤ 2147483647) && decide (-2147483647 ≤ v.i))
theorem okV.canon {v : Vl} (h : okV v) : canon v := by
  rcases h with ⟨a, b⟩ | ⟨a, b, _⟩
  · exact .inr ⟨a, b⟩
  · exact .inl ⟨a, b⟩

set_option maxHeartbeats 1000000 in
theorem empty_zero (w : World) : Calls Try.prog 74 #[.agg #[.int .i64 0, .int .i64 0, .string ⟨#[]⟩, .slice none 0 0]] w fun e w' => e = .returned (.bool true) ∧ New w w' := by
  go_enter Try.func74, Try.ntmps74
  go_wp2_with fail
  go_ret
  exact ⟨rfl, (Chg.refl w _).alloc _⟩

set_option maxHeartbeats 2000000 in
set_option maxRecDepth 100000 in
theorem right_int (w : World) (i : Int) (h0 : -9223372036854775808 ≤ i) (h1 : i ≤ 9223372036854775807) (d : Int) : Calls Try.prog 64 #[.agg #[.int .i64 1, .int .i64 i, .string ⟨#[]⟩, .slice none 0 0], .int .i64 d] w
    fun e w' => e = .returned (.bool (decide (i ≤ 2147483647) && decide (-2147483647 ≤ i))) ∧ New w w' := by
  go_enter Try.func64, Try.ntmps64
  go_wp2_with (go_at_call 74; refine (empty_zero _).mono ?_; rintro e w2 ⟨rfl, hc2⟩; have hcl : w2.cell? ⟨w.heap.size, 1, none⟩ = some (.int .i64 i) := ((((Blk.new w _ _).alloc _).alloc _).chg hc2 id).cell 1; have Hc2 := Lib.hid hc2; clear hc2)
  all_goals
    go_ret
    refine ⟨?_, ((((Chg.refl w _).alloc _).alloc _).alloc _).trans Hc2.out (fun _ _ x => x)⟩
  · rename_i h
    simp [h]
  · rename_i h
    have : ¬ i ≤ 2147483647 := by omega
    simp [this]

set_option maxHeartbeats 2000000 in
set_option maxRecDepth 100000 in
theorem right_addr (w : World) (b : UInt8) (h0 : 97 ≤ b.toNat) (h1 : b.toNat ≤ 122) (d : Int) : Calls Try.prog 64 #[.agg #[.int .i64 3, .int .i64 0, .string ⟨#[b]⟩, .slice none 0 0], .int .i64 d] w
    fun e w' => e = .returned (.bool true) ∧ New w w' := by
  go_enter Try.func64, Try.ntmps64
  go_wp2_with (go_at_call 74; refine (empty_zero _).mono ?_; rintro e w2 ⟨rfl, hc2⟩; have hcl : w2.cell? ⟨w.heap.size, 2, none⟩ = some (.string ⟨#[b]⟩) := ((((Blk.new w _ _).alloc _).alloc _).chg hc2 id).cell 2; have Hc2 := Lib.hid hc2; clear hc2)
  refine (name_one _ b h0 h1).mono ?_
  rintro e w3 ⟨rfl, hc3⟩
  have Hc3 := Lib.hid hc3
  clear hc3
  go_wp2_with fail
  go_ret
  exact ⟨rfl, (((((Chg.refl w _).alloc _).alloc _).alloc _).trans Hc2.out (fun _ _ x => x)).trans Hc3.out (fun _ _ x => x)⟩

/-- value.Right. -/
theorem right_val (w : World) (v : Vl) (hv : okV v) (h0 : -9223372036854775808 ≤ v.i) (h1 : v.i ≤ 9223372036854775807) : Calls Try.prog 58 #[vval v] w
    fun e w' => e = .returned (.bool (rightV v)) ∧ New w w' := by
  obtain ⟨k, i, t⟩ := v
  have key : ∀ W, Calls Try.prog 64 #[.agg #[.int .i64 k, .int .i64 i, .string t, .slice none 0 0], .int .i64 4] W fun e w' => e = .returned (.bool (rightV ⟨k, i, t⟩)) ∧ New W w' := by
    intro W
    rcases hv with ⟨hk, ht⟩ | ⟨hk, hi, b, ht, hb0, hb1⟩
    · dsimp only at hk ht h0 h1
      subst hk ht
      refine (right_int W i h0 h1 4).mono ?_
      rintro e w' ⟨rfl, hc⟩
      exact ⟨by simp [rightV], hc⟩
    · dsimp only at hk ht hi
      subst hk ht hi
      refine (right_addr W b hb0 hb1 4).mono ?_
      rintro e w' ⟨rfl, hc⟩
      exact ⟨by simp [rightV], hc⟩
  obtain ⟨q, hq⟩ : ∃ q, rightV ⟨k, i, t⟩ = q := ⟨_, rfl⟩
  rw [hq] at key ⊢
  clear hq hv
  have Key := Lib.hid key
  clear key
  unfold vval
  dsimp only
  go_enter Try.func58, Try.ntmps58
  go_wp2_with (go_at_call 64; refine (Key.out _).mono ?_; rintro e w2 ⟨rfl, hc2⟩; have Hc2 := Lib.hid hc2; clear hc2)
  go_ret
  exact ⟨rfl, ((Chg.refl w _).alloc _).trans Hc2.out (fun _ _ x => x)⟩

/-- builtin.right: a value, if it may be. -/
def okR (v : Vl) : Option Vl := if rightV v then some v else none
def zV : Vl := ⟨0, 0, ⟨#[]⟩⟩
/-- A value and whether there is one. -/
def optV (o : Option Vl) : Value := .tuple #[vval (o.getD zV), .bool o.isSome]
end Go.Proofs.Ytfocjfnkcabbgaa
