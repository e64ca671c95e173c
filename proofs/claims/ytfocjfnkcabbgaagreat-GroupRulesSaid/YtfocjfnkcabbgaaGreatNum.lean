/- value.Addr; the aggregates. -/
import Derived.Test.YtfocjfnkcabbgaaGreatOp
set_option linter.unusedVariables false
set_option linter.unusedSimpArgs false
namespace Go.Proofs.YtfocjfnkcabbgaaGreat
open Go.RowKit Go.Shelf

set_option maxHeartbeats 1000000 in
theorem addr_any (w : World) (s : ByteArray) : Calls Tryz.prog 13 #[.string s] w fun e w' => e = .returned (.agg #[.int .i64 3, .int .i64 0, .string s, .slice none 0 0]) ∧ New w w' := by
  have hb : Blk (w.alloc (.cells #[.int .i64 3, .int .i64 0, .string s, .slice none 0 0] 40)) w.heap.size 40 [Value.int .i64 3, .int .i64 0, .string s, .slice none 0 0].toArray := Blk.new w _ _
  have HB := Lib.hid hb
  clear hb
  go_enter Tryz.func13, Tryz.ntmps13
  go_wp2_with fail
  refine bodyPost_ret (v := .agg #[.int .i64 3, .int .i64 0, .string s, .slice none 0 0]) (res_cellK stVal4 rfl _ _ ⟨w.heap.size, 0, none⟩ [Value.int .i64 3, .int .i64 0, .string s, .slice none 0 0] rfl HB.out.at_ rfl) rfl ⟨rfl, (Chg.refl _ _).alloc _⟩

/-- The three aggregates. -/
inductive Ag where
  | min | max | count
  deriving DecidableEq
def agName : Ag → ByteArray
  | .min => ⟨#[109, 105, 110]⟩
  | .max => ⟨#[109, 97, 120]⟩
  | .count => ⟨#[99, 111, 117, 110, 116]⟩
/-- What an aggregate makes of what it has made so far and one value more. -/
def foldV : Ag → Vl → Vl → Bool → Vl
  | .min, so, v, first => if first || decide (cmpV v so < 0) then v else so
  | .max, so, v, first => if first || decide (0 < cmpV v so) then v else so
  | .count, so, _, first => if first then ⟨1, 1, ⟨#[]⟩⟩ else ⟨1, so.i + 1, ⟨#[]⟩⟩
theorem cmpV_bd (a b : Vl) : -1 ≤ cmpV a b ∧ cmpV a b ≤ 1 := by
  have hi : ∀ a b, -1 ≤ cmpI a b ∧ cmpI a b ≤ 1 := fun a b => by unfold cmpI; repeat' split <;> omega
  have hl : ∀ x y : List UInt8, -1 ≤ Lib.compareBytes x y ∧ Lib.compareBytes x y ≤ 1 := by
    intro x
    induction x with
    | nil => intro y; cases y <;> simp [Lib.compareBytes]
    | cons a x ih =>
      intro y
      cases y with
      | nil => simp [Lib.compareBytes]
      | cons b y =>
        simp only [Lib.compareBytes]
        have := ih y
        repeat' split <;> omega
  rw [cmpV_def]
  have h1 := hi a.k b.k
  have h2 := hi a.i b.i
  have h3 : -1 ≤ cmpS a.t b.t ∧ cmpS a.t b.t ≤ 1 := hl _ _
  repeat' split <;> omega
/-- The first of a best value. -/
def bestV (sign : Int) (so v : Vl) (first : Bool) : Vl := if first || decide (0 < cmpV v so * sign) then v else so
theorem best_min (so v : Vl) (first : Bool) : bestV (-1) so v first = foldV .min so v first := by
  unfold bestV foldV
  have : decide (0 < cmpV v so * -1) = decide (cmpV v so < 0) := by congr 1; apply propext; omega
  rw [this]
theorem best_max (so v : Vl) (first : Bool) : bestV 1 so v first = foldV .max so v first := by
  unfold bestV foldV
  have : decide (0 < cmpV v so * 1) = decide (0 < cmpV v so) := by congr 1; apply propext; omega
  rw [this]
end Go.Proofs.YtfocjfnkcabbgaaGreat
