/- Same of the statements of layer 18. -/
import Derived.Test.YtenkobgeflckdaaL18a
set_option linter.unusedVariables false
set_option linter.unusedSimpArgs false
namespace Go.Proofs.Ytenkobgeflckdaa
open Go.RowKit Go.Shelf

theorem bytes_toList_eq (x y : ByteArray) : x.toList = y.toList ↔ x = y := by
  constructor
  · intro h
    rw [ByteArray.toList_eq, ByteArray.toList_eq] at h
    obtain ⟨⟨x⟩⟩ := x
    obtain ⟨⟨y⟩⟩ := y
    simpa using h
  · rintro rfl; rfl
theorem run_equal_gram (w : World) (x y : Gm) : (Op.equalIn 10000 33 (.agg #[.string x.f, .string x.t, .string x.d]) (.agg #[.string y.f, .string y.t, .string y.d])).run Try.prog w = .ok (decide (x = y)) w := by
  obtain ⟨f, t, d⟩ := x
  obtain ⟨f', t', d'⟩ := y
  simp [go_sem, bytes_toList_eq]
  by_cases h1 : f = f' <;> by_cases h2 : t = t' <;> by_cases h3 : d = d' <;> simp [h1, h2, h3]
theorem run_eql_gram (w : World) (x y : Gm) : (binOp .eql 33 (.agg #[.string x.f, .string x.t, .string x.d]) (.agg #[.string y.f, .string y.t, .string y.d])).run Try.prog w = .ok (.bool (decide (x = y))) w := by
  rw [run_eql_struct, run_equal_gram]
  rfl
theorem run_neq_gram (w : World) (x y : Gm) : (binOp .neq 33 (.agg #[.string x.f, .string x.t, .string x.d]) (.agg #[.string y.f, .string y.t, .string y.d])).run Try.prog w = .ok (.bool (!decide (x = y))) w := by
  rw [run_neq_struct, run_equal_gram]
  rfl

theorem exec_neq_gram (w : World) (x y : Gm) (ρ : Operand → Value) (o : Oper) (p q : Operand) (ho : o.op = .binOp .neq 33 p q 33) (hp : ρ p = .agg #[.string x.f, .string x.t, .string x.d]) (hq : ρ q = .agg #[.string y.f, .string y.t, .string y.d]) :
    (execOp ρ o).run Try.prog w = .ok (.value (.bool (!decide (x = y)))) w := by
  unfold execOp
  simp only [ho, hp, hq]
  have hm : Try.prog.eqGuardType Try.prog.depth 33 = false := by kernel_rfl
  simp [go_sem, run_eqGuard_agg, hm, run_equal_gram]
theorem exec_eql_gram (w : World) (x y : Gm) (ρ : Operand → Value) (o : Oper) (p q : Operand) (ho : o.op = .binOp .eql 33 p q 33) (hp : ρ p = .agg #[.string x.f, .string x.t, .string x.d]) (hq : ρ q = .agg #[.string y.f, .string y.t, .string y.d]) :
    (execOp ρ o).run Try.prog w = .ok (.value (.bool (decide (x = y)))) w := by
  unfold execOp
  simp only [ho, hp, hq]
  have hm : Try.prog.eqGuardType Try.prog.depth 33 = false := by kernel_rfl
  simp [go_sem, run_eqGuard_agg, hm, run_equal_gram]

set_option maxHeartbeats 1000000 in
set_option maxRecDepth 100000 in
theorem same18 (w : World) (A : Option Addr) (n c : Nat) (B : Option Addr) (m d : Nat) (gs hs : List Gm) (hn : n = gs.length) (hm : m = hs.length) (hb : n ≤ maxLen) (hb2 : m ≤ maxLen)
    (hg : 0 < n → ∃ a, A = some a ∧ RowsAt w a 3 (gs.map gcs)) (hh : 0 < m → ∃ a, B = some a ∧ RowsAt w a 3 (hs.map gcs)) :
    Calls Try.prog 30 #[.slice A n c, .slice B m d] w fun e w' => e = .returned (.bool (decide (gs = hs))) ∧ New w w' := by
  unfold maxLen at hb hb2
  by_cases hnm : n = m
  · subst hnm
    have HG := Lib.hid hg
    have HH := Lib.hid hh
    have HN := Lib.hid hn
    have HM := Lib.hid hm
    clear hg hh hn hm
    have hne : ((n : Int) == (n : Int)) = true := by simp
    go_enter Try.func30, Try.ntmps30
    go_wp2
    go_loopw [5] (fun i wr => ∃ k : Nat, k ≤ n ∧ i = .int .i64 k ∧ New w wr ∧ gs.take k = hs.take k) (fun i _ => n - (intOf i).toNat)
    case atStart => exact ⟨0, Nat.zero_le _, rfl, Chg.refl w _, rfl⟩
    case round =>
      obtain ⟨k, hk, rfl, hc, hno⟩ := hrel
      have Hc := Lib.hid hc
      have Hno := Lib.hid hno
      clear hc hno
      by_cases hlt : k < n
      · obtain ⟨ad, rfl, hrw⟩ := HG.out (by omega)
        obtain ⟨bd, rfl, hrx⟩ := HH.out (by omega)
        obtain ⟨x, hx⟩ : ∃ x, gs[k]? = some x := ⟨_, List.getElem?_eq_getElem (by rw [← HN.out]; exact hlt)⟩
        obtain ⟨y, hy⟩ : ∃ x, hs[k]? = some x := ⟨_, List.getElem?_eq_getElem (by rw [← HM.out]; exact hlt)⟩
        have hat := (hrw k (gcs x) (by rw [List.getElem?_map, hx]; rfl)).2.chg Hc.out id
        have hbt := (hrx k (gcs y) (by rw [List.getElem?_map, hy]; rfl)).2.chg Hc.out id
        obtain ⟨b, hb⟩ : ∃ b, decide (x = y) = b := ⟨_, rfl⟩
        have hnq := fun W ρ o p q ho hp hq => exec_neq_gram W x y ρ o p q ho hp hq
        rw [hb] at hnq
        have Hat := Lib.hid hat
        have Hbt := Lib.hid hbt
        have Hx := Lib.hid hx
        have Hy := Lib.hid hy
        have Hnq := Lib.hid hnq
        have Hb := Lib.hid hb
        clear hat hbt hx hy hb hnq
        go_wp2_with fail
        refine wp_region_quiet_lit (by kernel_rfl) (by kernel_rfl) ?_
        repeat (first
          | ((with_reducible refine wpq_load rfl (.tmp 19) 33 rfl stGram (ad.add (k * 3)) (gcs x) ?_ rfl Hat.out ?_); exact rfl; simp only [Act.put, List.setIfInBounds_toArray, List.set_cons_succ, List.set_cons_zero])
          | ((with_reducible refine wpq_load rfl (.tmp 23) 33 rfl stGram (bd.add (k * 3)) (gcs y) ?_ rfl Hbt.out ?_); exact rfl; simp only [Act.put, List.setIfInBounds_toArray, List.set_cons_succ, List.set_cons_zero])
          | ((with_reducible refine wpq_val rfl (.bool (!b)) (fun n => ?_) ?_); exact Hnq.out _ _ _ _ _ rfl rfl rfl; simp only [Act.put, List.setIfInBounds_toArray, List.set_cons_succ, List.set_cons_zero])
          | go_big_quiet_step (fail))
        refine wpQuiet_nil ?_
        rintro _ ⟨nq, rfl⟩
        have HNw := Lib.hid (show New w (wr.drewN nq) from Hc.out.drewN nq)
        cases b with
        | true =>
          go_wp2_with fail
          go_roundw
          case rel =>
            refine ⟨k + 1, by omega, by go_num, HNw.out, ?_⟩
            rw [take_succ_get Hx.out, take_succ_get Hy.out, Hno.out, of_decide_eq_true Hb.out]
          case measure => simp [intOf]; omega
        | false =>
          go_wp2_with fail
          go_ret
          refine ⟨congrArg (fun b => Ending.returned (.bool b)) (Eq.symm ?_ : false = decide (gs = hs)), HNw.out⟩
          rw [decide_eq_false_iff_not]
          rintro rfl
          have h := Hx.out
          rw [Hy.out] at h
          exact of_decide_eq_false Hb.out (Option.some.inj h).symm
      · have HNw := Lib.hid Hc.out
        go_wp2_with fail
        go_ret
        refine ⟨congrArg (fun b => Ending.returned (.bool b)) (Eq.symm ?_ : true = decide (gs = hs)), HNw.out⟩
        rw [decide_eq_true_eq]
        have h := Hno.out
        have h1 := HN.out
        have h2 := HM.out
        rwa [List.take_of_length_le (by omega), List.take_of_length_le (by omega)] at h
  · have hne : ((n : Int) == (m : Int)) = false := by rw [beq_eq_false_iff_ne]; omega
    have hd : decide (gs = hs) = false := by
      rw [decide_eq_false_iff_not]
      rintro rfl
      omega
    have HD := Lib.hid hd
    clear hg hh hn hm hd
    go_enter Try.func30, Try.ntmps30
    go_wp2
    go_ret
    exact ⟨congrArg (fun b => Ending.returned (.bool b)) HD.out.symm, Chg.refl w _⟩
end Go.Proofs.Ytenkobgeflckdaa
