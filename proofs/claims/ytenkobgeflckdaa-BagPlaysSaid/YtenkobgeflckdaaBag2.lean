/- The bag's methods: New, has, Put, All. -/
import Derived.Test.YtenkobgeflckdaaBag1
set_option linter.unusedVariables false
set_option linter.unusedSimpArgs false
namespace Go.Proofs.Ytenkobgeflckdaa
open Go.RowKit Go.Shelf

set_option maxHeartbeats 400000 in
theorem new_any (m : Int) (w : World) (B : Nat) (hB : B ≤ w.heap.size) : Calls Try.prog 16 #[.int .i64 m] w fun e w' => e = .returned (.pointer (some ⟨w.heap.size, 0, none⟩)) ∧ BagAt 72 w' B w.heap.size (.slice none 0 0) [] (min (max m 0) 200) ∧ New w w' := by
  have hfin : ∀ q, q = min (max m 0) 200 → BagAt 72 (w.alloc (.cells #[.slice none 0 0, .int .i64 q] 72)) B w.heap.size (.slice none 0 0) [] (min (max m 0) 200) ∧ New w (w.alloc (.cells #[.slice none 0 0, .int .i64 q] 72)) := by
    rintro q rfl
    exact ⟨⟨Blk.new w _ _, hB, Own.nil _ _ _ _, by decide, by simp; omega, by omega⟩, (Chg.refl w _).alloc _⟩
  have Hfin := Lib.hid hfin
  clear hfin
  go_enter Try.func16, Try.ntmps16
  go_wp2
  all_goals (go_ret; exact ⟨rfl, Hfin.out _ (by omega)⟩)

def okI (n : Nat) (i : Int) : Bool := decide (0 ≤ i) && decide (i < n)

set_option maxHeartbeats 1000000 in
set_option maxRecDepth 100000 in
theorem has_any (w : World) (B bb : Nat) (v : Value) (gs : List Gm) (most : Int) (h : BagAt 72 w B bb v gs most) (vb n : Nat) (is : List Int) (tb : TypeId) (hn : n = is.length) (hm : n ≤ 100) (hv : Blk w vb tb (is.map (Value.int .i64)).toArray) :
    Calls Try.prog 46 #[.pointer (some ⟨bb, 0, none⟩), .slice (some ⟨vb, 0, none⟩) n n] w fun e w' => e = .returned (.bool (is.all (okI gs.length))) ∧ w = w' := by
  obtain ⟨A', cap, hv', _⟩ := h.own.form
  have c0 := h.blk.cell 0
  simp only [List.getElem?_toArray, List.getElem?_cons_zero, List.getElem?_cons_succ] at c0
  rw [hv'] at c0
  simp only [List.length_map] at c0
  have hlim := h.lim
  have HN := Lib.hid hn
  have HV := Lib.hid hv
  clear hn hv h hv'
  go_enter Try.func46, Try.ntmps46
  go_wp2_with fail
  go_loopw [6, 9] (fun _ i wr => ∃ k : Nat, k ≤ n ∧ i = .int .i64 k ∧ w = wr ∧ (is.take k).all (okI gs.length) = true) (fun _ i _ => n - (intOf i).toNat)
  case atStart => exact ⟨0, Nat.zero_le _, rfl, rfl, rfl⟩
  case round =>
    obtain ⟨k, hk, rfl, rfl, hall⟩ := hrel
    have Hall := Lib.hid hall
    clear hall
    by_cases hlt : k < n
    · obtain ⟨x, hx⟩ : ∃ x, is[k]? = some x := ⟨_, List.getElem?_eq_getElem (by rw [← HN.out]; exact hlt)⟩
      have hc : w.cell? ⟨vb, k, none⟩ = some (.int .i64 x) := by
        rw [HV.out.cell]
        simp [hx]
      have Hx := Lib.hid hx
      clear hx
      by_cases h0 : x < 0
      · have hd0 : decide (x < 0) = true := by simpa using h0
        go_wp2_with fail
        go_ret
        refine ⟨?_, rfl⟩
        have : is.all (okI gs.length) = false := by
          rw [List.all_eq_false]
          exact ⟨x, List.mem_of_getElem? Hx.out, by simp [okI]; omega⟩
        rw [this]
        rfl
      · have hd0 : decide (x < 0) = false := by simpa using h0
        by_cases h1 : (gs.length : Int) ≤ x
        · have hd1 : decide ((gs.length : Int) ≤ x) = true := by simpa using h1
          go_wp2_with fail
          go_ret
          refine ⟨?_, rfl⟩
          have : is.all (okI gs.length) = false := by
            rw [List.all_eq_false]
            exact ⟨x, List.mem_of_getElem? Hx.out, by simp [okI]; omega⟩
          rw [this]
          rfl
        · have hd1 : decide ((gs.length : Int) ≤ x) = false := by simpa using h1
          go_wp2_with fail
          go_roundw
          case rel => exact ⟨k + 1, by omega, by go_num, (by first | rfl | trivial), by rw [take_succ_get Hx.out, List.all_append, Hall.out]; simp [okI]; omega⟩
          case measure => simp [intOf]; omega
    · go_wp2_with fail
      go_ret
      refine ⟨?_, rfl⟩
      have := Hall.out
      rw [List.take_of_length_le (by have := HN.out; omega)] at this
      rw [this]
      rfl

set_option maxHeartbeats 1000000 in
set_option maxRecDepth 100000 in
theorem all_any (w : World) (B bb : Nat) (v : Value) (gs : List Gm) (most : Int) (h : BagAt 72 w B bb v gs most) :
    Calls Try.prog 31 #[.pointer (some ⟨bb, 0, none⟩)] w fun e w' => ∃ v', e = .returned v' ∧ Own w' w.heap.size 33 3 v' (gs.map gcs) ∧ New w w' := by
  obtain ⟨A', cap, hv', _⟩ := h.own.form
  have c0 := h.blk.cell 0
  simp only [List.getElem?_toArray, List.getElem?_cons_zero, List.getElem?_cons_succ] at c0
  have hlim := h.lim
  have hcl := cloneGram w A' (gs.map gcs).length cap (gs.map gcs) rfl (fun hp => (h.own.rows hv').2 hp) (fun a ha => (h.own.lt (g := a.block) (by rw [hv', ha]; rfl)).2) (gcs_one gs) (by rw [List.length_map]; omega)
  rw [hv'] at c0
  simp only [List.length_map] at c0 hcl
  have Hcl := Lib.hid hcl
  clear hcl h hv'
  go_enter Try.func31, Try.ntmps31
  go_wp2_with fail
  refine Hcl.out.mono ?_
  rintro e w' ⟨v', rfl, ho, hc⟩
  have Ho := Lib.hid ho
  have Hc := Lib.hid hc
  clear ho hc
  go_wp2_with fail
  go_ret
  exact ⟨v', rfl, Ho.out, Hc.out⟩

end Go.Proofs.Ytenkobgeflckdaa
