/- graph: what Ways calls of the library: Clone, Clip, Index, Contains at names. -/
import Derived.Test.YtffmalagochakaaGraK
import Derived.Deep.CutRange
set_option linter.unusedVariables false
set_option linter.unusedSimpArgs false
namespace Go.Proofs.Ytffmalagochakaa
open Go.RowKit Go.Shelf

theorem elStr : ElT Try.prog 26 9 1 16 (Value.cells (.string ⟨#[]⟩)).toList :=
  ElT.mk' (by kernel_rfl) (by kernel_rfl) rfl (by omega) (by intro u hu; simp only [Value.cells, List.mem_cons, List.not_mem_nil, or_false] at hu; rcases hu with rfl; rfl)
theorem nmC_len {ns : List ByteArray} : ∀ cs ∈ ns.map nmC, cs.length = 1 := fun cs h => by
  obtain ⟨s, _, rfl⟩ := List.mem_map.1 h
  rfl
theorem nmC_one {ns : List ByteArray} : ∀ cs ∈ ns.map nmC, ∀ u ∈ cs, u.oneCell' = true := fun cs h u hu => by
  obtain ⟨s, _, rfl⟩ := List.mem_map.1 h
  rw [List.mem_singleton.1 hu]
  rfl
theorem Own.srcG {w : World} {B : Nat} {e : TypeId} {k : Nat} {A : Option Addr} {n c : Nat} {css : List (List Value)} (h : Own w B e k (.slice A n c) css) : n = css.length ∧ SrcAt w A k css := by
  obtain ⟨h1, h2⟩ := h.rows rfl
  exact ⟨h1, h2⟩
theorem Own.formG {w : World} {B : Nat} {e : TypeId} {k : Nat} {v : Value} {css : List (List Value)} (h : Own w B e k v css) : ∃ A c, v = .slice A css.length c ∧ css.length ≤ c ∧ c ≤ maxLen := by
  rcases h.1.2 with ⟨h1, h2⟩ | ⟨g, cap, cur, h1, _, _, h3, h4, _⟩
  · exact ⟨none, 0, by rw [h1, h2], by omega, Nat.zero_le _⟩
  · exact ⟨_, cap, h1, h3, h4⟩
/-- A copy. -/
def ClonePost (w : World) (ns : List ByteArray) (e : Ending) (w' : World) : Prop := ∃ x, e = .returned x ∧ Own w' w.heap.size 9 1 x (ns.map nmC) ∧ New w w'
set_option maxHeartbeats 1000000 in
set_option maxRecDepth 100000 in
theorem clone20 (w : World) (a : Addr) (n c : Nat) (ns : List ByteArray) (hn : n = ns.length) (hA : SrcAt w (some a) 1 (ns.map nmC)) (hb : n ≤ 1000000) :
    Calls Try.prog 20 #[.slice (some a) n c] w (ClonePost w ns) := by
  subst hn
  have hN1 : New w (w.alloc (.cells #[] 9)) := (Chg.refl _ _).alloc _
  have hO1 : Own (w.alloc (.cells #[] 9)) w.heap.size 9 1 (.slice (some ⟨w.heap.size, 0, none⟩) 0 0) [] := ⟨World.ownsRow_made w #[] 0 (Nat.le_refl _) (Nat.zero_le _) rfl, fun cs h => (by cases h)⟩
  obtain ⟨v', W', hrun, hown, hchg, -⟩ := elStr.appendS hO1 hN1.size (some a) ns.length c (ns.map nmC) (by rw [List.length_map]) nmC_len nmC_one (hA.chg hN1 (fun _ _ x => x)) (by rw [List.length_nil]; omega) (by rw [List.length_nil]; unfold maxLen; omega) 26
  have HR := Lib.hid hrun
  have HO := Lib.hid hown
  have HN := Lib.hid (hN1.trans hchg (fun k hk e => by cases e; exact absurd hk (Nat.lt_irrefl _)))
  have hq : ∀ w, (binOp .eql 26 (.slice (some a) ns.length c) (.slice none 0 0)).run Try.prog w = .ok (.bool false) w := fun _ => by kernel_rfl
  clear hrun hown hchg hN1 hO1 hA
  go_enter Try.func20, Try.ntmps20
  go_wp2_with ((with_reducible refine wpl_append rfl (.tmp 5) (.tmp 6) 26 26 rfl ?_ ?_ HR.out ?_); exact rfl; exact rfl)
  go_ret
  exact ⟨v', rfl, HO.out, HN.out⟩
set_option maxHeartbeats 1000000 in
set_option maxRecDepth 100000 in
theorem clip24 (w : World) (a : Addr) (n c : Nat) (hc : n ≤ c) :
    Calls Try.prog 24 #[.slice (some a) n c] w fun e w' => e = .returned (.slice (some a) n n) ∧ w = w' := by
  have k0 : (n : Int) ≤ (c : Int) := by omega
  have k1 : (0 : Int) ≤ (n : Int) := by omega
  go_enter Try.func24, Try.ntmps24
  go_wp2_with fail
  go_ret
  exact ⟨rfl, rfl⟩
set_option maxHeartbeats 2000000 in
set_option maxRecDepth 100000 in
theorem index29 (w : World) (a : Addr) (n c : Nat) (ns : List ByteArray) (hn : n = ns.length) (hA : SrcAt w (some a) 1 (ns.map nmC)) (x : ByteArray) (hb : n ≤ 1000000) :
    Calls Try.prog 29 #[.slice (some a) n c, .string x] w fun e w' => (∃ i : Int, e = .returned (.int .i64 i) ∧ -1 ≤ i ∧ (0 ≤ i ↔ x ∈ ns)) ∧ w = w' := by
  have HA := Lib.hid hA
  have HN := Lib.hid hn
  clear hA hn
  go_enter Try.func29, Try.ntmps29
  go_wp2_with fail
  go_loopw [8] (fun u wr => ∃ i : Nat, i ≤ n ∧ u = .int .i64 i ∧ x ∉ ns.take i ∧ w = wr) (fun u _ => n - (intOf u).toNat)
  case atStart => exact ⟨0, Nat.zero_le _, rfl, by simp, rfl⟩
  case round =>
    obtain ⟨i, hin, rfl, hno, hww⟩ := hrel
    have HNo := Lib.hid hno
    have HW := Lib.hid hww
    clear hno hww
    by_cases hlt : i < n
    · obtain ⟨s, hs⟩ : ∃ s, ns[i]? = some s := ⟨_, List.getElem?_eq_getElem (by rw [← HN.out]; exact hlt)⟩
      obtain ⟨a', e, hc⟩ := (show ∃ a', some a = some a' ∧ wr.cell? (a'.add i) = some (.string s) from by
        obtain ⟨a', ha, hr⟩ := HA.out (by rw [List.length_map, ← HN.out]; omega)
        have := (hr i (nmC s) (by rw [List.getElem?_map, hs]; rfl)).2 0 _ rfl
        rw [Nat.mul_one, add_add] at this
        rw [← HW.out]
        exact ⟨a', ha, this⟩)
      cases e
      have k0 : (0 : Int) ≤ (i : Int) := by omega
      have k1 : (i : Int) < (n : Int) := by omega
      have htk := take_succ_get hs
      by_cases hx : x = s
      · subst hx
        have hmem := List.mem_of_getElem? hs
        have Hm := Lib.hid hmem
        clear hs htk hmem
        go_wp2_with fail
        go_ret
        exact ⟨⟨i, rfl, by omega, ⟨fun _ => Hm.out, fun _ => by omega⟩⟩, HW.out⟩
      · have hxl : ¬ x.toList = s.toList := fun e => hx (tl_eqG e)
        have hq : (x.toList == s.toList) = false := by simpa using hxl
        have Hno := Lib.hid (show x ∉ ns.take (i + 1) by
          rw [htk, List.mem_append, List.mem_singleton]
          exact fun h => h.elim HNo.out hx)
        clear hs htk hx
        go_wp2_with fail
        go_roundw
        case rel => exact ⟨i + 1, by omega, by go_num, Hno.out, HW.out⟩
        case measure => simp only [intOf]; omega
    · have HF := Lib.hid (show x ∉ ns by have := HNo.out; rw [List.take_of_length_le (by rw [← HN.out]; omega)] at this; exact this)
      go_wp2_with fail
      go_ret
      exact ⟨⟨-1, rfl, by omega, ⟨fun h => absurd h (by omega), fun h => absurd h HF.out⟩⟩, HW.out⟩
def inN (ns : List ByteArray) (x : ByteArray) : Bool := ns.any (fun s => decide (s = x))
theorem inN_iff {ns : List ByteArray} {x : ByteArray} : inN ns x = true ↔ x ∈ ns := by
  unfold inN
  rw [List.any_eq_true]
  exact ⟨fun ⟨s, h, e⟩ => by rw [← of_decide_eq_true e]; exact h, fun h => ⟨x, h, decide_eq_true rfl⟩⟩
theorem contains23 (w : World) (a : Addr) (n c : Nat) (ns : List ByteArray) (hn : n = ns.length) (hA : SrcAt w (some a) 1 (ns.map nmC)) (x : ByteArray) (hb : n ≤ 1000000) :
    Calls Try.prog 23 #[.slice (some a) n c, .string x] w fun e w' => e = .returned (.bool (inN ns x)) ∧ w = w' := by
  have H1 := Lib.hid (index29 w a n c ns hn hA x hb)
  clear hA hn
  go_enter Try.func23, Try.ntmps23
  go_wp2_with (go_at_call 29; refine H1.out.mono ?_; rintro e w' ⟨⟨i, rfl, hi, him⟩, rfl⟩; have Hi := Lib.hid him; clear him)
  go_ret
  refine ⟨?_, rfl⟩
  have : decide (0 ≤ i) = inN ns x := by
    cases hb : inN ns x with
    | true => exact decide_eq_true (Hi.out.2 (inN_iff.1 hb))
    | false => exact decide_eq_false (fun h => by rw [inN_iff.2 (Hi.out.1 h)] at hb; cases hb)
  exact congrArg (fun b => Ending.returned (Value.bool b)) this
/-- One put behind what has no room left. -/
theorem app_clip {W : World} {a : Addr} {ns : List ByteArray} {n : Nat} (hn : n = ns.length) (hA : SrcAt W (some a) 1 (ns.map nmC)) (hb : n ≤ 1000000) (s : ByteArray) (x : Nat) (hS : Blk W x 9 #[.string s]) (ty : TypeId) :
    ∃ v' W', (Builtin.append_ #[26, 26] ty #[.slice (some a) n n, .slice (some ⟨x, 0, none⟩) 1 1]).run Try.prog W = .ok v' W' ∧ Own W' W.heap.size 9 1 v' ((ns ++ [s]).map nmC) ∧ New W W' := by
  obtain ⟨i, z, hi, hz, hs, hby, hzz, hzl⟩ := elStr.info
  have hlen : (ns.map nmC).flatten.length = n := by rw [flatten_len nmC_len, List.length_map, Nat.mul_one, hn]
  have hflat : ∀ l : List ByteArray, (l.map nmC).flatten = l.map Value.string := fun l => by
    induction l with
    | nil => rfl
    | cons x l ih => rw [List.map_cons, List.flatten_cons, ih]; rfl
  have holds : ∀ j u, (ns.map nmC).flatten[j]? = some u → W.cell? (a.add j) = some u := fun j u hj => by
    rw [hflat, List.getElem?_map] at hj
    cases hq : ns[j]? with
    | none => rw [hq] at hj; cases hj
    | some t =>
      rw [hq] at hj
      obtain rfl : Value.string t = u := by simpa using hj
      obtain ⟨a', ha, hr⟩ := hA (by rw [List.length_map]; exact Nat.lt_of_le_of_lt (Nat.zero_le _) (List.getElem?_eq_some_iff.1 hq).1)
      cases ha
      have := (hr j (nmC t) (by rw [List.getElem?_map, hq]; rfl)).2 0 _ rfl
      rw [Nat.mul_one, add_add] at this
      exact this
  have hr := run_append_grow (P := Try.prog) W 26 ty 9 i z elStr.und hi hz a n n (ns.map nmC).flatten (by rw [hlen, hs, Nat.mul_one]) holds ⟨x, 0, none⟩ 1 1 [.string s] (by rw [hs]; rfl) (fun j u hj => by
    match j, hj with
    | 0, hj => cases hj; exact hS.cell 0
    | j + 1, hj => simp at hj) (by omega) (by omega) (growslice_fits (by omega) (by rw [hby]; omega))
  have hge := grownCap_ge W (n + 1) n 9
  have hgm := grownCap_le_maxLen W (n + 1) n 9 (by unfold maxLen; omega)
  refine ⟨_, _, hr, ⟨⟨?_, .inr ⟨W.heap.size, _, _, by rw [List.length_map, List.length_append, List.length_singleton, ← hn], Nat.le_refl _, heap_alloc_new _ _, ?_, hgm, ?_, ?_⟩⟩, nmC_len⟩, (Chg.refl _ _).drew.alloc _⟩
  · rw [flatten_len nmC_len]
  · rw [List.length_map, List.length_append, List.length_singleton, ← hn]; exact hge
  · simp only [Array.size_append, List.size_toArray, size_zeroCells, hlen, ← Array.length_toList (xs := z.cells), hzz, hzl]
    simp
    omega
  · rw [List.length_map, List.length_append, List.length_singleton, ← hn, Nat.mul_one, hflat, hflat, List.map_append]
    simp only [Array.toList_append, List.map_cons, List.map_nil]
    rw [List.take_append_of_le_length (by simp [hn])]
    rw [List.take_of_length_le (by simp [hn])]
end Go.Proofs.Ytffmalagochakaa
