/- A bag beside other memory: S are the blocks that are none of the bag's. -/
import Derived.Test.YtenkobgeflckdaaBag6
set_option linter.unusedVariables false
set_option linter.unusedSimpArgs false
namespace Go.Proofs.Ytenkobgeflckdaa
open Go.RowKit Go.Shelf

structure BagS (t : TypeId) (w W : World) (bb : Nat) (gs : List Gm) (most : Int) (S : Nat → Prop) : Prop where
  new : New w W
  bag : ∃ v, BagAt t W w.heap.size bb v gs most ∧ ∀ k, Terr bb v k → ¬ S k
  lt : ∀ k, S k → k < W.heap.size
def BagGo (t : TypeId) (w W : World) (bb : Nat) (gs : List Gm) (most : Int) (S : Nat → Prop) (r : Value) (e : Ending) (W' : World) : Prop :=
  e = .returned r ∧ BagS t w W' bb gs most S ∧ Chg W W' (fun k => ¬ S k)

section
variable {t : TypeId} {w W W' : World} {bb : Nat} {gs gs' : List Gm} {most : Int} {S : Nat → Prop} {P : Program} {f : FuncId} {args : Array Value} {r : Value}
theorem BagAt.terr_lt {B : Nat} {v : Value} (h : BagAt t W B bb v gs most) {k : Nat} (hk : Terr bb v k) : B ≤ k ∧ k < W.heap.size := by
  rcases hk with rfl | hk
  · exact ⟨h.lo, h.blk.lt⟩
  · exact h.own.lt hk
theorem BagS.lim (h : BagS t w W bb gs most S) : gs.length ≤ 200 ∧ (gs.length : Int) ≤ most ∧ most ≤ 200 := by
  obtain ⟨v, hb, _⟩ := h.bag
  exact ⟨hb.lim, hb.le, hb.m200⟩
theorem BagS.go (h : BagS t w W bb gs most S) (hc : ∀ v, BagAt t W w.heap.size bb v gs most → Calls P f args W (BagTo t W w.heap.size bb v gs' most r)) : Calls P f args W (BagGo t w W bb gs' most S r) := by
  obtain ⟨v, hb, hs⟩ := h.bag
  refine (hc v hb).mono ?_
  rintro e W' ⟨he, hch, v', hb', hk⟩
  refine ⟨he, ⟨h.new.trans hch (fun k hlt hk => absurd (hb.terr_lt hk).1 (by omega)), ⟨v', hb', fun k hk' hS => ?_⟩, fun k hS => Nat.lt_of_lt_of_le (h.lt k hS) hch.size⟩, hch.mono fun k _ hk => hs k hk⟩
  rcases hk k hk' with h1 | h1
  · exact hs k h1 hS
  · have := h.lt k hS; omega
theorem BagS.stay (h : BagS t w W bb gs most S) (hc : New W W') : BagS t w W' bb gs most S := by
  obtain ⟨v, hb, hs⟩ := h.bag
  exact ⟨h.new.trans hc (fun _ _ x => x), ⟨v, hb.chg hc (fun _ _ x => x), hs⟩, fun k hk => Nat.lt_of_lt_of_le (h.lt k hk) hc.size⟩
/-- Blocks laid since may be added. -/
theorem BagS.add (h : BagS t w W bb gs most S) (hc : New W W') (T : Nat → Prop) (hT : ∀ k, T k → W.heap.size ≤ k ∧ k < W'.heap.size) : BagS t w W' bb gs most (fun k => S k ∨ T k) := by
  obtain ⟨v, hb, hs⟩ := h.bag
  refine ⟨h.new.trans hc (fun _ _ x => x), ⟨v, hb.chg hc (fun _ _ x => x), fun k hk hS => ?_⟩, fun k hk => ?_⟩
  · rcases hS with h1 | h1
    · exact hs k hk h1
    · have h2 := (hb.terr_lt hk).2
      have := (hT k h1).1
      omega
  · rcases hk with h1 | h1
    · exact Nat.lt_of_lt_of_le (h.lt k h1) hc.size
    · exact (hT k h1).2
theorem BagS.less (h : BagS t w W bb gs most S) {S' : Nat → Prop} (hs : ∀ k, S' k → S k) : BagS t w W bb gs most S' := by
  obtain ⟨v, hb, h1⟩ := h.bag
  exact ⟨h.new, ⟨v, hb, fun k hk hS => h1 k hk (hs k hS)⟩, fun k hk => h.lt k (hs k hk)⟩
end

section
variable {w W : World} {bb : Nat} {gs : List Gm} {most : Int} {S : Nat → Prop}
theorem new_s (m : Int) (hN : New w W) (S : Nat → Prop) (hS : ∀ k, S k → k < W.heap.size) : Calls Try.prog 16 #[.int .i64 m] W fun e W' => e = .returned (.pointer (some ⟨W.heap.size, 0, none⟩)) ∧ BagS 72 w W' W.heap.size [] (min (max m 0) 200) S ∧ New W W' := by
  refine (new_any m W w.heap.size hN.size).mono ?_
  rintro e W' ⟨he, hb, hc⟩
  refine ⟨he, ⟨hN.trans hc (fun _ _ x => x), ⟨_, hb, fun k hk hk' => ?_⟩, fun k hk => Nat.lt_of_lt_of_le (hS k hk) hc.size⟩, hc⟩
  rcases hk with rfl | hk
  · exact absurd (hS _ hk') (by omega)
  · cases hk
theorem put_s (h : BagS 72 w W bb gs most S) (x : Gm) : Calls Try.prog 19 #[.pointer (some ⟨bb, 0, none⟩), gval x] W (BagGo 72 w W bb (putL gs most x) most S (.bool (putOk gs most))) :=
  h.go fun v hb => put_any W _ bb v gs most hb hb.m200 x h.new.size
theorem take_s_no (h : BagS 72 w W bb gs most S) (i : Int) (hi : okI gs.length i = false) : Calls Try.prog 22 #[.pointer (some ⟨bb, 0, none⟩), .int .i64 i] W (BagGo 72 w W bb gs most S (.tuple #[gval zeroG, .bool false])) :=
  h.go fun v hb => take_no W _ bb v gs most hb i hi
theorem take_s_yes (h : BagS 72 w W bb gs most S) (i : Nat) (x : Gm) (hx : gs[i]? = some x) : Calls Try.prog 22 #[.pointer (some ⟨bb, 0, none⟩), .int .i64 i] W (BagGo 72 w W bb (gs.eraseIdx i) most S (.tuple #[gval x, .bool true])) :=
  h.go fun v hb => take_yes W _ bb v gs most hb i x hx
theorem again_s_no (h : BagS 72 w W bb gs most S) (i : Int) (hi : okI gs.length i = false) : Calls Try.prog 24 #[.pointer (some ⟨bb, 0, none⟩), .int .i64 i] W (BagGo 72 w W bb gs most S (.bool false)) :=
  h.go fun v hb => again_no W _ bb v gs most hb i hi
theorem again_s_yes (h : BagS 72 w W bb gs most S) (i : Nat) (x : Gm) (hx : gs[i]? = some x) : Calls Try.prog 24 #[.pointer (some ⟨bb, 0, none⟩), .int .i64 i] W (BagGo 72 w W bb (putL gs most x) most S (.bool (putOk gs most))) :=
  h.go fun v hb => again_yes W _ bb v gs most hb h.new.size i x hx
theorem move_s_no (h : BagS 72 w W bb gs most S) (i k : Int) (hi : (okI gs.length i && okI gs.length k) = false) : Calls Try.prog 26 #[.pointer (some ⟨bb, 0, none⟩), .int .i64 i, .int .i64 k] W (BagGo 72 w W bb gs most S (.bool false)) :=
  h.go fun v hb => move_no W _ bb v gs most hb i k hi
theorem move_s_yes (h : BagS 72 w W bb gs most S) (i k : Nat) (x : Gm) (hx : gs[i]? = some x) (hk : k < gs.length) : Calls Try.prog 26 #[.pointer (some ⟨bb, 0, none⟩), .int .i64 i, .int .i64 k] W (BagGo 72 w W bb ((gs.eraseIdx i).take k ++ x :: (gs.eraseIdx i).drop k) most S (.bool true)) :=
  h.go fun v hb => move_yes W _ bb v gs most hb h.new.size i k x hx hk
theorem cut_s (h : BagS 72 w W bb gs most S) (a c : ByteArray) : Calls Try.prog 28 #[.pointer (some ⟨bb, 0, none⟩), .string a, .string c] W (BagGo 72 w W bb (gs.filter fun x => !cutP a c x) most S (.int .i64 ((gs.length : Int) - (gs.filter fun x => !cutP a c x).length))) :=
  h.go fun v hb => cut_any W _ bb v gs most hb a c

/-- Grams in a slice. -/
def Grams (W : World) (v : Value) (gs : List Gm) : Prop := ∃ A c, v = .slice A gs.length c ∧ gs.length ≤ c ∧ c ≤ maxLen ∧ (0 < gs.length → ∃ a, A = some a ∧ RowsAt W a 3 (gs.map gcs)) ∧ ∀ a, A = some a → a.block < W.heap.size
def gblk : Value → Nat → Prop | .slice (some a) _ _, k => k = a.block | _, _ => False
theorem Grams.chg {v : Value} {W' : World} {T : Nat → Prop} (h : Grams W v gs) (hc : Chg W W' T) (hn : ∀ k, gblk v k → ¬ T k) : Grams W' v gs := by
  obtain ⟨A, c, rfl, h1, h2, h3, h4⟩ := h
  refine ⟨A, c, rfl, h1, h2, fun hp => ?_, fun a ha => Nat.lt_of_lt_of_le (h4 a ha) hc.size⟩
  obtain ⟨a, rfl, hr⟩ := h3 hp
  exact ⟨a, rfl, hr.chg hc (hn _ rfl)⟩
theorem Own.grams {B : Nat} {v : Value} (h : Own W B 33 3 v (gs.map gcs)) : Grams W v gs := by
  obtain ⟨A, c, hv, h1, h2⟩ := h.form
  rw [List.length_map] at hv h1
  refine ⟨A, c, hv, h1, h2, fun hp => ?_, fun a ha => (h.lt (g := a.block) (by rw [hv, ha]; rfl)).2⟩
  exact (h.rows hv).2 (by rw [List.length_map]; exact hp)
theorem Blk.rowsAt {g : Nat} {t : TypeId} {k : Nat} {css : List (List Value)} (h : Blk W g t css.flatten.toArray) (hk : ∀ cs ∈ css, cs.length = k) : RowsAt W ⟨g, 0, none⟩ k css := by
  intro i cs hi
  refine ⟨hk cs (List.mem_of_getElem? hi), fun j u hj => ?_⟩
  rw [Addr.add_lit, Nat.zero_add, Addr.add_lit, h.cell]
  rw [List.getElem?_toArray]
  exact flatten_get hk hi hj
theorem Blk.grams {g : Nat} {t : TypeId} (h : Blk W g t ((gs.map gcs).flatten).toArray) (hl : gs.length ≤ maxLen) : Grams W (.slice (some ⟨g, 0, none⟩) gs.length gs.length) gs :=
  ⟨_, _, rfl, Nat.le_refl _, hl, fun _ => ⟨_, rfl, h.rowsAt (gcs_len gs)⟩, fun a ha => by cases ha; exact h.lt⟩
theorem Own.gblk {B : Nat} {v : Value} (h : Own W B 33 3 v (gs.map gcs)) {k : Nat} (hk : gblk v k) : B ≤ k ∧ k < W.heap.size := by
  obtain ⟨A, c, hv, _⟩ := h.form
  subst hv
  cases A with
  | none => cases hk
  | some a =>
    rw [show k = a.block from hk]
    exact h.lt (g := a.block) rfl
theorem all_s (h : BagS 72 w W bb gs most S) : Calls Try.prog 31 #[.pointer (some ⟨bb, 0, none⟩)] W fun e W' => ∃ v', e = .returned v' ∧ Grams W' v' gs ∧ New W W' ∧ BagS 72 w W' bb gs most (fun k => S k ∨ gblk v' k) := by
  obtain ⟨v, hb, _⟩ := h.bag
  refine (all_any W _ bb v gs most hb).mono ?_
  rintro e W' ⟨v', he, ho, hc⟩
  exact ⟨v', he, ho.grams, hc, h.add hc _ fun k hk => ho.gblk hk⟩
end
end Go.Proofs.Ytenkobgeflckdaa
