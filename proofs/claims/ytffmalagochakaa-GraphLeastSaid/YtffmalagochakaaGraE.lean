/- The laws of graphs: the example, plain. -/
import Derived.Test.YtffmalagochakaaGraA
set_option linter.unusedVariables false
set_option linter.unusedSimpArgs false
namespace Go.Proofs.Ytffmalagochakaa
open Go.RowKit Go.Shelf

def nX : ByteArray := ⟨#[120]⟩
def nY : ByteArray := ⟨#[121]⟩
def nZ : ByteArray := ⟨#[122]⟩
def exE : List Ed := [⟨nX, nY, 1⟩, ⟨nY, nZ, 2⟩, ⟨nX, nZ, 5⟩]
theorem xy : nX ≠ nY := by decide
theorem yz : nY ≠ nZ := by decide
theorem xz : nX ≠ nZ := by decide
theorem exE_fit : ∀ e ∈ exE, e.Fit := by
  intro e he
  simp only [exE, List.mem_cons, List.not_mem_nil, or_false] at he
  rcases he with rfl | rfl | rfl <;> exact ⟨by show (1 : Nat) ≤ maxLen; unfold maxLen; omega, by show (1 : Nat) ≤ maxLen; unfold maxLen; omega, by show (-9223372036854775808 : Int) ≤ _; decide, by show (_ : Int) ≤ 9223372036854775807; decide⟩
theorem exE_edge {u v : ByteArray} {c : Int} (h : RE exE u v c) : (u = nX ∧ v = nY ∧ c = 1) ∨ (u = nY ∧ v = nZ ∧ c = 2) ∨ (u = nX ∧ v = nZ ∧ c = 5) := by
  obtain ⟨e, he, _, rfl, rfl, rfl⟩ := h
  simp only [exE, List.mem_cons, List.not_mem_nil, or_false] at he
  rcases he with rfl | rfl | rfl
  · exact .inl ⟨rfl, rfl, rfl⟩
  · exact .inr (.inl ⟨rfl, rfl, rfl⟩)
  · exact .inr (.inr ⟨rfl, rfl, rfl⟩)
theorem exE_xy : RE exE nX nY 1 := ⟨⟨nX, nY, 1⟩, .head _, ⟨xy, by decide, by decide⟩, rfl, rfl, rfl⟩
theorem exE_yz : RE exE nY nZ 2 := ⟨⟨nY, nZ, 2⟩, .tail _ (.head _), ⟨yz, by decide, by decide⟩, rfl, rfl, rfl⟩
theorem exE_xz : RE exE nX nZ 5 := ⟨⟨nX, nZ, 5⟩, .tail _ (.tail _ (.head _)), ⟨xz, by decide, by decide⟩, rfl, rfl, rfl⟩
theorem exE_walk {u v : ByteArray} {c : Int} (h : Wk (RE exE) u v c) : (u = nX ∧ v = nY ∧ c = 1) ∨ (u = nY ∧ v = nZ ∧ c = 2) ∨ (u = nX ∧ v = nZ ∧ (c = 3 ∨ c = 5)) := by
  induction h with
  | one h =>
    rcases exE_edge h with ⟨h1, h2, h3⟩ | ⟨h1, h2, h3⟩ | ⟨h1, h2, h3⟩
    · exact .inl ⟨h1, h2, h3⟩
    · exact .inr (.inl ⟨h1, h2, h3⟩)
    · exact .inr (.inr ⟨h1, h2, .inr h3⟩)
  | cons h _ ih =>
    rcases exE_edge h with ⟨h1, h2, h3⟩ | ⟨h1, h2, h3⟩ | ⟨h1, h2, h3⟩ <;> rcases ih with ⟨g1, g2, g3⟩ | ⟨g1, g2, g3⟩ | ⟨g1, g2, g3⟩
    · rw [h2] at g1; exact absurd g1.symm xy
    · exact .inr (.inr ⟨h1, g2, .inl (by omega)⟩)
    · rw [h2] at g1; exact absurd g1.symm xy
    · rw [h2] at g1; exact absurd g1.symm xz
    · rw [h2] at g1; exact absurd g1.symm yz
    · rw [h2] at g1; exact absurd g1.symm xz
    · rw [h2] at g1; exact absurd g1.symm xz
    · rw [h2] at g1; exact absurd g1.symm yz
    · rw [h2] at g1; exact absurd g1.symm xz
theorem ex_xz : dst exE nX nZ = some 3 := dst_spec (.inr ⟨3, rfl, .cons exE_xy (.one exE_yz), fun d h => by
  rcases exE_walk h with ⟨_, h2, _⟩ | ⟨h1, _, _⟩ | ⟨_, _, h3⟩
  · exact absurd h2.symm yz
  · exact absurd h1 xy
  · omega⟩)
theorem ex_zx : dst exE nZ nX = none := dst_spec (.inl ⟨rfl, fun d h => by
  rcases exE_walk h with ⟨h1, _⟩ | ⟨h1, _⟩ | ⟨h1, _⟩
  · exact xz h1.symm
  · exact yz h1.symm
  · exact xz h1.symm⟩)
theorem up_yz : bsL nY ≤ bsL nZ ∧ nY ≠ nZ := ⟨by decide, yz⟩
theorem sz1 (s : ByteArray) (h : s.size = 1) : s.size ≤ maxLen := by rw [h]; unfold maxLen; omega
theorem ex_reach (hd : ∀ v, DistO (RE exE) nX v (dst exE nX v)) : KeysF (dst exE nX) [nY, nZ] := by
  refine ⟨fun s => ⟨fun h => ?_, fun ⟨_, h⟩ => ?_⟩, by simp [up_yz.1, yz]⟩
  · simp only [List.mem_cons, List.not_mem_nil, or_false] at h
    rcases h with rfl | rfl
    · refine ⟨sz1 _ rfl, ?_⟩
      rcases hd nY with ⟨_, h⟩ | ⟨d, h, _⟩
      · exact absurd (.one exE_xy) (h 1)
      · rw [h]; rfl
    · refine ⟨sz1 _ rfl, ?_⟩
      rw [ex_xz]; rfl
  · rcases hd s with ⟨h1, _⟩ | ⟨d, h1, h2, _⟩
    · rw [h1] at h; cases h
    · rcases exE_walk h2 with ⟨_, h2, _⟩ | ⟨_, h2, _⟩ | ⟨_, h2, _⟩ <;> rw [h2] <;> simp
theorem ex_tab {u v : ByteArray} : tabF exE u v = if u = nX ∧ v = nZ then some 5 else if u = nY ∧ v = nZ then some 2 else if u = nX ∧ v = nY then some 1 else none := by
  have h1 : (Ed.mk nX nY 1).ok = true := by decide
  have h2 : (Ed.mk nY nZ 2).ok = true := by decide
  have h3 : (Ed.mk nX nZ 5).ok = true := by decide
  have e : tabF exE = updT (updT (updT (fun _ _ => none) nX nY 1) nY nZ 2) nX nZ 5 := by
    show putE (putE (putE (fun _ _ => none) ⟨nX, nY, 1⟩) ⟨nY, nZ, 2⟩) ⟨nX, nZ, 5⟩ = _
    rw [putE_put (T := fun _ _ => none) h1 (fun c h => by cases h), putE_put h2 (fun c h => by simp [updT, updF, Ne.symm xy] at h), putE_put h3 (fun c h => by simp [updT, updF, xy, Ne.symm yz] at h)]
  rw [e]
  simp only [updT, updF]
  by_cases hx : u = nX
  · subst hx
    by_cases hz : v = nZ
    · subst hz; simp [xy, updF]
    · by_cases hy : v = nY
      · subst hy; simp [xy, yz, updF]
      · simp [hz, hy, xy, updF]
  · by_cases hy : u = nY
    · subst hy
      by_cases hz : v = nZ
      · subst hz; simp [Ne.symm xy, updF]
      · simp [hz, Ne.symm xy, updF]
    · simp [hx, hy]
theorem ex_kx : keysOf (tabF exE nX) = [nY, nZ] := KeysF.eq ⟨fun s => by
  rw [ex_tab]
  simp only [List.mem_cons, List.not_mem_nil, or_false]
  constructor
  · rintro (rfl | rfl)
    · exact ⟨sz1 _ rfl, by simp [xy, yz]⟩
    · exact ⟨sz1 _ rfl, by simp⟩
  · rintro ⟨_, h⟩
    by_cases hz : s = nZ
    · exact .inr hz
    · by_cases hy : s = nY
      · exact .inl hy
      · simp [hz, hy, xy] at h, by simp [up_yz.1, yz]⟩
theorem ex_ky : keysOf (tabF exE nY) = [nZ] := KeysF.eq ⟨fun s => by
  rw [ex_tab]
  simp only [List.mem_cons, List.not_mem_nil, or_false]
  constructor
  · rintro rfl
    exact ⟨sz1 _ rfl, by simp [Ne.symm xy]⟩
  · rintro ⟨_, h⟩
    by_cases hz : s = nZ
    · exact hz
    · simp [hz, Ne.symm xy] at h, by simp⟩
theorem ex_rem : rem (exE.map (·.b)) [nX] = 3 := by decide
theorem ex_ways : waysOf exE nX nZ = [[nX, nY, nZ], [nX, nZ]] := by
  unfold waysOf
  rw [if_neg xz, ex_rem]
  rw [waysR_on (show lastN [nX] ≠ nZ from xz), show lastN [nX] = nX from rfl, ex_kx]
  have h1 : wStep (tabF exE) nZ 3 [nX] [] nY = [[nX, nY, nZ]] := by
    unfold wStep
    rw [if_pos ⟨by decide, by decide⟩]
    show waysR _ nZ 3 [nX, nY] [] = _
    rw [waysR_on (show lastN [nX, nY] ≠ nZ from yz), show lastN [nX, nY] = nY from rfl, ex_ky]
    show wStep (tabF exE) nZ 2 [nX, nY] [] nZ = _
    unfold wStep
    rw [if_pos ⟨by decide, by decide⟩]
    show waysR _ nZ 2 [nX, nY, nZ] [] = _
    rw [waysR_end (show lastN [nX, nY, nZ] = nZ from rfl)]
    rfl
  have h2 : wStep (tabF exE) nZ 3 [nX] [[nX, nY, nZ]] nZ = [[nX, nY, nZ], [nX, nZ]] := by
    unfold wStep
    rw [if_pos ⟨by decide, by decide⟩]
    show waysR _ nZ 3 [nX, nZ] [[nX, nY, nZ]] = _
    rw [waysR_end (show lastN [nX, nZ] = nZ from rfl)]
    rfl
  show wStep _ _ _ _ (wStep _ _ _ _ [] nY) nZ = _
  rw [h1, h2]
theorem ex_cost : PC (TR (tabF exE)) [nX, nZ] 5 := PC.cons (c := 5) (d := 0) (by show tabF exE nX nZ = some 5; rw [ex_tab]; simp) (PC.one nZ)
theorem Own.lit {w : World} {g : Nat} {e : TypeId} {k n : Nat} {css : List (List Value)} (hb : Blk w g e css.flatten.toArray) (hn : n = css.length) (hk : ∀ cs ∈ css, cs.length = k) (hm : n ≤ maxLen) : Own w 0 e k (.slice (some ⟨g, 0, none⟩) n n) css := by
  have hf := flatten_len hk
  exact ⟨⟨hf, .inr ⟨g, n, css.flatten.toArray, by rw [hn], Nat.zero_le _, hb, by rw [hn]; exact Nat.le_refl _, hm, by rw [List.size_toArray, hf, hn], by rw [← hf]; exact List.take_length⟩⟩, hk⟩
/-- The example's ways against those that are written out. -/
theorem ex16 (W : World) (B : Nat) (v : Value) (xs : List Value) (h : WaysAt W B v xs [[nX, nY, nZ], [nX, nZ]]) :
    Calls Try.prog 16 #[v, .slice (some ⟨W.heap.size + 2, 0, none⟩) 2 2] (((W.alloc (.cells #[.string ⟨#[120]⟩, .string ⟨#[121]⟩, .string ⟨#[122]⟩] 9)).alloc (.cells #[.string ⟨#[120]⟩, .string ⟨#[122]⟩] 9)).alloc (.cells #[.slice (some ⟨W.heap.size, 0, none⟩) 3 3, .slice (some ⟨W.heap.size + 1, 0, none⟩) 2 2] 26)) fun e w' => e = .returned (.bool true) ∧ New W w' := by
  have b1 : Blk (W.alloc (.cells #[.string ⟨#[120]⟩, .string ⟨#[121]⟩, .string ⟨#[122]⟩] 9)) W.heap.size 9 #[.string ⟨#[120]⟩, .string ⟨#[121]⟩, .string ⟨#[122]⟩] := Blk.new _ _ _
  generalize hw1 : W.alloc (.cells #[.string ⟨#[120]⟩, .string ⟨#[121]⟩, .string ⟨#[122]⟩] 9) = w1 at b1 ⊢
  have hN1 : New W w1 := by rw [← hw1]; exact (Chg.refl _ _).alloc _
  have hs1 : w1.heap.size = W.heap.size + 1 := by rw [← hw1]; simp
  have b2 : Blk (w1.alloc (.cells #[.string ⟨#[120]⟩, .string ⟨#[122]⟩] 9)) w1.heap.size 9 #[.string ⟨#[120]⟩, .string ⟨#[122]⟩] := Blk.new _ _ _
  have b1' := b1.chg (T := fun _ => False) ((Chg.refl _ _).alloc (.cells #[.string ⟨#[120]⟩, .string ⟨#[122]⟩] 9)) id
  generalize hw2 : w1.alloc (.cells #[.string ⟨#[120]⟩, .string ⟨#[122]⟩] 9) = w2 at b2 b1' ⊢
  have hN2 : New w1 w2 := by rw [← hw2]; exact (Chg.refl _ _).alloc _
  have hs2 : w2.heap.size = W.heap.size + 2 := by rw [← hw2]; simp [hs1]
  have b3 : Blk (w2.alloc (.cells #[.slice (some ⟨W.heap.size, 0, none⟩) 3 3, .slice (some ⟨W.heap.size + 1, 0, none⟩) 2 2] 26)) w2.heap.size 26 #[.slice (some ⟨W.heap.size, 0, none⟩) 3 3, .slice (some ⟨W.heap.size + 1, 0, none⟩) 2 2] := Blk.new _ _ _
  have hN3 : New w2 (w2.alloc (.cells #[.slice (some ⟨W.heap.size, 0, none⟩) 3 3, .slice (some ⟨W.heap.size + 1, 0, none⟩) 2 2] 26)) := (Chg.refl _ _).alloc _
  generalize w2.alloc (.cells #[.slice (some ⟨W.heap.size, 0, none⟩) 3 3, .slice (some ⟨W.heap.size + 1, 0, none⟩) 2 2] 26) = w3 at b3 hN3 ⊢
  have hN : New W w3 := (hN1.trans hN2 (fun _ _ x => x)).trans hN3 (fun _ _ x => x)
  rw [hs2] at b3
  rw [hs1] at b2
  have h2 : WaysAt w3 0 (.slice (some ⟨W.heap.size + 2, 0, none⟩) 2 2) [.slice (some ⟨W.heap.size, 0, none⟩) 3 3, .slice (some ⟨W.heap.size + 1, 0, none⟩) 2 2] [[nX, nY, nZ], [nX, nZ]] := by
    refine ⟨Own.lit (css := [[.slice (some ⟨W.heap.size, 0, none⟩) 3 3], [.slice (some ⟨W.heap.size + 1, 0, none⟩) 2 2]]) b3 rfl (by simp) (by decide), rfl, fun i x l hx hl => ?_⟩
    match i with
    | 0 =>
      cases hx; cases hl
      exact Own.lit (css := [nX, nY, nZ].map nmC) (b1'.chg hN3 id) rfl nmC_len (by decide)
    | 1 =>
      cases hx; cases hl
      exact Own.lit (css := [nX, nZ].map nmC) (b2.chg hN3 id) rfl nmC_len (by decide)
    | i + 2 => simp at hx
  exact (ways16 w3 B 0 v _ xs _ _ (h.new hN) h2 (by decide) (fun l hl => by simp at hl; rcases hl with rfl | rfl <;> decide)).mono (fun e w' ⟨h1, h2⟩ => ⟨h1, hN.trans h2 (fun _ _ x => x)⟩)
end Go.Proofs.Ytffmalagochakaa
