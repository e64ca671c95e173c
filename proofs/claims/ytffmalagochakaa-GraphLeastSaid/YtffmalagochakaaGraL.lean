/- The laws of graphs: what they share. -/
import Derived.Test.YtffmalagochakaaGraW
import Derived.Test.YtffmalagochakaaGra2
set_option linter.unusedVariables false
set_option linter.unusedSimpArgs false
namespace Go.Proofs.Ytffmalagochakaa
open Go.RowKit Go.Shelf

theorem nmL_size {s : ByteArray} (h : s ∈ nmL) : s.size ≤ maxLen := by
  simp only [nmL, List.mem_cons, List.not_mem_nil, or_false] at h
  rcases h with rfl | rfl | rfl | rfl | rfl <;> exact sz1 _ rfl
theorem Ed.Raw.fit {e : Ed} (h : e.Raw) : e.Fit := ⟨nmL_size h.a, nmL_size h.b, by have := h.lo; omega, by have := h.hi; omega⟩
theorem sub_len {l m : List ByteArray} (hn : l.Nodup) (hs : ∀ x ∈ l, x ∈ m) : l.length ≤ m.length := by
  induction l generalizing m with
  | nil => exact Nat.zero_le _
  | cons x l ih =>
    have hn2 := List.nodup_cons.1 hn
    obtain ⟨a, b, rfl⟩ := List.append_of_mem (hs x (by simp))
    have := ih (m := a ++ b) hn2.2 (fun y hy => by
      have h1 := hs y (by simp [hy])
      rw [List.mem_append, List.mem_cons] at h1
      rw [List.mem_append]
      rcases h1 with h1 | h1 | h1
      · exact .inl h1
      · rw [h1] at hy; exact absurd hy hn2.1
      · exact .inr h1)
    rw [List.length_append] at this ⊢
    simp only [List.length_cons]
    omega
/-- Edges among the five, no dearer than K. -/
def Few (K : Int) (R : ER) : Prop := ∀ u v c, R u v c → u ≠ v ∧ u ∈ nmL ∧ v ∈ nmL ∧ 1 ≤ c ∧ c ≤ K
theorem Few.path {K : Int} {R : ER} (hR : Few K R) {l : List ByteArray} {d : Int} (h : PC R l d) : (2 ≤ l.length → ∀ s ∈ l, s ∈ nmL) ∧ d ≤ (l.length - 1 : Nat) * K := by
  induction h with
  | one u => exact ⟨fun h => by simp at h, by simp⟩
  | cons h h' ih =>
    rename_i u v l c d
    obtain ⟨h1, h2, h3, h4, h5⟩ := hR _ _ _ h
    refine ⟨fun _ s hs => ?_, ?_⟩
    · rcases List.mem_cons.1 hs with rfl | hs
      · exact h2
      · cases l with
        | nil => rw [List.mem_singleton.1 hs]; exact h3
        | cons x l => exact ih.1 (by simp) s hs
    · have := ih.2
      simp only [List.length_cons, Nat.add_sub_cancel] at this ⊢
      rw [Int.natCast_add, Int.add_mul]
      omega
theorem Few.dist {K : Int} {R : ER} (hR : Few K R) {u v : ByteArray} {d : Int} (h : IsD R u v d) : 1 ≤ d ∧ d ≤ 5 * K := by
  have hpos : ∀ u v c, R u v c → 1 ≤ c := fun u v c h => (hR u v c h).2.2.2.1
  have simp1 : ∀ {u v : ByteArray} {d : Int}, u ≠ v → Wk R u v d → ∃ d', Wk R u v d' ∧ d' ≤ 4 * K ∧ d' ≤ d := fun {u v d} hne hw => by
    obtain ⟨l, d', h1, h2, h3, h4, h5⟩ := hw.simple hpos hne
    have hl2 : 2 ≤ l.length := by
      match l, h1, h2 with
      | [x], h1, h2 =>
        simp at h1 h2
        exact absurd (h1.symm.trans h2) hne
      | x :: y :: l, _, _ => simp
    obtain ⟨h6, h7⟩ := hR.path h4
    have h8 : l.length ≤ 5 := sub_len h3 (h6 hl2)
    have hK : 0 ≤ K := by
      rcases hw.last with h | ⟨_, _, _, _, h, _⟩
      · have := hR _ _ _ h; omega
      · have := hR _ _ _ h; omega
    refine ⟨d', h4.walk h1 h2 hl2, ?_, h5⟩
    have : ((l.length - 1 : Nat) : Int) * K ≤ 4 * K := Int.mul_le_mul_of_nonneg_right (by omega) hK
    omega
  refine ⟨h.1.pos hpos, ?_⟩
  by_cases hne : u = v
  · subst hne
    rcases h.1.last with h1 | ⟨x, d1, c, h1, h2, h3⟩
    · exact absurd rfl (hR _ _ _ h1).1
    · obtain ⟨h4, _, _, h5, h6⟩ := hR _ _ _ h2
      obtain ⟨d', h7, h8, h9⟩ := simp1 h4.symm h1
      have := h.2 _ (h7.snoc h2)
      omega
  · obtain ⟨d', h1, h2, _⟩ := simp1 hne h.1
    have := h.2 _ h1
    have : 1 ≤ d' := h1.pos hpos
    have : 0 ≤ K := by omega
    omega
theorem few_raw {E : List Ed} (hE : ∀ e ∈ E, e.Raw) : Few 6 (RE E) := fun u v c ⟨e, he, h1, h2, h3, h4⟩ => by
  subst h2 h3 h4
  exact ⟨h1.1, (hE e he).a, (hE e he).b, h1.2.1, (hE e he).hi⟩
theorem RE.turn {E : List Ed} (h : ∀ x ∈ E, x.turn ∈ E) {u v : ByteArray} {c : Int} (hr : RE E u v c) : RE E v u c := by
  obtain ⟨e, he, h1, rfl, rfl, rfl⟩ := hr
  exact ⟨e.turn, h e he, ⟨fun q => h1.1 q.symm, h1.2⟩, rfl, rfl, rfl⟩
theorem isd_of {R : ER} {u v : ByteArray} {o : Option Int} {d : Int} (h : DistO R u v o) (ho : o = some d) : IsD R u v d := by
  rcases h with ⟨h1, _⟩ | ⟨x, h1, h2⟩
  · rw [ho] at h1; cases h1
  · rw [ho] at h1; cases h1; exact h2
theorem ints_new {w W : World} {v : Value} {k n : Nat} {X : Nat → Int} (h : IntsAt w v k n X) (hn : New w W) : IntsAt W v k n X := by
  obtain ⟨⟨A, c, h1, h2, h3, h4⟩, h5⟩ := h
  refine ⟨⟨A, c, h1, h2, h3, fun hp => ?_⟩, h5⟩
  obtain ⟨a, ha, hc⟩ := h4 hp
  exact ⟨a, ha, fun q hq => hn.cellS (hc q hq) id⟩
/-- A node of the laws. -/
theorem node_ex (one : Int) : ∃ (p : Nat) (s : ByteArray), pk one 5 = p ∧ p < 5 ∧ s ∈ nmL ∧ ∀ W b, Blk W b 9 #[.string ⟨#[97]⟩, .string ⟨#[98]⟩, .string ⟨#[99]⟩, .string ⟨#[100]⟩, .string ⟨#[101]⟩] → W.cell? ⟨b, p, none⟩ = some (.string s) := by
  have h1 := pk_lo one 5 (by omega)
  have h2 := pk_hi one 5 (by omega)
  have h3 : (pk one 5).toNat < 5 := by omega
  obtain ⟨s, hs, hc⟩ := nm_get h3
  exact ⟨(pk one 5).toNat, s, by omega, h3, hs, hc⟩
theorem own_src {W : World} {B : Nat} {v : Value} {E : List Ed} (h : Own W B 40 3 v (E.map edC)) : ∃ A c, v = .slice A E.length c ∧ SrcAt W A 3 (E.map edC) := by
  obtain ⟨A, c, hv, -⟩ := h.formG
  rw [List.length_map] at hv
  subst hv
  exact ⟨A, c, rfl, h.srcG.2⟩
end Go.Proofs.Ytffmalagochakaa
