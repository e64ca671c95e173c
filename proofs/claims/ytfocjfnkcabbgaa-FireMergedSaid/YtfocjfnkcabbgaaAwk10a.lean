/- The laws' first calls: chapter 10's example. -/
import Derived.Test.YtfocjfnkcabbgaaFirB
set_option linter.unusedVariables false
set_option linter.unusedSimpArgs false
namespace Go.Proofs.Ytfocjfnkcabbgaa
open Go.RowKit Go.Shelf

theorem awk_var (w : World) (s : ByteArray) : Calls Try.prog 10 #[.string s] w fun e w' => e = .returned (.agg #[.int .i64 1, .string s, .int .i64 0, .int .i64 0, .string ⟨#[]⟩, .slice none 0 0, .slice none 0 0]) ∧ New w w' := by
  go_enter Try.func10, Try.ntmps10
  go_wp2_with fail
  exact bodyPost_ret (v := .agg #[.int .i64 1, .string s, .int .i64 0, .int .i64 0, .string ⟨#[]⟩, .slice none 0 0, .slice none 0 0]) (res_cellK stTerm rfl _ _ ⟨w.heap.size, 0, none⟩ [.int .i64 1, .string s, .int .i64 0, .int .i64 0, .string ⟨#[]⟩, .slice none 0 0, .slice none 0 0] rfl (Blk.new w _ _).at_ rfl) rfl ⟨rfl, (Chg.refl _ _).alloc _⟩
theorem awk_num (w : World) (k : Int) : Calls Try.prog 11 #[.int .i64 k] w fun e w' => e = .returned (.agg #[.int .i64 1, .int .i64 k, .string ⟨#[]⟩, .slice none 0 0]) ∧ New w w' := by
  go_enter Try.func11, Try.ntmps11
  go_wp2_with fail
  exact bodyPost_ret (v := .agg #[.int .i64 1, .int .i64 k, .string ⟨#[]⟩, .slice none 0 0]) (res_cellK stVal4 rfl _ _ ⟨w.heap.size, 0, none⟩ [.int .i64 1, .int .i64 k, .string ⟨#[]⟩, .slice none 0 0] rfl (Blk.new w _ _).at_ rfl) rfl ⟨rfl, (Chg.refl _ _).alloc _⟩

/-- Rows in a block. -/
theorem blk_rows {W : World} {g k : Nat} {t : TypeId} {css : List (List Value)} (hb : Blk W g t css.flatten.toArray) (hk : ∀ cs ∈ css, cs.length = k) : RowsAt W ⟨g, 0, none⟩ k css := fun i cs hi => ⟨hk cs (List.mem_of_getElem? hi), fun j u hj => by
  rw [Addr.add_lit, Nat.zero_add, Addr.add_lit, hb.cell]
  have := flatten_get hk hi hj
  simpa using this⟩

def aV : Vl := ⟨3, 0, ⟨#[97]⟩⟩
def nV (n : Int) : Vl := ⟨1, n, ⟨#[]⟩⟩
def tS : List Tm := [.var ⟨#[83]⟩, .var ⟨#[89]⟩]
def tX : List Tm := [.var ⟨#[83]⟩, .var ⟨#[88]⟩]
def sumT : Tm := .op false (.var ⟨#[88]⟩) (.val (nV 1))
def bodyT : List Lt := [.atom false ⟨#[113]⟩ tX, .assign ⟨#[89]⟩ sumT]
def qR (n : Int) : Rw := ⟨⟨#[113]⟩, [aV, nV 3], n⟩
def pR : Rw := ⟨⟨#[112]⟩, [aV, nV 4], 7⟩
theorem can_q (n : Int) : canonR (qR n) := fun u hu => by
  simp only [qR, List.mem_cons, List.not_mem_nil, or_false] at hu
  rcases hu with rfl | rfl
  · exact .inl ⟨rfl, rfl⟩
  · exact .inr ⟨rfl, rfl⟩
theorem can_p : canonR pR := fun u hu => by
  simp only [pR, List.mem_cons, List.not_mem_nil, or_false] at hu
  rcases hu with rfl | rfl
  · exact .inl ⟨rfl, rfl⟩
  · exact .inr ⟨rfl, rfl⟩
theorem ex_m {m : List Rw} (h : IsMerge [qR 2, qR 7] m) : m = [qR 7] := by
  refine merge_uniq (rs := [qR 2, qR 7]) (by simp; exact ⟨can_q _, can_q _⟩) h ⟨List.pairwise_singleton _ _, by simp, fun r hr => ⟨qR 7, by simp, ?_⟩⟩
  simp only [List.mem_cons, List.not_mem_nil, or_false] at hr
  rcases hr with rfl | rfl <;> exact ⟨by decide +kernel, by decide +kernel⟩
theorem ex_m' {m : List Rw} (h : IsMerge [qR 7, qR 2] m) : m = [qR 7] := ex_m ⟨h.up, fun r hr => by have := h.sub r hr; simp at this ⊢; exact this.symm, fun r hr => h.all r (by simp at hr ⊢; exact hr.symm)⟩
theorem ex_f : fireV ⟨#[112]⟩ tS bodyT [qR 7] = [pR] := by decide +kernel
theorem ex_o {out : List Rw} (h : IsMerge (fireV ⟨#[112]⟩ tS bodyT [qR 7]) out) : out = [pR] := by
  rw [ex_f] at h
  exact merge_uniq (rs := [pR]) (by simp; exact can_p) h (merge_self (List.pairwise_singleton _ _))
theorem ex_n : (waysV [qR 7] bodyT ([], forever)).length ≤ 1000000 := by decide +kernel
theorem ok_tS : ∀ t ∈ tS, okTm t := by
  intro t ht
  simp only [tS, List.mem_cons, List.not_mem_nil, or_false] at ht
  rcases ht with rfl | rfl <;> trivial
theorem okW_n (n : Int) (h0 : -1000 ≤ n) (h1 : n ≤ 1000) : okW (nV n) := ⟨.inl ⟨rfl, rfl⟩, by show _ ≤ n; omega, by show n ≤ _; omega⟩
theorem okW_a : okW aV := ⟨.inr ⟨rfl, rfl, 97, rfl, by decide, by decide⟩, by decide, by decide⟩
theorem ok_body : ∀ L ∈ bodyT, okLt L := by
  intro L hL
  simp only [bodyT, List.mem_cons, List.not_mem_nil, or_false] at hL
  rcases hL with rfl | rfl
  · intro t ht
    simp only [Lt.args, tX, List.mem_cons, List.not_mem_nil, or_false] at ht
    rcases ht with rfl | rfl <;> trivial
  · intro t ht
    simp only [Lt.args, List.mem_cons, List.not_mem_nil, or_false] at ht
    subst ht
    exact ⟨trivial, okW_n 1 (by omega) (by omega)⟩
theorem ok_q : ∀ r ∈ [qR 2, qR 7], ∀ v ∈ r.args, okW v := by
  intro r hr v hv
  simp only [List.mem_cons, List.not_mem_nil, or_false] at hr
  rcases hr with rfl | rfl <;> (simp only [qR, List.mem_cons, List.not_mem_nil, or_false] at hv; rcases hv with rfl | rfl; exact okW_a; exact okW_n 3 (by omega) (by omega))
theorem ex_c : cmpR (qR 7) pR = 1 := by decide +kernel
end Go.Proofs.Ytfocjfnkcabbgaa
