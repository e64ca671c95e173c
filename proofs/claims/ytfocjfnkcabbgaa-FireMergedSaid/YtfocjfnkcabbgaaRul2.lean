/- The raw rules: v, num; The raw rules: atom. -/
import Derived.Test.YtfocjfnkcabbgaaFirB
import Derived.Test.YtfocjfnkcabbgaaPickW
import Derived.Test.YtfocjfnkcabbgaaFact
set_option linter.unusedVariables false
set_option linter.unusedSimpArgs false
namespace Go.Proofs.Ytfocjfnkcabbgaa
open Go.RowKit Go.Shelf

/-- A 64-bit number. -/
def B64 (c : Int) : Prop := -9223372036854775808 ≤ c ∧ c ≤ 9223372036854775807
/-- A raw number's variable. -/
def vNm (c : Int) : ByteArray := match (pk c 6).toNat with
  | 0 => ⟨#[83]⟩ | 1 => ⟨#[68]⟩ | 2 => ⟨#[88]⟩ | 3 => ⟨#[89]⟩ | 4 => ⟨#[90]⟩ | _ => ⟨#[67]⟩
def varC (s : ByteArray) : List Value := [.int .i64 1, .string s, .int .i64 0, .int .i64 0, .string ⟨#[]⟩, .slice none 0 0, .slice none 0 0]
def valC (v : Vl) : List Value := [.int .i64 2, .string ⟨#[]⟩, .int .i64 v.k, .int .i64 v.i, .string v.t, .slice none 0 0, .slice none 0 0]

set_option maxHeartbeats 1000000 in
theorem v06 (w : World) (c : Int) (h : B64 c) : Calls Try.prog 28 #[.int .i64 c] w fun e w' => e = .returned (.agg #[.int .i64 1, .string (vNm c), .int .i64 0, .int .i64 0, .string ⟨#[]⟩, .slice none 0 0, .slice none 0 0]) ∧ New w w' := by
  obtain ⟨p, hp⟩ : ∃ p : Nat, pk c 6 = p := ⟨(pk c 6).toNat, by have := pk_lo c 6 (by omega); omega⟩
  have hp6 : p < 6 := by have := pk_hi c 6 (by omega); omega
  obtain ⟨s, hs⟩ : ∃ s, vNm c = s := ⟨_, rfl⟩
  have hs' := hs
  rw [hs]
  have hpick := fun W => pick06 W c 6 h.1 h.2 (by omega) (by omega)
  unfold vNm at hs'
  rw [hp] at hpick hs'
  rw [Int.toNat_natCast] at hs'
  have HP := Lib.hid hpick
  clear hpick hp hs
  rcases (show p = 0 ∨ p = 1 ∨ p = 2 ∨ p = 3 ∨ p = 4 ∨ p = 5 by omega) with rfl | rfl | rfl | rfl | rfl | rfl
  all_goals
    simp only at hs'
    subst hs'
    go_enter Try.func28, Try.ntmps28
    go_wp2_with (go_at_call 13; refine (HP.out _).mono ?_; rintro e w2 ⟨rfl, rfl⟩)
    exact bodyPost_ret (v := .agg #[.int .i64 1, .string _, .int .i64 0, .int .i64 0, .string ⟨#[]⟩, .slice none 0 0, .slice none 0 0]) (res_cellK stTerm rfl _ _ ⟨w.heap.size, 0, none⟩ [.int .i64 1, .string _, .int .i64 0, .int .i64 0, .string ⟨#[]⟩, .slice none 0 0, .slice none 0 0] rfl ((Blk.new w _ _).alloc _).at_ rfl) rfl ⟨rfl, ((Chg.refl _ _).alloc _).alloc _⟩

set_option maxHeartbeats 1000000 in
theorem num06 (w : World) (c : Int) : Calls Try.prog 29 #[.int .i64 c] w fun e w' => e = .returned (.agg #[.int .i64 2, .string ⟨#[]⟩, .int .i64 1, .int .i64 c, .string ⟨#[]⟩, .slice none 0 0, .slice none 0 0]) ∧ New w w' := by
  go_enter Try.func29, Try.ntmps29
  go_wp2_with fail
  exact bodyPost_ret (v := .agg #[.int .i64 2, .string ⟨#[]⟩, .int .i64 1, .int .i64 c, .string ⟨#[]⟩, .slice none 0 0, .slice none 0 0]) (res_cellK stTerm rfl _ _ ⟨w.heap.size, 0, none⟩ [.int .i64 2, .string ⟨#[]⟩, .int .i64 1, .int .i64 c, .string ⟨#[]⟩, .slice none 0 0, .slice none 0 0] rfl (Blk.new w _ _).at_ rfl) rfl ⟨rfl, (Chg.refl _ _).alloc _⟩
end Go.Proofs.Ytfocjfnkcabbgaa

set_option linter.unusedVariables false
set_option linter.unusedSimpArgs false
namespace Go.Proofs.Ytfocjfnkcabbgaa
open Go.RowKit Go.Shelf

/-- What raw terms are. -/
def rawT : Tm → Prop
  | .var s => ∃ c, s = vNm c
  | .val v => rawV v
  | .op _ a b => rawT a ∧ rawT b
theorem rawV.ok {v : Vl} (h : rawV v) : okW v := by
  rcases h with ⟨i, h0, h1, rfl⟩ | ⟨b, h0, h1, rfl⟩
  · exact ⟨.inl ⟨rfl, rfl⟩, by dsimp only; omega, by dsimp only; omega⟩
  · exact ⟨.inr ⟨rfl, rfl, b, rfl, h0, by omega⟩, by dsimp only; omega, by dsimp only; omega⟩
theorem rawT.ok : ∀ {t : Tm}, rawT t → okTm t
  | .var s, _ => trivial
  | .val v, h => rawV.ok h
  | .op _ a b, h => ⟨rawT.ok h.1, rawT.ok h.2⟩
theorem Own.one {w : World} {base g k : Nat} {e : TypeId} {cs : List Value} (hb : Blk w g e cs.toArray) (hB : base ≤ g) (hl : cs.length = k) : Own w base e k (.slice (some ⟨g, 0, none⟩) 1 1) [cs] :=
  ⟨⟨by simp [hl], .inr ⟨g, 1, cs.toArray, rfl, hB, hb, Nat.le_refl _, by decide, by simp [hl], by simp [← hl]⟩⟩, by simp [hl]⟩
section
variable {P : Program} {t e : TypeId} {k bytes : Nat} {zs : List Value}
/-- One put behind: what buildSlice made. -/
theorem ElT.appOne (hE : ElT P t e k bytes zs) {B : Nat} {W : World} {v : Value} {css : List (List Value)} (ho : Own W B e k v css) (hB : B ≤ W.heap.size) (cs : List Value) (hk : cs.length = k) (h1 : ∀ u ∈ cs, u.oneCell' = true)
    (hb : (css.length + 1) * bytes ≤ 140737488355328) (hb2 : css.length + 1 ≤ maxLen) (ty : TypeId) (g : Nat) (hg : W.heap.size = g) :
    ∃ v' W', (Builtin.append_ #[t, t] ty #[v, .slice (some ⟨g, 0, none⟩) 1 1]).run P (W.alloc (.cells cs.toArray e)) = .ok v' W' ∧ (Own W' B e k v' (css ++ [cs]) ∧ Chg W W' (fun k => v.ownBlock = some k) ∧ ∀ k, v'.ownBlock = some k → v.ownBlock = some k ∨ W.heap.size ≤ k) := by
  subst hg
  have hn : New W (W.alloc (.cells cs.toArray e)) := (Chg.refl _ _).alloc _
  have hbl : Blk (W.alloc (.cells cs.toArray e)) W.heap.size e cs.toArray := Blk.new _ _ _
  obtain ⟨v', W', h1, h2, h3, h4⟩ := hE.appendS (ho.chg hn (fun _ _ x => x)) (Nat.le_trans hB hn.size) (some ⟨W.heap.size, 0, none⟩) 1 1 [cs] rfl (fun d hd => by rw [List.mem_singleton.1 hd]; exact hk) (fun d hd => by rw [List.mem_singleton.1 hd]; exact h1) (src_one hbl.at_ hk) hb hb2 ty
  exact ⟨v', W', h1, h2, (hn.mono (T' := fun k => v.ownBlock = some k) (fun _ _ x => x.elim)).trans h3 (fun _ _ x => x), fun k hk => (h4 k hk).imp id (fun h => Nat.le_trans hn.size h)⟩
end
/-- Cells of terms. -/
structure TmL (w : World) (css : List (List Value)) (ts : List Tm) : Prop where
  len : css.length = ts.length
  at_ : ∀ (j : Nat) (cs : List Value) (t : Tm), css[j]? = some cs → ts[j]? = some t → TmAt w cs t
theorem TmL.chg {w w' : World} {css : List (List Value)} {ts : List Tm} (h : TmL w css ts) (hc : New w w') : TmL w' css ts := ⟨h.len, fun j cs t h1 h2 => (h.at_ j cs t h1 h2).chg hc⟩
theorem TmL.snoc {w : World} {css : List (List Value)} {ts : List Tm} {cs : List Value} {t : Tm} (h : TmL w css ts) (ht : TmAt w cs t) : TmL w (css ++ [cs]) (ts ++ [t]) := by
  refine ⟨by simp [h.len], fun j c u h1 h2 => ?_⟩
  rcases Nat.lt_trichotomy j css.length with hj | hj | hj
  · rw [List.getElem?_append_left hj] at h1
    rw [List.getElem?_append_left (by rw [← h.len]; exact hj)] at h2
    exact h.at_ j c u h1 h2
  · subst hj
    rw [List.getElem?_append_right (Nat.le_refl _)] at h1
    rw [h.len, List.getElem?_append_right (Nat.le_refl _)] at h2
    simp at h1 h2
    rw [← h1, ← h2]
    exact ht
  · rw [List.getElem?_eq_none (by simp; omega)] at h1
    cases h1
theorem TmL.one {w : World} {cs : List Value} {t : Tm} (h : TmAt w cs t) : TmL w [cs] [t] := TmL.snoc (css := []) (ts := []) ⟨rfl, fun j cs t h1 => by simp at h1⟩ h
theorem tdiv_bd {y d : Int} (hd : 0 < d) (h0 : -9223372036854775808 ≤ y) (h1 : y ≤ 9223372036854775807) : -9223372036854775808 ≤ y.tdiv d ∧ y.tdiv d ≤ 9223372036854775807 := by
  rcases Int.le_total 0 y with h | h
  · rw [Int.tdiv_eq_ediv_of_nonneg h]
    have := Int.ediv_le_self d h
    have := Int.ediv_nonneg h (Int.le_of_lt hd)
    omega
  · have e : y.tdiv d = -((-y).tdiv d) := by rw [Int.neg_tdiv]; omega
    rw [e, Int.tdiv_eq_ediv_of_nonneg (by omega)]
    have := Int.ediv_le_self d (show 0 ≤ -y by omega)
    have := Int.ediv_nonneg (show 0 ≤ -y by omega) (Int.le_of_lt hd)
    omega
/-- What holds, whatever is done to S. -/
def Stays (w : World) (S : Nat → Prop) (P : World → Prop) : Prop := ∀ W', Chg w W' S → P W'
theorem Stays.now {w : World} {S : Nat → Prop} {P : World → Prop} (h : Stays w S P) : P w := h w (Chg.refl _ _)
theorem Stays.chg {w w1 : World} {S T S1 : Nat → Prop} {P : World → Prop} (h : Stays w S P) (hc : Chg w w1 T) (hT : ∀ k, k < w.heap.size → T k → S k) (hS : ∀ k, k < w.heap.size → S1 k → S k) : Stays w1 S1 P :=
  fun W' hW => h W' ((hc.mono hT).trans hW hS)
/-- The state of atom's loop goes on. -/
theorem TmL.grow {wr W W' : World} {B : Nat} {v v' : Value} {css : List (List Value)} {ts : List Tm} {cs : List Value} {t : Tm} (hB : B ≤ wr.heap.size) (hv : ∀ k, v.ownBlock = some k → k < wr.heap.size)
    (h : Stays wr (fun k => k < B ∨ v.ownBlock = some k) (fun W => TmL W css ts)) (hW : New wr W) (ht : Stays W (fun k => k < wr.heap.size) (fun W => TmAt W cs t))
    (hc : Chg W W' (fun k => v.ownBlock = some k)) (ho : ∀ k, v'.ownBlock = some k → v.ownBlock = some k ∨ W.heap.size ≤ k) :
    Stays W' (fun k => k < B ∨ v'.ownBlock = some k) (fun W => TmL W (css ++ [cs]) (ts ++ [t])) := by
  intro W2 h2
  have hWz := hW.size
  have hc1 : Chg W W2 (fun k => k < B ∨ v.ownBlock = some k) := (hc.mono (fun k _ hk => .inr hk)).trans h2 (fun k hk e => e.imp id (fun e => (ho k e).elim id (fun h => absurd hk (Nat.not_lt.2 h))))
  have h1 : TmL W2 css ts := h W2 ((hW.mono (fun _ _ x => x.elim)).trans hc1 (fun k _ e => e))
  refine h1.snoc (ht W2 (hc1.mono (fun k _ e => e.elim (fun e => by omega) (fun e => hv k e))))
theorem tm_one (b : UInt8) : ∀ u ∈ [Value.int .i64 2, .string ⟨#[]⟩, .int .i64 3, .int .i64 0, .string ⟨#[b]⟩, .slice none 0 0, .slice none 0 0], u.oneCell' = true := by
  intro u hu
  simp only [List.mem_cons, List.not_mem_nil, or_false] at hu
  rcases hu with rfl | rfl | rfl | rfl | rfl | rfl | rfl <;> rfl
theorem tn_one (i : Int) : ∀ u ∈ [Value.int .i64 2, .string ⟨#[]⟩, .int .i64 1, .int .i64 i, .string ⟨#[]⟩, .slice none 0 0, .slice none 0 0], u.oneCell' = true := by
  intro u hu
  simp only [List.mem_cons, List.not_mem_nil, or_false] at hu
  rcases hu with rfl | rfl | rfl | rfl | rfl | rfl | rfl <;> rfl
theorem tv_one (s : ByteArray) : ∀ u ∈ [Value.int .i64 1, .string s, .int .i64 0, .int .i64 0, .string ⟨#[]⟩, .slice none 0 0, .slice none 0 0], u.oneCell' = true := by
  intro u hu
  simp only [List.mem_cons, List.not_mem_nil, or_false] at hu
  rcases hu with rfl | rfl | rfl | rfl | rfl | rfl | rfl <;> rfl
theorem op_one (s : ByteArray) (g n : Nat) : ∀ u ∈ [Value.int .i64 4, .string s, .int .i64 0, .int .i64 0, .string ⟨#[]⟩, .slice none 0 0, .slice (some ⟨g, 0, none⟩) n n], u.oneCell' = true := by
  intro u hu
  simp only [List.mem_cons, List.not_mem_nil, or_false] at hu
  rcases hu with rfl | rfl | rfl | rfl | rfl | rfl | rfl <;> rfl
/-- A sum of two simple terms in new memory. -/
theorem op_stays {wr W : World} (hW : New wr W) {m : Bool} {a b : Tm} {ca cb : List Value} (ha : ∀ W, TmAt W ca a) (hb : ∀ W, TmAt W cb b) :
    Stays (W.alloc (.cells (ca ++ cb).toArray 39)) (fun k => k < wr.heap.size) (fun W' => TmAt W' [.int .i64 4, .string (opS m), .int .i64 0, .int .i64 0, .string ⟨#[]⟩, .slice none 0 0, .slice (some ⟨W.heap.size, 0, none⟩) 2 2] (.op m a b)) := by
  intro W' hc
  have hbl : Blk (W.alloc (.cells (ca ++ cb).toArray 39)) W.heap.size 39 (ca ++ cb).toArray := Blk.new _ _ _
  have hb' := hbl.chg hc (fun e => by have := hW.size; omega)
  refine ⟨⟨W.heap.size, 0, none⟩, 2, ca, cb, rfl, hb'.lt, ?_, ha _, hb _⟩
  obtain ⟨a, h1, h2⟩ := (tms2 (t1 := a) (t2 := b) hb' (ha _) (hb _)).src (by simp)
  cases h1
  exact h2
def AtomPost (w : World) (e : Ending) (w' : World) : Prop := ∃ (nm : ByteArray) (v : Value) (ts : List Tm) (css : List (List Value)), e = .returned (.tuple #[.string nm, v]) ∧ (∃ p : Nat, relCs[p]? = some (nm, (ts.length : Int))) ∧ 1 ≤ ts.length ∧ ts.length ≤ 3 ∧ (∃ c, ts[0]? = some (.var (vNm c))) ∧ (∀ t ∈ ts, rawT t) ∧ Stays w' (fun k => k < w.heap.size) (fun W => TmL W css ts) ∧ Own w' w.heap.size 39 7 v css ∧ New w w'

set_option maxHeartbeats 4000000 in
set_option maxRecDepth 100000 in
theorem atom06 (w : World) (y0 y1 y2 y3 y4 y5 : Int) (h1 : B64 y1) (h2 : B64 y2) (h3' : B64 y3) (h4 : B64 y4) :
    Calls Try.prog 14 #[.agg #[.int .i64 y0, .int .i64 y1, .int .i64 y2, .int .i64 y3, .int .i64 y4, .int .i64 y5]] w (AtomPost w) := by
  obtain ⟨w1, hw1⟩ : ∃ w1, w1 = w.alloc (.cells #[.int .i64 y0, .int .i64 y1, .int .i64 y2, .int .i64 y3, .int .i64 y4, .int .i64 y5] 51) := ⟨_, rfl⟩
  have hN1 : New w w1 := by rw [hw1]; exact (Chg.refl _ _).alloc _
  have hB1 : Blk w1 w.heap.size 51 #[.int .i64 y0, .int .i64 y1, .int .i64 y2, .int .i64 y3, .int .i64 y4, .int .i64 y5] := by rw [hw1]; exact Blk.new w _ _
  obtain ⟨p, hp⟩ : ∃ p : Nat, pk y1 6 = p := ⟨(pk y1 6).toNat, by have := pk_lo y1 6 (by omega); omega⟩
  have hp6 : p < 6 := by have := pk_hi y1 6 (by omega); omega
  have hpick := fun W => pick06 W y1 6 h1.1 h1.2 (by omega) (by omega)
  rw [hp] at hpick
  have HP := Lib.hid hpick
  have HN1 := Lib.hid hN1
  have HB1 := Lib.hid hB1
  have HW1 := Lib.hid hw1
  have hbx : w.heap.size < w1.heap.size := hB1.lt
  clear hpick hp hN1 hB1 hw1
  go_enter Try.func14, Try.ntmps14
  go_upto_region 1 with fail
  rw [← HW1.out]
  obtain ⟨nm, ar, hpr⟩ : ∃ nm ar, relCs[p]? = some (nm, ar) := by
    have : p < relCs.length := hp6
    exact ⟨_, _, List.getElem?_eq_getElem this⟩
  have har : 1 ≤ ar ∧ ar ≤ 3 := by
    rcases (show p = 0 ∨ p = 1 ∨ p = 2 ∨ p = 3 ∨ p = 4 ∨ p = 5 by omega) with rfl | rfl | rfl | rfl | rfl | rfl <;> (simp only [relCs, List.getElem?_cons_zero, List.getElem?_cons_succ, Option.some.injEq, Prod.mk.injEq] at hpr; omega)
  have hcell : ∀ W b, Blk W b 76 relCells → At W ⟨b, p * 2, none⟩ [.string nm, .int .i64 ar] := fun W b hb j u hj => by
    rw [Addr.add_lit, hb.cell]
    rcases (show p = 0 ∨ p = 1 ∨ p = 2 ∨ p = 3 ∨ p = 4 ∨ p = 5 by omega) with rfl | rfl | rfl | rfl | rfl | rfl <;> (simp only [relCs, List.getElem?_cons_zero, List.getElem?_cons_succ, Option.some.injEq, Prod.mk.injEq] at hpr; obtain ⟨rfl, rfl⟩ := hpr; match j, hj with | 0, hj => (cases hj; rfl) | 1, hj => (cases hj; rfl) | j + 2, hj => simp at hj)
  have Hcell := Lib.hid hcell
  have Har := Lib.hid har
  have HPr := Lib.hid hpr
  have HPr := Lib.hid hpr
  clear hcell har hpr
  have eg1 := enters_of Try.func27 (by kernel_rfl) rfl
  have eg2 := enters_of Try.func13 (by kernel_rfl) rfl
  unfold Enters at eg1 eg2
  have HBd := Lib.hid (HB1.out.chg ((Chg.refl w1 (fun _ => False)).drew) id)
  have HNd := Lib.hid (HN1.out.drew)
  refine wp_region_at (by kernel_rfl) ?_
  generalize w1.drew = wd at HBd HNd ⊢
  have q0 : (0 : Int) ≤ (p : Int) := by omega
  have q1 : (p : Int) < 6 := by omega
  refine AtN.segN2 0 7 [8, 9, 10, 11, 12, 13, 4] (fun
    | 0 => fun v W => ∃ rb, v = .slice (some ⟨rb, 0, none⟩) 6 6 ∧ Blk W rb 76 relCells
    | 1 => fun v _ => v = .pointer (some ⟨w.heap.size, 1, none⟩)
    | 2 => fun v _ => v = .int .i64 y1
    | 3 => fun v _ => v = .int .i64 p
    | 4 => fun v W => ∃ rb, v = .pointer (some ⟨rb, p * 2, none⟩) ∧ Blk W rb 76 relCells
    | 5 => fun v _ => v = .agg #[.string nm, .int .i64 ar]
    | 6 => fun v W => ∃ b, v = .pointer (some ⟨b, 0, none⟩) ∧ Blk W b 76 #[.string ⟨#[]⟩, .int .i64 0] ∧ wd.heap.size ≤ b
    | _ => fun _ _ => True) (by kernel_rfl) (by kernel_rfl) (by kernel_rfl) (by kernel_rfl) (fun j v w1 w2 hc h => ?_) (fun i hn hi o ho A0 W hN hin hk => ?_) (fun l W2 hN hl hΦ => ?_)
  · match j with
    | 0 => exact h.imp fun b h => ⟨h.1, h.2.chg hc id⟩
    | 4 => exact h.imp fun b h => ⟨h.1, h.2.chg hc id⟩
    | 6 => exact h.imp fun b h => ⟨h.1, h.2.1.chg hc id, h.2.2⟩
    | 1 | 2 | 3 | 5 => exact h
    | _ + 7 => trivial
  · rcases (show i = 0 ∨ i = 1 ∨ i = 2 ∨ i = 3 ∨ i = 4 ∨ i = 5 ∨ i = 6 by omega) with rfl | rfl | rfl | rfl | rfl | rfl | rfl
    · cases ho
      refine .call (f := 27) (args := #[]) (W' := W) ?_ ((relations06 W).mono ?_)
      · simp [go_sem, eg1]
      · rintro e w' ⟨rfl, hb, hc⟩
        exact ⟨_, rfl, hc, _, rfl, hb⟩
    · cases ho
      have h1 : A0.tmps[1]?.getD undef = .pointer (some ⟨w.heap.size, 0, none⟩) := hk 1 (by kernel_rfl)
      exact .same (by simp [go_sem, h1]) rfl
    · cases ho
      have h7 : A0.tmps[9]?.getD undef = .pointer (some ⟨w.heap.size, 1, none⟩) := hin 1 9 (by kernel_rfl)
      have hc : W.cell? ⟨w.heap.size, 1, none⟩ = some (.int .i64 y1) := (HBd.out.chg hN id).cell 1
      exact .same (by simp [go_sem, h7, hc]) rfl
    · cases ho
      have h8 : A0.tmps[10]?.getD undef = .int .i64 y1 := hin 2 10 (by kernel_rfl)
      refine .enter (f := 13) (args := #[.int .i64 y1, .int .i64 6]) (v := .int .i64 p) ?_ ((HP.out W).mono ?_)
      · simp [go_sem, h8, eg2]
      · rintro e w' ⟨rfl, rfl⟩
        exact ⟨rfl, Chg.refl _ _, rfl⟩
    · cases ho
      have h6 := hin 0 8 (by kernel_rfl)
      have h9 : A0.tmps[11]?.getD undef = .int .i64 p := hin 3 11 (by kernel_rfl)
      obtain ⟨rb, e6, hb⟩ := h6
      exact .same (v := .pointer (some ⟨rb, p * 2, none⟩)) (by simp [go_sem, e6, h9, q0, q1, hp6]) ⟨rb, rfl, hb⟩
    · cases ho
      have h10 := hin 4 12 (by kernel_rfl)
      obtain ⟨rb, e10, hb⟩ := h10
      exact .same (exec_load 12 _ rfl stDecl ⟨rb, p * 2, none⟩ [.string nm, .int .i64 ar] e10 rfl (Hcell.out _ _ hb)) rfl
    · cases ho
      exact .value (W' := W.alloc (.cells #[.string ⟨#[]⟩, .int .i64 0] 76)) (v := .pointer (some ⟨W.heap.size, 0, none⟩)) (by simp [go_sem]) ⟨(Chg.refl _ _).alloc _, _, rfl, Blk.new _ _ _, hN.size⟩
  obtain ⟨x6, x7, x8, x9, x10, x11, x3, rfl⟩ : ∃ x6 x7 x8 x9 x10 x11 x3, l = [x6, x7, x8, x9, x10, x11, x3] := by
    match l, hl with
    | [x6, x7, x8, x9, x10, x11, x3], _ => exact ⟨_, _, _, _, _, _, _, rfl⟩
  have hx6 := hΦ 0 (by decide)
  obtain rfl : x7 = .pointer (some ⟨w.heap.size, 1, none⟩) := hΦ 1 (by decide)
  obtain rfl : x8 = .int .i64 y1 := hΦ 2 (by decide)
  obtain rfl : x9 = .int .i64 p := hΦ 3 (by decide)
  have hx10 := hΦ 4 (by decide)
  obtain rfl : x11 = .agg #[.string nm, .int .i64 ar] := hΦ 5 (by decide)
  have hx3 := hΦ 6 (by decide)
  simp only [putsL, List.zip_cons_cons, List.zip_nil_left, List.zip_nil_right, List.zip, List.zipWith, Act.put, List.setIfInBounds_toArray, List.set_cons_succ, List.set_cons_zero]
  clear hΦ hl
  obtain ⟨b3, rfl, hb3, hb3l⟩ := hx3
  have HR2 := Lib.hid (HBd.out.chg hN id)
  have HN2 := Lib.hid (HNd.out.trans hN (fun _ _ x => x))
  clear hx6 hx10
  refine AtN.list 7 8 (by kernel_rfl) ?_
  change wpList _ _ _ [_] _ _
  have hlay : layA #[.string ⟨#[]⟩, .int .i64 0] 0 [.string nm, .int .i64 ar] = #[.string nm, .int .i64 ar] := rfl
  refine wpl_store rfl (.tmp 4) (.tmp 13) 76 rfl stDecl b3 0 76 #[.string ⟨#[]⟩, .int .i64 0] [.string nm, .int .i64 ar] rfl rfl hb3 rfl (by decide) (fun u hu => by
    simp only [List.mem_cons, List.not_mem_nil, or_false] at hu
    rcases hu with rfl | rfl <;> rfl) ?_
  rw [hlay]
  obtain ⟨W3, hW3⟩ : ∃ W3, W3 = W2.setRow b3 #[.string nm, .int .i64 ar] := ⟨_, rfl⟩
  rw [← hW3]
  have hwd := HNd.out.size
  have hbl := HBd.out.lt
  have HB3 := Lib.hid (show Blk W3 b3 76 #[.string nm, .int .i64 ar] by rw [hW3]; exact hb3.set _)
  have HN3 := Lib.hid (show New w W3 by rw [hW3]; exact HN2.out.setRow _ _ (fun h => by omega))
  have HR3 := Lib.hid (show Blk W3 w.heap.size 51 #[.int .i64 y0, .int .i64 y1, .int .i64 y2, .int .i64 y3, .int .i64 y4, .int .i64 y5] by rw [hW3]; exact HR2.out.other (by omega) _)
  have hb30 : w.heap.size < b3 := by omega
  clear hW3 hb3 hN HN2 HR2 hlay HBd HNd
  refine AtN.done rfl ?_
  simp only [Act.put]
  have eR2 := HR3.out.cell 2
  have eD0 := HB3.out.cell 0
  simp only [List.getElem?_toArray, List.getElem?_cons_zero, List.getElem?_cons_succ] at eR2 eD0
  go_upto_region 2 with fail
  go_upto_region 3 with (go_at_call 28; refine (v06 _ y2 h2).mono ?_; rintro e W4 ⟨rfl, hN4⟩; have HN4 := Lib.hid hN4; clear hN4)
  have hb3l := HB3.out.lt
  have hown0 : Own (W4.alloc (.cells #[.int .i64 1, .string (vNm y2), .int .i64 0, .int .i64 0, .string ⟨#[]⟩, .slice none 0 0, .slice none 0 0] 39)) w.heap.size 39 7 (.slice (some ⟨W4.heap.size, 0, none⟩) 1 1) [varC (vNm y2)] := Own.one (Blk.new _ _ _) (by have := HN3.out.size; have := HN4.out.size; omega) rfl
  have hnn : New W3 (W4.alloc (.cells #[.int .i64 1, .string (vNm y2), .int .i64 0, .int .i64 0, .string ⟨#[]⟩, .slice none 0 0, .slice none 0 0] 39)) := HN4.out.alloc _
  obtain ⟨W5, hW5⟩ : ∃ W5, W5 = W4.alloc (.cells #[.int .i64 1, .string (vNm y2), .int .i64 0, .int .i64 0, .string ⟨#[]⟩, .slice none 0 0, .slice none 0 0] 39) := ⟨_, rfl⟩
  rw [← hW5] at hown0 hnn ⊢
  have HO5 := Lib.hid hown0
  have HN5 := Lib.hid (HN3.out.trans hnn (fun _ _ x => x))
  have HB5 := Lib.hid (HB3.out.chg hnn id)
  have HR5 := Lib.hid (HR3.out.chg hnn id)
  obtain ⟨b5, hb5⟩ : ∃ b, W4.heap.size = b := ⟨_, rfl⟩
  rw [hb5] at HO5 ⊢
  clear hown0 hnn hW5 hb5 HN4 HN3 HB3 HR3 eR2 eD0
  go_wp2_with fail
  go_loopw [5, 6] (fun u5 u6 wr => ∃ (i : Nat) (ts : List Tm) (css : List (List Value)), 1 ≤ i ∧ (i : Int) ≤ ar ∧ u6 = .int .i64 i ∧ ts.length = i ∧ (∃ c, ts[0]? = some (.var (vNm c))) ∧ (∀ t ∈ ts, rawT t) ∧ Stays wr (fun k => k < w.heap.size ∨ u5.ownBlock = some k) (fun W => TmL W css ts) ∧ Own wr w.heap.size 39 7 u5 css ∧ Blk wr b3 76 #[.string nm, .int .i64 ar] ∧ Blk wr w.heap.size 51 #[.int .i64 y0, .int .i64 y1, .int .i64 y2, .int .i64 y3, .int .i64 y4, .int .i64 y5] ∧ New w wr) (fun _ u _ => 3 - (intOf u).toNat)
  case atStart => exact ⟨1, [.var (vNm y2)], [varC (vNm y2)], Nat.le_refl _, Har.out.1, rfl, rfl, ⟨y2, rfl⟩, fun t ht => by rw [List.mem_singleton.1 ht]; exact ⟨y2, rfl⟩, fun W' _ => TmL.one rfl, HO5.out, HB5.out, HR5.out, HN5.out⟩
  case round =>
    obtain ⟨i, ts, css, hi1, hia, rfl, hul, hfst, hraw, htl, hov, hb3, hrw, hN⟩ := hrel
    obtain ⟨Av, cv, rfl, _, _⟩ := hov.form
    have hcl : css.length = i := by rw [htl.now.len, hul]
    rw [hcl] at hov htl ⊢
    have har3 := Har.out
    have hv1 := hov
    have e1 := hb3.cell 1
    simp only [List.getElem?_toArray, List.getElem?_cons_zero, List.getElem?_cons_succ] at e1
    have HOv := Lib.hid hov
    have HB := Lib.hid hb3
    have HRw := Lib.hid hrw
    have HNw := Lib.hid hN
    have HRaw := Lib.hid hraw
    have HFst := Lib.hid hfst
    have HTl := Lib.hid htl
    have HUl := Lib.hid hul
    have HCl := Lib.hid hcl
    by_cases hlt : (i : Int) < ar
    · have hi3 : i < 3 := by omega
      obtain ⟨y, hy, hyl, hyh⟩ : ∃ y, (∀ W, Blk W w.heap.size 51 #[.int .i64 y0, .int .i64 y1, .int .i64 y2, .int .i64 y3, .int .i64 y4, .int .i64 y5] → W.cell? ⟨w.heap.size, 2 + i, none⟩ = some (.int .i64 y)) ∧ -9223372036854775808 ≤ y ∧ y ≤ 9223372036854775807 := by
        rcases (show i = 0 ∨ i = 1 ∨ i = 2 by omega) with rfl | rfl | rfl
        · exact ⟨y2, fun W h => h.cell 2, h2⟩
        · exact ⟨y3, fun W h => h.cell 3, h3'⟩
        · exact ⟨y4, fun W h => h.cell 4, h4⟩
      have ey := hy wr hrw
      have q0 : (0 : Int) ≤ (i : Int) := by omega
      have q1 : (i : Int) < 4 := by omega
      have q2 : i < 4 := by omega
      have hd : decide ((i : Int) < ar) = true := decide_eq_true hlt
      obtain ⟨p2, hpe⟩ : ∃ p : Int, pk y 12 = p := ⟨_, rfl⟩
      have hp2 := fun W => pick06 W y 12 hyl hyh (by omega) (by omega)
      rw [hpe] at hp2
      have HP2 := Lib.hid hp2
      have hyb : -9223372036854775808 ≤ y.tdiv 12 ∧ y.tdiv 12 ≤ 9223372036854775807 := tdiv_bd (by omega) hyl hyh
      have kq : IntKind.i64.wrap (y.tdiv 12) = y.tdiv 12 := by rw [IntKind.wrap_i64]; omega
      have hBy : B64 y := ⟨hyl, hyh⟩
      have hBq : B64 (y.tdiv 12) := hyb
      have HBy := Lib.hid hBy
      have HBq := Lib.hid hBq
      have hwl : w.heap.size ≤ wr.heap.size := HNw.out.size
      have HApp := Lib.hid (fun (W : World) (hW : New wr W) (cs : List Value) (hk : cs.length = 7) (h1 : ∀ u ∈ cs, u.oneCell' = true) (g : Nat) (hg : W.heap.size = g) => elTerm.appOne (HOv.out.chg hW (fun _ _ x => x)) (Nat.le_trans HNw.out.size hW.size) cs hk h1 (by rw [HCl.out]; omega) (by rw [HCl.out]; unfold maxLen; omega) 24 g hg)
      have hend : ∀ (W W' : World) (v' : Value) (cs : List Value) (t : Tm), New wr W → Stays W (fun k => k < wr.heap.size) (fun W => TmAt W cs t) → rawT t → (Own W' w.heap.size 39 7 v' (css ++ [cs]) ∧ Chg W W' (fun k => (Value.slice Av i cv).ownBlock = some k) ∧ ∀ k, v'.ownBlock = some k → (Value.slice Av i cv).ownBlock = some k ∨ W.heap.size ≤ k) →
          ∃ (j : Nat) (ts : List Tm) (css : List (List Value)), 1 ≤ j ∧ (j : Int) ≤ ar ∧ Value.int .i64 ((i : Int) + 1) = .int .i64 j ∧ ts.length = j ∧ (∃ c, ts[0]? = some (.var (vNm c))) ∧ (∀ t ∈ ts, rawT t) ∧ Stays W' (fun k => k < w.heap.size ∨ v'.ownBlock = some k) (fun W => TmL W css ts) ∧ Own W' w.heap.size 39 7 v' css ∧ Blk W' b3 76 #[.string nm, .int .i64 ar] ∧ Blk W' w.heap.size 51 #[.int .i64 y0, .int .i64 y1, .int .i64 y2, .int .i64 y3, .int .i64 y4, .int .i64 y5] ∧ New w W' := by
        rintro W W' v' cs t hW ht hrt ⟨ho, hc, hk⟩
        have hvl : ∀ k, (Value.slice Av i cv).ownBlock = some k → k < wr.heap.size := fun k e => (HOv.out.lt e).2
        have hne3 : ∀ g, (Value.slice Av i cv).ownBlock = some g → g ≠ b3 := fun g hg e => own_ne_blk HOv.out HB.out (by decide) (by rw [hg, e])
        have hneR : ∀ g, (Value.slice Av i cv).ownBlock = some g → g ≠ w.heap.size := fun g hg e => own_ne_blk HOv.out HRw.out (by decide) (by rw [hg, e])
        refine ⟨i + 1, ts ++ [t], css ++ [cs], by omega, by omega, by simp, by rw [List.length_append, HUl.out]; rfl, ?_, ?_, TmL.grow hwl hvl HTl.out hW ht hc hk, ho, (HB.out.chg hW id).chg hc (fun e => hne3 _ e rfl), (HRw.out.chg hW id).chg hc (fun e => hneR _ e rfl), (HNw.out.trans hW (fun _ _ x => x)).trans hc (fun k hk1 e => by have := (HOv.out.lt e).1; omega)⟩
        · obtain ⟨c, hc⟩ := HFst.out
          exact ⟨c, by rw [List.getElem?_append_left (by rw [HUl.out]; omega)]; exact hc⟩
        · intro u hu
          rcases List.mem_append.1 hu with hu | hu
          · exact HRaw.out u hu
          · rw [List.mem_singleton.1 hu]; exact hrt
      have HEnd := Lib.hid hend
      clear hend hp2 hpe hy hov hv1 hb3 hrw hN hraw hfst htl hul hcl hyb hBy hBq
      by_cases hp9 : p2 = 9
      · subst hp9
        obtain ⟨p4, hp4⟩ : ∃ p : Int, pk (y.tdiv 12) 4 = p := ⟨_, rfl⟩
        have hp40 : 0 ≤ p4 ∧ p4 < 4 := by rw [← hp4]; exact ⟨pk_lo _ _ (by omega), pk_hi _ _ (by omega)⟩
        have hpk4 := fun W => pick06 W (y.tdiv 12) 4 HBq.out.1 HBq.out.2 (by omega) (by omega)
        rw [hp4] at hpk4
        have HP4 := Lib.hid hpk4
        clear hpk4 hp4
        go_wp2_with first
          | (go_at_call 13; refine (HP2.out _).mono ?_; rintro e w' ⟨rfl, rfl⟩; clear HP2)
          | (go_at_call 13; refine (HP4.out _).mono ?_; rintro e w' ⟨rfl, rfl⟩; clear HP4)
          | (go_at_call 29; refine (num06 _ _).mono ?_; rintro e W6 ⟨rfl, hN6⟩; have HN6 := Lib.hid hN6; clear hN6)
          | ((with_reducible refine wpl_app (HApp.out W6 HN6.out [.int .i64 2, .string ⟨#[]⟩, .int .i64 1, .int .i64 p4, .string ⟨#[]⟩, .slice none 0 0, .slice none 0 0] ?_ ?_ W6.heap.size rfl) rfl (.tmp 38) (.tmp 43) rfl ?_ ?_ ?_); exact rfl; exact tn_one _; exact rfl; exact rfl; intro v' W' hp'; have HPp := Lib.hid hp'; clear hp')
        go_roundw
        case rel => exact HEnd.out W6 _ _ _ (.val ⟨1, p4, ⟨#[]⟩⟩) HN6.out (fun W' _ => rfl) (.inl ⟨p4, hp40.1, by omega, rfl⟩) HPp.out
        case measure => simp [intOf]; omega
      · by_cases hp10 : p2 = 10
        · subst hp10
          obtain ⟨p3, hp3⟩ : ∃ p : Nat, pk (y.tdiv 12) 3 = p := ⟨(pk (y.tdiv 12) 3).toNat, by have := pk_lo (y.tdiv 12) 3 (by omega); omega⟩
          have hp30 : p3 < 3 := by have := pk_hi (y.tdiv 12) 3 (by omega); omega
          have hpk3 := fun W => pick06 W (y.tdiv 12) 3 HBq.out.1 HBq.out.2 (by omega) (by omega)
          rw [hp3] at hpk3
          have HP3 := Lib.hid hpk3
          clear hpk3 hp3
          obtain ⟨b, hb, hbc⟩ : ∃ b : UInt8, (97 ≤ b.toNat ∧ b.toNat ≤ 100) ∧ ∀ W g, Blk W g 9 #[.string ⟨#[97]⟩, .string ⟨#[98]⟩, .string ⟨#[99]⟩] → W.cell? ⟨g, p3, none⟩ = some (.string ⟨#[b]⟩) := by
            rcases (show p3 = 0 ∨ p3 = 1 ∨ p3 = 2 by omega) with rfl | rfl | rfl
            · exact ⟨97, by decide, fun W g h => h.cell 0⟩
            · exact ⟨98, by decide, fun W g h => h.cell 1⟩
            · exact ⟨99, by decide, fun W g h => h.cell 2⟩
          obtain ⟨W6, hW6⟩ : ∃ W6, W6 = wr.alloc (.cells #[.string ⟨#[97]⟩, .string ⟨#[98]⟩, .string ⟨#[99]⟩] 9) := ⟨_, rfl⟩
          have hcell : (wr.alloc (.cells #[.string ⟨#[97]⟩, .string ⟨#[98]⟩, .string ⟨#[99]⟩] 9)).cell? ⟨wr.heap.size, p3, none⟩ = some (.string ⟨#[b]⟩) := hbc _ _ (Blk.new _ _ _)
          have hN6 : New wr W6 := by rw [hW6]; exact (Chg.refl _ _).alloc _
          have HN6 := Lib.hid hN6
          have HW6 := Lib.hid hW6
          have Hb := Lib.hid hb
          clear hbc hN6 hW6 hb
          have s0 : (0 : Int) ≤ (p3 : Int) := by omega
          have s1 : (p3 : Int) < 3 := by omega
          rw [HW6.out] at HN6
          go_wp2_with first
            | (go_at_call 13; refine (HP2.out _).mono ?_; rintro e w' ⟨rfl, rfl⟩; clear HP2)
            | (go_at_call 13; refine (HP3.out _).mono ?_; rintro e w' ⟨rfl, rfl⟩; clear HP3)
            | ((with_reducible refine wpl_app (HApp.out _ HN6.out [.int .i64 2, .string ⟨#[]⟩, .int .i64 3, .int .i64 0, .string ⟨#[b]⟩, .slice none 0 0, .slice none 0 0] ?_ ?_ (wr.heap.size + 1) (World.size_alloc _ _)) rfl (.tmp 47) (.tmp 56) rfl ?_ ?_ ?_); exact rfl; exact tm_one _; exact rfl; exact rfl; intro v' W' hp'; have HPp := Lib.hid hp'; clear hp')
          go_roundw
          case rel => exact HEnd.out _ _ _ _ (.val ⟨3, 0, ⟨#[b]⟩⟩) HN6.out (fun W' _ => rfl) (.inr ⟨b, Hb.out.1, Hb.out.2, rfl⟩) HPp.out
          case measure => simp [intOf]; omega
        · by_cases hp11 : p2 = 11
          · subst hp11
            go_upto_region 14 with (go_at_call 13; refine (HP2.out _).mono ?_; rintro e w' ⟨rfl, rfl⟩; clear HP2)
            go_wp2_with first
              | (go_at_call 28; refine (v06 _ _ HBq.out).mono ?_; rintro e W6 ⟨rfl, hN6⟩; have HN6 := Lib.hid hN6; clear hN6)
              | (go_at_call 29; refine (num06 _ _).mono ?_; rintro e W7 ⟨rfl, hN7⟩; have HN7 := Lib.hid (HN6.out.trans hN7 (fun _ _ x => x)); clear hN7)
              | ((with_reducible refine wpl_app (HApp.out _ (HN7.out.alloc _) [.int .i64 4, .string ⟨#[43]⟩, .int .i64 0, .int .i64 0, .string ⟨#[]⟩, .slice none 0 0, .slice (some ⟨W7.heap.size, 0, none⟩) 2 2] ?_ ?_ (W7.heap.size + 1) (World.size_alloc _ _)) rfl (.tmp 60) (.tmp 67) rfl ?_ ?_ ?_); exact rfl; exact op_one _ _ _; exact rfl; exact rfl; intro v' W' hp'; have HPp := Lib.hid hp'; clear hp')
            go_roundw
            case rel => exact HEnd.out _ _ _ _ (.op false (.var (vNm (y.tdiv 12))) (.val ⟨1, 1, ⟨#[]⟩⟩)) (HN7.out.alloc _) (op_stays (m := false) HN7.out (ca := [.int .i64 1, .string (vNm (y.tdiv 12)), .int .i64 0, .int .i64 0, .string ⟨#[]⟩, .slice none 0 0, .slice none 0 0]) (cb := [.int .i64 2, .string ⟨#[]⟩, .int .i64 1, .int .i64 1, .string ⟨#[]⟩, .slice none 0 0, .slice none 0 0]) (fun _ => rfl) (fun _ => rfl)) ⟨⟨_, rfl⟩, .inl ⟨1, by omega, by omega, rfl⟩⟩ HPp.out
            case measure => simp [intOf]; omega
          · have t9 : (p2 == 9) = false := by simpa using hp9
            have t10 : (p2 == 10) = false := by simpa using hp10
            have t11 : (p2 == 11) = false := by simpa using hp11
            go_wp2_with first
              | (go_at_call 13; refine (HP2.out _).mono ?_; rintro e w' ⟨rfl, rfl⟩; clear HP2)
              | (go_at_call 28; refine (v06 _ _ HBy.out).mono ?_; rintro e W6 ⟨rfl, hN6⟩; have HN6 := Lib.hid hN6; clear hN6)
              | ((with_reducible refine wpl_app (HApp.out W6 HN6.out [.int .i64 1, .string (vNm y), .int .i64 0, .int .i64 0, .string ⟨#[]⟩, .slice none 0 0, .slice none 0 0] ?_ ?_ W6.heap.size rfl) rfl (.tmp 31) (.tmp 34) rfl ?_ ?_ ?_); exact rfl; exact tv_one _; exact rfl; exact rfl; intro v' W' hp'; have HPp := Lib.hid hp'; clear hp')
            go_roundw
            case rel => exact HEnd.out W6 _ _ _ (.var (vNm y)) HN6.out (fun W' _ => rfl) ⟨y, rfl⟩ HPp.out
            case measure => simp [intOf]; omega
    · have e0 := HB.out.cell 0
      simp only [List.getElem?_toArray, List.getElem?_cons_zero, List.getElem?_cons_succ] at e0
      have hd : decide ((i : Int) < ar) = false := decide_eq_false hlt
      clear hov hv1 hb3 hrw hN hraw hfst htl hul hcl
      go_wp2_with fail
      go_ret2
      refine ⟨nm, _, ts, css, rfl, ⟨p, ?_⟩, by rw [HUl.out]; exact hi1, by rw [HUl.out]; omega, HFst.out, HRaw.out, HTl.out.chg (Chg.refl _ (fun _ => False)) (fun _ _ x => x.elim) (fun k _ e => .inl e), HOv.out, HNw.out⟩
      rw [HUl.out, show (i : Int) = ar by omega]
      exact HPr.out

end Go.Proofs.Ytfocjfnkcabbgaa
