/- The raw rules: Rule; Rules in memory: the contracts of Rule and Fire in one form. -/
import Derived.Test.YtfocjfnkcabbgaaRul3
import Derived.Laws.IdiomStrings
import Derived.Test.YtfocjfnkcabbgaaFoQ
set_option linter.unusedVariables false
set_option linter.unusedSimpArgs false
namespace Go.Proofs.Ytfocjfnkcabbgaa
open Go.RowKit Go.Shelf

section
variable {P : Program} {ops : Array Oper} {Q : Exit → Act → World → Prop} {o : Oper} {rest : List Oper} {a : Act} {w : World}
theorem cells_one {u : Value} (hu : u.oneCell' = true) : u.cells = #[u] := by
  cases u <;> first | rfl | (simp [Value.oneCell'] at hu)
theorem run_putOne {e : TypeId} (hsz : (P.info? e).map (·.size) = some 1) (g off : Nat) (t : TypeId) (cur : Array Value) (u : Value) (hB : Blk w g t cur) (hfit : off < cur.size) (hu : u.oneCell' = true) :
    (storeVar e ⟨g, off, none⟩ u).run P w = .ok () (w.setRow g (layA cur off [u])) := by
  have hst := run_storeCells_at P g off t [u] 0 cur w hB (by simp; omega) (fun v hv => by rw [List.mem_singleton.1 hv]; exact hu)
  simp only [Nat.add_zero] at hst
  cases hq : P.info? e with
  | none => simp [hq] at hsz
  | some i =>
    have hs : i.size = 1 := by simpa [hq] using hsz
    simp [storeVar, sizeOf, typeInfo, hq, cells_one hu, hs, hst, layA, lay]
/-- One cell of a block is written. -/
theorem wpl_put (hg : o.guard = none) (x y : Operand) (e : TypeId) (ho : o.op = .store e x y) (hd : o.dst = none) (hsz : (P.info? e).map (·.size) = some 1) (g off : Nat) (t : TypeId) (cur : Array Value) (u : Value) (cs' : Array Value) (hx : a.eval x = .pointer (some ⟨g, off, none⟩)) (hy : a.eval y = u)
    (hB : Blk w g t cur) (hfit : off < cur.size) (hu : u.oneCell' = true) (hcs : layA cur off [u] = cs')
    (h : ∀ w2, Chg w w2 (fun j => j = g) → Blk w2 g t cs' → w2.heap.size = w.heap.size → wpList P ops Q rest a w2) : wpList P ops Q (o :: rest) a w := by
  refine wpList_plain hg fun K hK => ?_
  have hrun := run_putOne (P := P) hsz g off t cur u hB hfit hu
  unfold Oper.wp execOp
  simp only [ho, hx, hy, Instr.storeAt, Instr.sureAddr, Sem.run_bind, Sem.run_pure, Result.andThen_ok, hrun]
  refine hK _ _ ?_
  simp only [hd, Act.put]
  refine h _ ((Chg.refl w _).setRow _ _ (fun _ => rfl)) ?_ (by simp)
  rw [← hcs]
  exact hB.set _
end

/-- Cells of literals. -/
structure LtL (w : World) (css : List (List Value)) (Ls : List Lt) : Prop where
  len : css.length = Ls.length
  at_ : ∀ (j : Nat) (cs : List Value) (L : Lt), css[j]? = some cs → Ls[j]? = some L → LtAt w cs L
theorem LtL.snoc {w : World} {css : List (List Value)} {ts : List Lt} {cs : List Value} {t : Lt} (h : LtL w css ts) (ht : LtAt w cs t) : LtL w (css ++ [cs]) (ts ++ [t]) := by
  refine ⟨by simp [h.len], fun j c u h1 h2 => ?_⟩
  rcases Nat.lt_trichotomy j css.length with hj | hj | hj
  · rw [List.getElem?_append_left hj] at h1
    rw [List.getElem?_append_left (by rw [← h.len]; exact hj)] at h2
    exact h.at_ j c u h1 h2
  · subst hj
    rw [List.getElem?_append_right (Nat.le_refl _)] at h1
    rw [h.len, List.getElem?_append_right (Nat.le_refl _)] at h2
    simp at h1 h2
    rw [← h1, ← h2]
    exact ht
  · rw [List.getElem?_eq_none (by simp; omega)] at h1
    cases h1
theorem LtL.nil (w : World) : LtL w [] [] := ⟨rfl, fun j cs t h1 => by simp at h1⟩
theorem LtL.grow {wr W W' : World} {B : Nat} {v v' : Value} {css : List (List Value)} {ts : List Lt} {cs : List Value} {t : Lt} (hB : B ≤ wr.heap.size) (hv : ∀ k, v.ownBlock = some k → k < wr.heap.size)
    (h : Stays wr (fun k => k < B ∨ v.ownBlock = some k) (fun W => LtL W css ts)) (hW : New wr W) (ht : Stays W (fun k => k < wr.heap.size) (fun W => LtAt W cs t))
    (hc : Chg W W' (fun k => v.ownBlock = some k)) (ho : ∀ k, v'.ownBlock = some k → v.ownBlock = some k ∨ W.heap.size ≤ k) :
    Stays W' (fun k => k < B ∨ v'.ownBlock = some k) (fun W => LtL W (css ++ [cs]) (ts ++ [t])) := by
  intro W2 h2
  have hWz := hW.size
  have hc1 : Chg W W2 (fun k => k < B ∨ v.ownBlock = some k) := (hc.mono (fun k _ hk => .inr hk)).trans h2 (fun k hk e => e.imp id (fun e => (ho k e).elim id (fun h => absurd hk (Nat.not_lt.2 h))))
  have h1 : LtL W2 css ts := h W2 ((hW.mono (fun _ _ x => x.elim)).trans hc1 (fun k _ e => e))
  exact h1.snoc (ht W2 (hc1.mono (fun k _ e => e.elim (fun e => by omega) (fun e => hv k e))))
theorem lts_stays {w : World} {B : Nat} {A : Option Addr} {n c : Nat} {css : List (List Value)} {ts : List Lt} (ho : Own w B 43 3 (.slice A n c) css) (h : Stays w (fun k => k < B ∨ (Value.slice A n c).ownBlock = some k) (fun W => LtL W css ts)) : Stays w (fun k => k < B) (fun W => LtsAt W A css ts) := by
  intro W' hc
  have ho' := ho.chg hc (fun g hg e => by have := (ho.lt hg).1; omega)
  have ht := h W' (hc.mono (fun k _ e => .inl e))
  exact ⟨ht.len, fun hp => (ho'.rows rfl).2 hp, ht.at_⟩
theorem elLit : ElT Try.prog 25 43 3 48 (Value.cells (.agg #[.int .i64 0, .string ⟨#[]⟩, .slice none 0 0])).toList :=
  ElT.mk' (by kernel_rfl) (by kernel_rfl) rfl (by omega) (by intro u hu; simp only [Value.cells, List.mem_cons, List.not_mem_nil, or_false] at hu; rcases hu with rfl | rfl | rfl <;> rfl)

theorem ints_one (a b c d e f : Int) : ∀ u ∈ [Value.int .i64 a, .int .i64 b, .int .i64 c, .int .i64 d, .int .i64 e, .int .i64 f], u.oneCell' = true := by
  intro u hu
  simp only [List.mem_cons, List.not_mem_nil, or_false] at hu
  rcases hu with rfl | rfl | rfl | rfl | rfl | rfl <;> rfl
/-- What Rule leaves. -/
def RulePost (w : World) (e : Ending) (w' : World) : Prop := ∃ (lab h agg : ByteArray) (at' : Int) (ts : List Tm) (Ls : List Lt) (A Ab : Option Addr) (c cb : Nat) (css cssb : List (List Value)),
  e = .returned (.agg #[.string lab, .string h, .slice A ts.length c, .string agg, .int .i64 at', .slice Ab Ls.length cb]) ∧ (∃ p : Nat, relCs[p]? = some (h, (ts.length : Int))) ∧ 1 ≤ ts.length ∧ ts.length ≤ 3 ∧ (∃ c, ts[0]? = some (.var (vNm c))) ∧ (∀ t ∈ ts, rawT t) ∧
  1 ≤ Ls.length ∧ Ls.length ≤ 4 ∧ (∀ L ∈ Ls, rawL L) ∧ Ls.length ≤ cb ∧ cb ≤ maxLen ∧
  ((agg = ⟨#[]⟩ ∧ at' = 0) ∨ ((agg = ⟨#[109, 105, 110]⟩ ∨ agg = ⟨#[109, 97, 120]⟩ ∨ agg = ⟨#[99, 111, 117, 110, 116]⟩) ∧ at' = 1 ∧ 2 ≤ ts.length)) ∧
  Stays w' (fun k => k < w.heap.size) (fun W => TmsAt W A css ts ∧ LtsAt W Ab cssb Ls) ∧ New w w'
theorem TmAt.kind {w : World} {cs : List Value} {t : Tm} (h : TmAt w cs t) : ∃ k : Int, cs[0]? = some (.int .i64 k) := by
  cases t with
  | var s => exact ⟨1, by rw [show cs = _ from h]; rfl⟩
  | val v => exact ⟨2, by rw [show cs = _ from h]; rfl⟩
  | op m a b => obtain ⟨_, _, _, _, h, _⟩ := h; exact ⟨4, by rw [h]; rfl⟩

set_option maxHeartbeats 8000000 in
set_option maxRecDepth 100000 in
theorem rule06 (w : World) (v : Value) (n : Nat) (X : Nat → Int) (hx : IntsAt w v 6 n X) (k : Int) (hk : B64 k) :
    Calls Try.prog 5 #[v, .int .i64 k] w (RulePost w) := by
  obtain ⟨⟨A, c, rfl, hnc, hcm, hat⟩, hbd⟩ := hx
  have hm := hcm
  unfold maxLen at hm
  have hrows : ∀ i, i < n → ∃ a, A = some a ∧ a.block < w.heap.size ∧ At w (a.add (i * 6)) [.int .i64 (X (i * 6)), .int .i64 (X (i * 6 + 1)), .int .i64 (X (i * 6 + 2)), .int .i64 (X (i * 6 + 3)), .int .i64 (X (i * 6 + 4)), .int .i64 (X (i * 6 + 5))] := fun i hi => by
    obtain ⟨a, ha, hc⟩ := hat (by omega)
    have hc' : ∀ j, j < 6 → w.cell? (a.add (i * 6 + j)) = some (.int .i64 (X (i * 6 + j))) := fun j hj => hc (i * 6 + j) (by omega)
    refine ⟨a, ha, ?_, fun j u hj => ?_⟩
    · have := World.block_lt_of_cell? w _ (hc 0 (by omega))
      rwa [add_block] at this
    · rw [add_add]
      match j, hj with
      | 0, hj => cases hj; exact hc' 0 (by omega)
      | 1, hj => cases hj; exact hc' 1 (by omega)
      | 2, hj => cases hj; exact hc' 2 (by omega)
      | 3, hj => cases hj; exact hc' 3 (by omega)
      | 4, hj => cases hj; exact hc' 4 (by omega)
      | 5, hj => cases hj; exact hc' 5 (by omega)
      | j + 6, hj => simp at hj
  have hbd' : ∀ q, B64 (X q) := hbd
  have HRows := Lib.hid hrows
  have Hbd := Lib.hid hbd'
  clear hat hbd hrows hbd'
  obtain ⟨q, hq⟩ : ∃ p : Nat, pk k 26 = p := ⟨(pk k 26).toNat, by have := pk_lo k 26 (by omega); omega⟩
  have hq26 : q < 26 := by have := pk_hi k 26 (by omega); omega
  have hpick := fun W => pick06 W k 26 hk.1 hk.2 (by omega) (by omega)
  rw [hq] at hpick
  have HP := Lib.hid hpick
  clear hpick hq
  have ku : IntKind.u8.wrap (97 + (q : Int)) = 97 + q := by
    rw [IntKind.wrap_u8']
    omega
  obtain ⟨bt, hbt⟩ : ∃ b : UInt8, (b.toNat : Int) = 97 + q := ⟨UInt8.ofNat (97 + q), by simp [UInt8.toNat_ofNat']; omega⟩
  obtain ⟨lab, hlab⟩ : ∃ lab : ByteArray, (⟨#[114]⟩ ++ ⟨#[bt]⟩ : ByteArray) = lab := ⟨_, rfl⟩
  have hcv : (convert 48 9 (.slice (some ⟨w.heap.size + 1, 0, none⟩) 1 1)).run Try.prog ((w.alloc (.cells #[.string ⟨#[]⟩, .string ⟨#[]⟩, .slice none 0 0, .string ⟨#[]⟩, .int .i64 0, .slice none 0 0] 27)).alloc (.cells #[.int .u8 (97 + q)] 5)) = .ok (.string ⟨#[bt]⟩) ((w.alloc (.cells #[.string ⟨#[]⟩, .string ⟨#[]⟩, .slice none 0 0, .string ⟨#[]⟩, .int .i64 0, .slice none 0 0] 27)).alloc (.cells #[.int .u8 (97 + q)] 5)) := by
    have hb := Blk.new (w.alloc (.cells #[.string ⟨#[]⟩, .string ⟨#[]⟩, .slice none 0 0, .string ⟨#[]⟩, .int .i64 0, .slice none 0 0] 27)) 5 #[.int .u8 (97 + (q : Int))]
    rw [World.size_alloc] at hb
    refine run_convert_bytes_back (P := Try.prog) _ 48 9 5 ⟨w.heap.size + 1, 0, none⟩ 1 [bt] (by kernel_rfl) (by kernel_rfl) (by kernel_rfl) (fun j hj => ?_)
    obtain rfl : j = 0 := by simpa using hj
    rw [Addr.add_lit]
    have := hb.cell 0
    rw [this]
    show some (Value.int .u8 _) = some (Value.int .u8 _)
    rw [show (([bt] : List UInt8)[0]'hj) = bt from rfl, hbt]
  obtain ⟨w3, hw3⟩ : ∃ w3, w3 = (((w.alloc (.cells #[.string ⟨#[]⟩, .string ⟨#[]⟩, .slice none 0 0, .string ⟨#[]⟩, .int .i64 0, .slice none 0 0] 27)).alloc (.cells #[.int .u8 (97 + q)] 5)).alloc (.cells #[.string lab, .string ⟨#[]⟩, .slice none 0 0, .string ⟨#[]⟩, .int .i64 0, .slice none 0 0] 27)).alloc (.cells #[.int .i64 0, .int .i64 0, .int .i64 0, .int .i64 0, .int .i64 0, .int .i64 0] 51) := ⟨_, rfl⟩
  have hN3 : New w w3 := by rw [hw3]; exact ((((Chg.refl _ _).alloc _).alloc _).alloc _).alloc _
  have hB4 : Blk w3 w.heap.size 27 #[.string ⟨#[]⟩, .string ⟨#[]⟩, .slice none 0 0, .string ⟨#[]⟩, .int .i64 0, .slice none 0 0] := by rw [hw3]; exact (((Blk.new w _ _).alloc _).alloc _).alloc _
  obtain ⟨b5, hb5⟩ : ∃ b, w.heap.size + 1 + 1 = b := ⟨_, rfl⟩
  obtain ⟨b6, hb6⟩ : ∃ b, b5 + 1 = b := ⟨_, rfl⟩
  have hB5 : Blk w3 b5 27 #[.string lab, .string ⟨#[]⟩, .slice none 0 0, .string ⟨#[]⟩, .int .i64 0, .slice none 0 0] := by
    have := Blk.new ((w.alloc (.cells #[.string ⟨#[]⟩, .string ⟨#[]⟩, .slice none 0 0, .string ⟨#[]⟩, .int .i64 0, .slice none 0 0] 27)).alloc (.cells #[.int .u8 (97 + (q : Int))] 5)) 27 #[.string lab, .string ⟨#[]⟩, .slice none 0 0, .string ⟨#[]⟩, .int .i64 0, .slice none 0 0]
    rw [World.size_alloc, World.size_alloc, hb5] at this
    rw [hw3]
    exact this.alloc _
  have hB6 : Blk w3 b6 51 #[.int .i64 0, .int .i64 0, .int .i64 0, .int .i64 0, .int .i64 0, .int .i64 0] := by
    have := Blk.new (((w.alloc (.cells #[.string ⟨#[]⟩, .string ⟨#[]⟩, .slice none 0 0, .string ⟨#[]⟩, .int .i64 0, .slice none 0 0] 27)).alloc (.cells #[.int .u8 (97 + (q : Int))] 5)).alloc (.cells #[.string lab, .string ⟨#[]⟩, .slice none 0 0, .string ⟨#[]⟩, .int .i64 0, .slice none 0 0] 27)) 51 #[.int .i64 0, .int .i64 0, .int .i64 0, .int .i64 0, .int .i64 0, .int .i64 0]
    rw [World.size_alloc, World.size_alloc, World.size_alloc, hb5, hb6] at this
    rw [hw3]
    exact this
  have h56 : w.heap.size < b5 ∧ b5 < b6 := by omega
  have HN3 := Lib.hid hN3
  have HB4 := Lib.hid hB4
  have HB5 := Lib.hid hB5
  have HB6 := Lib.hid hB6
  have HW3 := Lib.hid hw3
  have H56 := Lib.hid h56
  have Hb5 := Lib.hid hb5
  have Hb6 := Lib.hid hb6
  have sz9 : (Try.prog.info? 9).map (·.size) = some 1 := by kernel_rfl
  have sz34 : (Try.prog.info? 24).map (·.size) = some 1 := by kernel_rfl
  have sz35 : (Try.prog.info? 25).map (·.size) = some 1 := by kernel_rfl
  have sz3 : (Try.prog.info? 3).map (·.size) = some 1 := by kernel_rfl
  clear hbt hN3 hB4 hB5 hB6 hw3 h56 hb5 hb6
  go_enter Try.func5, Try.ntmps5
  go_upto_region 3 with (go_at_call 13; refine (HP.out _).mono ?_; rintro e w' ⟨rfl, rfl⟩; clear HP)
  rw [← HW3.out, Hb5.out, Hb6.out]
  clear hcv HW3 Hb5 Hb6
  go_upto_if 18 with fail
  go_cut [] from 16 to 22 (fun wx => ∃ z0 z1 z2 z3 z4 z5 : Int, (B64 z0 ∧ B64 z1 ∧ B64 z2 ∧ B64 z3 ∧ B64 z4 ∧ B64 z5) ∧ Chg w3 wx (fun k => k = b6) ∧ Blk wx b6 51 #[.int .i64 z0, .int .i64 z1, .int .i64 z2, .int .i64 z3, .int .i64 z4, .int .i64 z5])
  case first =>
    by_cases h0 : n = 0
    · have hd : decide ((0 : Int) < (n : Int)) = false := by simp; omega
      go_wp2_with fail
      go_meet
      exact ⟨0, 0, 0, 0, 0, 0, by unfold B64; omega, Chg.refl _ _, HB6.out⟩
    · have hd : decide ((0 : Int) < (n : Int)) = true := by simp; omega
      have hd' : decide (0 < n) = true := by simp; omega
      obtain ⟨a, rfl, hab, hrow⟩ := HRows.out 0 (by omega)
      have Hrow := Lib.hid (hrow.chg HN3.out id)
      clear hrow
      have p0 : 0 < n := by omega
      go_wp2_with first
        | ((with_reducible refine wpl_load rfl (.tmp 20) 51 rfl stRaw (a.add (0 * 6)) [.int .i64 (X (0 * 6)), .int .i64 (X (0 * 6 + 1)), .int .i64 (X (0 * 6 + 2)), .int .i64 (X (0 * 6 + 3)), .int .i64 (X (0 * 6 + 4)), .int .i64 (X (0 * 6 + 5))] ?_ rfl Hrow.out ?_); exact rfl)
        | ((with_reducible refine wpl_set rfl (.tmp 6) (.tmp 21) 51 rfl rfl stRaw b6 51 _ [.int .i64 (X (0 * 6)), .int .i64 (X (0 * 6 + 1)), .int .i64 (X (0 * 6 + 2)), .int .i64 (X (0 * 6 + 3)), .int .i64 (X (0 * 6 + 4)), .int .i64 (X (0 * 6 + 5))] ?_ ?_ HB6.out rfl rfl (ints_one _ _ _ _ _ _) ?_); exact rfl; exact rfl; intro w6 hc6 hb6 hs6; have HC6 := Lib.hid hc6; have HX6 := Lib.hid hb6; clear hc6 hb6 hs6)
      go_meet
      exact ⟨_, _, _, _, _, _, ⟨Hbd.out _, Hbd.out _, Hbd.out _, Hbd.out _, Hbd.out _, Hbd.out _⟩, HC6.out, HX6.out⟩
  case rest =>
    obtain ⟨z0, z1, z2, z3, z4, z5, hz, hcc, hX6⟩ := hcut
    have HZ := Lib.hid hz
    have h6l := HB6.out.lt
    have H56' := H56.out
    have HB4c := Lib.hid (HB4.out.chg hcc (fun e => by omega))
    have HB5c := Lib.hid (HB5.out.chg hcc (fun e => by omega))
    have HX6 := Lib.hid hX6
    have hl3 := HN3.out.size
    have HNc := Lib.hid (HN3.out.trans hcc (fun k hk e => by omega))
    clear hz hcc hX6 HN3 HB4 HB5 HB6 h6l hl3
    obtain ⟨wk, hwk⟩ : ∃ wk, wk = wc := ⟨_, rfl⟩
    rw [← hwk] at HB4c HB5c HX6 HNc ⊢
    clear hwk
    obtain ⟨B, hB⟩ : ∃ B, wk.heap.size = B := ⟨_, rfl⟩
    have h4B : w.heap.size < B := by rw [← hB]; exact HB4c.out.lt
    have h5B : b5 < B := by rw [← hB]; exact HB5c.out.lt
    have h6B : b6 < B := by rw [← hB]; exact HX6.out.lt
    have HBe := Lib.hid hB
    clear hB
    have HXl := Lib.hid HX6.out.at_
    go_upto_region 6 with first
      | ((with_reducible refine wpl_load rfl (.tmp 6) 51 rfl stRaw ⟨b6, 0, none⟩ [.int .i64 z0, .int .i64 z1, .int .i64 z2, .int .i64 z3, .int .i64 z4, .int .i64 z5] ?_ rfl HXl.out ?_); exact rfl)
      | (go_at_call 14; refine (atom06 _ z0 z1 z2 z3 z4 z5 HZ.out.2.1 HZ.out.2.2.1 HZ.out.2.2.2.1 HZ.out.2.2.2.2.1).mono ?_; rintro e w7 ⟨nm, v4, ts, css, rfl, hrel, hl1, hl3, hfst, hraw, hst, hown, hN7⟩; obtain ⟨Ah, ch, rfl, hc1, hc2⟩ := hown.form; have hcl := hst.now.len; rw [hcl] at hown ⊢; have HRel := Lib.hid hrel; have HFst := Lib.hid hfst; have HRaw := Lib.hid hraw; have HTs := Lib.hid (tms_stays hown hst); have HOh := Lib.hid hown; have HN7 := Lib.hid hN7; have Hl1 := Lib.hid hl1; have Hl3 := Lib.hid hl3; have HB57 := Lib.hid (HB5c.out.chg hN7 id); clear hrel hfst hraw hst hown hN7 hl1 hl3 hc1 hc2 hcl)
      | ((with_reducible refine wpl_put rfl (.tmp 27) (.tmp 25) 9 rfl rfl sz9 b5 1 27 _ (.string nm) #[.string lab, .string nm, .slice none 0 0, .string ⟨#[]⟩, .int .i64 0, .slice none 0 0] ?_ ?_ HB57.out ?_ ?_ ?_ ?_); exact rfl; exact rfl; exact (by decide : 1 < 6); exact rfl; exact rfl; intro w8 hc8 hb8 hs8; have HC8 := Lib.hid hc8; have HB58 := Lib.hid hb8; clear hc8 hb8 hs8)
      | ((with_reducible refine wpl_put rfl (.tmp 28) (.tmp 26) 24 rfl rfl sz34 b5 2 27 _ (.slice Ah ts.length ch) #[.string lab, .string nm, .slice Ah ts.length ch, .string ⟨#[]⟩, .int .i64 0, .slice none 0 0] ?_ ?_ HB58.out ?_ ?_ ?_ ?_); exact rfl; exact rfl; exact (by decide : 2 < 6); exact rfl; exact rfl; intro w9 hc9 hb9 hs9; have HC9 := Lib.hid (HC8.out.trans hc9 (fun k _ e => e)); have HB59 := Lib.hid hb9; clear hc9 hb9 hs9)
    have hB7 := HBe.out
    have hs7 := HN7.out.size
    have HT9 := Lib.hid (HTs.out.chg HC9.out (fun k _ e => by rw [hB7]; omega) (S1 := fun k => k < B) (fun k _ e => by rw [hB7]; exact e))
    have HB49 := Lib.hid ((HB4c.out.chg HN7.out id).chg HC9.out (fun e => by have := H56.out; omega))
    have HX69 := Lib.hid ((HX6.out.chg HN7.out id).chg HC9.out (fun e => by have := H56.out; omega))
    have HN9 := Lib.hid ((HNc.out.trans HN7.out (fun _ _ x => x)).trans HC9.out (fun k hk e => by have := H56.out; omega))
    have hB9 : B ≤ w9.heap.size := by rw [← hB7]; exact Nat.le_trans hs7 HC9.out.size
    clear HTs HOh HN7 HB57 HB58 HC8 HC9 HB4c HB5c HX6 HNc HXl hB7 hs7 HBe
    go_wp2_with fail
    go_loopw [7] (fun u7 wr => ∃ (i : Nat) (Ls : List Lt) (cssb : List (List Value)) (vb : Value), 1 ≤ i ∧ i ≤ 5 ∧ u7 = .int .i64 i ∧ Ls.length + 1 = i ∧ (∀ L ∈ Ls, rawL L) ∧ Blk wr b5 27 #[.string lab, .string nm, .slice Ah ts.length ch, .string ⟨#[]⟩, .int .i64 0, vb] ∧ Blk wr b6 51 #[.int .i64 z0, .int .i64 z1, .int .i64 z2, .int .i64 z3, .int .i64 z4, .int .i64 z5] ∧ Blk wr w.heap.size 27 #[.string ⟨#[]⟩, .string ⟨#[]⟩, .slice none 0 0, .string ⟨#[]⟩, .int .i64 0, .slice none 0 0] ∧ Own wr B 43 3 vb cssb ∧ Stays wr (fun k => k < B ∨ vb.ownBlock = some k) (fun W => LtL W cssb Ls) ∧ Stays wr (fun k => k < B ∨ vb.ownBlock = some k) (fun W => TmsAt W Ah css ts) ∧ B ≤ wr.heap.size ∧ New w wr) (fun u _ => 5 - (intOf u).toNat)
    case atStart => exact ⟨1, [], [], .slice none 0 0, Nat.le_refl _, by omega, rfl, rfl, fun L hL => (by cases hL), HB59.out, HX69.out, HB49.out, Own.nil _ _ _ _, fun W' _ => LtL.nil W', HT9.out.chg (Chg.refl _ (fun _ => False)) (fun _ _ x => x.elim) (fun k _ e => e.elim id (fun h => by cases h)), hB9, HN9.out⟩
    case round =>
      obtain ⟨i, Ls, cssb, vb, hi1, hi5, rfl, hLl, hrL, hb5, hb6, hb4, hob, hlt, htt, hBr, hN⟩ := hrel
      obtain ⟨Ab, cb, rfl, hcb1, hcb2⟩ := hob.form
      have hcl : cssb.length = Ls.length := hlt.now.len
      obtain ⟨ib, hib⟩ : ∃ ib, Ls.length = ib := ⟨_, rfl⟩
      rw [hcl, hib] at hob hb5 hlt htt hcb1
      have e5 := hb5.cell 5
      simp only [List.getElem?_toArray, List.getElem?_cons_zero, List.getElem?_cons_succ] at e5
      have HLl := Lib.hid hLl
      have HrL := Lib.hid hrL
      have H5 := Lib.hid hb5
      have H6 := Lib.hid hb6
      have H4 := Lib.hid hb4
      have HOb := Lib.hid hob
      have HLt := Lib.hid hlt
      have HTt := Lib.hid htt
      have HNr := Lib.hid hN
      have Hib := Lib.hid hib
      have Hcl := Lib.hid hcl
      have HBr := Lib.hid hBr
      clear hLl hrL hb5 hb6 hb4 hob hlt htt hN hib hcl hBr
      have hil : ib + 1 = i := by rw [← Hib.out]; exact HLl.out
      have Hil := Lib.hid hil
      clear hil
      by_cases hgo : i < n ∧ i < 5
      · obtain ⟨hin, hi5'⟩ := hgo
        have l1 : decide ((i : Int) < (n : Int)) = true := by simpa using hin
        have l1' : decide (i < n) = true := by simpa using hin
        have l2 : decide ((i : Int) < 5) = true := by simp; omega
        obtain ⟨a, rfl, hab, hrow⟩ := HRows.out i hin
        have hneB : ∀ g, (Value.slice Ab ib cb).ownBlock = some g → B ≤ g := fun g hg => (HOb.out.lt hg).1
        have hne5 : ∀ g, (Value.slice Ab ib cb).ownBlock = some g → g ≠ b5 := fun g hg e => by have := hneB g hg; omega
        have hneA : ∀ g, (Value.slice Ab ib cb).ownBlock = some g → g ≠ (a.add (i * 6)).block := fun g hg e => by
          rw [add_block] at e
          have := hneB g hg; omega
        have HneB := Lib.hid hneB
        have Hne5 := Lib.hid hne5
        have HneA := Lib.hid hneA
        have q0 : (0 : Int) ≤ (i : Int) := by omega
        have q1 : (i : Int) < (n : Int) := by omega
        have eg27 : ∀ (args : Array Value) (w : World), (callFunc 15 args).run Try.prog w = .ok (.enter 15 args) w := enters_of Try.func15 (by kernel_rfl) rfl
        go_upto_region 9 with fail
        refine wp_region_at (by kernel_rfl) ?_
        have hnd : New wr wr.drew := (Chg.refl _ _).drew
        have DRow := Lib.hid ((hrow.chg HNr.out id).chg hnd id)
        have D5 := Lib.hid (H5.out.chg hnd id)
        have D6 := Lib.hid (H6.out.chg hnd id)
        have D4 := Lib.hid (H4.out.chg hnd id)
        have DOb := Lib.hid (HOb.out.chg hnd (fun _ _ x => x))
        have DLt := Lib.hid (HLt.out.chg hnd (fun _ _ x => x.elim) (fun k _ e => e))
        have DTt := Lib.hid (HTt.out.chg hnd (fun _ _ x => x.elim) (fun k _ e => e))
        have DN := Lib.hid (HNr.out.trans hnd (fun _ _ x => x))
        have DBr := Lib.hid (Nat.le_trans HBr.out hnd.size)
        clear hnd hrow e5 H5 H6 H4 HOb HLt HTt HNr HBr hneB hne5 hneA
        generalize wr.drew = wd at DRow D5 D6 D4 DOb DLt DTt DN DBr ⊢
        have hst : ∀ jj uu w1 w2, New w1 w2 → (fun
            | 0 => fun v _ => v = .pointer (some ⟨b5, 5, none⟩)
            | 1 => fun v _ => v = .slice Ab ib cb
            | 2 => fun v _ => v = .slice (some a) n c
            | 3 => fun v _ => v = .int .i64 i
            | 4 => fun v _ => v = .pointer (some (a.add (i * 6)))
            | 5 => fun v _ => v = .agg #[.int .i64 (X (i * 6)), .int .i64 (X (i * 6 + 1)), .int .i64 (X (i * 6 + 2)), .int .i64 (X (i * 6 + 3)), .int .i64 (X (i * 6 + 4)), .int .i64 (X (i * 6 + 5))]
            | 6 => fun v W => ∃ (L : Lt) (A' : Option Addr) (c' : Nat), v = .agg #[.int .i64 L.kind, .string L.name, .slice A' L.args.length c'] ∧ rawL L ∧ Stays W (fun k => k < wd.heap.size) (fun W => LtAt W [.int .i64 L.kind, .string L.name, .slice A' L.args.length c'] L)
            | 7 => fun v W => ∃ (rb : Nat) (L : Lt) (A' : Option Addr) (c' : Nat), v = .slice (some ⟨rb, 0, none⟩) 1 1 ∧ Blk W rb 43 #[.int .i64 L.kind, .string L.name, .slice A' L.args.length c'] ∧ rawL L ∧ Stays W (fun k => k < wd.heap.size) (fun W => LtAt W [.int .i64 L.kind, .string L.name, .slice A' L.args.length c'] L)
            | 8 => fun v W => ∃ (L : Lt) (A' : Option Addr) (c' : Nat), Own W B 43 3 v (cssb ++ [[.int .i64 L.kind, .string L.name, .slice A' L.args.length c']]) ∧ (∀ k, v.ownBlock = some k → (Value.slice Ab ib cb).ownBlock = some k ∨ wd.heap.size ≤ k) ∧ rawL L ∧ Stays W (fun k => k < B ∨ v.ownBlock = some k) (fun W => LtL W (cssb ++ [[.int .i64 L.kind, .string L.name, .slice A' L.args.length c']]) (Ls ++ [L]))
            | 9 => fun v _ => v = .pointer (some ⟨b5, 5, none⟩)
            | _ => fun _ _ => True : Nat → Value → World → Prop) jj uu w1 → (fun
            | 0 => fun v _ => v = .pointer (some ⟨b5, 5, none⟩)
            | 1 => fun v _ => v = .slice Ab ib cb
            | 2 => fun v _ => v = .slice (some a) n c
            | 3 => fun v _ => v = .int .i64 i
            | 4 => fun v _ => v = .pointer (some (a.add (i * 6)))
            | 5 => fun v _ => v = .agg #[.int .i64 (X (i * 6)), .int .i64 (X (i * 6 + 1)), .int .i64 (X (i * 6 + 2)), .int .i64 (X (i * 6 + 3)), .int .i64 (X (i * 6 + 4)), .int .i64 (X (i * 6 + 5))]
            | 6 => fun v W => ∃ (L : Lt) (A' : Option Addr) (c' : Nat), v = .agg #[.int .i64 L.kind, .string L.name, .slice A' L.args.length c'] ∧ rawL L ∧ Stays W (fun k => k < wd.heap.size) (fun W => LtAt W [.int .i64 L.kind, .string L.name, .slice A' L.args.length c'] L)
            | 7 => fun v W => ∃ (rb : Nat) (L : Lt) (A' : Option Addr) (c' : Nat), v = .slice (some ⟨rb, 0, none⟩) 1 1 ∧ Blk W rb 43 #[.int .i64 L.kind, .string L.name, .slice A' L.args.length c'] ∧ rawL L ∧ Stays W (fun k => k < wd.heap.size) (fun W => LtAt W [.int .i64 L.kind, .string L.name, .slice A' L.args.length c'] L)
            | 8 => fun v W => ∃ (L : Lt) (A' : Option Addr) (c' : Nat), Own W B 43 3 v (cssb ++ [[.int .i64 L.kind, .string L.name, .slice A' L.args.length c']]) ∧ (∀ k, v.ownBlock = some k → (Value.slice Ab ib cb).ownBlock = some k ∨ wd.heap.size ≤ k) ∧ rawL L ∧ Stays W (fun k => k < B ∨ v.ownBlock = some k) (fun W => LtL W (cssb ++ [[.int .i64 L.kind, .string L.name, .slice A' L.args.length c']]) (Ls ++ [L]))
            | 9 => fun v _ => v = .pointer (some ⟨b5, 5, none⟩)
            | _ => fun _ _ => True : Nat → Value → World → Prop) jj uu w2 := by
          intro j uu w1 w2 hc h
          match j with
          | 6 => exact h.imp fun L h => h.imp fun A' h => h.imp fun c' h => ⟨h.1, h.2.1, h.2.2.chg hc (fun _ _ x => x.elim) (fun k _ e => e)⟩
          | 7 => exact h.imp fun rb h => h.imp fun L h => h.imp fun A' h => h.imp fun c' h => ⟨h.1, h.2.1.chg hc id, h.2.2.1, h.2.2.2.chg hc (fun _ _ x => x.elim) (fun k _ e => e)⟩
          | 8 => exact h.imp fun L h => h.imp fun A' h => h.imp fun c' h => ⟨h.1.chg hc (fun _ _ x => x), h.2.1, h.2.2.1, h.2.2.2.chg hc (fun _ _ x => x.elim) (fun k _ e => e)⟩
          | 0 | 1 | 2 | 3 | 4 | 5 | 9 => exact h
          | _ + 10 => trivial
        refine AtN.segX2 0 10 8 [39, 40, 41, 42, 43, 44, 45, 46, 47, 48] (fun k => (Value.slice Ab ib cb).ownBlock = some k) (fun
            | 6 => 7
            | 7 => 8
            | _ => 999) (fun
            | 0 => fun v _ => v = .pointer (some ⟨b5, 5, none⟩)
            | 1 => fun v _ => v = .slice Ab ib cb
            | 2 => fun v _ => v = .slice (some a) n c
            | 3 => fun v _ => v = .int .i64 i
            | 4 => fun v _ => v = .pointer (some (a.add (i * 6)))
            | 5 => fun v _ => v = .agg #[.int .i64 (X (i * 6)), .int .i64 (X (i * 6 + 1)), .int .i64 (X (i * 6 + 2)), .int .i64 (X (i * 6 + 3)), .int .i64 (X (i * 6 + 4)), .int .i64 (X (i * 6 + 5))]
            | 6 => fun v W => ∃ (L : Lt) (A' : Option Addr) (c' : Nat), v = .agg #[.int .i64 L.kind, .string L.name, .slice A' L.args.length c'] ∧ rawL L ∧ Stays W (fun k => k < wd.heap.size) (fun W => LtAt W [.int .i64 L.kind, .string L.name, .slice A' L.args.length c'] L)
            | 7 => fun v W => ∃ (rb : Nat) (L : Lt) (A' : Option Addr) (c' : Nat), v = .slice (some ⟨rb, 0, none⟩) 1 1 ∧ Blk W rb 43 #[.int .i64 L.kind, .string L.name, .slice A' L.args.length c'] ∧ rawL L ∧ Stays W (fun k => k < wd.heap.size) (fun W => LtAt W [.int .i64 L.kind, .string L.name, .slice A' L.args.length c'] L)
            | 8 => fun v W => ∃ (L : Lt) (A' : Option Addr) (c' : Nat), Own W B 43 3 v (cssb ++ [[.int .i64 L.kind, .string L.name, .slice A' L.args.length c']]) ∧ (∀ k, v.ownBlock = some k → (Value.slice Ab ib cb).ownBlock = some k ∨ wd.heap.size ≤ k) ∧ rawL L ∧ Stays W (fun k => k < B ∨ v.ownBlock = some k) (fun W => LtL W (cssb ++ [[.int .i64 L.kind, .string L.name, .slice A' L.args.length c']]) (Ls ++ [L]))
            | 9 => fun v _ => v = .pointer (some ⟨b5, 5, none⟩)
            | _ => fun _ _ => True : Nat → Value → World → Prop) (by kernel_rfl) (by kernel_rfl) (by kernel_rfl) (by kernel_rfl) (fun i hn hi o ho A0 W b hJ hμ hin hk => ?_) (fun l W3 hJ hl hΦ => ?_)
        · rcases (show i = 0 ∨ i = 1 ∨ i = 2 ∨ i = 3 ∨ i = 4 ∨ i = 5 ∨ i = 6 ∨ i = 7 ∨ i = 8 ∨ i = 9 by omega) with rfl | rfl | rfl | rfl | rfl | rfl | rfl | rfl | rfl | rfl
          · cases ho
            have h5 : A0.tmps[5]?.getD undef = .pointer (some ⟨b5, 0, none⟩) := hk 5 (by kernel_rfl)
            refine .newX (i := 0) hJ hst ?_
            exact .same (v := .pointer (some ⟨b5, 5, none⟩)) (by simp [go_sem, h5]) rfl
          · cases ho
            have h39 : A0.tmps[39]?.getD undef = .pointer (some ⟨b5, 5, none⟩) := hin 0 39 (by kernel_rfl)
            refine .newX (i := 1) hJ hst ?_
            have hc : W.cell? ⟨b5, 5, none⟩ = some (.slice Ab ib cb) := (D5.out.chg hJ.1 (fun h => Hne5.out _ h rfl)).cell 5
            exact .same (v := .slice Ab ib cb) (by simp [go_sem, h39, hc]) rfl
          · cases ho
            refine .newX (i := 2) hJ hst ?_
            exact .same (exec_move 0 (.slice (some a) n c) rfl (hk 0 (by kernel_rfl))) rfl
          · cases ho
            refine .newX (i := 3) hJ hst ?_
            exact .same (exec_move 7 (.int .i64 i) rfl (hk 7 (by kernel_rfl))) rfl
          · cases ho
            have h41 : A0.tmps[41]?.getD undef = .slice (some a) n c := hin 2 41 (by kernel_rfl)
            have h42 : A0.tmps[42]?.getD undef = .int .i64 i := hin 3 42 (by kernel_rfl)
            refine .newX (i := 4) hJ hst ?_
            exact .same (v := .pointer (some (a.add (i * 6)))) (by simp [go_sem, h41, h42, q0, q1, hin]) rfl
          · cases ho
            have h43 : A0.tmps[43]?.getD undef = .pointer (some (a.add (i * 6))) := hin 4 43 (by kernel_rfl)
            refine .newX (i := 5) hJ hst ?_
            exact .same (exec_load 43 _ rfl stRaw (a.add (i * 6)) [.int .i64 (X (i * 6)), .int .i64 (X (i * 6 + 1)), .int .i64 (X (i * 6 + 2)), .int .i64 (X (i * 6 + 3)), .int .i64 (X (i * 6 + 4)), .int .i64 (X (i * 6 + 5))] h43 rfl (DRow.out.chg hJ.1 (fun h => HneA.out _ h rfl))) rfl
          · cases ho
            have h44 : A0.tmps[44]?.getD undef = .agg #[.int .i64 (X (i * 6)), .int .i64 (X (i * 6 + 1)), .int .i64 (X (i * 6 + 2)), .int .i64 (X (i * 6 + 3)), .int .i64 (X (i * 6 + 4)), .int .i64 (X (i * 6 + 5))] := hin 5 44 (by kernel_rfl)
            refine .newX (i := 6) hJ hst ?_
            refine .call (f := 15) (args := #[.agg #[.int .i64 (X (i * 6)), .int .i64 (X (i * 6 + 1)), .int .i64 (X (i * 6 + 2)), .int .i64 (X (i * 6 + 3)), .int .i64 (X (i * 6 + 4)), .int .i64 (X (i * 6 + 5))]]) (W' := W) ?_ ((lit06 W _ _ _ _ _ _ (Hbd.out _) (Hbd.out _) (Hbd.out _) (Hbd.out _) (Hbd.out _) (Hbd.out _)).mono ?_)
            · simp [go_sem, h44, eg27]
            · rintro e w' ⟨L, A', c', rfl, hL, hst, hc⟩
              have hsz := hJ.1.size
              exact ⟨_, rfl, hc, L, A', c', rfl, hL, hst.chg (Chg.refl _ (fun _ => False)) (fun _ _ x => x.elim) (fun k _ e => Nat.lt_of_lt_of_le e hsz)⟩
          · cases ho
            have h45 := hin 6 45 (by kernel_rfl)
            refine .newX (i := 7) hJ hst ?_
            obtain ⟨L, A', c', e, hL, hs⟩ := h45
            have hn1 : New W (W.alloc (.cells #[.int .i64 L.kind, .string L.name, .slice A' L.args.length c'] 43)) := (Chg.refl _ _).alloc _
            exact .value (W' := W.alloc (.cells #[.int .i64 L.kind, .string L.name, .slice A' L.args.length c'] 43)) (v := .slice (some ⟨W.heap.size, 0, none⟩) 1 1) (by simp [go_sem, e]) ⟨hn1, _, L, A', c', rfl, Blk.new _ _ _, hL, hs.chg hn1 (fun _ _ x => x.elim) (fun k _ e => e)⟩
          · cases ho
            have h40 : A0.tmps[40]?.getD undef = .slice Ab ib cb := hin 1 40 (by kernel_rfl)
            have h46 := hin 7 46 (by kernel_rfl)
            obtain ⟨rb, L, A', c', eo, hb, hL, hs⟩ := h46
            have hbf : b = false := hμ rfl
            have hNn : New wd W := hJ.2 hbf
            obtain ⟨v1, W', hrun, hown, hchg, hblk⟩ := elLit.appendS (DOb.out.chg hNn (fun _ _ x => x)) (Nat.le_trans DBr.out hJ.1.size) (some ⟨rb, 0, none⟩) 1 1 [[.int .i64 L.kind, .string L.name, .slice A' L.args.length c']] rfl (fun cs hc => by simp only [List.mem_cons, List.not_mem_nil, or_false] at hc; subst hc; rfl) (fun cs hc => by rw [List.mem_singleton.1 hc]; exact lit_one _ _ _ _ _) (src_one hb.at_ rfl) (by rw [Hcl.out, Hib.out]; have := Hil.out; omega) (by rw [Hcl.out, Hib.out]; have := Hil.out; unfold maxLen; omega) 25
            refine .value (exec_append _ _ _ _ rfl (by simpa [Act.eval] using h40) (by simpa [Act.eval] using eo) hrun) ⟨hJ.turn hchg (fun _ _ x => x), ⟨L, A', c', hown, fun k hk => (hblk k hk).imp id (fun h => Nat.le_trans hJ.1.size h), hL, LtL.grow DBr.out (fun k e => (DOb.out.lt e).2) DLt.out hNn hs hchg hblk⟩, fun k u hki hkx hka hkb h => ?_⟩
            match k with
            | 6 => exact hkb.elim (fun h => absurd h (by decide)) (fun h => ahead_no h (by kernel_rfl))
            | 7 => exact absurd rfl hkx
            | 8 => exact absurd rfl hki
            | 0 | 1 | 2 | 3 | 4 | 5 | 9 => exact h
            | _ + 10 => trivial
          · cases ho
            have h5 : A0.tmps[5]?.getD undef = .pointer (some ⟨b5, 0, none⟩) := hk 5 (by kernel_rfl)
            refine .newX (i := 9) hJ hst ?_
            exact .same (v := .pointer (some ⟨b5, 5, none⟩)) (by simp [go_sem, h5]) rfl
        obtain ⟨x39, x40, x41, x42, x43, x44, x45, x46, x47, x48, rfl⟩ : ∃ x39 x40 x41 x42 x43 x44 x45 x46 x47 x48, l = [x39, x40, x41, x42, x43, x44, x45, x46, x47, x48] := by
          match l, hl with
          | [x39, x40, x41, x42, x43, x44, x45, x46, x47, x48], _ => exact ⟨_, _, _, _, _, _, _, _, _, _, rfl⟩
        obtain rfl : x39 = .pointer (some ⟨b5, 5, none⟩) := hΦ 0 (by decide) (by decide)
        obtain rfl : x40 = .slice Ab ib cb := hΦ 1 (by decide) (by decide)
        obtain rfl : x41 = .slice (some a) n c := hΦ 2 (by decide) (by decide)
        obtain rfl : x42 = .int .i64 i := hΦ 3 (by decide) (by decide)
        obtain rfl : x43 = .pointer (some (a.add (i * 6))) := hΦ 4 (by decide) (by decide)
        obtain rfl : x44 = .agg #[.int .i64 (X (i * 6)), .int .i64 (X (i * 6 + 1)), .int .i64 (X (i * 6 + 2)), .int .i64 (X (i * 6 + 3)), .int .i64 (X (i * 6 + 4)), .int .i64 (X (i * 6 + 5))] := hΦ 5 (by decide) (by decide)
        have hx47 : (fun v W => ∃ (L : Lt) (A' : Option Addr) (c' : Nat), Own W B 43 3 v (cssb ++ [[.int .i64 L.kind, .string L.name, .slice A' L.args.length c']]) ∧ (∀ k, v.ownBlock = some k → (Value.slice Ab ib cb).ownBlock = some k ∨ wd.heap.size ≤ k) ∧ rawL L ∧ Stays W (fun k => k < B ∨ v.ownBlock = some k) (fun W => LtL W (cssb ++ [[.int .i64 L.kind, .string L.name, .slice A' L.args.length c']]) (Ls ++ [L])) : Value → World → Prop) x47 W3 := hΦ 8 (by decide) (by decide)
        obtain rfl : x48 = .pointer (some ⟨b5, 5, none⟩) := hΦ 9 (by decide) (by decide)
        simp only [putsL, List.zip_cons_cons, List.zip_nil_left, List.zip_nil_right, List.zip, List.zipWith, Act.put, List.setIfInBounds_toArray, List.set_cons_succ, List.set_cons_zero]
        clear hΦ hl hst
        obtain ⟨L, A', c', hown, hblk, hL, hst⟩ := hx47
        obtain ⟨An, cn, hvn, hcn1, hcn2⟩ := hown.form
        rw [List.length_append, Hcl.out, Hib.out, List.length_singleton] at hvn
        subst hvn
        have HOn := Lib.hid hown
        have HSt := Lib.hid hst
        have HL := Lib.hid hL
        have E5 := Lib.hid (D5.out.chg hJ.1 (fun h => Hne5.out _ h rfl))
        have E6 := Lib.hid (D6.out.chg hJ.1 (fun h => by have := HneB.out _ h; omega))
        have E4 := Lib.hid (D4.out.chg hJ.1 (fun h => by have := HneB.out _ h; omega))
        have ET := Lib.hid (DTt.out.chg hJ.1 (fun k _ e => .inr e) (S1 := fun k => k < B ∨ (Value.slice An (ib + 1) cn).ownBlock = some k) (fun k hk e => e.imp id (fun e => (hblk k e).elim id (fun h => absurd hk (Nat.not_lt.2 h)))))
        have EN := Lib.hid (DN.out.trans hJ.1 (fun k hk h => by have := HneB.out _ h; omega))
        have EB := Lib.hid (Nat.le_trans DBr.out hJ.1.size)
        clear hown hst hblk hJ hL D5 D6 D4 DOb DLt DTt DN DBr DRow
        refine AtN.list 10 11 (by kernel_rfl) ?_
        change wpList _ _ _ [_] _ _
        go_wp2_with ((with_reducible refine wpl_put rfl (.tmp 48) (.tmp 47) 25 rfl rfl sz35 b5 5 27 _ (.slice An (ib + 1) cn) #[.string lab, .string nm, .slice Ah ts.length ch, .string ⟨#[]⟩, .int .i64 0, .slice An (ib + 1) cn] ?_ ?_ E5.out ?_ ?_ ?_ ?_); exact rfl; exact rfl; exact (by decide : 5 < 6); exact rfl; exact rfl; intro w9 hc9 hb9 hs9; have HC9 := Lib.hid hc9; have HB9 := Lib.hid hb9; have Hs9 := Lib.hid hs9; clear hc9 hb9 hs9)
        change AtN _ _ _ 11 _ _
        refine AtN.done rfl ?_
        go_wp2_with fail
        have hfin : Blk w9 b6 51 #[.int .i64 z0, .int .i64 z1, .int .i64 z2, .int .i64 z3, .int .i64 z4, .int .i64 z5] ∧ Blk w9 w.heap.size 27 #[.string ⟨#[]⟩, .string ⟨#[]⟩, .slice none 0 0, .string ⟨#[]⟩, .int .i64 0, .slice none 0 0] ∧ Own w9 B 43 3 (.slice An (ib + 1) cn) (cssb ++ [[.int .i64 L.kind, .string L.name, .slice A' L.args.length c']]) ∧ Stays w9 (fun k => k < B ∨ (Value.slice An (ib + 1) cn).ownBlock = some k) (fun W => LtL W (cssb ++ [[.int .i64 L.kind, .string L.name, .slice A' L.args.length c']]) (Ls ++ [L])) ∧ Stays w9 (fun k => k < B ∨ (Value.slice An (ib + 1) cn).ownBlock = some k) (fun W => TmsAt W Ah css ts) ∧ B ≤ w9.heap.size ∧ New w w9 :=
          ⟨E6.out.chg HC9.out (fun e => by have := H56.out; omega), E4.out.chg HC9.out (fun e => by have := H56.out; omega), HOn.out.chg HC9.out (fun g hg e => by have := (HOn.out.lt hg).1; omega), HSt.out.chg HC9.out (fun k _ e => .inl (by omega)) (fun k _ e => e), ET.out.chg HC9.out (fun k _ e => .inl (by omega)) (fun k _ e => e), by rw [Hs9.out]; exact EB.out, EN.out.trans HC9.out (fun k hk e => by have := H56.out; omega)⟩
        have HF := Lib.hid hfin
        have HrL2 : ∀ L' ∈ Ls ++ [L], rawL L' := fun L' h => (List.mem_append.1 h).elim (HrL.out L') (fun h => by rw [List.mem_singleton.1 h]; exact HL.out)
        go_roundw
        case rel => exact ⟨i + 1, Ls ++ [L], _, _, by omega, by omega, by go_num, by rw [List.length_append, Hib.out, List.length_singleton]; have := Hil.out; omega, HrL2, HB9.out, HF.out⟩
        case measure => simp only [intOf]; omega
      · obtain ⟨hL4, hgo'⟩ : ib ≤ 4 ∧ (¬ i < n ∨ i = 5) := by have := Hil.out; omega
        have HL4 := Lib.hid hL4
        obtain ⟨cl1, cl2⟩ : (decide ((i : Int) < (n : Int)) = false ∨ (decide ((i : Int) < (n : Int)) = true ∧ decide ((i : Int) < 5) = false)) ∧ True := by
          refine ⟨?_, trivial⟩
          by_cases h : i < n
          · exact .inr ⟨by simpa using h, by simp; omega⟩
          · exact .inl (by simpa using h)
        have Hq := Lib.hid cl1
        clear cl1 cl2 hgo hgo' hL4
        go_upto_region 7 with fail
        go_cut [36] from 29 to 37 (fun u wx => u = .bool false ∧ wx = wr)
        case first =>
          rcases Hq.out with l1 | ⟨l1, l2⟩
          · have l1' : decide (i < n) = false := by simpa using l1
            go_wp2_with fail
            go_meet
            exact ⟨rfl, rfl⟩
          · have l1' : decide (i < n) = true := by simpa using l1
            go_wp2_with fail
            go_meet
            exact ⟨rfl, rfl⟩
        case rest =>
          obtain ⟨rfl, rfl⟩ := hcut
          obtain ⟨wr, hwr⟩ : ∃ wr, wr = wc := ⟨_, rfl⟩
          rw [← hwr] at H5 H6 H4 HOb HLt HTt HNr HBr e5 ⊢
          clear hwr
          go_upto_if 52 with fail
          go_cut [] from 53 to 60 (fun wx => ∃ (Ls : List Lt) (cssb : List (List Value)) (Ab : Option Addr) (cb : Nat), 1 ≤ Ls.length ∧ Ls.length ≤ 4 ∧ (∀ L ∈ Ls, rawL L) ∧ Ls.length ≤ cb ∧ cb ≤ maxLen ∧ Blk wx b5 27 #[.string lab, .string nm, .slice Ah ts.length ch, .string ⟨#[]⟩, .int .i64 0, .slice Ab Ls.length cb] ∧ Blk wx b6 51 #[.int .i64 z0, .int .i64 z1, .int .i64 z2, .int .i64 z3, .int .i64 z4, .int .i64 z5] ∧ Blk wx w.heap.size 27 #[.string ⟨#[]⟩, .string ⟨#[]⟩, .slice none 0 0, .string ⟨#[]⟩, .int .i64 0, .slice none 0 0] ∧ Own wx B 43 3 (.slice Ab Ls.length cb) cssb ∧ Stays wx (fun k => k < B ∨ (Value.slice Ab Ls.length cb).ownBlock = some k) (fun W => LtL W cssb Ls) ∧ Stays wx (fun k => k < B ∨ (Value.slice Ab Ls.length cb).ownBlock = some k) (fun W => TmsAt W Ah css ts) ∧ B ≤ wx.heap.size ∧ New w wx)
          case first =>
            by_cases h0 : ib = 0
            · have z00 : ((ib : Int) == 0) = true := by simpa using h0
              have Hz := Lib.hid h0
              clear h0
              have hneB : ∀ g, (Value.slice Ab ib cb).ownBlock = some g → B ≤ g := fun g hg => (HOb.out.lt hg).1
              have hne5 : ∀ g, (Value.slice Ab ib cb).ownBlock = some g → g ≠ b5 := fun g hg e => by have := hneB g hg; omega
              have HneB := Lib.hid hneB
              have Hne5 := Lib.hid hne5
              have eg27 : ∀ (args : Array Value) (w : World), (callFunc 15 args).run Try.prog w = .ok (.enter 15 args) w := enters_of Try.func15 (by kernel_rfl) rfl
              have hB0 : B64 0 := by unfold B64; omega
              go_upto_region 11 with fail
              refine wp_region_at (by kernel_rfl) ?_
              have hnd : New wr wr.drew := (Chg.refl _ _).drew
              have D5 := Lib.hid (H5.out.chg hnd id)
              have D6 := Lib.hid (H6.out.chg hnd id)
              have D4 := Lib.hid (H4.out.chg hnd id)
              have DOb := Lib.hid (HOb.out.chg hnd (fun _ _ x => x))
              have DLt := Lib.hid (HLt.out.chg hnd (fun _ _ x => x.elim) (fun k _ e => e))
              have DTt := Lib.hid (HTt.out.chg hnd (fun _ _ x => x.elim) (fun k _ e => e))
              have DN := Lib.hid (HNr.out.trans hnd (fun _ _ x => x))
              have DBr := Lib.hid (Nat.le_trans HBr.out hnd.size)
              clear hnd e5 H5 H6 H4 HOb HLt HTt HNr HBr hneB hne5
              generalize wr.drew = wd at D5 D6 D4 DOb DLt DTt DN DBr ⊢
              have hst : ∀ jj uu w1 w2, New w1 w2 → (fun
                  | 0 => fun v _ => v = .pointer (some ⟨b5, 5, none⟩)
                  | 1 => fun v _ => v = .slice Ab ib cb
                  | 2 => fun v _ => v = .agg #[.int .i64 0, .int .i64 0, .int .i64 0, .int .i64 0, .int .i64 0, .int .i64 0]
                  | 3 => fun v W => ∃ (L : Lt) (A' : Option Addr) (c' : Nat), v = .agg #[.int .i64 L.kind, .string L.name, .slice A' L.args.length c'] ∧ rawL L ∧ Stays W (fun k => k < wd.heap.size) (fun W => LtAt W [.int .i64 L.kind, .string L.name, .slice A' L.args.length c'] L)
                  | 4 => fun v W => ∃ (rb : Nat) (L : Lt) (A' : Option Addr) (c' : Nat), v = .slice (some ⟨rb, 0, none⟩) 1 1 ∧ Blk W rb 43 #[.int .i64 L.kind, .string L.name, .slice A' L.args.length c'] ∧ rawL L ∧ Stays W (fun k => k < wd.heap.size) (fun W => LtAt W [.int .i64 L.kind, .string L.name, .slice A' L.args.length c'] L)
                  | 5 => fun v W => ∃ (L : Lt) (A' : Option Addr) (c' : Nat), Own W B 43 3 v (cssb ++ [[.int .i64 L.kind, .string L.name, .slice A' L.args.length c']]) ∧ (∀ k, v.ownBlock = some k → (Value.slice Ab ib cb).ownBlock = some k ∨ wd.heap.size ≤ k) ∧ rawL L ∧ Stays W (fun k => k < B ∨ v.ownBlock = some k) (fun W => LtL W (cssb ++ [[.int .i64 L.kind, .string L.name, .slice A' L.args.length c']]) (Ls ++ [L]))
                  | 6 => fun v _ => v = .pointer (some ⟨b5, 5, none⟩)
                  | _ => fun _ _ => True : Nat → Value → World → Prop) jj uu w1 → (fun
                  | 0 => fun v _ => v = .pointer (some ⟨b5, 5, none⟩)
                  | 1 => fun v _ => v = .slice Ab ib cb
                  | 2 => fun v _ => v = .agg #[.int .i64 0, .int .i64 0, .int .i64 0, .int .i64 0, .int .i64 0, .int .i64 0]
                  | 3 => fun v W => ∃ (L : Lt) (A' : Option Addr) (c' : Nat), v = .agg #[.int .i64 L.kind, .string L.name, .slice A' L.args.length c'] ∧ rawL L ∧ Stays W (fun k => k < wd.heap.size) (fun W => LtAt W [.int .i64 L.kind, .string L.name, .slice A' L.args.length c'] L)
                  | 4 => fun v W => ∃ (rb : Nat) (L : Lt) (A' : Option Addr) (c' : Nat), v = .slice (some ⟨rb, 0, none⟩) 1 1 ∧ Blk W rb 43 #[.int .i64 L.kind, .string L.name, .slice A' L.args.length c'] ∧ rawL L ∧ Stays W (fun k => k < wd.heap.size) (fun W => LtAt W [.int .i64 L.kind, .string L.name, .slice A' L.args.length c'] L)
                  | 5 => fun v W => ∃ (L : Lt) (A' : Option Addr) (c' : Nat), Own W B 43 3 v (cssb ++ [[.int .i64 L.kind, .string L.name, .slice A' L.args.length c']]) ∧ (∀ k, v.ownBlock = some k → (Value.slice Ab ib cb).ownBlock = some k ∨ wd.heap.size ≤ k) ∧ rawL L ∧ Stays W (fun k => k < B ∨ v.ownBlock = some k) (fun W => LtL W (cssb ++ [[.int .i64 L.kind, .string L.name, .slice A' L.args.length c']]) (Ls ++ [L]))
                  | 6 => fun v _ => v = .pointer (some ⟨b5, 5, none⟩)
                  | _ => fun _ _ => True : Nat → Value → World → Prop) jj uu w2 := by
                intro j uu w1 w2 hc h
                match j with
                | 3 => exact h.imp fun L h => h.imp fun A' h => h.imp fun c' h => ⟨h.1, h.2.1, h.2.2.chg hc (fun _ _ x => x.elim) (fun k _ e => e)⟩
                | 4 => exact h.imp fun rb h => h.imp fun L h => h.imp fun A' h => h.imp fun c' h => ⟨h.1, h.2.1.chg hc id, h.2.2.1, h.2.2.2.chg hc (fun _ _ x => x.elim) (fun k _ e => e)⟩
                | 5 => exact h.imp fun L h => h.imp fun A' h => h.imp fun c' h => ⟨h.1.chg hc (fun _ _ x => x), h.2.1, h.2.2.1, h.2.2.2.chg hc (fun _ _ x => x.elim) (fun k _ e => e)⟩
                | 0 | 1 | 2 | 6 => exact h
                | _ + 7 => trivial
              refine AtN.segX2 0 7 5 [53, 54, 55, 56, 57, 58, 59] (fun k => (Value.slice Ab ib cb).ownBlock = some k) (fun
                  | 3 => 4
                  | 4 => 5
                  | _ => 999) (fun
                  | 0 => fun v _ => v = .pointer (some ⟨b5, 5, none⟩)
                  | 1 => fun v _ => v = .slice Ab ib cb
                  | 2 => fun v _ => v = .agg #[.int .i64 0, .int .i64 0, .int .i64 0, .int .i64 0, .int .i64 0, .int .i64 0]
                  | 3 => fun v W => ∃ (L : Lt) (A' : Option Addr) (c' : Nat), v = .agg #[.int .i64 L.kind, .string L.name, .slice A' L.args.length c'] ∧ rawL L ∧ Stays W (fun k => k < wd.heap.size) (fun W => LtAt W [.int .i64 L.kind, .string L.name, .slice A' L.args.length c'] L)
                  | 4 => fun v W => ∃ (rb : Nat) (L : Lt) (A' : Option Addr) (c' : Nat), v = .slice (some ⟨rb, 0, none⟩) 1 1 ∧ Blk W rb 43 #[.int .i64 L.kind, .string L.name, .slice A' L.args.length c'] ∧ rawL L ∧ Stays W (fun k => k < wd.heap.size) (fun W => LtAt W [.int .i64 L.kind, .string L.name, .slice A' L.args.length c'] L)
                  | 5 => fun v W => ∃ (L : Lt) (A' : Option Addr) (c' : Nat), Own W B 43 3 v (cssb ++ [[.int .i64 L.kind, .string L.name, .slice A' L.args.length c']]) ∧ (∀ k, v.ownBlock = some k → (Value.slice Ab ib cb).ownBlock = some k ∨ wd.heap.size ≤ k) ∧ rawL L ∧ Stays W (fun k => k < B ∨ v.ownBlock = some k) (fun W => LtL W (cssb ++ [[.int .i64 L.kind, .string L.name, .slice A' L.args.length c']]) (Ls ++ [L]))
                  | 6 => fun v _ => v = .pointer (some ⟨b5, 5, none⟩)
                  | _ => fun _ _ => True : Nat → Value → World → Prop) (by kernel_rfl) (by kernel_rfl) (by kernel_rfl) (by kernel_rfl) (fun i hn hi o ho A0 W b hJ hμ hin hk => ?_) (fun l W3 hJ hl hΦ => ?_)
              · rcases (show i = 0 ∨ i = 1 ∨ i = 2 ∨ i = 3 ∨ i = 4 ∨ i = 5 ∨ i = 6 by omega) with rfl | rfl | rfl | rfl | rfl | rfl | rfl
                · cases ho
                  have h5 : A0.tmps[5]?.getD undef = .pointer (some ⟨b5, 0, none⟩) := hk 5 (by kernel_rfl)
                  refine .newX (i := 0) hJ hst ?_
                  exact .same (v := .pointer (some ⟨b5, 5, none⟩)) (by simp [go_sem, h5]) rfl
                · cases ho
                  have h53 : A0.tmps[53]?.getD undef = .pointer (some ⟨b5, 5, none⟩) := hin 0 53 (by kernel_rfl)
                  refine .newX (i := 1) hJ hst ?_
                  have hc : W.cell? ⟨b5, 5, none⟩ = some (.slice Ab ib cb) := (D5.out.chg hJ.1 (fun h => Hne5.out _ h rfl)).cell 5
                  exact .same (v := .slice Ab ib cb) (by simp [go_sem, h53, hc]) rfl
                · cases ho
                  refine .newX (i := 2) hJ hst ?_
                  exact .same (v := .agg #[.int .i64 0, .int .i64 0, .int .i64 0, .int .i64 0, .int .i64 0, .int .i64 0]) (by simp [go_sem, ]) rfl
                · cases ho
                  have h55 : A0.tmps[55]?.getD undef = .agg #[.int .i64 0, .int .i64 0, .int .i64 0, .int .i64 0, .int .i64 0, .int .i64 0] := hin 2 55 (by kernel_rfl)
                  refine .newX (i := 3) hJ hst ?_
                  refine .call (f := 15) (args := #[.agg #[.int .i64 0, .int .i64 0, .int .i64 0, .int .i64 0, .int .i64 0, .int .i64 0]]) (W' := W) ?_ ((lit06 W _ _ _ _ _ _ hB0 hB0 hB0 hB0 hB0 hB0).mono ?_)
                  · simp [go_sem, h55, eg27]
                  · rintro e w' ⟨L, A', c', rfl, hL, hst, hc⟩
                    have hsz := hJ.1.size
                    exact ⟨_, rfl, hc, L, A', c', rfl, hL, hst.chg (Chg.refl _ (fun _ => False)) (fun _ _ x => x.elim) (fun k _ e => Nat.lt_of_lt_of_le e hsz)⟩
                · cases ho
                  have h56 := hin 3 56 (by kernel_rfl)
                  refine .newX (i := 4) hJ hst ?_
                  obtain ⟨L, A', c', e, hL, hs⟩ := h56
                  have hn1 : New W (W.alloc (.cells #[.int .i64 L.kind, .string L.name, .slice A' L.args.length c'] 43)) := (Chg.refl _ _).alloc _
                  exact .value (W' := W.alloc (.cells #[.int .i64 L.kind, .string L.name, .slice A' L.args.length c'] 43)) (v := .slice (some ⟨W.heap.size, 0, none⟩) 1 1) (by simp [go_sem, e]) ⟨hn1, _, L, A', c', rfl, Blk.new _ _ _, hL, hs.chg hn1 (fun _ _ x => x.elim) (fun k _ e => e)⟩
                · cases ho
                  have h54 : A0.tmps[54]?.getD undef = .slice Ab ib cb := hin 1 54 (by kernel_rfl)
                  have h57 := hin 4 57 (by kernel_rfl)
                  obtain ⟨rb, L, A', c', eo, hb, hL, hs⟩ := h57
                  have hbf : b = false := hμ rfl
                  have hNn : New wd W := hJ.2 hbf
                  obtain ⟨v1, W', hrun, hown, hchg, hblk⟩ := elLit.appendS (DOb.out.chg hNn (fun _ _ x => x)) (Nat.le_trans DBr.out hJ.1.size) (some ⟨rb, 0, none⟩) 1 1 [[.int .i64 L.kind, .string L.name, .slice A' L.args.length c']] rfl (fun cs hc => by simp only [List.mem_cons, List.not_mem_nil, or_false] at hc; subst hc; rfl) (fun cs hc => by rw [List.mem_singleton.1 hc]; exact lit_one _ _ _ _ _) (src_one hb.at_ rfl) (by rw [Hcl.out, Hib.out]; have := Hil.out; omega) (by rw [Hcl.out, Hib.out]; have := Hil.out; unfold maxLen; omega) 25
                  refine .value (exec_append _ _ _ _ rfl (by simpa [Act.eval] using h54) (by simpa [Act.eval] using eo) hrun) ⟨hJ.turn hchg (fun _ _ x => x), ⟨L, A', c', hown, fun k hk => (hblk k hk).imp id (fun h => Nat.le_trans hJ.1.size h), hL, LtL.grow DBr.out (fun k e => (DOb.out.lt e).2) DLt.out hNn hs hchg hblk⟩, fun k u hki hkx hka hkb h => ?_⟩
                  match k with
                  | 3 => exact hkb.elim (fun h => absurd h (by decide)) (fun h => ahead_no h (by kernel_rfl))
                  | 4 => exact absurd rfl hkx
                  | 5 => exact absurd rfl hki
                  | 0 | 1 | 2 | 6 => exact h
                  | _ + 7 => trivial
                · cases ho
                  have h5 : A0.tmps[5]?.getD undef = .pointer (some ⟨b5, 0, none⟩) := hk 5 (by kernel_rfl)
                  refine .newX (i := 6) hJ hst ?_
                  exact .same (v := .pointer (some ⟨b5, 5, none⟩)) (by simp [go_sem, h5]) rfl
              obtain ⟨x53, x54, x55, x56, x57, x58, x59, rfl⟩ : ∃ x53 x54 x55 x56 x57 x58 x59, l = [x53, x54, x55, x56, x57, x58, x59] := by
                match l, hl with
                | [x53, x54, x55, x56, x57, x58, x59], _ => exact ⟨_, _, _, _, _, _, _, rfl⟩
              obtain rfl : x53 = .pointer (some ⟨b5, 5, none⟩) := hΦ 0 (by decide) (by decide)
              obtain rfl : x54 = .slice Ab ib cb := hΦ 1 (by decide) (by decide)
              obtain rfl : x55 = .agg #[.int .i64 0, .int .i64 0, .int .i64 0, .int .i64 0, .int .i64 0, .int .i64 0] := hΦ 2 (by decide) (by decide)
              have hx58 : (fun v W => ∃ (L : Lt) (A' : Option Addr) (c' : Nat), Own W B 43 3 v (cssb ++ [[.int .i64 L.kind, .string L.name, .slice A' L.args.length c']]) ∧ (∀ k, v.ownBlock = some k → (Value.slice Ab ib cb).ownBlock = some k ∨ wd.heap.size ≤ k) ∧ rawL L ∧ Stays W (fun k => k < B ∨ v.ownBlock = some k) (fun W => LtL W (cssb ++ [[.int .i64 L.kind, .string L.name, .slice A' L.args.length c']]) (Ls ++ [L])) : Value → World → Prop) x58 W3 := hΦ 5 (by decide) (by decide)
              obtain rfl : x59 = .pointer (some ⟨b5, 5, none⟩) := hΦ 6 (by decide) (by decide)
              simp only [putsL, List.zip_cons_cons, List.zip_nil_left, List.zip_nil_right, List.zip, List.zipWith, Act.put, List.setIfInBounds_toArray, List.set_cons_succ, List.set_cons_zero]
              clear hΦ hl hst
              obtain ⟨L, A', c', hown, hblk, hL, hst⟩ := hx58
              obtain ⟨An, cn, hvn, hcn1, hcn2⟩ := hown.form
              rw [List.length_append, Hcl.out, Hib.out, List.length_singleton] at hvn
              subst hvn
              have HOn := Lib.hid hown
              have HSt := Lib.hid hst
              have HL := Lib.hid hL
              have E5 := Lib.hid (D5.out.chg hJ.1 (fun h => Hne5.out _ h rfl))
              have E6 := Lib.hid (D6.out.chg hJ.1 (fun h => by have := HneB.out _ h; omega))
              have E4 := Lib.hid (D4.out.chg hJ.1 (fun h => by have := HneB.out _ h; omega))
              have ET := Lib.hid (DTt.out.chg hJ.1 (fun k _ e => .inr e) (S1 := fun k => k < B ∨ (Value.slice An (ib + 1) cn).ownBlock = some k) (fun k hk e => e.imp id (fun e => (hblk k e).elim id (fun h => absurd hk (Nat.not_lt.2 h)))))
              have EN := Lib.hid (DN.out.trans hJ.1 (fun k hk h => by have := HneB.out _ h; omega))
              have EB := Lib.hid (Nat.le_trans DBr.out hJ.1.size)
              clear hown hst hblk hJ hL D5 D6 D4 DOb DLt DTt DN DBr
              refine AtN.list 7 8 (by kernel_rfl) ?_
              change wpList _ _ _ [_] _ _
              go_wp2_with ((with_reducible refine wpl_put rfl (.tmp 59) (.tmp 58) 25 rfl rfl sz35 b5 5 27 _ (.slice An (ib + 1) cn) #[.string lab, .string nm, .slice Ah ts.length ch, .string ⟨#[]⟩, .int .i64 0, .slice An (ib + 1) cn] ?_ ?_ E5.out ?_ ?_ ?_ ?_); exact rfl; exact rfl; exact (by decide : 5 < 6); exact rfl; exact rfl; intro w9 hc9 hb9 hs9; have HC9 := Lib.hid hc9; have HB9 := Lib.hid hb9; have Hs9 := Lib.hid hs9; clear hc9 hb9 hs9)
              change AtN _ _ _ 8 _ _
              refine AtN.done rfl ?_
              go_wp2_with fail
              have hfin : Blk w9 b6 51 #[.int .i64 z0, .int .i64 z1, .int .i64 z2, .int .i64 z3, .int .i64 z4, .int .i64 z5] ∧ Blk w9 w.heap.size 27 #[.string ⟨#[]⟩, .string ⟨#[]⟩, .slice none 0 0, .string ⟨#[]⟩, .int .i64 0, .slice none 0 0] ∧ Own w9 B 43 3 (.slice An (ib + 1) cn) (cssb ++ [[.int .i64 L.kind, .string L.name, .slice A' L.args.length c']]) ∧ Stays w9 (fun k => k < B ∨ (Value.slice An (ib + 1) cn).ownBlock = some k) (fun W => LtL W (cssb ++ [[.int .i64 L.kind, .string L.name, .slice A' L.args.length c']]) (Ls ++ [L])) ∧ Stays w9 (fun k => k < B ∨ (Value.slice An (ib + 1) cn).ownBlock = some k) (fun W => TmsAt W Ah css ts) ∧ B ≤ w9.heap.size ∧ New w w9 :=
                ⟨E6.out.chg HC9.out (fun e => by have := H56.out; omega), E4.out.chg HC9.out (fun e => by have := H56.out; omega), HOn.out.chg HC9.out (fun g hg e => by have := (HOn.out.lt hg).1; omega), HSt.out.chg HC9.out (fun k _ e => .inl (by omega)) (fun k _ e => e), ET.out.chg HC9.out (fun k _ e => .inl (by omega)) (fun k _ e => e), by rw [Hs9.out]; exact EB.out, EN.out.trans HC9.out (fun k hk e => by have := H56.out; omega)⟩
              have HF := Lib.hid hfin
              have HrL2 : ∀ L' ∈ Ls ++ [L], rawL L' := fun L' h => (List.mem_append.1 h).elim (HrL.out L') (fun h => by rw [List.mem_singleton.1 h]; exact HL.out)
              go_meet
              have hln : (Ls ++ [L]).length = ib + 1 := by rw [List.length_append, Hib.out, List.length_singleton]
              refine ⟨Ls ++ [L], cssb ++ [[.int .i64 L.kind, .string L.name, .slice A' L.args.length c']], An, cn, by omega, by have := Hz.out; omega, HrL2, ?_⟩
              rw [hln]
              exact ⟨by rw [List.length_append, Hcl.out, Hib.out, List.length_singleton] at hcn1; exact hcn1, hcn2, HB9.out, HF.out⟩
            · have z00 : ((ib : Int) == 0) = false := by simpa using h0
              go_wp2_with fail
              go_meet
              refine ⟨Ls, cssb, Ab, cb, by rw [Hib.out]; omega, by rw [Hib.out]; exact HL4.out, HrL.out, by rw [Hib.out]; exact hcb1, hcb2, ?_⟩
              rw [Hib.out]
              exact ⟨H5.out, H6.out, H4.out, HOb.out, HLt.out, HTt.out, HBr.out, HNr.out⟩
          case rest =>
            clear HLl HrL H5 H6 H4 HOb HLt HTt HNr Hib Hcl HBr Hil HL4 Hq e5 hcb1 hcb2
            obtain ⟨Ls, cssb, Ab, cb, hL1, hL4, hrL, hcb1, hcb2, h5, h6, h4, hob, hlt, htt, hBr, hN⟩ := hcut
            obtain ⟨wr, hwr⟩ : ∃ wr, wr = wc := ⟨_, rfl⟩
            rw [← hwr] at h5 h6 h4 hob hlt htt hBr hN ⊢
            clear hwr
            obtain ⟨nb, hnb⟩ : ∃ nb, Ls.length = nb := ⟨_, rfl⟩
            have hlts := lts_stays hob hlt
            have htms : Stays wr (fun k => k < B) (fun W => TmsAt W Ah css ts) := fun W' hc => htt W' (hc.mono (fun k _ e => .inl e))
            have htn : TmsAt wr Ah css ts := htt.now
            rw [hnb] at h5
            have e60 := h6.cell 0
            have e52 := h5.cell 2
            simp only [List.getElem?_toArray, List.getElem?_cons_zero, List.getElem?_cons_succ] at e60 e52
            have HHN := Lib.hid hN
            have hend : ∀ (agg : ByteArray) (at' : Int) (W9 W10 : World), ((agg = ⟨#[]⟩ ∧ at' = 0) ∨ ((agg = ⟨#[109, 105, 110]⟩ ∨ agg = ⟨#[109, 97, 120]⟩ ∨ agg = ⟨#[99, 111, 117, 110, 116]⟩) ∧ at' = 1 ∧ 2 ≤ ts.length)) → Chg wr W9 (fun k => k = b5) → Chg W9 W10 (fun k => k = w.heap.size) →
                RulePost w (.returned (.agg #[.string lab, .string nm, .slice Ah ts.length ch, .string agg, .int .i64 at', .slice Ab nb cb])) W10 := by
              intro agg at' W9 W10 hagg hc9 hc10
              have hcc : Chg wr W10 (fun k => k < B) := (hc9.mono (fun k _ e => by omega)).trans hc10 (fun k _ e => by omega)
              refine ⟨lab, nm, agg, at', ts, Ls, Ah, Ab, ch, cb, css, cssb, by rw [hnb], HRel.out, Hl1.out, Hl3.out, HFst.out, HRaw.out, hL1, hL4, hrL, hcb1, hcb2, hagg, fun W' hW => ?_, (HHN.out.trans hc9 (fun k hk e => by have := H56.out; omega)).trans hc10 (fun k hk e => by omega)⟩
              have hc3 : Chg wr W' (fun k => k < B) := hcc.trans hW (fun k _ e => by omega)
              exact ⟨htms W' hc3, hlts W' hc3⟩
            have HEnd := Lib.hid hend
            have H5 := Lib.hid h5
            have H6 := Lib.hid h6
            have H4 := Lib.hid h4
            have HTn := Lib.hid htn
            obtain ⟨p5, hp5⟩ : ∃ p : Int, pk z0 5 = p := ⟨_, rfl⟩
            have hpk := fun W => pick06 W z0 5 HZ.out.1.1 HZ.out.1.2 (by omega) (by omega)
            rw [hp5] at hpk
            have HPk := Lib.hid hpk
            clear hend hpk hp5 hlts htms htn htt hlt hob hN h5 h6 h4 hBr hnb
            have hB54 : b5 ≠ w.heap.size := by have := H56.out; omega
            by_cases hp4 : p5 = 4
            · have t4 : (p5 == 4) = true := by simpa using hp4
              by_cases hl2 : 1 < ts.length
              · have t2 : decide ((1 : Int) < (ts.length : Int)) = true := by simp; omega
                obtain ⟨a, ha, hra⟩ := HTn.out.src (by rw [HTn.out.len]; omega)
                subst ha
                obtain ⟨cs1, hcs1⟩ : ∃ cs, css[1]? = some cs := ⟨_, List.getElem?_eq_getElem (by rw [HTn.out.len]; exact hl2)⟩
                obtain ⟨t1, ht1⟩ : ∃ t, ts[1]? = some t := ⟨_, List.getElem?_eq_getElem hl2⟩
                obtain ⟨κ, hκ⟩ := (HTn.out.at_ 1 cs1 t1 hcs1 ht1).kind
                have hck := (hra 1 cs1 hcs1).2 0 _ hκ
                have hck7 : wr.cell? ⟨a.block, a.off + 7, none⟩ = some (.int .i64 κ) := by
                  rw [add_add, show 1 * 7 + 0 = 6 + 1 from rfl, add_succ] at hck
                  exact hck
                clear hck
                obtain ⟨bk, hbk⟩ : ∃ b : Bool, (κ == 1) = b := ⟨_, rfl⟩
                clear hra hcs1 ht1 hκ
                have l2' : 1 < ts.length := hl2
                cases bk with
                | false =>
                  go_wp2_with first
                    | (go_at_call 13; refine (HPk.out _).mono ?_; rintro e w' ⟨rfl, rfl⟩; clear HPk)
                    | ((with_reducible refine wpl_load rfl (.tmp 5) 27 rfl stRule ⟨b5, 0, none⟩ [.string lab, .string nm, .slice (some a) ts.length ch, .string ⟨#[]⟩, .int .i64 0, .slice Ab nb cb] ?_ rfl H5.out.at_ ?_); exact rfl)
                    | ((with_reducible refine wpl_set rfl (.tmp 4) (.tmp 87) 27 rfl rfl stRule w.heap.size 27 _ [.string lab, .string nm, .slice (some a) ts.length ch, .string ⟨#[]⟩, .int .i64 0, .slice Ab nb cb] ?_ ?_ H4.out rfl rfl (rule_one rfl rfl rfl) ?_); exact rfl; exact rfl; intro w6 hc6 hb6 hs6; have HC6 := Lib.hid hc6; have HB6 := Lib.hid hb6; clear hc6 hb6 hs6)
                  exact bodyPost_ret (v := .agg #[.string lab, .string nm, .slice (some a) ts.length ch, .string ⟨#[]⟩, .int .i64 0, .slice Ab nb cb]) (res_cellK stRule rfl _ _ ⟨w.heap.size, 0, none⟩ [.string lab, .string nm, .slice (some a) ts.length ch, .string ⟨#[]⟩, .int .i64 0, .slice Ab nb cb] rfl HB6.out.at_ rfl) rfl (HEnd.out _ _ wr _ (.inl ⟨rfl, rfl⟩) (Chg.refl _ _) HC6.out)
                | true =>
                  obtain ⟨q3, hq3⟩ : ∃ p : Nat, pk (z0.tdiv 5) 3 = p := ⟨(pk (z0.tdiv 5) 3).toNat, by have := pk_lo (z0.tdiv 5) 3 (by omega); omega⟩
                  have hq33 : q3 < 3 := by have := pk_hi (z0.tdiv 5) 3 (by omega); omega
                  have hzb := tdiv_bd (d := 5) (by omega) HZ.out.1.1 HZ.out.1.2
                  have kw : IntKind.i64.wrap (z0.tdiv 5) = z0.tdiv 5 := by rw [IntKind.wrap_i64]; omega
                  have hpk3 := fun W => pick06 W (z0.tdiv 5) 3 hzb.1 hzb.2 (by omega) (by omega)
                  rw [hq3] at hpk3
                  have HPk3 := Lib.hid hpk3
                  have s0 : (0 : Int) ≤ (q3 : Int) := by omega
                  have s1 : (q3 : Int) < 3 := by omega
                  obtain ⟨sg, hsg, hsc⟩ : ∃ sg : ByteArray, (sg = ⟨#[109, 105, 110]⟩ ∨ sg = ⟨#[109, 97, 120]⟩ ∨ sg = ⟨#[99, 111, 117, 110, 116]⟩) ∧ ∀ W b, Blk W b 9 #[.string ⟨#[109, 105, 110]⟩, .string ⟨#[109, 97, 120]⟩, .string ⟨#[99, 111, 117, 110, 116]⟩] → W.cell? ⟨b, q3, none⟩ = some (.string sg) := by
                    rcases (show q3 = 0 ∨ q3 = 1 ∨ q3 = 2 by omega) with rfl | rfl | rfl
                    · exact ⟨_, .inl rfl, fun W b h => h.cell 0⟩
                    · exact ⟨_, .inr (.inl rfl), fun W b h => h.cell 1⟩
                    · exact ⟨_, .inr (.inr rfl), fun W b h => h.cell 2⟩
                  have c1 : (wr.alloc (.cells #[.string ⟨#[109, 105, 110]⟩, .string ⟨#[109, 97, 120]⟩, .string ⟨#[99, 111, 117, 110, 116]⟩] 9)).cell? ⟨wr.heap.size, q3, none⟩ = some (.string sg) := hsc _ _ (Blk.new _ _ _)
                  have c2 : (wr.alloc (.cells #[.string ⟨#[109, 105, 110]⟩, .string ⟨#[109, 97, 120]⟩, .string ⟨#[99, 111, 117, 110, 116]⟩] 9)).cell? ⟨b6, 0, none⟩ = some (.int .i64 z0) := (H6.out.alloc _).cell 0
                  have hna : New wr (wr.alloc (.cells #[.string ⟨#[109, 105, 110]⟩, .string ⟨#[109, 97, 120]⟩, .string ⟨#[99, 111, 117, 110, 116]⟩] 9)) := (Chg.refl _ _).alloc _
                  have HNA := Lib.hid hna
                  have H5a := Lib.hid (H5.out.alloc (.cells #[.string ⟨#[109, 105, 110]⟩, .string ⟨#[109, 97, 120]⟩, .string ⟨#[99, 111, 117, 110, 116]⟩] 9))
                  have H4a := Lib.hid (H4.out.alloc (.cells #[.string ⟨#[109, 105, 110]⟩, .string ⟨#[109, 97, 120]⟩, .string ⟨#[99, 111, 117, 110, 116]⟩] 9))
                  have Hsg := Lib.hid hsg
                  clear hsc hpk3 hq3 hzb hna hsg
                  go_wp2_with first
                    | (go_at_call 13; refine (HPk.out _).mono ?_; rintro e w' ⟨rfl, rfl⟩; clear HPk)
                    | (go_at_call 13; refine (HPk3.out _).mono ?_; rintro e w' ⟨rfl, rfl⟩; clear HPk3)
                    | ((with_reducible refine wpl_put rfl (.tmp 85) (.tmp 84) 9 rfl rfl sz9 b5 3 27 _ (.string sg) #[.string lab, .string nm, .slice (some a) ts.length ch, .string sg, .int .i64 0, .slice Ab nb cb] ?_ ?_ H5a.out ?_ ?_ ?_ ?_); exact rfl; exact rfl; exact (by decide : 3 < 6); exact rfl; exact rfl; intro w8 hc8 hb8 hs8; have HC8 := Lib.hid ((HNA.out.mono (T' := fun k => k = b5) (fun _ _ x => x.elim)).trans hc8 (fun k _ e => e)); have HB8 := Lib.hid hb8; have H48 := Lib.hid (H4a.out.chg hc8 (fun e => hB54 e.symm)); clear hc8 hb8 hs8)
                    | ((with_reducible refine wpl_put rfl (.tmp 86) (.const (.int .i64 1)) 3 rfl rfl sz3 b5 4 27 _ (.int .i64 1) #[.string lab, .string nm, .slice (some a) ts.length ch, .string sg, .int .i64 1, .slice Ab nb cb] ?_ ?_ HB8.out ?_ ?_ ?_ ?_); exact rfl; exact rfl; exact (by decide : 4 < 6); exact rfl; exact rfl; intro w9 hc9 hb9 hs9; have HC9 := Lib.hid (HC8.out.trans hc9 (fun k _ e => e)); have HB9 := Lib.hid hb9; have H49 := Lib.hid (H48.out.chg hc9 (fun e => hB54 e.symm)); clear hc9 hb9 hs9)
                    | ((with_reducible refine wpl_load rfl (.tmp 5) 27 rfl stRule ⟨b5, 0, none⟩ [.string lab, .string nm, .slice (some a) ts.length ch, .string sg, .int .i64 1, .slice Ab nb cb] ?_ rfl HB9.out.at_ ?_); exact rfl)
                    | ((with_reducible refine wpl_set rfl (.tmp 4) (.tmp 87) 27 rfl rfl stRule w.heap.size 27 _ [.string lab, .string nm, .slice (some a) ts.length ch, .string sg, .int .i64 1, .slice Ab nb cb] ?_ ?_ H49.out rfl rfl (rule_one rfl rfl rfl) ?_); exact rfl; exact rfl; intro w6 hc6 hb6 hs6; have HC6 := Lib.hid hc6; have HB6 := Lib.hid hb6; clear hc6 hb6 hs6)
                  exact bodyPost_ret (v := .agg #[.string lab, .string nm, .slice (some a) ts.length ch, .string sg, .int .i64 1, .slice Ab nb cb]) (res_cellK stRule rfl _ _ ⟨w.heap.size, 0, none⟩ [.string lab, .string nm, .slice (some a) ts.length ch, .string sg, .int .i64 1, .slice Ab nb cb] rfl HB6.out.at_ rfl) rfl (HEnd.out _ _ w9 _ (.inr ⟨Hsg.out, rfl, by omega⟩) HC9.out HC6.out)
              · have t2 : decide ((1 : Int) < (ts.length : Int)) = false := by simp; omega
                go_wp2_with first
                  | (go_at_call 13; refine (HPk.out _).mono ?_; rintro e w' ⟨rfl, rfl⟩; clear HPk)
                  | ((with_reducible refine wpl_load rfl (.tmp 5) 27 rfl stRule ⟨b5, 0, none⟩ [.string lab, .string nm, .slice Ah ts.length ch, .string ⟨#[]⟩, .int .i64 0, .slice Ab nb cb] ?_ rfl H5.out.at_ ?_); exact rfl)
                  | ((with_reducible refine wpl_set rfl (.tmp 4) (.tmp 87) 27 rfl rfl stRule w.heap.size 27 _ [.string lab, .string nm, .slice Ah ts.length ch, .string ⟨#[]⟩, .int .i64 0, .slice Ab nb cb] ?_ ?_ H4.out rfl rfl (rule_one rfl rfl rfl) ?_); exact rfl; exact rfl; intro w6 hc6 hb6 hs6; have HC6 := Lib.hid hc6; have HB6 := Lib.hid hb6; clear hc6 hb6 hs6)
                exact bodyPost_ret (v := .agg #[.string lab, .string nm, .slice Ah ts.length ch, .string ⟨#[]⟩, .int .i64 0, .slice Ab nb cb]) (res_cellK stRule rfl _ _ ⟨w.heap.size, 0, none⟩ [.string lab, .string nm, .slice Ah ts.length ch, .string ⟨#[]⟩, .int .i64 0, .slice Ab nb cb] rfl HB6.out.at_ rfl) rfl (HEnd.out _ _ wr _ (.inl ⟨rfl, rfl⟩) (Chg.refl _ _) HC6.out)
            · have t4 : (p5 == 4) = false := by simpa using hp4
              go_wp2_with first
                | (go_at_call 13; refine (HPk.out _).mono ?_; rintro e w' ⟨rfl, rfl⟩; clear HPk)
                | ((with_reducible refine wpl_load rfl (.tmp 5) 27 rfl stRule ⟨b5, 0, none⟩ [.string lab, .string nm, .slice Ah ts.length ch, .string ⟨#[]⟩, .int .i64 0, .slice Ab nb cb] ?_ rfl H5.out.at_ ?_); exact rfl)
                | ((with_reducible refine wpl_set rfl (.tmp 4) (.tmp 87) 27 rfl rfl stRule w.heap.size 27 _ [.string lab, .string nm, .slice Ah ts.length ch, .string ⟨#[]⟩, .int .i64 0, .slice Ab nb cb] ?_ ?_ H4.out rfl rfl (rule_one rfl rfl rfl) ?_); exact rfl; exact rfl; intro w6 hc6 hb6 hs6; have HC6 := Lib.hid hc6; have HB6 := Lib.hid hb6; clear hc6 hb6 hs6)
              exact bodyPost_ret (v := .agg #[.string lab, .string nm, .slice Ah ts.length ch, .string ⟨#[]⟩, .int .i64 0, .slice Ab nb cb]) (res_cellK stRule rfl _ _ ⟨w.heap.size, 0, none⟩ [.string lab, .string nm, .slice Ah ts.length ch, .string ⟨#[]⟩, .int .i64 0, .slice Ab nb cb] rfl HB6.out.at_ rfl) rfl (HEnd.out _ _ wr _ (.inl ⟨rfl, rfl⟩) (Chg.refl _ _) HC6.out)
end Go.Proofs.Ytfocjfnkcabbgaa

set_option linter.unusedVariables false
set_option linter.unusedSimpArgs false
namespace Go.Proofs.Ytfocjfnkcabbgaa
open Go.RowKit Go.Shelf

/-- A rule. -/
structure Ru where
  h : ByteArray
  ts : List Tm
  Ls : List Lt
  agg : ByteArray
  at' : Int
/-- A rule of the raw worlds. -/
structure Ru.Raw (r : Ru) : Prop where
  rel : ∃ p : Nat, relCs[p]? = some (r.h, (r.ts.length : Int))
  lo : 1 ≤ r.ts.length
  hi : r.ts.length ≤ 3
  fst : ∃ c, r.ts[0]? = some (.var (vNm c))
  ts : ∀ t ∈ r.ts, rawT t
  l1 : 1 ≤ r.Ls.length
  l4 : r.Ls.length ≤ 4
  ls : ∀ L ∈ r.Ls, rawL L
def Ru.aggOk (r : Ru) : Prop := (r.agg = ⟨#[]⟩ ∧ r.at' = 0) ∨ ((r.agg = ⟨#[109, 105, 110]⟩ ∨ r.agg = ⟨#[109, 97, 120]⟩ ∨ r.agg = ⟨#[99, 111, 117, 110, 116]⟩) ∧ r.at' = 1 ∧ 2 ≤ r.ts.length)
/-- A rule as a value. -/
def RuSl (w : World) (v : Value) (r : Ru) : Prop := ∃ (lab : ByteArray) (A Ab : Option Addr) (c cb : Nat) (css cssb : List (List Value)), v = .agg #[.string lab, .string r.h, .slice A r.ts.length c, .string r.agg, .int .i64 r.at', .slice Ab r.Ls.length cb] ∧ TmsAt w A css r.ts ∧ LtsAt w Ab cssb r.Ls ∧ r.Ls.length ≤ cb ∧ cb ≤ maxLen
theorem RuSl.chg {w w' : World} {v : Value} {r : Ru} (h : RuSl w v r) (hc : New w w') : RuSl w' v r := by
  obtain ⟨lab, A, Ab, c, cb, css, cssb, h1, h2, h3, h4⟩ := h
  exact ⟨lab, A, Ab, c, cb, css, cssb, h1, h2.chg hc, h3.chg hc, h4⟩
theorem rule_sl (w : World) (v : Value) (n : Nat) (X : Nat → Int) (hx : IntsAt w v 6 n X) (k : Int) (hk : B64 k) :
    Calls Try.prog 5 #[v, .int .i64 k] w fun e w' => ∃ v' r, e = .returned v' ∧ RuSl w' v' r ∧ r.Raw ∧ r.aggOk ∧ New w w' := by
  refine (rule06 w v n X hx k hk).mono ?_
  rintro e w' ⟨lab, h, agg, at', ts, Ls, A, Ab, c, cb, css, cssb, rfl, h1, h2, h3, h4, h5, h6, h7, h8, h9, h10, h11, h12, hN⟩
  exact ⟨_, ⟨h, ts, Ls, agg, at'⟩, rfl, ⟨lab, A, Ab, c, cb, css, cssb, rfl, h12.now.1, h12.now.2, h9, h10⟩, ⟨h1, h2, h3, h4, h5, h6, h7, h8⟩, h11, hN⟩
theorem sum_size : ∀ {Ls : List Lt}, (∀ L ∈ Ls, L.size ≤ 3) → (Ls.map Lt.size).sum ≤ Ls.length * 3
  | [], _ => by simp
  | L :: Ls, h => by
    have h1 := h L (List.mem_cons_self ..)
    have h2 := sum_size (fun L' hl => h L' (List.mem_cons_of_mem _ hl))
    simp only [List.map_cons, List.sum_cons, List.length_cons, Nat.succ_mul]
    omega
/-- Fire of a rule. -/
def fireR (r : Ru) (m : List Rw) : List Rw := fireV r.h r.ts r.Ls m
theorem fire_sl (w : World) (v vr : Value) (r : Ru) (hr : RuSl w v r) (hraw : r.Raw) (rows : List Rw) (hrs : RowSl w vr rows) (hrw : ∀ x ∈ rows, ∀ u ∈ x.args, rawV u) (k : Nat) (hk : ∀ m, IsMerge rows m → m.length ≤ 30) :
    Calls Try.prog 7 #[v, vr] w fun e w' => ∃ m v' out, IsMerge rows m ∧ IsMerge (fireR r m) out ∧ e = .returned v' ∧ RowSl w' v' out ∧ New w w' := by
  obtain ⟨lab, A, Ab, c, cb, css, cssb, rfl, h1, h2, h3, h4⟩ := hr
  refine (fire_val w r.h (.string lab) (.string r.agg) (.int .i64 r.at') A r.ts.length c css r.ts rfl (by have := hraw.hi; omega) h1 (fun t ht => (hraw.ts t ht).ok) Ab r.Ls.length cb cssb r.Ls rfl h3 h4 h2 (fun L hL => (hraw.ls L hL).ok.1) ?_ rfl rfl rfl vr rows hrs (fun x hx u hu => (hrw x hx u hu).ok) (fun m hm => ?_)).mono (fun e w' h => h)
  · have := sum_size (fun L hL => (hraw.ls L hL).ok.2)
    have := hraw.l4
    omega
  · have h5 := ways_len (rows := m) (n := 30) (hk m hm) (by omega) r.Ls ([], forever)
    have h6 : 30 ^ r.Ls.length ≤ 30 ^ 4 := Nat.pow_le_pow_right (by omega) hraw.l4
    have h7 : 30 ^ 4 = 810000 := by decide
    omega
theorem raw_ok {rows : List Rw} (h : ∀ x ∈ rows, ∀ u ∈ x.args, rawV u) : ∀ x ∈ rows, ∀ u ∈ x.args, okW u := fun x hx u hu => (h x hx u hu).ok
theorem Ru.Raw.okT {r : Ru} (h : r.Raw) : ∀ t ∈ r.ts, okTm t := fun t ht => (h.ts t ht).ok
theorem Ru.Raw.okL {r : Ru} (h : r.Raw) : ∀ L ∈ r.Ls, okLt L := fun L hL => (h.ls L hL).ok.1
/-- A literal's cells, in a rule's body. -/
theorem RuSl.lit {w : World} {v : Value} {r : Ru} (h : RuSl w v r) {lab : Value} {A Ab : Option Addr} {n nb c cb : Nat} {h0 agg at' : Value} (hv : v = .agg #[lab, h0, .slice A n c, agg, at', .slice Ab nb cb]) {i : Nat} {L : Lt} (hi : r.Ls[i]? = some L) :
    ∃ a A' c', Ab = some a ∧ At w (a.add (i * 3)) [.int .i64 L.kind, .string L.name, .slice A' L.args.length c'] := by
  obtain ⟨lab', A', Ab', c', cb', css, cssb, rfl, h1, h2, h3, h4⟩ := h
  simp only [Value.agg.injEq, Array.mk.injEq, List.cons.injEq, Value.slice.injEq] at hv
  obtain ⟨-, -, -, -, -, ⟨rfl, rfl, rfl⟩, -⟩ := hv
  have hlt := (List.getElem?_eq_some_iff.1 hi).1
  obtain ⟨a, ha, hr⟩ := h2.src (by rw [h2.len]; omega)
  obtain ⟨cs, hcs⟩ : ∃ cs, cssb[i]? = some cs := ⟨_, List.getElem?_eq_getElem (by rw [h2.len]; exact hlt)⟩
  obtain ⟨A2, c2, cs2, h5, h6⟩ := h2.at_ i cs L hcs hi
  refine ⟨a, A2, c2, ha, ?_⟩
  rw [← h5]
  exact (hr i cs hcs).2
theorem RuSl.form {w : World} {v : Value} {r : Ru} (h : RuSl w v r) : ∃ lab A c Ab cb, v = .agg #[.string lab, .string r.h, .slice A r.ts.length c, .string r.agg, .int .i64 r.at', .slice Ab r.Ls.length cb] := by
  obtain ⟨lab, A, Ab, c, cb, css, cssb, rfl, h1, h2, h3, h4⟩ := h
  exact ⟨lab, A, c, Ab, cb, rfl⟩
/-- Rows made behind others, put behind these. -/
theorem app_after {w4 wa w5 : World} {va v5 : Value} {css dss : List (List Value)} {rs ss : List Rw} (hoa : Own wa w4.heap.size 45 3 va css) (hNa : New w4 wa) (hcs : RowsCs w4 css rs) (hN5 : New wa w5)
    (ho5 : Own w5 wa.heap.size 45 3 v5 dss) (hr5 : RowsOwn w5 wa.heap.size dss ss) (hl : rs.length + ss.length ≤ 1000) (ty : TypeId) :
    ∃ v' wb, (Builtin.append_ #[29, 29] ty #[va, v5]).run Try.prog w5 = .ok v' wb ∧ (RowSl wb v' (rs ++ ss) ∧ New w4 wb) := by
  have hsl : RowSl w5 v5 ss := ho5.rowSl hr5.cs (by omega)
  have hob := hoa.chg hN5 (fun _ _ x => x)
  obtain ⟨es, hslc⟩ := hsl.cells
  have hc0 : css.length = rs.length := hcs.1
  obtain ⟨A5, c5, h1, _, _⟩ := ho5.form
  subst h1
  obtain ⟨hn5, hs5⟩ := ho5.rows rfl
  obtain ⟨v', wb, hrun, ho, hc, -⟩ := elRow.appendS hob (Nat.le_trans hNa.size hN5.size) A5 dss.length c5 dss rfl hr5.cs.k3 hr5.cs.one hs5 (by rw [hc0, hr5.1]; omega) (by rw [hc0, hr5.1]; unfold maxLen; omega) ty
  have h4 : New w4 wb := (hNa.trans hN5 (fun _ _ x => x)).trans hc (fun k hk h => absurd (hoa.lt h).1 (by omega))
  refine ⟨v', wb, hrun, ho.rowSl ((hcs.chg h4).app (hr5.chgB hc (fun k h => (hoa.lt h).2)).cs) (by rw [List.length_append]; omega), h4⟩
end Go.Proofs.Ytfocjfnkcabbgaa
