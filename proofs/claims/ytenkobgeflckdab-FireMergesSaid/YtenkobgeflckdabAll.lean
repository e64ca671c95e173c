/- bind.all: terms' values. -/
import Derived.Test.YtenkobgeflckdabEvl
set_option linter.unusedVariables false
set_option linter.unusedSimpArgs false
namespace Go.Proofs.Ytenkobgeflckdab
open Go.RowKit Go.Shelf

theorem stTerm : StT Try.prog 48 7 := ⟨⟨_, Try.underlying48⟩, by kernel_rfl⟩

theorem elTerm : ElT Try.prog 34 48 7 104 (Value.cells (.agg #[.int .i64 0, .string ⟨#[]⟩, .int .i64 0, .int .i64 0, .string ⟨#[]⟩, .slice none 0 0, .slice none 0 0])).toList :=
  ElT.mk' (by kernel_rfl) (by kernel_rfl) rfl (by omega) (by intro u hu; simp only [Value.cells, List.mem_cons, List.not_mem_nil, or_false] at hu; rcases hu with rfl | rfl | rfl | rfl | rfl | rfl | rfl <;> rfl)

theorem src_one {w : World} {g k : Nat} {cs : List Value} (h : At w ⟨g, 0, none⟩ cs) (hk : cs.length = k := by rfl) : SrcAt w (some ⟨g, 0, none⟩) k [cs] := fun _ => ⟨_, rfl, fun j d hj => by
  match j, hj with
  | 0, hj => cases hj; exact ⟨hk, by rw [Nat.zero_mul]; exact h⟩
  | j + 1, hj => simp at hj⟩
section
variable {P : Program} {ops : Array Oper} {Q : Exit → Act → World → Prop} {o : Oper} {rest : List Oper} {a : Act} {w : World} {x y : Value}
/-- append, by what it leaves. -/
theorem wpl_app {t1 t2 ty : TypeId} {R : Value → World → Prop} (hrun : ∃ v' W', (Builtin.append_ #[t1, t2] ty #[x, y]).run P w = .ok v' W' ∧ R v' W') (hg : o.guard = none) (s u : Operand) (ho : o.op = .call { callee := .builtin .append, args := #[s, u], argTypes := #[t1, t2] })
    (hs : a.eval s = x) (hu : a.eval u = y) (h : ∀ v' W', R v' W' → wpList P ops Q rest (a.put o.dst v') W') (hty : o.type = ty := by rfl) : wpList P ops Q (o :: rest) a w := by
  subst hty
  obtain ⟨v', W', hr, hR⟩ := hrun
  exact wpl_append hg s u t1 t2 ho hs hu hr (h v' W' hR)
end

/-- All of them, or none. -/
def allO : List (Option Vl) → Option (List Vl)
  | [] => some []
  | o :: l => match o, allO l with
    | some v, some us => some (v :: us)
    | _, _ => none
theorem allO_take {fs : List (Option Vl)} {k : Nat} {us : List Vl} {v : Vl} (h : allO (fs.take k) = some us) (hv : fs[k]? = some (some v)) : allO (fs.take (k + 1)) = some (us ++ [v]) := by
  induction fs generalizing k us with
  | nil => cases hv
  | cons x l ih =>
    cases k with
    | zero =>
      cases hv
      cases h
      simp [allO]
    | succ k =>
      rw [List.take_succ_cons] at h ⊢
      unfold allO at h ⊢
      cases x with
      | none => cases h
      | some y =>
        cases hl : allO (l.take k) with
        | none => rw [hl] at h; cases h
        | some ys =>
          rw [hl] at h
          cases h
          rw [ih hl hv]
          rfl
theorem allO_none {fs : List (Option Vl)} {k : Nat} (hv : fs[k]? = some none) : allO fs = none := by
  induction fs generalizing k with
  | nil => cases hv
  | cons x l ih =>
    cases k with
    | zero => cases hv; rfl
    | succ k => unfold allO; rw [ih hv]; cases x <;> rfl
theorem allO_len : ∀ {fs : List (Option Vl)} {us : List Vl}, allO fs = some us → us.length = fs.length
  | [], us, h => by cases h; rfl
  | x :: l, us, h => by
    unfold allO at h
    cases x with
    | none => cases h
    | some y =>
      cases hl : allO l with
      | none => rw [hl] at h; cases h
      | some ys => rw [hl] at h; cases h; simp [allO_len hl]

/-- What all leaves. -/
def AllPost (fs : List (Option Vl)) (w : World) (e : Ending) (w' : World) : Prop :=
  New w w' ∧ ((allO fs = none ∧ e = .returned (.tuple #[.slice none 0 0, .bool false])) ∨ ∃ us v, allO fs = some us ∧ e = .returned (.tuple #[v, .bool true]) ∧ Own w' w.heap.size 46 4 v (us.map vcs))

set_option maxHeartbeats 2000000 in
set_option maxRecDepth 100000 in
theorem all_val (w : World) (A : Option Addr) (n c : Nat) (css : List (List Value)) (hn : n = css.length) (hm : n ≤ 1000) (hs : SrcAt w A 7 css) (g : Nat) (eg : Enters Try.prog g) (sc : Value) (fs : List (Option Vl)) (hfl : fs.length = n)
    (hf : ∀ (j : Nat) (cs : List Value) (o : Option Vl), css[j]? = some cs → fs[j]? = some o → ∀ W, New w W → Calls Try.prog g #[sc, .agg cs.toArray] W fun e W' => e = .returned (optV o) ∧ New W W') (h1 : ∀ cs ∈ css, ∀ u ∈ cs, u.oneCell' = true) :
    Calls Try.prog 63 #[.slice A n c, .func (.func g) #[sc] #[]] w (AllPost fs w) := by
  unfold Enters at eg
  have HN := Lib.hid hn
  have Hs := Lib.hid hs
  have Hf := Lib.hid hf
  have Hfl := Lib.hid hfl
  have H1 := Lib.hid h1
  clear hn hs hf h1 hfl
  go_enter Try.func63, Try.ntmps63
  go_wp2_with fail
  go_loopw [4, 12] (fun u4 u12 wr => ∃ (k : Nat) (us : List Vl), k ≤ n ∧ u12 = .int .i64 k ∧ allO (fs.take k) = some us ∧ us.length = k ∧ Own wr w.heap.size 46 4 u4 (us.map vcs) ∧ New w wr) (fun _ u _ => n - (intOf u).toNat)
  case atStart => exact ⟨0, [], Nat.zero_le _, rfl, rfl, rfl, Own.nil _ _ _ _, Chg.refl _ _⟩
  case round =>
    obtain ⟨k, us, hk, rfl, ha, hl, hov, hN⟩ := hrel
    obtain ⟨Ao, co, rfl, hc1, hc2⟩ := hov.form
    rw [List.length_map] at hov ⊢
    have Ha := Lib.hid ha
    have HOv := Lib.hid hov
    have HNw := Lib.hid hN
    have Hl := Lib.hid hl
    clear ha hov hN hl hc1 hc2
    by_cases hlt : k < n
    · obtain ⟨cs, hcs⟩ : ∃ cs, css[k]? = some cs := ⟨_, List.getElem?_eq_getElem (by rw [← HN.out]; exact hlt)⟩
      obtain ⟨ad, rfl, hrw⟩ := Hs.out (by rw [← HN.out]; omega)
      have hl7 := (hrw k cs hcs).1
      have hat := (hrw k cs hcs).2.chg HNw.out id
      have hmem := List.mem_of_getElem? hcs
      have h1c := H1.out cs hmem
      obtain ⟨t0, t1, t2, t3, t4, t5, t6, rfl⟩ : ∃ t0 t1 t2 t3 t4 t5 t6, cs = [t0, t1, t2, t3, t4, t5, t6] := by
        match cs, hl7 with
        | [a, b, c, d, e, f, g], _ => exact ⟨_, _, _, _, _, _, _, rfl⟩
      have Hat := Lib.hid hat
      have Hcs := Lib.hid hcs
      have Hmem := Lib.hid hmem
      have H1c := Lib.hid h1c
      clear hat hcs hmem h1c hrw hl7
      obtain ⟨o, ho⟩ : ∃ o, fs[k]? = some o := ⟨_, List.getElem?_eq_getElem (by rw [Hfl.out]; exact hlt)⟩
      have Hk := Lib.hid (Hf.out k _ o Hcs.out ho)
      have Ho := Lib.hid ho
      clear ho
      clear Hf Hs
      go_wp2_with first
        | ((with_reducible refine wpl_load rfl (.tmp 14) 48 rfl stTerm (ad.add (k * 7)) _ ?_ rfl Hat.out ?_); exact rfl)
        | ((with_reducible refine wpl_box rfl rfl 7 (.tmp 15) 48 rfl rfl rfl rfl stTerm elTerm.zero [t0, t1, t2, t3, t4, t5, t6] ?_ ?_ rfl H1c.out ?_); exact (by decide : 7 < 30); exact rfl; intro w2 hc2 hb2 hs2; have Hc2 := Lib.hid hc2; have Hb2 := Lib.hid (Blk.at_ (cs := [t0, t1, t2, t3, t4, t5, t6]) hb2); clear hc2 hb2 hs2)
        | ((with_reducible refine wpl_load rfl (.tmp 7) 48 rfl stTerm ⟨wr.heap.size, 0, none⟩ _ ?_ rfl Hb2.out ?_); exact rfl)
      refine (Hk.out _ (HNw.out.trans Hc2.out (fun _ _ x => x))).mono ?_
      rintro e w3 ⟨rfl, hc3⟩
      have HN3 := Lib.hid (Hc2.out.trans hc3 (fun _ _ x => x))
      clear hc3 Hk Hb2
      cases o with
      | none =>
        unfold optV
        dsimp only [Option.getD, Option.isSome, vval, zV]
        go_wp2_with ((with_reducible refine wpl_box rfl rfl 8 (.tmp 20) 46 rfl rfl rfl rfl stVal4 elValue.zero (vcs zV) ?_ ?_ (vcl_len _) (vcl_one _) ?_); exact (by decide : 8 < 30); exact rfl; intro w4 hc4 hb4 hs4; replace HN3 := Lib.hid (HN3.out.trans hc4 (fun _ _ x => x)); clear hc4 hb4 hs4)
        go_ret2
        exact ⟨HNw.out.trans HN3.out (fun _ _ x => x), .inl ⟨allO_none Ho.out, rfl⟩⟩
      | some v =>
        unfold optV
        dsimp only [Option.getD, Option.isSome, vval]
        go_upto_region 7 with ((with_reducible refine wpl_box rfl rfl 8 (.tmp 20) 46 rfl rfl rfl rfl stVal4 elValue.zero (vcs v) ?_ ?_ (vcl_len _) (vcl_one _) ?_); exact (by decide : 8 < 30); exact rfl; intro w4 hc4 hb4 hs4; replace HN3 := Lib.hid (HN3.out.trans hc4 (fun _ _ x => x)); have Hb4 := Lib.hid (show At w4 ⟨w3.heap.size, 0, none⟩ [.int .i64 v.k, .int .i64 v.i, .string v.t, .slice none 0 0] from Blk.at_ (cs := vcs v) hb4); clear hc4 hb4 hs4)
        have HOv4 := Lib.hid (HOv.out.chg HN3.out (fun _ _ x => x))
        have HN4 := Lib.hid (HNw.out.trans HN3.out (fun _ _ x => x))
        have hul : us.length ≤ 1000 := by have := Hl.out; omega
        have HA4 := Lib.hid (allO_take Ha.out Ho.out)
        obtain ⟨w5, hw5⟩ : ∃ w5, w5 = w4.alloc (.cells #[.int .i64 v.k, .int .i64 v.i, .string v.t, .slice none 0 0] 46) := ⟨_, rfl⟩
        have hn5 : New w4 w5 := by rw [hw5]; exact (Chg.refl _ _).alloc _
        have hb5 : Blk w5 w4.heap.size 46 #[.int .i64 v.k, .int .i64 v.i, .string v.t, .slice none 0 0] := by rw [hw5]; exact Blk.new _ _ _
        have hrun := elValue.appendS (HOv4.out.chg hn5 (fun _ _ x => x)) (Nat.le_trans HN4.out.size hn5.size) (some ⟨w4.heap.size, 0, none⟩) 1 1 [vcs v] rfl (fun cs hc => by rw [List.mem_singleton.1 hc]; rfl) (fun cs hc => by rw [List.mem_singleton.1 hc]; exact vcl_one v) (src_one (Blk.vcs hb5) (vcl_len v)) (by rw [List.length_map]; omega) (by rw [List.length_map]; unfold maxLen; omega) 28
        rw [hw5] at hrun
        obtain ⟨v6, w6, hrun, hown6, hc6, -⟩ := hrun
        have Hrun := Lib.hid hrun
        have Hown6 := Lib.hid hown6
        have HC6 := Lib.hid ((hn5.mono (T' := fun k => (Value.slice Ao us.length co).ownBlock = some k) (fun _ _ x => x.elim)).trans (hw5 ▸ hc6) (fun _ _ x => x))
        clear hrun hb5 hn5 hw5 hown6 hc6
        clear HOv HN3 HNw Hc2 Hat Hmem H1c Hcs Ho Ha
        go_wp2_with first
          | ((with_reducible refine wpl_load rfl (.tmp 8) 46 rfl stVal4 ⟨w3.heap.size, 0, none⟩ [.int .i64 v.k, .int .i64 v.i, .string v.t, .slice none 0 0] ?_ rfl Hb4.out ?_); exact rfl)
          | ((with_reducible refine wpl_append rfl (.tmp 24) (.tmp 26) 28 28 rfl ?_ ?_ Hrun.out ?_); exact rfl; exact rfl)
        go_roundw
        case rel =>
          refine ⟨k + 1, us ++ [v], by omega, by go_num, HA4.out, by rw [List.length_append, Hl.out]; rfl, by rw [List.map_append]; exact Hown6.out, HN4.out.trans HC6.out (fun k hk h => ?_)⟩
          have := (HOv4.out.lt h).1
          omega
        case measure => simp [intOf]; omega
    · go_wp2_with fail
      go_ret2
      refine ⟨HNw.out, .inr ⟨us, _, ?_, rfl, HOv.out⟩⟩
      have h := Ha.out
      rwa [show k = fs.length by rw [Hfl.out]; omega, List.take_length] at h
end Go.Proofs.Ytenkobgeflckdab
