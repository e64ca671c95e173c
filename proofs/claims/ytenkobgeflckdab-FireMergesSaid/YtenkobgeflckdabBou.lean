/- bind: scope.bound. -/
import Derived.Test.YtenkobgeflckdabEvW
set_option linter.unusedVariables false
set_option linter.unusedSimpArgs false
namespace Go.Proofs.Ytenkobgeflckdab
open Go.RowKit Go.Shelf

section
variable {P : Program} {ops : Array Oper} {Q : Exit → Act → World → Prop} {o : Oper} {rest : List Oper} {a : Act} {w : World} {k : Nat}
/-- A new variable. -/
theorem wpl_new (hg : o.guard = none) (e : TypeId) (ho : o.op = .alloc e) (hz : ∃ i z, P.info? e = some i ∧ i.zero = some z ∧ z.cells.size = k)
    (h : ∀ w2 (cur : Array Value), New w w2 → Blk w2 w.heap.size e cur → cur.size = k → w2.heap.size = w.heap.size + 1 → wpList P ops Q rest (a.put o.dst (.pointer (some ⟨w.heap.size, 0, none⟩))) w2) : wpList P ops Q (o :: rest) a w := by
  refine wpList_plain hg fun K hK => ?_
  obtain ⟨i, z, hi, hz, hzs⟩ := hz
  have hrun : (execOp a.eval o).run P w = .ok (.value (.pointer (some ⟨w.heap.size, 0, none⟩))) (w.alloc (.cells z.cells e)) := by
    unfold execOp
    simp [ho, Instr.alloc, newVar, newRow, zeroValue, typeInfo, hi, hz]
  unfold Oper.wp
  rw [hrun]
  simp only [Oper.upon]
  exact hK _ _ (h _ _ ((Chg.refl w _).alloc _) (Blk.new w e z.cells) hzs (by simp))
/-- A whole variable is written. -/
theorem wpl_set (hg : o.guard = none) (x y : Operand) (e : TypeId) (ho : o.op = .store e x y) (hd : o.dst = none) (hS : StT P e k) (g : Nat) (t : TypeId) (cur : Array Value) (cs : List Value) (hx : a.eval x = .pointer (some ⟨g, 0, none⟩)) (hy : a.eval y = .agg cs.toArray)
    (hB : Blk w g t cur) (hl : cs.length = k) (hc : cur.size = k) (h1 : ∀ u ∈ cs, u.oneCell' = true)
    (h : ∀ w2, Chg w w2 (fun j => j = g) → Blk w2 g t cs.toArray → w2.heap.size = w.heap.size → wpList P ops Q rest a w2) : wpList P ops Q (o :: rest) a w := by
  refine wpl_store hg x y e ho hS g 0 t cur cs hx hy hB hl (by omega) h1 ?_
  simp only [hd, Act.put]
  refine h _ ((Chg.refl w _).setRow _ _ (fun _ => rfl)) ?_ (by simp)
  have hb := hB.set (layA cur 0 cs)
  rw [layA_all (by omega)] at hb ⊢
  exact hb
end

theorem Chg.put {w w2 w3 : World} {T : Nat → Prop} {g : Nat} (h : Chg w w2 T) (h3 : Chg w2 w3 (fun j => j = g)) (hg : w.heap.size ≤ g) : Chg w w3 T :=
  h.trans h3 (fun k hk e => absurd hk (Nat.not_lt.2 (Nat.le_trans hg (Nat.le_of_eq (show k = g from e).symm))))

/-- Terms in memory. -/
structure TmsAt (w : World) (A : Option Addr) (css : List (List Value)) (ts : List Tm) : Prop where
  len : css.length = ts.length
  src : SrcAt w A 7 css
  at_ : ∀ (j : Nat) (cs : List Value) (t : Tm), css[j]? = some cs → ts[j]? = some t → TmAt w cs t
theorem TmsAt.chg {w w' : World} {A : Option Addr} {css : List (List Value)} {ts : List Tm} (h : TmsAt w A css ts) (hc : New w w') : TmsAt w' A css ts :=
  ⟨h.len, h.src.chg hc (fun _ _ => id), fun j cs t h1 h2 => (h.at_ j cs t h1 h2).chg hc⟩

/-- One argument. -/
def bstep (env : Env) (p : Tm × Vl) : Env := match p.1 with
  | .var s => match lookE env s with
    | some _ => env
    | none => env ++ [(s, p.2)]
  | _ => env
/-- What is bound behind k arguments. -/
def envK (env : Env) (ts : List Tm) (vs : List Vl) (k : Nat) : Env := ((ts.zip vs).take k).foldl bstep env
theorem envK_succ {env : Env} {ts : List Tm} {vs : List Vl} {k : Nat} {t : Tm} {v : Vl} (ht : ts[k]? = some t) (hv : vs[k]? = some v) : envK env ts vs (k + 1) = bstep (envK env ts vs k) (t, v) := by
  unfold envK
  rw [take_succ_get (x := (t, v)) (by rw [List.getElem?_zip_eq_some]; exact ⟨ht, hv⟩), List.foldl_append]
  rfl
theorem bstep_some {env : Env} {s : ByteArray} {v x : Vl} (h : lookE env s = some x) : bstep env (.var s, v) = env := by
  unfold bstep; dsimp only; rw [h]
theorem bstep_none {env : Env} {s : ByteArray} {v : Vl} (h : lookE env s = none) : bstep env (.var s, v) = env ++ [(s, v)] := by
  unfold bstep; dsimp only; rw [h]
theorem bstep_len (env : Env) (p : Tm × Vl) : (bstep env p).length ≤ env.length + 1 := by
  unfold bstep
  split
  · split
    · omega
    · simp
  · omega
theorem envK_len (env : Env) (ts : List Tm) (vs : List Vl) : ∀ k, (envK env ts vs k).length ≤ env.length + k
  | 0 => by simp [envK]
  | k + 1 => by
    have ih := envK_len env ts vs k
    cases ht : ts[k]? with
    | none =>
      have : envK env ts vs (k + 1) = envK env ts vs k := by
        unfold envK
        have hl : (ts.zip vs).length ≤ k := by rw [List.length_zip]; have := List.getElem?_eq_none_iff.1 ht; omega
        rw [List.take_of_length_le (by omega), List.take_of_length_le hl]
      rw [this]; omega
    | some t =>
      cases hv : vs[k]? with
      | none =>
        have : envK env ts vs (k + 1) = envK env ts vs k := by
          unfold envK
          have hl : (ts.zip vs).length ≤ k := by rw [List.length_zip]; have := List.getElem?_eq_none_iff.1 hv; omega
          rw [List.take_of_length_le (by omega), List.take_of_length_le hl]
        rw [this]; omega
      | some v =>
        rw [envK_succ ht hv]
        have := bstep_len (envK env ts vs k) (t, v)
        omega
theorem bstep_ok {env : Env} (h : okEnv env) {p : Tm × Vl} (hp : okW p.2) : okEnv (bstep env p) := by
  unfold bstep
  split
  · split
    · exact h
    · intro q hq
      rcases List.mem_append.1 hq with hq | hq
      · exact h q hq
      · rw [List.mem_singleton.1 hq]; exact hp
  · exact h
theorem envK_ok {env : Env} (h : okEnv env) {ts : List Tm} {vs : List Vl} (hv : ∀ v ∈ vs, okW v) : ∀ k, okEnv (envK env ts vs k)
  | 0 => by simpa [envK] using h
  | k + 1 => by
    have ih := envK_ok (ts := ts) h hv k
    unfold envK
    cases hk : (ts.zip vs)[k]? with
    | none =>
      have hl := List.getElem?_eq_none_iff.1 hk
      unfold envK at ih
      rw [List.take_of_length_le hl] at ih
      rw [List.take_of_length_le (by omega)]
      exact ih
    | some p =>
      rw [take_succ_get hk, List.foldl_append]
      exact bstep_ok ih (hv _ (List.of_mem_zip (List.mem_of_getElem? hk)).2)

set_option maxHeartbeats 4000000 in
set_option maxRecDepth 100000 in
theorem bound_env (w0 w : World) (hw0 : New w0 w) (u0 : Value) (env : Env) (hov : Own w w0.heap.size 101 5 u0 (env.map bcs)) (A : Option Addr) (n c : Nat) (css : List (List Value)) (ts : List Tm) (hn : n = ts.length) (hts : TmsAt w0 A css ts)
    (Av : Option Addr) (cv : Nat) (vs : List Vl) (hnv : n = vs.length) (hvs : SrcAt w0 Av 4 (vs.map vcs)) (hm : env.length + n ≤ 1000) (hok : okEnv env) :
    Calls Try.prog 59 #[u0, .slice A n c, .slice Av n cv] w fun e w' => ∃ v', e = .returned v' ∧ Own w' w0.heap.size 101 5 v' ((envK env ts vs n).map bcs) ∧ New w0 w' := by
  have HN := Lib.hid hn
  have HNv := Lib.hid hnv
  have Hts := Lib.hid hts
  have Hvs := Lib.hid hvs
  have HOv0 := Lib.hid hov
  have Hw0 := Lib.hid hw0
  clear hn hnv hts hvs hov hw0 hok
  go_enter Try.func59, Try.ntmps59
  go_wp2_with fail
  go_loopw [0, 13] (fun u0 u13 wr => ∃ (k : Nat), k ≤ n ∧ u13 = .int .i64 k ∧ Own wr w0.heap.size 101 5 u0 ((envK env ts vs k).map bcs) ∧ New w0 wr) (fun _ u _ => n - (intOf u).toNat)
  case atStart => exact ⟨0, Nat.zero_le _, rfl, HOv0.out, Hw0.out⟩
  case round =>
    obtain ⟨k, hk, rfl, hov, hN⟩ := hrel
    obtain ⟨Ao, co, rfl, hc1, hc2⟩ := hov.form
    have HOv := Lib.hid hov
    have HNw := Lib.hid hN
    have hle := envK_len env ts vs k
    obtain ⟨ek, hek⟩ : ∃ ek, envK env ts vs k = ek := ⟨_, rfl⟩
    rw [hek] at hle hov ⊢
    rw [hek, List.length_map] at HOv
    rw [List.length_map]
    have Hek := Lib.hid hek
    clear hov hN hc1 hc2 hek
    by_cases hlt : k < n
    · obtain ⟨t, ht⟩ : ∃ t, ts[k]? = some t := ⟨_, List.getElem?_eq_getElem (by rw [← HN.out]; exact hlt)⟩
      obtain ⟨v, hv⟩ : ∃ v, vs[k]? = some v := ⟨_, List.getElem?_eq_getElem (by rw [← HNv.out]; exact hlt)⟩
      obtain ⟨cs, hcs⟩ : ∃ cs, css[k]? = some cs := ⟨_, List.getElem?_eq_getElem (by rw [Hts.out.len, ← HN.out]; exact hlt)⟩
      obtain ⟨ad, rfl, hrw⟩ := Hts.out.src (by rw [Hts.out.len, ← HN.out]; omega)
      obtain ⟨av, rfl, hrv⟩ := Hvs.out (by rw [List.length_map, ← HNv.out]; omega)
      have hat := (hrw k cs hcs).2.chg HNw.out id
      have hatv := (hrv k (vcs v) (by rw [List.getElem?_map, hv]; rfl)).2.chg HNw.out id
      have htm := Hts.out.at_ k cs t hcs ht
      have h1c := htm.one
      have hsu := envK_succ (env := env) ht hv
      rw [Hek.out] at hsu
      obtain ⟨t0, t1, t2, t3, t4, t5, t6, rfl⟩ := htm.seven
      have Hat := Lib.hid hat
      have Hatv := Lib.hid hatv
      have Htm := Lib.hid htm
      have H1c := Lib.hid h1c
      have Hsu := Lib.hid hsu
      clear hat hatv htm h1c hsu hrw hrv hcs ht hv
      go_upto_region 4 with first
        | ((with_reducible refine wpl_load rfl (.tmp 16) 48 rfl stTerm (ad.add (k * 7)) _ ?_ rfl Hat.out ?_); exact rfl)
        | (with_reducible refine wpl_new rfl 48 rfl elTerm.zero ?_; intro w2 cur hc2 hb2 hsz hs2; have HC2 := Lib.hid hc2; have HB2 := Lib.hid hb2; have Hsz := Lib.hid hsz; clear hc2 hb2 hsz hs2)
        | ((with_reducible refine wpl_set rfl (.tmp 8) (.tmp 17) 48 rfl rfl stTerm wr.heap.size 48 _ [t0, t1, t2, t3, t4, t5, t6] ?_ ?_ HB2.out rfl Hsz.out H1c.out ?_); exact rfl; exact rfl; intro w3 hc3 hb3 hs3; have HC3 := Lib.hid (HC2.out.put hc3 (Nat.le_refl _)); have HB3 := Lib.hid hb3; clear hc3 hb3 hs3)
      have HOv3 := Lib.hid (HOv.out.chg HC3.out (fun _ _ x => x))
      have HN3 := Lib.hid (HNw.out.trans HC3.out (fun _ _ x => x))
      have Hatv3 := Lib.hid (Hatv.out.chg HC3.out id)
      have hsz3 := HC3.out.size
      have hb3 := Blk.lt HB3.out
      obtain ⟨bx, hbx⟩ : ∃ bx, wr.heap.size = bx := ⟨_, rfl⟩
      rw [hbx] at HB3 hb3 ⊢
      clear HC2 HB2 Hsz HC3 HOv HNw Hat Hatv H1c hbx hsz3
      cases t with
      | val x =>
        have e0 : t0 = .int .i64 2 := by have := Htm.out; injection (show [t0, t1, t2, t3, t4, t5, t6] = _ from this)
        have c0 := HB3.out.cell 0
        simp only [List.getElem?_toArray, List.getElem?_cons_zero, e0] at c0
        clear e0
        go_wp2_with fail
        go_roundw
        case rel => exact ⟨k + 1, by omega, by go_num, by rw [Hsu.out]; exact HOv3.out, HN3.out⟩
        case measure => simp [intOf]; omega
      | op m x y =>
        have e0 : t0 = .int .i64 4 := by obtain ⟨_, _, _, _, h, _⟩ := Htm.out; injection (show [t0, t1, t2, t3, t4, t5, t6] = _ from h)
        have c0 := HB3.out.cell 0
        simp only [List.getElem?_toArray, List.getElem?_cons_zero, e0] at c0
        clear e0
        go_wp2_with fail
        go_roundw
        case rel => exact ⟨k + 1, by omega, by go_num, by rw [Hsu.out]; exact HOv3.out, HN3.out⟩
        case measure => simp [intOf]; omega
      | var s =>
        obtain ⟨e0, e1⟩ : t0 = .int .i64 1 ∧ t1 = .string s := by
          have := Htm.out
          injection (show [t0, t1, t2, t3, t4, t5, t6] = _ from this) with h1 h2
          injection h2 with h2 _
          exact ⟨h1, h2⟩
        have c0 := HB3.out.cell 0
        have c1 := HB3.out.cell 1
        simp only [List.getElem?_toArray, List.getElem?_cons_zero, List.getElem?_cons_succ, e0, e1] at c0 c1
        clear e0
        have hlk := lookup_env w3 Ao ek.length co ek s rfl (by omega) (HOv3.out.rows (A := Ao) (n := ek.length) (c := co) rfl).2
        obtain ⟨o, ho⟩ : ∃ o, lookE ek s = o := ⟨_, rfl⟩
        rw [ho] at hlk
        have Hlk := Lib.hid hlk
        have Ho := Lib.hid ho
        clear hlk ho
        cases o with
        | some x =>
          unfold optV at Hlk
          dsimp only [Option.getD, Option.isSome, vval] at Hlk
          go_wp2_with first
            | (go_at_call 62; refine Hlk.out.mono ?_; rintro e w4 ⟨rfl, hc4⟩; have HC4 := Lib.hid hc4; clear hc4)
            | ((with_reducible refine wpl_box rfl rfl 9 (.tmp 26) 46 rfl rfl rfl rfl stVal4 elValue.zero (vcs x) ?_ ?_ (vcl_len _) (vcl_one _) ?_); exact (by decide : 9 < 42); exact rfl; intro w5 hc5 hb5 hs5; have HC5 := Lib.hid (HC4.out.trans hc5 (fun _ _ x => x)); clear hc5 hb5 hs5)
          go_roundw
          case rel => exact ⟨k + 1, by omega, by go_num, by rw [Hsu.out, bstep_some Ho.out]; exact HOv3.out.chg HC5.out (fun _ _ x => x), HN3.out.trans HC5.out (fun _ _ x => x)⟩
          case measure => simp [intOf]; omega
        | none =>
          unfold optV at Hlk
          dsimp only [Option.getD, Option.isSome, vval, zV] at Hlk
          go_upto_region 7 with first
            | (go_at_call 62; refine Hlk.out.mono ?_; rintro e w4 ⟨rfl, hc4⟩; have HC4 := Lib.hid hc4; clear hc4)
            | ((with_reducible refine wpl_box rfl rfl 9 (.tmp 26) 46 rfl rfl rfl rfl stVal4 elValue.zero (vcs zV) ?_ ?_ (vcl_len _) (vcl_one _) ?_); exact (by decide : 9 < 42); exact rfl; intro w5 hc5 hb5 hs5; have HC5 := Lib.hid (HC4.out.trans hc5 (fun _ _ x => x)); clear hc5 hb5 hs5)
          refine wp_region_at (by kernel_rfl) ?_
          have hcd := (HC5.out.drew)
          have HOvd := Lib.hid (HOv3.out.chg hcd (fun _ _ x => x))
          have HNd := Lib.hid (HN3.out.trans hcd (fun _ _ x => x))
          have Hs := Lib.hid (hcd.cellS c1 id)
          have Hvv := Lib.hid (Hatv3.out.chg hcd id)
          clear c0 c1 Hatv3 HN3 HOv3 HC4 HC5 hcd Hlk
          generalize w5.drew = wd at HOvd HNd Hs Hvv ⊢
          have q0 : (0 : Int) ≤ (k : Int) := by omega
          have q1 : (k : Int) < (n : Int) := by omega
          obtain ⟨J, HJ0, HJ1, HJn⟩ : ∃ J : Bool → World → Prop, (∀ W, J false W ↔ W = wd) ∧ (∀ {W}, J true W ↔ W = wd.alloc (.cells #[.string s, .int .i64 v.k, .int .i64 v.i, .string v.t, .slice none 0 0] 101)) ∧ ∀ d W, J d W → New wd W :=
            ⟨fun d W => W = if d then wd.alloc (.cells #[.string s, .int .i64 v.k, .int .i64 v.i, .string v.t, .slice none 0 0] 101) else wd, fun W => Iff.rfl, Iff.rfl, fun d W h => by rw [show W = _ from h]; cases d; exact Chg.refl _ _; exact (Chg.refl _ _).alloc _⟩
          refine AtN.segV2 0 9 8 (fun
            | 0 => .slice Ao ek.length co
            | 1 => .pointer (some ⟨bx, 1, none⟩)
            | 2 => .string s
            | 3 => .slice (some av) n cv
            | 4 => .int .i64 k
            | 5 => .pointer (some (av.add (k * 4)))
            | 6 => .agg #[.int .i64 v.k, .int .i64 v.i, .string v.t, .slice none 0 0]
            | 7 => .agg #[.string s, .int .i64 v.k, .int .i64 v.i, .string v.t, .slice none 0 0]
            | _ => .slice (some ⟨wd.heap.size, 0, none⟩) 1 1)
            [(30, .slice Ao ek.length co), (31, .pointer (some ⟨bx, 1, none⟩)), (32, .string s), (33, .slice (some av) n cv), (34, .int .i64 k), (35, .pointer (some (av.add (k * 4)))), (36, .agg #[.int .i64 v.k, .int .i64 v.i, .string v.t, .slice none 0 0]), (37, .agg #[.string s, .int .i64 v.k, .int .i64 v.i, .string v.t, .slice none 0 0]), (38, .slice (some ⟨wd.heap.size, 0, none⟩) 1 1)]
            J (by kernel_rfl) (by kernel_rfl) (by kernel_rfl) (by kernel_rfl) rfl ((HJ0 _).2 rfl) (fun i hn hi o ho A0 W d hJ hμ hin hk => ?_) (fun wq hJ => ?_)
          · rcases (show i = 0 ∨ i = 1 ∨ i = 2 ∨ i = 3 ∨ i = 4 ∨ i = 5 ∨ i = 6 ∨ i = 7 ∨ i = 8 by omega) with rfl | rfl | rfl | rfl | rfl | rfl | rfl | rfl | rfl
            · cases ho
              exact .quiet (exec_move 0 _ rfl (hk 0 (by kernel_rfl))) hJ
            · cases ho
              have h8 : A0.tmps[8]?.getD undef = .pointer (some ⟨bx, 0, none⟩) := hk 8 (by kernel_rfl)
              exact .quiet (by simp [go_sem, h8]) hJ
            · cases ho
              have h31 : A0.tmps[31]?.getD undef = .pointer (some ⟨bx, 1, none⟩) := hin 1 31 (by kernel_rfl)
              have hN := HJn d W hJ
              exact .quiet (by simp [go_sem, h31, hN.cellS Hs.out id]) hJ
            · cases ho
              exact .quiet (exec_move 2 _ rfl (hk 2 (by kernel_rfl))) hJ
            · cases ho
              exact .quiet (exec_move 7 _ rfl (hk 7 (by kernel_rfl))) hJ
            · cases ho
              have h33 : A0.tmps[33]?.getD undef = .slice (some av) n cv := hin 3 33 (by kernel_rfl)
              have h34 : A0.tmps[34]?.getD undef = .int .i64 k := hin 4 34 (by kernel_rfl)
              exact .quiet (by simp [go_sem, h33, h34, q0, q1]) hJ
            · cases ho
              have h35 : A0.tmps[35]?.getD undef = .pointer (some (av.add (k * 4))) := hin 5 35 (by kernel_rfl)
              have hN := HJn d W hJ
              exact .quiet (exec_load 35 _ rfl stVal4 (av.add (k * 4)) (vcs v) h35 (vcl_len v) (Hvv.out.chg hN id)) hJ
            · cases ho
              have h32 : A0.tmps[32]?.getD undef = .string s := hin 2 32 (by kernel_rfl)
              have h36 : A0.tmps[36]?.getD undef = .agg #[.int .i64 v.k, .int .i64 v.i, .string v.t, .slice none 0 0] := hin 6 36 (by kernel_rfl)
              exact .quiet (by simp [go_sem, h32, h36]) hJ
            · cases ho
              have h37 : A0.tmps[37]?.getD undef = .agg #[.string s, .int .i64 v.k, .int .i64 v.i, .string v.t, .slice none 0 0] := hin 7 37 (by kernel_rfl)
              obtain rfl := hμ rfl
              obtain rfl := (HJ0 W).1 hJ
              exact .value (W' := W.alloc (.cells #[.string s, .int .i64 v.k, .int .i64 v.i, .string v.t, .slice none 0 0] 101)) (by simp [go_sem, h37]) ⟨HJ1.2 rfl, rfl⟩
          simp only [putsL, Act.put, List.setIfInBounds_toArray, List.set_cons_succ, List.set_cons_zero]
          obtain rfl := HJ1.1 (show J true wq from hJ)
          clear hJ
          obtain ⟨wn, hwn⟩ : ∃ wn, wn = wd.alloc (.cells #[.string s, .int .i64 v.k, .int .i64 v.i, .string v.t, .slice none 0 0] 101) := ⟨_, rfl⟩
          have hnn : New wd wn := by rw [hwn]; exact (Chg.refl _ _).alloc _
          have hbn : Blk wn wd.heap.size 101 #[.string s, .int .i64 v.k, .int .i64 v.i, .string v.t, .slice none 0 0] := by rw [hwn]; exact Blk.new _ _ _
          have hlw := HNd.out.size
          have hrun := elScope.appendS (HOvd.out.chg hnn (fun _ _ x => x)) (Nat.le_trans hlw hnn.size) (some ⟨wd.heap.size, 0, none⟩) 1 1 [bcs (s, v)] rfl (fun cs hc => by rw [List.mem_singleton.1 hc]; rfl) (fun cs hc => bcs_one [(s, v)] cs hc) (src_one (k := 5) (cs := bcs (s, v)) (Blk.at_ hbn) rfl) (by rw [List.length_map]; omega) (by rw [List.length_map]; unfold maxLen; omega) 102
          rw [hwn] at hrun
          obtain ⟨v6, w6, hrun, hown6, hc6, -⟩ := hrun
          have Hrun := Lib.hid hrun
          have Hown6 := Lib.hid hown6
          have HC6 := Lib.hid ((hnn.mono (T' := fun k => (Value.slice Ao ek.length co).ownBlock = some k) (fun _ _ x => x.elim)).trans (hwn ▸ hc6) (fun _ _ x => x))
          have HT := Lib.hid (fun g (hg : (Value.slice Ao ek.length co).ownBlock = some g) => (HOvd.out.lt hg).1)
          clear hrun hbn hnn hwn hown6 hc6 HOvd Hs Hvv HJ0 HJ1 HJn hlw
          refine AtN.list 9 11 (by kernel_rfl) ?_
          change wpList _ _ _ [_, _] _ _
          go_wp2_with ((with_reducible refine wpl_append rfl (.tmp 30) (.tmp 38) 102 102 rfl ?_ ?_ Hrun.out ?_); exact rfl; exact rfl)
          change AtN _ _ _ 11 _ _
          refine AtN.done rfl ?_
          go_wp2_with fail
          go_roundw
          case rel =>
            refine ⟨k + 1, by omega, by go_num, by rw [Hsu.out, bstep_none Ho.out, List.map_append]; exact Hown6.out, HNd.out.trans HC6.out (fun k hk h => ?_)⟩
            have := HT.out k h
            omega
          case measure => simp [intOf]; omega
    · go_wp2_with fail
      go_ret
      refine ⟨_, rfl, ?_, HNw.out⟩
      rw [show n = k by omega, Hek.out]
      exact HOv.out
end Go.Proofs.Ytenkobgeflckdab
