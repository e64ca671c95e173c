/- bind.Match; A range over a function, by a law of one's own over the kit's: the iterator's contract names the blocks that the consumer may write. No program is named here; A round's operations by the plain walk; a call of yield. No program is named here; What a rule's body does: plain; states and literals in memory; a map by names; fire: ways$1$1. -/
import Derived.Test.YtfocjfnkcabbgaaBou
import Derived.Test.YtfocjfnkcabbgaaWa
import Derived.RangeFuncNested
import Derived.RangeFuncLeaves
import Derived.Shelf.RegionOpen
import Derived.WalkKit
import Derived.OwnWalkIn
import Derived.TacticsInMore
import Derived.LoopNIn
import Derived.LoopIn
import Derived.RangeFuncBound
import Derived.RangeFuncCalls
import Derived.Test.YtfocjfnkcabbgaaTst
set_option linter.unusedVariables false
set_option linter.unusedSimpArgs false
namespace Go.Proofs.Ytfocjfnkcabbgaa
open Go.RowKit Go.Shelf

/-- What is there already is written: nothing changes. -/
theorem New.same {w : World} {g : Nat} {t : TypeId} {cur : Array Value} (h : Blk w g t cur) : New w (w.setRow g cur) :=
  ⟨rfl, rfl, rfl, by simp, fun k _ _ => by
    by_cases hk : k = g
    · subst hk
      exact (h.set cur).trans h.symm
    · exact setRow_other w g k cur hk⟩
/-- One's own row lies in a block. -/
theorem Own.blk {w : World} {b : Nat} {e : TypeId} {k : Nat} {v : Value} {css : List (List Value)} (h : Own w b e k v css) (hp : 0 < css.length) : ∃ g cap cur, v = .slice (some ⟨g, 0, none⟩) css.length cap ∧ b ≤ g ∧ Blk w g e cur ∧ css.length * k ≤ cur.size ∧
    ∀ (i : Nat) (cs : List Value), css[i]? = some cs → ∀ (j : Nat) (u : Value), cs[j]? = some u → cur[i * k + j]? = some u := by
  obtain ⟨hh, hk⟩ := h
  have h1 := hh.2
  rcases h1 with ⟨h3, h4⟩ | ⟨g, cap, cur, rfl, hb, hg, hn, hm, hs, ht⟩
  · omega
  · refine ⟨g, cap, cur, rfl, hb, hg, by rw [hs]; exact Nat.mul_le_mul_right _ hn, fun i cs hi j u hj => ?_⟩
    have hf := flatten_get hk hi hj
    rw [← ht, List.getElem?_take] at hf
    split at hf
    · simpa using hf
    · cases hf

def matchV (ts : List Tm) (vs : List Vl) (env : Env) : Option Env :=
  if ts.length = vs.length then (if (ts.zip vs).all (fun p => isV (envK env ts vs ts.length) p.1 p.2) then some (envK env ts vs ts.length) else none) else none
def MatchPost (w : World) (r : Option Env) (e : Ending) (w' : World) : Prop :=
  New w w' ∧ ((r = none ∧ e = .returned (.tuple #[.slice none 0 0, .bool false])) ∨ ∃ s v, r = some s ∧ e = .returned (.tuple #[v, .bool true]) ∧ Own w' w.heap.size 98 5 v (s.map bcs))
theorem all_take {α : Type} {l : List α} {p : α → Bool} {k : Nat} {x : α} (h : (l.take k).all p = true) (hx : l[k]? = some x) (hp : p x = true) : (l.take (k + 1)).all p = true := by
  rw [take_succ_get hx, List.all_append, h]
  simp [hp]
theorem all_no {α : Type} {l : List α} {p : α → Bool} {k : Nat} {x : α} (hx : l[k]? = some x) (hp : p x = false) : l.all p = false := by
  rw [List.all_eq_false]
  exact ⟨x, List.mem_of_getElem? hx, by rw [hp]; simp⟩

set_option maxHeartbeats 4000000 in
set_option maxRecDepth 100000 in
theorem match_env (w : World) (A : Option Addr) (n c : Nat) (css : List (List Value)) (ts : List Tm) (hn : n = ts.length) (hts : TmsAt w A css ts) (hokt : ∀ t ∈ ts, okTm t)
    (Av : Option Addr) (nv cv : Nat) (vs : List Vl) (hnv : nv = vs.length) (hvs : SrcAt w Av 4 (vs.map vcs)) (hokv : ∀ v ∈ vs, okW v)
    (Ae : Option Addr) (ne ce : Nat) (env : Env) (hne : ne = env.length) (hes : SrcAt w Ae 5 (env.map bcs)) (hea : ∀ a, Ae = some a → a.block < w.heap.size) (hok : okEnv env) (hm : env.length + ts.length ≤ 1000) (hmv : nv ≤ maxLen) :
    Calls Try.prog 46 #[.slice A n c, .slice Av nv cv, .slice Ae ne ce] w (MatchPost w (matchV ts vs env)) := by
  unfold maxLen at hmv
  by_cases hl : n = nv
  · subst hl
    have hcl := cloneBind w Ae ne ce (env.map bcs) (by rw [List.length_map]; exact hne) hes hea (bcs_one env) (by omega)
    obtain ⟨s, hs⟩ : ∃ s, envK env ts vs n = s := ⟨_, rfl⟩
    have hsl : s.length ≤ 1000 := by rw [← hs]; have := envK_len env ts vs n; omega
    have hsok : okEnv s := by rw [← hs]; exact envK_ok hok hokv n
    have hbd := fun w1 u0 (h1 : New w w1) (h2 : Own w1 w.heap.size 98 5 u0 (env.map bcs)) => bound_env w w1 h1 u0 env h2 A n c css ts hn hts Av cv vs hnv hvs (by omega) hok
    rw [hs] at hbd
    have hr1 : (ts.zip vs).all (fun p => isV s p.1 p.2) = true → matchV ts vs env = some s := fun h => by
      unfold matchV
      rw [← hn, hs, if_pos hnv, if_pos h]
    have hr0 : (ts.zip vs).all (fun p => isV s p.1 p.2) = false → matchV ts vs env = none := fun h => by
      unfold matchV
      rw [← hn, hs, if_pos hnv, if_neg (by rw [h]; exact Bool.false_ne_true)]
    have HN := Lib.hid hn
    have HNv := Lib.hid hnv
    have Hts := Lib.hid hts
    have Hvs := Lib.hid hvs
    have Hcl := Lib.hid hcl
    have Hbd := Lib.hid hbd
    have HR1 := Lib.hid hr1
    have HR0 := Lib.hid hr0
    have Hsok := Lib.hid hsok
    have Hokt := Lib.hid hokt
    clear hn hnv hts hvs hcl hbd hr1 hr0 hsok hokt hok hokv hea hes hne hs
    go_enter Try.func46, Try.ntmps46
    go_wp2_with first
      | (go_at_call 55; refine Hcl.out.mono ?_; rintro e w1 ⟨u0, rfl, hown1, hc1⟩; have HO1 := Lib.hid hown1; have HC1 := Lib.hid hc1; clear hown1 hc1)
      | (go_at_call 56; refine (Hbd.out _ _ HC1.out HO1.out).mono ?_; rintro e w2 ⟨u1, rfl, hown2, hc2⟩; have HO2 := Lib.hid hown2; have HC2 := Lib.hid hc2; clear hown2 hc2)
    clear Hcl Hbd HC1 HO1
    obtain ⟨As, cs0, rfl, _, _⟩ := HO2.out.form
    rw [List.length_map] at HO2 ⊢
    go_loopw [24] (fun u24 wr => ∃ (k : Nat), k ≤ n ∧ u24 = .int .i64 k ∧ ((ts.zip vs).take k).all (fun p => isV s p.1 p.2) = true ∧ New w2 wr) (fun u _ => n - (intOf u).toNat)
    case atStart => exact ⟨0, Nat.zero_le _, rfl, rfl, Chg.refl _ _⟩
    case round =>
      obtain ⟨k, hk, rfl, hall, hN⟩ := hrel
      have Hall := Lib.hid hall
      have HNw := Lib.hid hN
      clear hall hN
      by_cases hlt : k < n
      · obtain ⟨t, ht⟩ : ∃ t, ts[k]? = some t := ⟨_, List.getElem?_eq_getElem (by rw [← HN.out]; exact hlt)⟩
        obtain ⟨v, hv⟩ : ∃ v, vs[k]? = some v := ⟨_, List.getElem?_eq_getElem (by rw [← HNv.out]; exact hlt)⟩
        obtain ⟨cs, hcs⟩ : ∃ cs, css[k]? = some cs := ⟨_, List.getElem?_eq_getElem (by rw [Hts.out.len, ← HN.out]; exact hlt)⟩
        obtain ⟨ad, rfl, hrw⟩ := Hts.out.src (by rw [Hts.out.len, ← HN.out]; omega)
        obtain ⟨av, rfl, hrv⟩ := Hvs.out (by rw [List.length_map, ← HNv.out]; omega)
        have hww : New w wr := HC2.out.trans HNw.out (fun _ _ x => x)
        have hat := (hrw k cs hcs).2.chg hww id
        have hatv := (hrv k (vcs v) (by rw [List.getElem?_map, hv]; rfl)).2.chg hww id
        have htm := (Hts.out.at_ k cs t hcs ht).chg hww
        have h1c := htm.one
        have hzk : (ts.zip vs)[k]? = some (t, v) := by rw [List.getElem?_zip_eq_some]; exact ⟨ht, hv⟩
        have hokk := Hokt.out t (List.mem_of_getElem? ht)
        have hso := HO2.out.chg HNw.out (fun _ _ x => x)
        obtain ⟨t0, t1, t2, t3, t4, t5, t6, rfl⟩ := htm.seven
        have Hat := Lib.hid hat
        have Hatv := Lib.hid hatv
        have Htm := Lib.hid htm
        have H1c := Lib.hid h1c
        have Hzk := Lib.hid hzk
        have Hokk := Lib.hid hokk
        have Hso := Lib.hid hso
        clear hat hatv htm h1c hzk hokk hso hrw hrv hcs ht hv hww
        go_upto_region 7 with first
          | ((with_reducible refine wpl_load rfl (.tmp 27) 39 rfl stTerm (ad.add (k * 7)) _ ?_ rfl Hat.out ?_); exact rfl)
          | (with_reducible refine wpl_new rfl 39 rfl elTerm.zero ?_; intro w3 cur hc3 hb3 hsz hs3; have HC3 := Lib.hid hc3; have HB3 := Lib.hid hb3; have Hsz := Lib.hid hsz; clear hc3 hb3 hsz hs3)
          | ((with_reducible refine wpl_set rfl (.tmp 10) (.tmp 28) 39 rfl rfl stTerm wr.heap.size 39 _ [t0, t1, t2, t3, t4, t5, t6] ?_ ?_ HB3.out rfl Hsz.out H1c.out ?_); exact rfl; exact rfl; intro w4 hc4 hb4 hs4; have HC4 := Lib.hid (HC3.out.put hc4 (Nat.le_refl _)); have HB4 := Lib.hid hb4; clear hc4 hb4 hs4)
        refine wp_region_at (by kernel_rfl) ?_
        have hcd := HC4.out.drew
        have HBd := Lib.hid (show At w4.drew ⟨wr.heap.size, 0, none⟩ [t0, t1, t2, t3, t4, t5, t6] from (HB4.out.chg (Chg.refl _ (fun _ => False)).drew id).at_)
        have Hvv := Lib.hid (Hatv.out.chg hcd id)
        have Htd := Lib.hid (Htm.out.chg hcd)
        have Hsd := Lib.hid (Hso.out.chg hcd (fun _ _ x => x))
        have Hcd := Lib.hid hcd
        clear hcd HC3 HB3 Hsz HC4 HB4 Hat Hatv H1c Htm
        generalize w4.drew = wd at HBd Hvv Htd Hsd Hcd ⊢
        obtain ⟨bx, hbx⟩ : ∃ bx, wr.heap.size = bx := ⟨_, rfl⟩
        rw [hbx] at HBd ⊢
        have Hbx := Lib.hid hbx
        clear hbx
        have q0 : (0 : Int) ≤ (k : Int) := by omega
        have q1 : (k : Int) < (n : Int) := by omega
        refine AtN.segQ2 0 6 (fun
          | 0 => .slice As s.length cs0
          | 1 => .agg #[t0, t1, t2, t3, t4, t5, t6]
          | 2 => .slice (some av) n cv
          | 3 => .int .i64 k
          | 4 => .pointer (some (av.add (k * 4)))
          | _ => .agg #[.int .i64 v.k, .int .i64 v.i, .string v.t, .slice none 0 0])
          [(29, .slice As s.length cs0), (30, .agg #[t0, t1, t2, t3, t4, t5, t6]), (31, .slice (some av) n cv), (32, .int .i64 k), (33, .pointer (some (av.add (k * 4)))), (34, .agg #[.int .i64 v.k, .int .i64 v.i, .string v.t, .slice none 0 0])] (by kernel_rfl) (by kernel_rfl) (by kernel_rfl) (by kernel_rfl) rfl (fun i hn hi o ho A0 hin hk => ?_) ?_
        · rcases (show i = 0 ∨ i = 1 ∨ i = 2 ∨ i = 3 ∨ i = 4 ∨ i = 5 by omega) with rfl | rfl | rfl | rfl | rfl | rfl
          · cases ho
            exact exec_move 8 _ rfl (hk 8 (by kernel_rfl))
          · cases ho
            have h10 : A0.tmps[10]?.getD undef = .pointer (some ⟨bx, 0, none⟩) := hk 10 (by kernel_rfl)
            exact exec_load 10 _ rfl stTerm ⟨bx, 0, none⟩ [t0, t1, t2, t3, t4, t5, t6] h10 rfl HBd.out
          · cases ho
            exact exec_move 1 _ rfl (hk 1 (by kernel_rfl))
          · cases ho
            exact exec_move 9 _ rfl (hk 9 (by kernel_rfl))
          · cases ho
            have h31 : A0.tmps[31]?.getD undef = .slice (some av) n cv := hin 2 31 (by kernel_rfl)
            have h32 : A0.tmps[32]?.getD undef = .int .i64 k := hin 3 32 (by kernel_rfl)
            exact by simp [go_sem, h31, h32, q0, q1]
          · cases ho
            have h33 : A0.tmps[33]?.getD undef = .pointer (some (av.add (k * 4))) := hin 4 33 (by kernel_rfl)
            exact exec_load 33 _ rfl stVal4 (av.add (k * 4)) (vcs v) h33 (vcl_len v) Hvv.out
        simp only [putsL, Act.put, List.setIfInBounds_toArray, List.set_cons_succ, List.set_cons_zero]
        have his := bIs As s.length cs0 s rfl hsl Hsok.out t Hokk.out v wd [t0, t1, t2, t3, t4, t5, t6] (Hsd.out.rows (A := As) (n := s.length) (c := cs0) rfl).2 Htd.out
        obtain ⟨q, hq⟩ : ∃ q, isV s t v = q := ⟨_, rfl⟩
        rw [hq] at his
        have His := Lib.hid his
        have Hq := Lib.hid hq
        clear his hq
        refine AtN.list 6 8 (by kernel_rfl) ?_
        change wpList _ _ _ [_, _] _ _
        go_wp2_with (go_at_call 57; refine His.out.mono ?_; rintro e w5 ⟨rfl, hc5⟩; have HC5 := Lib.hid (Hcd.out.trans hc5 (fun _ _ x => x)); clear hc5)
        cases q with
        | true =>
          change AtN _ _ _ 8 _ _
          refine AtN.done rfl ?_
          go_wp2_with fail
          go_roundw
          case rel => exact ⟨k + 1, by omega, by go_num, all_take Hall.out Hzk.out Hq.out, HNw.out.trans HC5.out (fun _ _ x => x)⟩
          case measure => simp [intOf]; omega
        | false =>
          change AtN _ _ _ 8 _ _
          refine AtN.done rfl ?_
          go_wp2_with fail
          go_ret2
          exact ⟨HC2.out.trans (HNw.out.trans HC5.out (fun _ _ x => x)) (fun _ _ x => x), .inl ⟨HR0.out (all_no Hzk.out Hq.out), rfl⟩⟩
      · have hall : matchV ts vs env = some s := HR1.out (by
          have h := Hall.out
          rwa [List.take_of_length_le (by rw [List.length_zip, ← HN.out, ← HNv.out]; omega)] at h)
        have HRes := Lib.hid hall
        have HOs := Lib.hid (HO2.out.chg HNw.out (fun _ _ x => x))
        have HNr := Lib.hid (HC2.out.trans HNw.out (fun _ _ x => x))
        clear hall Hall HR1 HR0 HO2 HC2 HNw Hts Hvs
        go_wp2_with fail
        obtain ⟨wy, hwy⟩ : ∃ wy, wy = wr := ⟨_, rfl⟩
        subst hwy
        go_loopw [40] (fun u40 wx => ∃ (k : Nat), k ≤ s.length ∧ u40 = .int .i64 k ∧ New wy wx) (fun u _ => s.length - (intOf u).toNat)
        case atStart => exact ⟨0, Nat.zero_le _, rfl, Chg.refl _ _⟩
        case round =>
          obtain ⟨j, hj, rfl, hNx⟩ := hrel
          have HNx := Lib.hid hNx
          clear hNx
          by_cases hjl : j < s.length
          · obtain ⟨p, hp⟩ : ∃ p, s[j]? = some p := ⟨_, List.getElem?_eq_getElem hjl⟩
            obtain ⟨g, cap, cur, hsv, hbg, hblk, hcs, hget⟩ := (HOs.out.chg HNx.out (fun _ _ x => x)).blk (by rw [List.length_map]; omega)
            rw [List.length_map] at hsv hcs
            obtain ⟨rfl, rfl⟩ : As = some ⟨g, 0, none⟩ ∧ cs0 = cap := by injection hsv with h1 _ h3; exact ⟨h1, h3⟩
            have hcell := hget j (bcs p) (by rw [List.getElem?_map, hp]; rfl)
            have hat : At wr ⟨g, j * 5 + 1, none⟩ [.int .i64 p.2.k, .int .i64 p.2.i, .string p.2.t, .slice none 0 0] := fun i u hi => by
              rw [Addr.add_lit, hblk.cell]
              have := hcell (i + 1) u (by simpa [bcs] using hi)
              rwa [show j * 5 + (i + 1) = j * 5 + 1 + i by omega] at this
            have hsame : layA cur (j * 5 + 1) (vcs p.2) = cur := lay_same (fun i u hi => by
              have := hcell (i + 1) u (by simpa [bcs, vcs] using hi)
              rwa [show j * 5 + (i + 1) = j * 5 + 1 + i by omega] at this)
            have hfit : j * 5 + 1 + 4 ≤ cur.size := by omega
            have HAt := Lib.hid hat
            have HSame := Lib.hid hsame
            have HBlk := Lib.hid hblk
            have Hfit := Lib.hid hfit
            clear hat hsame hblk hget hcell hcs hsv hfit hp
            have q0 : (0 : Int) ≤ (j : Int) := by omega
            have q1 : (j : Int) < (s.length : Int) := by omega
            go_wp2_with first
              | ((with_reducible refine wpl_load rfl (.tmp 48) 37 rfl stVal4 ⟨g, j * 5 + 1, none⟩ [.int .i64 p.2.k, .int .i64 p.2.i, .string p.2.t, .slice none 0 0] ?_ rfl HAt.out ?_); exact rfl)
              | (go_at_call 51; refine (bfresh_val _ p.2).mono ?_; rintro e w6 ⟨rfl, hc6⟩; have HB6 := Lib.hid (HBlk.out.chg hc6 id); have HC6 := Lib.hid (HNx.out.trans hc6 (fun _ _ x => x)); clear hc6)
              | ((with_reducible refine wpl_store rfl (.tmp 52) (.tmp 50) 37 rfl stVal4 g (j * 5 + 1) 98 _ (vcs p.2) ?_ ?_ HB6.out (vcl_len _) Hfit.out (vcl_one p.2) ?_); exact rfl; exact rfl; rw [HSame.out]; have HC7 := Lib.hid (HC6.out.trans (New.same HB6.out) (fun _ _ x => x)); generalize w6.setRow g cur = w7 at HC7 ⊢)
            go_roundw
            case rel => exact ⟨j + 1, by omega, by go_num, HC7.out⟩
            case measure => simp [intOf]; omega
          · go_wp2_with fail
            go_ret2
            exact ⟨HNr.out.trans HNx.out (fun _ _ x => x), .inr ⟨s, _, HRes.out, rfl, HOs.out.chg HNx.out (fun _ _ x => x)⟩⟩
  · have hr : matchV ts vs env = none := by
      unfold matchV
      rw [if_neg (by omega)]
    rw [hr]
    have hd : decide ((n : Int) = (nv : Int)) = false := decide_eq_false (by omega)
    have hd' : decide (n = nv) = false := decide_eq_false hl
    clear hn hnv hts hvs hokt hok hokv hea hes hne
    go_enter Try.func46, Try.ntmps46
    go_wp2_with fail
    go_ret2
    exact ⟨Chg.refl _ _, .inl ⟨rfl, rfl⟩⟩
end Go.Proofs.Ytfocjfnkcabbgaa

set_option linter.unusedSimpArgs false
set_option linter.unusedVariables false
namespace Go.Proofs.Ytfocjfnkcabbgaa
open Go.RowKit

/-- States of a consumer: what has come, the blocks that it may write, the world. It abides whatever writes blocks from n on that are not its own. -/
structure Acc {α : Type} (n : Nat) (J : List α → (Nat → Prop) → World → Prop) : Prop where
  lt : ∀ {pre S W}, J pre S W → ∀ k, S k → k < W.heap.size
  chg : ∀ {pre S W W'}, J pre S W → Chg W W' (fun k => n ≤ k ∧ ¬ S k) → J pre S W'

theorem Acc.mono {α : Type} {n n' : Nat} {J : List α → (Nat → Prop) → World → Prop} (h : Acc n J) (hn : n ≤ n') : Acc n' J :=
  ⟨h.lt, fun hj hc => h.chg hj (hc.mono fun k _ ⟨a, b⟩ => ⟨Nat.le_trans hn a, b⟩)⟩

/-- What a call of yield brings: true and J, or false and Jx. -/
def Yld (P : Program) (l : Nat) (v : Value) (W : World) (R : Bool → World → Prop) : Prop :=
  ∀ m, YieldAt Fence.wide m P l #[v] W fun e W' => ∃ b, e = .returned (.bool b) ∧ R b W'

theorem Yld.mono {P : Program} {l : Nat} {v : Value} {W : World} {R R' : Bool → World → Prop} (h : Yld P l v W R) (hr : ∀ b W', R b W' → R' b W') : Yld P l v W R' := fun m => by
  obtain ⟨fn, tmps, assign, body, hy, hR⟩ := h m
  exact ⟨fn, tmps, assign, body, hy, hR.mono fun e W' ⟨b, he, hb⟩ => ⟨b, he, hr b W' hb⟩⟩

/-- Behind a step of a consumer. -/
def Stp {α : Type} (J : List α → (Nat → Prop) → World → Prop) (xs : List α) (S : Nat → Prop) (W W' : World) : Prop :=
  ∃ S', J xs S' W' ∧ Chg W W' S ∧ ∀ k, S' k → S k ∨ W.heap.size ≤ k

/-- An iterator gives the values xs, told by enc, to whoever's blocks are S. -/
def ItGives {α : Type} (P : Program) (gf : FuncId) (lb : Array Value) (enc : α → Value → (Nat → Prop) → World → Prop) (xs : List α) (S : Nat → Prop) (w : World) (Jx : List α → (Nat → Prop) → World → Prop) : Prop :=
  ∀ (l : Nat) (J : List α → (Nat → Prop) → World → Prop) (S' : Nat → Prop) (W : World), Acc w.heap.size J → J [] S' W → Chg w W S → (∀ k, S' k → S k ∨ w.heap.size ≤ k) →
    (∀ pre x rest S1 v W1, xs = pre ++ x :: rest → J pre S1 W1 → enc x v S1 W1 →
      Yld P l v W1 fun b W2 => if b = true then Stp J (pre ++ [x]) S1 W1 W2 else Stp Jx (pre ++ [x]) S1 W1 W2) →
    CallsIn Fence.wide 0 P gf (#[.func (.yield l) #[] #[]] ++ lb) W fun e W' => (∃ v, e = .returned v) ∧ (Stp J xs S' W W' ∨ ∃ pre x rest, xs = pre ++ x :: rest ∧ Stp Jx (pre ++ [x]) S' W W')

/-- How a round may be left. -/
def rndPost {α : Type} (I : List α → (Nat → Prop) → World → Prop) (Ix : Code → List α → (Nat → Prop) → World → Prop) (xs : List α) (S : Nat → Prop) (W : World) : Exit → Act → World → Prop
  | .normal, _, W' => Stp I xs S W W'
  | .ret, _, W' => Stp (Ix .ret) xs S W W'
  | .exit id, _, W' => Stp (Ix (.exit id)) xs S W W'
  | .goto t, _, W' => Stp (Ix (.goto t)) xs S W W'
  | .panic _, _, _ => False
  | .outgrown, _, _ => False

theorem Stp.trans {α : Type} {J : List α → (Nat → Prop) → World → Prop} {ys : List α} {S S1 : Nat → Prop} {W W1 W2 : World} (hc : Chg W W1 S) (hs : ∀ k, S1 k → S k ∨ W.heap.size ≤ k) (h : Stp J ys S1 W1 W2) : Stp J ys S W W2 := by
  obtain ⟨S2, hj, hc2, hs2⟩ := h
  refine ⟨S2, hj, hc.trans hc2 (fun k hk h1 => ?_), fun k hk => ?_⟩
  · rcases hs k h1 with h | h
    · exact h
    · omega
  · rcases hs2 k hk with h | h
    · exact hs k h
    · exact .inr (Nat.le_trans hc.size h)

/-- Behind the iterator. -/
def Bck {α : Type} (J : List α → (Nat → Prop) → World → Prop) (xs : List α) (S : Nat → Prop) (l : Nat) (o : Obj) (W1 W2 : World) : Prop :=
  ∃ S', J xs S' W2 ∧ Chg W1 W2 (fun k => S k ∨ k = l) ∧ (∀ k, S' k → S k ∨ W1.heap.size ≤ k) ∧ W2.heap[l]? = some o

section core
variable {P : Program} {α : Type} {assign body : Code} {tmps : Array Value} {p : Tmp}

/-- The iterator's call, at a record that is ready. -/
theorem range_core {gf : FuncId} {lb : Array Value} {enc : α → Value → (Nat → Prop) → World → Prop} {xs : List α} {S : Nat → Prop} {w W1 : World}
    {I : List α → (Nat → Prop) → World → Prop} {Ix : Code → List α → (Nat → Prop) → World → Prop} (hI : Acc w.heap.size I) (hIx : ∀ c, Acc w.heap.size (Ix c))
    (hseq : ∀ Jx, Acc w.heap.size Jx → ItGives P gf lb enc xs S w Jx) (h0 : I [] S w) (rec : LoopState → Option Code → Loop)
    (fn : FuncId) (D : Nat) (hrec : rec = fun st pe => { state := st, pending := pe, fn, tmps := tmps, params := #[p], assign, body, defers := D }) (l : Nat) (hl0 : w.heap.size ≤ l) (hl : W1.heap[l]? = some (.loop (rec .ready none))) (hn : New w W1)
    (henc : ∀ {x v S1 S2 W}, enc x v S1 W → (∀ k, S2 k → S1 k) → enc x v S2 W)
    (hround : ∀ pre x rest S1 v W, xs = pre ++ x :: rest → l < W.heap.size → (∃ r, W.heap[l]? = some (.loop r)) → ¬ S1 l → I pre S1 W → enc x v S1 W → 
      assign.wpIn (Fence.wide.inRound l) 0 P (Exit.then (fun a1 Wa => New W Wa ∧ ∀ W2, Chg W W2 (fun k => k = l) → Chg Wa W2 (fun k => k = l) → (∃ r, W2.heap[l]? = some (.loop r)) → I pre S1 W2 →
        body.wpIn (Fence.wide.inRound l) 0 P (rndPost I Ix (pre ++ [x]) S1 W2) a1 W2) (fun _ _ _ => False)) { tmps := tmps.setIfInBounds p v, defers := [] } W) :
    CallsIn Fence.wide 0 P gf (#[.func (.yield l) #[] #[]] ++ lb) W1 fun e W2 => (∃ v, e = .returned v) ∧
      (Bck I xs S l (.loop (rec .ready none)) W1 W2 ∨ ∃ c pre x rest, xs = pre ++ x :: rest ∧ Bck (Ix c) (pre ++ [x]) S l (.loop (rec .done (some c))) W1 W2) := by
  have hSl : ∀ k, S k → k < w.heap.size := fun k hk => hI.lt h0 k hk
  have hlW : l < W1.heap.size := lt_of_heap hl
  have hJ : ∀ {I : List α → (Nat → Prop) → World → Prop} (hI : Acc w.heap.size I) (o : Obj), Acc w.heap.size (fun pre S' W => ∃ Sc, S' = (fun k => Sc k ∨ k = l) ∧ ¬ Sc l ∧ I pre Sc W ∧ W.heap[l]? = some o) := by
    intro I hI o
    constructor
    · rintro pre S' W ⟨Sc, rfl, hn, hi, ho⟩ k (hk | rfl)
      · exact hI.lt hi k hk
      · exact lt_of_heap ho
    · rintro pre S' W W' ⟨Sc, rfl, hn, hi, ho⟩ hc
      refine ⟨Sc, rfl, hn, hI.chg hi (hc.mono fun k _ ⟨a, b⟩ => ⟨a, fun h => b (.inl h)⟩), (hc.block l (lt_of_heap ho) (fun h => h.2 (.inr rfl))).trans ho⟩
  refine (hseq (fun pre S' W => ∃ c, ∃ Sc, S' = (fun k => Sc k ∨ k = l) ∧ ¬ Sc l ∧ Ix c pre Sc W ∧ W.heap[l]? = some (.loop (rec .done (some c)))) ⟨?_, ?_⟩ l
    (fun pre S' W => ∃ Sc, S' = (fun k => Sc k ∨ k = l) ∧ ¬ Sc l ∧ I pre Sc W ∧ W.heap[l]? = some (.loop (rec .ready none))) (fun k => S k ∨ k = l) W1 (hJ hI _)
    ⟨S, rfl, fun h => by have := hSl l h; omega, hI.chg h0 (hn.mono fun k _ h => h.elim), hl⟩ (hn.mono fun k _ h => h.elim) (fun k h => by rcases h with h | rfl; exact .inl h; exact .inr hl0) ?_).mono ?_
  · rintro pre S' W ⟨c, h⟩ k hk
    exact (hJ (hIx c) _).lt h k hk
  · rintro pre S' W W' ⟨c, h⟩ hc
    exact ⟨c, (hJ (hIx c) _).chg h hc⟩
  · rintro pre x rest S1 v W hxs ⟨Sc, rfl, hnl, hi, hr⟩ he m
    have hy := run_yield (P := P) (args := #[v]) hr (by rw [hrec]; rfl)
    have hlW2 := lt_of_heap hr
    refine ⟨fn, tmps.setIfInBounds p v, assign, body, ?_, ?_⟩
    · rw [hy, hrec]
      simp
    have key := hround pre x rest Sc v W hxs hlW2 ⟨_, hr⟩ hnl hi (henc he fun k hk => .inl hk)
    refine roundIn_of_wpIn (n := m) trivial ?_
    have hm : ∀ {c : Code} {Q : Exit → Act → World → Prop} {a : Act} {w : World}, c.wpIn (Fence.wide.inRound l) 0 P Q a w → c.wpIn (Fence.wide.inRound l) m P Q a w := by
      intro c Q a w h b k cs hro hb hroom
      exact h b k cs hro hb (room_wide _)
    refine hm (Go.wpIn_mono key ?_)
    intro e a1 Wa hq
    cases e with
    | normal =>
      obtain ⟨hna, hk⟩ := hq
      have hra : Wa.heap[l]? = some (.loop (rec .ready none)) := (hna.block l hlW2 (fun h => h)).trans hr
      refine ⟨_, run_beginRound hra (by rw [hrec]), ?_⟩
      have hca : Chg Wa (Wa.putObj l (.loop { rec .ready none with state := .busy })) (fun k => k = l) := (Chg.of_grown (grownBy_putObj' Wa l _)).mono fun k _ h => by cases h; rfl
      have hcw : Chg W (Wa.putObj l (.loop { rec .ready none with state := .busy })) (fun k => k = l) := (hna.mono (T' := fun k => k = l) fun k _ h => h.elim).trans hca fun k _ h => h
      have hr2 : (Wa.putObj l (.loop { rec .ready none with state := .busy })).heap[l]? = some (.loop { rec .ready none with state := .busy }) := World.putObj_heap_same (lt_of_heap hra)
      have hi2 : I pre Sc (Wa.putObj l (.loop { rec .ready none with state := .busy })) := hI.chg hi (hcw.mono fun k _ h => by subst h; exact ⟨hl0, hnl⟩)
      refine hm (Go.wpIn_mono (hk _ hcw hca ⟨_, hr2⟩ hi2) ?_)
      have hlP : l < (Wa.putObj l (.loop { rec .ready none with state := .busy })).heap.size := lt_of_heap hr2
      -- how a round ends
      have fin : ∀ {J : List α → (Nat → Prop) → World → Prop} (hA : Acc w.heap.size J) (jump : Option Code) (W3 : World), Stp J (pre ++ [x]) Sc (Wa.putObj l (.loop { rec .ready none with state := .busy })) W3 →
          (Instr.endRound l jump).run P W3 = .ok (.bool jump.isNone) (W3.putObj l (.loop (rec (if jump.isNone then .ready else .done) jump))) ∧
          Stp (fun pre S' W => ∃ Sc, S' = (fun k => Sc k ∨ k = l) ∧ ¬ Sc l ∧ J pre Sc W ∧ W.heap[l]? = some (.loop (rec (if jump.isNone then .ready else .done) jump))) (pre ++ [x]) (fun k => Sc k ∨ k = l) W (W3.putObj l (.loop (rec (if jump.isNone then .ready else .done) jump))) := by
        rintro J hA jump W3 ⟨S3, hj, hc3, hs3⟩
        have hr3 : W3.heap[l]? = some (.loop { rec .ready none with state := .busy }) := (hc3.block l hlP hnl).trans hr2
        have hn3 : ¬ S3 l := fun h => by
          rcases hs3 l h with h | h
          · exact hnl h
          · omega
        have hend := run_endRound (P := P) jump hr3
        have hc4 : Chg W3 (W3.putObj l (.loop (rec (if jump.isNone then .ready else .done) jump))) (fun k => k = l) := (Chg.of_grown (grownBy_putObj' W3 l _)).mono fun k _ h => by cases h; rfl
        refine ⟨by rw [hend, hrec], fun k => S3 k ∨ k = l, ⟨S3, rfl, hn3, hA.chg hj (hc4.mono fun k _ h => by subst h; exact ⟨hl0, hn3⟩), World.putObj_heap_same (lt_of_heap hr3)⟩, ?_, ?_⟩
        · refine ((hcw.mono (T' := fun k => Sc k ∨ k = l) fun k _ h => .inr h).trans hc3 fun k _ h => .inl h).trans hc4 fun k _ h => .inr h
        · rintro k (h | h)
          · rcases hs3 k h with h | h
            · exact .inl (.inl h)
            · exact .inr (Nat.le_trans hcw.size h)
          · exact .inl (.inr h)
      intro e a3 W3 hp
      cases e with
      | normal =>
        obtain ⟨hrun, hs⟩ := fin hI none W3 hp
        exact ⟨_, _, hrun, true, rfl, by dsimp only; rw [if_pos rfl]; exact hs⟩
      | ret =>
        obtain ⟨hrun, S3, hj, hr⟩ := fin (hIx _) (some .ret) W3 hp
        exact ⟨_, _, hrun, false, rfl, by dsimp only; rw [if_neg Bool.false_ne_true]; exact ⟨S3, ⟨_, hj⟩, hr⟩⟩
      | exit id =>
        obtain ⟨hrun, S3, hj, hr⟩ := fin (hIx _) (some (.exit id)) W3 hp
        exact ⟨_, _, hrun, false, rfl, by dsimp only; rw [if_neg Bool.false_ne_true]; exact ⟨S3, ⟨_, hj⟩, hr⟩⟩
      | goto t =>
        obtain ⟨hrun, S3, hj, hr⟩ := fin (hIx _) (some (.goto t)) W3 hp
        exact ⟨_, _, hrun, false, rfl, by dsimp only; rw [if_neg Bool.false_ne_true]; exact ⟨S3, ⟨_, hj⟩, hr⟩⟩
      | panic ch => exact hp.elim
      | outgrown => exact hp.elim
    | _ => exact hq.elim
  · rintro e W2 ⟨hv, h⟩
    refine ⟨hv, ?_⟩
    have stp : ∀ {J : List α → (Nat → Prop) → World → Prop} {ys : List α} {S2 Sc : Nat → Prop} {o : Obj}, S2 = (fun k => Sc k ∨ k = l) → J ys Sc W2 → Chg W1 W2 (fun k => S k ∨ k = l) → (∀ k, S2 k → (S k ∨ k = l) ∨ W1.heap.size ≤ k) → ¬ Sc l → W2.heap[l]? = some o → Bck J ys S l o W1 W2 := by
      intro J ys S2 Sc o e hj hc hs hnl ho
      subst e
      refine ⟨Sc, hj, hc, fun k hk => ?_, ho⟩
      rcases hs k (.inl hk) with (h | rfl) | h
      · exact .inl h
      · exact absurd hk hnl
      · exact .inr h
    rcases h with ⟨S2, ⟨Sc, he, hnl, hi, hr⟩, hc, hs⟩ | ⟨pre, x, rest, hxs, S2, ⟨c, Sc, he, hnl, hi, hr⟩, hc, hs⟩
    · exact .inl (stp he hi hc hs hnl hr)
    · exact .inr ⟨c, pre, x, rest, hxs, stp he hi hc hs hnl hr⟩

/-- The record is shut. -/
theorem Bck.shut {J : List α → (Nat → Prop) → World → Prop} {xs : List α} {S : Nat → Prop} {w W1 W2 : World} {l : Nat} {r : Loop} (hJ : Acc w.heap.size J) (hSl : ∀ k, S k → k < w.heap.size) (hl0 : w.heap.size ≤ l) (hlW : l < W1.heap.size) (hn : New w W1)
    (h : Bck J xs S l (.loop r) W1 W2) (o : Obj) : ∃ S', J xs S' (W2.putObj l o) ∧ Chg w (W2.putObj l o) S ∧ (∀ k, S' k → S k ∨ W1.heap.size ≤ k) ∧ ∀ k, k < W1.heap.size → w.heap.size ≤ k → k ≠ l → (W2.putObj l o).heap[k]? = W1.heap[k]? := by
  obtain ⟨S', hj, hc, hs, ho⟩ := h
  have hnl : ¬ S' l := fun h => by
    rcases hs l h with h | h
    · have := hSl l h; omega
    · omega
  have hc4 : Chg W2 (W2.putObj l o) (fun k => k = l) := (Chg.of_grown (grownBy_putObj' W2 l _)).mono fun k _ h => by cases h; rfl
  refine ⟨S', hJ.chg hj (hc4.mono fun k _ h => by subst h; exact ⟨hl0, hnl⟩), ?_, hs, fun k hk hk0 hne => ?_⟩
  · refine ((hn.mono (T' := S) fun k _ h => h.elim).trans hc (fun k hk h => ?_)).trans hc4 fun k hk h => ?_
    · rcases h with h | rfl
      · exact h
      · omega
    · subst h; omega
  · refine (hc4.block k (Nat.lt_of_lt_of_le hk hc.size) hne).trans (hc.block k hk ?_)
    rintro (h | h)
    · have := hSl k h; omega
    · exact hne h

/-- **An outermost range over a function.** -/
theorem wp_range {g : Operand} {Q : Exit → Act → World → Prop} {a : Act} {gf : FuncId} {lb : Array Value} {enc : α → Value → (Nat → Prop) → World → Prop} {xs : List α} {S : Nat → Prop} {w : World}
    (hg : a.eval g = .func (.func gf) #[] lb) (eg : ∀ args w, (callFunc gf args).run P w = .ok (.enter gf args) w)
    (I : List α → (Nat → Prop) → World → Prop) (Ix : Code → List α → (Nat → Prop) → World → Prop) (hI : Acc w.heap.size I) (hIx : ∀ c, Acc w.heap.size (Ix c))
    (hseq : ∀ Jx, Acc w.heap.size Jx → ItGives P gf lb enc xs S w Jx) (h0 : I [] S w)
    (henc : ∀ {x v S1 S2 W}, enc x v S1 W → (∀ k, S2 k → S1 k) → enc x v S2 W)
    (hround : ∀ l pre x rest S1 v W, xs = pre ++ x :: rest → w.heap.size ≤ l → l < W.heap.size → (∃ r, W.heap[l]? = some (.loop r)) → ¬ S1 l → I pre S1 W → enc x v S1 W → 
      assign.wpIn (Fence.wide.inRound l) 0 P (Exit.then (fun a1 Wa => New W Wa ∧ ∀ W2, Chg W W2 (fun k => k = l) → Chg Wa W2 (fun k => k = l) → (∃ r, W2.heap[l]? = some (.loop r)) → I pre S1 W2 →
        body.wpIn (Fence.wide.inRound l) 0 P (rndPost I Ix (pre ++ [x]) S1 W2) a1 W2) (fun _ _ _ => False)) { tmps := a.tmps.setIfInBounds p v, defers := [] } W)
    (hdone : ∀ D S' W, w.heap.size ≤ D → W.heap[D]? = some (.deferred (some [])) → I xs S' W → Chg w W S → (∀ k, S' k → S k ∨ w.heap.size ≤ k) → ¬ S' D → Q .normal { a with defers := { target := .collected D, args := #[] } :: a.defers } W)
    (hstop : ∀ D c pre x rest S' W, xs = pre ++ x :: rest → w.heap.size ≤ D → W.heap[D]? = some (.deferred (some [])) → Ix c (pre ++ [x]) S' W → Chg w W S → (∀ k, S' k → S k ∨ w.heap.size ≤ k) → ¬ S' D →
      c.wp P Q { a with defers := { target := .collected D, args := #[] } :: a.defers } W) :
    (Code.rangeFunc g #[p] assign body).wp P Q a w := by
  refine (wpIn_wide (n := 0)).1 ?_
  refine wpIn_rangeFunc ?_
  intro fn _
  have hSl : ∀ k, S k → k < w.heap.size := fun k hk => hI.lt h0 k hk
  obtain ⟨rec, hrec⟩ : ∃ rec : LoopState → Option Code → Loop, rec = fun st pe => { state := st, pending := pe, fn, tmps := a.tmps, params := #[p], assign, body, defers := w.heap.size } := ⟨_, rfl⟩
  obtain ⟨W1, hW1⟩ : ∃ W1, (w.alloc (.deferred (some []))).alloc (.loop (rec .ready none)) = W1 := ⟨_, rfl⟩
  have hL1 : W1.heap[w.heap.size + 1]? = some (.loop (rec .ready none)) := by
    rw [← hW1]; have := World.alloc_heap_new (w.alloc (.deferred (some []))) (.loop (rec .ready none)); rwa [World.size_alloc] at this
  have hK1 : W1.heap[w.heap.size]? = some (.deferred (some [])) := by
    rw [← hW1]; exact (Below.heap_alloc _ _ _ (by simp)).trans (World.alloc_heap_new w _)
  have hn1 : New w W1 := by rw [← hW1]; exact ((Chg.refl w _).alloc _).alloc _
  have hsz : W1.heap.size = w.heap.size + 2 := by rw [← hW1]; simp
  refine ⟨w.heap.size + 1, [{ target := .collected w.heap.size, args := #[] }], W1, { target := .fn (.func gf) lb, args := #[.func (.yield (w.heap.size + 1)) #[] #[]] }, W1, gf,
    #[.func (.yield (w.heap.size + 1)) #[] #[]] ++ lb, W1, ?_, ?_, fun _ _ => trivial, ?_, fun h => absurd h (by simp [Fence.wide, Fence.inRound]), ?_⟩
  · rw [← hW1, hrec]; exact run_enterLoop_outer _ _ _ _ _
  · simp only [resolve, hg]
    simp [go_sem]
  · simp [invoke, go_sem, eg]
  · refine (range_core hI hIx hseq h0 rec fn w.heap.size hrec (w.heap.size + 1) (by omega) hL1 hn1 henc ?_).mono ?_
    · intro pre x rest S1 v W hxs hl hlr hn hi he
      exact hround _ pre x rest S1 v W hxs (by omega) hl hlr hn hi he
    · rintro e W2 ⟨⟨v, rfl⟩, h⟩
      have tail : ∀ {J : List α → (Nat → Prop) → World → Prop} {ys : List α} {r : Loop}, Acc w.heap.size J → Bck J ys S (w.heap.size + 1) (.loop r) W1 W2 → r.state ≠ .busy →
          ∃ S' W3, (Instr.endLoop (w.heap.size + 1)).run P W2 = .ok r.pending W3 ∧ J ys S' W3 ∧ Chg w W3 S ∧ (∀ k, S' k → S k ∨ w.heap.size ≤ k) ∧ ¬ S' w.heap.size ∧ W3.heap[w.heap.size]? = some (.deferred (some [])) := by
        intro J ys r hJ hb hne
        obtain ⟨_, _, _, _, ho⟩ := id hb
        have hrun := run_endLoop (P := P) ho hne
        obtain ⟨S', hj, hc, hs, hk⟩ := hb.shut hJ hSl (by omega) (by omega) hn1 (.loop { r with state := .exhausted })
        refine ⟨S', _, hrun, hj, hc, fun k hk => ?_, fun h => ?_, (hk _ (by omega) (Nat.le_refl _) (by omega)).trans hK1⟩
        · rcases hs k hk with h | h
          · exact .inl h
          · exact .inr (by omega)
        · rcases hs _ h with h | h
          · have := hSl _ h; omega
          · omega
      rcases h with h | ⟨c, pre, x, rest, hxs, h⟩
      · obtain ⟨S', W3, hrun, hj, hc, hs, hnD, hD⟩ := tail hI h (by rw [hrec]; simp)
        rw [hrec] at hrun
        exact ⟨none, W3, hrun, hdone _ S' W3 (Nat.le_refl _) hD hj hc hs hnD⟩
      · obtain ⟨S', W3, hrun, hj, hc, hs, hnD, hD⟩ := tail (hIx c) h (by rw [hrec]; simp)
        rw [hrec] at hrun
        exact ⟨some c, W3, hrun, wpIn_wide.2 (hstop _ c pre x rest S' W3 hxs (Nat.le_refl _) hD hj hc hs hnD)⟩

/-- **A range over a function within a round of another.** -/
theorem wpIn_range {g : Operand} {Q : Exit → Act → World → Prop} {a : Act} {gf : FuncId} {lb : Array Value} {enc : α → Value → (Nat → Prop) → World → Prop} {xs : List α} {S : Nat → Prop} {w : World} {l₀ : Nat} (hl₀ : ∃ r₀, w.heap[l₀]? = some (.loop r₀))
    (hg : a.eval g = .func (.func gf) #[] lb) (eg : ∀ args w, (callFunc gf args).run P w = .ok (.enter gf args) w)
    (I : List α → (Nat → Prop) → World → Prop) (Ix : Code → List α → (Nat → Prop) → World → Prop) (hI : Acc w.heap.size I) (hIx : ∀ c, Acc w.heap.size (Ix c))
    (hseq : ∀ Jx, Acc w.heap.size Jx → ItGives P gf lb enc xs S w Jx) (h0 : I [] S w)
    (henc : ∀ {x v S1 S2 W}, enc x v S1 W → (∀ k, S2 k → S1 k) → enc x v S2 W)
    (hround : ∀ l pre x rest S1 v W, xs = pre ++ x :: rest → w.heap.size ≤ l → l < W.heap.size → (∃ r, W.heap[l]? = some (.loop r)) → ¬ S1 l → I pre S1 W → enc x v S1 W → 
      assign.wpIn (Fence.wide.inRound l) 0 P (Exit.then (fun a1 Wa => New W Wa ∧ ∀ W2, Chg W W2 (fun k => k = l) → Chg Wa W2 (fun k => k = l) → (∃ r, W2.heap[l]? = some (.loop r)) → I pre S1 W2 →
        body.wpIn (Fence.wide.inRound l) 0 P (rndPost I Ix (pre ++ [x]) S1 W2) a1 W2) (fun _ _ _ => False)) { tmps := a.tmps.setIfInBounds p v, defers := [] } W)
    (hdone : ∀ S' W, I xs S' W → Chg w W S → (∀ k, S' k → S k ∨ w.heap.size ≤ k) → Q .normal a W)
    (hstop : ∀ c pre x rest S' W, xs = pre ++ x :: rest → Ix c (pre ++ [x]) S' W → Chg w W S → (∀ k, S' k → S k ∨ w.heap.size ≤ k) → c.wpIn (Fence.wide.inRound l₀) 0 P Q a W) :
    (Code.rangeFunc g #[p] assign body).wpIn (Fence.wide.inRound l₀) 0 P Q a w := by
  obtain ⟨r₀, hr₀⟩ := hl₀
  refine wpIn_rangeFunc ?_
  intro fn _
  have hSl : ∀ k, S k → k < w.heap.size := fun k hk => hI.lt h0 k hk
  obtain ⟨rec, hrec⟩ : ∃ rec : LoopState → Option Code → Loop, rec = fun st pe => { state := st, pending := pe, fn, tmps := a.tmps, params := #[p], assign, body, defers := r₀.defers } := ⟨_, rfl⟩
  obtain ⟨W1, hW1⟩ : ∃ W1, w.alloc (.loop (rec .ready none)) = W1 := ⟨_, rfl⟩
  have hL1 : W1.heap[w.heap.size]? = some (.loop (rec .ready none)) := by rw [← hW1]; exact World.alloc_heap_new w _
  have hn1 : New w W1 := by rw [← hW1]; exact (Chg.refl w _).alloc _
  have hsz : W1.heap.size = w.heap.size + 1 := by rw [← hW1]; simp
  refine ⟨w.heap.size, [], W1, { target := .fn (.func gf) lb, args := #[.func (.yield w.heap.size) #[] #[]] }, W1, gf,
    #[.func (.yield w.heap.size) #[] #[]] ++ lb, W1, ?_, ?_, fun _ _ => trivial, ?_, fun h => absurd h (by simp [Fence.wide, Fence.inRound]), ?_⟩
  · rw [← hW1, hrec]; exact run_enterLoop_inner hr₀ _ _ _ _ _
  · simp only [resolve, hg]
    simp [go_sem]
  · simp [invoke, go_sem, eg]
  · refine CallsIn.inRound l₀ ((range_core hI hIx hseq h0 rec fn r₀.defers hrec w.heap.size (Nat.le_refl _) hL1 hn1 henc ?_).mono ?_)
    · intro pre x rest S1 v W hxs hl hlr hn hi he
      exact hround _ pre x rest S1 v W hxs (Nat.le_refl _) hl hlr hn hi he
    · rintro e W2 ⟨⟨v, rfl⟩, h⟩
      have tail : ∀ {J : List α → (Nat → Prop) → World → Prop} {ys : List α} {r : Loop}, Acc w.heap.size J → Bck J ys S w.heap.size (.loop r) W1 W2 → r.state ≠ .busy →
          ∃ S' W3, (Instr.endLoop w.heap.size).run P W2 = .ok r.pending W3 ∧ J ys S' W3 ∧ Chg w W3 S ∧ (∀ k, S' k → S k ∨ w.heap.size ≤ k) := by
        intro J ys r hJ hb hne
        obtain ⟨_, _, _, _, ho⟩ := id hb
        have hrun := run_endLoop (P := P) ho hne
        obtain ⟨S', hj, hc, hs, hk⟩ := hb.shut hJ hSl (Nat.le_refl _) (by omega) hn1 (.loop { r with state := .exhausted })
        refine ⟨S', _, hrun, hj, hc, fun k hk => ?_⟩
        rcases hs k hk with h | h
        · exact .inl h
        · exact .inr (by omega)
      rcases h with h | ⟨c, pre, x, rest, hxs, h⟩
      · obtain ⟨S', W3, hrun, hj, hc, hs⟩ := tail hI h (by rw [hrec]; simp)
        rw [hrec] at hrun
        exact ⟨none, W3, hrun, hdone S' W3 hj hc hs⟩
      · obtain ⟨S', W3, hrun, hj, hc, hs⟩ := tail (hIx c) h (by rw [hrec]; simp)
        rw [hrec] at hrun
        exact ⟨some c, W3, hrun, hstop c pre x rest S' W3 hxs hj hc hs⟩
end core
end Go.Proofs.Ytfocjfnkcabbgaa

set_option linter.unusedVariables false
set_option linter.unusedSimpArgs false
namespace Go.Proofs.Ytfocjfnkcabbgaa
open Go.RowKit Go.Shelf

/-- The wide fence, or a round within it. -/
def Wd (F : Fence) : Prop := F = Fence.wide ∨ ∃ l, F = Fence.wide.inRound l
theorem Wd.wide : Wd Fence.wide := .inl rfl
theorem Wd.round (l : Nat) : Wd (Fence.wide.inRound l) := .inr ⟨l, rfl⟩
theorem Wd.fn {F : Fence} (h : Wd F) (f : FuncId) : F.fn f := by rcases h with rfl | ⟨l, rfl⟩ <;> trivial
theorem Wd.depth {F : Fence} (h : Wd F) (n : Nat) : F.depth.isSome = true → 1 ≤ n := by rcases h with rfl | ⟨l, rfl⟩ <;> intro h <;> cases h
theorem Wd.calls {F : Fence} (h : Wd F) {n : Nat} {P : Program} {f : FuncId} {args : Array Value} {w : World} {R : Ending → World → Prop} (hc : Calls P f args w R) : CallsIn F n P f args w R := by
  rcases h with rfl | ⟨l, rfl⟩
  · exact callsIn_wide.2 hc
  · exact CallsIn.inRound l (callsIn_wide.2 hc)
theorem Wd.rows {F : Fence} (h : Wd F) {n : Nat} {P : Program} {row : String} {args : Array Value} {w : World} {R : Value → World → Prop} (hc : Rows P row args w R) : RowsIn F n P row args w R := by
  have h0 : RowsIn Fence.wide n P row args w R := fun c cs _ => let ⟨v, w', r, s⟩ := hc c cs; ⟨v, w', r, stepsIn_wide.2 s⟩
  rcases h with rfl | ⟨l, rfl⟩
  · exact h0
  · exact h0
theorem Wd.roundIn {F : Fence} (h : Wd F) {n : Nat} {P : Program} {l : Nat} {f : FuncId} {tmps : Array Value} {assign body : Code} {w : World} {R : Ending → World → Prop} (hc : RoundIn Fence.wide n P l f tmps assign body w R) : RoundIn F n P l f tmps assign body w R := by
  rcases h with rfl | ⟨l, rfl⟩
  · exact hc
  · exact hc

def noDefer (l : List Oper) : Bool := l.all fun o => match o.op with | .defer _ => false | _ => true

section
variable {F : Fence} {n : Nat} {P : Program} {ops : Array Oper} {Q : Exit → Act → World → Prop} {rest : List Oper}
theorem liftL (hF : Wd F) : ∀ (l : List Oper), noDefer l = true → ∀ (a : Act) (w : World), wpList P ops (Exit.then (fun a w => wpListIn F n P ops Q rest a w) (fun _ _ _ => False)) l a w → wpListIn F n P ops Q (l ++ rest) a w
  | [], _, a, w, h => h
  | o :: l, hd, a, w, h => by
    have hd' : noDefer l = true := by unfold noDefer at hd ⊢; rw [List.all_cons, Bool.and_eq_true] at hd; exact hd.2
    have hdo : ∀ c, o.op ≠ .defer c := by
      unfold noDefer at hd
      rw [List.all_cons, Bool.and_eq_true] at hd
      intro c hc
      rw [hc] at hd
      exact absurd hd.1 (by simp)
    have ih := fun a w => liftL hF l hd' a w
    show wpListIn F n P ops Q (o :: (l ++ rest)) a w
    unfold wpListIn
    unfold wpList at h
    by_cases hw : Region.wanted o (yielded ops a.tmps) = true
    · rw [if_pos hw] at h ⊢
      have h1 : o.wp P a w (wpList P ops (Exit.then (fun a w => wpListIn F n P ops Q rest a w) (fun _ _ _ => False)) l) (Exit.then (fun a w => wpListIn F n P ops Q rest a w) (fun _ _ _ => False)) := by
        rcases h with h | ⟨_, ⟨_, _, h⟩⟩
        · exact h
        · exact h.elim
      refine ⟨fun f _ => hF.fn f, ?_⟩
      rw [Oper.semAt_plain F _ _ hdo]
      unfold Oper.wp at h1
      generalize (execOp a.eval o).run P w = r at h1 ⊢
      match r, h1 with
      | .ok (.value v) w', h1 => exact ih _ _ h1
      | .ok .skip w', h1 => exact ih _ _ h1
      | .ok (.defer d) w', h1 => exact ih _ _ h1
      | .ok (.enter f args) w', h1 =>
        refine ⟨hF.depth n, hF.calls (Calls.mono h1 ?_)⟩
        intro e w'' he
        cases e with
        | returned v => exact ih _ _ he
        | panicked c => exact he.elim
        | outgrown => obtain ⟨_, _, he⟩ := he; exact he.elim
      | .ok (.row row args) w', h1 => exact ⟨hF.depth n, hF.rows (Rows.mono h1 fun v w'' he => ih _ _ he)⟩
      | .halt (.panic v) w', h1 => exact h1.elim
    · rw [if_neg hw] at h ⊢
      exact ⟨fun f _ => hF.fn f, ih _ _ h⟩
/-- The first k operations by the plain walk. -/
theorem liftK (hF : Wd F) (k : Nat) {l : List Oper} {a : Act} {w : World} (hd : noDefer (l.take k) = true) (h : wpList P ops (Exit.then (fun a w => wpListIn F n P ops Q (l.drop k) a w) (fun _ _ _ => False)) (l.take k) a w) : wpListIn F n P ops Q l a w := by
  have := liftL hF (l.take k) hd a w h
  rwa [List.take_append_drop] at this
/-- A call of yield. -/
theorem wplI_yield (hF : Wd F) {o : Oper} {a : Act} {w : World} {l : Nat} {v : Value} {R : Bool → World → Prop} (hw : Region.wanted o (yielded ops a.tmps) = true) (x y : Operand) (t : TypeId) (ho : o.op = .call { callee := .value x, args := #[y], argTypes := #[t] })
    (hx : a.eval x = .func (.yield l) #[] #[]) (hy : a.eval y = v) (hY : Yld P l v w R) (h : ∀ b W', R b W' → wpListIn F n P ops Q rest (a.put o.dst (.bool b)) W') : wpListIn F n P ops Q (o :: rest) a w := by
  unfold wpListIn
  rw [if_pos hw]
  refine ⟨fun f _ => hF.fn f, ?_⟩
  rw [Oper.semAt_plain F _ _ (by rw [ho]; intro c hc; cases hc)]
  obtain ⟨fn, tmps, assign, body, hrun, hR⟩ := hY (n - 1)
  have hr : (execOp a.eval o).run P w = .ok (.round l fn tmps assign body) w := by
    unfold execOp
    simp [ho, resolve, invoke, hx, hy, Deferred.ofValue, hrun]
  rw [hr]
  refine ⟨hF.depth n, hF.roundIn (hR.mono ?_)⟩
  rintro e W' ⟨b, rfl, hb⟩
  exact h b W' hb
end
end Go.Proofs.Ytfocjfnkcabbgaa

set_option linter.unusedVariables false
set_option linter.unusedSimpArgs false
namespace Go.Proofs.Ytfocjfnkcabbgaa
open Go.RowKit Go.Shelf

/-- On the way: what is bound, the stamp. -/
abbrev Sta := Env × Int
inductive Lt where
  | atom (neg : Bool) (name : ByteArray) (args : List Tm)
  | test (j : Nat) (a b : Tm)
  | assign (name : ByteArray) (t : Tm)
def Lt.args : Lt → List Tm
  | .atom _ _ ts => ts
  | .test _ a b => [a, b]
  | .assign _ t => [t]
def Lt.kind : Lt → Int
  | .atom false _ _ => 1
  | .atom true _ _ => 2
  | .test _ _ _ => 3
  | .assign _ _ => 4
def Lt.name : Lt → ByteArray
  | .atom _ s _ => s
  | .test j _ _ => opT j
  | .assign s _ => s
def Lt.size (L : Lt) : Nat := L.args.length
def okLt (L : Lt) : Prop := ∀ t ∈ L.args, okTm t
def minI (a b : Int) : Int := if a ≤ b then a else b

def named (rows : List Rw) (s : ByteArray) : List Rw := rows.filter (fun r => decide (r.name = s))
def atomS (ts : List Tm) (s : Sta) (r : Rw) : Option Sta := (matchV ts r.args s.1).map (fun e => (e, minI s.2 r.stamp))
def atomsV (rows : List Rw) (nm : ByteArray) (ts : List Tm) (s : Sta) : List Sta := (named rows nm).filterMap (atomS ts s)
def goesV (rows : List Rw) (L : Lt) (s : Sta) : Option Sta := match L with
  | .atom _ nm ts => if (atomsV rows nm ts s).isEmpty then some s else none
  | .test j a b => match evalT s.1 a, evalT s.1 b with
    | some x, some y => if testV j x y then some s else none
    | _, _ => none
  | .assign nm t => match evalT s.1 t with
    | some x => if (lookE s.1 nm).isSome then none else some (s.1 ++ [(nm, x)], s.2)
    | none => none
def nextV (rows : List Rw) (L : Lt) (s : Sta) : List Sta := match L with
  | .atom false nm ts => atomsV rows nm ts s
  | L => (goesV rows L s).toList
def waysV (rows : List Rw) : List Lt → Sta → List Sta
  | [], s => [s]
  | L :: Ls, s => (nextV rows L s).flatMap (waysV rows Ls)
def okSta (s : Sta) : Prop := okEnv s.1 ∧ -9223372036854775808 ≤ s.2 ∧ s.2 ≤ 9223372036854775807

/-- A state as a value: its block is not among S. -/
def StAt (x : Sta) (v : Value) (S : Nat → Prop) (W : World) : Prop := ∃ A c, v = .agg #[.slice A x.1.length c, .int .i64 x.2] ∧ x.1.length ≤ c ∧ c ≤ maxLen ∧ SrcAt W A 5 (x.1.map bcs) ∧ ∀ a, A = some a → a.block < W.heap.size ∧ ¬ S a.block
theorem StAt.less {x : Sta} {v : Value} {S S2 : Nat → Prop} {W : World} (h : StAt x v S W) (hs : ∀ k, S2 k → S k) : StAt x v S2 W := by
  obtain ⟨A, c, h1, h2, h3, h4, h5⟩ := h
  exact ⟨A, c, h1, h2, h3, h4, fun a ha => ⟨(h5 a ha).1, fun h => (h5 a ha).2 (hs _ h)⟩⟩
theorem StAt.chg {x : Sta} {v : Value} {S S2 : Nat → Prop} {W W' : World} (h : StAt x v S W) (hc : Chg W W' S) (hs : ∀ k, S2 k → S k ∨ W.heap.size ≤ k) : StAt x v S2 W' := by
  obtain ⟨A, c, h1, h2, h3, h4, h5⟩ := h
  refine ⟨A, c, h1, h2, h3, h4.chg hc (fun a ha => (h5 a ha).2), fun a ha => ⟨Nat.lt_of_lt_of_le (h5 a ha).1 hc.size, fun h => ?_⟩⟩
  rcases hs _ h with h | h
  · exact (h5 a ha).2 h
  · have := (h5 a ha).1; omega
theorem StAt.new {x : Sta} {v : Value} {S : Nat → Prop} {W W' : World} (h : StAt x v S W) (hc : New W W') : StAt x v S W' := by
  obtain ⟨A, c, h1, h2, h3, h4, h5⟩ := h
  exact ⟨A, c, h1, h2, h3, h4.chg hc (fun a ha => id), fun a ha => ⟨Nat.lt_of_lt_of_le (h5 a ha).1 hc.size, (h5 a ha).2⟩⟩
theorem StAt.cells {x : Sta} {v : Value} {S : Nat → Prop} {W : World} (h : StAt x v S W) : ∃ A c, v = .agg #[.slice A x.1.length c, .int .i64 x.2] := by
  obtain ⟨A, c, h1, _⟩ := h
  exact ⟨A, c, h1⟩

/-- A literal's cells. -/
def LtAt (w : World) (cs : List Value) (L : Lt) : Prop := ∃ A c css, cs = [.int .i64 L.kind, .string L.name, .slice A L.args.length c] ∧ TmsAt w A css L.args
theorem LtAt.chg {w w' : World} {cs : List Value} {L : Lt} (h : LtAt w cs L) (hc : New w w') : LtAt w' cs L := by
  obtain ⟨A, c, css, h1, h2⟩ := h
  exact ⟨A, c, css, h1, h2.chg hc⟩

/-- A map from names. -/
def MapAt (w : World) (b : Nat) (m : List (ByteArray × Value)) : Prop := ∃ es clock, w.heap[b]? = some (.map es clock) ∧ es.toList.map (fun e => (e.key, e.val)) = m.map (fun p => (Value.string p.1, p.2))
theorem MapAt.chg {w w' : World} {b : Nat} {m : List (ByteArray × Value)} {T : Nat → Prop} (h : MapAt w b m) (hc : Chg w w' T) (hn : ¬ T b) : MapAt w' b m := by
  obtain ⟨es, cl, h1, h2⟩ := h
  exact ⟨es, cl, (hc.block b (lt_of_heap h1) hn).trans h1, h2⟩
def lookM (m : List (ByteArray × Value)) (s : ByteArray) : Value := match m.find? (fun p => decide (p.1 = s)) with
  | some p => p.2
  | none => .slice none 0 0
theorem beqB (a b : ByteArray) : (a == b) = decide (a = b) := by
  by_cases h : a = b
  · subst h; rw [decide_eq_true rfl]; show (a.data == a.data) = true; exact beq_self_eq_true _
  · rw [decide_eq_false h]; show (a.data == b.data) = false; exact beq_eq_false_iff_ne.2 (fun e => h (ByteArray.ext e))
theorem find_now (s : ByteArray) : ∀ (es : List MapEntry) (m : List (ByteArray × Value)) (i : Nat), es.map (fun e => (e.key, e.val)) = m.map (fun p => (Value.string p.1, p.2)) →
    ∃ r, Instr.findNow .string (.string s) es i = some r ∧ (∀ p, m.find? (fun p => decide (p.1 = s)) = some p → ∃ j, r = some (j, p.2)) ∧ (m.find? (fun p => decide (p.1 = s)) = none → r = none)
  | [], [], i, h => ⟨none, rfl, fun p h => (by cases h), fun _ => rfl⟩
  | [], p :: m, i, h => by cases h
  | e :: es, [], i, h => by cases h
  | e :: es, p :: m, i, h => by
    simp only [List.map_cons, List.cons.injEq, Prod.mk.injEq] at h
    obtain ⟨⟨hk, hv⟩, ht⟩ := h
    obtain ⟨r, h1, h2, h3⟩ := find_now s es m (i + 1) ht
    unfold Instr.findNow
    rw [hk]
    simp only [Instr.sameNow]
    by_cases hs : p.1 = s
    · rw [show (s == p.1) = true by rw [beqB, hs]; exact decide_eq_true rfl]
      refine ⟨some (i, e.val), rfl, fun q hq => ?_, fun hq => ?_⟩
      · rw [List.find?_cons_of_pos (by simpa using hs)] at hq
        cases hq
        exact ⟨i, by rw [hv]⟩
      · rw [List.find?_cons_of_pos (by simpa using hs)] at hq
        cases hq
    · rw [show (s == p.1) = false by rw [beqB]; exact decide_eq_false (fun h => hs h.symm)]
      refine ⟨r, h1, fun q hq => ?_, fun hq => ?_⟩
      · rw [List.find?_cons_of_neg (by simpa using hs)] at hq
        exact h2 q hq
      · rw [List.find?_cons_of_neg (by simpa using hs)] at hq
        exact h3 hq
theorem run_lookM {w : World} {b : Nat} {m : List (ByteArray × Value)} (h : MapAt w b m) (s : ByteArray) : (Instr.lookup 60 (.map (some b)) (.string s) false).run Try.prog w = .ok (lookM m s) w := by
  obtain ⟨es, cl, hb, hm⟩ := h
  obtain ⟨r, h1, h2, h3⟩ := find_now s es.toList m 0 hm
  have hz : (zeroValue 29).run Try.prog w = .ok (.slice none 0 0) w := by
    have hi : (Try.prog.info? 29).map (fun i => i.zero) = some (some (.slice none 0 0)) := by kernel_rfl
    cases hq : Try.prog.info? 29 with
    | none => rw [hq] at hi; cases hi
    | some i =>
      rw [hq] at hi
      have hi' : i.zero = some (.slice none 0 0) := Option.some.inj hi
      simp [zeroValue, typeInfo, hq, hi']
  have ht := Try.underlying60
  have hk := Try.underlying9
  generalize Try.prog = P at ht hk hz ⊢
  have hck : ∀ e, (Instr.checkKey e 10000 9 (.string s)).run P w = .ok () w := fun e => by
    rw [show (10000 : Nat) = 9999 + 1 from rfl]
    unfold Instr.checkKey
    simp [underlying, hk]
  have hgo : (getObj b).run P w = .ok (.map es cl) w := by simp [getObj, Sem.run, hb]
  unfold Instr.lookup
  cases hf : m.find? (fun p => decide (p.1 = s)) with
  | none =>
    obtain rfl := h3 hf
    simp [underlying, ht, hk, hck, hgo, Instr.findKey, h1, hb, lookM, hf, hz]
  | some p =>
    obtain ⟨j, rfl⟩ := h2 p hf
    simp [underlying, ht, hk, hck, hgo, Instr.findKey, h1, hb, lookM, hf]
theorem zero_of {P : Program} {e : TypeId} {z : Value} {k : Nat} (h : (P.info? e).map (fun i => i.zero) = some (some z)) (hk : z.cells.size = k) : ∃ i z, P.info? e = some i ∧ i.zero = some z ∧ z.cells.size = k := by
  cases hi : P.info? e with
  | none => rw [hi] at h; cases h
  | some i =>
    rw [hi] at h
    exact ⟨i, z, rfl, Option.some.inj h, hk⟩
theorem stSta : StT Try.prog 66 2 := ⟨⟨_, Try.underlying66⟩, by kernel_rfl⟩
theorem zSta : ∃ i z, Try.prog.info? 66 = some i ∧ i.zero = some z ∧ z.cells.size = 2 := zero_of (z := .agg #[.slice none 0 0, .int .i64 0]) (by kernel_rfl) rfl
theorem stLit : StT Try.prog 43 3 := ⟨⟨_, Try.underlying43⟩, by kernel_rfl⟩
theorem zLit : ∃ i z, Try.prog.info? 43 = some i ∧ i.zero = some z ∧ z.cells.size = 3 := zero_of (z := .agg #[.int .i64 0, .string ⟨#[]⟩, .slice none 0 0]) (by kernel_rfl) rfl
theorem zRow : ∃ i z, Try.prog.info? 45 = some i ∧ i.zero = some z ∧ z.cells.size = 3 := zero_of (z := .agg #[.string ⟨#[]⟩, .slice none 0 0, .int .i64 0]) (by kernel_rfl) rfl
theorem sta_one (A : Option Addr) (n c : Nat) (i : Int) : ∀ u ∈ [Value.slice A n c, .int .i64 i], u.oneCell' = true := by
  intro u hu
  simp only [List.mem_cons, List.not_mem_nil, or_false] at hu
  rcases hu with rfl | rfl <;> rfl
theorem two_one {a b : Value} (ha : a.oneCell' = true) (hb : b.oneCell' = true) : ∀ u ∈ [a, b], u.oneCell' = true := by
  intro u hu
  simp only [List.mem_cons, List.not_mem_nil, or_false] at hu
  rcases hu with rfl | rfl
  · exact ha
  · exact hb
theorem filterMap_at {α β : Type} {f : α → Option β} {l : List α} {k : Nat} {r : α} {x : β} (hr : l[k]? = some r) (hx : f r = some x) : l.filterMap f = (l.take k).filterMap f ++ x :: (l.drop (k + 1)).filterMap f := by
  obtain ⟨hlt, he⟩ := List.getElem?_eq_some_iff.1 hr
  have h : l = l.take k ++ r :: l.drop (k + 1) := by
    rw [← he, List.getElem_cons_drop, List.take_append_drop]
  conv => lhs; rw [h]
  rw [List.filterMap_append, List.filterMap_cons_some hx]
theorem filterMap_take_some {α β : Type} {f : α → Option β} {l : List α} {k : Nat} {r : α} {x : β} (hr : l[k]? = some r) (hx : f r = some x) : (l.take (k + 1)).filterMap f = (l.take k).filterMap f ++ [x] := by
  rw [take_succ_get hr, List.filterMap_append, List.filterMap_cons_some hx]
  rfl
theorem filterMap_take_none {α β : Type} {f : α → Option β} {l : List α} {k : Nat} {r : α} (hr : l[k]? = some r) (hx : f r = none) : (l.take (k + 1)).filterMap f = (l.take k).filterMap f := by
  rw [take_succ_get hr, List.filterMap_append, List.filterMap_cons_none hx]
  simp
/-- The consumer steps on. -/
theorem Stp.then {α : Type} {J' : List α → (Nat → Prop) → World → Prop} {ys : List α} {S S1 : Nat → Prop} {W W1 W2 W3 : World} (hc : Chg W W1 S) (hs : ∀ k, S1 k → S k ∨ W.heap.size ≤ k) (hn : New W1 W2) (h : Stp J' ys S1 W2 W3) : Stp J' ys S W W3 :=
  Stp.trans (hc.trans hn (fun _ _ h => h.elim)) hs h
/-- What goes leaves. -/
def GoesPost (W : World) (S : Nat → Prop) (o : Option Sta) (e : Ending) (W' : World) : Prop :=
  New W W' ∧ ((o = none ∧ ∃ a b, a.oneCell' = true ∧ b.oneCell' = true ∧ e = .returned (.tuple #[.agg #[a, b], .bool false])) ∨ ∃ x v, o = some x ∧ e = .returned (.tuple #[v, .bool true]) ∧ StAt x v S W')
end Go.Proofs.Ytfocjfnkcabbgaa

set_option linter.unusedVariables false
set_option linter.unusedSimpArgs false
namespace Go.Proofs.Ytfocjfnkcabbgaa
open Go.RowKit Go.Shelf
attribute [local go_sem] Oper.semAt_some

set_option maxHeartbeats 2000000 in
set_option maxRecDepth 100000 in
theorem g43 (w : World) (S : Nat → Prop) (Jx : List Sta → (Nat → Prop) → World → Prop) (b1 b2 b3 : Nat) (mv l1 l2 l3 s1 s2 : Value) (o : Option Sta)
    (h1 : w.cell? ⟨b1, 0, none⟩ = some mv) (n1 : ¬ S b1) (h2 : At w ⟨b2, 0, none⟩ [l1, l2, l3]) (n2 : ¬ S b2) (h3 : At w ⟨b3, 0, none⟩ [s1, s2]) (n3 : ¬ S b3)
    (hg : ∀ W S1, Chg w W S → (∀ k, S1 k → k < W.heap.size) → (∀ k, S1 k → S k ∨ w.heap.size ≤ k) → Calls Try.prog 39 #[mv, .agg #[l1, l2, l3], .agg #[s1, s2]] W (GoesPost W S1 o)) :
    ItGives Try.prog 38 #[.pointer (some ⟨b1, 0, none⟩), .pointer (some ⟨b2, 0, none⟩), .pointer (some ⟨b3, 0, none⟩)] StAt o.toList S w Jx := by
  intro l J S' W hA hJ hc hS hy
  have hlt := fun k hk => hA.lt hJ k hk
  have hg' := hg W S' hc hlt hS
  have c1 := hc.cellS h1 n1
  have c2 := h2.chg hc n2
  have c3 := h3.chg hc n3
  have HG := Lib.hid hg'
  have C1 := Lib.hid c1
  have C2 := Lib.hid c2
  have C3 := Lib.hid c3
  have HY := Lib.hid hy
  have HA := Lib.hid hA
  have HJ := Lib.hid hJ
  clear hg hg' h1 h2 h3 c2 c3 hy hA hJ
  refine callsIn_of_wp Try.func38 rfl trivial ?_ rfl
  refine wpIn_wide.2 ?_
  simp only [Try.ntmps38, List.size_toArray, List.length_cons, List.length_nil, Nat.reduceAdd, Nat.reduceSub, Array.replicate_succ, Array.replicate_zero, List.push_toArray, List.append_toArray, List.nil_append, List.cons_append]
  have o1 : ∀ u ∈ [l1, l2, l3], True := fun _ _ => trivial
  cases o with
  | none =>
    go_wp2_with first
      | ((with_reducible refine wpl_load rfl (.tmp 2) 43 rfl stLit ⟨b2, 0, none⟩ [l1, l2, l3] ?_ rfl C2.out ?_); exact rfl)
      | ((with_reducible refine wpl_load rfl (.tmp 3) 66 rfl stSta ⟨b3, 0, none⟩ [s1, s2] ?_ rfl C3.out ?_); exact rfl)
      | (go_at_call 39; refine HG.out.mono ?_; rintro e w2 ⟨hc2, ⟨_, a, b, ha, hb, rfl⟩ | ⟨x, v, hx, _⟩⟩; (rotate_left; cases hx); have HC2 := Lib.hid hc2; have Ha := Lib.hid ha; have Hb := Lib.hid hb; clear hc2 ha hb)
      | ((with_reducible refine wpl_box rfl rfl 5 (.tmp 12) 66 rfl rfl rfl rfl stSta zSta [a, b] ?_ ?_ rfl (two_one Ha.out Hb.out) ?_); exact (by decide : 5 < 18); exact rfl; intro w4 hc4 hb4 hs4; have HC4 := Lib.hid (HC2.out.trans hc4 (fun _ _ x => x)); clear hc4 hb4 hs4)
    go_end0
    exact ⟨⟨_, rfl⟩, .inl ⟨S', HA.out.chg HJ.out (HC4.out.mono fun _ _ h => h.elim), HC4.out.mono (fun _ _ h => h.elim), fun k hk => .inl hk⟩⟩
  | some x =>
    go_upto_region 2 with first
      | ((with_reducible refine wpl_load rfl (.tmp 2) 43 rfl stLit ⟨b2, 0, none⟩ [l1, l2, l3] ?_ rfl C2.out ?_); exact rfl)
      | ((with_reducible refine wpl_load rfl (.tmp 3) 66 rfl stSta ⟨b3, 0, none⟩ [s1, s2] ?_ rfl C3.out ?_); exact rfl)
      | (go_at_call 39; refine HG.out.mono ?_; rintro e w2 ⟨hc2, ⟨hx, _⟩ | ⟨y, v, hx, rfl, hst⟩⟩; (cases hx); obtain rfl : x = y := Option.some.inj hx; clear hx; obtain ⟨A, c, rfl⟩ := hst.cells; have HC2 := Lib.hid hc2; have HSt := Lib.hid hst; clear hc2 hst)
      | ((with_reducible refine wpl_box rfl rfl 5 (.tmp 12) 66 rfl rfl rfl rfl stSta zSta [.slice A x.1.length c, .int .i64 x.2] ?_ ?_ rfl (sta_one A x.1.length c x.2) ?_); exact (by decide : 5 < 18); exact rfl; intro w4 hc4 hb4 hs4; have HC4 := Lib.hid (HC2.out.trans hc4 (fun _ _ x => x)); have HS4 := Lib.hid (HSt.out.new hc4); have HB4 := Lib.hid (Blk.at_ (cs := [.slice A x.1.length c, .int .i64 x.2]) hb4); clear hc4 hb4 hs4)
    have hJ4 : J [] S' w4 := HA.out.chg HJ.out (HC4.out.mono fun _ _ h => h.elim)
    have hyl := HY.out [] x [] S' _ w4 rfl hJ4 HS4.out
    refine (wpIn_wide (n := 0)).1 ?_
    refine wpIn_region_lit ?_
    refine liftK Wd.wide 2 (by rfl) ?_
    change wpList _ _ _ [_, _] _ _
    go_wp2_with ((with_reducible refine wpl_load rfl (.tmp 5) 66 rfl stSta ⟨w2.heap.size, 0, none⟩ [.slice A x.1.length c, .int .i64 x.2] ?_ rfl HB4.out ?_); exact rfl)
    change wpListIn _ _ _ _ _ [_] _ _
    refine wplI_yield Wd.wide rfl (.tmp 15) (.tmp 16) 66 rfl rfl rfl hyl ?_
    rintro b W2 hb
    refine wpListIn_nil ?_
    go_end0
    refine ⟨⟨_, rfl⟩, ?_⟩
    cases b with
    | true =>
      rw [if_pos rfl] at hb
      exact .inl (Stp.trans (HC4.out.mono fun _ _ h => h.elim) (fun k hk => .inl hk) hb)
    | false =>
      rw [if_neg Bool.false_ne_true] at hb
      exact .inr ⟨[], x, [], rfl, Stp.trans (HC4.out.mono fun _ _ h => h.elim) (fun k hk => .inl hk) hb⟩
end Go.Proofs.Ytfocjfnkcabbgaa
