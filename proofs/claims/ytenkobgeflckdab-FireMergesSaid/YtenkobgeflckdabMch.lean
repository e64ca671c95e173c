/- bind.Match. -/
import Derived.Test.YtenkobgeflckdabBou
set_option linter.unusedVariables false
set_option linter.unusedSimpArgs false
namespace Go.Proofs.Ytenkobgeflckdab
open Go.RowKit Go.Shelf

/-- What is there already is written: nothing changes. -/
theorem New.same {w : World} {g : Nat} {t : TypeId} {cur : Array Value} (h : Blk w g t cur) : New w (w.setRow g cur) :=
  ⟨rfl, rfl, rfl, by simp, fun k _ _ => by
    by_cases hk : k = g
    · subst hk
      exact (h.set cur).trans h.symm
    · exact setRow_other w g k cur hk⟩
/-- One's own row lies in a block. -/
theorem Own.blk {w : World} {b : Nat} {e : TypeId} {k : Nat} {v : Value} {css : List (List Value)} (h : Own w b e k v css) (hp : 0 < css.length) : ∃ g cap cur, v = .slice (some ⟨g, 0, none⟩) css.length cap ∧ b ≤ g ∧ Blk w g e cur ∧ css.length * k ≤ cur.size ∧
    ∀ (i : Nat) (cs : List Value), css[i]? = some cs → ∀ (j : Nat) (u : Value), cs[j]? = some u → cur[i * k + j]? = some u := by
  obtain ⟨hh, hk⟩ := h
  have h1 := hh.2
  rcases h1 with ⟨h3, h4⟩ | ⟨g, cap, cur, rfl, hb, hg, hn, hm, hs, ht⟩
  · omega
  · refine ⟨g, cap, cur, rfl, hb, hg, by rw [hs]; exact Nat.mul_le_mul_right _ hn, fun i cs hi j u hj => ?_⟩
    have hf := flatten_get hk hi hj
    rw [← ht, List.getElem?_take] at hf
    split at hf
    · simpa using hf
    · cases hf

def matchV (ts : List Tm) (vs : List Vl) (env : Env) : Option Env :=
  if ts.length = vs.length then (if (ts.zip vs).all (fun p => isV (envK env ts vs ts.length) p.1 p.2) then some (envK env ts vs ts.length) else none) else none
def MatchPost (w : World) (r : Option Env) (e : Ending) (w' : World) : Prop :=
  New w w' ∧ ((r = none ∧ e = .returned (.tuple #[.slice none 0 0, .bool false])) ∨ ∃ s v, r = some s ∧ e = .returned (.tuple #[v, .bool true]) ∧ Own w' w.heap.size 101 5 v (s.map bcs))
theorem all_take {α : Type} {l : List α} {p : α → Bool} {k : Nat} {x : α} (h : (l.take k).all p = true) (hx : l[k]? = some x) (hp : p x = true) : (l.take (k + 1)).all p = true := by
  rw [take_succ_get hx, List.all_append, h]
  simp [hp]
theorem all_no {α : Type} {l : List α} {p : α → Bool} {k : Nat} {x : α} (hx : l[k]? = some x) (hp : p x = false) : l.all p = false := by
  rw [List.all_eq_false]
  exact ⟨x, List.mem_of_getElem? hx, by rw [hp]; simp⟩

set_option maxHeartbeats 4000000 in
set_option maxRecDepth 100000 in
theorem match_env (w : World) (A : Option Addr) (n c : Nat) (css : List (List Value)) (ts : List Tm) (hn : n = ts.length) (hts : TmsAt w A css ts) (hokt : ∀ t ∈ ts, okTm t)
    (Av : Option Addr) (nv cv : Nat) (vs : List Vl) (hnv : nv = vs.length) (hvs : SrcAt w Av 4 (vs.map vcs)) (hokv : ∀ v ∈ vs, okW v)
    (Ae : Option Addr) (ne ce : Nat) (env : Env) (hne : ne = env.length) (hes : SrcAt w Ae 5 (env.map bcs)) (hea : ∀ a, Ae = some a → a.block < w.heap.size) (hok : okEnv env) (hm : env.length + ts.length ≤ 1000) (hmv : nv ≤ maxLen) :
    Calls Try.prog 50 #[.slice A n c, .slice Av nv cv, .slice Ae ne ce] w (MatchPost w (matchV ts vs env)) := by
  unfold maxLen at hmv
  by_cases hl : n = nv
  · subst hl
    have hcl := cloneBind w Ae ne ce (env.map bcs) (by rw [List.length_map]; exact hne) hes hea (bcs_one env) (by omega)
    obtain ⟨s, hs⟩ : ∃ s, envK env ts vs n = s := ⟨_, rfl⟩
    have hsl : s.length ≤ 1000 := by rw [← hs]; have := envK_len env ts vs n; omega
    have hsok : okEnv s := by rw [← hs]; exact envK_ok hok hokv n
    have hbd := fun w1 u0 (h1 : New w w1) (h2 : Own w1 w.heap.size 101 5 u0 (env.map bcs)) => bound_env w w1 h1 u0 env h2 A n c css ts hn hts Av cv vs hnv hvs (by omega) hok
    rw [hs] at hbd
    have hr1 : (ts.zip vs).all (fun p => isV s p.1 p.2) = true → matchV ts vs env = some s := fun h => by
      unfold matchV
      rw [← hn, hs, if_pos hnv, if_pos h]
    have hr0 : (ts.zip vs).all (fun p => isV s p.1 p.2) = false → matchV ts vs env = none := fun h => by
      unfold matchV
      rw [← hn, hs, if_pos hnv, if_neg (by rw [h]; exact Bool.false_ne_true)]
    have HN := Lib.hid hn
    have HNv := Lib.hid hnv
    have Hts := Lib.hid hts
    have Hvs := Lib.hid hvs
    have Hcl := Lib.hid hcl
    have Hbd := Lib.hid hbd
    have HR1 := Lib.hid hr1
    have HR0 := Lib.hid hr0
    have Hsok := Lib.hid hsok
    have Hokt := Lib.hid hokt
    clear hn hnv hts hvs hcl hbd hr1 hr0 hsok hokt hok hokv hea hes hne hs
    go_enter Try.func50, Try.ntmps50
    go_wp2_with first
      | (go_at_call 58; refine Hcl.out.mono ?_; rintro e w1 ⟨u0, rfl, hown1, hc1⟩; have HO1 := Lib.hid hown1; have HC1 := Lib.hid hc1; clear hown1 hc1)
      | (go_at_call 59; refine (Hbd.out _ _ HC1.out HO1.out).mono ?_; rintro e w2 ⟨u1, rfl, hown2, hc2⟩; have HO2 := Lib.hid hown2; have HC2 := Lib.hid hc2; clear hown2 hc2)
    clear Hcl Hbd HC1 HO1
    obtain ⟨As, cs0, rfl, _, _⟩ := HO2.out.form
    rw [List.length_map] at HO2 ⊢
    go_loopw [24] (fun u24 wr => ∃ (k : Nat), k ≤ n ∧ u24 = .int .i64 k ∧ ((ts.zip vs).take k).all (fun p => isV s p.1 p.2) = true ∧ New w2 wr) (fun u _ => n - (intOf u).toNat)
    case atStart => exact ⟨0, Nat.zero_le _, rfl, rfl, Chg.refl _ _⟩
    case round =>
      obtain ⟨k, hk, rfl, hall, hN⟩ := hrel
      have Hall := Lib.hid hall
      have HNw := Lib.hid hN
      clear hall hN
      by_cases hlt : k < n
      · obtain ⟨t, ht⟩ : ∃ t, ts[k]? = some t := ⟨_, List.getElem?_eq_getElem (by rw [← HN.out]; exact hlt)⟩
        obtain ⟨v, hv⟩ : ∃ v, vs[k]? = some v := ⟨_, List.getElem?_eq_getElem (by rw [← HNv.out]; exact hlt)⟩
        obtain ⟨cs, hcs⟩ : ∃ cs, css[k]? = some cs := ⟨_, List.getElem?_eq_getElem (by rw [Hts.out.len, ← HN.out]; exact hlt)⟩
        obtain ⟨ad, rfl, hrw⟩ := Hts.out.src (by rw [Hts.out.len, ← HN.out]; omega)
        obtain ⟨av, rfl, hrv⟩ := Hvs.out (by rw [List.length_map, ← HNv.out]; omega)
        have hww : New w wr := HC2.out.trans HNw.out (fun _ _ x => x)
        have hat := (hrw k cs hcs).2.chg hww id
        have hatv := (hrv k (vcs v) (by rw [List.getElem?_map, hv]; rfl)).2.chg hww id
        have htm := (Hts.out.at_ k cs t hcs ht).chg hww
        have h1c := htm.one
        have hzk : (ts.zip vs)[k]? = some (t, v) := by rw [List.getElem?_zip_eq_some]; exact ⟨ht, hv⟩
        have hokk := Hokt.out t (List.mem_of_getElem? ht)
        have hso := HO2.out.chg HNw.out (fun _ _ x => x)
        obtain ⟨t0, t1, t2, t3, t4, t5, t6, rfl⟩ := htm.seven
        have Hat := Lib.hid hat
        have Hatv := Lib.hid hatv
        have Htm := Lib.hid htm
        have H1c := Lib.hid h1c
        have Hzk := Lib.hid hzk
        have Hokk := Lib.hid hokk
        have Hso := Lib.hid hso
        clear hat hatv htm h1c hzk hokk hso hrw hrv hcs ht hv hww
        go_upto_region 7 with first
          | ((with_reducible refine wpl_load rfl (.tmp 27) 48 rfl stTerm (ad.add (k * 7)) _ ?_ rfl Hat.out ?_); exact rfl)
          | (with_reducible refine wpl_new rfl 48 rfl elTerm.zero ?_; intro w3 cur hc3 hb3 hsz hs3; have HC3 := Lib.hid hc3; have HB3 := Lib.hid hb3; have Hsz := Lib.hid hsz; clear hc3 hb3 hsz hs3)
          | ((with_reducible refine wpl_set rfl (.tmp 10) (.tmp 28) 48 rfl rfl stTerm wr.heap.size 48 _ [t0, t1, t2, t3, t4, t5, t6] ?_ ?_ HB3.out rfl Hsz.out H1c.out ?_); exact rfl; exact rfl; intro w4 hc4 hb4 hs4; have HC4 := Lib.hid (HC3.out.put hc4 (Nat.le_refl _)); have HB4 := Lib.hid hb4; clear hc4 hb4 hs4)
        refine wp_region_at (by kernel_rfl) ?_
        have hcd := HC4.out.drew
        have HBd := Lib.hid (show At w4.drew ⟨wr.heap.size, 0, none⟩ [t0, t1, t2, t3, t4, t5, t6] from (HB4.out.chg (Chg.refl _ (fun _ => False)).drew id).at_)
        have Hvv := Lib.hid (Hatv.out.chg hcd id)
        have Htd := Lib.hid (Htm.out.chg hcd)
        have Hsd := Lib.hid (Hso.out.chg hcd (fun _ _ x => x))
        have Hcd := Lib.hid hcd
        clear hcd HC3 HB3 Hsz HC4 HB4 Hat Hatv H1c Htm
        generalize w4.drew = wd at HBd Hvv Htd Hsd Hcd ⊢
        obtain ⟨bx, hbx⟩ : ∃ bx, wr.heap.size = bx := ⟨_, rfl⟩
        rw [hbx] at HBd ⊢
        have Hbx := Lib.hid hbx
        clear hbx
        have q0 : (0 : Int) ≤ (k : Int) := by omega
        have q1 : (k : Int) < (n : Int) := by omega
        refine AtN.segQ2 0 6 (fun
          | 0 => .slice As s.length cs0
          | 1 => .agg #[t0, t1, t2, t3, t4, t5, t6]
          | 2 => .slice (some av) n cv
          | 3 => .int .i64 k
          | 4 => .pointer (some (av.add (k * 4)))
          | _ => .agg #[.int .i64 v.k, .int .i64 v.i, .string v.t, .slice none 0 0])
          [(29, .slice As s.length cs0), (30, .agg #[t0, t1, t2, t3, t4, t5, t6]), (31, .slice (some av) n cv), (32, .int .i64 k), (33, .pointer (some (av.add (k * 4)))), (34, .agg #[.int .i64 v.k, .int .i64 v.i, .string v.t, .slice none 0 0])] (by kernel_rfl) (by kernel_rfl) (by kernel_rfl) (by kernel_rfl) rfl (fun i hn hi o ho A0 hin hk => ?_) ?_
        · rcases (show i = 0 ∨ i = 1 ∨ i = 2 ∨ i = 3 ∨ i = 4 ∨ i = 5 by omega) with rfl | rfl | rfl | rfl | rfl | rfl
          · cases ho
            exact exec_move 8 _ rfl (hk 8 (by kernel_rfl))
          · cases ho
            have h10 : A0.tmps[10]?.getD undef = .pointer (some ⟨bx, 0, none⟩) := hk 10 (by kernel_rfl)
            exact exec_load 10 _ rfl stTerm ⟨bx, 0, none⟩ [t0, t1, t2, t3, t4, t5, t6] h10 rfl HBd.out
          · cases ho
            exact exec_move 1 _ rfl (hk 1 (by kernel_rfl))
          · cases ho
            exact exec_move 9 _ rfl (hk 9 (by kernel_rfl))
          · cases ho
            have h31 : A0.tmps[31]?.getD undef = .slice (some av) n cv := hin 2 31 (by kernel_rfl)
            have h32 : A0.tmps[32]?.getD undef = .int .i64 k := hin 3 32 (by kernel_rfl)
            exact by simp [go_sem, h31, h32, q0, q1]
          · cases ho
            have h33 : A0.tmps[33]?.getD undef = .pointer (some (av.add (k * 4))) := hin 4 33 (by kernel_rfl)
            exact exec_load 33 _ rfl stVal4 (av.add (k * 4)) (vcs v) h33 (vcl_len v) Hvv.out
        simp only [putsL, Act.put, List.setIfInBounds_toArray, List.set_cons_succ, List.set_cons_zero]
        have his := bIs As s.length cs0 s rfl hsl Hsok.out t Hokk.out v wd [t0, t1, t2, t3, t4, t5, t6] (Hsd.out.rows (A := As) (n := s.length) (c := cs0) rfl).2 Htd.out
        obtain ⟨q, hq⟩ : ∃ q, isV s t v = q := ⟨_, rfl⟩
        rw [hq] at his
        have His := Lib.hid his
        have Hq := Lib.hid hq
        clear his hq
        refine AtN.list 6 8 (by kernel_rfl) ?_
        change wpList _ _ _ [_, _] _ _
        go_wp2_with (go_at_call 60; refine His.out.mono ?_; rintro e w5 ⟨rfl, hc5⟩; have HC5 := Lib.hid (Hcd.out.trans hc5 (fun _ _ x => x)); clear hc5)
        cases q with
        | true =>
          change AtN _ _ _ 8 _ _
          refine AtN.done rfl ?_
          go_wp2_with fail
          go_roundw
          case rel => exact ⟨k + 1, by omega, by go_num, all_take Hall.out Hzk.out Hq.out, HNw.out.trans HC5.out (fun _ _ x => x)⟩
          case measure => simp [intOf]; omega
        | false =>
          change AtN _ _ _ 8 _ _
          refine AtN.done rfl ?_
          go_wp2_with fail
          go_ret2
          exact ⟨HC2.out.trans (HNw.out.trans HC5.out (fun _ _ x => x)) (fun _ _ x => x), .inl ⟨HR0.out (all_no Hzk.out Hq.out), rfl⟩⟩
      · have hall : matchV ts vs env = some s := HR1.out (by
          have h := Hall.out
          rwa [List.take_of_length_le (by rw [List.length_zip, ← HN.out, ← HNv.out]; omega)] at h)
        have HRes := Lib.hid hall
        have HOs := Lib.hid (HO2.out.chg HNw.out (fun _ _ x => x))
        have HNr := Lib.hid (HC2.out.trans HNw.out (fun _ _ x => x))
        clear hall Hall HR1 HR0 HO2 HC2 HNw Hts Hvs
        go_wp2_with fail
        obtain ⟨wy, hwy⟩ : ∃ wy, wy = wr := ⟨_, rfl⟩
        subst hwy
        go_loopw [40] (fun u40 wx => ∃ (k : Nat), k ≤ s.length ∧ u40 = .int .i64 k ∧ New wy wx) (fun u _ => s.length - (intOf u).toNat)
        case atStart => exact ⟨0, Nat.zero_le _, rfl, Chg.refl _ _⟩
        case round =>
          obtain ⟨j, hj, rfl, hNx⟩ := hrel
          have HNx := Lib.hid hNx
          clear hNx
          by_cases hjl : j < s.length
          · obtain ⟨p, hp⟩ : ∃ p, s[j]? = some p := ⟨_, List.getElem?_eq_getElem hjl⟩
            obtain ⟨g, cap, cur, hsv, hbg, hblk, hcs, hget⟩ := (HOs.out.chg HNx.out (fun _ _ x => x)).blk (by rw [List.length_map]; omega)
            rw [List.length_map] at hsv hcs
            obtain ⟨rfl, rfl⟩ : As = some ⟨g, 0, none⟩ ∧ cs0 = cap := by injection hsv with h1 _ h3; exact ⟨h1, h3⟩
            have hcell := hget j (bcs p) (by rw [List.getElem?_map, hp]; rfl)
            have hat : At wr ⟨g, j * 5 + 1, none⟩ [.int .i64 p.2.k, .int .i64 p.2.i, .string p.2.t, .slice none 0 0] := fun i u hi => by
              rw [Addr.add_lit, hblk.cell]
              have := hcell (i + 1) u (by simpa [bcs] using hi)
              rwa [show j * 5 + (i + 1) = j * 5 + 1 + i by omega] at this
            have hsame : layA cur (j * 5 + 1) (vcs p.2) = cur := lay_same (fun i u hi => by
              have := hcell (i + 1) u (by simpa [bcs, vcs] using hi)
              rwa [show j * 5 + (i + 1) = j * 5 + 1 + i by omega] at this)
            have hfit : j * 5 + 1 + 4 ≤ cur.size := by omega
            have HAt := Lib.hid hat
            have HSame := Lib.hid hsame
            have HBlk := Lib.hid hblk
            have Hfit := Lib.hid hfit
            clear hat hsame hblk hget hcell hcs hsv hfit hp
            have q0 : (0 : Int) ≤ (j : Int) := by omega
            have q1 : (j : Int) < (s.length : Int) := by omega
            go_wp2_with first
              | ((with_reducible refine wpl_load rfl (.tmp 48) 46 rfl stVal4 ⟨g, j * 5 + 1, none⟩ [.int .i64 p.2.k, .int .i64 p.2.i, .string p.2.t, .slice none 0 0] ?_ rfl HAt.out ?_); exact rfl)
              | (go_at_call 55; refine (bfresh_val _ p.2).mono ?_; rintro e w6 ⟨rfl, hc6⟩; have HB6 := Lib.hid (HBlk.out.chg hc6 id); have HC6 := Lib.hid (HNx.out.trans hc6 (fun _ _ x => x)); clear hc6)
              | ((with_reducible refine wpl_store rfl (.tmp 52) (.tmp 50) 46 rfl stVal4 g (j * 5 + 1) 101 _ (vcs p.2) ?_ ?_ HB6.out (vcl_len _) Hfit.out (vcl_one p.2) ?_); exact rfl; exact rfl; rw [HSame.out]; have HC7 := Lib.hid (HC6.out.trans (New.same HB6.out) (fun _ _ x => x)); generalize w6.setRow g cur = w7 at HC7 ⊢)
            go_roundw
            case rel => exact ⟨j + 1, by omega, by go_num, HC7.out⟩
            case measure => simp [intOf]; omega
          · go_wp2_with fail
            go_ret2
            exact ⟨HNr.out.trans HNx.out (fun _ _ x => x), .inr ⟨s, _, HRes.out, rfl, HOs.out.chg HNx.out (fun _ _ x => x)⟩⟩
  · have hr : matchV ts vs env = none := by
      unfold matchV
      rw [if_neg (by omega)]
    rw [hr]
    have hd : decide ((n : Int) = (nv : Int)) = false := decide_eq_false (by omega)
    have hd' : decide (n = nv) = false := decide_eq_false hl
    clear hn hnv hts hvs hokt hok hokv hea hes hne
    go_enter Try.func50, Try.ntmps50
    go_wp2_with fail
    go_ret2
    exact ⟨Chg.refl _ _, .inl ⟨rfl, rfl⟩⟩
end Go.Proofs.Ytenkobgeflckdab
