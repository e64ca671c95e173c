/- fire: goes at any literal; what lies for a body; frames of a consumer; fire: ways$1. -/
import Derived.Test.YtfocjfnkcabbgaaG44
import Derived.Test.YtfocjfnkcabbgaaGvP
import Derived.BigRegion
set_option linter.unusedVariables false
set_option linter.unusedSimpArgs false
namespace Go.Proofs.Ytfocjfnkcabbgaa
open Go.RowKit Go.Shelf

/-- The rows by their names, in memory. -/
structure Dat (w0 : World) (bm : Nat) (m : List (ByteArray × Value)) (rows : List Rw) : Prop where
  map : MapAt w0 bm m
  look : ∀ nm, RowSl w0 (lookM m nm) (named rows nm)
  ok : ∀ r ∈ rows, ∀ v ∈ r.args, okW v

theorem goes_lt {w0 : World} {bm : Nat} {m : List (ByteArray × Value)} {rows : List Rw} (D : Dat w0 bm m rows) (w : World) (hw0 : New w0 w) (S1 : Nat → Prop) (hS1 : ∀ k, S1 k → k < w.heap.size) (L : Lt) (A : Option Addr) (n c : Nat) (css : List (List Value)) (hn : n = L.args.length) (hts : TmsAt w0 A css L.args) (okL : okLt L) (hk : L.kind ≠ 1)
    (s : Sta) (Ae : Option Addr) (ce : Nat) (hst : StAt s (.agg #[.slice Ae s.1.length ce, .int .i64 s.2]) S1 w) (hok : okEnv s.1) (hsz : s.1.length + L.size ≤ 1000) :
    Calls Try.prog 39 #[.map (some bm), .agg #[.int .i64 L.kind, .string L.name, .slice A n c], .agg #[.slice Ae s.1.length ce, .int .i64 s.2]] w (GoesPost w S1 (goesV rows L s)) := by
  match L, hn, hts, okL, hk, hsz with
  | .atom false nm ts, _, _, _, hk, _ => exact absurd rfl hk
  | .atom true nm ts, hn, hts, okL, _, hsz =>
    exact goes_not w0 w hw0 S1 bm m (named rows nm) D.map nm A n c css ts hn hts okL (D.look nm) (fun r hr => D.ok r ((List.mem_filter.1 hr).1)) s Ae ce hst hok hsz
  | .test j a b, hn, hts, okL, _, hsz =>
    have hs2 : s.1.length + 2 ≤ 1000 := hsz
    have hn2 : n = 2 := hn
    refine goes_test j bm w0 w hw0 S1 hS1 A n c css [a, b] hn (by omega) hts okL s Ae ce hst hok (by omega) [evalT s.1 a, evalT s.1 b] rfl _ (fun h => ?_) hn2 (fun x y h => ?_) (fun us h u hu => ?_)
    · unfold goesV
      cases h1 : evalT s.1 a with
      | none => simp [h1]
      | some x =>
        cases h2 : evalT s.1 b with
        | none => simp [h1, h2]
        | some y => rw [h1, h2] at h; cases h
    · unfold goesV
      cases h1 : evalT s.1 a with
      | none => rw [h1] at h; cases h
      | some x' =>
        cases h2 : evalT s.1 b with
        | none => rw [h1, h2] at h; cases h
        | some y' => rw [h1, h2] at h; cases h; simp [h1, h2]
    · cases h1 : evalT s.1 a with
      | none => rw [h1] at h; cases h
      | some x' =>
        cases h2 : evalT s.1 b with
        | none => rw [h1, h2] at h; cases h
        | some y' =>
          rw [h1, h2] at h
          cases h
          rcases List.mem_cons.1 hu with rfl | hu
          · exact evalT_ok hok (okL a (by simp [Lt.args])) h1
          · rw [List.mem_singleton.1 hu]; exact evalT_ok hok (okL b (by simp [Lt.args])) h2
  | .assign nm t, hn, hts, okL, _, hsz =>
    have hs2 : s.1.length + 1 ≤ 1000 := hsz
    have hn2 : n = 1 := hn
    refine goes_assign nm bm w0 w hw0 S1 hS1 A n c css [t] hn (by omega) hts okL s Ae ce hst hok (by omega) [evalT s.1 t] rfl _ (fun h => ?_) hn2 (fun x h => ?_)
    · unfold goesV
      cases h1 : evalT s.1 t with
      | none => simp [h1]
      | some x => rw [h1] at h; cases h
    · unfold goesV
      cases h1 : evalT s.1 t with
      | none => rw [h1] at h; cases h
      | some x' => rw [h1] at h; cases h; simp [h1]

/-- Literals in memory. -/
structure LtsAt (w : World) (A : Option Addr) (css : List (List Value)) (Ls : List Lt) : Prop where
  len : css.length = Ls.length
  src : SrcAt w A 3 css
  at_ : ∀ (j : Nat) (cs : List Value) (L : Lt), css[j]? = some cs → Ls[j]? = some L → LtAt w cs L

/-- A consumer's state, with what lies. -/
def Fr {α β : Type} (wl : World) (S0 : Nat → Prop) (J : List β → (Nat → Prop) → World → Prop) (f : List α → List β) : List α → (Nat → Prop) → World → Prop :=
  fun zs S1 W1 => J (f zs) S1 W1 ∧ (∀ k, S1 k → S0 k ∨ wl.heap.size ≤ k) ∧ Chg wl W1 S0
theorem Fr.acc {α β : Type} {wl : World} {S0 : Nat → Prop} {J : List β → (Nat → Prop) → World → Prop} {f : List α → List β} {n : Nat} (hJ : Acc n J) (hn : n ≤ wl.heap.size) : Acc wl.heap.size (Fr wl S0 J f) :=
  ⟨fun h k hk => hJ.lt h.1 k hk, fun h hc => ⟨(hJ.mono hn).chg h.1 hc, h.2.1, h.2.2.trans hc (fun k hk h => absurd hk (Nat.not_lt.2 h.1))⟩⟩
theorem Fr.stp {α β : Type} {wl : World} {S0 S1 : Nat → Prop} {J : List β → (Nat → Prop) → World → Prop} {f : List α → List β} {zs : List α} {W1 W2 : World} (hs : ∀ k, S1 k → S0 k ∨ wl.heap.size ≤ k) (hc : Chg wl W1 S0) (h : Stp J (f zs) S1 W1 W2) : Stp (Fr wl S0 J f) zs S1 W1 W2 := by
  obtain ⟨S2, hj, hc2, hs2⟩ := h
  refine ⟨S2, ⟨hj, fun k hk => ?_, hc.trans hc2 (fun k hk h1 => ?_)⟩, hc2, hs2⟩
  · rcases hs2 k hk with h | h
    · exact hs k h
    · exact .inr (Nat.le_trans hc.size h)
  · rcases hs k h1 with h | h
    · exact h
    · omega
/-- Some of them have come. -/
def Cut {β : Type} (Jx : List β → (Nat → Prop) → World → Prop) : List β → (Nat → Prop) → World → Prop := fun zs S W => ∃ p y r, zs = p ++ y :: r ∧ Jx (p ++ [y]) S W
theorem Cut.acc {β : Type} {Jx : List β → (Nat → Prop) → World → Prop} {n : Nat} (h : Acc n Jx) : Acc n (Cut Jx) :=
  ⟨fun ⟨p, y, r, he, hj⟩ => h.lt hj, fun ⟨p, y, r, he, hj⟩ hc => ⟨p, y, r, he, h.chg hj hc⟩⟩
/-- Where the loop is left by a return. -/
def RetF {α : Type} (I : List α → (Nat → Prop) → World → Prop) (c : Code) : List α → (Nat → Prop) → World → Prop := fun zs S W => c = Code.ret ∧ I zs S W
theorem RetF.acc {α : Type} {I : List α → (Nat → Prop) → World → Prop} {n : Nat} (h : Acc n I) (c : Code) : Acc n (RetF I c) := ⟨fun hj => h.lt hj.2, fun hj hc => ⟨hj.1, h.chg hj.2 hc⟩⟩
theorem leave_none {P : Program} {fn : Func} (hr : fn.results = #[]) {R : Ending → World → Prop} {D : Nat} {W : World} {tmps : Array Value} (hD : W.heap[D]? = some (.deferred (some []))) (h : ∀ v, R (.returned v) (W.putObj D (.deferred none))) :
    LeavesInM Fence.wide 0 P fn tmps R [{ target := .collected D, args := #[] }] .returning W :=
  ⟨by simp, .inl ⟨_, _, rfl, run_takeDeferred hD, _, results_none hr _ _ _, h _⟩⟩

/-- The loop is over, the mark is taken. -/
theorem Fr.leave {α β : Type} {w4 W W2 : World} {S' S2 : Nat → Prop} {J : List β → (Nat → Prop) → World → Prop} {f : List α → List β} {xs : List α} {n D0 : Nat} (hA : Acc n J) (hnw : n ≤ w4.heap.size) (hN : New W w4) (h : Fr w4 S' J f xs S2 W2) (hD : w4.heap.size ≤ D0) (hnD : ¬ S2 D0) (o : Obj) :
    Stp J (f xs) S' W (W2.putObj D0 o) := by
  have hc : Chg W2 (W2.putObj D0 o) (fun k => k = D0) := (Chg.of_grown (grownBy_putObj' W2 D0 o)).mono fun k _ h => by cases h; rfl
  obtain ⟨h1, h2, h3⟩ := h
  refine ⟨S2, hA.chg h1 (hc.mono fun k _ h => by subst h; exact ⟨Nat.le_trans hnw hD, hnD⟩), ?_, fun k hk => ?_⟩
  · exact ((hN.mono (T' := S') fun k _ h => h.elim).trans h3 (fun k _ h => h)).put hc (Nat.le_trans hN.size hD)
  · rcases h2 k hk with h | h
    · exact .inl h
    · exact .inr (Nat.le_trans hN.size h)
/-- A loop's record is no cells. -/
theorem StAt.rec {x : Sta} {v : Value} {S : Nat → Prop} {W W' : World} {l : Nat} (h : StAt x v S W) (hl : ∃ r, W.heap[l]? = some (.loop r)) (hc : Chg W W' (fun k => k = l)) : StAt x v S W' := by
  obtain ⟨A, c, h1, h2, h3, h4, h5⟩ := h
  obtain ⟨r, hr⟩ := hl
  refine ⟨A, c, h1, h2, h3, fun hp => ?_, fun a ha => ⟨Nat.lt_of_lt_of_le (h5 a ha).1 hc.size, (h5 a ha).2⟩⟩
  obtain ⟨a, ha, hrw⟩ := h4 hp
  refine ⟨a, ha, hrw.chg hc (fun e => ?_)⟩
  obtain ⟨cs, hcs⟩ : ∃ cs, (x.1.map bcs)[0]? = some cs := ⟨_, List.getElem?_eq_getElem hp⟩
  obtain ⟨hlen, hat⟩ := hrw 0 cs hcs
  obtain ⟨u, hu⟩ : ∃ u, cs[0]? = some u := ⟨_, List.getElem?_eq_getElem (by omega)⟩
  have hce := hat 0 u hu
  have hb : ((a.add (0 * 5)).add 0).block = l := by rw [add_block, add_block]; exact e
  unfold World.cell? at hce
  rw [hb, hr] at hce
  cases hce

set_option maxHeartbeats 1000000 in
set_option maxRecDepth 100000 in
/-- relations.ways: the closure. -/
theorem ways_made (w : World) (bm : Nat) (A : Option Addr) (n c : Nat) (s1 s2 : Value) : Calls Try.prog 19 #[.map (some bm), .slice A n c, .agg #[s1, s2]] w fun e w' =>
    e = .returned (.func (.func 36) #[] #[.pointer (some ⟨w.heap.size + 1, 0, none⟩), .pointer (some ⟨w.heap.size + 1 + 1, 0, none⟩), .pointer (some ⟨w.heap.size, 0, none⟩)]) ∧
    New w w' ∧ w'.cell? ⟨w.heap.size, 0, none⟩ = some (.map (some bm)) ∧ w'.cell? ⟨w.heap.size + 1, 0, none⟩ = some (.slice A n c) ∧ At w' ⟨w.heap.size + 1 + 1, 0, none⟩ [s1, s2] ∧ w'.heap.size = w.heap.size + 3 := by
  go_enter Try.func19, Try.ntmps19
  go_wp2_with fail
  go_ret
  obtain ⟨hN, b1, b2, b3, hs⟩ := boxes3 w #[.map (some bm)] #[.slice A n c] #[s1, s2] 60 25 66 _ rfl
  exact ⟨rfl, hN, b1.cell 0, b2.cell 0, Blk.at_ b3, hs⟩
end Go.Proofs.Ytfocjfnkcabbgaa

set_option linter.unusedVariables false
set_option linter.unusedSimpArgs false
namespace Go.Proofs.Ytfocjfnkcabbgaa
open Go.RowKit Go.Shelf

/-- What the induction is over. -/
def WaysOk (w0 : World) (bm : Nat) (m : List (ByteArray × Value)) (rows : List Rw) (Ls : List Lt) : Prop :=
  ∀ (w : World) (hw0 : New w0 w) (S : Nat → Prop) (hS0 : ∀ k, S k → w0.heap.size ≤ k) (Jx : List Sta → (Nat → Prop) → World → Prop) (hJx : Acc w.heap.size Jx) (p1 p2 p3 : Nat) (A : Option Addr) (n c : Nat) (css : List (List Value)) (h1 : w.cell? ⟨p1, 0, none⟩ = some (.slice A n c)) (n1 : ¬ S p1)
    (hn : n = Ls.length) (hnc : n ≤ c) (hcm : c ≤ maxLen) (hLs : LtsAt w0 A css Ls) (s : Sta) (Ae : Option Addr) (ce : Nat) (h2 : At w ⟨p2, 0, none⟩ [.slice Ae s.1.length ce, .int .i64 s.2]) (n2 : ¬ S p2) (hst : StAt s (.agg #[.slice Ae s.1.length ce, .int .i64 s.2]) S w) (hok : okEnv s.1)
    (h3 : w.cell? ⟨p3, 0, none⟩ = some (.map (some bm))) (n3 : ¬ S p3) (hsz : s.1.length + (Ls.map Lt.size).sum ≤ 1000),
    ItGives Try.prog 36 #[.pointer (some ⟨p1, 0, none⟩), .pointer (some ⟨p2, 0, none⟩), .pointer (some ⟨p3, 0, none⟩)] StAt (waysV rows Ls s) S w Jx

set_option maxHeartbeats 2000000 in
set_option maxRecDepth 100000 in
theorem ways_nil (w0 : World) (bm : Nat) (m : List (ByteArray × Value)) (rows : List Rw) : WaysOk w0 bm m rows [] := by
  intro w hw0 S hS0 Jx hJx p1 p2 p3 A n c css h1 n1 hn hnc hcm hLs s Ae ce h2 n2 hst hok h3 n3 hsz l J S' W hA hJ hc hS hy
  obtain rfl : n = 0 := hn
  have c1 := hc.cellS h1 n1
  have C2 := Lib.hid (h2.chg hc n2)
  have hst' := hst.chg hc hS
  have hb4 := (Chg.refl W (fun _ => False)).alloc (.cells #[.func (.yield l) #[] #[]] 83)
  have hyl := hy [] s [] S' _ _ rfl (hA.chg hJ (hb4.mono fun _ _ h => h.elim)) (hst'.new hb4)
  have HYl := Lib.hid hyl
  have HB4 := Lib.hid hb4
  have c1' := hb4.cellS c1 id
  have c2' := C2.out.chg hb4 id
  have HC2 := Lib.hid c2'
  obtain ⟨w1, hw1⟩ : ∃ w1, w1 = W.alloc (.cells #[.func (.yield l) #[] #[]] 83) := ⟨_, rfl⟩
  have c4 : w1.cell? ⟨W.heap.size, 0, none⟩ = some (.func (.yield l) #[] #[]) := by rw [hw1]; exact (Blk.new W _ _).cell 0
  rw [← hw1] at HYl HB4 HC2 c1'
  have HW := Lib.hid hw1
  clear hst hst' hy hA hJ hyl hb4 c1 c2' hw1 h2 C2 hLs h1 h3
  refine callsIn_of_wp Try.func36 rfl trivial ?_ rfl
  refine wpIn_wide.2 ?_
  simp only [Try.ntmps36, List.size_toArray, List.length_cons, List.length_nil, Nat.reduceAdd, Nat.reduceSub, Array.replicate_succ, Array.replicate_zero, List.push_toArray, List.append_toArray, List.nil_append, List.cons_append]
  go_upto_region 1 with fail
  rw [← HW.out]
  go_upto_region 2 with fail
  refine (wpIn_wide (n := 0)).1 ?_
  refine wpIn_region_lit ?_
  refine liftK Wd.wide 2 (by rfl) ?_
  change wpList _ _ _ [_, _] _ _
  go_wp2_with ((with_reducible refine wpl_load rfl (.tmp 2) 66 rfl stSta ⟨p2, 0, none⟩ [.slice Ae s.1.length ce, .int .i64 s.2] ?_ rfl HC2.out ?_); exact rfl)
  refine wplI_yield Wd.wide rfl (.tmp 13) (.tmp 14) 66 rfl rfl rfl HYl.out ?_
  rintro b W2 hb
  have hbt : b = true → Stp J ([] ++ [s]) S' w1 W2 := fun h => by rw [if_pos h] at hb; exact hb
  have hbf : b = false → Stp Jx ([] ++ [s]) S' w1 W2 := fun h => by rw [if_neg (by rw [h]; exact Bool.false_ne_true)] at hb; exact hb
  have HBt := Lib.hid hbt
  have HBf := Lib.hid hbf
  clear hbt hbf hb HYl
  refine wpListIn_nil ?_
  go_wp2_with fail
  refine bodyPost_ret (results_none rfl _ _ _) rfl ?_
  refine ⟨⟨_, rfl⟩, ?_⟩
  cases b with
  | true => exact .inl (Stp.trans (HB4.out.mono fun _ _ h => h.elim) (fun k hk => .inl hk) (HBt.out rfl))
  | false => exact .inr ⟨[], s, [], rfl, Stp.trans (HB4.out.mono fun _ _ h => h.elim) (fun k hk => .inl hk) (HBf.out rfl)⟩

theorem matchV_ok {ts : List Tm} {vs : List Vl} {env e : Env} (h : matchV ts vs env = some e) (hok : okEnv env) (hv : ∀ v ∈ vs, okW v) : okEnv e ∧ e.length ≤ env.length + ts.length := by
  unfold matchV at h
  split at h
  · split at h
    · cases h
      exact ⟨envK_ok hok hv _, envK_len _ _ _ _⟩
    · cases h
  · cases h
theorem next_ok {rows : List Rw} (hr : ∀ r ∈ rows, ∀ v ∈ r.args, okW v) {L : Lt} (hL : okLt L) {s x : Sta} (hok : okEnv s.1) (hx : x ∈ nextV rows L s) : okEnv x.1 ∧ x.1.length ≤ s.1.length + L.size := by
  have hgo : ∀ x, goesV rows L s = some x → okEnv x.1 ∧ x.1.length ≤ s.1.length + L.size := by
    intro x hx
    match L, hL, hx with
    | .atom b nm ts, hL, hx =>
      unfold goesV at hx
      dsimp only at hx
      split at hx
      · cases hx; exact ⟨hok, by omega⟩
      · cases hx
    | .test j a b, hL, hx =>
      unfold goesV at hx
      dsimp only at hx
      split at hx
      · split at hx
        · cases hx; exact ⟨hok, by omega⟩
        · cases hx
      · cases hx
    | .assign nm t, hL, hx =>
      unfold goesV at hx
      dsimp only at hx
      cases h1 : evalT s.1 t with
      | none => rw [h1] at hx; cases hx
      | some v =>
        rw [h1] at hx
        dsimp only at hx
        split at hx
        · cases hx
        · cases hx
          refine ⟨fun p hp => ?_, by simp [Lt.size, Lt.args]⟩
          rcases List.mem_append.1 hp with hp | hp
          · exact hok p hp
          · rw [List.mem_singleton.1 hp]; exact evalT_ok hok (hL t (by simp [Lt.args])) h1
  match L, hL, hx, hgo with
  | .atom false nm ts, hL, hx, _ =>
    obtain ⟨r, hr1, hr2⟩ := List.mem_filterMap.1 (show x ∈ (named rows nm).filterMap (atomS ts s) from hx)
    unfold atomS at hr2
    cases hm : matchV ts r.args s.1 with
    | none => rw [hm] at hr2; cases hr2
    | some e =>
      rw [hm] at hr2
      cases hr2
      exact matchV_ok hm hok (hr r (List.mem_filter.1 hr1).1)
  | .atom true nm ts, hL, hx, hgo => exact hgo x (by simpa [nextV] using hx)
  | .test j a b, hL, hx, hgo => exact hgo x (by simpa [nextV] using hx)
  | .assign nm t, hL, hx, hgo => exact hgo x (by simpa [nextV] using hx)

set_option maxHeartbeats 8000000 in
set_option maxRecDepth 100000 in
theorem ways_cons {w0 : World} {bm : Nat} {m : List (ByteArray × Value)} {rows : List Rw} (D : Dat w0 bm m rows) (L : Lt) (Ls : List Lt) (okL : okLt L) (ih : WaysOk w0 bm m rows Ls) : WaysOk w0 bm m rows (L :: Ls) := by
  intro w hw0 S hS0 Jx hJx p1 p2 p3 A n c css h1 n1 hn hnc hcm hLs s Ae ce h2 n2 hst hok h3 n3 hsz l J S' W hA hJ hc hS hy
  have hS0' : ∀ k, S' k → w0.heap.size ≤ k := fun k hk => by
    rcases hS k hk with h | h
    · exact hS0 k h
    · exact Nat.le_trans hw0.size h
  have hN0 : New w0 W := hw0.trans hc (fun k hk h => by have := hS0 k h; omega)
  have l1 : p1 < w.heap.size := World.block_lt_of_cell? w _ h1
  have l2 : p2 < w.heap.size := World.block_lt_of_cell? w _ (h2 0 _ rfl)
  have l3 : p3 < w.heap.size := World.block_lt_of_cell? w _ h3
  have n1' : ¬ S' p1 := fun h => by rcases hS _ h with h | h; exact n1 h; omega
  have n2' : ¬ S' p2 := fun h => by rcases hS _ h with h | h; exact n2 h; omega
  have n3' : ¬ S' p3 := fun h => by rcases hS _ h with h | h; exact n3 h; omega
  have hst' := hst.chg hc hS
  have c1 := hc.cellS h1 n1
  have c2 := h2.chg hc n2
  have c3 := hc.cellS h3 n3
  obtain ⟨Sz, hSz⟩ : ∃ z, (Ls.map Lt.size).sum = z := ⟨_, rfl⟩
  have hsz' : s.1.length + L.size + Sz ≤ 1000 := by
    rw [← hSz]; simp only [List.map_cons, List.sum_cons] at hsz; omega
  -- the body's literals
  obtain ⟨ad, rfl, hrw⟩ := hLs.src (by rw [hLs.len]; simp)
  obtain ⟨cs0, hcs0⟩ : ∃ cs, css[0]? = some cs := ⟨_, List.getElem?_eq_getElem (by rw [hLs.len]; simp)⟩
  obtain ⟨Aa, ca, csa, hcsv, htsa⟩ := hLs.at_ 0 cs0 L hcs0 rfl
  have hcell := ((hrw 0 cs0 hcs0).2.chg hN0 id)
  rw [Nat.zero_mul] at hcell
  subst hcsv
  have hrest : LtsAt w0 (if c = 1 then some ad else some (ad.add (1 * 3))) (css.drop 1) Ls := by
    refine ⟨by rw [List.length_drop, hLs.len]; simp, SrcAt.drop hLs.src (by rw [hLs.len]; simp) (by rw [hLs.len]; simpa [hn] using hnc), fun j cs L' hj hL' => hLs.at_ (j + 1) cs L' ?_ ?_⟩
    · rw [List.getElem?_drop] at hj
      rwa [Nat.add_comm] at hj
    · simpa using hL'
  obtain ⟨w1, hw1⟩ : ∃ w1, w1 = W.alloc (.cells #[.func (.yield l) #[] #[]] 83) := ⟨_, rfl⟩
  have hn1 : New W w1 := by rw [hw1]; exact (Chg.refl _ _).alloc _
  have b4 : Blk w1 W.heap.size 83 #[.func (.yield l) #[] #[]] := by rw [hw1]; exact Blk.new W _ _
  have d1 := hn1.cellS c1 id
  have e0 := hn1.cellS (hcell 0 _ rfl) id
  have e1 := hn1.cellS (hcell 1 _ rfl) id
  have e2 := hn1.cellS (hcell 2 _ rfl) id
  have f0 : w1.cell? ad = some (.int .i64 L.kind) := by
    have : ad.add 0 = ad := by unfold Addr.add; simp
    rwa [this] at e0
  have f1 : w1.cell? ⟨ad.block, ad.off + 1, none⟩ = some (.string L.name) := by rwa [add_succ] at e1
  have f2 : w1.cell? ⟨ad.block, ad.off + 2, none⟩ = some (.slice Aa L.args.length ca) := by rwa [add_succ] at e2
  have al : ∀ {a : Addr} {v : Value}, w1.cell? a = some v → (∀ o, (w1.alloc o).cell? a = some v) ∧ ∀ o o', ((w1.alloc o).alloc o').cell? a = some v := fun h => ⟨fun o => ((Chg.refl w1 (fun _ => False)).alloc o).cellS h id, fun o o' => (((Chg.refl w1 (fun _ => False)).alloc o).alloc o').cellS h id⟩
  obtain ⟨d1a, d1b⟩ := al d1
  obtain ⟨f0a, f0b⟩ := al f0
  obtain ⟨f1a, f1b⟩ := al f1
  obtain ⟨f2a, f2b⟩ := al f2
  have hp1 : p1 < w1.heap.size := World.block_lt_of_cell? w1 _ d1
  have hpa : ad.block < w1.heap.size := World.block_lt_of_cell? w1 _ f0
  have np1 : p1 ≠ w1.heap.size := by omega
  have np2 : p1 ≠ w1.heap.size + 1 := by omega
  have np3 : w1.heap.size ≠ p1 := by omega
  have np4 : w1.heap.size + 1 ≠ p1 := by omega
  clear al e0 e1 e2
  have hy4 : ∀ (pre : List Sta) (x : Sta) (rest : List Sta) (S1 : Nat → Prop) (v : Value) (W1 : World), waysV rows (L :: Ls) s = pre ++ x :: rest → J pre S1 W1 → StAt x v S1 W1 → Yld Try.prog l v W1 fun b W2 => if b = true then Stp J (pre ++ [x]) S1 W1 W2 else Stp Jx (pre ++ [x]) S1 W1 W2 := hy
  have HY := Lib.hid hy4
  have HA := Lib.hid hA
  have HJx := Lib.hid hJx
  have HJ := Lib.hid hJ
  have HSt := Lib.hid hst'
  have HN0 := Lib.hid hN0
  have HS0 := Lib.hid hS0'
  have HN1 := Lib.hid hn1
  have HB4 := Lib.hid b4
  have HC2 := Lib.hid c2
  have HC3 := Lib.hid c3
  have HTs := Lib.hid htsa
  have HRest := Lib.hid hrest
  have Hn := Lib.hid hn
  have HSz := Lib.hid hSz
  have Hok := Lib.hid hok
  have HW := Lib.hid hw1
  have HD := Lib.hid D
  have HIh := Lib.hid ih
  have HSS := Lib.hid hS
  have HHc := Lib.hid hc
  have hnp : 0 < n := by rw [hn]; simp
  have q1 : ((n : Int) == 0) = false := by simp; omega
  have q2 : (0 : Int) < (n : Int) := by omega
  clear hy hy4 hA hJx hJ hst' hN0 hS0' hn1 c2 htsa hrest hn hSz hok hw1 D ih hLs hst h1 h2 h3 hrw hcs0 c1 c3 hS hsz hw0 hS0 hcell hc b4
  refine callsIn_of_wp_marks Try.func36 rfl trivial ?_ rfl
  refine wpIn_wide.2 ?_
  simp only [Try.ntmps36, List.size_toArray, List.length_cons, List.length_nil, Nat.reduceAdd, Nat.reduceSub, Array.replicate_succ, Array.replicate_zero, List.push_toArray, List.append_toArray, List.nil_append, List.cons_append]
  go_upto_region 1 with fail
  rw [← HW.out]
  go_upto_region 3 with fail
  obtain ⟨A', hA'⟩ : ∃ A', (if c = 1 then some ad else some (⟨ad.block, ad.off + 3, none⟩ : Addr)) = A' := ⟨_, rfl⟩
  have hrest2 : LtsAt w0 A' (css.drop 1) Ls := by
    have := HRest.out
    rw [show ad.add (1 * 3) = (⟨ad.block, ad.off + 3, none⟩ : Addr) from add_succ ad 2, hA'] at this
    exact this
  have HRest2 := Lib.hid hrest2
  have HA' := Lib.hid hA'
  clear hrest2 hA' HRest
  go_region
  · rw [HA'.out]
    have hfn : Blk ((w1.alloc (.cells #[.int .i64 L.kind, .string L.name, .slice Aa L.args.length ca] 43)).alloc (.cells #[.slice A' (n - 1) (c - 1)] 25)) (w1.heap.size) 43 #[.int .i64 L.kind, .string L.name, .slice Aa L.args.length ca] ∧ Blk ((w1.alloc (.cells #[.int .i64 L.kind, .string L.name, .slice Aa L.args.length ca] 43)).alloc (.cells #[.slice A' (n - 1) (c - 1)] 25)) (w1.heap.size + 1) 25 #[.slice A' (n - 1) (c - 1)] := by
      have k1 := (Blk.new w1 _ _).alloc (w := w1.alloc (.cells #[.int .i64 L.kind, .string L.name, .slice Aa L.args.length ca] 43)) (.cells #[.slice A' (n - 1) (c - 1)] 25)
      have k2 := Blk.new (w1.alloc (.cells #[.int .i64 L.kind, .string L.name, .slice Aa L.args.length ca] 43)) 25 #[.slice A' (n - 1) (c - 1)]
      rw [World.size_alloc] at k2
      exact ⟨k1, k2⟩
    have hn3 : New w1 ((w1.alloc (.cells #[.int .i64 L.kind, .string L.name, .slice Aa L.args.length ca] 43)).alloc (.cells #[.slice A' (n - 1) (c - 1)] 25)).drew := (((Chg.refl _ _).alloc _).alloc _).drew
    obtain ⟨b5, b6⟩ := hfn
    have B5 := Lib.hid (show Blk ((w1.alloc (.cells #[.int .i64 L.kind, .string L.name, .slice Aa L.args.length ca] 43)).alloc (.cells #[.slice A' (n - 1) (c - 1)] 25)).drew _ _ _ from b5)
    have B6 := Lib.hid (show Blk ((w1.alloc (.cells #[.int .i64 L.kind, .string L.name, .slice Aa L.args.length ca] 43)).alloc (.cells #[.slice A' (n - 1) (c - 1)] 25)).drew _ _ _ from b6)
    have HN3 := Lib.hid hn3
    clear b5 b6 hn3
    generalize ((w1.alloc (.cells #[.int .i64 L.kind, .string L.name, .slice Aa L.args.length ca] 43)).alloc (.cells #[.slice A' (n - 1) (c - 1)] 25)).drew = w3 at B5 B6 HN3 ⊢
    obtain ⟨b5, hb5⟩ : ∃ b, w1.heap.size = b := ⟨_, rfl⟩
    obtain ⟨b6, hb6⟩ : ∃ b, w1.heap.size + 1 = b := ⟨_, rfl⟩
    rw [hb6, hb5]
    rw [hb5] at B5
    rw [hb6] at B6
    have HZ5 := Lib.hid hb5
    have HZ6 := Lib.hid hb6
    clear hb5 hb6
    have c1 := HN3.out.cellS d1 id
    have c3 := (HN1.out.trans HN3.out (fun _ _ x => x)).cellS HC3.out id
    have HC23 := Lib.hid (HC2.out.chg (HN1.out.trans HN3.out (fun _ _ x => x)) id)
    clear d1a d1b f0a f0b f1a f1b f2a f2b f0 f1 f2 d1
    go_upto_region 5 with first
      | ((with_reducible refine wpl_load rfl (.tmp 5) 43 rfl stLit ⟨b5, 0, none⟩ [.int .i64 L.kind, .string L.name, .slice Aa L.args.length ca] ?_ rfl B5.out.at_ ?_); exact rfl)
      | ((with_reducible refine wpl_load rfl (.tmp 2) 66 rfl stSta ⟨p2, 0, none⟩ [.slice Ae s.1.length ce, .int .i64 s.2] ?_ rfl HC23.out ?_); exact rfl)
      | (go_at_call 37; refine (atoms_made _ _ _ _ _ _ _).mono ?_; rintro e w4 ⟨rfl, hN4, k1, k2, k3, k4⟩; have HN34 := Lib.hid hN4; have K1 := Lib.hid k1; have K2 := Lib.hid k2; have K3 := Lib.hid k3; have K4 := Lib.hid k4; have c50 := (B5.out.chg hN4 id).cell 0; simp only [List.getElem?_toArray, List.getElem?_cons_zero] at c50; clear hN4 k1 k2 k3 k4)
    have HN4 := Lib.hid ((HN1.out.trans HN3.out (fun _ _ x => x)).trans HN34.out (fun _ _ x => x))
    have HLw := Lib.hid (show w.heap.size ≤ w4.heap.size from Nat.le_trans HHc.out.size HN4.out.size)
    have B54 := Lib.hid (B5.out.chg HN34.out id)
    have B64 := Lib.hid (B6.out.chg HN34.out id)
    have C44 := Lib.hid ((HB4.out.chg (HN3.out.trans HN34.out (fun _ _ x => x)) id).cell 0)
    have C24 := Lib.hid (HC23.out.chg HN34.out id)
    have C34 := Lib.hid (HN34.out.cellS c3 id)
    clear c1 c3
    by_cases hk : L.kind = 1
    · have e1 : (L.kind == 1) = true := by simpa using hk
      go_wp2_with fail
      refine wp_range (gf := 45) (lb := #[.pointer (some ⟨w3.heap.size, 0, none⟩), .pointer (some ⟨w3.heap.size + 1, 0, none⟩), .pointer (some ⟨w3.heap.size + 1 + 1, 0, none⟩)]) (enc := StAt) (xs := nextV rows L s) (S := S') rfl (enters_of Try.func45 (by kernel_rfl) rfl)
        (Fr w4 S' J (fun zs => zs.flatMap (waysV rows Ls))) (RetF (Fr w4 S' (Cut Jx) (fun zs => zs.flatMap (waysV rows Ls)))) (Fr.acc HA.out HLw.out) (fun c => RetF.acc (Fr.acc (Cut.acc HJx.out) HLw.out) c) ?hseq ⟨HA.out.chg HJ.out (HN4.out.mono fun _ _ h => h.elim), fun k hk => .inl hk, Chg.refl _ _⟩ (fun h hs => h.less hs) ?round ?done ?stop
      case hseq =>
        intro Jx' hJx'
        obtain ⟨nm, ts, rfl⟩ : ∃ nm ts, L = .atom false nm ts := by
          match L, hk with
          | .atom false nm ts, _ => exact ⟨nm, ts, rfl⟩
          | .atom true nm ts, hk => exact absurd (show (2 : Int) = 1 from hk) (by decide)
          | .test j a b, hk => exact absurd (show (3 : Int) = 1 from hk) (by decide)
          | .assign nm t, hk => exact absurd (show (4 : Int) = 1 from hk) (by decide)
        have hns : ∀ k, w3.heap.size ≤ k → ¬ S' k := fun k hk' h => by
          have := HA.out.lt HJ.out k h
          have := (HN1.out.trans HN3.out (fun _ _ x => x)).size
          omega
        have hs2 : s.1.length + ts.length ≤ 1000 := by have : (Lt.atom false nm ts).size = ts.length := rfl; omega
        exact g49 w0 w4 (HN0.out.trans HN4.out (fun _ _ x => x)) S' HS0.out Jx' _ _ _ bm m (named rows nm) K1.out (hns _ (Nat.le_refl _)) HD.out.map 1 nm Aa ts.length ca csa ts K2.out (hns _ (by omega)) rfl HTs.out okL (HD.out.look nm) (fun r hr => HD.out.ok r (List.mem_filter.1 hr).1) s Ae ce K3.out (hns _ (by omega)) (HSt.out.new HN4.out) Hok.out hs2
      case done =>
        rintro D0 S2 W2 hD hDe hI hc2 hs2 hnD
        go_wp2_with fail
        exact leave_none rfl hDe (fun v => ⟨⟨v, rfl⟩, .inl (Fr.leave (f := fun zs => zs.flatMap (waysV rows Ls)) HA.out HLw.out HN4.out hI hD hnD _)⟩)
      case stop =>
        rintro D0 c0 pre x rest S2 W2 hx hD hDe ⟨rfl, hI⟩ hc2 hs2 hnD
        go_wp2_with fail
        refine leave_none rfl hDe (fun v => ⟨⟨v, rfl⟩, .inr ?_⟩)
        obtain ⟨S3, ⟨p, y, r, he, hj⟩, hc3, hs3⟩ := Fr.leave (f := fun zs => zs.flatMap (waysV rows Ls)) (Cut.acc HJx.out) HLw.out HN4.out hI hD hnD (.deferred none)
        refine ⟨p, y, r ++ rest.flatMap (waysV rows Ls), ?_, S3, hj, hc3, hs3⟩
        have h1 : waysV rows (L :: Ls) s = (nextV rows L s).flatMap (waysV rows Ls) := rfl
        rw [h1, hx, show pre ++ x :: rest = (pre ++ [x]) ++ rest by simp, List.flatMap_append, he]
        simp
      case round =>
        rintro l1 pre x rest S1 v Wr hx hl1 hl2 hlr hl3 hI hsv
        obtain ⟨Ax, cx, rfl⟩ := hsv.cells
        have hokx := next_ok HD.out.ok okL Hok.out (show x ∈ nextV rows L s by rw [hx]; simp)
        have Hsv := Lib.hid hsv
        have HLr := Lib.hid hlr
        have HOkx := Lib.hid hokx
        have HX := Lib.hid hx
        clear hsv hlr hokx hx hI
        simp only [List.setIfInBounds_toArray, List.set_cons_succ, List.set_cons_zero]
        refine wpIn_region_lit ?_
        refine liftK (Wd.round l1) 2 (by rfl) ?_
        change wpList _ _ _ [_, _] _ _
        go_wp2_with ((with_reducible refine wpl_box rfl rfl 8 (.tmp 30) 66 rfl rfl rfl rfl stSta zSta [.slice Ax x.1.length cx, .int .i64 x.2] ?_ ?_ rfl (sta_one _ _ _ _) ?_); exact (by decide : 8 < 40); exact rfl; intro w5 hc5 hb5 hs5; have HC5 := Lib.hid hc5; have HB8 := Lib.hid hb5; clear hc5 hb5 hs5)
        refine wpListIn_nil ?_
        refine ⟨HC5.out, fun W2 hcW hcA hr hI2 => ?_⟩
        have HB8b := Lib.hid (HB8.out.chg hcA (fun h => by omega))
        have HSx := Lib.hid (Hsv.out.rec HLr.out hcW)
        have HI2 := Lib.hid hI2
        have hn8 : New w0 W2 := (HN0.out.trans HN4.out (fun _ _ x => x)).trans hI2.2.2 (fun k hk h => by have := HS0.out k h; omega)
        have HN8 := Lib.hid hn8
        have hb6n : ¬ S' b6 := fun h => by
          have := HA.out.lt HJ.out _ h
          have := HZ6.out
          have := HN1.out.size
          omega
        have g3 := hI2.2.2.cellS C34.out n3'
        have g6 := (B64.out.chg hI2.2.2 hb6n).cell 0
        simp only [List.getElem?_toArray, List.getElem?_cons_zero] at g6
        have HR := Lib.hid hr
        obtain ⟨b8, hb8⟩ : ∃ b, Wr.heap.size = b := ⟨_, rfl⟩
        rw [hb8] at HB8b ⊢
        clear hcW hcA hr hI2 hn8 HB8 HC5 hb6n
        gi_step
        gi_step
        gi_step
        refine wpIn_region_lit ?_
        refine liftK (Wd.round l1) 4 (by rfl) ?_
        change wpList _ _ _ [_, _, _, _] _ _
        go_wp2_with first
          | ((with_reducible refine wpl_load rfl (.tmp 8) 66 rfl stSta ⟨b8, 0, none⟩ [.slice Ax x.1.length cx, .int .i64 x.2] ?_ rfl HB8b.out.at_ ?_); exact rfl)
          | (go_at_call 19; refine (ways_made _ _ _ _ _ _ _).mono ?_; rintro e W3 ⟨rfl, hN33, k1, k2, k3, k4⟩; have HN33 := Lib.hid hN33; have J1 := Lib.hid k1; have J2 := Lib.hid k2; have J3 := Lib.hid k3; have J4 := Lib.hid k4; clear hN33 k1 k2 k3 k4 g3 g6)
        refine wpListIn_nil ?_
        gi_wp2
        have hS1W : ∀ k, S1 k → k < W2.heap.size := fun k hk => HA.out.lt HI2.out.1 k hk
        have hS1n : ∀ k, W2.heap.size ≤ k → ¬ S1 k := fun k hk h => by have := hS1W k h; omega
        have hwW : w.heap.size ≤ W3.heap.size := Nat.le_trans HLw.out (Nat.le_trans HI2.out.2.2.size HN33.out.size)
        have hS10 : ∀ k, S1 k → w0.heap.size ≤ k := fun k hk => by
          rcases HI2.out.2.1 k hk with h | h
          · exact HS0.out k h
          · have := HN0.out.size; have := HN4.out.size; omega
        have hlen1 : n - 1 = Ls.length := by rw [Hn.out]; simp
        have HS1n := Lib.hid hS1n
        have HwW := Lib.hid hwW
        have hseq2 : ∀ Jx', Acc W3.heap.size Jx' → ItGives Try.prog 36 #[.pointer (some ⟨W2.heap.size + 1, 0, none⟩), .pointer (some ⟨W2.heap.size + 1 + 1, 0, none⟩), .pointer (some ⟨W2.heap.size, 0, none⟩)] StAt (waysV rows Ls x) S1 W3 Jx' := fun Jx' hJx' =>
          HIh.out W3 (HN8.out.trans HN33.out (fun _ _ x => x)) S1 hS10 Jx' hJx' _ _ _ A' (n - 1) (c - 1) (css.drop 1) J2.out (hS1n _ (by omega)) hlen1 (by omega) (by unfold maxLen at hcm ⊢; omega) HRest2.out x Ax cx J3.out (hS1n _ (by omega)) (HSx.out.new HN33.out) HOkx.out.1 J1.out (hS1n _ (Nat.le_refl _)) (by rw [HSz.out]; have := HOkx.out.2; omega)
        have HSeq2 := Lib.hid hseq2
        have hr3 : ∃ r, W3.heap[l1]? = some (.loop r) := by
          obtain ⟨r, hr⟩ := HR.out
          exact ⟨r, (HN33.out.block l1 (lt_of_heap hr) id).trans hr⟩
        have hj0 : J (pre.flatMap (waysV rows Ls) ++ []) S1 W3 := by rw [List.append_nil]; exact HA.out.chg HI2.out.1 (HN33.out.mono fun _ _ h => h.elim)
        have HJ0 := Lib.hid hj0
        clear hS1W hS1n hwW hS10 hseq2 hj0 J1 J2 J3
        refine wpIn_range (gf := 36) (lb := #[.pointer (some ⟨W2.heap.size + 1, 0, none⟩), .pointer (some ⟨W2.heap.size + 1 + 1, 0, none⟩), .pointer (some ⟨W2.heap.size, 0, none⟩)]) (enc := StAt) (xs := waysV rows Ls x) (S := S1) hr3 rfl (enters_of Try.func36 (by kernel_rfl) rfl)
          (Fr W3 S1 J (fun zs => pre.flatMap (waysV rows Ls) ++ zs)) (RetF (Fr W3 S1 Jx (fun zs => pre.flatMap (waysV rows Ls) ++ zs))) (Fr.acc HA.out HwW.out) (fun c => RetF.acc (Fr.acc HJx.out HwW.out) c) HSeq2.out ⟨HJ0.out, fun k hk => .inl hk, Chg.refl _ _⟩ (fun h hs => h.less hs) ?round2 ?done2 ?stop2
        case done2 =>
          rintro S3 W7 hI3 hc3 hs3
          gi_wp2
          refine Fr.stp (f := fun zs => zs.flatMap (waysV rows Ls)) HI2.out.2.1 HI2.out.2.2 ⟨S3, ?_, (HN33.out.mono fun _ _ h => h.elim).trans hc3 (fun k _ h => h), fun k hk => ?_⟩
          · have := hI3.1
            rw [List.flatMap_append]
            simpa using this
          · rcases hs3 k hk with h | h
            · exact .inl h
            · exact .inr (Nat.le_trans HN33.out.size h)
        case stop2 =>
          rintro c0 pre2 y rest2 S3 W7 hx2 ⟨rfl, hI3⟩ hc3 hs3
          gi_wp2
          have hst3 : Stp (Cut Jx) ((pre ++ [x]).flatMap (waysV rows Ls)) S1 W2 W7 := by
            refine ⟨S3, ⟨pre.flatMap (waysV rows Ls) ++ pre2, y, rest2, ?_, ?_⟩, (HN33.out.mono fun _ _ h => h.elim).trans hc3 (fun k _ h => h), fun k hk => ?_⟩
            · rw [List.flatMap_append, List.append_assoc, ← hx2]
              simp
            · have := hI3.1
              rwa [List.append_assoc]
            · rcases hs3 k hk with h | h
              · exact .inl h
              · exact .inr (Nat.le_trans HN33.out.size h)
          obtain ⟨S4, hf, hc4, hs4⟩ := Fr.stp (f := fun zs => zs.flatMap (waysV rows Ls)) HI2.out.2.1 HI2.out.2.2 hst3
          exact ⟨S4, ⟨rfl, hf⟩, hc4, hs4⟩
        case round2 =>
          rintro l2' pre2 y rest2 S2 v2 Wq hx2 hm1 hm2 hmr hm3 hI3 hsv2
          obtain ⟨Ay, cy, rfl⟩ := hsv2.cells
          have Hsv2 := Lib.hid hsv2
          have HLr2 := Lib.hid hmr
          have HX2 := Lib.hid hx2
          clear hsv2 hmr hx2 hI3
          simp only [List.setIfInBounds_toArray, List.set_cons_succ, List.set_cons_zero]
          refine wpIn_region_lit ?_
          refine liftK (Wd.round l2') 2 (by rfl) ?_
          change wpList _ _ _ [_, _] _ _
          go_wp2_with ((with_reducible refine wpl_box rfl rfl 9 (.tmp 35) 66 rfl rfl rfl rfl stSta zSta [.slice Ay y.1.length cy, .int .i64 y.2] ?_ ?_ rfl (sta_one _ _ _ _) ?_); exact (by decide : 9 < 40); exact rfl; intro w5 hc5 hb5 hs5; have HC5 := Lib.hid hc5; have HB9 := Lib.hid hb5; clear hc5 hb5 hs5)
          refine wpListIn_nil ?_
          refine ⟨HC5.out, fun W6 hcW hcA hr2 hI6 => ?_⟩
          have HB9b := Lib.hid (HB9.out.chg hcA (fun h => by omega))
          have hsy := Hsv2.out.rec HLr2.out hcW
          have hb4n : ¬ S1 W.heap.size := fun h => by
            rcases HI2.out.2.1 _ h with h | h
            · have := HA.out.lt HJ.out _ h; omega
            · have := HB4.out.lt; have := HN3.out.size; have := HN34.out.size; omega
          have hb4m : ¬ S' W.heap.size := fun h => by have := HA.out.lt HJ.out _ h; omega
          have g4 : W6.cell? ⟨W.heap.size, 0, none⟩ = some (.func (.yield l) #[] #[]) := hI6.2.2.cellS (HN33.out.cellS (HI2.out.2.2.cellS C44.out hb4m) id) hb4n
          have hyl := HY.out (pre.flatMap (waysV rows Ls) ++ pre2) y (rest2 ++ rest.flatMap (waysV rows Ls)) S2 _ W6 (by
            have h1 : waysV rows (L :: Ls) s = (nextV rows L s).flatMap (waysV rows Ls) := rfl
            rw [h1, HX.out, List.flatMap_append, List.flatMap_cons, HX2.out]
            simp) hI6.1 hsy
          have HYl := Lib.hid hyl
          have HI6 := Lib.hid hI6
          obtain ⟨b9, hb9⟩ : ∃ b, Wq.heap.size = b := ⟨_, rfl⟩
          rw [hb9] at HB9b ⊢
          clear hcW hcA hr2 hI6 hsy hyl HB9 HC5 hb4n hb4m
          gi_step
          gi_step
          gi_step
          refine wpIn_region_lit ?_
          refine liftK (Wd.round l2') 2 (by rfl) ?_
          change wpList _ _ _ [_, _] _ _
          go_wp2_with ((with_reducible refine wpl_load rfl (.tmp 9) 66 rfl stSta ⟨b9, 0, none⟩ [.slice Ay y.1.length cy, .int .i64 y.2] ?_ rfl HB9b.out.at_ ?_); exact rfl)
          refine wplI_yield (Wd.round l2') rfl (.tmp 36) (.tmp 37) 66 rfl rfl rfl HYl.out ?_
          rintro b W8 hb
          have hbt : b = true → Stp J ((pre.flatMap (waysV rows Ls) ++ pre2) ++ [y]) S2 W6 W8 := fun h => by rw [if_pos h] at hb; exact hb
          have hbf : b = false → Stp Jx ((pre.flatMap (waysV rows Ls) ++ pre2) ++ [y]) S2 W6 W8 := fun h => by rw [if_neg (by rw [h]; exact Bool.false_ne_true)] at hb; exact hb
          have HBt := Lib.hid hbt
          have HBf := Lib.hid hbf
          clear hbt hbf hb HYl
          refine liftK (Wd.round l2') 1 (by rfl) ?_
          change wpList _ _ _ [_] _ _
          cases b with
          | true =>
            go_wp2_with fail
            refine wpListIn_nil ?_
            gi_wp2
            have h := HBt.out (by trivial)
            rw [List.append_assoc] at h
            exact Fr.stp (f := fun zs => pre.flatMap (waysV rows Ls) ++ zs) HI6.out.2.1 HI6.out.2.2 h
          | false =>
            go_wp2_with fail
            refine wpListIn_nil ?_
            gi_wp2
            have h := HBf.out (by trivial)
            rw [List.append_assoc] at h
            obtain ⟨S4, hf, hc4, hs4⟩ := Fr.stp (f := fun zs => pre.flatMap (waysV rows Ls) ++ zs) HI6.out.2.1 HI6.out.2.2 h
            exact ⟨S4, ⟨rfl, hf⟩, hc4, hs4⟩
    · have e1 : (L.kind == 1) = false := by simpa using hk
      go_wp2_with fail
      refine wp_range (gf := 38) (lb := #[.pointer (some ⟨p3, 0, none⟩), .pointer (some ⟨b5, 0, none⟩), .pointer (some ⟨p2, 0, none⟩)]) (enc := StAt) (xs := nextV rows L s) (S := S') rfl (enters_of Try.func38 (by kernel_rfl) rfl)
        (Fr w4 S' J (fun zs => zs.flatMap (waysV rows Ls))) (RetF (Fr w4 S' (Cut Jx) (fun zs => zs.flatMap (waysV rows Ls)))) (Fr.acc HA.out HLw.out) (fun c => RetF.acc (Fr.acc (Cut.acc HJx.out) HLw.out) c) ?hseq ⟨HA.out.chg HJ.out (HN4.out.mono fun _ _ h => h.elim), fun k hk => .inl hk, Chg.refl _ _⟩ (fun h hs => h.less hs) ?round ?done ?stop
      case hseq =>
        intro Jx' hJx'
        have hnx : nextV rows L s = (goesV rows L s).toList := by
          match L, hk with
          | .atom false nm ts, hk => exact absurd rfl hk
          | .atom true nm ts, _ => rfl
          | .test j a b, _ => rfl
          | .assign nm t, _ => rfl
        rw [hnx]
        have hn5 : ¬ S' b5 := fun h => by
          have := HA.out.lt HJ.out _ h
          have := HZ5.out
          have := HN1.out.size
          omega
        exact g43 w4 S' Jx' p3 b5 p2 _ _ _ _ _ _ (goesV rows L s) C34.out n3' B54.out.at_ hn5 C24.out n2' (fun Wx S1 hcx hlt hss =>
          goes_lt HD.out Wx ((HN0.out.trans HN4.out (fun _ _ x => x)).trans hcx (fun k hk h => by have := HS0.out k h; omega)) S1 hlt L Aa L.args.length ca csa rfl HTs.out okL hk s Ae ce ((HSt.out.new HN4.out).chg hcx hss) Hok.out (by omega))
      case done =>
        rintro D0 S2 W2 hD hDe hI hc2 hs2 hnD
        go_wp2_with fail
        exact leave_none rfl hDe (fun v => ⟨⟨v, rfl⟩, .inl (Fr.leave (f := fun zs => zs.flatMap (waysV rows Ls)) HA.out HLw.out HN4.out hI hD hnD _)⟩)
      case stop =>
        rintro D0 c0 pre x rest S2 W2 hx hD hDe ⟨rfl, hI⟩ hc2 hs2 hnD
        go_wp2_with fail
        refine leave_none rfl hDe (fun v => ⟨⟨v, rfl⟩, .inr ?_⟩)
        obtain ⟨S3, ⟨p, y, r, he, hj⟩, hc3, hs3⟩ := Fr.leave (f := fun zs => zs.flatMap (waysV rows Ls)) (Cut.acc HJx.out) HLw.out HN4.out hI hD hnD (.deferred none)
        refine ⟨p, y, r ++ rest.flatMap (waysV rows Ls), ?_, S3, hj, hc3, hs3⟩
        have h1 : waysV rows (L :: Ls) s = (nextV rows L s).flatMap (waysV rows Ls) := rfl
        rw [h1, hx, show pre ++ x :: rest = (pre ++ [x]) ++ rest by simp, List.flatMap_append, he]
        simp
      case round =>
        rintro l1 pre x rest S1 v Wr hx hl1 hl2 hlr hl3 hI hsv
        obtain ⟨Ax, cx, rfl⟩ := hsv.cells
        have hokx := next_ok HD.out.ok okL Hok.out (show x ∈ nextV rows L s by rw [hx]; simp)
        have Hsv := Lib.hid hsv
        have HLr := Lib.hid hlr
        have HOkx := Lib.hid hokx
        have HX := Lib.hid hx
        clear hsv hlr hokx hx hI
        simp only [List.setIfInBounds_toArray, List.set_cons_succ, List.set_cons_zero]
        refine wpIn_region_lit ?_
        refine liftK (Wd.round l1) 2 (by rfl) ?_
        change wpList _ _ _ [_, _] _ _
        go_wp2_with ((with_reducible refine wpl_box rfl rfl 8 (.tmp 30) 66 rfl rfl rfl rfl stSta zSta [.slice Ax x.1.length cx, .int .i64 x.2] ?_ ?_ rfl (sta_one _ _ _ _) ?_); exact (by decide : 8 < 40); exact rfl; intro w5 hc5 hb5 hs5; have HC5 := Lib.hid hc5; have HB8 := Lib.hid hb5; clear hc5 hb5 hs5)
        refine wpListIn_nil ?_
        refine ⟨HC5.out, fun W2 hcW hcA hr hI2 => ?_⟩
        have HB8b := Lib.hid (HB8.out.chg hcA (fun h => by omega))
        have HSx := Lib.hid (Hsv.out.rec HLr.out hcW)
        have HI2 := Lib.hid hI2
        have hn8 : New w0 W2 := (HN0.out.trans HN4.out (fun _ _ x => x)).trans hI2.2.2 (fun k hk h => by have := HS0.out k h; omega)
        have HN8 := Lib.hid hn8
        have hb6n : ¬ S' b6 := fun h => by
          have := HA.out.lt HJ.out _ h
          have := HZ6.out
          have := HN1.out.size
          omega
        have g3 := hI2.2.2.cellS C34.out n3'
        have g6 := (B64.out.chg hI2.2.2 hb6n).cell 0
        simp only [List.getElem?_toArray, List.getElem?_cons_zero] at g6
        have HR := Lib.hid hr
        obtain ⟨b8, hb8⟩ : ∃ b, Wr.heap.size = b := ⟨_, rfl⟩
        rw [hb8] at HB8b ⊢
        clear hcW hcA hr hI2 hn8 HB8 HC5 hb6n
        gi_step
        gi_step
        gi_step
        refine wpIn_region_lit ?_
        refine liftK (Wd.round l1) 4 (by rfl) ?_
        change wpList _ _ _ [_, _, _, _] _ _
        go_wp2_with first
          | ((with_reducible refine wpl_load rfl (.tmp 8) 66 rfl stSta ⟨b8, 0, none⟩ [.slice Ax x.1.length cx, .int .i64 x.2] ?_ rfl HB8b.out.at_ ?_); exact rfl)
          | (go_at_call 19; refine (ways_made _ _ _ _ _ _ _).mono ?_; rintro e W3 ⟨rfl, hN33, k1, k2, k3, k4⟩; have HN33 := Lib.hid hN33; have J1 := Lib.hid k1; have J2 := Lib.hid k2; have J3 := Lib.hid k3; have J4 := Lib.hid k4; clear hN33 k1 k2 k3 k4 g3 g6)
        refine wpListIn_nil ?_
        gi_wp2
        have hS1W : ∀ k, S1 k → k < W2.heap.size := fun k hk => HA.out.lt HI2.out.1 k hk
        have hS1n : ∀ k, W2.heap.size ≤ k → ¬ S1 k := fun k hk h => by have := hS1W k h; omega
        have hwW : w.heap.size ≤ W3.heap.size := Nat.le_trans HLw.out (Nat.le_trans HI2.out.2.2.size HN33.out.size)
        have hS10 : ∀ k, S1 k → w0.heap.size ≤ k := fun k hk => by
          rcases HI2.out.2.1 k hk with h | h
          · exact HS0.out k h
          · have := HN0.out.size; have := HN4.out.size; omega
        have hlen1 : n - 1 = Ls.length := by rw [Hn.out]; simp
        have HS1n := Lib.hid hS1n
        have HwW := Lib.hid hwW
        have hseq2 : ∀ Jx', Acc W3.heap.size Jx' → ItGives Try.prog 36 #[.pointer (some ⟨W2.heap.size + 1, 0, none⟩), .pointer (some ⟨W2.heap.size + 1 + 1, 0, none⟩), .pointer (some ⟨W2.heap.size, 0, none⟩)] StAt (waysV rows Ls x) S1 W3 Jx' := fun Jx' hJx' =>
          HIh.out W3 (HN8.out.trans HN33.out (fun _ _ x => x)) S1 hS10 Jx' hJx' _ _ _ A' (n - 1) (c - 1) (css.drop 1) J2.out (hS1n _ (by omega)) hlen1 (by omega) (by unfold maxLen at hcm ⊢; omega) HRest2.out x Ax cx J3.out (hS1n _ (by omega)) (HSx.out.new HN33.out) HOkx.out.1 J1.out (hS1n _ (Nat.le_refl _)) (by rw [HSz.out]; have := HOkx.out.2; omega)
        have HSeq2 := Lib.hid hseq2
        have hr3 : ∃ r, W3.heap[l1]? = some (.loop r) := by
          obtain ⟨r, hr⟩ := HR.out
          exact ⟨r, (HN33.out.block l1 (lt_of_heap hr) id).trans hr⟩
        have hj0 : J (pre.flatMap (waysV rows Ls) ++ []) S1 W3 := by rw [List.append_nil]; exact HA.out.chg HI2.out.1 (HN33.out.mono fun _ _ h => h.elim)
        have HJ0 := Lib.hid hj0
        clear hS1W hS1n hwW hS10 hseq2 hj0 J1 J2 J3
        refine wpIn_range (gf := 36) (lb := #[.pointer (some ⟨W2.heap.size + 1, 0, none⟩), .pointer (some ⟨W2.heap.size + 1 + 1, 0, none⟩), .pointer (some ⟨W2.heap.size, 0, none⟩)]) (enc := StAt) (xs := waysV rows Ls x) (S := S1) hr3 rfl (enters_of Try.func36 (by kernel_rfl) rfl)
          (Fr W3 S1 J (fun zs => pre.flatMap (waysV rows Ls) ++ zs)) (RetF (Fr W3 S1 Jx (fun zs => pre.flatMap (waysV rows Ls) ++ zs))) (Fr.acc HA.out HwW.out) (fun c => RetF.acc (Fr.acc HJx.out HwW.out) c) HSeq2.out ⟨HJ0.out, fun k hk => .inl hk, Chg.refl _ _⟩ (fun h hs => h.less hs) ?round2 ?done2 ?stop2
        case done2 =>
          rintro S3 W7 hI3 hc3 hs3
          gi_wp2
          refine Fr.stp (f := fun zs => zs.flatMap (waysV rows Ls)) HI2.out.2.1 HI2.out.2.2 ⟨S3, ?_, (HN33.out.mono fun _ _ h => h.elim).trans hc3 (fun k _ h => h), fun k hk => ?_⟩
          · have := hI3.1
            rw [List.flatMap_append]
            simpa using this
          · rcases hs3 k hk with h | h
            · exact .inl h
            · exact .inr (Nat.le_trans HN33.out.size h)
        case stop2 =>
          rintro c0 pre2 y rest2 S3 W7 hx2 ⟨rfl, hI3⟩ hc3 hs3
          gi_wp2
          have hst3 : Stp (Cut Jx) ((pre ++ [x]).flatMap (waysV rows Ls)) S1 W2 W7 := by
            refine ⟨S3, ⟨pre.flatMap (waysV rows Ls) ++ pre2, y, rest2, ?_, ?_⟩, (HN33.out.mono fun _ _ h => h.elim).trans hc3 (fun k _ h => h), fun k hk => ?_⟩
            · rw [List.flatMap_append, List.append_assoc, ← hx2]
              simp
            · have := hI3.1
              rwa [List.append_assoc]
            · rcases hs3 k hk with h | h
              · exact .inl h
              · exact .inr (Nat.le_trans HN33.out.size h)
          obtain ⟨S4, hf, hc4, hs4⟩ := Fr.stp (f := fun zs => zs.flatMap (waysV rows Ls)) HI2.out.2.1 HI2.out.2.2 hst3
          exact ⟨S4, ⟨rfl, hf⟩, hc4, hs4⟩
        case round2 =>
          rintro l2' pre2 y rest2 S2 v2 Wq hx2 hm1 hm2 hmr hm3 hI3 hsv2
          obtain ⟨Ay, cy, rfl⟩ := hsv2.cells
          have Hsv2 := Lib.hid hsv2
          have HLr2 := Lib.hid hmr
          have HX2 := Lib.hid hx2
          clear hsv2 hmr hx2 hI3
          simp only [List.setIfInBounds_toArray, List.set_cons_succ, List.set_cons_zero]
          refine wpIn_region_lit ?_
          refine liftK (Wd.round l2') 2 (by rfl) ?_
          change wpList _ _ _ [_, _] _ _
          go_wp2_with ((with_reducible refine wpl_box rfl rfl 9 (.tmp 35) 66 rfl rfl rfl rfl stSta zSta [.slice Ay y.1.length cy, .int .i64 y.2] ?_ ?_ rfl (sta_one _ _ _ _) ?_); exact (by decide : 9 < 40); exact rfl; intro w5 hc5 hb5 hs5; have HC5 := Lib.hid hc5; have HB9 := Lib.hid hb5; clear hc5 hb5 hs5)
          refine wpListIn_nil ?_
          refine ⟨HC5.out, fun W6 hcW hcA hr2 hI6 => ?_⟩
          have HB9b := Lib.hid (HB9.out.chg hcA (fun h => by omega))
          have hsy := Hsv2.out.rec HLr2.out hcW
          have hb4n : ¬ S1 W.heap.size := fun h => by
            rcases HI2.out.2.1 _ h with h | h
            · have := HA.out.lt HJ.out _ h; omega
            · have := HB4.out.lt; have := HN3.out.size; have := HN34.out.size; omega
          have hb4m : ¬ S' W.heap.size := fun h => by have := HA.out.lt HJ.out _ h; omega
          have g4 : W6.cell? ⟨W.heap.size, 0, none⟩ = some (.func (.yield l) #[] #[]) := hI6.2.2.cellS (HN33.out.cellS (HI2.out.2.2.cellS C44.out hb4m) id) hb4n
          have hyl := HY.out (pre.flatMap (waysV rows Ls) ++ pre2) y (rest2 ++ rest.flatMap (waysV rows Ls)) S2 _ W6 (by
            have h1 : waysV rows (L :: Ls) s = (nextV rows L s).flatMap (waysV rows Ls) := rfl
            rw [h1, HX.out, List.flatMap_append, List.flatMap_cons, HX2.out]
            simp) hI6.1 hsy
          have HYl := Lib.hid hyl
          have HI6 := Lib.hid hI6
          obtain ⟨b9, hb9⟩ : ∃ b, Wq.heap.size = b := ⟨_, rfl⟩
          rw [hb9] at HB9b ⊢
          clear hcW hcA hr2 hI6 hsy hyl HB9 HC5 hb4n hb4m
          gi_step
          gi_step
          gi_step
          refine wpIn_region_lit ?_
          refine liftK (Wd.round l2') 2 (by rfl) ?_
          change wpList _ _ _ [_, _] _ _
          go_wp2_with ((with_reducible refine wpl_load rfl (.tmp 9) 66 rfl stSta ⟨b9, 0, none⟩ [.slice Ay y.1.length cy, .int .i64 y.2] ?_ rfl HB9b.out.at_ ?_); exact rfl)
          refine wplI_yield (Wd.round l2') rfl (.tmp 36) (.tmp 37) 66 rfl rfl rfl HYl.out ?_
          rintro b W8 hb
          have hbt : b = true → Stp J ((pre.flatMap (waysV rows Ls) ++ pre2) ++ [y]) S2 W6 W8 := fun h => by rw [if_pos h] at hb; exact hb
          have hbf : b = false → Stp Jx ((pre.flatMap (waysV rows Ls) ++ pre2) ++ [y]) S2 W6 W8 := fun h => by rw [if_neg (by rw [h]; exact Bool.false_ne_true)] at hb; exact hb
          have HBt := Lib.hid hbt
          have HBf := Lib.hid hbf
          clear hbt hbf hb HYl
          refine liftK (Wd.round l2') 1 (by rfl) ?_
          change wpList _ _ _ [_] _ _
          cases b with
          | true =>
            go_wp2_with fail
            refine wpListIn_nil ?_
            gi_wp2
            have h := HBt.out (by trivial)
            rw [List.append_assoc] at h
            exact Fr.stp (f := fun zs => pre.flatMap (waysV rows Ls) ++ zs) HI6.out.2.1 HI6.out.2.2 h
          | false =>
            go_wp2_with fail
            refine wpListIn_nil ?_
            gi_wp2
            have h := HBf.out (by trivial)
            rw [List.append_assoc] at h
            obtain ⟨S4, hf, hc4, hs4⟩ := Fr.stp (f := fun zs => pre.flatMap (waysV rows Ls) ++ zs) HI6.out.2.1 HI6.out.2.2 h
            exact ⟨S4, ⟨rfl, hf⟩, hc4, hs4⟩
  · rw [HA'.out]
    have hfn : Blk ((w1.alloc (.cells #[.slice A' (n - 1) (c - 1)] 25)).alloc (.cells #[.int .i64 L.kind, .string L.name, .slice Aa L.args.length ca] 43)) (w1.heap.size + 1) 43 #[.int .i64 L.kind, .string L.name, .slice Aa L.args.length ca] ∧ Blk ((w1.alloc (.cells #[.slice A' (n - 1) (c - 1)] 25)).alloc (.cells #[.int .i64 L.kind, .string L.name, .slice Aa L.args.length ca] 43)) (w1.heap.size) 25 #[.slice A' (n - 1) (c - 1)] := by
      have k1 := (Blk.new w1 _ _).alloc (w := w1.alloc (.cells #[.slice A' (n - 1) (c - 1)] 25)) (.cells #[.int .i64 L.kind, .string L.name, .slice Aa L.args.length ca] 43)
      have k2 := Blk.new (w1.alloc (.cells #[.slice A' (n - 1) (c - 1)] 25)) 43 #[.int .i64 L.kind, .string L.name, .slice Aa L.args.length ca]
      rw [World.size_alloc] at k2
      exact ⟨k2, k1⟩
    have hn3 : New w1 ((w1.alloc (.cells #[.slice A' (n - 1) (c - 1)] 25)).alloc (.cells #[.int .i64 L.kind, .string L.name, .slice Aa L.args.length ca] 43)).drew := (((Chg.refl _ _).alloc _).alloc _).drew
    obtain ⟨b5, b6⟩ := hfn
    have B5 := Lib.hid (show Blk ((w1.alloc (.cells #[.slice A' (n - 1) (c - 1)] 25)).alloc (.cells #[.int .i64 L.kind, .string L.name, .slice Aa L.args.length ca] 43)).drew _ _ _ from b5)
    have B6 := Lib.hid (show Blk ((w1.alloc (.cells #[.slice A' (n - 1) (c - 1)] 25)).alloc (.cells #[.int .i64 L.kind, .string L.name, .slice Aa L.args.length ca] 43)).drew _ _ _ from b6)
    have HN3 := Lib.hid hn3
    clear b5 b6 hn3
    generalize ((w1.alloc (.cells #[.slice A' (n - 1) (c - 1)] 25)).alloc (.cells #[.int .i64 L.kind, .string L.name, .slice Aa L.args.length ca] 43)).drew = w3 at B5 B6 HN3 ⊢
    obtain ⟨b5, hb5⟩ : ∃ b, w1.heap.size + 1 = b := ⟨_, rfl⟩
    obtain ⟨b6, hb6⟩ : ∃ b, w1.heap.size = b := ⟨_, rfl⟩
    rw [hb5, hb6]
    rw [hb5] at B5
    rw [hb6] at B6
    have HZ5 := Lib.hid hb5
    have HZ6 := Lib.hid hb6
    clear hb5 hb6
    have c1 := HN3.out.cellS d1 id
    have c3 := (HN1.out.trans HN3.out (fun _ _ x => x)).cellS HC3.out id
    have HC23 := Lib.hid (HC2.out.chg (HN1.out.trans HN3.out (fun _ _ x => x)) id)
    clear d1a d1b f0a f0b f1a f1b f2a f2b f0 f1 f2 d1
    go_upto_region 5 with first
      | ((with_reducible refine wpl_load rfl (.tmp 5) 43 rfl stLit ⟨b5, 0, none⟩ [.int .i64 L.kind, .string L.name, .slice Aa L.args.length ca] ?_ rfl B5.out.at_ ?_); exact rfl)
      | ((with_reducible refine wpl_load rfl (.tmp 2) 66 rfl stSta ⟨p2, 0, none⟩ [.slice Ae s.1.length ce, .int .i64 s.2] ?_ rfl HC23.out ?_); exact rfl)
      | (go_at_call 37; refine (atoms_made _ _ _ _ _ _ _).mono ?_; rintro e w4 ⟨rfl, hN4, k1, k2, k3, k4⟩; have HN34 := Lib.hid hN4; have K1 := Lib.hid k1; have K2 := Lib.hid k2; have K3 := Lib.hid k3; have K4 := Lib.hid k4; have c50 := (B5.out.chg hN4 id).cell 0; simp only [List.getElem?_toArray, List.getElem?_cons_zero] at c50; clear hN4 k1 k2 k3 k4)
    have HN4 := Lib.hid ((HN1.out.trans HN3.out (fun _ _ x => x)).trans HN34.out (fun _ _ x => x))
    have HLw := Lib.hid (show w.heap.size ≤ w4.heap.size from Nat.le_trans HHc.out.size HN4.out.size)
    have B54 := Lib.hid (B5.out.chg HN34.out id)
    have B64 := Lib.hid (B6.out.chg HN34.out id)
    have C44 := Lib.hid ((HB4.out.chg (HN3.out.trans HN34.out (fun _ _ x => x)) id).cell 0)
    have C24 := Lib.hid (HC23.out.chg HN34.out id)
    have C34 := Lib.hid (HN34.out.cellS c3 id)
    clear c1 c3
    by_cases hk : L.kind = 1
    · have e1 : (L.kind == 1) = true := by simpa using hk
      go_wp2_with fail
      refine wp_range (gf := 45) (lb := #[.pointer (some ⟨w3.heap.size, 0, none⟩), .pointer (some ⟨w3.heap.size + 1, 0, none⟩), .pointer (some ⟨w3.heap.size + 1 + 1, 0, none⟩)]) (enc := StAt) (xs := nextV rows L s) (S := S') rfl (enters_of Try.func45 (by kernel_rfl) rfl)
        (Fr w4 S' J (fun zs => zs.flatMap (waysV rows Ls))) (RetF (Fr w4 S' (Cut Jx) (fun zs => zs.flatMap (waysV rows Ls)))) (Fr.acc HA.out HLw.out) (fun c => RetF.acc (Fr.acc (Cut.acc HJx.out) HLw.out) c) ?hseq ⟨HA.out.chg HJ.out (HN4.out.mono fun _ _ h => h.elim), fun k hk => .inl hk, Chg.refl _ _⟩ (fun h hs => h.less hs) ?round ?done ?stop
      case hseq =>
        intro Jx' hJx'
        obtain ⟨nm, ts, rfl⟩ : ∃ nm ts, L = .atom false nm ts := by
          match L, hk with
          | .atom false nm ts, _ => exact ⟨nm, ts, rfl⟩
          | .atom true nm ts, hk => exact absurd (show (2 : Int) = 1 from hk) (by decide)
          | .test j a b, hk => exact absurd (show (3 : Int) = 1 from hk) (by decide)
          | .assign nm t, hk => exact absurd (show (4 : Int) = 1 from hk) (by decide)
        have hns : ∀ k, w3.heap.size ≤ k → ¬ S' k := fun k hk' h => by
          have := HA.out.lt HJ.out k h
          have := (HN1.out.trans HN3.out (fun _ _ x => x)).size
          omega
        have hs2 : s.1.length + ts.length ≤ 1000 := by have : (Lt.atom false nm ts).size = ts.length := rfl; omega
        exact g49 w0 w4 (HN0.out.trans HN4.out (fun _ _ x => x)) S' HS0.out Jx' _ _ _ bm m (named rows nm) K1.out (hns _ (Nat.le_refl _)) HD.out.map 1 nm Aa ts.length ca csa ts K2.out (hns _ (by omega)) rfl HTs.out okL (HD.out.look nm) (fun r hr => HD.out.ok r (List.mem_filter.1 hr).1) s Ae ce K3.out (hns _ (by omega)) (HSt.out.new HN4.out) Hok.out hs2
      case done =>
        rintro D0 S2 W2 hD hDe hI hc2 hs2 hnD
        go_wp2_with fail
        exact leave_none rfl hDe (fun v => ⟨⟨v, rfl⟩, .inl (Fr.leave (f := fun zs => zs.flatMap (waysV rows Ls)) HA.out HLw.out HN4.out hI hD hnD _)⟩)
      case stop =>
        rintro D0 c0 pre x rest S2 W2 hx hD hDe ⟨rfl, hI⟩ hc2 hs2 hnD
        go_wp2_with fail
        refine leave_none rfl hDe (fun v => ⟨⟨v, rfl⟩, .inr ?_⟩)
        obtain ⟨S3, ⟨p, y, r, he, hj⟩, hc3, hs3⟩ := Fr.leave (f := fun zs => zs.flatMap (waysV rows Ls)) (Cut.acc HJx.out) HLw.out HN4.out hI hD hnD (.deferred none)
        refine ⟨p, y, r ++ rest.flatMap (waysV rows Ls), ?_, S3, hj, hc3, hs3⟩
        have h1 : waysV rows (L :: Ls) s = (nextV rows L s).flatMap (waysV rows Ls) := rfl
        rw [h1, hx, show pre ++ x :: rest = (pre ++ [x]) ++ rest by simp, List.flatMap_append, he]
        simp
      case round =>
        rintro l1 pre x rest S1 v Wr hx hl1 hl2 hlr hl3 hI hsv
        obtain ⟨Ax, cx, rfl⟩ := hsv.cells
        have hokx := next_ok HD.out.ok okL Hok.out (show x ∈ nextV rows L s by rw [hx]; simp)
        have Hsv := Lib.hid hsv
        have HLr := Lib.hid hlr
        have HOkx := Lib.hid hokx
        have HX := Lib.hid hx
        clear hsv hlr hokx hx hI
        simp only [List.setIfInBounds_toArray, List.set_cons_succ, List.set_cons_zero]
        refine wpIn_region_lit ?_
        refine liftK (Wd.round l1) 2 (by rfl) ?_
        change wpList _ _ _ [_, _] _ _
        go_wp2_with ((with_reducible refine wpl_box rfl rfl 8 (.tmp 30) 66 rfl rfl rfl rfl stSta zSta [.slice Ax x.1.length cx, .int .i64 x.2] ?_ ?_ rfl (sta_one _ _ _ _) ?_); exact (by decide : 8 < 40); exact rfl; intro w5 hc5 hb5 hs5; have HC5 := Lib.hid hc5; have HB8 := Lib.hid hb5; clear hc5 hb5 hs5)
        refine wpListIn_nil ?_
        refine ⟨HC5.out, fun W2 hcW hcA hr hI2 => ?_⟩
        have HB8b := Lib.hid (HB8.out.chg hcA (fun h => by omega))
        have HSx := Lib.hid (Hsv.out.rec HLr.out hcW)
        have HI2 := Lib.hid hI2
        have hn8 : New w0 W2 := (HN0.out.trans HN4.out (fun _ _ x => x)).trans hI2.2.2 (fun k hk h => by have := HS0.out k h; omega)
        have HN8 := Lib.hid hn8
        have hb6n : ¬ S' b6 := fun h => by
          have := HA.out.lt HJ.out _ h
          have := HZ6.out
          have := HN1.out.size
          omega
        have g3 := hI2.2.2.cellS C34.out n3'
        have g6 := (B64.out.chg hI2.2.2 hb6n).cell 0
        simp only [List.getElem?_toArray, List.getElem?_cons_zero] at g6
        have HR := Lib.hid hr
        obtain ⟨b8, hb8⟩ : ∃ b, Wr.heap.size = b := ⟨_, rfl⟩
        rw [hb8] at HB8b ⊢
        clear hcW hcA hr hI2 hn8 HB8 HC5 hb6n
        gi_step
        gi_step
        gi_step
        refine wpIn_region_lit ?_
        refine liftK (Wd.round l1) 4 (by rfl) ?_
        change wpList _ _ _ [_, _, _, _] _ _
        go_wp2_with first
          | ((with_reducible refine wpl_load rfl (.tmp 8) 66 rfl stSta ⟨b8, 0, none⟩ [.slice Ax x.1.length cx, .int .i64 x.2] ?_ rfl HB8b.out.at_ ?_); exact rfl)
          | (go_at_call 19; refine (ways_made _ _ _ _ _ _ _).mono ?_; rintro e W3 ⟨rfl, hN33, k1, k2, k3, k4⟩; have HN33 := Lib.hid hN33; have J1 := Lib.hid k1; have J2 := Lib.hid k2; have J3 := Lib.hid k3; have J4 := Lib.hid k4; clear hN33 k1 k2 k3 k4 g3 g6)
        refine wpListIn_nil ?_
        gi_wp2
        have hS1W : ∀ k, S1 k → k < W2.heap.size := fun k hk => HA.out.lt HI2.out.1 k hk
        have hS1n : ∀ k, W2.heap.size ≤ k → ¬ S1 k := fun k hk h => by have := hS1W k h; omega
        have hwW : w.heap.size ≤ W3.heap.size := Nat.le_trans HLw.out (Nat.le_trans HI2.out.2.2.size HN33.out.size)
        have hS10 : ∀ k, S1 k → w0.heap.size ≤ k := fun k hk => by
          rcases HI2.out.2.1 k hk with h | h
          · exact HS0.out k h
          · have := HN0.out.size; have := HN4.out.size; omega
        have hlen1 : n - 1 = Ls.length := by rw [Hn.out]; simp
        have HS1n := Lib.hid hS1n
        have HwW := Lib.hid hwW
        have hseq2 : ∀ Jx', Acc W3.heap.size Jx' → ItGives Try.prog 36 #[.pointer (some ⟨W2.heap.size + 1, 0, none⟩), .pointer (some ⟨W2.heap.size + 1 + 1, 0, none⟩), .pointer (some ⟨W2.heap.size, 0, none⟩)] StAt (waysV rows Ls x) S1 W3 Jx' := fun Jx' hJx' =>
          HIh.out W3 (HN8.out.trans HN33.out (fun _ _ x => x)) S1 hS10 Jx' hJx' _ _ _ A' (n - 1) (c - 1) (css.drop 1) J2.out (hS1n _ (by omega)) hlen1 (by omega) (by unfold maxLen at hcm ⊢; omega) HRest2.out x Ax cx J3.out (hS1n _ (by omega)) (HSx.out.new HN33.out) HOkx.out.1 J1.out (hS1n _ (Nat.le_refl _)) (by rw [HSz.out]; have := HOkx.out.2; omega)
        have HSeq2 := Lib.hid hseq2
        have hr3 : ∃ r, W3.heap[l1]? = some (.loop r) := by
          obtain ⟨r, hr⟩ := HR.out
          exact ⟨r, (HN33.out.block l1 (lt_of_heap hr) id).trans hr⟩
        have hj0 : J (pre.flatMap (waysV rows Ls) ++ []) S1 W3 := by rw [List.append_nil]; exact HA.out.chg HI2.out.1 (HN33.out.mono fun _ _ h => h.elim)
        have HJ0 := Lib.hid hj0
        clear hS1W hS1n hwW hS10 hseq2 hj0 J1 J2 J3
        refine wpIn_range (gf := 36) (lb := #[.pointer (some ⟨W2.heap.size + 1, 0, none⟩), .pointer (some ⟨W2.heap.size + 1 + 1, 0, none⟩), .pointer (some ⟨W2.heap.size, 0, none⟩)]) (enc := StAt) (xs := waysV rows Ls x) (S := S1) hr3 rfl (enters_of Try.func36 (by kernel_rfl) rfl)
          (Fr W3 S1 J (fun zs => pre.flatMap (waysV rows Ls) ++ zs)) (RetF (Fr W3 S1 Jx (fun zs => pre.flatMap (waysV rows Ls) ++ zs))) (Fr.acc HA.out HwW.out) (fun c => RetF.acc (Fr.acc HJx.out HwW.out) c) HSeq2.out ⟨HJ0.out, fun k hk => .inl hk, Chg.refl _ _⟩ (fun h hs => h.less hs) ?round2 ?done2 ?stop2
        case done2 =>
          rintro S3 W7 hI3 hc3 hs3
          gi_wp2
          refine Fr.stp (f := fun zs => zs.flatMap (waysV rows Ls)) HI2.out.2.1 HI2.out.2.2 ⟨S3, ?_, (HN33.out.mono fun _ _ h => h.elim).trans hc3 (fun k _ h => h), fun k hk => ?_⟩
          · have := hI3.1
            rw [List.flatMap_append]
            simpa using this
          · rcases hs3 k hk with h | h
            · exact .inl h
            · exact .inr (Nat.le_trans HN33.out.size h)
        case stop2 =>
          rintro c0 pre2 y rest2 S3 W7 hx2 ⟨rfl, hI3⟩ hc3 hs3
          gi_wp2
          have hst3 : Stp (Cut Jx) ((pre ++ [x]).flatMap (waysV rows Ls)) S1 W2 W7 := by
            refine ⟨S3, ⟨pre.flatMap (waysV rows Ls) ++ pre2, y, rest2, ?_, ?_⟩, (HN33.out.mono fun _ _ h => h.elim).trans hc3 (fun k _ h => h), fun k hk => ?_⟩
            · rw [List.flatMap_append, List.append_assoc, ← hx2]
              simp
            · have := hI3.1
              rwa [List.append_assoc]
            · rcases hs3 k hk with h | h
              · exact .inl h
              · exact .inr (Nat.le_trans HN33.out.size h)
          obtain ⟨S4, hf, hc4, hs4⟩ := Fr.stp (f := fun zs => zs.flatMap (waysV rows Ls)) HI2.out.2.1 HI2.out.2.2 hst3
          exact ⟨S4, ⟨rfl, hf⟩, hc4, hs4⟩
        case round2 =>
          rintro l2' pre2 y rest2 S2 v2 Wq hx2 hm1 hm2 hmr hm3 hI3 hsv2
          obtain ⟨Ay, cy, rfl⟩ := hsv2.cells
          have Hsv2 := Lib.hid hsv2
          have HLr2 := Lib.hid hmr
          have HX2 := Lib.hid hx2
          clear hsv2 hmr hx2 hI3
          simp only [List.setIfInBounds_toArray, List.set_cons_succ, List.set_cons_zero]
          refine wpIn_region_lit ?_
          refine liftK (Wd.round l2') 2 (by rfl) ?_
          change wpList _ _ _ [_, _] _ _
          go_wp2_with ((with_reducible refine wpl_box rfl rfl 9 (.tmp 35) 66 rfl rfl rfl rfl stSta zSta [.slice Ay y.1.length cy, .int .i64 y.2] ?_ ?_ rfl (sta_one _ _ _ _) ?_); exact (by decide : 9 < 40); exact rfl; intro w5 hc5 hb5 hs5; have HC5 := Lib.hid hc5; have HB9 := Lib.hid hb5; clear hc5 hb5 hs5)
          refine wpListIn_nil ?_
          refine ⟨HC5.out, fun W6 hcW hcA hr2 hI6 => ?_⟩
          have HB9b := Lib.hid (HB9.out.chg hcA (fun h => by omega))
          have hsy := Hsv2.out.rec HLr2.out hcW
          have hb4n : ¬ S1 W.heap.size := fun h => by
            rcases HI2.out.2.1 _ h with h | h
            · have := HA.out.lt HJ.out _ h; omega
            · have := HB4.out.lt; have := HN3.out.size; have := HN34.out.size; omega
          have hb4m : ¬ S' W.heap.size := fun h => by have := HA.out.lt HJ.out _ h; omega
          have g4 : W6.cell? ⟨W.heap.size, 0, none⟩ = some (.func (.yield l) #[] #[]) := hI6.2.2.cellS (HN33.out.cellS (HI2.out.2.2.cellS C44.out hb4m) id) hb4n
          have hyl := HY.out (pre.flatMap (waysV rows Ls) ++ pre2) y (rest2 ++ rest.flatMap (waysV rows Ls)) S2 _ W6 (by
            have h1 : waysV rows (L :: Ls) s = (nextV rows L s).flatMap (waysV rows Ls) := rfl
            rw [h1, HX.out, List.flatMap_append, List.flatMap_cons, HX2.out]
            simp) hI6.1 hsy
          have HYl := Lib.hid hyl
          have HI6 := Lib.hid hI6
          obtain ⟨b9, hb9⟩ : ∃ b, Wq.heap.size = b := ⟨_, rfl⟩
          rw [hb9] at HB9b ⊢
          clear hcW hcA hr2 hI6 hsy hyl HB9 HC5 hb4n hb4m
          gi_step
          gi_step
          gi_step
          refine wpIn_region_lit ?_
          refine liftK (Wd.round l2') 2 (by rfl) ?_
          change wpList _ _ _ [_, _] _ _
          go_wp2_with ((with_reducible refine wpl_load rfl (.tmp 9) 66 rfl stSta ⟨b9, 0, none⟩ [.slice Ay y.1.length cy, .int .i64 y.2] ?_ rfl HB9b.out.at_ ?_); exact rfl)
          refine wplI_yield (Wd.round l2') rfl (.tmp 36) (.tmp 37) 66 rfl rfl rfl HYl.out ?_
          rintro b W8 hb
          have hbt : b = true → Stp J ((pre.flatMap (waysV rows Ls) ++ pre2) ++ [y]) S2 W6 W8 := fun h => by rw [if_pos h] at hb; exact hb
          have hbf : b = false → Stp Jx ((pre.flatMap (waysV rows Ls) ++ pre2) ++ [y]) S2 W6 W8 := fun h => by rw [if_neg (by rw [h]; exact Bool.false_ne_true)] at hb; exact hb
          have HBt := Lib.hid hbt
          have HBf := Lib.hid hbf
          clear hbt hbf hb HYl
          refine liftK (Wd.round l2') 1 (by rfl) ?_
          change wpList _ _ _ [_] _ _
          cases b with
          | true =>
            go_wp2_with fail
            refine wpListIn_nil ?_
            gi_wp2
            have h := HBt.out (by trivial)
            rw [List.append_assoc] at h
            exact Fr.stp (f := fun zs => pre.flatMap (waysV rows Ls) ++ zs) HI6.out.2.1 HI6.out.2.2 h
          | false =>
            go_wp2_with fail
            refine wpListIn_nil ?_
            gi_wp2
            have h := HBf.out (by trivial)
            rw [List.append_assoc] at h
            obtain ⟨S4, hf, hc4, hs4⟩ := Fr.stp (f := fun zs => pre.flatMap (waysV rows Ls) ++ zs) HI6.out.2.1 HI6.out.2.2 h
            exact ⟨S4, ⟨rfl, hf⟩, hc4, hs4⟩
    · have e1 : (L.kind == 1) = false := by simpa using hk
      go_wp2_with fail
      refine wp_range (gf := 38) (lb := #[.pointer (some ⟨p3, 0, none⟩), .pointer (some ⟨b5, 0, none⟩), .pointer (some ⟨p2, 0, none⟩)]) (enc := StAt) (xs := nextV rows L s) (S := S') rfl (enters_of Try.func38 (by kernel_rfl) rfl)
        (Fr w4 S' J (fun zs => zs.flatMap (waysV rows Ls))) (RetF (Fr w4 S' (Cut Jx) (fun zs => zs.flatMap (waysV rows Ls)))) (Fr.acc HA.out HLw.out) (fun c => RetF.acc (Fr.acc (Cut.acc HJx.out) HLw.out) c) ?hseq ⟨HA.out.chg HJ.out (HN4.out.mono fun _ _ h => h.elim), fun k hk => .inl hk, Chg.refl _ _⟩ (fun h hs => h.less hs) ?round ?done ?stop
      case hseq =>
        intro Jx' hJx'
        have hnx : nextV rows L s = (goesV rows L s).toList := by
          match L, hk with
          | .atom false nm ts, hk => exact absurd rfl hk
          | .atom true nm ts, _ => rfl
          | .test j a b, _ => rfl
          | .assign nm t, _ => rfl
        rw [hnx]
        have hn5 : ¬ S' b5 := fun h => by
          have := HA.out.lt HJ.out _ h
          have := HZ5.out
          have := HN1.out.size
          omega
        exact g43 w4 S' Jx' p3 b5 p2 _ _ _ _ _ _ (goesV rows L s) C34.out n3' B54.out.at_ hn5 C24.out n2' (fun Wx S1 hcx hlt hss =>
          goes_lt HD.out Wx ((HN0.out.trans HN4.out (fun _ _ x => x)).trans hcx (fun k hk h => by have := HS0.out k h; omega)) S1 hlt L Aa L.args.length ca csa rfl HTs.out okL hk s Ae ce ((HSt.out.new HN4.out).chg hcx hss) Hok.out (by omega))
      case done =>
        rintro D0 S2 W2 hD hDe hI hc2 hs2 hnD
        go_wp2_with fail
        exact leave_none rfl hDe (fun v => ⟨⟨v, rfl⟩, .inl (Fr.leave (f := fun zs => zs.flatMap (waysV rows Ls)) HA.out HLw.out HN4.out hI hD hnD _)⟩)
      case stop =>
        rintro D0 c0 pre x rest S2 W2 hx hD hDe ⟨rfl, hI⟩ hc2 hs2 hnD
        go_wp2_with fail
        refine leave_none rfl hDe (fun v => ⟨⟨v, rfl⟩, .inr ?_⟩)
        obtain ⟨S3, ⟨p, y, r, he, hj⟩, hc3, hs3⟩ := Fr.leave (f := fun zs => zs.flatMap (waysV rows Ls)) (Cut.acc HJx.out) HLw.out HN4.out hI hD hnD (.deferred none)
        refine ⟨p, y, r ++ rest.flatMap (waysV rows Ls), ?_, S3, hj, hc3, hs3⟩
        have h1 : waysV rows (L :: Ls) s = (nextV rows L s).flatMap (waysV rows Ls) := rfl
        rw [h1, hx, show pre ++ x :: rest = (pre ++ [x]) ++ rest by simp, List.flatMap_append, he]
        simp
      case round =>
        rintro l1 pre x rest S1 v Wr hx hl1 hl2 hlr hl3 hI hsv
        obtain ⟨Ax, cx, rfl⟩ := hsv.cells
        have hokx := next_ok HD.out.ok okL Hok.out (show x ∈ nextV rows L s by rw [hx]; simp)
        have Hsv := Lib.hid hsv
        have HLr := Lib.hid hlr
        have HOkx := Lib.hid hokx
        have HX := Lib.hid hx
        clear hsv hlr hokx hx hI
        simp only [List.setIfInBounds_toArray, List.set_cons_succ, List.set_cons_zero]
        refine wpIn_region_lit ?_
        refine liftK (Wd.round l1) 2 (by rfl) ?_
        change wpList _ _ _ [_, _] _ _
        go_wp2_with ((with_reducible refine wpl_box rfl rfl 8 (.tmp 30) 66 rfl rfl rfl rfl stSta zSta [.slice Ax x.1.length cx, .int .i64 x.2] ?_ ?_ rfl (sta_one _ _ _ _) ?_); exact (by decide : 8 < 40); exact rfl; intro w5 hc5 hb5 hs5; have HC5 := Lib.hid hc5; have HB8 := Lib.hid hb5; clear hc5 hb5 hs5)
        refine wpListIn_nil ?_
        refine ⟨HC5.out, fun W2 hcW hcA hr hI2 => ?_⟩
        have HB8b := Lib.hid (HB8.out.chg hcA (fun h => by omega))
        have HSx := Lib.hid (Hsv.out.rec HLr.out hcW)
        have HI2 := Lib.hid hI2
        have hn8 : New w0 W2 := (HN0.out.trans HN4.out (fun _ _ x => x)).trans hI2.2.2 (fun k hk h => by have := HS0.out k h; omega)
        have HN8 := Lib.hid hn8
        have hb6n : ¬ S' b6 := fun h => by
          have := HA.out.lt HJ.out _ h
          have := HZ6.out
          have := HN1.out.size
          omega
        have g3 := hI2.2.2.cellS C34.out n3'
        have g6 := (B64.out.chg hI2.2.2 hb6n).cell 0
        simp only [List.getElem?_toArray, List.getElem?_cons_zero] at g6
        have HR := Lib.hid hr
        obtain ⟨b8, hb8⟩ : ∃ b, Wr.heap.size = b := ⟨_, rfl⟩
        rw [hb8] at HB8b ⊢
        clear hcW hcA hr hI2 hn8 HB8 HC5 hb6n
        gi_step
        gi_step
        gi_step
        refine wpIn_region_lit ?_
        refine liftK (Wd.round l1) 4 (by rfl) ?_
        change wpList _ _ _ [_, _, _, _] _ _
        go_wp2_with first
          | ((with_reducible refine wpl_load rfl (.tmp 8) 66 rfl stSta ⟨b8, 0, none⟩ [.slice Ax x.1.length cx, .int .i64 x.2] ?_ rfl HB8b.out.at_ ?_); exact rfl)
          | (go_at_call 19; refine (ways_made _ _ _ _ _ _ _).mono ?_; rintro e W3 ⟨rfl, hN33, k1, k2, k3, k4⟩; have HN33 := Lib.hid hN33; have J1 := Lib.hid k1; have J2 := Lib.hid k2; have J3 := Lib.hid k3; have J4 := Lib.hid k4; clear hN33 k1 k2 k3 k4 g3 g6)
        refine wpListIn_nil ?_
        gi_wp2
        have hS1W : ∀ k, S1 k → k < W2.heap.size := fun k hk => HA.out.lt HI2.out.1 k hk
        have hS1n : ∀ k, W2.heap.size ≤ k → ¬ S1 k := fun k hk h => by have := hS1W k h; omega
        have hwW : w.heap.size ≤ W3.heap.size := Nat.le_trans HLw.out (Nat.le_trans HI2.out.2.2.size HN33.out.size)
        have hS10 : ∀ k, S1 k → w0.heap.size ≤ k := fun k hk => by
          rcases HI2.out.2.1 k hk with h | h
          · exact HS0.out k h
          · have := HN0.out.size; have := HN4.out.size; omega
        have hlen1 : n - 1 = Ls.length := by rw [Hn.out]; simp
        have HS1n := Lib.hid hS1n
        have HwW := Lib.hid hwW
        have hseq2 : ∀ Jx', Acc W3.heap.size Jx' → ItGives Try.prog 36 #[.pointer (some ⟨W2.heap.size + 1, 0, none⟩), .pointer (some ⟨W2.heap.size + 1 + 1, 0, none⟩), .pointer (some ⟨W2.heap.size, 0, none⟩)] StAt (waysV rows Ls x) S1 W3 Jx' := fun Jx' hJx' =>
          HIh.out W3 (HN8.out.trans HN33.out (fun _ _ x => x)) S1 hS10 Jx' hJx' _ _ _ A' (n - 1) (c - 1) (css.drop 1) J2.out (hS1n _ (by omega)) hlen1 (by omega) (by unfold maxLen at hcm ⊢; omega) HRest2.out x Ax cx J3.out (hS1n _ (by omega)) (HSx.out.new HN33.out) HOkx.out.1 J1.out (hS1n _ (Nat.le_refl _)) (by rw [HSz.out]; have := HOkx.out.2; omega)
        have HSeq2 := Lib.hid hseq2
        have hr3 : ∃ r, W3.heap[l1]? = some (.loop r) := by
          obtain ⟨r, hr⟩ := HR.out
          exact ⟨r, (HN33.out.block l1 (lt_of_heap hr) id).trans hr⟩
        have hj0 : J (pre.flatMap (waysV rows Ls) ++ []) S1 W3 := by rw [List.append_nil]; exact HA.out.chg HI2.out.1 (HN33.out.mono fun _ _ h => h.elim)
        have HJ0 := Lib.hid hj0
        clear hS1W hS1n hwW hS10 hseq2 hj0 J1 J2 J3
        refine wpIn_range (gf := 36) (lb := #[.pointer (some ⟨W2.heap.size + 1, 0, none⟩), .pointer (some ⟨W2.heap.size + 1 + 1, 0, none⟩), .pointer (some ⟨W2.heap.size, 0, none⟩)]) (enc := StAt) (xs := waysV rows Ls x) (S := S1) hr3 rfl (enters_of Try.func36 (by kernel_rfl) rfl)
          (Fr W3 S1 J (fun zs => pre.flatMap (waysV rows Ls) ++ zs)) (RetF (Fr W3 S1 Jx (fun zs => pre.flatMap (waysV rows Ls) ++ zs))) (Fr.acc HA.out HwW.out) (fun c => RetF.acc (Fr.acc HJx.out HwW.out) c) HSeq2.out ⟨HJ0.out, fun k hk => .inl hk, Chg.refl _ _⟩ (fun h hs => h.less hs) ?round2 ?done2 ?stop2
        case done2 =>
          rintro S3 W7 hI3 hc3 hs3
          gi_wp2
          refine Fr.stp (f := fun zs => zs.flatMap (waysV rows Ls)) HI2.out.2.1 HI2.out.2.2 ⟨S3, ?_, (HN33.out.mono fun _ _ h => h.elim).trans hc3 (fun k _ h => h), fun k hk => ?_⟩
          · have := hI3.1
            rw [List.flatMap_append]
            simpa using this
          · rcases hs3 k hk with h | h
            · exact .inl h
            · exact .inr (Nat.le_trans HN33.out.size h)
        case stop2 =>
          rintro c0 pre2 y rest2 S3 W7 hx2 ⟨rfl, hI3⟩ hc3 hs3
          gi_wp2
          have hst3 : Stp (Cut Jx) ((pre ++ [x]).flatMap (waysV rows Ls)) S1 W2 W7 := by
            refine ⟨S3, ⟨pre.flatMap (waysV rows Ls) ++ pre2, y, rest2, ?_, ?_⟩, (HN33.out.mono fun _ _ h => h.elim).trans hc3 (fun k _ h => h), fun k hk => ?_⟩
            · rw [List.flatMap_append, List.append_assoc, ← hx2]
              simp
            · have := hI3.1
              rwa [List.append_assoc]
            · rcases hs3 k hk with h | h
              · exact .inl h
              · exact .inr (Nat.le_trans HN33.out.size h)
          obtain ⟨S4, hf, hc4, hs4⟩ := Fr.stp (f := fun zs => zs.flatMap (waysV rows Ls)) HI2.out.2.1 HI2.out.2.2 hst3
          exact ⟨S4, ⟨rfl, hf⟩, hc4, hs4⟩
        case round2 =>
          rintro l2' pre2 y rest2 S2 v2 Wq hx2 hm1 hm2 hmr hm3 hI3 hsv2
          obtain ⟨Ay, cy, rfl⟩ := hsv2.cells
          have Hsv2 := Lib.hid hsv2
          have HLr2 := Lib.hid hmr
          have HX2 := Lib.hid hx2
          clear hsv2 hmr hx2 hI3
          simp only [List.setIfInBounds_toArray, List.set_cons_succ, List.set_cons_zero]
          refine wpIn_region_lit ?_
          refine liftK (Wd.round l2') 2 (by rfl) ?_
          change wpList _ _ _ [_, _] _ _
          go_wp2_with ((with_reducible refine wpl_box rfl rfl 9 (.tmp 35) 66 rfl rfl rfl rfl stSta zSta [.slice Ay y.1.length cy, .int .i64 y.2] ?_ ?_ rfl (sta_one _ _ _ _) ?_); exact (by decide : 9 < 40); exact rfl; intro w5 hc5 hb5 hs5; have HC5 := Lib.hid hc5; have HB9 := Lib.hid hb5; clear hc5 hb5 hs5)
          refine wpListIn_nil ?_
          refine ⟨HC5.out, fun W6 hcW hcA hr2 hI6 => ?_⟩
          have HB9b := Lib.hid (HB9.out.chg hcA (fun h => by omega))
          have hsy := Hsv2.out.rec HLr2.out hcW
          have hb4n : ¬ S1 W.heap.size := fun h => by
            rcases HI2.out.2.1 _ h with h | h
            · have := HA.out.lt HJ.out _ h; omega
            · have := HB4.out.lt; have := HN3.out.size; have := HN34.out.size; omega
          have hb4m : ¬ S' W.heap.size := fun h => by have := HA.out.lt HJ.out _ h; omega
          have g4 : W6.cell? ⟨W.heap.size, 0, none⟩ = some (.func (.yield l) #[] #[]) := hI6.2.2.cellS (HN33.out.cellS (HI2.out.2.2.cellS C44.out hb4m) id) hb4n
          have hyl := HY.out (pre.flatMap (waysV rows Ls) ++ pre2) y (rest2 ++ rest.flatMap (waysV rows Ls)) S2 _ W6 (by
            have h1 : waysV rows (L :: Ls) s = (nextV rows L s).flatMap (waysV rows Ls) := rfl
            rw [h1, HX.out, List.flatMap_append, List.flatMap_cons, HX2.out]
            simp) hI6.1 hsy
          have HYl := Lib.hid hyl
          have HI6 := Lib.hid hI6
          obtain ⟨b9, hb9⟩ : ∃ b, Wq.heap.size = b := ⟨_, rfl⟩
          rw [hb9] at HB9b ⊢
          clear hcW hcA hr2 hI6 hsy hyl HB9 HC5 hb4n hb4m
          gi_step
          gi_step
          gi_step
          refine wpIn_region_lit ?_
          refine liftK (Wd.round l2') 2 (by rfl) ?_
          change wpList _ _ _ [_, _] _ _
          go_wp2_with ((with_reducible refine wpl_load rfl (.tmp 9) 66 rfl stSta ⟨b9, 0, none⟩ [.slice Ay y.1.length cy, .int .i64 y.2] ?_ rfl HB9b.out.at_ ?_); exact rfl)
          refine wplI_yield (Wd.round l2') rfl (.tmp 36) (.tmp 37) 66 rfl rfl rfl HYl.out ?_
          rintro b W8 hb
          have hbt : b = true → Stp J ((pre.flatMap (waysV rows Ls) ++ pre2) ++ [y]) S2 W6 W8 := fun h => by rw [if_pos h] at hb; exact hb
          have hbf : b = false → Stp Jx ((pre.flatMap (waysV rows Ls) ++ pre2) ++ [y]) S2 W6 W8 := fun h => by rw [if_neg (by rw [h]; exact Bool.false_ne_true)] at hb; exact hb
          have HBt := Lib.hid hbt
          have HBf := Lib.hid hbf
          clear hbt hbf hb HYl
          refine liftK (Wd.round l2') 1 (by rfl) ?_
          change wpList _ _ _ [_] _ _
          cases b with
          | true =>
            go_wp2_with fail
            refine wpListIn_nil ?_
            gi_wp2
            have h := HBt.out (by trivial)
            rw [List.append_assoc] at h
            exact Fr.stp (f := fun zs => pre.flatMap (waysV rows Ls) ++ zs) HI6.out.2.1 HI6.out.2.2 h
          | false =>
            go_wp2_with fail
            refine wpListIn_nil ?_
            gi_wp2
            have h := HBf.out (by trivial)
            rw [List.append_assoc] at h
            obtain ⟨S4, hf, hc4, hs4⟩ := Fr.stp (f := fun zs => pre.flatMap (waysV rows Ls) ++ zs) HI6.out.2.1 HI6.out.2.2 h
            exact ⟨S4, ⟨rfl, hf⟩, hc4, hs4⟩

/-- relations.ways$1 gives the ways through a body. -/
theorem ways_gives {w0 : World} {bm : Nat} {m : List (ByteArray × Value)} {rows : List Rw} (D : Dat w0 bm m rows) : ∀ (Ls : List Lt), (∀ L ∈ Ls, okLt L) → WaysOk w0 bm m rows Ls
  | [], _ => ways_nil w0 bm m rows
  | L :: Ls, h => ways_cons D L Ls (h L (List.mem_cons_self ..)) (ways_gives D Ls fun L' hL => h L' (List.mem_cons_of_mem _ hL))
end Go.Proofs.Ytfocjfnkcabbgaa
