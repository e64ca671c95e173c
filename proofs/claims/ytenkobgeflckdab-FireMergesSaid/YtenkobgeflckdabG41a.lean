/- fire: goes at any literal; what lies for a body; frames of a consumer. -/
import Derived.Test.YtenkobgeflckdabG44c
import Derived.Test.YtenkobgeflckdabG43
set_option linter.unusedVariables false
set_option linter.unusedSimpArgs false
namespace Go.Proofs.Ytenkobgeflckdab
open Go.RowKit Go.Shelf

/-- The rows by their names, in memory. -/
structure Dat (w0 : World) (bm : Nat) (m : List (ByteArray × Value)) (rows : List Rw) : Prop where
  map : MapAt w0 bm m
  look : ∀ nm, RowSl w0 (lookM m nm) (named rows nm)
  ok : ∀ r ∈ rows, ∀ v ∈ r.args, okW v

theorem goes_lt {w0 : World} {bm : Nat} {m : List (ByteArray × Value)} {rows : List Rw} (D : Dat w0 bm m rows) (w : World) (hw0 : New w0 w) (S1 : Nat → Prop) (hS1 : ∀ k, S1 k → k < w.heap.size) (L : Lt) (A : Option Addr) (n c : Nat) (css : List (List Value)) (hn : n = L.args.length) (hts : TmsAt w0 A css L.args) (okL : okLt L) (hk : L.kind ≠ 1)
    (s : Sta) (Ae : Option Addr) (ce : Nat) (hst : StAt s (.agg #[.slice Ae s.1.length ce, .int .i64 s.2]) S1 w) (hok : okEnv s.1) (hsz : s.1.length + L.size ≤ 1000) :
    Calls Try.prog 44 #[.map (some bm), .agg #[.int .i64 L.kind, .string L.name, .slice A n c], .agg #[.slice Ae s.1.length ce, .int .i64 s.2]] w (GoesPost w S1 (goesV rows L s)) := by
  match L, hn, hts, okL, hk, hsz with
  | .atom false nm ts, _, _, _, hk, _ => exact absurd rfl hk
  | .atom true nm ts, hn, hts, okL, _, hsz =>
    exact goes_not w0 w hw0 S1 bm m (named rows nm) D.map nm A n c css ts hn hts okL (D.look nm) (fun r hr => D.ok r ((List.mem_filter.1 hr).1)) s Ae ce hst hok hsz
  | .test j a b, hn, hts, okL, _, hsz =>
    have hs2 : s.1.length + 2 ≤ 1000 := hsz
    have hn2 : n = 2 := hn
    refine goes_test j bm w0 w hw0 S1 hS1 A n c css [a, b] hn (by omega) hts okL s Ae ce hst hok (by omega) [evalT s.1 a, evalT s.1 b] rfl _ (fun h => ?_) hn2 (fun x y h => ?_) (fun us h u hu => ?_)
    · unfold goesV
      cases h1 : evalT s.1 a with
      | none => simp [h1]
      | some x =>
        cases h2 : evalT s.1 b with
        | none => simp [h1, h2]
        | some y => rw [h1, h2] at h; cases h
    · unfold goesV
      cases h1 : evalT s.1 a with
      | none => rw [h1] at h; cases h
      | some x' =>
        cases h2 : evalT s.1 b with
        | none => rw [h1, h2] at h; cases h
        | some y' => rw [h1, h2] at h; cases h; simp [h1, h2]
    · cases h1 : evalT s.1 a with
      | none => rw [h1] at h; cases h
      | some x' =>
        cases h2 : evalT s.1 b with
        | none => rw [h1, h2] at h; cases h
        | some y' =>
          rw [h1, h2] at h
          cases h
          rcases List.mem_cons.1 hu with rfl | hu
          · exact evalT_ok hok (okL a (by simp [Lt.args])) h1
          · rw [List.mem_singleton.1 hu]; exact evalT_ok hok (okL b (by simp [Lt.args])) h2
  | .assign nm t, hn, hts, okL, _, hsz =>
    have hs2 : s.1.length + 1 ≤ 1000 := hsz
    have hn2 : n = 1 := hn
    refine goes_assign nm bm w0 w hw0 S1 hS1 A n c css [t] hn (by omega) hts okL s Ae ce hst hok (by omega) [evalT s.1 t] rfl _ (fun h => ?_) hn2 (fun x h => ?_)
    · unfold goesV
      cases h1 : evalT s.1 t with
      | none => simp [h1]
      | some x => rw [h1] at h; cases h
    · unfold goesV
      cases h1 : evalT s.1 t with
      | none => rw [h1] at h; cases h
      | some x' => rw [h1] at h; cases h; simp [h1]

/-- Literals in memory. -/
structure LtsAt (w : World) (A : Option Addr) (css : List (List Value)) (Ls : List Lt) : Prop where
  len : css.length = Ls.length
  src : SrcAt w A 3 css
  at_ : ∀ (j : Nat) (cs : List Value) (L : Lt), css[j]? = some cs → Ls[j]? = some L → LtAt w cs L

/-- A consumer's state, with what lies. -/
def Fr {α β : Type} (wl : World) (S0 : Nat → Prop) (J : List β → (Nat → Prop) → World → Prop) (f : List α → List β) : List α → (Nat → Prop) → World → Prop :=
  fun zs S1 W1 => J (f zs) S1 W1 ∧ (∀ k, S1 k → S0 k ∨ wl.heap.size ≤ k) ∧ Chg wl W1 S0
theorem Fr.acc {α β : Type} {wl : World} {S0 : Nat → Prop} {J : List β → (Nat → Prop) → World → Prop} {f : List α → List β} {n : Nat} (hJ : Acc n J) (hn : n ≤ wl.heap.size) : Acc wl.heap.size (Fr wl S0 J f) :=
  ⟨fun h k hk => hJ.lt h.1 k hk, fun h hc => ⟨(hJ.mono hn).chg h.1 hc, h.2.1, h.2.2.trans hc (fun k hk h => absurd hk (Nat.not_lt.2 h.1))⟩⟩
theorem Fr.stp {α β : Type} {wl : World} {S0 S1 : Nat → Prop} {J : List β → (Nat → Prop) → World → Prop} {f : List α → List β} {zs : List α} {W1 W2 : World} (hs : ∀ k, S1 k → S0 k ∨ wl.heap.size ≤ k) (hc : Chg wl W1 S0) (h : Stp J (f zs) S1 W1 W2) : Stp (Fr wl S0 J f) zs S1 W1 W2 := by
  obtain ⟨S2, hj, hc2, hs2⟩ := h
  refine ⟨S2, ⟨hj, fun k hk => ?_, hc.trans hc2 (fun k hk h1 => ?_)⟩, hc2, hs2⟩
  · rcases hs2 k hk with h | h
    · exact hs k h
    · exact .inr (Nat.le_trans hc.size h)
  · rcases hs k h1 with h | h
    · exact h
    · omega
/-- Some of them have come. -/
def Cut {β : Type} (Jx : List β → (Nat → Prop) → World → Prop) : List β → (Nat → Prop) → World → Prop := fun zs S W => ∃ p y r, zs = p ++ y :: r ∧ Jx (p ++ [y]) S W
theorem Cut.acc {β : Type} {Jx : List β → (Nat → Prop) → World → Prop} {n : Nat} (h : Acc n Jx) : Acc n (Cut Jx) :=
  ⟨fun ⟨p, y, r, he, hj⟩ => h.lt hj, fun ⟨p, y, r, he, hj⟩ hc => ⟨p, y, r, he, h.chg hj hc⟩⟩
/-- Where the loop is left by a return. -/
def RetF {α : Type} (I : List α → (Nat → Prop) → World → Prop) (c : Code) : List α → (Nat → Prop) → World → Prop := fun zs S W => c = Code.ret ∧ I zs S W
theorem RetF.acc {α : Type} {I : List α → (Nat → Prop) → World → Prop} {n : Nat} (h : Acc n I) (c : Code) : Acc n (RetF I c) := ⟨fun hj => h.lt hj.2, fun hj hc => ⟨hj.1, h.chg hj.2 hc⟩⟩
theorem leave_none {P : Program} {fn : Func} (hr : fn.results = #[]) {R : Ending → World → Prop} {D : Nat} {W : World} {tmps : Array Value} (hD : W.heap[D]? = some (.deferred (some []))) (h : ∀ v, R (.returned v) (W.putObj D (.deferred none))) :
    LeavesInM Fence.wide 0 P fn tmps R [{ target := .collected D, args := #[] }] .returning W :=
  ⟨by simp, .inl ⟨_, _, rfl, run_takeDeferred hD, _, results_none hr _ _ _, h _⟩⟩

/-- The loop is over, the mark is taken. -/
theorem Fr.leave {α β : Type} {w4 W W2 : World} {S' S2 : Nat → Prop} {J : List β → (Nat → Prop) → World → Prop} {f : List α → List β} {xs : List α} {n D0 : Nat} (hA : Acc n J) (hnw : n ≤ w4.heap.size) (hN : New W w4) (h : Fr w4 S' J f xs S2 W2) (hD : w4.heap.size ≤ D0) (hnD : ¬ S2 D0) (o : Obj) :
    Stp J (f xs) S' W (W2.putObj D0 o) := by
  have hc : Chg W2 (W2.putObj D0 o) (fun k => k = D0) := (Chg.of_grown (grownBy_putObj' W2 D0 o)).mono fun k _ h => by cases h; rfl
  obtain ⟨h1, h2, h3⟩ := h
  refine ⟨S2, hA.chg h1 (hc.mono fun k _ h => by subst h; exact ⟨Nat.le_trans hnw hD, hnD⟩), ?_, fun k hk => ?_⟩
  · exact ((hN.mono (T' := S') fun k _ h => h.elim).trans h3 (fun k _ h => h)).put hc (Nat.le_trans hN.size hD)
  · rcases h2 k hk with h | h
    · exact .inl h
    · exact .inr (Nat.le_trans hN.size h)
/-- A loop's record is no cells. -/
theorem StAt.rec {x : Sta} {v : Value} {S : Nat → Prop} {W W' : World} {l : Nat} (h : StAt x v S W) (hl : ∃ r, W.heap[l]? = some (.loop r)) (hc : Chg W W' (fun k => k = l)) : StAt x v S W' := by
  obtain ⟨A, c, h1, h2, h3, h4, h5⟩ := h
  obtain ⟨r, hr⟩ := hl
  refine ⟨A, c, h1, h2, h3, fun hp => ?_, fun a ha => ⟨Nat.lt_of_lt_of_le (h5 a ha).1 hc.size, (h5 a ha).2⟩⟩
  obtain ⟨a, ha, hrw⟩ := h4 hp
  refine ⟨a, ha, hrw.chg hc (fun e => ?_)⟩
  obtain ⟨cs, hcs⟩ : ∃ cs, (x.1.map bcs)[0]? = some cs := ⟨_, List.getElem?_eq_getElem hp⟩
  obtain ⟨hlen, hat⟩ := hrw 0 cs hcs
  obtain ⟨u, hu⟩ : ∃ u, cs[0]? = some u := ⟨_, List.getElem?_eq_getElem (by omega)⟩
  have hce := hat 0 u hu
  have hb : ((a.add (0 * 5)).add 0).block = l := by rw [add_block, add_block]; exact e
  unfold World.cell? at hce
  rw [hb, hr] at hce
  cases hce

set_option maxHeartbeats 1000000 in
set_option maxRecDepth 100000 in
/-- relations.ways: the closure. -/
theorem ways_made (w : World) (bm : Nat) (A : Option Addr) (n c : Nat) (s1 s2 : Value) : Calls Try.prog 28 #[.map (some bm), .slice A n c, .agg #[s1, s2]] w fun e w' =>
    e = .returned (.func (.func 41) #[] #[.pointer (some ⟨w.heap.size + 1, 0, none⟩), .pointer (some ⟨w.heap.size + 1 + 1, 0, none⟩), .pointer (some ⟨w.heap.size, 0, none⟩)]) ∧
    New w w' ∧ w'.cell? ⟨w.heap.size, 0, none⟩ = some (.map (some bm)) ∧ w'.cell? ⟨w.heap.size + 1, 0, none⟩ = some (.slice A n c) ∧ At w' ⟨w.heap.size + 1 + 1, 0, none⟩ [s1, s2] ∧ w'.heap.size = w.heap.size + 3 := by
  go_enter Try.func28, Try.ntmps28
  go_wp2_with fail
  go_ret
  obtain ⟨hN, b1, b2, b3, hs⟩ := boxes3 w #[.map (some bm)] #[.slice A n c] #[s1, s2] 69 35 75 _ rfl
  exact ⟨rfl, hN, b1.cell 0, b2.cell 0, Blk.at_ b3, hs⟩
end Go.Proofs.Ytenkobgeflckdab
