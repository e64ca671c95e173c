/- graph: Ways, plain; its state in memory. -/
import Derived.Test.YtffmalagochakaaWayC
import Derived.Test.YtffmalagochakaaGraR
set_option linter.unusedVariables false
set_option linter.unusedSimpArgs false
namespace Go.Proofs.Ytffmalagochakaa
open Go.RowKit Go.Shelf

theorem KeysF.uniq {f : ByteArray → Option Int} {ns ns' : List ByteArray} (h : KeysF f ns) (h' : KeysF f ns') : ns = ns' := by
  have hnd : ∀ {l : List ByteArray}, l.Pairwise (fun a b => bsL a ≤ bsL b ∧ a ≠ b) → l.Nodup := fun h => h.imp (fun h => h.2)
  refine List.Perm.eq_of_pairwise (le := fun a b => bsL a ≤ bsL b) (fun a b _ _ h1 h2 => bsL_inj (List.le_antisymm h1 h2)) (h.up.imp (fun h => h.1)) (h'.up.imp (fun h => h.1)) ?_
  exact (List.perm_ext_iff_of_nodup (hnd h.up) (hnd h'.up)).2 fun x => by rw [h.mem, h'.mem]
noncomputable def keysOf (f : ByteArray → Option Int) : List ByteArray := by
  classical
  exact if h : ∃ ns, KeysF f ns then Classical.choose h else []
theorem KeysF.eq {f : ByteArray → Option Int} {ns : List ByteArray} (h : KeysF f ns) : keysOf f = ns := by
  unfold keysOf
  rw [dif_pos ⟨ns, h⟩]
  exact (Classical.choose_spec (⟨ns, h⟩ : ∃ ns, KeysF f ns)).uniq h
def lastN (so : List ByteArray) : ByteArray := so.getLast?.getD ⟨#[]⟩
/-- What on adds to what is there. -/
noncomputable def waysR (T : Tb) (b : ByteArray) : Nat → List ByteArray → List (List ByteArray) → List (List ByteArray)
  | 0, _, L => L
  | r + 1, so, L => if lastN so = b then L ++ [so] else (keysOf (T (lastN so))).foldl (fun L nx => if L.length < 1000 ∧ inN so nx = false then waysR T b r (so ++ [nx]) L else L) L
noncomputable def wStep (T : Tb) (b : ByteArray) (r : Nat) (so : List ByteArray) (L : List (List ByteArray)) (nx : ByteArray) : List (List ByteArray) := if L.length < 1000 ∧ inN so nx = false then waysR T b r (so ++ [nx]) L else L
theorem waysR_end {T : Tb} {b : ByteArray} {r : Nat} {so : List ByteArray} {L : List (List ByteArray)} (h : lastN so = b) : waysR T b (r + 1) so L = L ++ [so] := by
  rw [waysR, if_pos h]
theorem waysR_on {T : Tb} {b : ByteArray} {r : Nat} {so : List ByteArray} {L : List (List ByteArray)} (h : lastN so ≠ b) : waysR T b (r + 1) so L = (keysOf (T (lastN so))).foldl (wStep T b r so) L := by
  rw [waysR, if_neg h]
  rfl
theorem waysR_len (T : Tb) (b : ByteArray) : ∀ (r : Nat) (so : List ByteArray) (L : List (List ByteArray)), L.length < 1000 → (waysR T b r so L).length ≤ 1000 := by
  intro r
  induction r with
  | zero => intro so L h; exact Nat.le_of_lt h
  | succ r ih =>
    intro so L h
    by_cases hl : lastN so = b
    · rw [waysR_end hl, List.length_append, List.length_singleton]; omega
    · rw [waysR_on hl]
      have key : ∀ (ks : List ByteArray) (L : List (List ByteArray)), L.length ≤ 1000 → (ks.foldl (wStep T b r so) L).length ≤ 1000 := by
        intro ks
        induction ks with
        | nil => intro L h; exact h
        | cons k ks ih2 =>
          intro L h
          rw [List.foldl_cons]
          refine ih2 _ ?_
          unfold wStep
          by_cases hc : L.length < 1000 ∧ inN so k = false
          · rw [if_pos hc]; exact ih _ _ hc.1
          · rw [if_neg hc]; exact h
      exact key _ _ (Nat.le_of_lt h)
def rem (V so : List ByteArray) : Nat := (V.filter (fun x => !inN so x)).length
theorem rem_snoc {V so : List ByteArray} {x : ByteArray} (hx : x ∈ V) (hn : inN so x = false) : rem V (so ++ [x]) + 1 ≤ rem V so := by
  have hap : ∀ y, inN (so ++ [x]) y = (inN so y || decide (x = y)) := fun y => by unfold inN; rw [List.any_append]; simp
  unfold rem
  induction V with
  | nil => cases hx
  | cons v V ih =>
    have hle : ∀ V : List ByteArray, (V.filter (fun y => !inN (so ++ [x]) y)).length ≤ (V.filter (fun y => !inN so y)).length := by
      intro V
      induction V with
      | nil => exact Nat.le_refl _
      | cons y V ih2 =>
        rw [List.filter_cons, List.filter_cons, hap]
        cases hi : inN so y with
        | true => simpa using ih2
        | false =>
          by_cases hxy : x = y
          · simp [hxy]; rw [hxy] at ih2; omega
          · simpa [hxy] using ih2
    rw [List.filter_cons, List.filter_cons, hap]
    by_cases hv : v = x
    · subst hv
      simp only [hn, decide_true, Bool.or_true, Bool.not_true, Bool.false_eq_true, if_false, Bool.not_false, if_true, List.length_cons]
      have := hle V
      omega
    · have := ih (by
        rcases List.mem_cons.1 hx with h | h
        · exact absurd h.symm hv
        · exact h)
      have hne : decide (x = v) = false := decide_eq_false (fun e => hv e.symm)
      rw [hne, Bool.or_false]
      cases hi : inN so v with
      | true => simpa using this
      | false => simp; omega
/-- The slice of ways. -/
structure OutAt (w : World) (B po : Nat) (v : Value) (xs : List Value) (L : List (List ByteArray)) : Prop where
  box : Blk w po 29 #[v]
  own : Own w B 26 1 v (xs.map fun x => [x])
  len : xs.length = L.length
  way : ∀ (i : Nat) (x : Value) (l : List ByteArray), xs[i]? = some x → L[i]? = some l → Own w 0 9 1 x (l.map nmC)
theorem own_chg_str {w w' : World} {B k : Nat} {x : Value} {css : List (List Value)} {S : Nat → Prop} (h : Own w B 9 k x css) (hc : Chg w w' S) (hS : ∀ k cur, Blk w k 9 cur → ¬ S k) : Own w' B 9 k x css := by
  refine h.chg hc (fun g hg => ?_)
  rcases h.1.2 with ⟨h1, _⟩ | ⟨g', cap, cur, h1, _, hg', _⟩
  · rw [h1] at hg; cases hg
  · rw [h1] at hg
    cases hg
    exact hS _ cur hg'
theorem OutAt.chg {w w' : World} {B po : Nat} {v : Value} {xs : List Value} {L : List (List ByteArray)} {S : Nat → Prop} (h : OutAt w B po v xs L) (hc : Chg w w' S) (hp : ¬ S po) (hv : ∀ g, v.ownBlock = some g → ¬ S g) (hS : ∀ k cur, Blk w k 9 cur → ¬ S k) : OutAt w' B po v xs L :=
  ⟨h.box.chg hc hp, h.own.chg hc hv, h.len, fun i x l hx hl => own_chg_str (h.way i x l hx hl) hc hS⟩
theorem OutAt.new {w w' : World} {B po : Nat} {v : Value} {xs : List Value} {L : List (List ByteArray)} (h : OutAt w B po v xs L) (hc : New w w') : OutAt w' B po v xs L :=
  h.chg hc id (fun _ _ x => x) (fun _ _ _ x => x)
/-- What on changes. -/
def TW (po : Nat) (v : Value) : Nat → Prop := fun k => k = po ∨ v.ownBlock = some k
/-- What it changes are not other things' blocks. -/
theorem TW.no_blk {w : World} {B po : Nat} {v : Value} {xs : List Value} {L : List (List ByteArray)} (h : OutAt w B po v xs L) {k : Nat} {t : TypeId} {cur : Array Value} (hb : Blk w k t cur) (h1 : t ≠ 29) (h2 : t ≠ 26) : ¬ TW po v k := by
  rintro (rfl | hk)
  · exact Blk.ne hb h.box h1 rfl
  · exact own_ne_blk h.own hb h2 hk
theorem TW.no_map {w : World} {B po : Nat} {v : Value} {xs : List Value} {L : List (List ByteArray)} (h : OutAt w B po v xs L) {k : Nat} {es : Array MapEntry} {cl : Nat} (hb : w.heap[k]? = some (.map es cl)) : ¬ TW po v k := by
  rintro (rfl | hk)
  · rw [show w.heap[k]? = _ from h.box] at hb; cases hb
  · rcases h.own.1.2 with ⟨h1, _⟩ | ⟨g', cap, cur, h1, _, hg', _⟩
    · rw [h1] at hk; cases hk
    · rw [h1] at hk
      cases hk
      rw [hg'] at hb
      cases hb
theorem TabG.chgM {w w' : World} {B b n : Nat} {T : Tb} {g : ByteArray → Option Nat} {S : Nat → Prop} (h : TabG w B b n T g) (hc : Chg w w' S) (hn : ∀ k es cl, w.heap[k]? = some (.map es cl) → ¬ S k) : TabG w' B b n T g := by
  refine ⟨h.base, ?_, fun s k hs => ?_, h.non, h.inj⟩
  · obtain ⟨D, ⟨es, cl, h1, h2⟩, h3⟩ := id h.om
    exact h.om.chg hc (hn b es cl h1)
  · obtain ⟨h1, h2, h3⟩ := h.inn s k hs
    obtain ⟨D, ⟨es, cl, h4, h5⟩, h6⟩ := id h3
    exact ⟨h1, h2, h3.chg hc (hn k es cl h4)⟩
/-- What on has captured. -/
structure WEnv (w : World) (po pb pt pf B bt n : Nat) (T : Tb) (g : ByteArray → Option Nat) (b : ByteArray) : Prop where
  cb : Blk w pb 9 #[.string b]
  ct : Blk w pt 45 #[.map (some bt)]
  cf : Blk w pf 47 #[.func (.func 19) #[] #[.pointer (some ⟨pb, 0, none⟩), .pointer (some ⟨po, 0, none⟩), .pointer (some ⟨pt, 0, none⟩), .pointer (some ⟨pf, 0, none⟩)]]
  tab : TabG w B bt n T g
theorem WEnv.new {w w' : World} {po pb pt pf B bt n : Nat} {T : Tb} {g : ByteArray → Option Nat} {b : ByteArray} (h : WEnv w po pb pt pf B bt n T g b) (hc : New w w') : WEnv w' po pb pt pf B bt n T g b :=
  ⟨h.cb.chg hc id, h.ct.chg hc id, h.cf.chg hc id, h.tab.chg hc (fun _ _ _ x => x)⟩
theorem WEnv.chg {w w' : World} {po pb pt pf B bt n : Nat} {T : Tb} {g : ByteArray → Option Nat} {b : ByteArray} (h : WEnv w po pb pt pf B bt n T g b) {B2 : Nat} {v : Value} {xs : List Value} {L : List (List ByteArray)} (ho : OutAt w B2 po v xs L) (hc : Chg w w' (TW po v)) : WEnv w' po pb pt pf B bt n T g b :=
  ⟨h.cb.chg hc (TW.no_blk ho h.cb (by decide) (by decide)), h.ct.chg hc (TW.no_blk ho h.ct (by decide) (by decide)), h.cf.chg hc (TW.no_blk ho h.cf (by decide) (by decide)), h.tab.chgM hc (fun k es cl hk => TW.no_map ho hk)⟩
theorem own_tw {w w' : World} {B B2 k po : Nat} {x : Value} {css : List (List Value)} {v : Value} {xs : List Value} {L : List (List ByteArray)} (h : Own w B 9 k x css) (ho : OutAt w B2 po v xs L) (hc : Chg w w' (TW po v)) : Own w' B 9 k x css :=
  own_chg_str h hc (fun k cur hb => TW.no_blk ho hb (by decide) (by decide))
/-- on, behind on. -/
theorem TW.trans {w w1 w2 : World} {po : Nat} {v v1 : Value} (h : Chg w w1 (TW po v)) (hv : ∀ k, v1.ownBlock = some k → v.ownBlock = some k ∨ w.heap.size ≤ k) (h2 : Chg w1 w2 (TW po v1)) : Chg w w2 (TW po v) :=
  h.trans h2 (fun k hk ht => ht.imp id (fun e => (hv k e).elim id (fun hl => absurd hk (Nat.not_lt.2 hl))))
theorem elStrs : ElT Try.prog 29 26 1 24 (Value.cells (.slice none 0 0)).toList :=
  ElT.mk' (by kernel_rfl) (by kernel_rfl) rfl (by omega) (by intro u hu; simp only [Value.cells, List.mem_cons, List.not_mem_nil, or_false] at hu; rcases hu with rfl; rfl)
end Go.Proofs.Ytffmalagochakaa
