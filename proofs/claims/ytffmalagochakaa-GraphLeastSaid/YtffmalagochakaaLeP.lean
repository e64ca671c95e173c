/- GraphLeast, plain: the ways are the simple ones, and a least one is among them. -/
import Derived.Test.YtffmalagochakaaGraL
set_option linter.unusedVariables false
set_option linter.unusedSimpArgs false
namespace Go.Proofs.Ytffmalagochakaa
open Go.RowKit Go.Shelf

theorem lastN_snoc (so : List ByteArray) (x : ByteArray) : lastN (so ++ [x]) = x := by
  unfold lastN
  rw [List.getLast?_append]
  rfl
theorem keysF_tab {T : Tb} {V : List ByteArray} (hT : TOk T V) (hfin : ∀ u, ∃ ns, KeysF (T u) ns) {u x : ByteArray} : x ∈ keysOf (T u) ↔ (T u x).isSome = true := by
  obtain ⟨ns, h⟩ := hfin u
  rw [h.eq, h.mem]
  refine ⟨fun h => h.2, fun h => ⟨?_, h⟩⟩
  obtain ⟨c, hc⟩ := Option.isSome_iff_exists.1 h
  exact hT.size _ _ _ hc
/-- Nothing is told but simple ways. -/
theorem ways_sound {T : Tb} {b : ByteArray} (hk : ∀ u x, x ∈ keysOf (T u) → (T u x).isSome = true) : ∀ (r : Nat) (so : List ByteArray) (L : List (List ByteArray)), so.Nodup → ∀ l ∈ waysR T b r so L, l ∈ L ∨ ∃ t, l = so ++ t ∧ l.Nodup ∧ lastN l = b ∧ ∃ c, PC (TR T) (lastN so :: t) c := by
  intro r
  induction r with
  | zero => intro so L _ l hl; exact .inl hl
  | succ r ih =>
    intro so L hnd l hl
    by_cases hb : lastN so = b
    · rw [waysR_end hb, List.mem_append, List.mem_singleton] at hl
      rcases hl with hl | rfl
      · exact .inl hl
      · exact .inr ⟨[], (List.append_nil _).symm, hnd, hb, 0, .one _⟩
    · rw [waysR_on hb] at hl
      have key : ∀ (ks : List ByteArray), (∀ x ∈ ks, x ∈ keysOf (T (lastN so))) → ∀ (L : List (List ByteArray)) (l : List ByteArray), l ∈ ks.foldl (wStep T b r so) L → l ∈ L ∨ ∃ t, l = so ++ t ∧ l.Nodup ∧ lastN l = b ∧ ∃ c, PC (TR T) (lastN so :: t) c := by
        intro ks
        induction ks with
        | nil => intro _ L l hl; exact .inl hl
        | cons x ks ih2 =>
          intro hks L l hl
          rw [List.foldl_cons] at hl
          rcases ih2 (fun y hy => hks y (by simp [hy])) _ l hl with h | h
          · unfold wStep at h
            by_cases hc : L.length < 1000 ∧ inN so x = false
            · rw [if_pos hc] at h
              have hx : x ∉ so := fun hx => by rw [inN_iff.2 hx] at hc; cases hc.2
              have hnd2 : (so ++ [x]).Nodup := List.nodup_append.2 ⟨hnd, by simp, fun a ha b hb => by rw [List.mem_singleton.1 hb]; exact fun e => hx (e ▸ ha)⟩
              rcases ih (so ++ [x]) L hnd2 l h with h1 | ⟨t, h1, h2, h3, c, h4⟩
              · exact .inl h1
              · obtain ⟨c0, hc0⟩ := Option.isSome_iff_exists.1 (hk _ _ (hks x (by simp)))
                refine .inr ⟨x :: t, by rw [h1]; simp, h2, h3, c0 + c, ?_⟩
                rw [lastN_snoc] at h4
                exact .cons hc0 h4
            · rw [if_neg hc] at h; exact .inl h
          · exact .inr h
      exact key _ (fun x h => h) L l hl
def fac : Nat → Nat
  | 0 => 1
  | n + 1 => (n + 1) * fac n
theorem fac_pos : ∀ n, 1 ≤ fac n
  | 0 => Nat.le_refl _
  | n + 1 => by
    have := fac_pos n
    have := Nat.mul_le_mul (show 1 ≤ n + 1 by omega) this
    rw [fac]; omega
theorem fac_mono {m n : Nat} (h : m ≤ n) : fac m ≤ fac n := by
  induction h with
  | refl => exact Nat.le_refl _
  | step h ih =>
    rename_i k
    refine Nat.le_trans ih ?_
    rw [fac]
    exact Nat.le_mul_of_pos_left _ (by omega)
/-- All simple ways are told. -/
theorem ways_all {T : Tb} {b : ByteArray} {V N : List ByteArray} (hk : ∀ u x, (T u x).isSome = true → x ∈ keysOf (T u)) (hk2 : ∀ u x, x ∈ keysOf (T u) → x ∈ V ∧ x ∈ N) (hkn : ∀ u, (keysOf (T u)).Nodup) : ∀ (r : Nat) (so : List ByteArray) (L : List (List ByteArray)), rem V so < r → L.length + fac (rem N so) ≤ 1000 →
    ∃ M, waysR T b r so L = L ++ M ∧ M.length ≤ fac (rem N so) ∧ ∀ t c, (so ++ t).Nodup → so ≠ [] → PC (TR T) (lastN so :: t) c → lastN (so ++ t) = b → so ++ t ∈ M := by
  intro r
  induction r with
  | zero => intro so L h; exact absurd h (Nat.not_lt_zero _)
  | succ r ih =>
    intro so L hr hL
    by_cases hb : lastN so = b
    · refine ⟨[so], waysR_end hb, by have := fac_pos (rem N so); simpa using this, fun t c hnd hne _ hl => ?_⟩
      cases t with
      | nil => simp
      | cons x t =>
        exfalso
        have h1 : b ∈ so := by
          rw [← hb]
          unfold lastN
          rw [List.getLast?_eq_some_getLast hne]
          exact List.getLast_mem hne
        have h2 : b ∈ x :: t := by
          rw [← hl]
          unfold lastN
          rw [List.getLast?_append, List.getLast?_eq_some_getLast (show x :: t ≠ [] by simp)]
          exact List.getLast_mem _
        exact (List.nodup_append.1 hnd).2.2 b h1 b h2 rfl
    · rw [waysR_on hb]
      have hsub : ((keysOf (T (lastN so))).filter (fun x => !inN so x)).length ≤ rem N so := by
        unfold rem
        refine sub_len ((hkn _).filter _) (fun x hx => ?_)
        rw [List.mem_filter] at hx ⊢
        exact ⟨(hk2 _ _ hx.1).2, hx.2⟩
      have key : ∀ (ks : List ByteArray), (∀ x ∈ ks, x ∈ keysOf (T (lastN so))) → ∀ (L : List (List ByteArray)), L.length + (ks.filter (fun x => !inN so x)).length * fac (rem N so - 1) ≤ 1000 →
          ∃ M, ks.foldl (wStep T b r so) L = L ++ M ∧ M.length ≤ (ks.filter (fun x => !inN so x)).length * fac (rem N so - 1) ∧ ∀ x ∈ ks, inN so x = false → ∀ t c, (so ++ x :: t).Nodup → PC (TR T) (x :: t) c → lastN (so ++ x :: t) = b → so ++ x :: t ∈ M := by
        intro ks
        induction ks with
        | nil => intro _ L _; exact ⟨[], (List.append_nil _).symm, by simp, fun x hx => by cases hx⟩
        | cons x ks ih2 =>
          intro hks L hL2
          rw [List.foldl_cons]
          have hks2 : ∀ y ∈ ks, y ∈ keysOf (T (lastN so)) := fun y hy => hks y (by simp [hy])
          cases hx : inN so x with
          | true =>
            have hst : wStep T b r so L x = L := by
              unfold wStep
              rw [if_neg (fun h => by rw [hx] at h; cases h.2)]
            have hf : (x :: ks).filter (fun x => !inN so x) = ks.filter (fun x => !inN so x) := by
              rw [List.filter_cons, hx]; rfl
            rw [hf] at hL2 ⊢
            rw [hst]
            obtain ⟨M, h1, h2, h3⟩ := ih2 hks2 L hL2
            refine ⟨M, h1, h2, fun y hy hyn => ?_⟩
            rcases List.mem_cons.1 hy with rfl | hy
            · rw [hx] at hyn; cases hyn
            · exact h3 y hy hyn
          | false =>
            have hf : ((x :: ks).filter (fun x => !inN so x)).length = (ks.filter (fun x => !inN so x)).length + 1 := by
              rw [List.filter_cons, hx]; rfl
            rw [hf, Nat.add_mul, Nat.one_mul] at hL2
            rw [hf, Nat.add_mul, Nat.one_mul]
            have hfp := fac_pos (rem N so - 1)
            have hst : wStep T b r so L x = waysR T b r (so ++ [x]) L := by
              unfold wStep
              rw [if_pos ⟨by omega, hx⟩]
            have hxk := hk2 _ _ (hks x (by simp))
            have hrV := rem_snoc hxk.1 hx
            have hrN := rem_snoc hxk.2 hx
            have hfm : fac (rem N (so ++ [x])) ≤ fac (rem N so - 1) := fac_mono (by omega)
            obtain ⟨M1, g1, g2, g3⟩ := ih (so ++ [x]) L (by omega) (by omega)
            obtain ⟨M2, g4, g5, g6⟩ := ih2 hks2 (L ++ M1) (by rw [List.length_append]; omega)
            rw [hst, g1, g4]
            refine ⟨M1 ++ M2, List.append_assoc _ _ _, by rw [List.length_append]; omega, fun y hy hyn t c hnd hp hl => ?_⟩
            rcases List.mem_cons.1 hy with rfl | hy
            · have he : so ++ y :: t = (so ++ [y]) ++ t := by simp
              rw [he] at hnd hl ⊢
              exact List.mem_append_left _ (g3 t c hnd (by simp) (by rw [lastN_snoc]; exact hp) hl)
            · exact List.mem_append_right _ (g6 y hy hyn t c hnd hp hl)
      have hbound : ((keysOf (T (lastN so))).filter (fun x => !inN so x)).length * fac (rem N so - 1) ≤ fac (rem N so) := by
        cases hn : rem N so with
        | zero =>
          rw [hn] at hsub
          rw [Nat.le_zero.1 hsub]
          simp
        | succ m =>
          rw [hn] at hsub
          rw [Nat.add_sub_cancel, fac]
          exact Nat.mul_le_mul_right _ hsub
      obtain ⟨M, h1, h2, h3⟩ := key _ (fun x h => h) L (by omega)
      refine ⟨M, h1, by omega, fun t c hnd hne hp hl => ?_⟩
      cases t with
      | nil => rw [List.append_nil] at hl; exact absurd hl hb
      | cons x t =>
        cases hp with
        | cons hc hp =>
          rename_i c0 c1
          have hx : x ∈ keysOf (T (lastN so)) := hk _ _ (by rw [show T (lastN so) x = some c0 from hc]; rfl)
          have hxn : inN so x = false := by
            cases hi : inN so x with
            | false => rfl
            | true => exact absurd rfl ((List.nodup_append.1 hnd).2.2 x (inN_iff.1 hi) x (by simp))
          exact h3 x hx hxn t c1 hnd hp hl
theorem PC.uniq {T : Tb} {l : List ByteArray} {c : Int} (h : PC (TR T) l c) : ∀ {c' : Int}, PC (TR T) l c' → c = c' := by
  induction h with
  | one u => intro c' h'; cases h'; rfl
  | cons h _ ih =>
    intro c' h'
    cases h' with
    | cons g1 g2 =>
      have e1 := ih g2
      have h' := h
      unfold TR at h' g1
      rw [h'] at g1
      cases g1
      rw [e1]
noncomputable def costW (E : List Ed) (l : List ByteArray) : Int := by
  classical
  exact if h : ∃ c, PC (TR (tabF E)) l c then Classical.choose h else 0
theorem costW_eq {E : List Ed} {l : List ByteArray} {c : Int} (h : PC (TR (tabF E)) l c) : costW E l = c := by
  unfold costW
  rw [dif_pos ⟨c, h⟩]
  exact (Classical.choose_spec (⟨c, h⟩ : ∃ c, PC (TR (tabF E)) l c)).uniq h
/-- What GraphLeast asks of the ways. -/
structure WayOk (E : List Ed) (a b : ByteArray) (l : List ByteArray) : Prop where
  pc : PC (TR (tabF E)) l (costW E l)
  nodup : l.Nodup
  two : 2 ≤ l.length
  five : l.length ≤ 5
  fst : l[0]? = some a
  lst : l[l.length - 1]? = some b
  least : ∃ d, dst E a b = some d ∧ d ≤ costW E l
  sz : ∀ s ∈ l, s ∈ nmL
theorem keys_fin {E : List Ed} (hE : ∀ e ∈ E, e.Raw) (u : ByteArray) : ∃ ns, KeysF (tabF E u) ns := by
  refine ⟨nmL.filter (fun s => (tabF E u s).isSome), fun s => ?_, (show nmL.Pairwise (fun a b => bsL a ≤ bsL b ∧ a ≠ b) by decide).filter _⟩
  rw [List.mem_filter]
  constructor
  · rintro ⟨h1, h2⟩
    exact ⟨nmL_size h1, h2⟩
  · rintro ⟨_, h2⟩
    obtain ⟨c, hc⟩ := Option.isSome_iff_exists.1 h2
    exact ⟨(few_raw hE _ _ _ (tab_sub E u s c hc)).2.2.1, h2⟩
theorem ways_least {E : List Ed} (hE : ∀ e ∈ E, e.Raw) {a b : ByteArray} (ha : a ∈ nmL) (hab : a ≠ b) (hd : DistO (RE E) a b (dst E a b)) : (∀ l ∈ waysOf E a b, WayOk E a b l) ∧ (waysOf E a b).length ≤ 24 ∧ ∀ d, dst E a b = some d → ∃ l ∈ waysOf E a b, costW E l = d := by
  have hfin := keys_fin hE
  have hT := tok_tab (fun e he => (hE e he).fit)
  have hfew := few_raw hE
  have hTR : ∀ u v c, TR (tabF E) u v c → RE E u v c := tab_sub E
  have hfewT : Few 6 (TR (tabF E)) := fun u v c h => hfew u v c (hTR u v c h)
  have hkm : ∀ u x, x ∈ keysOf (tabF E u) ↔ (tabF E u x).isSome = true := fun u x => keysF_tab hT hfin
  have hW : waysOf E a b = waysR (tabF E) b (rem (E.map (·.b)) [a] + 1) [a] [] := by unfold waysOf; rw [if_neg hab]
  have hrn : rem nmL [a] = 4 := by
    simp only [nmL, List.mem_cons, List.not_mem_nil, or_false] at ha
    rcases ha with rfl | rfl | rfl | rfl | rfl <;> decide
  obtain ⟨M, hM1, hM2, hM3⟩ := ways_all (T := tabF E) (b := b) (V := E.map (·.b)) (N := nmL) (fun u x h => (hkm u x).2 h) (fun u x h => by
    obtain ⟨c, hc⟩ := Option.isSome_iff_exists.1 ((hkm u x).1 h)
    exact ⟨hT.tgt _ _ _ hc, (hfewT _ _ _ hc).2.2.1⟩) (fun u => by
    obtain ⟨ns, h⟩ := hfin u
    rw [h.eq]
    exact h.up.imp (fun h => h.2)) (rem (E.map (·.b)) [a] + 1) [a] [] (Nat.lt_succ_self _) (by rw [hrn]; decide)
  rw [List.nil_append] at hM1
  rw [hrn] at hM2
  have hall : ∀ t c, ([a] ++ t).Nodup → PC (TR (tabF E)) (a :: t) c → lastN ([a] ++ t) = b → [a] ++ t ∈ waysOf E a b := fun t c h1 h2 h3 => by
    rw [hW, hM1]
    exact hM3 t c h1 (by simp) h2 h3
  refine ⟨fun l hl => ?_, by rw [hW, hM1]; exact hM2, fun d hdd => ?_⟩
  · rw [hW] at hl
    rcases ways_sound (fun u x h => (hkm u x).1 h) _ [a] [] (by simp) l hl with h | ⟨t, rfl, h2, h3, c, h4⟩
    · cases h
    · have h4' : PC (TR (tabF E)) ([a] ++ t) c := h4
      have ht : t ≠ [] := by
        rintro rfl
        exact hab h3
      have h2l : 2 ≤ ([a] ++ t).length := by
        cases t with
        | nil => exact absurd rfl ht
        | cons x t => simp
      obtain ⟨h5, _⟩ := hfewT.path h4'
      have hlast : ([a] ++ t).getLast? = some b := by
        rw [List.getLast?_eq_some_getLast (show [a] ++ t ≠ [] by simp)]
        congr 1
      have hwk := h4'.walk rfl hlast h2l
      refine ⟨by rw [costW_eq h4']; exact h4', h2, h2l, sub_len h2 (h5 h2l), rfl, by rw [← List.getLast?_eq_getElem?]; exact hlast, ?_, h5 h2l⟩
      rw [costW_eq h4']
      rcases hd with ⟨_, h6⟩ | ⟨d, h6, h7⟩
      · exact absurd (hwk.mono hTR) (h6 _)
      · exact ⟨d, h6, h7.2 _ (hwk.mono hTR)⟩
  · have hdT : DistO (TR (tabF E)) a b (dst E a b) := hd.same (tab_all E) (fun u v c h => ⟨c, hTR u v c h, Int.le_refl _⟩)
    have hi := isd_of hdT hdd
    obtain ⟨l, d', h1, h2, h3, h4, h5⟩ := hi.1.simple (fun u v c h => tab_pos E u v c h) hab
    cases l with
    | nil => cases h1
    | cons x t =>
      obtain rfl : x = a := by simpa using h1
      have hl2 : 2 ≤ (x :: t).length := by
        cases t with
        | nil => simp at h2; exact absurd h2 hab
        | cons y t => simp
      have hwk := h4.walk h1 h2 hl2
      have h6 := hi.2 _ hwk
      obtain rfl : d' = d := by omega
      refine ⟨[x] ++ t, hall t d' h3 h4 (by unfold lastN; rw [show [x] ++ t = x :: t from rfl, h2]; rfl), ?_⟩
      exact costW_eq h4
end Go.Proofs.Ytffmalagochakaa
