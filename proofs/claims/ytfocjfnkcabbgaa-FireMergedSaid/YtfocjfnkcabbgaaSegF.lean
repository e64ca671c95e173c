/- Stretches of a region in which what is made is kept apart: each value that owns a block owns it alone. -/
import Derived.Test.YtfocjfnkcabbgaaWS
set_option linter.unusedVariables false
set_option linter.unusedSimpArgs false
namespace Go.Proofs.Ytfocjfnkcabbgaa
open Go.RowKit

section
variable {P : Program} {ops : Array Oper} {Q : Exit → Act → World → Prop} {a : Act} {w : World}
theorem seg_runK {K : Array Bool → Act → World → Prop} {n m μ : Nat} {ex : Nat → Nat} {Φ : Nat → Value → World → Prop} {J : Bool → World → Prop} {a0 : Act} (hh : segB ops n m = true) (hsk : ∀ i o, n ≤ i → i < m → ops[i]? = some o → Region.wanted o (yielded ops a0.tmps) = false → False) (hd : ∀ i d, n ≤ i → i < m → dstOf ops i = some d → d < a0.tmps.size)
    (hstep : ∀ i o, n ≤ i → i < m → ops[i]? = some o → Region.wanted o (yielded ops a0.tmps) = true → ∀ (a : Act) (W : World) (b : Bool), J b W → (i = μ ∨ ahead .any ops ops.size i μ = true → b = false) → (∀ j d, n ≤ j → j < m → ahead .any ops ops.size j i = true → dstOf ops j = some d → (m ≤ ex j ∨ ex j = i ∨ ahead .any ops ops.size i (ex j) = true) → Φ j (slot a d) W) →
      (∀ t, t ∈ looks ops i → (∀ j, n ≤ j → j < m → dstOf ops j = some t → ahead .any ops ops.size j i = false) → slot a t = slot a0 t) → ∀ listed : Array Bool, InvX P ops n m μ ex Φ J a0 listed a W → b = (decide (n ≤ μ) && listed.getD μ false) → listed.getD i false = false → (∀ e ∈ o.after, Region.binds .any e = true → listed.getD e.on false = true) → K listed a W →
      Gives P o a.eval W fun v W' => J (b || i == μ) W' ∧ Φ i v W' ∧ (∀ k d, n ≤ k → k < m → listed.getD k false = true → dstOf ops k = some d → k ≠ i → ex k ≠ i → (m ≤ ex k ∨ listed.getD (ex k) false = false) → Φ k (slot a d) W → Φ k (slot a d) W') ∧ K (listed.setIfInBounds i true) (a.put o.dst v) W')
    (htail : ∀ (a : Act) (W : World) (listed : Array Bool), (∀ i, i < m → listed.getD i false = true) → (∀ i, m ≤ i → listed.getD i false = false) → K listed a W → J (decide (n ≤ μ) && decide (μ < m)) W → a.defers = a0.defers → a.tmps.size = a0.tmps.size → (∀ i d, n ≤ i → i < m → dstOf ops i = some d → m ≤ ex i → Φ i (slot a d) W) → (∀ t, (∀ i, n ≤ i → i < m → dstOf ops i ≠ some t) → slot a t = slot a0 t) →
      AtN P ops Q m a W) :
    ∀ (c fuel : Nat) (listed : Array Bool) (a : Act) (w : World), InvX P ops n m μ ex Φ J a0 listed a w → K listed a w → ((List.range m).filter fun i => !listed.getD i false).length = c → ops.size + c ≤ m + fuel → wpAny P .any ops Q fuel listed a w := by
  simp only [segB, Bool.and_eq_true, decide_eq_true_eq] at hh
  obtain ⟨⟨⟨⟨⟨hnm, hms⟩, hB⟩, hT⟩, hD⟩, hL⟩ := hh
  simp only [List.all_eq_true, List.mem_range, Bool.or_eq_true, decide_eq_true_eq, Bool.and_eq_true] at hD hL
  intro c
  induction c with
  | zero =>
    intro fuel listed a w inv hK hm hf
    have hall : ∀ i, i < m → listed.getD i false = true := by
      intro i hi
      have h0 := List.eq_nil_of_length_eq_zero hm
      have := (List.filter_eq_nil_iff.1 h0) i (List.mem_range.2 hi)
      simpa using this
    have hst := inv.st
    have hlm : listed.getD μ false = decide (μ < m) := by
      rcases Nat.lt_or_ge μ m with h | h
      · rw [hall μ h]; simp [h]
      · rw [inv.tail μ h]; simp; omega
    rw [hlm] at hst
    refine htail a w listed hall (fun i h => inv.tail i h) hK hst inv.defers inv.tsize (fun i d hn hi hd' he => inv.told i d hn hi (hall i hi) hd' (.inl he)) (fun t ht => inv.kept t fun i hn hi _ => ht i hn hi) fuel listed inv.size (fun i => ?_) (by omega)
    rcases Nat.lt_or_ge i m with h | h
    · rw [hall i h]; simp [h]
    · rw [inv.tail i h]; simp; omega
  | succ c ih =>
    intro fuel listed a w inv hK hm hf
    have hmn : c + 1 ≤ m := by
      rw [← hm]
      exact Nat.le_trans (List.length_filter_le _ _) (by simp)
    obtain ⟨fuel, rfl⟩ : ∃ f, fuel = f + 1 := ⟨fuel - 1, by omega⟩
    have hex : ∃ i, i < m ∧ listed.getD i false = false := by
      cases hl : (List.range m).filter fun i => !listed.getD i false with
      | nil => rw [hl] at hm; cases hm
      | cons x l =>
        have hx : x ∈ (List.range m).filter fun i => !listed.getD i false := by rw [hl]; simp
        obtain ⟨h1, h2⟩ := List.mem_filter.1 hx
        exact ⟨x, List.mem_range.1 h1, by simpa using h2⟩
    refine ⟨fun hr => ?_, fun i hi => ?_⟩
    · exfalso
      obtain ⟨i, hin, hil⟩ := hex
      have key : ∀ k, k < m → listed.getD k false = true := by
        intro k
        induction k using Nat.strongRecOn with
        | _ k ihk =>
          intro hk
          cases hkl : listed.getD k false with
          | true => rfl
          | false =>
            have hks : k < ops.size := by omega
            have hmem : k ∈ Region.ready .any ops listed := mem_ready.2 ⟨by
              have : k < listed.size := by rw [inv.size]; exact hks
              simp [this] at hkl ⊢
              exact hkl, ops[k], Array.getElem?_eq_getElem hks, fun e he hb => by
              have := back_at hB (Array.getElem?_eq_getElem hks) he hb
              exact ihk e.on this (by omega)⟩
            rw [hr] at hmem
            cases hmem
      rw [key i hin] at hil
      cases hil
    · obtain ⟨hun, o, ho, hdeps⟩ := mem_ready.1 hi
      have hiz : i < ops.size := (Array.getElem?_eq_some_iff.1 ho).1
      have hunl : listed.getD i false = false := by
        have : i < listed.size := by rw [inv.size]; exact hiz
        simp [this] at hun ⊢
        exact hun
      have hni : n ≤ i := by
        rcases Nat.lt_or_ge i n with h | h
        · rw [inv.below i h] at hunl; cases hunl
        · exact h
      have hin : i < m := by
        rcases Nat.lt_or_ge i m with h | h
        · exact h
        · exfalso
          obtain ⟨k, hkn, hkl⟩ := hex
          have hkn' : n ≤ k := by
            rcases Nat.lt_or_ge k n with h | h
            · rw [inv.below k h] at hkl; cases hkl
            · exact h
          have ht := wall_at hT hiz h hkn' hkn
          have := ahead_listed inv.closed _ k i ht (fun oj hoj => by rw [ho] at hoj; cases hoj; exact hdeps)
          rw [this] at hkl
          cases hkl
      have hL' := (hL i hin).resolve_left (by omega)
      rw [ho] at hL'
      simp only [Bool.and_eq_true] at hL'
      have hgive := fun hw0 => hstep i o hni hin ho hw0 a w _ inv.st (fun e => by
          rcases e with e | e
          · subst e; simp [hunl]
          · cases hxl : listed.getD μ false with
            | false => simp
            | true =>
              have := ahead_listed inv.closed _ i μ e (fun oj hoj => inv.closed μ oj hoj hxl)
              rw [this] at hunl
              cases hunl) (fun j d hnj hj haj hdj hex => inv.told j d hnj hj (ahead_listed inv.closed _ j i haj (fun oj hoj => by rw [ho] at hoj; cases hoj; exact hdeps)) hdj (by
          rcases hex with h9 | h9 | h9
          · exact .inl h9
          · exact .inr (by rw [h9]; exact hunl)
          · refine .inr ?_
            cases hxl : listed.getD (ex j) false with
            | false => rfl
            | true =>
              have := ahead_listed inv.closed _ i (ex j) h9 (fun oj hoj => inv.closed (ex j) oj hoj hxl)
              rw [this] at hunl
              cases hunl))
        (fun t ht hno => inv.kept t fun j hnj hj hjl hdj => by
          have h3 := (hL'.2 j hj).resolve_left (by omega)
          rw [hdj] at h3
          simp only [Bool.or_eq_true, Bool.not_eq_true', List.contains_eq_mem, decide_eq_false_iff_not] at h3
          rcases h3 with (h3 | h3) | h3
          · exact h3 ht
          · rw [hno j hnj hj hdj] at h3; cases h3
          · have := ahead_listed inv.closed _ i j h3 (fun oj hoj => inv.closed j oj hoj hjl)
            rw [this] at hunl
            cases hunl) listed inv rfl hunl hdeps hK
      have hwant : Region.wanted o (yielded ops a.tmps) = Region.wanted o (yielded ops a0.tmps) := by
        have hg := hL'.1.1
        cases hgo : o.guard with
        | none => simp only [Region.wanted, hgo]
        | some gb =>
          obtain ⟨g, b⟩ := gb
          rw [hgo] at hg
          simp only [Bool.and_eq_true, decide_eq_true_eq, List.all_eq_true, List.mem_range, Bool.or_eq_true, bne_iff_ne] at hg
          have hyy := yielded_same (ops := ops) (g := g) inv.tsize (fun d hdg => inv.kept d fun j hnj hj _ hdj => by
            rcases hg.2 j hj with (h5 | h5) | h5
            · omega
            · rw [hdj] at h5; cases h5
            · exact h5 (hdj.trans hdg.symm))
          simp only [Region.wanted, hgo, hyy]
      have hili : i < listed.size := by rw [inv.size]; exact hiz
      unfold wpOp
      rw [ho]
      simp only []
      have hdst : dstOf ops i = o.dst := by simp [dstOf, ho]
      suffices hgo : ∀ v W', (J (decide (n ≤ μ) && listed.getD μ false || i == μ) W' ∧ Φ i v W' ∧ (∀ k d, n ≤ k → k < m → listed.getD k false = true → dstOf ops k = some d → k ≠ i → ex k ≠ i → (m ≤ ex k ∨ listed.getD (ex k) false = false) → Φ k (slot a d) w → Φ k (slot a d) W') ∧ K (listed.setIfInBounds i true) (a.put o.dst v) W') → wpAny P .any ops Q fuel (listed.setIfInBounds i true) (a.put o.dst v) W' by
        rw [hwant]
        split
        · rename_i hw1
          exact .inl ((hgive hw1).wp fun v W' hR => hgo v W' hR)
        · rename_i hw1
          exact (hsk i o hni hin ho (by simpa using hw1)).elim
      intro v W' hR
      refine ih fuel _ _ _ ⟨?_, ?_, ?_, ?_, ?_, ?_, ?_, ?_, ?_⟩ hR.2.2.2 ?_ (by omega)
      · simp [inv.size]
      · intro t ht
        rw [getD_set hili, if_neg (by omega)]
        exact inv.below t ht
      · intro t ht
        rw [getD_set hili, if_neg (by omega)]
        exact inv.tail t ht
      · intro j oj hj hjl e he hb
        rw [getD_set hili] at hjl ⊢
        by_cases hij : i = j
        · subst hij
          rw [ho] at hj
          cases hj
          have := hdeps e he hb
          simp [this]
        · rw [if_neg hij] at hjl
          have := inv.closed j oj hj hjl e he hb
          simp [this]
      · have h6 := hR.1
        rw [getD_set hili]
        by_cases hiμ : i = μ
        · subst hiμ
          simpa [hni, hunl] using h6
        · rw [if_neg hiμ]
          rw [show (i == μ) = false by simpa using hiμ, Bool.or_false] at h6
          exact h6
      · rw [put_defers', inv.defers]
      · rw [put_size, inv.tsize]
      · intro j d hnj hj hjl hdj hexp
        rw [getD_set hili] at hjl hexp
        by_cases hij : i = j
        · subst hij
          have hdd : o.dst = some d := by rw [← hdst]; exact hdj
          rw [hdd, slot_put_same (by rw [inv.tsize]; exact hd i d hni hin hdj)]
          exact hR.2.1
        · rw [if_neg hij] at hjl
          have h4 := (((hD i hin).resolve_left (by omega)) j hj)
          simp only [Bool.or_eq_true, beq_iff_eq, bne_iff_ne, decide_eq_true_eq] at h4
          rw [slot_put_ne (by
            intro e
            rw [← hdst] at e
            rcases h4 with ((h4 | h4) | h4) | h4
            · omega
            · exact hij h4
            · rw [e] at h4; cases h4
            · exact h4 (e.trans hdj.symm))]
          have hxi : ex j ≠ i := by
            rintro e
            rcases hexp with h9 | h9
            · omega
            · rw [if_pos e.symm] at h9; cases h9
          have hexp' : m ≤ ex j ∨ listed.getD (ex j) false = false := hexp.imp id fun h9 => by
            rw [if_neg (Ne.symm hxi)] at h9
            exact h9
          exact hR.2.2.1 j d hnj hj hjl hdj (Ne.symm hij) hxi hexp' (inv.told j d hnj hj hjl hdj hexp')
      · intro t ht
        have hne : o.dst ≠ some t := by
          rw [← hdst]
          exact ht i hni hin (by rw [getD_set hili, if_pos rfl])
        rw [slot_put_ne hne]
        exact inv.kept t fun j hnj hj hjl => ht j hnj hj (by
          rw [getD_set hili]
          by_cases hij : i = j
          · rw [if_pos hij]
          · rw [if_neg hij]; exact hjl)
      · have hff := filter_flip (List.range m) (fun j => !listed.getD j false) (fun j => !(listed.setIfInBounds i true).getD j false) i List.nodup_range (List.mem_range.2 hin) (by simp only [hunl]; rfl) (by simp only [getD_set hili]; simp) (fun j hj => by simp only [getD_set hili, if_neg (Ne.symm hj)])
        omega


/-- The block that a value points into. -/
def fpv : Value → Option Nat
  | .slice (some a) _ _ => some a.block
  | .pointer (some a) => some a.block
  | _ => none
/-- The tracked ones that are done and not yet used up. -/
def Alive (ops : Array Oper) (n m : Nat) (ex : Nat → Nat) (tr : Nat → Bool) (listed : Array Bool) (j d : Nat) : Prop := n ≤ j ∧ j < m ∧ tr j = true ∧ listed.getD j false = true ∧ (m ≤ ex j ∨ listed.getD (ex j) false = false) ∧ dstOf ops j = some d
structure KF (ops : Array Oper) (n m μ : Nat) (ex : Nat → Nat) (tr : Nat → Bool) (T : Nat → Prop) (w0 : World) (listed : Array Bool) (a : Act) (W : World) : Prop where
  own : ∀ j d g, Alive ops n m ex tr listed j d → fpv (slot a d) = some g → (w0.heap.size ≤ g ∨ (T g ∧ listed.getD μ false = true)) ∧ g < W.heap.size
  apart : ∀ j d k d' g, Alive ops n m ex tr listed j d → Alive ops n m ex tr listed k d' → j ≠ k → fpv (slot a d) = some g → fpv (slot a d') ≠ some g
/-- Operation i uses up what k made. -/
def sConB (ops : Array Oper) (n m : Nat) (ex : Nat → Nat) (tr : Nat → Bool) (i k d : Nat) : Bool := decide (n ≤ k) && decide (k < m) && ahead .any ops ops.size k i && dstOf ops k == some d && ex k == i && tr k && decide (k ≠ i)
def Con (ops : Array Oper) (n m : Nat) (ex : Nat → Nat) (tr : Nat → Bool) (A : Act) (i g : Nat) : Prop := ∃ k d, sConB ops n m ex tr i k d = true ∧ fpv (A.tmps[d]?.getD undef) = some g
/-- What an operation gives: what is told of it, and whose blocks it has turned. -/
def GivesF (P : Program) (ops : Array Oper) (n m μ : Nat) (ex : Nat → Nat) (tr : Nat → Bool) (T : Nat → Prop) (Φ : Nat → Value → World → Prop) (i : Nat) (o : Oper) (A : Act) (W : World) : Prop :=
  Gives P o A.eval W fun v W' => Φ i v W' ∧ ∃ T' : Nat → Prop, Chg W W' T' ∧ (∀ g, g < W.heap.size → T' g → Con ops n m ex tr A i g ∨ (i = μ ∧ T g)) ∧ (tr i = true → ∀ g, fpv v = some g → g < W'.heap.size ∧ (Con ops n m ex tr A i g ∨ W.heap.size ≤ g ∨ (i = μ ∧ T g)))
theorem slot_eq (A : Act) (d : Nat) : A.tmps[d]?.getD undef = slot A d := by simp only [slot, Array.getD_eq_getD_getElem?]

set_option maxHeartbeats 1000000 in
/-- A stretch in whatever order: each value that owns a block owns it alone, until its reader (ex) has used it up; number μ may turn the old memory T. -/
theorem AtN.segF (n m μ : Nat) (ds : List Nat) (T : Nat → Prop) (tr : Nat → Bool) (ex : Nat → Nat) (Φ : Nat → Value → World → Prop) (hh : segB ops n m = true) (hwn : wantB ops n m a.tmps = true) (hd : sDstB ops n m a.tmps.size = true) (hds : dsB ops n m ds = true) (hμb : decide (n ≤ μ) && decide (μ < m) = true) (hT : ∀ g, T g → g < w.heap.size)
    (hst : ∀ k u W W' (T' : Nat → Prop), Φ k u W → Chg W W' T' → (tr k = true → ∀ g, fpv u = some g → ¬ T' g) → (∀ g, g < W.heap.size → T' g → w.heap.size ≤ g ∨ T g) → Φ k u W')
    (hstep : ∀ i, n ≤ i → i < m → ∀ o, ops[i]? = some o → ∀ (A : Act) (W : World) (b : Bool), JX w T b W → (i = μ → b = false) → (∀ j d, sInX ops n m ex i j d = true → Φ j (A.tmps[d]?.getD undef) W) →
      (∀ t, sKeptB ops n m i t = true → A.tmps[t]?.getD undef = slot a t) → (∀ k d k' d' g, sConB ops n m ex tr i k d = true → sConB ops n m ex tr i k' d' = true → k ≠ k' → fpv (A.tmps[d]?.getD undef) = some g → fpv (A.tmps[d']?.getD undef) ≠ some g) → GivesF P ops n m μ ex tr T Φ i o A W)
    (htail : ∀ (l : List Value) (W : World), Chg w W T → l.length = m - n → (∀ j, j < m - n → m ≤ ex (n + j) → Φ (n + j) (l.getD j undef) W) → (∀ j k g, j < m - n → k < m - n → tr (n + j) = true → tr (n + k) = true → m ≤ ex (n + j) → m ≤ ex (n + k) → j ≠ k → fpv (l.getD j undef) = some g → fpv (l.getD k undef) ≠ some g) → AtN P ops Q m (putsL (ds.zip l) a) W) : AtN P ops Q n a w := by
  intro fuel listed hls hl hf
  have hh' := hh
  simp only [segB, Bool.and_eq_true, decide_eq_true_eq] at hh' hμb
  obtain ⟨⟨⟨⟨⟨hnm, hms⟩, hB⟩, hTw⟩, hD⟩, hL⟩ := hh'
  simp only [List.all_eq_true, List.mem_range, Bool.or_eq_true, decide_eq_true_eq, Bool.and_eq_true] at hD
  have hd' := hd
  simp only [sDstB, List.all_eq_true, List.mem_range, Bool.or_eq_true, decide_eq_true_eq] at hd'
  have hdlt : ∀ i d, n ≤ i → i < m → dstOf ops i = some d → d < a.tmps.size := fun i d hn hi hdi => by
    have := (hd' i hi).resolve_left (by omega)
    rw [hdi] at this
    simpa using this
  have hdne : ∀ i j d d', n ≤ i → i < m → n ≤ j → j < m → i ≠ j → dstOf ops i = some d → dstOf ops j = some d' → d ≠ d' := fun i j d d' hn hi hn' hj hij h1 h2 e => by
    have h4 := (((hD i hi).resolve_left (by omega)) j hj)
    simp only [Bool.or_eq_true, beq_iff_eq, bne_iff_ne, decide_eq_true_eq] at h4
    rcases h4 with ((h4 | h4) | h4) | h4
    · omega
    · exact hij h4
    · rw [h1] at h4; cases h4
    · exact h4 (h1.trans (e ▸ h2.symm))
  refine seg_runK (K := KF ops n m μ ex tr T w) (n := n) (m := m) (μ := μ) (ex := ex) (Φ := Φ) (J := JX w T) (a0 := a) hh (fun i o hn hi ho h => want_at hwn hn hi ho h) hdlt (fun i o hn hi ho hw0 A W b hJ hμ hin hk lst inv hb hil hdeps hK => ?_) (fun A W lst hall htl hK hJ h2 h3 h4 h5 => ?_) (m - n) fuel listed a w ⟨hls, ?_, ?_, ?_, ?_, rfl, rfl, ?_, fun _ _ => rfl⟩ ⟨?_, ?_⟩ ?_ (by omega)
  · -- one operation
    have hal : ∀ k d, sConB ops n m ex tr i k d = true → Alive ops n m ex tr lst k d ∧ k ≠ i ∧ ex k = i := by
      intro k d hc
      simp only [sConB, Bool.and_eq_true, decide_eq_true_eq, beq_iff_eq] at hc
      obtain ⟨⟨⟨⟨⟨⟨c1, c2⟩, c3⟩, c4⟩, c5⟩, c6⟩, c7⟩ := hc
      exact ⟨⟨c1, c2, c6, ahead_listed inv.closed _ k i c3 (fun oj hoj => by rw [ho] at hoj; cases hoj; exact hdeps), .inr (by rw [c5]; exact hil), c4⟩, c7, c5⟩
    have hg := hstep i hn hi o ho A W b hJ (fun h => hμ (.inl h)) (fun j d h => ?_) (fun t h => ?_) (fun k d k' d' g c1 c2 hkk f1 f2 => by
      rw [slot_eq] at f1 f2
      exact hK.apart k d k' d' g (hal k d c1).1 (hal k' d' c2).1 hkk f1 f2)
    · -- from what it gives
      have hcon : ∀ g, Con ops n m ex tr A i g → ∃ k d, Alive ops n m ex tr lst k d ∧ k ≠ i ∧ ex k = i ∧ fpv (slot A d) = some g := by
        rintro g ⟨k, d, hc, hf⟩
        obtain ⟨h1, h2, h3⟩ := hal k d hc
        exact ⟨k, d, h1, h2, h3, by rw [← slot_eq]; exact hf⟩
      have himp : ∀ v W', (Φ i v W' ∧ ∃ T' : Nat → Prop, Chg W W' T' ∧ (∀ g, g < W.heap.size → T' g → Con ops n m ex tr A i g ∨ (i = μ ∧ T g)) ∧ (tr i = true → ∀ g, fpv v = some g → g < W'.heap.size ∧ (Con ops n m ex tr A i g ∨ W.heap.size ≤ g ∨ (i = μ ∧ T g)))) →
          (JX w T (b || i == μ) W' ∧ Φ i v W' ∧ (∀ k d, n ≤ k → k < m → lst.getD k false = true → dstOf ops k = some d → k ≠ i → ex k ≠ i → (m ≤ ex k ∨ lst.getD (ex k) false = false) → Φ k (slot A d) W → Φ k (slot A d) W') ∧ KF ops n m μ ex tr T w (lst.setIfInBounds i true) (A.put o.dst v) W') := by
        rintro v W' ⟨hΦ, T', hchg, hTT, hres⟩
        have hbμ : lst.getD μ false = b := by rw [hb]; simp [hμb.1]
        have hili : i < lst.size := by
          rw [inv.size]
          exact (Array.getElem?_eq_some_iff.1 ho).1
        have hμl : i = μ → lst.getD μ false = false := fun e => by rw [← e]; exact hil
        have hdst : dstOf ops i = o.dst := by simp [dstOf, ho]
        -- the blocks that turn
        have hT1 : ∀ g, g < W.heap.size → T' g → w.heap.size ≤ g ∨ T g := fun g hgl hg' => by
          rcases hTT g hgl hg' with h | ⟨_, h⟩
          · obtain ⟨k, d, ha, _, _, hf⟩ := hcon g h
            exact ((hK.own k d g ha hf).1).imp id (fun h => h.1)
          · exact .inr h
        have hne : ∀ k d g, Alive ops n m ex tr lst k d → ex k ≠ i → fpv (slot A d) = some g → T' g → False := fun k d g ha hx hf hg' => by
          have ho := hK.own k d g ha hf
          rcases hTT g ho.2 hg' with h | ⟨h1, h2⟩
          · obtain ⟨k', d', ha', _, hx', hf'⟩ := hcon g h
            by_cases hkk : k = k'
            · subst hkk; exact hx hx'
            · exact hK.apart k d k' d' g ha ha' hkk hf hf'
          · rcases ho.1 with h3 | ⟨_, h3⟩
            · have := hT g h2; omega
            · rw [hμl h1] at h3; cases h3
        have hput : ∀ j d, n ≤ j → j < m → j ≠ i → dstOf ops j = some d → slot (A.put o.dst v) d = slot A d := fun j d h1 h2 h3 h4 => by
          refine slot_put_ne ?_
          intro e
          rw [← hdst] at e
          exact hdne i j d d hn hi h1 h2 (Ne.symm h3) e h4 rfl
        have halive : ∀ j d, j ≠ i → Alive ops n m ex tr (lst.setIfInBounds i true) j d → Alive ops n m ex tr lst j d ∧ ex j ≠ i := by
          rintro j d hji ⟨h1, h2, h3, h4, h5, h6⟩
          rw [getD_set hili, if_neg (Ne.symm hji)] at h4
          rw [getD_set hili] at h5
          have hxi : ex j ≠ i := by
            rintro e
            rcases h5 with h9 | h9
            · omega
            · rw [if_pos e.symm] at h9; cases h9
          rw [if_neg (Ne.symm hxi)] at h5
          exact ⟨⟨h1, h2, h3, h4, h5, h6⟩, hxi⟩
        refine ⟨⟨hJ.1.trans hchg (fun k hk hk' => (hT1 k (Nat.lt_of_lt_of_le hk hJ.1.size) hk').resolve_left (by omega)), fun hb' => ?_⟩, hΦ, fun k d h1 h2 h3 h4 h5 h6 h7 h8 => ?_, ⟨fun j d g ha hf => ?_, fun j d k d' g ha ha' hjk hf hf' => ?_⟩⟩
        · have hb0 : b = false ∧ i ≠ μ := by
            rw [Bool.or_eq_false_iff] at hb'
            exact ⟨hb'.1, by simpa using hb'.2⟩
          refine (hJ.2 hb0.1).trans hchg (fun g hg hg' => ?_)
          rcases hTT g (Nat.lt_of_lt_of_le hg hJ.1.size) hg' with h | ⟨h, _⟩
          · obtain ⟨k, d, ha, _, _, hf⟩ := hcon g h
            rcases (hK.own k d g ha hf).1 with h9 | ⟨_, h9⟩
            · omega
            · rw [hbμ, hb0.1] at h9; cases h9
          · exact hb0.2 h
        · exact hst k _ W W' T' h8 hchg (fun htr g hf hg' => hne k d g ⟨h1, h2, htr, h3, h7, h4⟩ h6 hf hg') hT1
        · by_cases hji : j = i
          · subst hji
            obtain ⟨a1, a2, a3, a4, a5, a6⟩ := ha
            have hdd : o.dst = some d := by rw [← hdst]; exact a6
            rw [hdd, slot_put_same (by rw [inv.tsize]; exact hdlt j d a1 a2 a6)] at hf
            obtain ⟨hl1, hl2⟩ := hres a3 g hf
            refine ⟨?_, hl1⟩
            rcases hl2 with h | h | ⟨h, h'⟩
            · obtain ⟨k, d', ha', hkj, _, hf'⟩ := hcon g h
              rcases (hK.own k d' g ha' hf').1 with h9 | ⟨h8, h9⟩
              · exact .inl h9
              · refine .inr ⟨h8, ?_⟩
                rw [getD_set hili]
                split
                · rfl
                · exact h9
            · exact .inl (Nat.le_trans hJ.1.size h)
            · exact .inr ⟨h', by rw [getD_set hili, if_pos h]⟩
          · obtain ⟨ha0, hx⟩ := halive j d hji ha
            rw [hput j d ha0.1 ha0.2.1 hji ha0.2.2.2.2.2] at hf
            obtain ⟨h8, h9⟩ := hK.own j d g ha0 hf
            refine ⟨h8.imp id (fun h => ⟨h.1, ?_⟩), Nat.lt_of_lt_of_le h9 hchg.size⟩
            rw [getD_set hili]
            split
            · rfl
            · exact h.2
        · -- apart: the new one against an old one
          have key : ∀ d, dstOf ops i = some d → tr i = true → fpv v = some g → ∀ k d', k ≠ i → Alive ops n m ex tr lst k d' → ex k ≠ i → fpv (slot A d') = some g → False := fun d hd1 htr hfv k d' hki hak hxk hfk => by
            have hok := hK.own k d' g hak hfk
            rcases (hres htr g hfv).2 with h | h | ⟨h1, h2⟩
            · obtain ⟨k', d'', ha', _, hx', hf''⟩ := hcon g h
              by_cases hkk : k = k'
              · subst hkk; exact hxk hx'
              · exact hK.apart k d' k' d'' g hak ha' hkk hfk hf''
            · omega
            · rcases hok.1 with h3 | ⟨_, h3⟩
              · have := hT g h2; omega
              · rw [hμl h1] at h3; cases h3
          by_cases hji : j = i
          · subst hji
            have hki : k ≠ j := Ne.symm hjk
            obtain ⟨hak, hxk⟩ := halive k d' hki ha'
            rw [hput k d' hak.1 hak.2.1 hki hak.2.2.2.2.2] at hf'
            obtain ⟨a1, a2, a3, a4, a5, a6⟩ := ha
            have hdd : o.dst = some d := by rw [← hdst]; exact a6
            rw [hdd, slot_put_same (by rw [inv.tsize]; exact hdlt j d a1 a2 a6)] at hf
            exact key d a6 a3 hf k d' hki hak hxk hf'
          · obtain ⟨haj, hxj⟩ := halive j d hji ha
            rw [hput j d haj.1 haj.2.1 hji haj.2.2.2.2.2] at hf
            by_cases hki : k = i
            · subst hki
              obtain ⟨a1, a2, a3, a4, a5, a6⟩ := ha'
              have hdd : o.dst = some d' := by rw [← hdst]; exact a6
              rw [hdd, slot_put_same (by rw [inv.tsize]; exact hdlt k d' a1 a2 a6)] at hf'
              exact key d' a6 a3 hf' j d hji haj hxj hf
            · obtain ⟨hak, hxk⟩ := halive k d' hki ha'
              rw [hput k d' hak.1 hak.2.1 hki hak.2.2.2.2.2] at hf'
              exact hK.apart j d k d' g haj hak hjk hf hf'
      rcases hg with ⟨v, W', hr, h⟩ | ⟨W', hr, h⟩ | ⟨f, args, W', hr, hc⟩
      · exact .inl ⟨v, W', hr, himp v W' h⟩
      · exact .inr (.inl ⟨W', hr, himp undef W' h⟩)
      · refine .inr (.inr ⟨f, args, W', hr, hc.mono ?_⟩)
        rintro e W'' ⟨v, he, h⟩
        exact ⟨v, he, himp v W'' h⟩
    · simp only [sInX, sInB, Bool.and_eq_true, Bool.or_eq_true, decide_eq_true_eq, beq_iff_eq] at h
      obtain ⟨h, hx⟩ := h
      have := hin j d h.1.1.1 h.1.1.2 h.1.2 h.2 (by rcases hx with (h7 | h7) | h7 <;> simp [h7])
      rw [slot_eq]
      exact this
    · simp only [sKeptB, Bool.and_eq_true, List.contains_eq_mem, decide_eq_true_eq, List.all_eq_true, List.mem_range, Bool.or_eq_true, bne_iff_ne, Bool.not_eq_true'] at h
      have := hk t h.1 (fun j hnj hj hdj => by
        rcases h.2 j hj with (h7 | h7) | h7
        · omega
        · exact absurd hdj h7
        · exact h7)
      rw [slot_eq]
      exact this
  · -- the tail
    have hds' := hds
    simp only [dsB, Bool.and_eq_true, decide_eq_true_eq] at hds'
    obtain ⟨⟨hlen, hnd⟩, _⟩ := hds'
    have hz : (ds.zip (ds.map (slot A))).map (·.1) = ds := List.map_fst_zip (by simp)
    have hget : ∀ j, j < m - n → ∃ d, dstOf ops (n + j) = some d ∧ (ds.map (slot A)).getD j undef = slot A d := fun j hj => by
      obtain ⟨d, hd1, hd2⟩ := dsB_at hds (i := n + j) (by omega) (by omega)
      rw [show n + j - n = j by omega] at hd2
      refine ⟨d, hd1, ?_⟩
      rw [List.getD_eq_getElem?_getD, List.getElem?_map, hd2]
      rfl
    rw [puts_eq (l := ds.zip (ds.map (slot A))) hds hd hz h2 h3 (fun i d hid v hv => ?_) (fun t h => h5 t fun i hn hi => by
      simp only [sOldB, List.all_eq_true, List.mem_range, Bool.or_eq_true, decide_eq_true_eq, bne_iff_ne] at h
      exact (h i hi).resolve_left (by omega))]
    · refine htail _ W hJ.1 (by simpa using hlen) (fun j hj hx => ?_) (fun j k g hj hk t1 t2 x1 x2 hjk f1 f2 => ?_)
      · obtain ⟨d, hd1, hd2⟩ := hget j hj
        rw [hd2]
        exact h4 (n + j) d (by omega) (by omega) hd1 hx
      · obtain ⟨d, hd1, hd2⟩ := hget j hj
        obtain ⟨d', hd1', hd2'⟩ := hget k hk
        rw [hd2] at f1
        rw [hd2'] at f2
        exact hK.apart (n + j) d (n + k) d' g ⟨by omega, by omega, t1, hall _ (by omega), .inl x1, hd1⟩ ⟨by omega, by omega, t2, hall _ (by omega), .inl x2, hd1'⟩ (by omega) f1 f2
    · rw [List.getElem?_zip_eq_some] at hv
      obtain ⟨e1, e2⟩ := hv
      rw [List.getElem?_map, e1] at e2
      exact Option.some.inj e2
  · intro t ht
    rw [hl]; simpa using ht
  · intro t ht
    rw [hl]; simp; omega
  · intro j oj hj hjl e he hb
    have := back_at hB hj he hb
    rw [hl] at hjl ⊢
    simp only [decide_eq_true_eq] at hjl ⊢
    omega
  · rw [hl]
    have : (decide (n ≤ μ) && decide (μ < n)) = false := by simp
    rw [this]
    exact ⟨Chg.refl _ _, fun _ => Chg.refl _ _⟩
  · intro i d hn hi hil
    rw [hl] at hil
    simp at hil
    omega
  · rintro j d g ⟨h1, h2, h3, h4, _⟩
    rw [hl] at h4
    simp at h4
    omega
  · rintro j d k d' g ⟨h1, h2, h3, h4, _⟩
    rw [hl] at h4
    simp at h4
    omega
  · have hcong : ((List.range m).filter fun i => !listed.getD i false) = (List.range m).filter fun i => decide (n ≤ i) := List.filter_congr fun i _ => by
      rw [hl]
      by_cases h : i < n
      · simp [h]
      · simp [h]; omega
    rw [hcong]
    clear hcong
    have : ∀ m, ((List.range m).filter fun i => decide (n ≤ i)).length = m - n := by
      intro m
      induction m with
      | zero => simp
      | succ m ih =>
        rw [List.range_succ, List.filter_append, List.length_append, ih]
        by_cases h : n ≤ m
        · simp [h]; omega
        · simp [h]; omega
    exact this m

/-- One that only reads, or lays new memory that nobody owns. -/
theorem GivesF.new {n m μ : Nat} {ex : Nat → Nat} {tr : Nat → Bool} {T : Nat → Prop} {Φ : Nat → Value → World → Prop} {i : Nat} {o : Oper} {A : Act} {W : World} (ht : tr i = false) (h : Gives P o A.eval W fun v W' => New W W' ∧ Φ i v W') : GivesF P ops n m μ ex tr T Φ i o A W := by
  have himp : ∀ v W', (New W W' ∧ Φ i v W') → (Φ i v W' ∧ ∃ T' : Nat → Prop, Chg W W' T' ∧ (∀ g, g < W.heap.size → T' g → Con ops n m ex tr A i g ∨ (i = μ ∧ T g)) ∧ (tr i = true → ∀ g, fpv v = some g → g < W'.heap.size ∧ (Con ops n m ex tr A i g ∨ W.heap.size ≤ g ∨ (i = μ ∧ T g)))) :=
    fun v W' h => ⟨h.2, fun _ => False, h.1, fun _ _ h => h.elim, fun h => by rw [ht] at h; cases h⟩
  rcases h with ⟨v, W', hr, h⟩ | ⟨W', hr, h⟩ | ⟨f, args, W', hr, hc⟩
  · exact .inl ⟨v, W', hr, himp v W' h⟩
  · exact .inr (.inl ⟨W', hr, himp undef W' h⟩)
  · refine .inr (.inr ⟨f, args, W', hr, hc.mono ?_⟩)
    rintro e W'' ⟨v, he, h⟩
    exact ⟨v, he, himp v W'' h⟩
/-- One that lays new memory, which its value owns. -/
theorem GivesF.make {n m μ : Nat} {ex : Nat → Nat} {tr : Nat → Bool} {T : Nat → Prop} {Φ : Nat → Value → World → Prop} {i : Nat} {o : Oper} {A : Act} {W : World} (h : Gives P o A.eval W fun v W' => New W W' ∧ Φ i v W' ∧ ∀ g, fpv v = some g → W.heap.size ≤ g ∧ g < W'.heap.size) : GivesF P ops n m μ ex tr T Φ i o A W := by
  have himp : ∀ v W', (New W W' ∧ Φ i v W' ∧ ∀ g, fpv v = some g → W.heap.size ≤ g ∧ g < W'.heap.size) → (Φ i v W' ∧ ∃ T' : Nat → Prop, Chg W W' T' ∧ (∀ g, g < W.heap.size → T' g → Con ops n m ex tr A i g ∨ (i = μ ∧ T g)) ∧ (tr i = true → ∀ g, fpv v = some g → g < W'.heap.size ∧ (Con ops n m ex tr A i g ∨ W.heap.size ≤ g ∨ (i = μ ∧ T g)))) :=
    fun v W' h => ⟨h.2.1, fun _ => False, h.1, fun _ _ h => h.elim, fun _ g hg => ⟨(h.2.2 g hg).2, .inr (.inl (h.2.2 g hg).1)⟩⟩
  rcases h with ⟨v, W', hr, h⟩ | ⟨W', hr, h⟩ | ⟨f, args, W', hr, hc⟩
  · exact .inl ⟨v, W', hr, himp v W' h⟩
  · exact .inr (.inl ⟨W', hr, himp undef W' h⟩)
  · refine .inr (.inr ⟨f, args, W', hr, hc.mono ?_⟩)
    rintro e W'' ⟨v, he, h⟩
    exact ⟨v, he, himp v W'' h⟩
/-- A value, and what it has turned. -/
theorem GivesF.value {n m μ : Nat} {ex : Nat → Nat} {tr : Nat → Bool} {T : Nat → Prop} {Φ : Nat → Value → World → Prop} {i : Nat} {o : Oper} {A : Act} {W W' : World} {v : Value} (T' : Nat → Prop) (hr : (execOp A.eval o).run P W = .ok (.value v) W') (hΦ : Φ i v W') (hc : Chg W W' T') (h1 : ∀ g, g < W.heap.size → T' g → Con ops n m ex tr A i g ∨ (i = μ ∧ T g))
    (h2 : ∀ g, fpv v = some g → g < W'.heap.size ∧ (Con ops n m ex tr A i g ∨ W.heap.size ≤ g ∨ (i = μ ∧ T g))) : GivesF P ops n m μ ex tr T Φ i o A W := .inl ⟨v, W', hr, hΦ, T', hc, h1, fun _ => h2⟩
theorem GivesF.call {n m μ : Nat} {ex : Nat → Nat} {tr : Nat → Bool} {T : Nat → Prop} {Φ : Nat → Value → World → Prop} {i : Nat} {o : Oper} {A : Act} {W : World} (f : FuncId) (args : Array Value) (hr : (execOp A.eval o).run P W = .ok (.enter f args) W)
    (hc : Calls P f args W fun e W' => ∃ v, e = .returned v ∧ Φ i v W' ∧ ∃ T' : Nat → Prop, Chg W W' T' ∧ (∀ g, g < W.heap.size → T' g → Con ops n m ex tr A i g ∨ (i = μ ∧ T g)) ∧ (tr i = true → ∀ g, fpv v = some g → g < W'.heap.size ∧ (Con ops n m ex tr A i g ∨ W.heap.size ≤ g ∨ (i = μ ∧ T g)))) : GivesF P ops n m μ ex tr T Φ i o A W :=
  .inr (.inr ⟨f, args, W, hr, hc⟩)
theorem fpv_own {v : Value} {g : Nat} (h : v.ownBlock = some g) : fpv v = some g := by
  unfold Value.ownBlock at h
  split at h
  · exact h
  · cases h
theorem Own.fpv {W : World} {B k : Nat} {e : TypeId} {v : Value} {css : List (List Value)} (h : Own W B e k v css) : fpv v = v.ownBlock := by
  obtain ⟨A, c, rfl, _⟩ := h.form
  cases A <;> rfl
end
end Go.Proofs.Ytfocjfnkcabbgaa
