/- A region that draws its order: a stretch whose parts turn memory, what is told of each until it is read. -/
import Derived.Test.YtenkobgeflckdaaWe
set_option linter.unusedVariables false
set_option linter.unusedSimpArgs false
namespace Go.Proofs.Ytenkobgeflckdaa
open Go.RowKit

section
variable {P : Program} {ops : Array Oper} {Q : Exit → Act → World → Prop} {a : Act} {w : World}
structure InvX (P : Program) (ops : Array Oper) (n m μ : Nat) (ex : Nat → Nat) (Φ : Nat → Value → World → Prop) (J : Bool → World → Prop) (a0 : Act) (listed : Array Bool) (a : Act) (w : World) : Prop where
  size : listed.size = ops.size
  below : ∀ t, t < n → listed.getD t false = true
  tail : ∀ t, m ≤ t → listed.getD t false = false
  closed : ∀ j oj, ops[j]? = some oj → listed.getD j false = true → ∀ e ∈ oj.after, Region.binds .any e = true → listed.getD e.on false = true
  st : J (decide (n ≤ μ) && listed.getD μ false) w
  defers : a.defers = a0.defers
  tsize : a.tmps.size = a0.tmps.size
  told : ∀ i d, n ≤ i → i < m → listed.getD i false = true → dstOf ops i = some d → (m ≤ ex i ∨ listed.getD (ex i) false = false) → Φ i (slot a d) w
  kept : ∀ t, (∀ i, n ≤ i → i < m → listed.getD i false = true → dstOf ops i ≠ some t) → slot a t = slot a0 t

theorem seg_runX {n m μ : Nat} {ex : Nat → Nat} {Φ : Nat → Value → World → Prop} {J : Bool → World → Prop} {a0 : Act} (hh : segB ops n m = true) (hsk : ∀ i o, n ≤ i → i < m → ops[i]? = some o → Region.wanted o (yielded ops a0.tmps) = false → i ≠ μ ∧ ∀ W, Φ i undef W) (hd : ∀ i d, n ≤ i → i < m → dstOf ops i = some d → d < a0.tmps.size)
    (hstep : ∀ i o, n ≤ i → i < m → ops[i]? = some o → Region.wanted o (yielded ops a0.tmps) = true → ∀ (a : Act) (W : World) (b : Bool), J b W → (i = μ → b = false) → (∀ j d, n ≤ j → j < m → ahead .any ops ops.size j i = true → dstOf ops j = some d → (m ≤ ex j ∨ ex j = i ∨ ahead .any ops ops.size i (ex j) = true) → Φ j (slot a d) W) →
      (∀ t, t ∈ looks ops i → (∀ j, n ≤ j → j < m → dstOf ops j = some t → ahead .any ops ops.size j i = false) → slot a t = slot a0 t) → Gives P o a.eval W fun v W' => J (b || i == μ) W' ∧ Φ i v W' ∧ ∀ k u, k ≠ i → ex k ≠ i → ahead .any ops ops.size i k = false → (m ≤ ex k ∨ ahead .any ops ops.size (ex k) i = false) → Φ k u W → Φ k u W')
    (htail : ∀ (a : Act) (W : World), J (decide (n ≤ μ) && decide (μ < m)) W → a.defers = a0.defers → a.tmps.size = a0.tmps.size → (∀ i d, n ≤ i → i < m → dstOf ops i = some d → m ≤ ex i → Φ i (slot a d) W) → (∀ t, (∀ i, n ≤ i → i < m → dstOf ops i ≠ some t) → slot a t = slot a0 t) →
      AtN P ops Q m a W) :
    ∀ (c fuel : Nat) (listed : Array Bool) (a : Act) (w : World), InvX P ops n m μ ex Φ J a0 listed a w → ((List.range m).filter fun i => !listed.getD i false).length = c → ops.size + c ≤ m + fuel → wpAny P .any ops Q fuel listed a w := by
  simp only [segB, Bool.and_eq_true, decide_eq_true_eq] at hh
  obtain ⟨⟨⟨⟨⟨hnm, hms⟩, hB⟩, hT⟩, hD⟩, hL⟩ := hh
  simp only [List.all_eq_true, List.mem_range, Bool.or_eq_true, decide_eq_true_eq, Bool.and_eq_true] at hD hL
  intro c
  induction c with
  | zero =>
    intro fuel listed a w inv hm hf
    have hall : ∀ i, i < m → listed.getD i false = true := by
      intro i hi
      have h0 := List.eq_nil_of_length_eq_zero hm
      have := (List.filter_eq_nil_iff.1 h0) i (List.mem_range.2 hi)
      simpa using this
    have hst := inv.st
    have hlm : listed.getD μ false = decide (μ < m) := by
      rcases Nat.lt_or_ge μ m with h | h
      · rw [hall μ h]; simp [h]
      · rw [inv.tail μ h]; simp; omega
    rw [hlm] at hst
    refine htail a w hst inv.defers inv.tsize (fun i d hn hi hd' he => inv.told i d hn hi (hall i hi) hd' (.inl he)) (fun t ht => inv.kept t fun i hn hi _ => ht i hn hi) fuel listed inv.size (fun i => ?_) (by omega)
    rcases Nat.lt_or_ge i m with h | h
    · rw [hall i h]; simp [h]
    · rw [inv.tail i h]; simp; omega
  | succ c ih =>
    intro fuel listed a w inv hm hf
    have hmn : c + 1 ≤ m := by
      rw [← hm]
      exact Nat.le_trans (List.length_filter_le _ _) (by simp)
    obtain ⟨fuel, rfl⟩ : ∃ f, fuel = f + 1 := ⟨fuel - 1, by omega⟩
    have hex : ∃ i, i < m ∧ listed.getD i false = false := by
      cases hl : (List.range m).filter fun i => !listed.getD i false with
      | nil => rw [hl] at hm; cases hm
      | cons x l =>
        have hx : x ∈ (List.range m).filter fun i => !listed.getD i false := by rw [hl]; simp
        obtain ⟨h1, h2⟩ := List.mem_filter.1 hx
        exact ⟨x, List.mem_range.1 h1, by simpa using h2⟩
    refine ⟨fun hr => ?_, fun i hi => ?_⟩
    · exfalso
      obtain ⟨i, hin, hil⟩ := hex
      have key : ∀ k, k < m → listed.getD k false = true := by
        intro k
        induction k using Nat.strongRecOn with
        | _ k ihk =>
          intro hk
          cases hkl : listed.getD k false with
          | true => rfl
          | false =>
            have hks : k < ops.size := by omega
            have hmem : k ∈ Region.ready .any ops listed := mem_ready.2 ⟨by
              have : k < listed.size := by rw [inv.size]; exact hks
              simp [this] at hkl ⊢
              exact hkl, ops[k], Array.getElem?_eq_getElem hks, fun e he hb => by
              have := back_at hB (Array.getElem?_eq_getElem hks) he hb
              exact ihk e.on this (by omega)⟩
            rw [hr] at hmem
            cases hmem
      rw [key i hin] at hil
      cases hil
    · obtain ⟨hun, o, ho, hdeps⟩ := mem_ready.1 hi
      have hiz : i < ops.size := (Array.getElem?_eq_some_iff.1 ho).1
      have hunl : listed.getD i false = false := by
        have : i < listed.size := by rw [inv.size]; exact hiz
        simp [this] at hun ⊢
        exact hun
      have hni : n ≤ i := by
        rcases Nat.lt_or_ge i n with h | h
        · rw [inv.below i h] at hunl; cases hunl
        · exact h
      have hin : i < m := by
        rcases Nat.lt_or_ge i m with h | h
        · exact h
        · exfalso
          obtain ⟨k, hkn, hkl⟩ := hex
          have hkn' : n ≤ k := by
            rcases Nat.lt_or_ge k n with h | h
            · rw [inv.below k h] at hkl; cases hkl
            · exact h
          have ht := wall_at hT hiz h hkn' hkn
          have := ahead_listed inv.closed _ k i ht (fun oj hoj => by rw [ho] at hoj; cases hoj; exact hdeps)
          rw [this] at hkl
          cases hkl
      have hL' := (hL i hin).resolve_left (by omega)
      rw [ho] at hL'
      simp only [Bool.and_eq_true] at hL'
      have hgive := fun hw0 => hstep i o hni hin ho hw0 a w _ inv.st (fun e => by subst e; simp [hunl]) (fun j d hnj hj haj hdj hex => inv.told j d hnj hj (ahead_listed inv.closed _ j i haj (fun oj hoj => by rw [ho] at hoj; cases hoj; exact hdeps)) hdj (by
          rcases hex with h9 | h9 | h9
          · exact .inl h9
          · exact .inr (by rw [h9]; exact hunl)
          · refine .inr ?_
            cases hxl : listed.getD (ex j) false with
            | false => rfl
            | true =>
              have := ahead_listed inv.closed _ i (ex j) h9 (fun oj hoj => inv.closed (ex j) oj hoj hxl)
              rw [this] at hunl
              cases hunl))
        (fun t ht hno => inv.kept t fun j hnj hj hjl hdj => by
          have h3 := (hL'.2 j hj).resolve_left (by omega)
          rw [hdj] at h3
          simp only [Bool.or_eq_true, Bool.not_eq_true', List.contains_eq_mem, decide_eq_false_iff_not] at h3
          rcases h3 with (h3 | h3) | h3
          · exact h3 ht
          · rw [hno j hnj hj hdj] at h3; cases h3
          · have := ahead_listed inv.closed _ i j h3 (fun oj hoj => inv.closed j oj hoj hjl)
            rw [this] at hunl
            cases hunl)
      have hwant : Region.wanted o (yielded ops a.tmps) = Region.wanted o (yielded ops a0.tmps) := by
        have hg := hL'.1.1
        cases hgo : o.guard with
        | none => simp only [Region.wanted, hgo]
        | some gb =>
          obtain ⟨g, b⟩ := gb
          rw [hgo] at hg
          simp only [Bool.and_eq_true, decide_eq_true_eq, List.all_eq_true, List.mem_range, Bool.or_eq_true, bne_iff_ne] at hg
          have hyy := yielded_same (ops := ops) (g := g) inv.tsize (fun d hdg => inv.kept d fun j hnj hj _ hdj => by
            rcases hg.2 j hj with (h5 | h5) | h5
            · omega
            · rw [hdj] at h5; cases h5
            · exact h5 (hdj.trans hdg.symm))
          simp only [Region.wanted, hgo, hyy]
      have hili : i < listed.size := by rw [inv.size]; exact hiz
      unfold wpOp
      rw [ho]
      simp only []
      have hdst : dstOf ops i = o.dst := by simp [dstOf, ho]
      suffices hgo : ∀ v W', (J (decide (n ≤ μ) && listed.getD μ false || i == μ) W' ∧ Φ i v W' ∧ ∀ k u, k ≠ i → ex k ≠ i → ahead .any ops ops.size i k = false → (m ≤ ex k ∨ ahead .any ops ops.size (ex k) i = false) → Φ k u w → Φ k u W') → wpAny P .any ops Q fuel (listed.setIfInBounds i true) (a.put o.dst v) W' by
        rw [hwant]
        split
        · rename_i hw1
          exact .inl ((hgive hw1).wp fun v W' hR => hgo v W' hR)
        · rename_i hw1
          have h8 := hsk i o hni hin ho (by simpa using hw1)
          refine hgo undef w ⟨?_, h8.2 w, fun _ _ _ _ _ _ h => h⟩
          rw [show (i == μ) = false by simpa using h8.1, Bool.or_false]
          exact inv.st
      intro v W' hR
      refine ih fuel _ _ _ ⟨?_, ?_, ?_, ?_, ?_, ?_, ?_, ?_, ?_⟩ ?_ (by omega)
      · simp [inv.size]
      · intro t ht
        rw [getD_set hili, if_neg (by omega)]
        exact inv.below t ht
      · intro t ht
        rw [getD_set hili, if_neg (by omega)]
        exact inv.tail t ht
      · intro j oj hj hjl e he hb
        rw [getD_set hili] at hjl ⊢
        by_cases hij : i = j
        · subst hij
          rw [ho] at hj
          cases hj
          have := hdeps e he hb
          simp [this]
        · rw [if_neg hij] at hjl
          have := inv.closed j oj hj hjl e he hb
          simp [this]
      · have h6 := hR.1
        rw [getD_set hili]
        by_cases hiμ : i = μ
        · subst hiμ
          simpa [hni, hunl] using h6
        · rw [if_neg hiμ]
          rw [show (i == μ) = false by simpa using hiμ, Bool.or_false] at h6
          exact h6
      · rw [put_defers', inv.defers]
      · rw [put_size, inv.tsize]
      · intro j d hnj hj hjl hdj hexp
        rw [getD_set hili] at hjl hexp
        by_cases hij : i = j
        · subst hij
          have hdd : o.dst = some d := by rw [← hdst]; exact hdj
          rw [hdd, slot_put_same (by rw [inv.tsize]; exact hd i d hni hin hdj)]
          exact hR.2.1
        · rw [if_neg hij] at hjl
          have h4 := (((hD i hin).resolve_left (by omega)) j hj)
          simp only [Bool.or_eq_true, beq_iff_eq, bne_iff_ne, decide_eq_true_eq] at h4
          rw [slot_put_ne (by
            intro e
            rw [← hdst] at e
            rcases h4 with ((h4 | h4) | h4) | h4
            · omega
            · exact hij h4
            · rw [e] at h4; cases h4
            · exact h4 (e.trans hdj.symm))]
          have hxi : ex j ≠ i := by
            rintro e
            rcases hexp with h9 | h9
            · omega
            · rw [if_pos e.symm] at h9; cases h9
          have hah : ahead .any ops ops.size i j = false := by
            cases haj : ahead .any ops ops.size i j with
            | false => rfl
            | true =>
              have := ahead_listed inv.closed _ i j haj (fun oj hoj => inv.closed j oj hoj hjl)
              rw [this] at hunl
              cases hunl
          have hbh : m ≤ ex j ∨ ahead .any ops ops.size (ex j) i = false := by
            rcases hexp with h9 | h9
            · exact .inl h9
            · rw [if_neg (Ne.symm hxi)] at h9
              cases haj : ahead .any ops ops.size (ex j) i with
              | false => exact .inr rfl
              | true =>
                have := ahead_listed inv.closed _ (ex j) i haj (fun oj hoj => by rw [ho] at hoj; cases hoj; exact hdeps)
                rw [this] at h9
                cases h9
          refine hR.2.2 _ _ (Ne.symm hij) hxi hah hbh (inv.told j d hnj hj hjl hdj (hexp.imp id fun h9 => ?_))
          rw [if_neg (Ne.symm hxi)] at h9
          exact h9
      · intro t ht
        have hne : o.dst ≠ some t := by
          rw [← hdst]
          exact ht i hni hin (by rw [getD_set hili, if_pos rfl])
        rw [slot_put_ne hne]
        exact inv.kept t fun j hnj hj hjl => ht j hnj hj (by
          rw [getD_set hili]
          by_cases hij : i = j
          · rw [if_pos hij]
          · rw [if_neg hij]; exact hjl)
      · have hff := filter_flip (List.range m) (fun j => !listed.getD j false) (fun j => !(listed.setIfInBounds i true).getD j false) i List.nodup_range (List.mem_range.2 hin) (by simp only [hunl]; rfl) (by simp only [getD_set hili]; simp) (fun j hj => by simp only [getD_set hili, if_neg (Ne.symm hj)])
        omega

def sInX (ops : Array Oper) (n m : Nat) (ex : Nat → Nat) (i j d : Nat) : Bool := sInB ops n m i j d && (decide (m ≤ ex j) || ex j == i || ahead .any ops ops.size i (ex j))
/-- A stretch in whatever order: each gives what is told of it; number μ alone turns the state J. -/
theorem AtN.segX' (n m μ : Nat) (ex : Nat → Nat) (Φ : Nat → Value → World → Prop) (J : Bool → World → Prop) (hh : segB ops n m = true) (hsk : ∀ i o, n ≤ i → i < m → ops[i]? = some o → Region.wanted o (yielded ops a.tmps) = false → i ≠ μ ∧ ∀ W, Φ i undef W) (hd : sDstB ops n m a.tmps.size = true) (h0 : J false w)
    (hstep : ∀ i, n ≤ i → i < m → ∀ o, ops[i]? = some o → Region.wanted o (yielded ops a.tmps) = true → ∀ (A : Act) (W : World) (b : Bool), J b W → (i = μ → b = false) → (∀ j d, sInX ops n m ex i j d = true → Φ j (A.tmps[d]?.getD undef) W) →
      (∀ t, sKeptB ops n m i t = true → A.tmps[t]?.getD undef = slot a t) → Gives P o A.eval W fun v W' => J (b || i == μ) W' ∧ Φ i v W' ∧ ∀ k u, k ≠ i → ex k ≠ i → ahead .any ops ops.size i k = false → (m ≤ ex k ∨ ahead .any ops ops.size (ex k) i = false) → Φ k u W → Φ k u W')
    (htail : ∀ (A : Act) (W : World), J (decide (n ≤ μ) && decide (μ < m)) W → A.defers = a.defers → A.tmps.size = a.tmps.size → (∀ i d, sOutB ops n m i d = true → m ≤ ex i → Φ i (slot A d) W) → (∀ t, sOldB ops n m t = true → slot A t = slot a t) →
      AtN P ops Q m A W) : AtN P ops Q n a w := by
  intro fuel listed hls hl hf
  have hh' := hh
  simp only [segB, Bool.and_eq_true, decide_eq_true_eq] at hh'
  obtain ⟨⟨⟨⟨⟨hnm, hms⟩, hB⟩, hT⟩, hD⟩, hL⟩ := hh'
  simp only [sDstB, List.all_eq_true, List.mem_range, Bool.or_eq_true, decide_eq_true_eq] at hd
  refine seg_runX (n := n) (m := m) (μ := μ) (ex := ex) (Φ := Φ) (J := J) (a0 := a) hh hsk (fun i d hn hi hdi => ?_) (fun i o hn hi ho hw0 A W b hJ hμ hin hk => hstep i hn hi o ho hw0 A W b hJ hμ (fun j d h => ?_) (fun t h => ?_)) (fun A W h1 h2 h3 h4 h5 => htail A W h1 h2 h3 (fun i d h hx => ?_) (fun t h => ?_)) (m - n) fuel listed a w ⟨hls, ?_, ?_, ?_, ?_, rfl, rfl, ?_, fun _ _ => rfl⟩ ?_ (by omega)
  · have := (hd i hi).resolve_left (by omega)
    rw [hdi] at this
    simpa using this
  · simp only [sInX, sInB, Bool.and_eq_true, Bool.or_eq_true, decide_eq_true_eq, beq_iff_eq] at h
    obtain ⟨h, hx⟩ := h
    have := hin j d h.1.1.1 h.1.1.2 h.1.2 h.2 (by rcases hx with (h7 | h7) | h7 <;> simp [h7])
    simp only [slot, Array.getD_eq_getD_getElem?] at this
    exact this
  · simp only [sKeptB, Bool.and_eq_true, List.contains_eq_mem, decide_eq_true_eq, List.all_eq_true, List.mem_range, Bool.or_eq_true, bne_iff_ne, Bool.not_eq_true'] at h
    have := hk t h.1 (fun j hnj hj hdj => by
      rcases h.2 j hj with (h7 | h7) | h7
      · omega
      · exact absurd hdj h7
      · exact h7)
    simp only [slot, Array.getD_eq_getD_getElem?] at this ⊢
    exact this
  · simp only [sOutB, Bool.and_eq_true, decide_eq_true_eq, beq_iff_eq] at h
    exact h4 i d h.1.1 h.1.2 h.2 hx
  · simp only [sOldB, List.all_eq_true, List.mem_range, Bool.or_eq_true, decide_eq_true_eq, bne_iff_ne] at h
    exact h5 t fun i hn hi => (h i hi).resolve_left (by omega)
  · intro t ht
    rw [hl]; simpa using ht
  · intro t ht
    rw [hl]; simp; omega
  · intro j oj hj hjl e he hb
    have := back_at hB hj he hb
    rw [hl] at hjl ⊢
    simp only [decide_eq_true_eq] at hjl ⊢
    omega
  · rw [hl]
    have : (decide (n ≤ μ) && decide (μ < n)) = false := by simp
    rw [this]
    exact h0
  · intro i d hn hi hil
    rw [hl] at hil
    simp at hil
    omega
  · have hcong : ((List.range m).filter fun i => !listed.getD i false) = (List.range m).filter fun i => decide (n ≤ i) := List.filter_congr fun i _ => by
      rw [hl]
      by_cases h : i < n
      · simp [h]
      · simp [h]; omega
    rw [hcong]
    clear hcong
    have : ∀ m, ((List.range m).filter fun i => decide (n ≤ i)).length = m - n := by
      intro m
      induction m with
      | zero => simp
      | succ m ih =>
        rw [List.range_succ, List.filter_append, List.length_append, ih]
        by_cases h : n ≤ m
        · simp [h]; omega
        · simp [h]; omega
    exact this m


/-- What memory has become: T alone has turned, and nothing before number μ has been. -/
def JX (w : World) (T : Nat → Prop) (b : Bool) (W : World) : Prop := Chg w W T ∧ (b = false → New w W)
/-- A stretch that writes into memory of T (at number μ) and new memory; what is told of an operation holds until its reader has been (ex). -/
theorem AtN.segX2 (n m μ : Nat) (ds : List Nat) (T : Nat → Prop) (ex : Nat → Nat) (Φ : Nat → Value → World → Prop) (hh : segB ops n m = true) (hwn : wantB ops n m a.tmps = true) (hd : sDstB ops n m a.tmps.size = true) (hds : dsB ops n m ds = true)
    (hstep : ∀ i, n ≤ i → i < m → ∀ o, ops[i]? = some o → ∀ (A : Act) (W : World) (b : Bool), JX w T b W → (i = μ → b = false) → (∀ j d, sInX ops n m ex i j d = true → Φ j (A.tmps[d]?.getD undef) W) →
      (∀ t, sKeptB ops n m i t = true → A.tmps[t]?.getD undef = slot a t) → Gives P o A.eval W fun v W' => JX w T (b || i == μ) W' ∧ Φ i v W' ∧ ∀ k u, k ≠ i → ex k ≠ i → ahead .any ops ops.size i k = false → (m ≤ ex k ∨ ahead .any ops ops.size (ex k) i = false) → Φ k u W → Φ k u W')
    (htail : ∀ (l : List Value) (W : World), JX w T (decide (n ≤ μ) && decide (μ < m)) W → l.length = m - n → (∀ j, j < m - n → m ≤ ex (n + j) → Φ (n + j) (l.getD j undef) W) → AtN P ops Q m (putsL (ds.zip l) a) W) : AtN P ops Q n a w := by
  refine AtN.segX' n m μ ex Φ (JX w T) hh (fun i o hn hi ho h => (want_at hwn hn hi ho h).elim) hd ⟨Chg.refl _ _, fun _ => Chg.refl _ _⟩ (fun i hn hi o ho _ A W b hJ hμ hin hk => hstep i hn hi o ho A W b hJ hμ hin hk) (fun A W hN h1 h2 h3 h4 => ?_)
  have hds' := hds
  simp only [dsB, Bool.and_eq_true, decide_eq_true_eq] at hds'
  obtain ⟨⟨hlen, hnd⟩, _⟩ := hds'
  have hz : (ds.zip (ds.map (slot A))).map (·.1) = ds := List.map_fst_zip (by simp)
  rw [puts_eq (l := ds.zip (ds.map (slot A))) hds hd hz h1 h2 (fun i d hid v hv => ?_) h4]
  · refine htail _ W hN (by simpa using hlen) (fun j hj hx => ?_)
    obtain ⟨d, hd1, hd2⟩ := dsB_at hds (i := n + j) (by omega) (by omega)
    rw [show n + j - n = j by omega] at hd2
    have := h3 (n + j) d (by simp [sOutB, hd1]; omega) hx
    rw [List.getD_eq_getElem?_getD, List.getElem?_map, hd2]
    exact this
  · rw [List.getElem?_zip_eq_some] at hv
    obtain ⟨e1, e2⟩ := hv
    rw [List.getElem?_map, e1] at e2
    exact Option.some.inj e2
theorem JX.new {w W W' : World} {T : Nat → Prop} {b c : Bool} (h : JX w T b W) (hN : New W W') : JX w T (b || c) W' :=
  ⟨h.1.trans hN (fun _ _ x => x.elim), fun hb => (h.2 (by cases b <;> simp_all)).trans hN (fun _ _ x => x)⟩
/-- Memory of the stretch's own has turned. -/
theorem JX.fresh {w W W' : World} {T T' : Nat → Prop} {b c : Bool} (h : JX w T b W) (hc : Chg W W' T') (hT : ∀ k, T' k → w.heap.size ≤ k) : JX w T (b || c) W' :=
  ⟨h.1.trans hc (fun k hk h => absurd (hT k h) (by omega)), fun hb => (h.2 (by cases b <;> simp_all)).trans hc (fun k hk h => absurd (hT k h) (by omega))⟩
theorem JX.turn {w W W' : World} {T T' : Nat → Prop} {b : Bool} (h : JX w T b W) (hc : Chg W W' T') (hT : ∀ k, k < w.heap.size → T' k → T k) : JX w T (b || true) W' :=
  ⟨h.1.trans hc hT, fun hb => by cases b <;> simp at hb⟩
theorem ahead_no {b : Bool} {p : Prop} (h : b = false) (h' : b = true) : p := by rw [h] at h'; cases h'
/-- One that only reads, or lays new memory. -/
theorem Gives.newX {m : Nat} {o : Oper} {ρ : Operand → Value} {w W : World} {T : Nat → Prop} {Φ : Nat → Value → World → Prop} {ex : Nat → Nat} {i : Nat} {b c : Bool} (hJ : JX w T b W) (hst : ∀ i v w1 w2, New w1 w2 → Φ i v w1 → Φ i v w2) (h : Gives P o ρ W fun v W' => New W W' ∧ Φ i v W') :
    Gives P o ρ W fun v W' => JX w T (b || c) W' ∧ Φ i v W' ∧ ∀ k u, k ≠ i → ex k ≠ i → ahead .any ops ops.size i k = false → (m ≤ ex k ∨ ahead .any ops ops.size (ex k) i = false) → Φ k u W → Φ k u W' := by
  rcases h with ⟨v, W', hr, h1, h2⟩ | ⟨W', hr, h1, h2⟩ | ⟨f, args, W', hr, hc⟩
  · exact .inl ⟨v, W', hr, hJ.new h1, h2, fun k u _ _ _ _ h => hst k u _ _ h1 h⟩
  · exact .inr (.inl ⟨W', hr, hJ.new h1, h2, fun k u _ _ _ _ h => hst k u _ _ h1 h⟩)
  · refine .inr (.inr ⟨f, args, W', hr, hc.mono ?_⟩)
    rintro e W'' ⟨v, he, h1, h2⟩
    exact ⟨v, he, hJ.new h1, h2, fun k u _ _ _ _ h => hst k u _ _ h1 h⟩
end
end Go.Proofs.Ytenkobgeflckdaa
