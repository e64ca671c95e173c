/- A region that draws its order, taken in stretches. -/
import Derived.Test.YtenkobgeflckdaaWc
set_option linter.unusedVariables false
set_option linter.unusedSimpArgs false
namespace Go.Proofs.Ytenkobgeflckdaa
open Go.RowKit

/-- The region stands before its operation number n: all ahead of it are done, none from it on. -/
def AtN (P : Program) (ops : Array Oper) (Q : Exit → Act → World → Prop) (n : Nat) (a : Act) (w : World) : Prop :=
  ∀ fuel (listed : Array Bool), listed.size = ops.size → (∀ i, listed.getD i false = decide (i < n)) → ops.size ≤ n + fuel → wpAny P .any ops Q fuel listed a w

/-- All edges point back. -/
def backB (ops : Array Oper) : Bool := (List.range ops.size).all (fun i => match ops[i]? with | some o => o.after.all fun e => !Region.binds .any e || decide (e.on < i) | none => true)
/-- Nothing from m on may come ahead of those from n to m. -/
def wallB (ops : Array Oper) (n m : Nat) : Bool := (List.range ops.size).all fun t => decide (t < m) || (List.range m).all fun i => decide (i < n) || ahead .any ops ops.size i t

section
variable {P : Program} {ops : Array Oper} {Q : Exit → Act → World → Prop} {a : Act} {w : World}

theorem wp_region_at {id : Nat} (hm : P.follows .mixedOrders = true) (h : AtN P ops Q 0 a w.drew) : (Code.region id ops true).wp P Q a w := by
  refine wp_region_any hm ?_
  refine h _ _ (by simp) (fun i => ?_) (by omega)
  rcases Nat.lt_or_ge i ops.size with h | h <;> simp [h]

theorem AtN.done {n : Nat} (hn : n = ops.size) (h : Q .normal a w) : AtN P ops Q n a w := by
  subst hn
  intro fuel listed hls hl hf
  have hr : Region.ready .any ops listed = [] := by
    cases hr : Region.ready .any ops listed with
    | nil => rfl
    | cons x l =>
      have hx : x ∈ Region.ready .any ops listed := by rw [hr]; simp
      obtain ⟨h1, o, ho, _⟩ := mem_ready.1 hx
      have hxz := (Array.getElem?_eq_some_iff.1 ho).1
      have := hl x
      have hxs : x < listed.size := by rw [hls]; exact hxz
      simp [hxs] at h1 this
      simp [this, hxz] at h1
  cases fuel with
  | zero => exact ⟨hr, h⟩
  | succ f => exact ⟨fun _ => h, by rw [hr]; simp⟩

theorem back_at (hb : backB ops = true) {j : Nat} {oj : Oper} (hj : ops[j]? = some oj) {e : Edge} (he : e ∈ oj.after) (hbd : Region.binds .any e = true) : e.on < j := by
  simp only [backB, List.all_eq_true, List.mem_range] at hb
  have hb0 := hb j (Array.getElem?_eq_some_iff.1 hj).1
  rw [hj] at hb0
  have := Array.all_eq_true'.1 hb0 e he
  simp only [hbd, Bool.not_true, Bool.false_or, decide_eq_true_eq] at this
  exact this
theorem wall_at {n m : Nat} (hw : wallB ops n m = true) {t i : Nat} (ht : t < ops.size) (hm : m ≤ t) (hn : n ≤ i) (hi : i < m) : ahead .any ops ops.size i t = true := by
  simp only [wallB, List.all_eq_true, List.mem_range, Bool.or_eq_true, decide_eq_true_eq] at hw
  exact ((hw t ht).resolve_left (by omega) i hi).resolve_left (by omega)

/-- One operation whose turn is forced. -/
theorem AtN.one {n : Nat} (hb : backB ops = true) (hw : wallB ops n (n + 1) = true) {o : Oper} (ho : ops[n]? = some o)
    (h : if Region.wanted o (yielded ops a.tmps) then o.wp P a w (AtN P ops Q (n + 1)) Q ∨ (o.asks P a w ∧ LetsOut Q) else AtN P ops Q (n + 1) (a.put o.dst undef) w) : AtN P ops Q n a w := by
  intro fuel listed hls hl hf
  have htz : n < ops.size := (Array.getElem?_eq_some_iff.1 ho).1
  obtain ⟨fuel, rfl⟩ : ∃ f, fuel = f + 1 := ⟨fuel - 1, by omega⟩
  have hclosed : ∀ j oj, ops[j]? = some oj → listed.getD j false = true → ∀ e ∈ oj.after, Region.binds .any e = true → listed.getD e.on false = true := by
    intro j oj hj hjl e he hbd
    have := back_at hb hj he hbd
    rw [hl] at hjl ⊢
    simp only [decide_eq_true_eq] at hjl ⊢
    omega
  have hrt : n ∈ Region.ready .any ops listed := mem_ready.2 ⟨by
    have := hl n
    have hxs : n < listed.size := by omega
    simp [hxs] at this ⊢
    exact this, o, ho, fun e he hbd => by
      have := back_at hb ho he hbd
      rw [hl]
      simpa using this⟩
  refine ⟨fun hr => (by rw [hr] at hrt; cases hrt), fun i hi => ?_⟩
  obtain ⟨hun, o', ho', hdeps⟩ := mem_ready.1 hi
  have hiz := (Array.getElem?_eq_some_iff.1 ho').1
  have hige : n ≤ i := by
    have := hl i
    have hxs : i < listed.size := by omega
    simp [hxs] at hun this
    rw [hun] at this
    simpa using this.symm
  obtain rfl : i = n := by
    rcases Nat.lt_or_ge n i with h | h
    · exfalso
      have ha := wall_at hw hiz h (Nat.le_refl n) (Nat.lt_succ_self n)
      have := ahead_listed hclosed _ n i ha (fun oj hoj => by rw [ho'] at hoj; cases hoj; exact hdeps)
      rw [hl] at this
      simp at this
    · omega
  have hnext : ∀ a' W', AtN P ops Q (i + 1) a' W' → wpAny P .any ops Q fuel (listed.setIfInBounds i true) a' W' := fun a' W' h =>
    h fuel _ (by simp [hls]) (fun j => by
      rw [getD_set (by omega), hl]
      by_cases hij : i = j
      · subst hij; simp
      · rw [if_neg hij]
        have : (j < i) ↔ (j < i + 1) := by omega
        simp [this]) (by omega)
  unfold wpOp
  rw [ho]
  simp only []
  split at h
  · rename_i hwt
    rw [if_pos hwt]
    exact h.imp (Oper.wp_mono hnext) id
  · rename_i hwt
    rw [if_neg hwt]
    exact hnext _ _ h

/-- What stands behind a stretch in the text's order. -/
def upto (P : Program) (ops : Array Oper) (Q : Exit → Act → World → Prop) (m : Nat) : Exit → Act → World → Prop := fun e a w => match e with
  | .normal => AtN P ops Q m a w
  | .exit i => Q (.exit i) a w
  | .ret => Q .ret a w
  | .panic c => Q (.panic c) a w
  | .outgrown => Q .outgrown a w
  | e => Q e a w
theorem letsOut_upto {m : Nat} : LetsOut (upto P ops Q m) → LetsOut Q := fun ⟨a, w, h⟩ => ⟨a, w, h⟩
theorem wp_upto {o : Oper} {m : Nat} {K : Act → World → Prop} (h : o.wp P a w K (upto P ops Q m)) : o.wp P a w K Q := by
  unfold Oper.wp at *
  generalize (execOp a.eval o).run P w = r at *
  cases r with
  | ok n w' =>
    cases n with
    | enter f args =>
      refine Calls.mono h fun e w'' h => ?_
      cases e with
      | returned v => exact h
      | panicked c => exact h
      | outgrown => exact letsOut_upto h
    | value v => exact h
    | skip => exact h
    | defer d => exact h
    | row r args => exact h
    | _ => exact h
  | halt x w' => cases x <;> exact h

theorem stretch (hb : backB ops = true) : ∀ (l : List Oper) (n m : Nat), m = n + l.length → (∀ t, n ≤ t → t < m → wallB ops t (t + 1) = true) → (∀ j, j < l.length → ops[n + j]? = l[j]?) → ∀ a w, wpList P ops (upto P ops Q m) l a w → AtN P ops Q n a w
  | [], n, m, hm, _, _, a, w, h => by
    simp only [List.length_nil, Nat.add_zero] at hm
    subst hm
    exact h
  | o :: l, n, m, hm, hw, hl, a, w, h => by
    simp only [List.length_cons] at hm
    have ih := stretch hb l (n + 1) m (by omega) (fun t h1 h2 => hw t (by omega) h2) (fun j hj => by
      have := hl (j + 1) (by simp; omega)
      rw [List.getElem?_cons_succ] at this
      rw [← this]
      congr 1
      omega)
    refine AtN.one hb (hw n (Nat.le_refl n) (by omega)) (by simpa using hl 0 (by simp)) ?_
    unfold wpList at h
    split at h
    · rename_i hwt
      rw [if_pos hwt]
      exact h.imp (fun h => Oper.wp_mono ih (wp_upto h)) (fun h => ⟨h.1, letsOut_upto h.2⟩)
    · rename_i hwt
      rw [if_neg hwt]
      exact ih _ _ h
def listB (ops : Array Oper) (n m : Nat) : Bool := decide (n ≤ m) && decide (m ≤ ops.size) && backB ops && (List.range m).all fun t => decide (t < n) || wallB ops t (t + 1)
/-- A stretch whose order is forced. -/
theorem AtN.list (n m : Nat) (hh : listB ops n m = true) (h : wpList P ops (upto P ops Q m) ((ops.toList.drop n).take (m - n)) a w) : AtN P ops Q n a w := by
  simp only [listB, Bool.and_eq_true, decide_eq_true_eq, List.all_eq_true, List.mem_range, Bool.or_eq_true] at hh
  obtain ⟨⟨⟨h1, h2⟩, h3⟩, h4⟩ := hh
  have hlen : ((ops.toList.drop n).take (m - n)).length = m - n := by simp; omega
  refine stretch h3 _ n m (by rw [hlen]; omega) (fun t ht1 ht2 => (h4 t ht2).resolve_left (by omega)) (fun j hj => ?_) _ _ h
  rw [hlen] at hj
  rw [List.getElem?_take, if_pos hj, List.getElem?_drop]
  simp

/-- Those from n to m in whatever order. -/
def segB (ops : Array Oper) (n m : Nat) : Bool :=
  decide (n ≤ m) && decide (m ≤ ops.size) && backB ops && wallB ops n m &&
  (List.range m).all (fun i => decide (i < n) || ((List.range m).all fun j => decide (j < n) || i == j || (dstOf ops i).isNone || dstOf ops i != dstOf ops j)) &&
  (List.range m).all (fun i => decide (i < n) || ((match ops[i]? with | some o => (match o.guard with | some (g, _) => decide (g < n) && (List.range m).all (fun j => decide (j < n) || (dstOf ops j).isNone || dstOf ops j != dstOf ops g) | none => true) && !(match o.op with | .select _ _ => true | _ => false) | none => false) && (List.range m).all fun j => decide (j < n) || match dstOf ops j with | some d => !(looks ops i).contains d || ahead .any ops ops.size j i || ahead .any ops ops.size i j | none => true))
def wantB (ops : Array Oper) (n m : Nat) (tmps : Array Value) : Bool := (List.range m).all fun i => decide (i < n) || match ops[i]? with | some o => Region.wanted o (yielded ops tmps) | none => true

structure InvS (P : Program) (ops : Array Oper) (n m μ : Nat) (Φ : Nat → Value → World → Prop) (J : Bool → World → Prop) (a0 : Act) (listed : Array Bool) (a : Act) (w : World) : Prop where
  size : listed.size = ops.size
  below : ∀ t, t < n → listed.getD t false = true
  tail : ∀ t, m ≤ t → listed.getD t false = false
  closed : ∀ j oj, ops[j]? = some oj → listed.getD j false = true → ∀ e ∈ oj.after, Region.binds .any e = true → listed.getD e.on false = true
  st : J (decide (n ≤ μ) && listed.getD μ false) w
  defers : a.defers = a0.defers
  tsize : a.tmps.size = a0.tmps.size
  told : ∀ i d, n ≤ i → i < m → listed.getD i false = true → dstOf ops i = some d → Φ i (slot a d) w
  kept : ∀ t, (∀ i, n ≤ i → i < m → listed.getD i false = true → dstOf ops i ≠ some t) → slot a t = slot a0 t

theorem yielded_same {a a0 : Act} {g : Nat} (hs : a.tmps.size = a0.tmps.size) (h : ∀ d, dstOf ops g = some d → slot a d = slot a0 d) : yielded ops a.tmps g = yielded ops a0.tmps g := by
  unfold yielded
  cases hd : (ops[g]?).bind (·.dst) with
  | none => rfl
  | some d =>
    simp only [Option.bind_some]
    have h' := h d hd
    unfold slot at h'
    rcases Nat.lt_or_ge d a.tmps.size with hlt | hge
    · have hlt0 : d < a0.tmps.size := hs ▸ hlt
      simp only [Array.getD_eq_getD_getElem?, Array.getElem?_eq_getElem hlt, Array.getElem?_eq_getElem hlt0, Option.getD_some] at h' ⊢
      rw [h']
    · rw [Array.getElem?_eq_none hge, Array.getElem?_eq_none (hs ▸ hge)]

theorem seg_run {n m μ : Nat} {Φ : Nat → Value → World → Prop} {J : Bool → World → Prop} {a0 : Act} (hh : segB ops n m = true) (hsk : ∀ i o, n ≤ i → i < m → ops[i]? = some o → Region.wanted o (yielded ops a0.tmps) = false → i ≠ μ ∧ ∀ W, Φ i undef W) (hd : ∀ i d, n ≤ i → i < m → dstOf ops i = some d → d < a0.tmps.size)
    (hstep : ∀ i o, n ≤ i → i < m → ops[i]? = some o → Region.wanted o (yielded ops a0.tmps) = true → ∀ (a : Act) (W : World) (b : Bool), J b W → (i = μ → b = false) → (∀ j d, n ≤ j → j < m → ahead .any ops ops.size j i = true → dstOf ops j = some d → Φ j (slot a d) W) →
      (∀ t, t ∈ looks ops i → (∀ j, n ≤ j → j < m → dstOf ops j = some t → ahead .any ops ops.size j i = false) → slot a t = slot a0 t) → Gives P o a.eval W fun v W' => J (b || i == μ) W' ∧ Φ i v W' ∧ ∀ k u, Φ k u W → Φ k u W')
    (htail : ∀ (a : Act) (W : World), J (decide (n ≤ μ) && decide (μ < m)) W → a.defers = a0.defers → a.tmps.size = a0.tmps.size → (∀ i d, n ≤ i → i < m → dstOf ops i = some d → Φ i (slot a d) W) → (∀ t, (∀ i, n ≤ i → i < m → dstOf ops i ≠ some t) → slot a t = slot a0 t) →
      AtN P ops Q m a W) :
    ∀ (c fuel : Nat) (listed : Array Bool) (a : Act) (w : World), InvS P ops n m μ Φ J a0 listed a w → ((List.range m).filter fun i => !listed.getD i false).length = c → ops.size + c ≤ m + fuel → wpAny P .any ops Q fuel listed a w := by
  simp only [segB, Bool.and_eq_true, decide_eq_true_eq] at hh
  obtain ⟨⟨⟨⟨⟨hnm, hms⟩, hB⟩, hT⟩, hD⟩, hL⟩ := hh
  simp only [List.all_eq_true, List.mem_range, Bool.or_eq_true, decide_eq_true_eq, Bool.and_eq_true] at hD hL
  intro c
  induction c with
  | zero =>
    intro fuel listed a w inv hm hf
    have hall : ∀ i, i < m → listed.getD i false = true := by
      intro i hi
      have h0 := List.eq_nil_of_length_eq_zero hm
      have := (List.filter_eq_nil_iff.1 h0) i (List.mem_range.2 hi)
      simpa using this
    have hst := inv.st
    have hlm : listed.getD μ false = decide (μ < m) := by
      rcases Nat.lt_or_ge μ m with h | h
      · rw [hall μ h]; simp [h]
      · rw [inv.tail μ h]; simp; omega
    rw [hlm] at hst
    refine htail a w hst inv.defers inv.tsize (fun i d hn hi hd' => inv.told i d hn hi (hall i hi) hd') (fun t ht => inv.kept t fun i hn hi _ => ht i hn hi) fuel listed inv.size (fun i => ?_) (by omega)
    rcases Nat.lt_or_ge i m with h | h
    · rw [hall i h]; simp [h]
    · rw [inv.tail i h]; simp; omega
  | succ c ih =>
    intro fuel listed a w inv hm hf
    have hmn : c + 1 ≤ m := by
      rw [← hm]
      exact Nat.le_trans (List.length_filter_le _ _) (by simp)
    obtain ⟨fuel, rfl⟩ : ∃ f, fuel = f + 1 := ⟨fuel - 1, by omega⟩
    have hex : ∃ i, i < m ∧ listed.getD i false = false := by
      cases hl : (List.range m).filter fun i => !listed.getD i false with
      | nil => rw [hl] at hm; cases hm
      | cons x l =>
        have hx : x ∈ (List.range m).filter fun i => !listed.getD i false := by rw [hl]; simp
        obtain ⟨h1, h2⟩ := List.mem_filter.1 hx
        exact ⟨x, List.mem_range.1 h1, by simpa using h2⟩
    refine ⟨fun hr => ?_, fun i hi => ?_⟩
    · exfalso
      obtain ⟨i, hin, hil⟩ := hex
      have key : ∀ k, k < m → listed.getD k false = true := by
        intro k
        induction k using Nat.strongRecOn with
        | _ k ihk =>
          intro hk
          cases hkl : listed.getD k false with
          | true => rfl
          | false =>
            have hks : k < ops.size := by omega
            have hmem : k ∈ Region.ready .any ops listed := mem_ready.2 ⟨by
              have : k < listed.size := by rw [inv.size]; exact hks
              simp [this] at hkl ⊢
              exact hkl, ops[k], Array.getElem?_eq_getElem hks, fun e he hb => by
              have := back_at hB (Array.getElem?_eq_getElem hks) he hb
              exact ihk e.on this (by omega)⟩
            rw [hr] at hmem
            cases hmem
      rw [key i hin] at hil
      cases hil
    · obtain ⟨hun, o, ho, hdeps⟩ := mem_ready.1 hi
      have hiz : i < ops.size := (Array.getElem?_eq_some_iff.1 ho).1
      have hunl : listed.getD i false = false := by
        have : i < listed.size := by rw [inv.size]; exact hiz
        simp [this] at hun ⊢
        exact hun
      have hni : n ≤ i := by
        rcases Nat.lt_or_ge i n with h | h
        · rw [inv.below i h] at hunl; cases hunl
        · exact h
      have hin : i < m := by
        rcases Nat.lt_or_ge i m with h | h
        · exact h
        · exfalso
          obtain ⟨k, hkn, hkl⟩ := hex
          have hkn' : n ≤ k := by
            rcases Nat.lt_or_ge k n with h | h
            · rw [inv.below k h] at hkl; cases hkl
            · exact h
          have ht := wall_at hT hiz h hkn' hkn
          have := ahead_listed inv.closed _ k i ht (fun oj hoj => by rw [ho] at hoj; cases hoj; exact hdeps)
          rw [this] at hkl
          cases hkl
      have hL' := (hL i hin).resolve_left (by omega)
      rw [ho] at hL'
      simp only [Bool.and_eq_true] at hL'
      have hgive := fun hw0 => hstep i o hni hin ho hw0 a w _ inv.st (fun e => by subst e; simp [hunl]) (fun j d hnj hj haj hdj => inv.told j d hnj hj (ahead_listed inv.closed _ j i haj (fun oj hoj => by rw [ho] at hoj; cases hoj; exact hdeps)) hdj)
        (fun t ht hno => inv.kept t fun j hnj hj hjl hdj => by
          have h3 := (hL'.2 j hj).resolve_left (by omega)
          rw [hdj] at h3
          simp only [Bool.or_eq_true, Bool.not_eq_true', List.contains_eq_mem, decide_eq_false_iff_not] at h3
          rcases h3 with (h3 | h3) | h3
          · exact h3 ht
          · rw [hno j hnj hj hdj] at h3; cases h3
          · have := ahead_listed inv.closed _ i j h3 (fun oj hoj => inv.closed j oj hoj hjl)
            rw [this] at hunl
            cases hunl)
      have hwant : Region.wanted o (yielded ops a.tmps) = Region.wanted o (yielded ops a0.tmps) := by
        have hg := hL'.1.1
        cases hgo : o.guard with
        | none => simp only [Region.wanted, hgo]
        | some gb =>
          obtain ⟨g, b⟩ := gb
          rw [hgo] at hg
          simp only [Bool.and_eq_true, decide_eq_true_eq, List.all_eq_true, List.mem_range, Bool.or_eq_true, bne_iff_ne] at hg
          have hyy := yielded_same (ops := ops) (g := g) inv.tsize (fun d hdg => inv.kept d fun j hnj hj _ hdj => by
            rcases hg.2 j hj with (h5 | h5) | h5
            · omega
            · rw [hdj] at h5; cases h5
            · exact h5 (hdj.trans hdg.symm))
          simp only [Region.wanted, hgo, hyy]
      have hili : i < listed.size := by rw [inv.size]; exact hiz
      unfold wpOp
      rw [ho]
      simp only []
      have hdst : dstOf ops i = o.dst := by simp [dstOf, ho]
      suffices hgo : ∀ v W', (J (decide (n ≤ μ) && listed.getD μ false || i == μ) W' ∧ Φ i v W' ∧ ∀ k u, Φ k u w → Φ k u W') → wpAny P .any ops Q fuel (listed.setIfInBounds i true) (a.put o.dst v) W' by
        rw [hwant]
        split
        · rename_i hw1
          exact .inl ((hgive hw1).wp fun v W' hR => hgo v W' hR)
        · rename_i hw1
          have h8 := hsk i o hni hin ho (by simpa using hw1)
          refine hgo undef w ⟨?_, h8.2 w, fun _ _ h => h⟩
          rw [show (i == μ) = false by simpa using h8.1, Bool.or_false]
          exact inv.st
      intro v W' hR
      refine ih fuel _ _ _ ⟨?_, ?_, ?_, ?_, ?_, ?_, ?_, ?_, ?_⟩ ?_ (by omega)
      · simp [inv.size]
      · intro t ht
        rw [getD_set hili, if_neg (by omega)]
        exact inv.below t ht
      · intro t ht
        rw [getD_set hili, if_neg (by omega)]
        exact inv.tail t ht
      · intro j oj hj hjl e he hb
        rw [getD_set hili] at hjl ⊢
        by_cases hij : i = j
        · subst hij
          rw [ho] at hj
          cases hj
          have := hdeps e he hb
          simp [this]
        · rw [if_neg hij] at hjl
          have := inv.closed j oj hj hjl e he hb
          simp [this]
      · have h6 := hR.1
        rw [getD_set hili]
        by_cases hiμ : i = μ
        · subst hiμ
          simpa [hni, hunl] using h6
        · rw [if_neg hiμ]
          rw [show (i == μ) = false by simpa using hiμ, Bool.or_false] at h6
          exact h6
      · rw [put_defers', inv.defers]
      · rw [put_size, inv.tsize]
      · intro j d hnj hj hjl hdj
        rw [getD_set hili] at hjl
        by_cases hij : i = j
        · subst hij
          have hdd : o.dst = some d := by rw [← hdst]; exact hdj
          rw [hdd, slot_put_same (by rw [inv.tsize]; exact hd i d hni hin hdj)]
          exact hR.2.1
        · rw [if_neg hij] at hjl
          have h4 := (((hD i hin).resolve_left (by omega)) j hj)
          simp only [Bool.or_eq_true, beq_iff_eq, bne_iff_ne, decide_eq_true_eq] at h4
          rw [slot_put_ne (by
            intro e
            rw [← hdst] at e
            rcases h4 with ((h4 | h4) | h4) | h4
            · omega
            · exact hij h4
            · rw [e] at h4; cases h4
            · exact h4 (e.trans hdj.symm))]
          exact hR.2.2 _ _ (inv.told j d hnj hj hjl hdj)
      · intro t ht
        have hne : o.dst ≠ some t := by
          rw [← hdst]
          exact ht i hni hin (by rw [getD_set hili, if_pos rfl])
        rw [slot_put_ne hne]
        exact inv.kept t fun j hnj hj hjl => ht j hnj hj (by
          rw [getD_set hili]
          by_cases hij : i = j
          · rw [if_pos hij]
          · rw [if_neg hij]; exact hjl)
      · have hff := filter_flip (List.range m) (fun j => !listed.getD j false) (fun j => !(listed.setIfInBounds i true).getD j false) i List.nodup_range (List.mem_range.2 hin) (by simp only [hunl]; rfl) (by simp only [getD_set hili]; simp) (fun j hj => by simp only [getD_set hili, if_neg (Ne.symm hj)])
        omega

def sKeptB (ops : Array Oper) (n m i t : Nat) : Bool := (looks ops i).contains t && (List.range m).all fun j => decide (j < n) || dstOf ops j != some t || !ahead .any ops ops.size j i
def sInB (ops : Array Oper) (n m i j d : Nat) : Bool := decide (n ≤ j) && decide (j < m) && ahead .any ops ops.size j i && dstOf ops j == some d
def sOutB (ops : Array Oper) (n m i d : Nat) : Bool := decide (n ≤ i) && decide (i < m) && dstOf ops i == some d
def sOldB (ops : Array Oper) (n m t : Nat) : Bool := (List.range m).all fun j => decide (j < n) || dstOf ops j != some t
def sDstB (ops : Array Oper) (n m s : Nat) : Bool := (List.range m).all fun i => decide (i < n) || match dstOf ops i with | some d => decide (d < s) | none => true

/-- A stretch in whatever order: each gives what is told of it; number μ alone turns the state J. -/
theorem AtN.seg' (n m μ : Nat) (Φ : Nat → Value → World → Prop) (J : Bool → World → Prop) (hh : segB ops n m = true) (hsk : ∀ i o, n ≤ i → i < m → ops[i]? = some o → Region.wanted o (yielded ops a.tmps) = false → i ≠ μ ∧ ∀ W, Φ i undef W) (hd : sDstB ops n m a.tmps.size = true) (h0 : J false w)
    (hstep : ∀ i, n ≤ i → i < m → ∀ o, ops[i]? = some o → Region.wanted o (yielded ops a.tmps) = true → ∀ (A : Act) (W : World) (b : Bool), J b W → (i = μ → b = false) → (∀ j d, sInB ops n m i j d = true → Φ j (A.tmps[d]?.getD undef) W) →
      (∀ t, sKeptB ops n m i t = true → A.tmps[t]?.getD undef = slot a t) → Gives P o A.eval W fun v W' => J (b || i == μ) W' ∧ Φ i v W' ∧ ∀ k u, Φ k u W → Φ k u W')
    (htail : ∀ (A : Act) (W : World), J (decide (n ≤ μ) && decide (μ < m)) W → A.defers = a.defers → A.tmps.size = a.tmps.size → (∀ i d, sOutB ops n m i d = true → Φ i (slot A d) W) → (∀ t, sOldB ops n m t = true → slot A t = slot a t) →
      AtN P ops Q m A W) : AtN P ops Q n a w := by
  intro fuel listed hls hl hf
  have hh' := hh
  simp only [segB, Bool.and_eq_true, decide_eq_true_eq] at hh'
  obtain ⟨⟨⟨⟨⟨hnm, hms⟩, hB⟩, hT⟩, hD⟩, hL⟩ := hh'
  simp only [sDstB, List.all_eq_true, List.mem_range, Bool.or_eq_true, decide_eq_true_eq] at hd
  refine seg_run (n := n) (m := m) (μ := μ) (Φ := Φ) (J := J) (a0 := a) hh hsk (fun i d hn hi hdi => ?_) (fun i o hn hi ho hw0 A W b hJ hμ hin hk => hstep i hn hi o ho hw0 A W b hJ hμ (fun j d h => ?_) (fun t h => ?_)) (fun A W h1 h2 h3 h4 h5 => htail A W h1 h2 h3 (fun i d h => ?_) (fun t h => ?_)) (m - n) fuel listed a w ⟨hls, ?_, ?_, ?_, ?_, rfl, rfl, ?_, fun _ _ => rfl⟩ ?_ (by omega)
  · have := (hd i hi).resolve_left (by omega)
    rw [hdi] at this
    simpa using this
  · simp only [sInB, Bool.and_eq_true, decide_eq_true_eq, beq_iff_eq] at h
    have := hin j d h.1.1.1 h.1.1.2 h.1.2 h.2
    simp only [slot, Array.getD_eq_getD_getElem?] at this
    exact this
  · simp only [sKeptB, Bool.and_eq_true, List.contains_eq_mem, decide_eq_true_eq, List.all_eq_true, List.mem_range, Bool.or_eq_true, bne_iff_ne, Bool.not_eq_true'] at h
    have := hk t h.1 (fun j hnj hj hdj => by
      rcases h.2 j hj with (h7 | h7) | h7
      · omega
      · exact absurd hdj h7
      · exact h7)
    simp only [slot, Array.getD_eq_getD_getElem?] at this ⊢
    exact this
  · simp only [sOutB, Bool.and_eq_true, decide_eq_true_eq, beq_iff_eq] at h
    exact h4 i d h.1.1 h.1.2 h.2
  · simp only [sOldB, List.all_eq_true, List.mem_range, Bool.or_eq_true, decide_eq_true_eq, bne_iff_ne] at h
    exact h5 t fun i hn hi => (h i hi).resolve_left (by omega)
  · intro t ht
    rw [hl]; simpa using ht
  · intro t ht
    rw [hl]; simp; omega
  · intro j oj hj hjl e he hb
    have := back_at hB hj he hb
    rw [hl] at hjl ⊢
    simp only [decide_eq_true_eq] at hjl ⊢
    omega
  · rw [hl]
    have : (decide (n ≤ μ) && decide (μ < n)) = false := by simp
    rw [this]
    exact h0
  · intro i d hn hi hil
    rw [hl] at hil
    simp at hil
    omega
  · have hcong : ((List.range m).filter fun i => !listed.getD i false) = (List.range m).filter fun i => decide (n ≤ i) := List.filter_congr fun i _ => by
      rw [hl]
      by_cases h : i < n
      · simp [h]
      · simp [h]; omega
    rw [hcong]
    clear hcong
    have : ∀ m, ((List.range m).filter fun i => decide (n ≤ i)).length = m - n := by
      intro m
      induction m with
      | zero => simp
      | succ m ih =>
        rw [List.range_succ, List.filter_append, List.length_append, ih]
        by_cases h : n ≤ m
        · simp [h]; omega
        · simp [h]; omega
    exact this m

theorem want_at {n m : Nat} (hwn : wantB ops n m a.tmps = true) {i : Nat} {o : Oper} (hn : n ≤ i) (hi : i < m) (ho : ops[i]? = some o) (h : Region.wanted o (yielded ops a.tmps) = false) : False := by
  simp only [wantB, List.all_eq_true, List.mem_range, Bool.or_eq_true, decide_eq_true_eq] at hwn
  have h0 := (hwn i hi).resolve_left (by omega)
  rw [ho] at h0
  simp only [h] at h0
  cases h0
theorem AtN.seg (n m μ : Nat) (Φ : Nat → Value → World → Prop) (J : Bool → World → Prop) (hh : segB ops n m = true) (hwn : wantB ops n m a.tmps = true) (hd : sDstB ops n m a.tmps.size = true) (h0 : J false w)
    (hstep : ∀ i, n ≤ i → i < m → ∀ o, ops[i]? = some o → ∀ (A : Act) (W : World) (b : Bool), J b W → (i = μ → b = false) → (∀ j d, sInB ops n m i j d = true → Φ j (A.tmps[d]?.getD undef) W) →
      (∀ t, sKeptB ops n m i t = true → A.tmps[t]?.getD undef = slot a t) → Gives P o A.eval W fun v W' => J (b || i == μ) W' ∧ Φ i v W' ∧ ∀ k u, Φ k u W → Φ k u W')
    (htail : ∀ (A : Act) (W : World), J (decide (n ≤ μ) && decide (μ < m)) W → A.defers = a.defers → A.tmps.size = a.tmps.size → (∀ i d, sOutB ops n m i d = true → Φ i (slot A d) W) → (∀ t, sOldB ops n m t = true → slot A t = slot a t) →
      AtN P ops Q m A W) : AtN P ops Q n a w :=
  AtN.seg' n m μ Φ J hh (fun i o hn hi ho h => (want_at hwn hn hi ho h).elim) hd h0 (fun i hn hi o ho _ => hstep i hn hi o ho) htail
/-- .. none of which is wanted. -/
theorem AtN.segS (n m : Nat) (hh : segB ops n m = true) (hwn : (List.range m).all (fun i => decide (i < n) || match ops[i]? with | some o => !Region.wanted o (yielded ops a.tmps) | none => true) = true) (hd : sDstB ops n m a.tmps.size = true)
    (htail : ∀ (A : Act), A.defers = a.defers → A.tmps.size = a.tmps.size → (∀ t, sOldB ops n m t = true → slot A t = slot a t) → AtN P ops Q m A w) : AtN P ops Q n a w := by
  refine AtN.seg' n m m (fun _ v _ => v = undef) (fun _ W => W = w) hh (fun i o hn hi ho h => ⟨by omega, fun _ => rfl⟩) hd rfl (fun i hn hi o ho hw0 A W b hJ _ hin hk => ?_) (fun A W hJ h1 h2 h3 h4 => ?_)
  · exfalso
    simp only [List.all_eq_true, List.mem_range, Bool.or_eq_true, decide_eq_true_eq] at hwn
    have h0 := (hwn i hi).resolve_left (by omega)
    rw [ho] at h0
    simp only [hw0] at h0
    cases h0
  · subst hJ
    exact htail A h1 h2 h4
/-- .. that only reads, one value each. -/
theorem AtN.segQ (n m : Nat) (vs : Nat → Value) (hh : segB ops n m = true) (hwn : wantB ops n m a.tmps = true) (hd : sDstB ops n m a.tmps.size = true)
    (hstep : ∀ i, n ≤ i → i < m → ∀ o, ops[i]? = some o → ∀ (A : Act), (∀ j d, sInB ops n m i j d = true → A.tmps[d]?.getD undef = vs j) →
      (∀ t, sKeptB ops n m i t = true → A.tmps[t]?.getD undef = slot a t) → (execOp A.eval o).run P w = .ok (.value (vs i)) w)
    (htail : ∀ (A : Act), A.defers = a.defers → A.tmps.size = a.tmps.size → (∀ i d, sOutB ops n m i d = true → slot A d = vs i) → (∀ t, sOldB ops n m t = true → slot A t = slot a t) → AtN P ops Q m A w) : AtN P ops Q n a w := by
  refine AtN.seg n m m (fun i v _ => v = vs i) (fun _ W => W = w) hh hwn hd rfl (fun i hn hi o ho A W b hJ _ hin hk => ?_) (fun A W hJ h1 h2 h3 h4 => ?_)
  · subst hJ
    exact .inl ⟨_, _, hstep i hn hi o ho A hin hk, rfl, rfl, fun _ _ h => h⟩
  · subst hJ
    exact htail A h1 h2 h3 h4
/-- .. of one value each; number μ turns the state J. -/
theorem AtN.segV (n m μ : Nat) (vs : Nat → Value) (J : Bool → World → Prop) (hh : segB ops n m = true) (hwn : wantB ops n m a.tmps = true) (hd : sDstB ops n m a.tmps.size = true) (h0 : J false w)
    (hstep : ∀ i, n ≤ i → i < m → ∀ o, ops[i]? = some o → ∀ (A : Act) (W : World) (b : Bool), J b W → (i = μ → b = false) → (∀ j d, sInB ops n m i j d = true → A.tmps[d]?.getD undef = vs j) →
      (∀ t, sKeptB ops n m i t = true → A.tmps[t]?.getD undef = slot a t) → Gives P o A.eval W fun v W' => J (b || i == μ) W' ∧ v = vs i)
    (htail : ∀ (A : Act) (W : World), J (decide (n ≤ μ) && decide (μ < m)) W → A.defers = a.defers → A.tmps.size = a.tmps.size → (∀ i d, sOutB ops n m i d = true → slot A d = vs i) → (∀ t, sOldB ops n m t = true → slot A t = slot a t) →
      AtN P ops Q m A W) : AtN P ops Q n a w := by
  refine AtN.seg n m μ (fun i v _ => v = vs i) J hh hwn hd h0 (fun i hn hi o ho A W b hJ hμ hin hk => ?_) htail
  rcases hstep i hn hi o ho A W b hJ hμ hin hk with ⟨v, W', hr, h1, h2⟩ | ⟨W', hr, h1, h2⟩ | ⟨f, args, W', hr, hc⟩
  · exact .inl ⟨v, W', hr, h1, h2, fun _ _ h => h⟩
  · exact .inr (.inl ⟨W', hr, h1, h2, fun _ _ h => h⟩)
  · refine .inr (.inr ⟨f, args, W', hr, hc.mono ?_⟩)
    rintro e W'' ⟨v, he, h1, h2⟩
    exact ⟨v, he, h1, h2, fun _ _ h => h⟩
/-- .. that makes new memory alone. -/
theorem AtN.segN (n m : Nat) (Φ : Nat → Value → World → Prop) (hh : segB ops n m = true) (hwn : wantB ops n m a.tmps = true) (hd : sDstB ops n m a.tmps.size = true) (hst : ∀ i v w1 w2, New w1 w2 → Φ i v w1 → Φ i v w2)
    (hstep : ∀ i, n ≤ i → i < m → ∀ o, ops[i]? = some o → ∀ (A : Act) (W : World), New w W → (∀ j d, sInB ops n m i j d = true → Φ j (A.tmps[d]?.getD undef) W) →
      (∀ t, sKeptB ops n m i t = true → A.tmps[t]?.getD undef = slot a t) → Gives P o A.eval W fun v W' => New W W' ∧ Φ i v W')
    (htail : ∀ (A : Act) (W : World), New w W → A.defers = a.defers → A.tmps.size = a.tmps.size → (∀ i d, sOutB ops n m i d = true → Φ i (slot A d) W) → (∀ t, sOldB ops n m t = true → slot A t = slot a t) → AtN P ops Q m A W) : AtN P ops Q n a w := by
  refine AtN.seg n m m Φ (fun _ W => New w W) hh hwn hd (Chg.refl _ _) (fun i hn hi o ho A W b hJ _ hin hk => ?_) (fun A W hJ h1 h2 h3 h4 => htail A W hJ h1 h2 h3 h4)
  have hg := hstep i hn hi o ho A W hJ hin hk
  rcases hg with ⟨v, W', hr, h1, h2⟩ | ⟨W', hr, h1, h2⟩ | ⟨f, args, W', hr, hc⟩
  · exact .inl ⟨v, W', hr, hJ.trans h1 (fun _ _ x => x), h2, fun k u h => hst k u _ _ h1 h⟩
  · exact .inr (.inl ⟨W', hr, hJ.trans h1 (fun _ _ x => x), h2, fun k u h => hst k u _ _ h1 h⟩)
  · refine .inr (.inr ⟨f, args, W', hr, hc.mono ?_⟩)
    rintro e W'' ⟨v, he, h1, h2⟩
    exact ⟨v, he, hJ.trans h1 (fun _ _ x => x), h2, fun k u h => hst k u _ _ h1 h⟩
end

section
variable {P : Program} {o : Oper} {A : Act} {W : World}
theorem exec_move (t : Nat) (v : Value) (ho : o.op = .move (.tmp t)) (h : A.tmps[t]?.getD undef = v) : (execOp A.eval o).run P W = .ok (.value v) W := by
  subst h
  unfold execOp
  rw [ho]
  simp [Act.eval]
theorem Gives.quiet {ρ : Operand → Value} {J : Bool → World → Prop} {b c : Bool} {u : Value} (hr : (execOp ρ o).run P W = .ok (.value u) W) (hJ : J b W) (hc : c = false := by rfl) : Gives P o ρ W fun v W' => J (b || c) W' ∧ v = u := by
  subst hc
  exact .inl ⟨u, W, hr, by rw [Bool.or_false]; exact hJ, rfl⟩
theorem Gives.enter {ρ : Operand → Value} {R : Value → World → Prop} {f : FuncId} {args : Array Value} {v : Value} (hr : (execOp ρ o).run P W = .ok (.enter f args) W) (h : Calls P f args W fun e W'' => e = .returned v ∧ R v W'') : Gives P o ρ W R :=
  .call hr (h.mono fun _ _ h => ⟨v, h⟩)
theorem exec_load {k : Nat} (t : Nat) (e : TypeId) (ho : o.op = .load e (.tmp t)) (hS : StT P e k) (ad : Addr) (cs : List Value) (hx : A.tmps[t]?.getD undef = .pointer (some ad)) (hl : cs.length = k) (hc : At W ad cs) : (execOp A.eval o).run P W = .ok (.value (.agg cs.toArray)) W := by
  have hrun := run_loadK (P := P) hS ad cs hl hc
  have hx' : A.eval (.tmp t) = .pointer (some ad) := by simpa [Act.eval] using hx
  unfold execOp
  simp only [ho, hx', Instr.loadAt, Instr.sureAddr, Sem.run_bind, Sem.run_pure, Result.andThen_ok, hrun]
end
end Go.Proofs.Ytenkobgeflckdaa
