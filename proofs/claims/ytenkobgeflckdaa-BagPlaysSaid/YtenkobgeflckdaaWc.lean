/- A region that draws its order and whose operations make memory: whatever the order, each operation's value meets what is told of it. -/
import Derived.Test.YtenkobgeflckdaaWa
set_option linter.unusedVariables false
set_option linter.unusedSimpArgs false
namespace Go.Proofs.Ytenkobgeflckdaa
open Go.RowKit

def slot (a : Act) (t : Nat) : Value := a.tmps.getD t undef

section
variable (md : Region.Mode) (ops : Array Oper)
/-- Does number i come ahead of number j, whatever the order? -/
def ahead : Nat → Nat → Nat → Bool
  | 0, _, _ => false
  | f + 1, i, j => match ops[j]? with
    | some o => o.after.any fun e => Region.binds md e && (e.on == i || ahead f i e.on)
    | none => false
def dstOf (i : Nat) : Option Tmp := (ops[i]?).bind (·.dst)
def looks (i : Nat) : List Tmp := match ops[i]? with | some o => o.looksAt ops | none => []
/-- The first n in whatever order, each into a slot of its own, the others behind them in the text's order. -/
def headsB (n : Nat) : Bool :=
  decide (n ≤ ops.size) &&
  (List.range ops.size).all (fun i => match ops[i]? with | some o => o.after.all fun e => !Region.binds md e || decide (e.on < i) | none => true) &&
  (List.range ops.size).all (fun t => decide (t < n) || (List.range t).all fun i => ahead md ops ops.size i t) &&
  (List.range n).all (fun i => (List.range n).all fun j => i == j || (dstOf ops i).isNone || dstOf ops i != dstOf ops j) &&
  (List.range n).all (fun i => (match ops[i]? with | some o => o.guard.isNone && !(match o.op with | .select _ _ => true | _ => false) | none => false) && (List.range n).all fun j => match dstOf ops j with | some d => !(looks ops i).contains d || ahead md ops ops.size j i || ahead md ops ops.size i j | none => true)
end

/-- What one operation gives. -/
def Gives (P : Program) (o : Oper) (ρ : Operand → Value) (W : World) (R : Value → World → Prop) : Prop :=
  (∃ v W', (execOp ρ o).run P W = .ok (.value v) W' ∧ R v W') ∨ (∃ W', (execOp ρ o).run P W = .ok .skip W' ∧ R undef W') ∨
  (∃ f args W', (execOp ρ o).run P W = .ok (.enter f args) W' ∧ Calls P f args W' fun e W'' => ∃ v, e = .returned v ∧ R v W'')

theorem Gives.wp {P : Program} {o : Oper} {a : Act} {W : World} {R : Value → World → Prop} {K : Act → World → Prop} {Q : Exit → Act → World → Prop} (h : Gives P o a.eval W R) (hk : ∀ v W', R v W' → K (a.put o.dst v) W') : o.wp P a W K Q := by
  unfold Oper.wp
  rcases h with ⟨v, W', hr, h⟩ | ⟨W', hr, h⟩ | ⟨f, args, W', hr, h⟩
  · rw [hr]
    exact hk _ _ h
  · rw [hr]
    exact hk _ _ h
  · rw [hr]
    exact h.mono fun e W'' ⟨v, he, hR⟩ => by
      subst he
      exact hk _ _ hR
theorem Gives.value {P : Program} {o : Oper} {ρ : Operand → Value} {W W' : World} {R : Value → World → Prop} {v : Value} (hr : (execOp ρ o).run P W = .ok (.value v) W') (h : R v W') : Gives P o ρ W R := .inl ⟨v, W', hr, h⟩
theorem Gives.call {P : Program} {o : Oper} {ρ : Operand → Value} {W W' : World} {R : Value → World → Prop} {f : FuncId} {args : Array Value} (hr : (execOp ρ o).run P W = .ok (.enter f args) W') (h : Calls P f args W' fun e W'' => ∃ v, e = .returned v ∧ R v W'') : Gives P o ρ W R := .inr (.inr ⟨f, args, W', hr, h⟩)

section
variable {md : Region.Mode} {ops : Array Oper}
theorem ahead_listed {listed : Array Bool} (hc : ∀ j oj, ops[j]? = some oj → listed.getD j false = true → ∀ e ∈ oj.after, Region.binds md e = true → listed.getD e.on false = true) :
    ∀ (f i j : Nat), ahead md ops f i j = true → (∀ oj, ops[j]? = some oj → ∀ e ∈ oj.after, Region.binds md e = true → listed.getD e.on false = true) → listed.getD i false = true
  | 0, _, _, h, _ => by simp [ahead] at h
  | f + 1, i, j, h, hj => by
    unfold ahead at h
    split at h
    · rename_i o ho
      obtain ⟨e, he, hb⟩ := Array.any_eq_true'.1 h
      simp only [Bool.and_eq_true, Bool.or_eq_true, beq_iff_eq] at hb
      have hl := hj o ho e he hb.1
      rcases hb.2 with h1 | h1
      · rw [← h1]; exact hl
      · exact ahead_listed hc f i e.on h1 (fun oj hoj => hc e.on oj hoj hl)
    · cases h

/-- The state of a region under way. -/
structure Inv (P : Program) (md : Region.Mode) (ops : Array Oper) (n : Nat) (Φ : Nat → Value → World → Prop) (a0 : Act) (w0 : World) (listed : Array Bool) (a : Act) (w : World) : Prop where
  size : listed.size = ops.size
  closed : ∀ j oj, ops[j]? = some oj → listed.getD j false = true → ∀ e ∈ oj.after, Region.binds md e = true → listed.getD e.on false = true
  tail : ∀ t, n ≤ t → listed.getD t false = false
  new : New w0 w
  defers : a.defers = a0.defers
  tsize : a.tmps.size = a0.tmps.size
  told : ∀ i d, i < n → listed.getD i false = true → dstOf ops i = some d → Φ i (slot a d) w
  done : ∀ i, i < n → listed.getD i false = true → dstOf ops i = none → ∃ v, Φ i v w
  kept : ∀ t, (∀ i, i < n → listed.getD i false = true → dstOf ops i ≠ some t) → slot a t = slot a0 t
end

section
variable {P : Program} {md : Region.Mode} {ops : Array Oper} {Q : Exit → Act → World → Prop} {n : Nat} {Φ : Nat → Value → World → Prop} {a0 : Act} {w0 : World}

theorem slot_put_same {a : Act} {d : Nat} {v : Value} (h : d < a.tmps.size) : slot (a.put (some d) v) d = v := by simp [slot, Act.put, h]
theorem slot_put_ne {a : Act} {dst : Option Tmp} {t : Nat} {v : Value} (h : dst ≠ some t) : slot (a.put dst v) t = slot a t := by
  cases dst with
  | none => rfl
  | some d =>
    have hne : d ≠ t := fun e => h (by rw [e])
    simp [slot, Act.put, Array.getElem?_setIfInBounds_ne hne]
theorem put_defers' (a : Act) (dst : Option Tmp) (v : Value) : (a.put dst v).defers = a.defers := by cases dst <;> rfl
theorem put_size (a : Act) (dst : Option Tmp) (v : Value) : (a.put dst v).tmps.size = a.tmps.size := by cases dst <;> simp [Act.put]

theorem getD_set {l : Array Bool} {i j : Nat} (hi : i < l.size) : (l.setIfInBounds i true).getD j false = if i = j then true else l.getD j false := by
  by_cases h : i = j
  · subst h
    simp [hi]
  · simp [h, Array.getElem?_setIfInBounds_ne h]

theorem filter_flip : ∀ (l : List Nat) (p q : Nat → Bool) (i : Nat), l.Nodup → i ∈ l → p i = true → q i = false → (∀ j, j ≠ i → q j = p j) → (l.filter q).length + 1 = (l.filter p).length
  | [], _, _, _, _, h, _, _, _ => by cases h
  | x :: l, p, q, i, hn, hi, hp, hq, hj => by
    rw [List.nodup_cons] at hn
    by_cases hx : x = i
    · subst hx
      have he : l.filter q = l.filter p := List.filter_congr fun y hy => hj y fun e => hn.1 (e ▸ hy)
      rw [List.filter_cons_of_neg (by simp [hq]), List.filter_cons_of_pos hp, he, List.length_cons]
    · have hil : i ∈ l := by
        rcases List.mem_cons.1 hi with h | h
        · exact absurd h.symm hx
        · exact h
      have ih := filter_flip l p q i hn.2 hil hp hq hj
      have hqx := hj x hx
      by_cases hpx : p x = true
      · rw [List.filter_cons_of_pos (by rw [hqx]; exact hpx), List.filter_cons_of_pos hpx, List.length_cons, List.length_cons]
        omega
      · rw [List.filter_cons_of_neg (by rw [hqx]; exact hpx), List.filter_cons_of_neg hpx]
        exact ih

theorem heads_run (hh : headsB md ops n = true) (hst : ∀ i v w w', New w w' → Φ i v w → Φ i v w') (hd : ∀ i d, i < n → dstOf ops i = some d → d < a0.tmps.size)
    (hstep : ∀ i o, i < n → ops[i]? = some o → ∀ (a : Act) (W : World), New w0 W → (∀ j d, j < n → ahead md ops ops.size j i = true → dstOf ops j = some d → Φ j (slot a d) W) →
      (∀ t, t ∈ looks ops i → (∀ j, j < n → dstOf ops j = some t → ahead md ops ops.size j i = false) → slot a t = slot a0 t) → Gives P o a.eval W fun v W' => New W W' ∧ Φ i v W')
    (htail : ∀ (a : Act) (W : World), New w0 W → a.defers = a0.defers → a.tmps.size = a0.tmps.size → (∀ i d, i < n → dstOf ops i = some d → Φ i (slot a d) W) → (∀ i, i < n → dstOf ops i = none → ∃ v, Φ i v W) → (∀ t, (∀ i, i < n → dstOf ops i ≠ some t) → slot a t = slot a0 t) →
      ∀ fuel listed, listed.size = ops.size → (∀ i, i < n → listed.getD i false = true) → (∀ t, n ≤ t → listed.getD t false = false) → (∀ j oj, ops[j]? = some oj → listed.getD j false = true → ∀ e ∈ oj.after, Region.binds md e = true → listed.getD e.on false = true) → ops.size ≤ n + fuel → wpAny P md ops Q fuel listed a W) :
    ∀ (m fuel : Nat) (listed : Array Bool) (a : Act) (w : World), Inv P md ops n Φ a0 w0 listed a w → ((List.range n).filter fun i => !listed.getD i false).length = m → ops.size ≤ (n - m) + fuel → wpAny P md ops Q fuel listed a w := by
  simp only [headsB, Bool.and_eq_true, List.all_eq_true, List.mem_range, Bool.or_eq_true, decide_eq_true_eq] at hh
  obtain ⟨⟨⟨⟨hn, hB⟩, hT⟩, hD⟩, hL⟩ := hh
  intro m
  induction m with
  | zero =>
    intro fuel listed a w inv hm hf
    have hall : ∀ i, i < n → listed.getD i false = true := by
      intro i hi
      have h0 := List.eq_nil_of_length_eq_zero hm
      have := (List.filter_eq_nil_iff.1 h0) i (List.mem_range.2 hi)
      simpa using this
    exact htail a w inv.new inv.defers inv.tsize (fun i d hi hd' => inv.told i d hi (hall i hi) hd') (fun i hi hd' => inv.done i hi (hall i hi) hd') (fun t ht => inv.kept t fun i hi _ => ht i hi) fuel listed inv.size hall inv.tail inv.closed (by omega)
  | succ m ih =>
    intro fuel listed a w inv hm hf
    have hmn : m + 1 ≤ n := by
      rw [← hm]
      exact Nat.le_trans (List.length_filter_le _ _) (by simp)
    obtain ⟨fuel, rfl⟩ : ∃ f, fuel = f + 1 := ⟨fuel - 1, by omega⟩
    have hex : ∃ i, i < n ∧ listed.getD i false = false := by
      cases hl : (List.range n).filter fun i => !listed.getD i false with
      | nil => rw [hl] at hm; cases hm
      | cons x l =>
        have hx : x ∈ (List.range n).filter fun i => !listed.getD i false := by rw [hl]; simp
        obtain ⟨h1, h2⟩ := List.mem_filter.1 hx
        exact ⟨x, List.mem_range.1 h1, by simpa using h2⟩
    refine ⟨fun hr => ?_, fun i hi => ?_⟩
    · exfalso
      obtain ⟨i, hin, hil⟩ := hex
      have key : ∀ k, k < n → listed.getD k false = true := by
        intro k
        induction k using Nat.strongRecOn with
        | _ k ihk =>
          intro hk
          cases hkl : listed.getD k false with
          | true => rfl
          | false =>
            have hks : k < ops.size := by omega
            have hmem : k ∈ Region.ready md ops listed := mem_ready.2 ⟨by
              have : k < listed.size := by rw [inv.size]; exact hks
              simp [this] at hkl ⊢
              exact hkl, ops[k], Array.getElem?_eq_getElem hks, fun e he hb => by
              have hb0 := hB k hks
              rw [Array.getElem?_eq_getElem hks] at hb0
              have := Array.all_eq_true'.1 hb0 e he
              simp only [hb, Bool.not_true, Bool.false_or, decide_eq_true_eq] at this
              exact ihk e.on this (by omega)⟩
            rw [hr] at hmem
            cases hmem
      rw [key i hin] at hil
      cases hil
    · obtain ⟨hun, o, ho, hdeps⟩ := mem_ready.1 hi
      have hiz : i < ops.size := (Array.getElem?_eq_some_iff.1 ho).1
      have hunl : listed.getD i false = false := by
        have : i < listed.size := by rw [inv.size]; exact hiz
        simp [this] at hun ⊢
        exact hun
      have hin : i < n := by
        rcases Nat.lt_or_ge i n with h | h
        · exact h
        · exfalso
          obtain ⟨k, hkn, hkl⟩ := hex
          have ht := (hT i hiz).resolve_left (by omega) k (by omega)
          have := ahead_listed inv.closed _ k i ht (fun oj hoj => by rw [ho] at hoj; cases hoj; exact hdeps)
          rw [this] at hkl
          cases hkl
      have hL' := hL i hin
      rw [ho] at hL'
      simp only [Bool.and_eq_true] at hL'
      have hg : o.guard = none := by simpa using hL'.1.1
      have hgive := hstep i o hin ho a w inv.new (fun j d hj haj hdj => inv.told j d hj (ahead_listed inv.closed _ j i haj (fun oj hoj => by rw [ho] at hoj; cases hoj; exact hdeps)) hdj)
        (fun t ht hno => inv.kept t fun j hj hjl hdj => by
          have h3 := hL'.2 j hj
          rw [hdj] at h3
          simp only [Bool.or_eq_true, Bool.not_eq_true', List.contains_eq_mem, decide_eq_false_iff_not] at h3
          rcases h3 with (h3 | h3) | h3
          · exact h3 ht
          · rw [hno j hj hdj] at h3; cases h3
          · have := ahead_listed inv.closed _ i j h3 (fun oj hoj => inv.closed j oj hoj hjl)
            rw [this] at hunl
            cases hunl)
      have hili : i < listed.size := by rw [inv.size]; exact hiz
      unfold wpOp
      rw [ho]
      simp only []
      rw [if_pos (by simp [Region.wanted, hg])]
      refine .inl (hgive.wp fun v W' hR => ?_)
      have hdst : dstOf ops i = o.dst := by simp [dstOf, ho]
      refine ih fuel _ _ _ ⟨?_, ?_, ?_, ?_, ?_, ?_, ?_, ?_, ?_⟩ ?_ (by omega)
      · simp [inv.size]
      · intro j oj hj hjl e he hb
        rw [getD_set hili] at hjl ⊢
        by_cases hij : i = j
        · subst hij
          rw [ho] at hj
          cases hj
          have := hdeps e he hb
          simp [this]
        · rw [if_neg hij] at hjl
          have := inv.closed j oj hj hjl e he hb
          simp [this]
      · intro t ht
        rw [getD_set hili, if_neg (by omega)]
        exact inv.tail t ht
      · exact inv.new.trans hR.1 (fun _ _ x => x)
      · rw [put_defers', inv.defers]
      · rw [put_size, inv.tsize]
      · intro j d hj hjl hdj
        rw [getD_set hili] at hjl
        by_cases hij : i = j
        · subst hij
          have hdd : o.dst = some d := by rw [← hdst]; exact hdj
          rw [hdd, slot_put_same (by rw [inv.tsize]; exact hd i d hin hdj)]
          exact hR.2
        · rw [if_neg hij] at hjl
          have h4 := (hD i hin) j hj
          simp only [Bool.or_eq_true, beq_iff_eq, bne_iff_ne] at h4
          rw [slot_put_ne (by
            intro e
            rw [← hdst] at e
            rcases h4 with (h4 | h4) | h4
            · exact hij h4
            · rw [e] at h4; cases h4
            · exact h4 (e.trans hdj.symm))]
          exact hst j _ _ _ hR.1 (inv.told j d hj hjl hdj)
      · intro j hj hjl hdj
        rw [getD_set hili] at hjl
        by_cases hij : i = j
        · subst hij
          exact ⟨v, hR.2⟩
        · rw [if_neg hij] at hjl
          obtain ⟨u, hu⟩ := inv.done j hj hjl hdj
          exact ⟨u, hst j _ _ _ hR.1 hu⟩
      · intro t ht
        have hne : o.dst ≠ some t := by
          rw [← hdst]
          exact ht i hin (by rw [getD_set hili, if_pos rfl])
        rw [slot_put_ne hne]
        exact inv.kept t fun j hj hjl => ht j hj (by
          rw [getD_set hili]
          by_cases hij : i = j
          · rw [if_pos hij]
          · rw [if_neg hij]; exact hjl)
      · have hff := filter_flip (List.range n) (fun j => !listed.getD j false) (fun j => !(listed.setIfInBounds i true).getD j false) i List.nodup_range (List.mem_range.2 hin) (by simp only [hunl]; rfl) (by simp only [getD_set hili]; simp) (fun j hj => by simp only [getD_set hili, if_neg (Ne.symm hj)])
        omega

theorem tail_run (hh : headsB md ops n = true) : ∀ (d t fuel : Nat) (listed : Array Bool) (a : Act) (W : World), ops.size - t = d → n ≤ t → t ≤ ops.size → listed.size = ops.size → (∀ i, listed.getD i false = decide (i < t)) → ops.size ≤ t + fuel → wpList P ops Q (ops.toList.drop t) a W → wpAny P md ops Q fuel listed a W := by
  have hh' := hh
  simp only [headsB, Bool.and_eq_true, List.all_eq_true, List.mem_range, Bool.or_eq_true, decide_eq_true_eq] at hh
  obtain ⟨⟨⟨⟨hn, hB⟩, hT⟩, hD⟩, hL⟩ := hh
  intro d
  induction d with
  | zero =>
    intro t fuel listed a W hd hnt hts hls hl hf hw
    have htz : t = ops.size := by omega
    subst htz
    rw [List.drop_of_length_le (by simp)] at hw
    have hr : Region.ready md ops listed = [] := by
      cases hr : Region.ready md ops listed with
      | nil => rfl
      | cons x l =>
        have hx : x ∈ Region.ready md ops listed := by rw [hr]; simp
        obtain ⟨h1, o, ho, _⟩ := mem_ready.1 hx
        have hxz := (Array.getElem?_eq_some_iff.1 ho).1
        have := hl x
        have hxs : x < listed.size := by rw [hls]; exact hxz
        simp [hxs] at h1 this
        simp [this, hxz] at h1
    cases fuel with
    | zero => exact ⟨hr, hw⟩
    | succ f => exact ⟨fun _ => hw, by rw [hr]; simp⟩
  | succ d ih =>
    intro t fuel listed a W hd hnt hts hls hl hf hw
    have htz : t < ops.size := by omega
    obtain ⟨fuel, rfl⟩ : ∃ f, fuel = f + 1 := ⟨fuel - 1, by omega⟩
    have hclosed : ∀ j oj, ops[j]? = some oj → listed.getD j false = true → ∀ e ∈ oj.after, Region.binds md e = true → listed.getD e.on false = true := by
      intro j oj hj hjl e he hb
      have hjz := (Array.getElem?_eq_some_iff.1 hj).1
      have hb0 := hB j hjz
      rw [hj] at hb0
      have := Array.all_eq_true'.1 hb0 e he
      simp only [hb, Bool.not_true, Bool.false_or, decide_eq_true_eq] at this
      rw [hl] at hjl ⊢
      simp only [decide_eq_true_eq] at hjl ⊢
      omega
    have hrt : t ∈ Region.ready md ops listed := mem_ready.2 ⟨by
      have := hl t
      have hxs : t < listed.size := by omega
      simp [hxs] at this ⊢
      exact this, ops[t], Array.getElem?_eq_getElem htz, fun e he hb => by
        have hb0 := hB t htz
        rw [Array.getElem?_eq_getElem htz] at hb0
        have := Array.all_eq_true'.1 hb0 e he
        simp only [hb, Bool.not_true, Bool.false_or, decide_eq_true_eq] at this
        rw [hl]
        simpa using this⟩
    have hwt : ops.toList.drop t = ops[t] :: ops.toList.drop (t + 1) := by
      rw [List.drop_eq_getElem_cons (by simpa using htz)]
      simp
    rw [hwt] at hw
    refine ⟨fun hr => (by rw [hr] at hrt; cases hrt), fun i hi => ?_⟩
    obtain ⟨hun, o, ho, hdeps⟩ := mem_ready.1 hi
    have hiz := (Array.getElem?_eq_some_iff.1 ho).1
    have hige : t ≤ i := by
      have := hl i
      have hxs : i < listed.size := by omega
      simp [hxs] at hun this
      rw [hun] at this
      simpa using this.symm
    obtain rfl : i = t := by
      rcases Nat.lt_or_ge t i with h | h
      · exfalso
        have ha := (hT i hiz).resolve_left (by omega) t h
        have := ahead_listed hclosed _ t i ha (fun oj hoj => by rw [ho] at hoj; cases hoj; exact hdeps)
        rw [hl] at this
        simp at this
      · omega
    have hoi : ops[i] = o := by rw [Array.getElem?_eq_getElem hiz] at ho; exact Option.some.inj ho
    rw [hoi] at hw
    have hnext : ∀ a' W', wpList P ops Q (ops.toList.drop (i + 1)) a' W' → wpAny P md ops Q fuel (listed.setIfInBounds i true) a' W' := fun a' W' h =>
      ih (i + 1) fuel _ a' W' (by omega) (by omega) (by omega) (by simp [hls]) (fun j => by
        rw [getD_set (by omega), hl]
        by_cases hij : i = j
        · subst hij; simp
        · rw [if_neg hij]
          have : (j < i) ↔ (j < i + 1) := by omega
          simp [this]) (by omega) h
    unfold wpOp
    rw [ho]
    simp only []
    unfold wpList at hw
    split at hw
    · rename_i hwt'
      rw [if_pos hwt']
      rcases hw with hw | hw
      · exact .inl (Oper.wp_mono hnext hw)
      · exact .inr hw
    · rename_i hwt'
      rw [if_neg hwt']
      exact hnext _ _ hw

/-- A region that draws its order: the first n in whatever order, each of which gives what is told of it and makes new memory alone; then the others. -/
theorem wp_region_heads (n : Nat) (hm : P.follows .mixedOrders = true) (hh : headsB .any ops n = true) (Φ : Nat → Value → World → Prop) {id : Nat} {a0 : Act} {w : World}
    (hst : ∀ i v w w', New w w' → Φ i v w → Φ i v w') (hd : (List.range n).all (fun i => match dstOf ops i with | some d => decide (d < a0.tmps.size) | none => true) = true)
    (hstep : ∀ i o, i < n → ops[i]? = some o → ∀ (a : Act) (W : World), New w.drew W → (∀ j d, j < n → ahead .any ops ops.size j i = true → dstOf ops j = some d → Φ j (slot a d) W) →
      (∀ t, t ∈ looks ops i → (∀ j, j < n → dstOf ops j = some t → ahead .any ops ops.size j i = false) → slot a t = slot a0 t) → Gives P o a.eval W fun v W' => New W W' ∧ Φ i v W')
    (htail : ∀ (a : Act) (W : World), New w.drew W → a.defers = a0.defers → a.tmps.size = a0.tmps.size → (∀ i d, i < n → dstOf ops i = some d → Φ i (slot a d) W) → (∀ i, i < n → dstOf ops i = none → ∃ v, Φ i v W) → (∀ t, (∀ i, i < n → dstOf ops i ≠ some t) → slot a t = slot a0 t) →
      wpList P ops Q (ops.toList.drop n) a W) : (Code.region id ops true).wp P Q a0 w := by
  have hh' := hh
  simp only [headsB, Bool.and_eq_true, List.all_eq_true, List.mem_range, Bool.or_eq_true, decide_eq_true_eq] at hh'
  have hn := hh'.1.1.1.1
  refine wp_region_any hm ?_
  change wpAny P .any ops Q ops.size (Array.replicate ops.size false) a0 w.drew
  have hfl : ∀ j, (Array.replicate ops.size false).getD j false = false := fun j => by
    rcases Nat.lt_or_ge j ops.size with h | h <;> simp [h]
  simp only [List.all_eq_true, List.mem_range] at hd
  refine heads_run hh hst (fun i d hin hdi => by have := hd i hin; rw [hdi] at this; simpa using this) hstep (fun a W h1 h2 h3 h4 h5 h6 fuel listed l1 l2 l3 l4 l5 => ?_) n ops.size _ a0 w.drew ⟨by simp, fun j oj _ hj => (by rw [hfl] at hj; cases hj), fun t _ => hfl t, Chg.refl _ _, rfl, rfl, fun i d _ hi => (by rw [hfl] at hi; cases hi), fun i _ hi => (by rw [hfl] at hi; cases hi), fun _ _ => rfl⟩ ?_ (by omega)
  · refine tail_run hh (ops.size - n) n fuel listed a W rfl (Nat.le_refl _) hn l1 (fun i => ?_) l5 (htail a W h1 h2 h3 h4 h5 h6)
    rcases Nat.lt_or_ge i n with h | h
    · rw [l2 i h]; simp [h]
    · rw [l3 i h]; simp; omega
  · rw [List.filter_eq_self.2 (fun i _ => by rw [hfl]; rfl)]
    simp

def keptB (md : Region.Mode) (ops : Array Oper) (n i t : Nat) : Bool := (looks ops i).contains t && (List.range n).all fun j => dstOf ops j != some t || !ahead md ops ops.size j i
def inB (md : Region.Mode) (ops : Array Oper) (n i j d : Nat) : Bool := decide (j < n) && ahead md ops ops.size j i && dstOf ops j == some d
def outB (ops : Array Oper) (n i d : Nat) : Bool := decide (i < n) && dstOf ops i == some d
def oldB (ops : Array Oper) (n t : Nat) : Bool := (List.range n).all fun j => dstOf ops j != some t
def dstB (ops : Array Oper) (n s : Nat) : Bool := (List.range n).all fun i => match dstOf ops i with | some d => decide (d < s) | none => true

/-- The same, its side conditions as Bools. -/
theorem wp_region_heads' (n : Nat) (hm : P.follows .mixedOrders = true) (hh : headsB .any ops n = true) (Φ : Nat → Value → World → Prop) {id : Nat} {a0 : Act} {w : World}
    (hd : dstB ops n a0.tmps.size = true) (hst : ∀ i v w w', New w w' → Φ i v w → Φ i v w')
    (hstep : ∀ i, i < n → ∀ o, ops[i]? = some o → ∀ (a : Act) (W : World), New w.drew W → (∀ j d, inB .any ops n i j d = true → Φ j (a.tmps[d]?.getD undef) W) →
      (∀ t, keptB .any ops n i t = true → a.eval (.tmp t) = a0.eval (.tmp t)) → Gives P o a.eval W fun v W' => New W W' ∧ Φ i v W')
    (htail : ∀ (a : Act) (W : World), New w.drew W → a.defers = a0.defers → a.tmps.size = a0.tmps.size → (∀ i d, outB ops n i d = true → Φ i (slot a d) W) → (∀ t, oldB ops n t = true → slot a t = slot a0 t) →
      wpList P ops Q (ops.toList.drop n) a W) : (Code.region id ops true).wp P Q a0 w := by
  refine wp_region_heads n hm hh Φ hst hd (fun i o hi ho a W hN hin hk => hstep i hi o ho a W hN (fun j d h => ?_) (fun t h => ?_)) (fun a W h1 h2 h3 h4 _ h6 => htail a W h1 h2 h3 (fun i d h => ?_) (fun t h => ?_))
  · simp only [inB, Bool.and_eq_true, decide_eq_true_eq, beq_iff_eq] at h
    have := hin j d h.1.1 h.1.2 h.2
    simp only [slot, Array.getD_eq_getD_getElem?] at this
    exact this
  · simp only [keptB, Bool.and_eq_true, List.contains_eq_mem, decide_eq_true_eq, List.all_eq_true, List.mem_range, Bool.or_eq_true, bne_iff_ne, Bool.not_eq_true'] at h
    exact hk t h.1 (fun j hj hdj => (h.2 j hj).resolve_left (fun hne => hne hdj))
  · simp only [outB, Bool.and_eq_true, decide_eq_true_eq, beq_iff_eq] at h
    exact h4 i d h.1 h.2
  · simp only [oldB, List.all_eq_true, List.mem_range, bne_iff_ne] at h
    exact h6 t h

theorem Gives.same {o : Oper} {ρ : Operand → Value} {W : World} {Φ : Value → World → Prop} {v : Value} (hr : (execOp ρ o).run P W = .ok (.value v) W) (h : Φ v W) : Gives P o ρ W fun v W' => New W W' ∧ Φ v W' := .value hr ⟨Chg.refl _ _, h⟩
theorem Gives.move {o : Oper} {ρ : Operand → Value} {W : World} {Φ : Value → World → Prop} (x : Operand) (ho : o.op = .move x) (h : Φ (ρ x) W) : Gives P o ρ W fun v W' => New W W' ∧ Φ v W' :=
  .same (by unfold execOp; rw [ho]; rfl) h
end
/-- A state written out slot by slot. -/
theorem act_eta (a : Act) (n : Nat) (d : List Deferred) (h : a.tmps.size = n) (hd : a.defers = d) : a = ⟨((List.range n).map (slot a)).toArray, d⟩ := by
  obtain ⟨tmps, defers⟩ := a
  subst hd
  simp only [Act.mk.injEq, and_true]
  apply Array.ext
  · simpa using h
  · intro i h1 h2
    simp [slot, h1]
theorem results_cell_one {fn : Func} {p : Tmp} {ty : TypeId} (h : fn.results = #[.cell p ty]) (tmps : Array Value) (P : Program) (w : World) :
    (results fn tmps).run P w = ((asAddr (tmps.getD p undef)).run P w).andThen fun a w₁ => (loadVar ty a).run P w₁ := by
  simp only [results, h]
  simp [Sem.run_bind, Result.andThen]
theorem At.drewN' {w : World} {a : Addr} {cs : List Value} (h : At w a cs) (n : Nat) : At (w.drewN n) a cs := h.chg ((Chg.refl w (fun _ => False)).drewN n) id
/-- In a quiet region: a struct is loaded; a value is reckoned. -/
theorem wpq_load {P : Program} {ops : Array Oper} {Q : Act → Prop} {o : Oper} {rest : List Oper} {a : Act} {w : World} {k : Nat} (hg : o.guard = none) (x : Operand) (e : TypeId) (ho : o.op = .load e x) (hS : StT P e k) (ad : Addr) (cs : List Value) (hx : a.eval x = .pointer (some ad)) (hl : cs.length = k) (hc : At w ad cs)
    (h : wpQuiet P ops (fun w' => ∃ n, w' = w.drewN n) Q rest (a.put o.dst (.agg cs.toArray))) : wpQuiet P ops (fun w' => ∃ n, w' = w.drewN n) Q (o :: rest) a := by
  unfold wpQuiet
  rw [if_pos (by simp [Region.wanted, hg])]
  refine ⟨_, ?_, h⟩
  rintro W ⟨n, rfl⟩
  have hrun := run_loadK (P := P) hS ad cs hl (hc.drewN' n)
  unfold Oper.quietAt execOp
  simp only [ho, hx, Instr.loadAt, Instr.sureAddr, Sem.run_bind, Sem.run_pure, Result.andThen_ok, hrun]
  exact ⟨rfl, rfl⟩
theorem wpq_val {P : Program} {ops : Array Oper} {Q : Act → Prop} {o : Oper} {rest : List Oper} {a : Act} {w : World} (hg : o.guard = none) (v : Value) (hr : ∀ n, (execOp a.eval o).run P (w.drewN n) = .ok (.value v) (w.drewN n))
    (h : wpQuiet P ops (fun w' => ∃ n, w' = w.drewN n) Q rest (a.put o.dst v)) : wpQuiet P ops (fun w' => ∃ n, w' = w.drewN n) Q (o :: rest) a := by
  unfold wpQuiet
  rw [if_pos (by simp [Region.wanted, hg])]
  refine ⟨v, ?_, h⟩
  rintro W ⟨n, rfl⟩
  unfold Oper.quietAt
  rw [hr]
  exact ⟨rfl, rfl⟩
end Go.Proofs.Ytenkobgeflckdaa
