/- A region that draws its order and whose operations make memory: whatever the order, each operation's value meets what is told of it; A region that draws its order, taken in stretches; A stretch's end, the state written out by what was put; A region that draws its order: a stretch whose parts turn memory, what is told of each until it is read; A region that draws its order: a stretch of one value each in which operations without a slot of their own may stand; A region that draws its order: a stretch in which guards stand. -/
import Derived.Test.YtffmalagochakaaWa
set_option linter.unusedVariables false
set_option linter.unusedSimpArgs false
namespace Go.Proofs.Ytffmalagochakaa
open Go.RowKit

def slot (a : Act) (t : Nat) : Value := a.tmps.getD t undef

section
variable (md : Region.Mode) (ops : Array Oper)
/-- Does number i come ahead of number j, whatever the order? -/
def ahead : Nat → Nat → Nat → Bool
  | 0, _, _ => false
  | f + 1, i, j => match ops[j]? with
    | some o => o.after.any fun e => Region.binds md e && (e.on == i || ahead f i e.on)
    | none => false
def dstOf (i : Nat) : Option Tmp := (ops[i]?).bind (·.dst)
def looks (i : Nat) : List Tmp := match ops[i]? with | some o => o.looksAt ops | none => []
/-- The first n in whatever order, each into a slot of its own, the others behind them in the text's order. -/
def headsB (n : Nat) : Bool :=
  decide (n ≤ ops.size) &&
  (List.range ops.size).all (fun i => match ops[i]? with | some o => o.after.all fun e => !Region.binds md e || decide (e.on < i) | none => true) &&
  (List.range ops.size).all (fun t => decide (t < n) || (List.range t).all fun i => ahead md ops ops.size i t) &&
  (List.range n).all (fun i => (List.range n).all fun j => i == j || (dstOf ops i).isNone || dstOf ops i != dstOf ops j) &&
  (List.range n).all (fun i => (match ops[i]? with | some o => o.guard.isNone && !(match o.op with | .select _ _ => true | _ => false) | none => false) && (List.range n).all fun j => match dstOf ops j with | some d => !(looks ops i).contains d || ahead md ops ops.size j i || ahead md ops ops.size i j | none => true)
end

/-- What one operation gives. -/
def Gives (P : Program) (o : Oper) (ρ : Operand → Value) (W : World) (R : Value → World → Prop) : Prop :=
  (∃ v W', (execOp ρ o).run P W = .ok (.value v) W' ∧ R v W') ∨ (∃ W', (execOp ρ o).run P W = .ok .skip W' ∧ R undef W') ∨
  (∃ f args W', (execOp ρ o).run P W = .ok (.enter f args) W' ∧ Calls P f args W' fun e W'' => ∃ v, e = .returned v ∧ R v W'')

theorem Gives.wp {P : Program} {o : Oper} {a : Act} {W : World} {R : Value → World → Prop} {K : Act → World → Prop} {Q : Exit → Act → World → Prop} (h : Gives P o a.eval W R) (hk : ∀ v W', R v W' → K (a.put o.dst v) W') : o.wp P a W K Q := by
  unfold Oper.wp
  rcases h with ⟨v, W', hr, h⟩ | ⟨W', hr, h⟩ | ⟨f, args, W', hr, h⟩
  · rw [hr]
    exact hk _ _ h
  · rw [hr]
    exact hk _ _ h
  · rw [hr]
    exact h.mono fun e W'' ⟨v, he, hR⟩ => by
      subst he
      exact hk _ _ hR
theorem Gives.value {P : Program} {o : Oper} {ρ : Operand → Value} {W W' : World} {R : Value → World → Prop} {v : Value} (hr : (execOp ρ o).run P W = .ok (.value v) W') (h : R v W') : Gives P o ρ W R := .inl ⟨v, W', hr, h⟩
theorem Gives.call {P : Program} {o : Oper} {ρ : Operand → Value} {W W' : World} {R : Value → World → Prop} {f : FuncId} {args : Array Value} (hr : (execOp ρ o).run P W = .ok (.enter f args) W') (h : Calls P f args W' fun e W'' => ∃ v, e = .returned v ∧ R v W'') : Gives P o ρ W R := .inr (.inr ⟨f, args, W', hr, h⟩)

section
variable {md : Region.Mode} {ops : Array Oper}
theorem ahead_listed {listed : Array Bool} (hc : ∀ j oj, ops[j]? = some oj → listed.getD j false = true → ∀ e ∈ oj.after, Region.binds md e = true → listed.getD e.on false = true) :
    ∀ (f i j : Nat), ahead md ops f i j = true → (∀ oj, ops[j]? = some oj → ∀ e ∈ oj.after, Region.binds md e = true → listed.getD e.on false = true) → listed.getD i false = true
  | 0, _, _, h, _ => by simp [ahead] at h
  | f + 1, i, j, h, hj => by
    unfold ahead at h
    split at h
    · rename_i o ho
      obtain ⟨e, he, hb⟩ := Array.any_eq_true'.1 h
      simp only [Bool.and_eq_true, Bool.or_eq_true, beq_iff_eq] at hb
      have hl := hj o ho e he hb.1
      rcases hb.2 with h1 | h1
      · rw [← h1]; exact hl
      · exact ahead_listed hc f i e.on h1 (fun oj hoj => hc e.on oj hoj hl)
    · cases h

/-- The state of a region under way. -/
structure Inv (P : Program) (md : Region.Mode) (ops : Array Oper) (n : Nat) (Φ : Nat → Value → World → Prop) (a0 : Act) (w0 : World) (listed : Array Bool) (a : Act) (w : World) : Prop where
  size : listed.size = ops.size
  closed : ∀ j oj, ops[j]? = some oj → listed.getD j false = true → ∀ e ∈ oj.after, Region.binds md e = true → listed.getD e.on false = true
  tail : ∀ t, n ≤ t → listed.getD t false = false
  new : New w0 w
  defers : a.defers = a0.defers
  tsize : a.tmps.size = a0.tmps.size
  told : ∀ i d, i < n → listed.getD i false = true → dstOf ops i = some d → Φ i (slot a d) w
  done : ∀ i, i < n → listed.getD i false = true → dstOf ops i = none → ∃ v, Φ i v w
  kept : ∀ t, (∀ i, i < n → listed.getD i false = true → dstOf ops i ≠ some t) → slot a t = slot a0 t
end

section
variable {P : Program} {md : Region.Mode} {ops : Array Oper} {Q : Exit → Act → World → Prop} {n : Nat} {Φ : Nat → Value → World → Prop} {a0 : Act} {w0 : World}

theorem slot_put_same {a : Act} {d : Nat} {v : Value} (h : d < a.tmps.size) : slot (a.put (some d) v) d = v := by simp [slot, Act.put, h]
theorem slot_put_ne {a : Act} {dst : Option Tmp} {t : Nat} {v : Value} (h : dst ≠ some t) : slot (a.put dst v) t = slot a t := by
  cases dst with
  | none => rfl
  | some d =>
    have hne : d ≠ t := fun e => h (by rw [e])
    simp [slot, Act.put, Array.getElem?_setIfInBounds_ne hne]
theorem put_defers' (a : Act) (dst : Option Tmp) (v : Value) : (a.put dst v).defers = a.defers := by cases dst <;> rfl
theorem put_size (a : Act) (dst : Option Tmp) (v : Value) : (a.put dst v).tmps.size = a.tmps.size := by cases dst <;> simp [Act.put]

theorem getD_set {l : Array Bool} {i j : Nat} (hi : i < l.size) : (l.setIfInBounds i true).getD j false = if i = j then true else l.getD j false := by
  by_cases h : i = j
  · subst h
    simp [hi]
  · simp [h, Array.getElem?_setIfInBounds_ne h]

theorem filter_flip : ∀ (l : List Nat) (p q : Nat → Bool) (i : Nat), l.Nodup → i ∈ l → p i = true → q i = false → (∀ j, j ≠ i → q j = p j) → (l.filter q).length + 1 = (l.filter p).length
  | [], _, _, _, _, h, _, _, _ => by cases h
  | x :: l, p, q, i, hn, hi, hp, hq, hj => by
    rw [List.nodup_cons] at hn
    by_cases hx : x = i
    · subst hx
      have he : l.filter q = l.filter p := List.filter_congr fun y hy => hj y fun e => hn.1 (e ▸ hy)
      rw [List.filter_cons_of_neg (by simp [hq]), List.filter_cons_of_pos hp, he, List.length_cons]
    · have hil : i ∈ l := by
        rcases List.mem_cons.1 hi with h | h
        · exact absurd h.symm hx
        · exact h
      have ih := filter_flip l p q i hn.2 hil hp hq hj
      have hqx := hj x hx
      by_cases hpx : p x = true
      · rw [List.filter_cons_of_pos (by rw [hqx]; exact hpx), List.filter_cons_of_pos hpx, List.length_cons, List.length_cons]
        omega
      · rw [List.filter_cons_of_neg (by rw [hqx]; exact hpx), List.filter_cons_of_neg hpx]
        exact ih

theorem heads_run (hh : headsB md ops n = true) (hst : ∀ i v w w', New w w' → Φ i v w → Φ i v w') (hd : ∀ i d, i < n → dstOf ops i = some d → d < a0.tmps.size)
    (hstep : ∀ i o, i < n → ops[i]? = some o → ∀ (a : Act) (W : World), New w0 W → (∀ j d, j < n → ahead md ops ops.size j i = true → dstOf ops j = some d → Φ j (slot a d) W) →
      (∀ t, t ∈ looks ops i → (∀ j, j < n → dstOf ops j = some t → ahead md ops ops.size j i = false) → slot a t = slot a0 t) → Gives P o a.eval W fun v W' => New W W' ∧ Φ i v W')
    (htail : ∀ (a : Act) (W : World), New w0 W → a.defers = a0.defers → a.tmps.size = a0.tmps.size → (∀ i d, i < n → dstOf ops i = some d → Φ i (slot a d) W) → (∀ i, i < n → dstOf ops i = none → ∃ v, Φ i v W) → (∀ t, (∀ i, i < n → dstOf ops i ≠ some t) → slot a t = slot a0 t) →
      ∀ fuel listed, listed.size = ops.size → (∀ i, i < n → listed.getD i false = true) → (∀ t, n ≤ t → listed.getD t false = false) → (∀ j oj, ops[j]? = some oj → listed.getD j false = true → ∀ e ∈ oj.after, Region.binds md e = true → listed.getD e.on false = true) → ops.size ≤ n + fuel → wpAny P md ops Q fuel listed a W) :
    ∀ (m fuel : Nat) (listed : Array Bool) (a : Act) (w : World), Inv P md ops n Φ a0 w0 listed a w → ((List.range n).filter fun i => !listed.getD i false).length = m → ops.size ≤ (n - m) + fuel → wpAny P md ops Q fuel listed a w := by
  simp only [headsB, Bool.and_eq_true, List.all_eq_true, List.mem_range, Bool.or_eq_true, decide_eq_true_eq] at hh
  obtain ⟨⟨⟨⟨hn, hB⟩, hT⟩, hD⟩, hL⟩ := hh
  intro m
  induction m with
  | zero =>
    intro fuel listed a w inv hm hf
    have hall : ∀ i, i < n → listed.getD i false = true := by
      intro i hi
      have h0 := List.eq_nil_of_length_eq_zero hm
      have := (List.filter_eq_nil_iff.1 h0) i (List.mem_range.2 hi)
      simpa using this
    exact htail a w inv.new inv.defers inv.tsize (fun i d hi hd' => inv.told i d hi (hall i hi) hd') (fun i hi hd' => inv.done i hi (hall i hi) hd') (fun t ht => inv.kept t fun i hi _ => ht i hi) fuel listed inv.size hall inv.tail inv.closed (by omega)
  | succ m ih =>
    intro fuel listed a w inv hm hf
    have hmn : m + 1 ≤ n := by
      rw [← hm]
      exact Nat.le_trans (List.length_filter_le _ _) (by simp)
    obtain ⟨fuel, rfl⟩ : ∃ f, fuel = f + 1 := ⟨fuel - 1, by omega⟩
    have hex : ∃ i, i < n ∧ listed.getD i false = false := by
      cases hl : (List.range n).filter fun i => !listed.getD i false with
      | nil => rw [hl] at hm; cases hm
      | cons x l =>
        have hx : x ∈ (List.range n).filter fun i => !listed.getD i false := by rw [hl]; simp
        obtain ⟨h1, h2⟩ := List.mem_filter.1 hx
        exact ⟨x, List.mem_range.1 h1, by simpa using h2⟩
    refine ⟨fun hr => ?_, fun i hi => ?_⟩
    · exfalso
      obtain ⟨i, hin, hil⟩ := hex
      have key : ∀ k, k < n → listed.getD k false = true := by
        intro k
        induction k using Nat.strongRecOn with
        | _ k ihk =>
          intro hk
          cases hkl : listed.getD k false with
          | true => rfl
          | false =>
            have hks : k < ops.size := by omega
            have hmem : k ∈ Region.ready md ops listed := mem_ready.2 ⟨by
              have : k < listed.size := by rw [inv.size]; exact hks
              simp [this] at hkl ⊢
              exact hkl, ops[k], Array.getElem?_eq_getElem hks, fun e he hb => by
              have hb0 := hB k hks
              rw [Array.getElem?_eq_getElem hks] at hb0
              have := Array.all_eq_true'.1 hb0 e he
              simp only [hb, Bool.not_true, Bool.false_or, decide_eq_true_eq] at this
              exact ihk e.on this (by omega)⟩
            rw [hr] at hmem
            cases hmem
      rw [key i hin] at hil
      cases hil
    · obtain ⟨hun, o, ho, hdeps⟩ := mem_ready.1 hi
      have hiz : i < ops.size := (Array.getElem?_eq_some_iff.1 ho).1
      have hunl : listed.getD i false = false := by
        have : i < listed.size := by rw [inv.size]; exact hiz
        simp [this] at hun ⊢
        exact hun
      have hin : i < n := by
        rcases Nat.lt_or_ge i n with h | h
        · exact h
        · exfalso
          obtain ⟨k, hkn, hkl⟩ := hex
          have ht := (hT i hiz).resolve_left (by omega) k (by omega)
          have := ahead_listed inv.closed _ k i ht (fun oj hoj => by rw [ho] at hoj; cases hoj; exact hdeps)
          rw [this] at hkl
          cases hkl
      have hL' := hL i hin
      rw [ho] at hL'
      simp only [Bool.and_eq_true] at hL'
      have hg : o.guard = none := by simpa using hL'.1.1
      have hgive := hstep i o hin ho a w inv.new (fun j d hj haj hdj => inv.told j d hj (ahead_listed inv.closed _ j i haj (fun oj hoj => by rw [ho] at hoj; cases hoj; exact hdeps)) hdj)
        (fun t ht hno => inv.kept t fun j hj hjl hdj => by
          have h3 := hL'.2 j hj
          rw [hdj] at h3
          simp only [Bool.or_eq_true, Bool.not_eq_true', List.contains_eq_mem, decide_eq_false_iff_not] at h3
          rcases h3 with (h3 | h3) | h3
          · exact h3 ht
          · rw [hno j hj hdj] at h3; cases h3
          · have := ahead_listed inv.closed _ i j h3 (fun oj hoj => inv.closed j oj hoj hjl)
            rw [this] at hunl
            cases hunl)
      have hili : i < listed.size := by rw [inv.size]; exact hiz
      unfold wpOp
      rw [ho]
      simp only []
      rw [if_pos (by simp [Region.wanted, hg])]
      refine .inl (hgive.wp fun v W' hR => ?_)
      have hdst : dstOf ops i = o.dst := by simp [dstOf, ho]
      refine ih fuel _ _ _ ⟨?_, ?_, ?_, ?_, ?_, ?_, ?_, ?_, ?_⟩ ?_ (by omega)
      · simp [inv.size]
      · intro j oj hj hjl e he hb
        rw [getD_set hili] at hjl ⊢
        by_cases hij : i = j
        · subst hij
          rw [ho] at hj
          cases hj
          have := hdeps e he hb
          simp [this]
        · rw [if_neg hij] at hjl
          have := inv.closed j oj hj hjl e he hb
          simp [this]
      · intro t ht
        rw [getD_set hili, if_neg (by omega)]
        exact inv.tail t ht
      · exact inv.new.trans hR.1 (fun _ _ x => x)
      · rw [put_defers', inv.defers]
      · rw [put_size, inv.tsize]
      · intro j d hj hjl hdj
        rw [getD_set hili] at hjl
        by_cases hij : i = j
        · subst hij
          have hdd : o.dst = some d := by rw [← hdst]; exact hdj
          rw [hdd, slot_put_same (by rw [inv.tsize]; exact hd i d hin hdj)]
          exact hR.2
        · rw [if_neg hij] at hjl
          have h4 := (hD i hin) j hj
          simp only [Bool.or_eq_true, beq_iff_eq, bne_iff_ne] at h4
          rw [slot_put_ne (by
            intro e
            rw [← hdst] at e
            rcases h4 with (h4 | h4) | h4
            · exact hij h4
            · rw [e] at h4; cases h4
            · exact h4 (e.trans hdj.symm))]
          exact hst j _ _ _ hR.1 (inv.told j d hj hjl hdj)
      · intro j hj hjl hdj
        rw [getD_set hili] at hjl
        by_cases hij : i = j
        · subst hij
          exact ⟨v, hR.2⟩
        · rw [if_neg hij] at hjl
          obtain ⟨u, hu⟩ := inv.done j hj hjl hdj
          exact ⟨u, hst j _ _ _ hR.1 hu⟩
      · intro t ht
        have hne : o.dst ≠ some t := by
          rw [← hdst]
          exact ht i hin (by rw [getD_set hili, if_pos rfl])
        rw [slot_put_ne hne]
        exact inv.kept t fun j hj hjl => ht j hj (by
          rw [getD_set hili]
          by_cases hij : i = j
          · rw [if_pos hij]
          · rw [if_neg hij]; exact hjl)
      · have hff := filter_flip (List.range n) (fun j => !listed.getD j false) (fun j => !(listed.setIfInBounds i true).getD j false) i List.nodup_range (List.mem_range.2 hin) (by simp only [hunl]; rfl) (by simp only [getD_set hili]; simp) (fun j hj => by simp only [getD_set hili, if_neg (Ne.symm hj)])
        omega

theorem tail_run (hh : headsB md ops n = true) : ∀ (d t fuel : Nat) (listed : Array Bool) (a : Act) (W : World), ops.size - t = d → n ≤ t → t ≤ ops.size → listed.size = ops.size → (∀ i, listed.getD i false = decide (i < t)) → ops.size ≤ t + fuel → wpList P ops Q (ops.toList.drop t) a W → wpAny P md ops Q fuel listed a W := by
  have hh' := hh
  simp only [headsB, Bool.and_eq_true, List.all_eq_true, List.mem_range, Bool.or_eq_true, decide_eq_true_eq] at hh
  obtain ⟨⟨⟨⟨hn, hB⟩, hT⟩, hD⟩, hL⟩ := hh
  intro d
  induction d with
  | zero =>
    intro t fuel listed a W hd hnt hts hls hl hf hw
    have htz : t = ops.size := by omega
    subst htz
    rw [List.drop_of_length_le (by simp)] at hw
    have hr : Region.ready md ops listed = [] := by
      cases hr : Region.ready md ops listed with
      | nil => rfl
      | cons x l =>
        have hx : x ∈ Region.ready md ops listed := by rw [hr]; simp
        obtain ⟨h1, o, ho, _⟩ := mem_ready.1 hx
        have hxz := (Array.getElem?_eq_some_iff.1 ho).1
        have := hl x
        have hxs : x < listed.size := by rw [hls]; exact hxz
        simp [hxs] at h1 this
        simp [this, hxz] at h1
    cases fuel with
    | zero => exact ⟨hr, hw⟩
    | succ f => exact ⟨fun _ => hw, by rw [hr]; simp⟩
  | succ d ih =>
    intro t fuel listed a W hd hnt hts hls hl hf hw
    have htz : t < ops.size := by omega
    obtain ⟨fuel, rfl⟩ : ∃ f, fuel = f + 1 := ⟨fuel - 1, by omega⟩
    have hclosed : ∀ j oj, ops[j]? = some oj → listed.getD j false = true → ∀ e ∈ oj.after, Region.binds md e = true → listed.getD e.on false = true := by
      intro j oj hj hjl e he hb
      have hjz := (Array.getElem?_eq_some_iff.1 hj).1
      have hb0 := hB j hjz
      rw [hj] at hb0
      have := Array.all_eq_true'.1 hb0 e he
      simp only [hb, Bool.not_true, Bool.false_or, decide_eq_true_eq] at this
      rw [hl] at hjl ⊢
      simp only [decide_eq_true_eq] at hjl ⊢
      omega
    have hrt : t ∈ Region.ready md ops listed := mem_ready.2 ⟨by
      have := hl t
      have hxs : t < listed.size := by omega
      simp [hxs] at this ⊢
      exact this, ops[t], Array.getElem?_eq_getElem htz, fun e he hb => by
        have hb0 := hB t htz
        rw [Array.getElem?_eq_getElem htz] at hb0
        have := Array.all_eq_true'.1 hb0 e he
        simp only [hb, Bool.not_true, Bool.false_or, decide_eq_true_eq] at this
        rw [hl]
        simpa using this⟩
    have hwt : ops.toList.drop t = ops[t] :: ops.toList.drop (t + 1) := by
      rw [List.drop_eq_getElem_cons (by simpa using htz)]
      simp
    rw [hwt] at hw
    refine ⟨fun hr => (by rw [hr] at hrt; cases hrt), fun i hi => ?_⟩
    obtain ⟨hun, o, ho, hdeps⟩ := mem_ready.1 hi
    have hiz := (Array.getElem?_eq_some_iff.1 ho).1
    have hige : t ≤ i := by
      have := hl i
      have hxs : i < listed.size := by omega
      simp [hxs] at hun this
      rw [hun] at this
      simpa using this.symm
    obtain rfl : i = t := by
      rcases Nat.lt_or_ge t i with h | h
      · exfalso
        have ha := (hT i hiz).resolve_left (by omega) t h
        have := ahead_listed hclosed _ t i ha (fun oj hoj => by rw [ho] at hoj; cases hoj; exact hdeps)
        rw [hl] at this
        simp at this
      · omega
    have hoi : ops[i] = o := by rw [Array.getElem?_eq_getElem hiz] at ho; exact Option.some.inj ho
    rw [hoi] at hw
    have hnext : ∀ a' W', wpList P ops Q (ops.toList.drop (i + 1)) a' W' → wpAny P md ops Q fuel (listed.setIfInBounds i true) a' W' := fun a' W' h =>
      ih (i + 1) fuel _ a' W' (by omega) (by omega) (by omega) (by simp [hls]) (fun j => by
        rw [getD_set (by omega), hl]
        by_cases hij : i = j
        · subst hij; simp
        · rw [if_neg hij]
          have : (j < i) ↔ (j < i + 1) := by omega
          simp [this]) (by omega) h
    unfold wpOp
    rw [ho]
    simp only []
    unfold wpList at hw
    split at hw
    · rename_i hwt'
      rw [if_pos hwt']
      rcases hw with hw | hw
      · exact .inl (Oper.wp_mono hnext hw)
      · exact .inr hw
    · rename_i hwt'
      rw [if_neg hwt']
      exact hnext _ _ hw

/-- A region that draws its order: the first n in whatever order, each of which gives what is told of it and makes new memory alone; then the others. -/
theorem wp_region_heads (n : Nat) (hm : P.follows .mixedOrders = true) (hh : headsB .any ops n = true) (Φ : Nat → Value → World → Prop) {id : Nat} {a0 : Act} {w : World}
    (hst : ∀ i v w w', New w w' → Φ i v w → Φ i v w') (hd : (List.range n).all (fun i => match dstOf ops i with | some d => decide (d < a0.tmps.size) | none => true) = true)
    (hstep : ∀ i o, i < n → ops[i]? = some o → ∀ (a : Act) (W : World), New w.drew W → (∀ j d, j < n → ahead .any ops ops.size j i = true → dstOf ops j = some d → Φ j (slot a d) W) →
      (∀ t, t ∈ looks ops i → (∀ j, j < n → dstOf ops j = some t → ahead .any ops ops.size j i = false) → slot a t = slot a0 t) → Gives P o a.eval W fun v W' => New W W' ∧ Φ i v W')
    (htail : ∀ (a : Act) (W : World), New w.drew W → a.defers = a0.defers → a.tmps.size = a0.tmps.size → (∀ i d, i < n → dstOf ops i = some d → Φ i (slot a d) W) → (∀ i, i < n → dstOf ops i = none → ∃ v, Φ i v W) → (∀ t, (∀ i, i < n → dstOf ops i ≠ some t) → slot a t = slot a0 t) →
      wpList P ops Q (ops.toList.drop n) a W) : (Code.region id ops true).wp P Q a0 w := by
  have hh' := hh
  simp only [headsB, Bool.and_eq_true, List.all_eq_true, List.mem_range, Bool.or_eq_true, decide_eq_true_eq] at hh'
  have hn := hh'.1.1.1.1
  refine wp_region_any hm ?_
  change wpAny P .any ops Q ops.size (Array.replicate ops.size false) a0 w.drew
  have hfl : ∀ j, (Array.replicate ops.size false).getD j false = false := fun j => by
    rcases Nat.lt_or_ge j ops.size with h | h <;> simp [h]
  simp only [List.all_eq_true, List.mem_range] at hd
  refine heads_run hh hst (fun i d hin hdi => by have := hd i hin; rw [hdi] at this; simpa using this) hstep (fun a W h1 h2 h3 h4 h5 h6 fuel listed l1 l2 l3 l4 l5 => ?_) n ops.size _ a0 w.drew ⟨by simp, fun j oj _ hj => (by rw [hfl] at hj; cases hj), fun t _ => hfl t, Chg.refl _ _, rfl, rfl, fun i d _ hi => (by rw [hfl] at hi; cases hi), fun i _ hi => (by rw [hfl] at hi; cases hi), fun _ _ => rfl⟩ ?_ (by omega)
  · refine tail_run hh (ops.size - n) n fuel listed a W rfl (Nat.le_refl _) hn l1 (fun i => ?_) l5 (htail a W h1 h2 h3 h4 h5 h6)
    rcases Nat.lt_or_ge i n with h | h
    · rw [l2 i h]; simp [h]
    · rw [l3 i h]; simp; omega
  · rw [List.filter_eq_self.2 (fun i _ => by rw [hfl]; rfl)]
    simp

def keptB (md : Region.Mode) (ops : Array Oper) (n i t : Nat) : Bool := (looks ops i).contains t && (List.range n).all fun j => dstOf ops j != some t || !ahead md ops ops.size j i
def inB (md : Region.Mode) (ops : Array Oper) (n i j d : Nat) : Bool := decide (j < n) && ahead md ops ops.size j i && dstOf ops j == some d
def outB (ops : Array Oper) (n i d : Nat) : Bool := decide (i < n) && dstOf ops i == some d
def oldB (ops : Array Oper) (n t : Nat) : Bool := (List.range n).all fun j => dstOf ops j != some t
def dstB (ops : Array Oper) (n s : Nat) : Bool := (List.range n).all fun i => match dstOf ops i with | some d => decide (d < s) | none => true

/-- The same, its side conditions as Bools. -/
theorem wp_region_heads' (n : Nat) (hm : P.follows .mixedOrders = true) (hh : headsB .any ops n = true) (Φ : Nat → Value → World → Prop) {id : Nat} {a0 : Act} {w : World}
    (hd : dstB ops n a0.tmps.size = true) (hst : ∀ i v w w', New w w' → Φ i v w → Φ i v w')
    (hstep : ∀ i, i < n → ∀ o, ops[i]? = some o → ∀ (a : Act) (W : World), New w.drew W → (∀ j d, inB .any ops n i j d = true → Φ j (a.tmps[d]?.getD undef) W) →
      (∀ t, keptB .any ops n i t = true → a.eval (.tmp t) = a0.eval (.tmp t)) → Gives P o a.eval W fun v W' => New W W' ∧ Φ i v W')
    (htail : ∀ (a : Act) (W : World), New w.drew W → a.defers = a0.defers → a.tmps.size = a0.tmps.size → (∀ i d, outB ops n i d = true → Φ i (slot a d) W) → (∀ t, oldB ops n t = true → slot a t = slot a0 t) →
      wpList P ops Q (ops.toList.drop n) a W) : (Code.region id ops true).wp P Q a0 w := by
  refine wp_region_heads n hm hh Φ hst hd (fun i o hi ho a W hN hin hk => hstep i hi o ho a W hN (fun j d h => ?_) (fun t h => ?_)) (fun a W h1 h2 h3 h4 _ h6 => htail a W h1 h2 h3 (fun i d h => ?_) (fun t h => ?_))
  · simp only [inB, Bool.and_eq_true, decide_eq_true_eq, beq_iff_eq] at h
    have := hin j d h.1.1 h.1.2 h.2
    simp only [slot, Array.getD_eq_getD_getElem?] at this
    exact this
  · simp only [keptB, Bool.and_eq_true, List.contains_eq_mem, decide_eq_true_eq, List.all_eq_true, List.mem_range, Bool.or_eq_true, bne_iff_ne, Bool.not_eq_true'] at h
    exact hk t h.1 (fun j hj hdj => (h.2 j hj).resolve_left (fun hne => hne hdj))
  · simp only [outB, Bool.and_eq_true, decide_eq_true_eq, beq_iff_eq] at h
    exact h4 i d h.1 h.2
  · simp only [oldB, List.all_eq_true, List.mem_range, bne_iff_ne] at h
    exact h6 t h

theorem Gives.same {o : Oper} {ρ : Operand → Value} {W : World} {Φ : Value → World → Prop} {v : Value} (hr : (execOp ρ o).run P W = .ok (.value v) W) (h : Φ v W) : Gives P o ρ W fun v W' => New W W' ∧ Φ v W' := .value hr ⟨Chg.refl _ _, h⟩
theorem Gives.move {o : Oper} {ρ : Operand → Value} {W : World} {Φ : Value → World → Prop} (x : Operand) (ho : o.op = .move x) (h : Φ (ρ x) W) : Gives P o ρ W fun v W' => New W W' ∧ Φ v W' :=
  .same (by unfold execOp; rw [ho]; rfl) h
end
/-- A state written out slot by slot. -/
theorem act_eta (a : Act) (n : Nat) (d : List Deferred) (h : a.tmps.size = n) (hd : a.defers = d) : a = ⟨((List.range n).map (slot a)).toArray, d⟩ := by
  obtain ⟨tmps, defers⟩ := a
  subst hd
  simp only [Act.mk.injEq, and_true]
  apply Array.ext
  · simpa using h
  · intro i h1 h2
    simp [slot, h1]
theorem results_cell_one {fn : Func} {p : Tmp} {ty : TypeId} (h : fn.results = #[.cell p ty]) (tmps : Array Value) (P : Program) (w : World) :
    (results fn tmps).run P w = ((asAddr (tmps.getD p undef)).run P w).andThen fun a w₁ => (loadVar ty a).run P w₁ := by
  simp only [results, h]
  simp [Sem.run_bind, Result.andThen]
theorem At.drewN' {w : World} {a : Addr} {cs : List Value} (h : At w a cs) (n : Nat) : At (w.drewN n) a cs := h.chg ((Chg.refl w (fun _ => False)).drewN n) id
/-- In a quiet region: a struct is loaded; a value is reckoned. -/
theorem wpq_load {P : Program} {ops : Array Oper} {Q : Act → Prop} {o : Oper} {rest : List Oper} {a : Act} {w : World} {k : Nat} (hg : o.guard = none) (x : Operand) (e : TypeId) (ho : o.op = .load e x) (hS : StT P e k) (ad : Addr) (cs : List Value) (hx : a.eval x = .pointer (some ad)) (hl : cs.length = k) (hc : At w ad cs)
    (h : wpQuiet P ops (fun w' => ∃ n, w' = w.drewN n) Q rest (a.put o.dst (.agg cs.toArray))) : wpQuiet P ops (fun w' => ∃ n, w' = w.drewN n) Q (o :: rest) a := by
  unfold wpQuiet
  rw [if_pos (by simp [Region.wanted, hg])]
  refine ⟨_, ?_, h⟩
  rintro W ⟨n, rfl⟩
  have hrun := run_loadK (P := P) hS ad cs hl (hc.drewN' n)
  unfold Oper.quietAt execOp
  simp only [ho, hx, Instr.loadAt, Instr.sureAddr, Sem.run_bind, Sem.run_pure, Result.andThen_ok, hrun]
  exact ⟨rfl, rfl⟩
theorem wpq_val {P : Program} {ops : Array Oper} {Q : Act → Prop} {o : Oper} {rest : List Oper} {a : Act} {w : World} (hg : o.guard = none) (v : Value) (hr : ∀ n, (execOp a.eval o).run P (w.drewN n) = .ok (.value v) (w.drewN n))
    (h : wpQuiet P ops (fun w' => ∃ n, w' = w.drewN n) Q rest (a.put o.dst v)) : wpQuiet P ops (fun w' => ∃ n, w' = w.drewN n) Q (o :: rest) a := by
  unfold wpQuiet
  rw [if_pos (by simp [Region.wanted, hg])]
  refine ⟨v, ?_, h⟩
  rintro W ⟨n, rfl⟩
  unfold Oper.quietAt
  rw [hr]
  exact ⟨rfl, rfl⟩
end Go.Proofs.Ytffmalagochakaa

set_option linter.unusedVariables false
set_option linter.unusedSimpArgs false
namespace Go.Proofs.Ytffmalagochakaa
open Go.RowKit

/-- The region stands before its operation number n: all ahead of it are done, none from it on. -/
def AtN (P : Program) (ops : Array Oper) (Q : Exit → Act → World → Prop) (n : Nat) (a : Act) (w : World) : Prop :=
  ∀ fuel (listed : Array Bool), listed.size = ops.size → (∀ i, listed.getD i false = decide (i < n)) → ops.size ≤ n + fuel → wpAny P .any ops Q fuel listed a w

/-- All edges point back. -/
def backB (ops : Array Oper) : Bool := (List.range ops.size).all (fun i => match ops[i]? with | some o => o.after.all fun e => !Region.binds .any e || decide (e.on < i) | none => true)
/-- Nothing from m on may come ahead of those from n to m. -/
def wallB (ops : Array Oper) (n m : Nat) : Bool := (List.range ops.size).all fun t => decide (t < m) || (List.range m).all fun i => decide (i < n) || ahead .any ops ops.size i t

section
variable {P : Program} {ops : Array Oper} {Q : Exit → Act → World → Prop} {a : Act} {w : World}

theorem wp_region_at {id : Nat} (hm : P.follows .mixedOrders = true) (h : AtN P ops Q 0 a w.drew) : (Code.region id ops true).wp P Q a w := by
  refine wp_region_any hm ?_
  refine h _ _ (by simp) (fun i => ?_) (by omega)
  rcases Nat.lt_or_ge i ops.size with h | h <;> simp [h]

theorem AtN.done {n : Nat} (hn : n = ops.size) (h : Q .normal a w) : AtN P ops Q n a w := by
  subst hn
  intro fuel listed hls hl hf
  have hr : Region.ready .any ops listed = [] := by
    cases hr : Region.ready .any ops listed with
    | nil => rfl
    | cons x l =>
      have hx : x ∈ Region.ready .any ops listed := by rw [hr]; simp
      obtain ⟨h1, o, ho, _⟩ := mem_ready.1 hx
      have hxz := (Array.getElem?_eq_some_iff.1 ho).1
      have := hl x
      have hxs : x < listed.size := by rw [hls]; exact hxz
      simp [hxs] at h1 this
      simp [this, hxz] at h1
  cases fuel with
  | zero => exact ⟨hr, h⟩
  | succ f => exact ⟨fun _ => h, by rw [hr]; simp⟩

theorem back_at (hb : backB ops = true) {j : Nat} {oj : Oper} (hj : ops[j]? = some oj) {e : Edge} (he : e ∈ oj.after) (hbd : Region.binds .any e = true) : e.on < j := by
  simp only [backB, List.all_eq_true, List.mem_range] at hb
  have hb0 := hb j (Array.getElem?_eq_some_iff.1 hj).1
  rw [hj] at hb0
  have := Array.all_eq_true'.1 hb0 e he
  simp only [hbd, Bool.not_true, Bool.false_or, decide_eq_true_eq] at this
  exact this
theorem wall_at {n m : Nat} (hw : wallB ops n m = true) {t i : Nat} (ht : t < ops.size) (hm : m ≤ t) (hn : n ≤ i) (hi : i < m) : ahead .any ops ops.size i t = true := by
  simp only [wallB, List.all_eq_true, List.mem_range, Bool.or_eq_true, decide_eq_true_eq] at hw
  exact ((hw t ht).resolve_left (by omega) i hi).resolve_left (by omega)

/-- One operation whose turn is forced. -/
theorem AtN.one {n : Nat} (hb : backB ops = true) (hw : wallB ops n (n + 1) = true) {o : Oper} (ho : ops[n]? = some o)
    (h : if Region.wanted o (yielded ops a.tmps) then o.wp P a w (AtN P ops Q (n + 1)) Q ∨ (o.asks P a w ∧ LetsOut Q) else AtN P ops Q (n + 1) (a.put o.dst undef) w) : AtN P ops Q n a w := by
  intro fuel listed hls hl hf
  have htz : n < ops.size := (Array.getElem?_eq_some_iff.1 ho).1
  obtain ⟨fuel, rfl⟩ : ∃ f, fuel = f + 1 := ⟨fuel - 1, by omega⟩
  have hclosed : ∀ j oj, ops[j]? = some oj → listed.getD j false = true → ∀ e ∈ oj.after, Region.binds .any e = true → listed.getD e.on false = true := by
    intro j oj hj hjl e he hbd
    have := back_at hb hj he hbd
    rw [hl] at hjl ⊢
    simp only [decide_eq_true_eq] at hjl ⊢
    omega
  have hrt : n ∈ Region.ready .any ops listed := mem_ready.2 ⟨by
    have := hl n
    have hxs : n < listed.size := by omega
    simp [hxs] at this ⊢
    exact this, o, ho, fun e he hbd => by
      have := back_at hb ho he hbd
      rw [hl]
      simpa using this⟩
  refine ⟨fun hr => (by rw [hr] at hrt; cases hrt), fun i hi => ?_⟩
  obtain ⟨hun, o', ho', hdeps⟩ := mem_ready.1 hi
  have hiz := (Array.getElem?_eq_some_iff.1 ho').1
  have hige : n ≤ i := by
    have := hl i
    have hxs : i < listed.size := by omega
    simp [hxs] at hun this
    rw [hun] at this
    simpa using this.symm
  obtain rfl : i = n := by
    rcases Nat.lt_or_ge n i with h | h
    · exfalso
      have ha := wall_at hw hiz h (Nat.le_refl n) (Nat.lt_succ_self n)
      have := ahead_listed hclosed _ n i ha (fun oj hoj => by rw [ho'] at hoj; cases hoj; exact hdeps)
      rw [hl] at this
      simp at this
    · omega
  have hnext : ∀ a' W', AtN P ops Q (i + 1) a' W' → wpAny P .any ops Q fuel (listed.setIfInBounds i true) a' W' := fun a' W' h =>
    h fuel _ (by simp [hls]) (fun j => by
      rw [getD_set (by omega), hl]
      by_cases hij : i = j
      · subst hij; simp
      · rw [if_neg hij]
        have : (j < i) ↔ (j < i + 1) := by omega
        simp [this]) (by omega)
  unfold wpOp
  rw [ho]
  simp only []
  split at h
  · rename_i hwt
    rw [if_pos hwt]
    exact h.imp (Oper.wp_mono hnext) id
  · rename_i hwt
    rw [if_neg hwt]
    exact hnext _ _ h

/-- What stands behind a stretch in the text's order. -/
def upto (P : Program) (ops : Array Oper) (Q : Exit → Act → World → Prop) (m : Nat) : Exit → Act → World → Prop := fun e a w => match e with
  | .normal => AtN P ops Q m a w
  | .exit i => Q (.exit i) a w
  | .ret => Q .ret a w
  | .panic c => Q (.panic c) a w
  | .outgrown => Q .outgrown a w
  | e => Q e a w
theorem letsOut_upto {m : Nat} : LetsOut (upto P ops Q m) → LetsOut Q := fun ⟨a, w, h⟩ => ⟨a, w, h⟩
theorem wp_upto {o : Oper} {m : Nat} {K : Act → World → Prop} (h : o.wp P a w K (upto P ops Q m)) : o.wp P a w K Q := by
  unfold Oper.wp at *
  generalize (execOp a.eval o).run P w = r at *
  cases r with
  | ok n w' =>
    cases n with
    | enter f args =>
      refine Calls.mono h fun e w'' h => ?_
      cases e with
      | returned v => exact h
      | panicked c => exact h
      | outgrown => exact letsOut_upto h
    | value v => exact h
    | skip => exact h
    | defer d => exact h
    | row r args => exact h
    | _ => exact h
  | halt x w' => cases x <;> exact h

theorem stretch (hb : backB ops = true) : ∀ (l : List Oper) (n m : Nat), m = n + l.length → (∀ t, n ≤ t → t < m → wallB ops t (t + 1) = true) → (∀ j, j < l.length → ops[n + j]? = l[j]?) → ∀ a w, wpList P ops (upto P ops Q m) l a w → AtN P ops Q n a w
  | [], n, m, hm, _, _, a, w, h => by
    simp only [List.length_nil, Nat.add_zero] at hm
    subst hm
    exact h
  | o :: l, n, m, hm, hw, hl, a, w, h => by
    simp only [List.length_cons] at hm
    have ih := stretch hb l (n + 1) m (by omega) (fun t h1 h2 => hw t (by omega) h2) (fun j hj => by
      have := hl (j + 1) (by simp; omega)
      rw [List.getElem?_cons_succ] at this
      rw [← this]
      congr 1
      omega)
    refine AtN.one hb (hw n (Nat.le_refl n) (by omega)) (by simpa using hl 0 (by simp)) ?_
    unfold wpList at h
    split at h
    · rename_i hwt
      rw [if_pos hwt]
      exact h.imp (fun h => Oper.wp_mono ih (wp_upto h)) (fun h => ⟨h.1, letsOut_upto h.2⟩)
    · rename_i hwt
      rw [if_neg hwt]
      exact ih _ _ h
def listB (ops : Array Oper) (n m : Nat) : Bool := decide (n ≤ m) && decide (m ≤ ops.size) && backB ops && (List.range m).all fun t => decide (t < n) || wallB ops t (t + 1)
/-- A stretch whose order is forced. -/
theorem AtN.list (n m : Nat) (hh : listB ops n m = true) (h : wpList P ops (upto P ops Q m) ((ops.toList.drop n).take (m - n)) a w) : AtN P ops Q n a w := by
  simp only [listB, Bool.and_eq_true, decide_eq_true_eq, List.all_eq_true, List.mem_range, Bool.or_eq_true] at hh
  obtain ⟨⟨⟨h1, h2⟩, h3⟩, h4⟩ := hh
  have hlen : ((ops.toList.drop n).take (m - n)).length = m - n := by simp; omega
  refine stretch h3 _ n m (by rw [hlen]; omega) (fun t ht1 ht2 => (h4 t ht2).resolve_left (by omega)) (fun j hj => ?_) _ _ h
  rw [hlen] at hj
  rw [List.getElem?_take, if_pos hj, List.getElem?_drop]
  simp

/-- Those from n to m in whatever order. -/
def segB (ops : Array Oper) (n m : Nat) : Bool :=
  decide (n ≤ m) && decide (m ≤ ops.size) && backB ops && wallB ops n m &&
  (List.range m).all (fun i => decide (i < n) || ((List.range m).all fun j => decide (j < n) || i == j || (dstOf ops i).isNone || dstOf ops i != dstOf ops j)) &&
  (List.range m).all (fun i => decide (i < n) || ((match ops[i]? with | some o => (match o.guard with | some (g, _) => decide (g < n) && (List.range m).all (fun j => decide (j < n) || (dstOf ops j).isNone || dstOf ops j != dstOf ops g) | none => true) && !(match o.op with | .select _ _ => true | _ => false) | none => false) && (List.range m).all fun j => decide (j < n) || match dstOf ops j with | some d => !(looks ops i).contains d || ahead .any ops ops.size j i || ahead .any ops ops.size i j | none => true))
def wantB (ops : Array Oper) (n m : Nat) (tmps : Array Value) : Bool := (List.range m).all fun i => decide (i < n) || match ops[i]? with | some o => Region.wanted o (yielded ops tmps) | none => true

structure InvS (P : Program) (ops : Array Oper) (n m μ : Nat) (Φ : Nat → Value → World → Prop) (J : Bool → World → Prop) (a0 : Act) (listed : Array Bool) (a : Act) (w : World) : Prop where
  size : listed.size = ops.size
  below : ∀ t, t < n → listed.getD t false = true
  tail : ∀ t, m ≤ t → listed.getD t false = false
  closed : ∀ j oj, ops[j]? = some oj → listed.getD j false = true → ∀ e ∈ oj.after, Region.binds .any e = true → listed.getD e.on false = true
  st : J (decide (n ≤ μ) && listed.getD μ false) w
  defers : a.defers = a0.defers
  tsize : a.tmps.size = a0.tmps.size
  told : ∀ i d, n ≤ i → i < m → listed.getD i false = true → dstOf ops i = some d → Φ i (slot a d) w
  kept : ∀ t, (∀ i, n ≤ i → i < m → listed.getD i false = true → dstOf ops i ≠ some t) → slot a t = slot a0 t

theorem yielded_same {a a0 : Act} {g : Nat} (hs : a.tmps.size = a0.tmps.size) (h : ∀ d, dstOf ops g = some d → slot a d = slot a0 d) : yielded ops a.tmps g = yielded ops a0.tmps g := by
  unfold yielded
  cases hd : (ops[g]?).bind (·.dst) with
  | none => rfl
  | some d =>
    simp only [Option.bind_some]
    have h' := h d hd
    unfold slot at h'
    rcases Nat.lt_or_ge d a.tmps.size with hlt | hge
    · have hlt0 : d < a0.tmps.size := hs ▸ hlt
      simp only [Array.getD_eq_getD_getElem?, Array.getElem?_eq_getElem hlt, Array.getElem?_eq_getElem hlt0, Option.getD_some] at h' ⊢
      rw [h']
    · rw [Array.getElem?_eq_none hge, Array.getElem?_eq_none (hs ▸ hge)]

theorem seg_run {n m μ : Nat} {Φ : Nat → Value → World → Prop} {J : Bool → World → Prop} {a0 : Act} (hh : segB ops n m = true) (hsk : ∀ i o, n ≤ i → i < m → ops[i]? = some o → Region.wanted o (yielded ops a0.tmps) = false → i ≠ μ ∧ ∀ W, Φ i undef W) (hd : ∀ i d, n ≤ i → i < m → dstOf ops i = some d → d < a0.tmps.size)
    (hstep : ∀ i o, n ≤ i → i < m → ops[i]? = some o → Region.wanted o (yielded ops a0.tmps) = true → ∀ (a : Act) (W : World) (b : Bool), J b W → (i = μ → b = false) → (∀ j d, n ≤ j → j < m → ahead .any ops ops.size j i = true → dstOf ops j = some d → Φ j (slot a d) W) →
      (∀ t, t ∈ looks ops i → (∀ j, n ≤ j → j < m → dstOf ops j = some t → ahead .any ops ops.size j i = false) → slot a t = slot a0 t) → Gives P o a.eval W fun v W' => J (b || i == μ) W' ∧ Φ i v W' ∧ ∀ k u, Φ k u W → Φ k u W')
    (htail : ∀ (a : Act) (W : World), J (decide (n ≤ μ) && decide (μ < m)) W → a.defers = a0.defers → a.tmps.size = a0.tmps.size → (∀ i d, n ≤ i → i < m → dstOf ops i = some d → Φ i (slot a d) W) → (∀ t, (∀ i, n ≤ i → i < m → dstOf ops i ≠ some t) → slot a t = slot a0 t) →
      AtN P ops Q m a W) :
    ∀ (c fuel : Nat) (listed : Array Bool) (a : Act) (w : World), InvS P ops n m μ Φ J a0 listed a w → ((List.range m).filter fun i => !listed.getD i false).length = c → ops.size + c ≤ m + fuel → wpAny P .any ops Q fuel listed a w := by
  simp only [segB, Bool.and_eq_true, decide_eq_true_eq] at hh
  obtain ⟨⟨⟨⟨⟨hnm, hms⟩, hB⟩, hT⟩, hD⟩, hL⟩ := hh
  simp only [List.all_eq_true, List.mem_range, Bool.or_eq_true, decide_eq_true_eq, Bool.and_eq_true] at hD hL
  intro c
  induction c with
  | zero =>
    intro fuel listed a w inv hm hf
    have hall : ∀ i, i < m → listed.getD i false = true := by
      intro i hi
      have h0 := List.eq_nil_of_length_eq_zero hm
      have := (List.filter_eq_nil_iff.1 h0) i (List.mem_range.2 hi)
      simpa using this
    have hst := inv.st
    have hlm : listed.getD μ false = decide (μ < m) := by
      rcases Nat.lt_or_ge μ m with h | h
      · rw [hall μ h]; simp [h]
      · rw [inv.tail μ h]; simp; omega
    rw [hlm] at hst
    refine htail a w hst inv.defers inv.tsize (fun i d hn hi hd' => inv.told i d hn hi (hall i hi) hd') (fun t ht => inv.kept t fun i hn hi _ => ht i hn hi) fuel listed inv.size (fun i => ?_) (by omega)
    rcases Nat.lt_or_ge i m with h | h
    · rw [hall i h]; simp [h]
    · rw [inv.tail i h]; simp; omega
  | succ c ih =>
    intro fuel listed a w inv hm hf
    have hmn : c + 1 ≤ m := by
      rw [← hm]
      exact Nat.le_trans (List.length_filter_le _ _) (by simp)
    obtain ⟨fuel, rfl⟩ : ∃ f, fuel = f + 1 := ⟨fuel - 1, by omega⟩
    have hex : ∃ i, i < m ∧ listed.getD i false = false := by
      cases hl : (List.range m).filter fun i => !listed.getD i false with
      | nil => rw [hl] at hm; cases hm
      | cons x l =>
        have hx : x ∈ (List.range m).filter fun i => !listed.getD i false := by rw [hl]; simp
        obtain ⟨h1, h2⟩ := List.mem_filter.1 hx
        exact ⟨x, List.mem_range.1 h1, by simpa using h2⟩
    refine ⟨fun hr => ?_, fun i hi => ?_⟩
    · exfalso
      obtain ⟨i, hin, hil⟩ := hex
      have key : ∀ k, k < m → listed.getD k false = true := by
        intro k
        induction k using Nat.strongRecOn with
        | _ k ihk =>
          intro hk
          cases hkl : listed.getD k false with
          | true => rfl
          | false =>
            have hks : k < ops.size := by omega
            have hmem : k ∈ Region.ready .any ops listed := mem_ready.2 ⟨by
              have : k < listed.size := by rw [inv.size]; exact hks
              simp [this] at hkl ⊢
              exact hkl, ops[k], Array.getElem?_eq_getElem hks, fun e he hb => by
              have := back_at hB (Array.getElem?_eq_getElem hks) he hb
              exact ihk e.on this (by omega)⟩
            rw [hr] at hmem
            cases hmem
      rw [key i hin] at hil
      cases hil
    · obtain ⟨hun, o, ho, hdeps⟩ := mem_ready.1 hi
      have hiz : i < ops.size := (Array.getElem?_eq_some_iff.1 ho).1
      have hunl : listed.getD i false = false := by
        have : i < listed.size := by rw [inv.size]; exact hiz
        simp [this] at hun ⊢
        exact hun
      have hni : n ≤ i := by
        rcases Nat.lt_or_ge i n with h | h
        · rw [inv.below i h] at hunl; cases hunl
        · exact h
      have hin : i < m := by
        rcases Nat.lt_or_ge i m with h | h
        · exact h
        · exfalso
          obtain ⟨k, hkn, hkl⟩ := hex
          have hkn' : n ≤ k := by
            rcases Nat.lt_or_ge k n with h | h
            · rw [inv.below k h] at hkl; cases hkl
            · exact h
          have ht := wall_at hT hiz h hkn' hkn
          have := ahead_listed inv.closed _ k i ht (fun oj hoj => by rw [ho] at hoj; cases hoj; exact hdeps)
          rw [this] at hkl
          cases hkl
      have hL' := (hL i hin).resolve_left (by omega)
      rw [ho] at hL'
      simp only [Bool.and_eq_true] at hL'
      have hgive := fun hw0 => hstep i o hni hin ho hw0 a w _ inv.st (fun e => by subst e; simp [hunl]) (fun j d hnj hj haj hdj => inv.told j d hnj hj (ahead_listed inv.closed _ j i haj (fun oj hoj => by rw [ho] at hoj; cases hoj; exact hdeps)) hdj)
        (fun t ht hno => inv.kept t fun j hnj hj hjl hdj => by
          have h3 := (hL'.2 j hj).resolve_left (by omega)
          rw [hdj] at h3
          simp only [Bool.or_eq_true, Bool.not_eq_true', List.contains_eq_mem, decide_eq_false_iff_not] at h3
          rcases h3 with (h3 | h3) | h3
          · exact h3 ht
          · rw [hno j hnj hj hdj] at h3; cases h3
          · have := ahead_listed inv.closed _ i j h3 (fun oj hoj => inv.closed j oj hoj hjl)
            rw [this] at hunl
            cases hunl)
      have hwant : Region.wanted o (yielded ops a.tmps) = Region.wanted o (yielded ops a0.tmps) := by
        have hg := hL'.1.1
        cases hgo : o.guard with
        | none => simp only [Region.wanted, hgo]
        | some gb =>
          obtain ⟨g, b⟩ := gb
          rw [hgo] at hg
          simp only [Bool.and_eq_true, decide_eq_true_eq, List.all_eq_true, List.mem_range, Bool.or_eq_true, bne_iff_ne] at hg
          have hyy := yielded_same (ops := ops) (g := g) inv.tsize (fun d hdg => inv.kept d fun j hnj hj _ hdj => by
            rcases hg.2 j hj with (h5 | h5) | h5
            · omega
            · rw [hdj] at h5; cases h5
            · exact h5 (hdj.trans hdg.symm))
          simp only [Region.wanted, hgo, hyy]
      have hili : i < listed.size := by rw [inv.size]; exact hiz
      unfold wpOp
      rw [ho]
      simp only []
      have hdst : dstOf ops i = o.dst := by simp [dstOf, ho]
      suffices hgo : ∀ v W', (J (decide (n ≤ μ) && listed.getD μ false || i == μ) W' ∧ Φ i v W' ∧ ∀ k u, Φ k u w → Φ k u W') → wpAny P .any ops Q fuel (listed.setIfInBounds i true) (a.put o.dst v) W' by
        rw [hwant]
        split
        · rename_i hw1
          exact .inl ((hgive hw1).wp fun v W' hR => hgo v W' hR)
        · rename_i hw1
          have h8 := hsk i o hni hin ho (by simpa using hw1)
          refine hgo undef w ⟨?_, h8.2 w, fun _ _ h => h⟩
          rw [show (i == μ) = false by simpa using h8.1, Bool.or_false]
          exact inv.st
      intro v W' hR
      refine ih fuel _ _ _ ⟨?_, ?_, ?_, ?_, ?_, ?_, ?_, ?_, ?_⟩ ?_ (by omega)
      · simp [inv.size]
      · intro t ht
        rw [getD_set hili, if_neg (by omega)]
        exact inv.below t ht
      · intro t ht
        rw [getD_set hili, if_neg (by omega)]
        exact inv.tail t ht
      · intro j oj hj hjl e he hb
        rw [getD_set hili] at hjl ⊢
        by_cases hij : i = j
        · subst hij
          rw [ho] at hj
          cases hj
          have := hdeps e he hb
          simp [this]
        · rw [if_neg hij] at hjl
          have := inv.closed j oj hj hjl e he hb
          simp [this]
      · have h6 := hR.1
        rw [getD_set hili]
        by_cases hiμ : i = μ
        · subst hiμ
          simpa [hni, hunl] using h6
        · rw [if_neg hiμ]
          rw [show (i == μ) = false by simpa using hiμ, Bool.or_false] at h6
          exact h6
      · rw [put_defers', inv.defers]
      · rw [put_size, inv.tsize]
      · intro j d hnj hj hjl hdj
        rw [getD_set hili] at hjl
        by_cases hij : i = j
        · subst hij
          have hdd : o.dst = some d := by rw [← hdst]; exact hdj
          rw [hdd, slot_put_same (by rw [inv.tsize]; exact hd i d hni hin hdj)]
          exact hR.2.1
        · rw [if_neg hij] at hjl
          have h4 := (((hD i hin).resolve_left (by omega)) j hj)
          simp only [Bool.or_eq_true, beq_iff_eq, bne_iff_ne, decide_eq_true_eq] at h4
          rw [slot_put_ne (by
            intro e
            rw [← hdst] at e
            rcases h4 with ((h4 | h4) | h4) | h4
            · omega
            · exact hij h4
            · rw [e] at h4; cases h4
            · exact h4 (e.trans hdj.symm))]
          exact hR.2.2 _ _ (inv.told j d hnj hj hjl hdj)
      · intro t ht
        have hne : o.dst ≠ some t := by
          rw [← hdst]
          exact ht i hni hin (by rw [getD_set hili, if_pos rfl])
        rw [slot_put_ne hne]
        exact inv.kept t fun j hnj hj hjl => ht j hnj hj (by
          rw [getD_set hili]
          by_cases hij : i = j
          · rw [if_pos hij]
          · rw [if_neg hij]; exact hjl)
      · have hff := filter_flip (List.range m) (fun j => !listed.getD j false) (fun j => !(listed.setIfInBounds i true).getD j false) i List.nodup_range (List.mem_range.2 hin) (by simp only [hunl]; rfl) (by simp only [getD_set hili]; simp) (fun j hj => by simp only [getD_set hili, if_neg (Ne.symm hj)])
        omega

def sKeptB (ops : Array Oper) (n m i t : Nat) : Bool := (looks ops i).contains t && (List.range m).all fun j => decide (j < n) || dstOf ops j != some t || !ahead .any ops ops.size j i
def sInB (ops : Array Oper) (n m i j d : Nat) : Bool := decide (n ≤ j) && decide (j < m) && ahead .any ops ops.size j i && dstOf ops j == some d
def sOutB (ops : Array Oper) (n m i d : Nat) : Bool := decide (n ≤ i) && decide (i < m) && dstOf ops i == some d
def sOldB (ops : Array Oper) (n m t : Nat) : Bool := (List.range m).all fun j => decide (j < n) || dstOf ops j != some t
def sDstB (ops : Array Oper) (n m s : Nat) : Bool := (List.range m).all fun i => decide (i < n) || match dstOf ops i with | some d => decide (d < s) | none => true

/-- A stretch in whatever order: each gives what is told of it; number μ alone turns the state J. -/
theorem AtN.seg' (n m μ : Nat) (Φ : Nat → Value → World → Prop) (J : Bool → World → Prop) (hh : segB ops n m = true) (hsk : ∀ i o, n ≤ i → i < m → ops[i]? = some o → Region.wanted o (yielded ops a.tmps) = false → i ≠ μ ∧ ∀ W, Φ i undef W) (hd : sDstB ops n m a.tmps.size = true) (h0 : J false w)
    (hstep : ∀ i, n ≤ i → i < m → ∀ o, ops[i]? = some o → Region.wanted o (yielded ops a.tmps) = true → ∀ (A : Act) (W : World) (b : Bool), J b W → (i = μ → b = false) → (∀ j d, sInB ops n m i j d = true → Φ j (A.tmps[d]?.getD undef) W) →
      (∀ t, sKeptB ops n m i t = true → A.tmps[t]?.getD undef = slot a t) → Gives P o A.eval W fun v W' => J (b || i == μ) W' ∧ Φ i v W' ∧ ∀ k u, Φ k u W → Φ k u W')
    (htail : ∀ (A : Act) (W : World), J (decide (n ≤ μ) && decide (μ < m)) W → A.defers = a.defers → A.tmps.size = a.tmps.size → (∀ i d, sOutB ops n m i d = true → Φ i (slot A d) W) → (∀ t, sOldB ops n m t = true → slot A t = slot a t) →
      AtN P ops Q m A W) : AtN P ops Q n a w := by
  intro fuel listed hls hl hf
  have hh' := hh
  simp only [segB, Bool.and_eq_true, decide_eq_true_eq] at hh'
  obtain ⟨⟨⟨⟨⟨hnm, hms⟩, hB⟩, hT⟩, hD⟩, hL⟩ := hh'
  simp only [sDstB, List.all_eq_true, List.mem_range, Bool.or_eq_true, decide_eq_true_eq] at hd
  refine seg_run (n := n) (m := m) (μ := μ) (Φ := Φ) (J := J) (a0 := a) hh hsk (fun i d hn hi hdi => ?_) (fun i o hn hi ho hw0 A W b hJ hμ hin hk => hstep i hn hi o ho hw0 A W b hJ hμ (fun j d h => ?_) (fun t h => ?_)) (fun A W h1 h2 h3 h4 h5 => htail A W h1 h2 h3 (fun i d h => ?_) (fun t h => ?_)) (m - n) fuel listed a w ⟨hls, ?_, ?_, ?_, ?_, rfl, rfl, ?_, fun _ _ => rfl⟩ ?_ (by omega)
  · have := (hd i hi).resolve_left (by omega)
    rw [hdi] at this
    simpa using this
  · simp only [sInB, Bool.and_eq_true, decide_eq_true_eq, beq_iff_eq] at h
    have := hin j d h.1.1.1 h.1.1.2 h.1.2 h.2
    simp only [slot, Array.getD_eq_getD_getElem?] at this
    exact this
  · simp only [sKeptB, Bool.and_eq_true, List.contains_eq_mem, decide_eq_true_eq, List.all_eq_true, List.mem_range, Bool.or_eq_true, bne_iff_ne, Bool.not_eq_true'] at h
    have := hk t h.1 (fun j hnj hj hdj => by
      rcases h.2 j hj with (h7 | h7) | h7
      · omega
      · exact absurd hdj h7
      · exact h7)
    simp only [slot, Array.getD_eq_getD_getElem?] at this ⊢
    exact this
  · simp only [sOutB, Bool.and_eq_true, decide_eq_true_eq, beq_iff_eq] at h
    exact h4 i d h.1.1 h.1.2 h.2
  · simp only [sOldB, List.all_eq_true, List.mem_range, Bool.or_eq_true, decide_eq_true_eq, bne_iff_ne] at h
    exact h5 t fun i hn hi => (h i hi).resolve_left (by omega)
  · intro t ht
    rw [hl]; simpa using ht
  · intro t ht
    rw [hl]; simp; omega
  · intro j oj hj hjl e he hb
    have := back_at hB hj he hb
    rw [hl] at hjl ⊢
    simp only [decide_eq_true_eq] at hjl ⊢
    omega
  · rw [hl]
    have : (decide (n ≤ μ) && decide (μ < n)) = false := by simp
    rw [this]
    exact h0
  · intro i d hn hi hil
    rw [hl] at hil
    simp at hil
    omega
  · have hcong : ((List.range m).filter fun i => !listed.getD i false) = (List.range m).filter fun i => decide (n ≤ i) := List.filter_congr fun i _ => by
      rw [hl]
      by_cases h : i < n
      · simp [h]
      · simp [h]; omega
    rw [hcong]
    clear hcong
    have : ∀ m, ((List.range m).filter fun i => decide (n ≤ i)).length = m - n := by
      intro m
      induction m with
      | zero => simp
      | succ m ih =>
        rw [List.range_succ, List.filter_append, List.length_append, ih]
        by_cases h : n ≤ m
        · simp [h]; omega
        · simp [h]; omega
    exact this m

theorem want_at {n m : Nat} (hwn : wantB ops n m a.tmps = true) {i : Nat} {o : Oper} (hn : n ≤ i) (hi : i < m) (ho : ops[i]? = some o) (h : Region.wanted o (yielded ops a.tmps) = false) : False := by
  simp only [wantB, List.all_eq_true, List.mem_range, Bool.or_eq_true, decide_eq_true_eq] at hwn
  have h0 := (hwn i hi).resolve_left (by omega)
  rw [ho] at h0
  simp only [h] at h0
  cases h0
theorem AtN.seg (n m μ : Nat) (Φ : Nat → Value → World → Prop) (J : Bool → World → Prop) (hh : segB ops n m = true) (hwn : wantB ops n m a.tmps = true) (hd : sDstB ops n m a.tmps.size = true) (h0 : J false w)
    (hstep : ∀ i, n ≤ i → i < m → ∀ o, ops[i]? = some o → ∀ (A : Act) (W : World) (b : Bool), J b W → (i = μ → b = false) → (∀ j d, sInB ops n m i j d = true → Φ j (A.tmps[d]?.getD undef) W) →
      (∀ t, sKeptB ops n m i t = true → A.tmps[t]?.getD undef = slot a t) → Gives P o A.eval W fun v W' => J (b || i == μ) W' ∧ Φ i v W' ∧ ∀ k u, Φ k u W → Φ k u W')
    (htail : ∀ (A : Act) (W : World), J (decide (n ≤ μ) && decide (μ < m)) W → A.defers = a.defers → A.tmps.size = a.tmps.size → (∀ i d, sOutB ops n m i d = true → Φ i (slot A d) W) → (∀ t, sOldB ops n m t = true → slot A t = slot a t) →
      AtN P ops Q m A W) : AtN P ops Q n a w :=
  AtN.seg' n m μ Φ J hh (fun i o hn hi ho h => (want_at hwn hn hi ho h).elim) hd h0 (fun i hn hi o ho _ => hstep i hn hi o ho) htail
/-- .. none of which is wanted. -/
theorem AtN.segS (n m : Nat) (hh : segB ops n m = true) (hwn : (List.range m).all (fun i => decide (i < n) || match ops[i]? with | some o => !Region.wanted o (yielded ops a.tmps) | none => true) = true) (hd : sDstB ops n m a.tmps.size = true)
    (htail : ∀ (A : Act), A.defers = a.defers → A.tmps.size = a.tmps.size → (∀ t, sOldB ops n m t = true → slot A t = slot a t) → AtN P ops Q m A w) : AtN P ops Q n a w := by
  refine AtN.seg' n m m (fun _ v _ => v = undef) (fun _ W => W = w) hh (fun i o hn hi ho h => ⟨by omega, fun _ => rfl⟩) hd rfl (fun i hn hi o ho hw0 A W b hJ _ hin hk => ?_) (fun A W hJ h1 h2 h3 h4 => ?_)
  · exfalso
    simp only [List.all_eq_true, List.mem_range, Bool.or_eq_true, decide_eq_true_eq] at hwn
    have h0 := (hwn i hi).resolve_left (by omega)
    rw [ho] at h0
    simp only [hw0] at h0
    cases h0
  · subst hJ
    exact htail A h1 h2 h4
/-- .. that only reads, one value each. -/
theorem AtN.segQ (n m : Nat) (vs : Nat → Value) (hh : segB ops n m = true) (hwn : wantB ops n m a.tmps = true) (hd : sDstB ops n m a.tmps.size = true)
    (hstep : ∀ i, n ≤ i → i < m → ∀ o, ops[i]? = some o → ∀ (A : Act), (∀ j d, sInB ops n m i j d = true → A.tmps[d]?.getD undef = vs j) →
      (∀ t, sKeptB ops n m i t = true → A.tmps[t]?.getD undef = slot a t) → (execOp A.eval o).run P w = .ok (.value (vs i)) w)
    (htail : ∀ (A : Act), A.defers = a.defers → A.tmps.size = a.tmps.size → (∀ i d, sOutB ops n m i d = true → slot A d = vs i) → (∀ t, sOldB ops n m t = true → slot A t = slot a t) → AtN P ops Q m A w) : AtN P ops Q n a w := by
  refine AtN.seg n m m (fun i v _ => v = vs i) (fun _ W => W = w) hh hwn hd rfl (fun i hn hi o ho A W b hJ _ hin hk => ?_) (fun A W hJ h1 h2 h3 h4 => ?_)
  · subst hJ
    exact .inl ⟨_, _, hstep i hn hi o ho A hin hk, rfl, rfl, fun _ _ h => h⟩
  · subst hJ
    exact htail A h1 h2 h3 h4
/-- .. of one value each; number μ turns the state J. -/
theorem AtN.segV (n m μ : Nat) (vs : Nat → Value) (J : Bool → World → Prop) (hh : segB ops n m = true) (hwn : wantB ops n m a.tmps = true) (hd : sDstB ops n m a.tmps.size = true) (h0 : J false w)
    (hstep : ∀ i, n ≤ i → i < m → ∀ o, ops[i]? = some o → ∀ (A : Act) (W : World) (b : Bool), J b W → (i = μ → b = false) → (∀ j d, sInB ops n m i j d = true → A.tmps[d]?.getD undef = vs j) →
      (∀ t, sKeptB ops n m i t = true → A.tmps[t]?.getD undef = slot a t) → Gives P o A.eval W fun v W' => J (b || i == μ) W' ∧ v = vs i)
    (htail : ∀ (A : Act) (W : World), J (decide (n ≤ μ) && decide (μ < m)) W → A.defers = a.defers → A.tmps.size = a.tmps.size → (∀ i d, sOutB ops n m i d = true → slot A d = vs i) → (∀ t, sOldB ops n m t = true → slot A t = slot a t) →
      AtN P ops Q m A W) : AtN P ops Q n a w := by
  refine AtN.seg n m μ (fun i v _ => v = vs i) J hh hwn hd h0 (fun i hn hi o ho A W b hJ hμ hin hk => ?_) htail
  rcases hstep i hn hi o ho A W b hJ hμ hin hk with ⟨v, W', hr, h1, h2⟩ | ⟨W', hr, h1, h2⟩ | ⟨f, args, W', hr, hc⟩
  · exact .inl ⟨v, W', hr, h1, h2, fun _ _ h => h⟩
  · exact .inr (.inl ⟨W', hr, h1, h2, fun _ _ h => h⟩)
  · refine .inr (.inr ⟨f, args, W', hr, hc.mono ?_⟩)
    rintro e W'' ⟨v, he, h1, h2⟩
    exact ⟨v, he, h1, h2, fun _ _ h => h⟩
/-- .. that makes new memory alone. -/
theorem AtN.segN (n m : Nat) (Φ : Nat → Value → World → Prop) (hh : segB ops n m = true) (hwn : wantB ops n m a.tmps = true) (hd : sDstB ops n m a.tmps.size = true) (hst : ∀ i v w1 w2, New w1 w2 → Φ i v w1 → Φ i v w2)
    (hstep : ∀ i, n ≤ i → i < m → ∀ o, ops[i]? = some o → ∀ (A : Act) (W : World), New w W → (∀ j d, sInB ops n m i j d = true → Φ j (A.tmps[d]?.getD undef) W) →
      (∀ t, sKeptB ops n m i t = true → A.tmps[t]?.getD undef = slot a t) → Gives P o A.eval W fun v W' => New W W' ∧ Φ i v W')
    (htail : ∀ (A : Act) (W : World), New w W → A.defers = a.defers → A.tmps.size = a.tmps.size → (∀ i d, sOutB ops n m i d = true → Φ i (slot A d) W) → (∀ t, sOldB ops n m t = true → slot A t = slot a t) → AtN P ops Q m A W) : AtN P ops Q n a w := by
  refine AtN.seg n m m Φ (fun _ W => New w W) hh hwn hd (Chg.refl _ _) (fun i hn hi o ho A W b hJ _ hin hk => ?_) (fun A W hJ h1 h2 h3 h4 => htail A W hJ h1 h2 h3 h4)
  have hg := hstep i hn hi o ho A W hJ hin hk
  rcases hg with ⟨v, W', hr, h1, h2⟩ | ⟨W', hr, h1, h2⟩ | ⟨f, args, W', hr, hc⟩
  · exact .inl ⟨v, W', hr, hJ.trans h1 (fun _ _ x => x), h2, fun k u h => hst k u _ _ h1 h⟩
  · exact .inr (.inl ⟨W', hr, hJ.trans h1 (fun _ _ x => x), h2, fun k u h => hst k u _ _ h1 h⟩)
  · refine .inr (.inr ⟨f, args, W', hr, hc.mono ?_⟩)
    rintro e W'' ⟨v, he, h1, h2⟩
    exact ⟨v, he, hJ.trans h1 (fun _ _ x => x), h2, fun k u h => hst k u _ _ h1 h⟩
end

section
variable {P : Program} {o : Oper} {A : Act} {W : World}
theorem exec_move (t : Nat) (v : Value) (ho : o.op = .move (.tmp t)) (h : A.tmps[t]?.getD undef = v) : (execOp A.eval o).run P W = .ok (.value v) W := by
  subst h
  unfold execOp
  rw [ho]
  simp [Act.eval]
theorem Gives.quiet {ρ : Operand → Value} {J : Bool → World → Prop} {b c : Bool} {u : Value} (hr : (execOp ρ o).run P W = .ok (.value u) W) (hJ : J b W) (hc : c = false := by rfl) : Gives P o ρ W fun v W' => J (b || c) W' ∧ v = u := by
  subst hc
  exact .inl ⟨u, W, hr, by rw [Bool.or_false]; exact hJ, rfl⟩
theorem Gives.enter {ρ : Operand → Value} {R : Value → World → Prop} {f : FuncId} {args : Array Value} {v : Value} (hr : (execOp ρ o).run P W = .ok (.enter f args) W) (h : Calls P f args W fun e W'' => e = .returned v ∧ R v W'') : Gives P o ρ W R :=
  .call hr (h.mono fun _ _ h => ⟨v, h⟩)
theorem exec_load {k : Nat} (t : Nat) (e : TypeId) (ho : o.op = .load e (.tmp t)) (hS : StT P e k) (ad : Addr) (cs : List Value) (hx : A.tmps[t]?.getD undef = .pointer (some ad)) (hl : cs.length = k) (hc : At W ad cs) : (execOp A.eval o).run P W = .ok (.value (.agg cs.toArray)) W := by
  have hrun := run_loadK (P := P) hS ad cs hl hc
  have hx' : A.eval (.tmp t) = .pointer (some ad) := by simpa [Act.eval] using hx
  unfold execOp
  simp only [ho, hx', Instr.loadAt, Instr.sureAddr, Sem.run_bind, Sem.run_pure, Result.andThen_ok, hrun]
end
end Go.Proofs.Ytffmalagochakaa

set_option linter.unusedVariables false
set_option linter.unusedSimpArgs false
namespace Go.Proofs.Ytffmalagochakaa
open Go.RowKit

def putsL : List (Nat × Value) → Act → Act
  | [], a => a
  | p :: l, a => putsL l (a.put (some p.1) p.2)
theorem putsL_size : ∀ (l : List (Nat × Value)) (a : Act), (putsL l a).tmps.size = a.tmps.size
  | [], _ => rfl
  | p :: l, a => by rw [putsL, putsL_size l, put_size]
theorem putsL_defers : ∀ (l : List (Nat × Value)) (a : Act), (putsL l a).defers = a.defers
  | [], _ => rfl
  | p :: l, a => by rw [putsL, putsL_defers l, put_defers']
theorem putsL_not : ∀ (l : List (Nat × Value)) (a : Act) (t : Nat), t ∉ l.map (·.1) → slot (putsL l a) t = slot a t
  | [], _, _, _ => rfl
  | p :: l, a, t, h => by
    simp only [List.map_cons, List.mem_cons, not_or] at h
    rw [putsL, putsL_not l _ t h.2, slot_put_ne (fun e => h.1 (Option.some.inj e).symm)]
theorem putsL_in : ∀ (l : List (Nat × Value)) (a : Act) (d : Nat) (v : Value), (l.map (·.1)).Nodup → (d, v) ∈ l → d < a.tmps.size → slot (putsL l a) d = v
  | [], _, _, _, _, h, _ => by cases h
  | p :: l, a, d, v, hn, h, hd => by
    simp only [List.map_cons, List.nodup_cons] at hn
    rcases List.mem_cons.1 h with h | h
    · subst h
      rw [putsL, putsL_not l _ d hn.1, slot_put_same hd]
    · rw [putsL]
      exact putsL_in l _ d v hn.2 h (by rw [put_size]; exact hd)
theorem act_ext {A B : Act} (h1 : A.defers = B.defers) (h2 : A.tmps.size = B.tmps.size) (h : ∀ t, slot A t = slot B t) : A = B := by
  rw [act_eta A _ _ rfl h1, act_eta B B.tmps.size _ rfl rfl, h2]
  congr 2
  exact List.map_congr_left fun t _ => h t

def dsB (ops : Array Oper) (n m : Nat) (ds : List Nat) : Bool := decide (ds.length = m - n) && decide ds.Nodup && (List.range (m - n)).all fun j => dstOf ops (n + j) == ds[j]?
theorem dsB_at {ops : Array Oper} {n m : Nat} {ds : List Nat} (h : dsB ops n m ds = true) {i : Nat} (hn : n ≤ i) (hi : i < m) : ∃ d, dstOf ops i = some d ∧ ds[i - n]? = some d := by
  simp only [dsB, Bool.and_eq_true, decide_eq_true_eq, List.all_eq_true, List.mem_range, beq_iff_eq] at h
  have h1 := h.2 (i - n) (by omega)
  rw [show n + (i - n) = i by omega] at h1
  have h2 : ds[i - n]? = some (ds[i - n]'(by omega)) := List.getElem?_eq_getElem _
  exact ⟨_, h1.trans h2, h2⟩

section
variable {P : Program} {ops : Array Oper} {Q : Exit → Act → World → Prop} {a : Act} {w : World}

theorem puts_eq {n m : Nat} {ds : List Nat} (hds : dsB ops n m ds = true) (hd : sDstB ops n m a.tmps.size = true) {A : Act} {l : List (Nat × Value)} (hl : l.map (·.1) = ds) (h1 : A.defers = a.defers) (h2 : A.tmps.size = a.tmps.size)
    (h3 : ∀ i d, sOutB ops n m i d = true → ∀ v, l[i - n]? = some (d, v) → slot A d = v) (h4 : ∀ t, sOldB ops n m t = true → slot A t = slot a t) : A = putsL l a := by
  have hds' := hds
  simp only [dsB, Bool.and_eq_true, decide_eq_true_eq, List.all_eq_true, List.mem_range, beq_iff_eq] at hds'
  obtain ⟨⟨hlen, hnd⟩, _⟩ := hds'
  refine act_ext (by rw [putsL_defers, h1]) (by rw [putsL_size, h2]) fun t => ?_
  by_cases ht : t ∈ ds
  · obtain ⟨j, hj, he⟩ := List.getElem_of_mem ht
    have hll : l.length = m - n := by rw [← hlen, ← hl, List.length_map]
    have hjl : l[j]? = some (l[j]'(by omega)) := List.getElem?_eq_getElem _
    have hfst : (l[j]'(by omega)).1 = t := by
      have h7 : (l.map (·.1))[j]? = some t := by rw [hl, List.getElem?_eq_getElem hj, he]
      rw [List.getElem?_map, hjl] at h7
      exact Option.some.inj h7
    have hpair : l[j]'(by omega) = (t, (l[j]'(by omega)).2) := by rw [← hfst]
    obtain ⟨d, hd1, hd2⟩ := dsB_at hds (i := n + j) (by omega) (by omega)
    rw [show n + j - n = j by omega, List.getElem?_eq_getElem hj, he] at hd2
    obtain rfl := Option.some.inj hd2
    have hout := h3 (n + j) t (by simp [sOutB, hd1]; omega) (l[j]'(by omega)).2 (by rw [show n + j - n = j by omega, hjl, ← hpair])
    rw [hout]
    symm
    have hsz : t < a.tmps.size := by
      simp only [sDstB, List.all_eq_true, List.mem_range, Bool.or_eq_true, decide_eq_true_eq] at hd
      have := (hd (n + j) (by omega)).resolve_left (by omega)
      rw [hd1] at this
      simpa using this
    refine putsL_in l a t _ (by rw [hl]; exact hnd) ?_ hsz
    rw [← hpair]
    exact List.getElem_mem _
  · rw [putsL_not l a t (by rw [hl]; exact ht)]
    refine h4 t ?_
    simp only [sOldB, List.all_eq_true, List.mem_range, Bool.or_eq_true, decide_eq_true_eq, bne_iff_ne]
    intro j hj
    by_cases hjn : j < n
    · exact .inl hjn
    · refine .inr fun he => ht ?_
      obtain ⟨d, hd1, hd2⟩ := dsB_at hds (i := j) (by omega) hj
      rw [he] at hd1
      obtain rfl := Option.some.inj hd1
      exact List.mem_of_getElem? hd2

theorem AtN.segV2 (n m μ : Nat) (vs : Nat → Value) (l : List (Nat × Value)) (J : Bool → World → Prop) (hh : segB ops n m = true) (hwn : wantB ops n m a.tmps = true) (hd : sDstB ops n m a.tmps.size = true) (hds : dsB ops n m (l.map (·.1)) = true) (hl : l.map (·.2) = (List.range (m - n)).map fun j => vs (n + j)) (h0 : J false w)
    (hstep : ∀ i, n ≤ i → i < m → ∀ o, ops[i]? = some o → ∀ (A : Act) (W : World) (b : Bool), J b W → (i = μ → b = false) → (∀ j d, sInB ops n m i j d = true → A.tmps[d]?.getD undef = vs j) →
      (∀ t, sKeptB ops n m i t = true → A.tmps[t]?.getD undef = slot a t) → Gives P o A.eval W fun v W' => J (b || i == μ) W' ∧ v = vs i)
    (htail : ∀ (W : World), J (decide (n ≤ μ) && decide (μ < m)) W → AtN P ops Q m (putsL l a) W) : AtN P ops Q n a w := by
  refine AtN.segV n m μ vs J hh hwn hd h0 hstep (fun A W hJ h1 h2 h3 h4 => ?_)
  rw [puts_eq hds hd rfl h1 h2 (fun i d hid v hv => ?_) h4]
  · exact htail W hJ
  · rw [h3 i d hid]
    simp only [sOutB, Bool.and_eq_true, decide_eq_true_eq, beq_iff_eq] at hid
    have h5 : (l.map (·.2))[i - n]? = some v := by rw [List.getElem?_map, hv]; rfl
    rw [hl, List.getElem?_map, List.getElem?_range (by omega)] at h5
    have h6 : vs (n + (i - n)) = v := Option.some.inj h5
    rw [← h6, show n + (i - n) = i by omega]

theorem AtN.segQ2 (n m : Nat) (vs : Nat → Value) (l : List (Nat × Value)) (hh : segB ops n m = true) (hwn : wantB ops n m a.tmps = true) (hd : sDstB ops n m a.tmps.size = true) (hds : dsB ops n m (l.map (·.1)) = true) (hl : l.map (·.2) = (List.range (m - n)).map fun j => vs (n + j))
    (hstep : ∀ i, n ≤ i → i < m → ∀ o, ops[i]? = some o → ∀ (A : Act), (∀ j d, sInB ops n m i j d = true → A.tmps[d]?.getD undef = vs j) →
      (∀ t, sKeptB ops n m i t = true → A.tmps[t]?.getD undef = slot a t) → (execOp A.eval o).run P w = .ok (.value (vs i)) w)
    (htail : AtN P ops Q m (putsL l a) w) : AtN P ops Q n a w := by
  refine AtN.segV2 n m m vs l (fun _ W => W = w) hh hwn hd hds hl rfl (fun i hn hi o ho A W b hJ _ hin hk => ?_) (fun W hJ => ?_)
  · subst hJ
    exact .inl ⟨_, _, hstep i hn hi o ho A hin hk, rfl, rfl⟩
  · subst hJ
    exact htail

theorem AtN.segS2 (n m : Nat) (l : List (Nat × Value)) (hh : segB ops n m = true) (hwn : (List.range m).all (fun i => decide (i < n) || match ops[i]? with | some o => !Region.wanted o (yielded ops a.tmps) | none => true) = true) (hd : sDstB ops n m a.tmps.size = true) (hds : dsB ops n m (l.map (·.1)) = true) (hl : l.map (·.2) = (List.range (m - n)).map fun _ => undef)
    (htail : AtN P ops Q m (putsL l a) w) : AtN P ops Q n a w := by
  refine AtN.seg' n m m (fun _ v _ => v = undef) (fun _ W => W = w) hh (fun i o hn hi ho h => ⟨by omega, fun _ => rfl⟩) hd rfl (fun i hn hi o ho hw0 A W b hJ _ hin hk => ?_) (fun A W hJ h1 h2 h3 h4 => ?_)
  · exfalso
    simp only [List.all_eq_true, List.mem_range, Bool.or_eq_true, decide_eq_true_eq] at hwn
    have h0 := (hwn i hi).resolve_left (by omega)
    rw [ho] at h0
    simp only [hw0] at h0
    cases h0
  · subst hJ
    rw [puts_eq hds hd rfl h1 h2 (fun i d hid v hv => ?_) h4]
    · exact htail
    · rw [h3 i d hid]
      simp only [sOutB, Bool.and_eq_true, decide_eq_true_eq, beq_iff_eq] at hid
      have h5 : (l.map (·.2))[i - n]? = some v := by rw [List.getElem?_map, hv]; rfl
      rw [hl, List.getElem?_map, List.getElem?_range (by omega)] at h5
      exact Option.some.inj h5

theorem AtN.segN2 (n m : Nat) (ds : List Nat) (Φ : Nat → Value → World → Prop) (hh : segB ops n m = true) (hwn : wantB ops n m a.tmps = true) (hd : sDstB ops n m a.tmps.size = true) (hds : dsB ops n m ds = true) (hst : ∀ i v w1 w2, New w1 w2 → Φ i v w1 → Φ i v w2)
    (hstep : ∀ i, n ≤ i → i < m → ∀ o, ops[i]? = some o → ∀ (A : Act) (W : World), New w W → (∀ j d, sInB ops n m i j d = true → Φ j (A.tmps[d]?.getD undef) W) →
      (∀ t, sKeptB ops n m i t = true → A.tmps[t]?.getD undef = slot a t) → Gives P o A.eval W fun v W' => New W W' ∧ Φ i v W')
    (htail : ∀ (l : List Value) (W : World), New w W → l.length = m - n → (∀ j, j < m - n → Φ (n + j) (l.getD j undef) W) → AtN P ops Q m (putsL (ds.zip l) a) W) : AtN P ops Q n a w := by
  refine AtN.segN n m Φ hh hwn hd hst hstep (fun A W hN h1 h2 h3 h4 => ?_)
  have hds' := hds
  simp only [dsB, Bool.and_eq_true, decide_eq_true_eq] at hds'
  obtain ⟨⟨hlen, hnd⟩, _⟩ := hds'
  have hz : (ds.zip (ds.map (slot A))).map (·.1) = ds := List.map_fst_zip (by simp)
  rw [puts_eq (l := ds.zip (ds.map (slot A))) hds hd hz h1 h2 (fun i d hid v hv => ?_) h4]
  · refine htail _ W hN (by simpa using hlen) (fun j hj => ?_)
    obtain ⟨d, hd1, hd2⟩ := dsB_at hds (i := n + j) (by omega) (by omega)
    rw [show n + j - n = j by omega] at hd2
    have := h3 (n + j) d (by simp [sOutB, hd1]; omega)
    rw [List.getD_eq_getElem?_getD, List.getElem?_map, hd2]
    exact this
  · rw [List.getElem?_zip_eq_some] at hv
    obtain ⟨e1, e2⟩ := hv
    rw [List.getElem?_map, e1] at e2
    exact Option.some.inj e2
end
theorem wpq_loadg {P : Program} {ops : Array Oper} {Q : Act → Prop} {o : Oper} {rest : List Oper} {a : Act} {w : World} {k : Nat} (hw : Region.wanted o (yielded ops a.tmps) = true) (x : Operand) (e : TypeId) (ho : o.op = .load e x) (hS : StT P e k) (ad : Addr) (cs : List Value) (hx : a.eval x = .pointer (some ad)) (hl : cs.length = k) (hc : At w ad cs)
    (h : wpQuiet P ops (fun w' => ∃ n, w' = w.drewN n) Q rest (a.put o.dst (.agg cs.toArray))) : wpQuiet P ops (fun w' => ∃ n, w' = w.drewN n) Q (o :: rest) a := by
  unfold wpQuiet
  rw [if_pos hw]
  refine ⟨_, ?_, h⟩
  rintro W ⟨n, rfl⟩
  have hrun := run_loadK (P := P) hS ad cs hl (hc.drewN' n)
  unfold Oper.quietAt execOp
  simp only [ho, hx, Instr.loadAt, Instr.sureAddr, Sem.run_bind, Sem.run_pure, Result.andThen_ok, hrun]
  exact ⟨rfl, rfl⟩
theorem wpq_valg {P : Program} {ops : Array Oper} {Q : Act → Prop} {o : Oper} {rest : List Oper} {a : Act} {w : World} (hw : Region.wanted o (yielded ops a.tmps) = true) (v : Value) (hr : ∀ n, (execOp a.eval o).run P (w.drewN n) = .ok (.value v) (w.drewN n))
    (h : wpQuiet P ops (fun w' => ∃ n, w' = w.drewN n) Q rest (a.put o.dst v)) : wpQuiet P ops (fun w' => ∃ n, w' = w.drewN n) Q (o :: rest) a := by
  unfold wpQuiet
  rw [if_pos hw]
  refine ⟨v, ?_, h⟩
  rintro W ⟨n, rfl⟩
  unfold Oper.quietAt
  rw [hr]
  exact ⟨rfl, rfl⟩
theorem exec_append {P : Program} {o : Oper} {ρ : Operand → Value} {w w' : World} {v x y : Value} (s u : Operand) (t1 t2 : TypeId) (ho : o.op = .call { callee := .builtin .append, args := #[s, u], argTypes := #[t1, t2] }) (hs : ρ s = x) (hu : ρ u = y)
    (hrun : (Builtin.append_ #[t1, t2] o.type #[x, y]).run P w = .ok v w') : (execOp ρ o).run P w = .ok (.value v) w' := by
  unfold execOp
  simp only [ho, resolve, invoke, builtin, Sem.run_bind, Sem.run_pure, Result.andThen_ok, List.map_toArray, List.map_cons, List.map_nil, hs, hu, hrun]
end Go.Proofs.Ytffmalagochakaa

set_option linter.unusedVariables false
set_option linter.unusedSimpArgs false
namespace Go.Proofs.Ytffmalagochakaa
open Go.RowKit

section
variable {P : Program} {ops : Array Oper} {Q : Exit → Act → World → Prop} {a : Act} {w : World}
structure InvX (P : Program) (ops : Array Oper) (n m μ : Nat) (ex : Nat → Nat) (Φ : Nat → Value → World → Prop) (J : Bool → World → Prop) (a0 : Act) (listed : Array Bool) (a : Act) (w : World) : Prop where
  size : listed.size = ops.size
  below : ∀ t, t < n → listed.getD t false = true
  tail : ∀ t, m ≤ t → listed.getD t false = false
  closed : ∀ j oj, ops[j]? = some oj → listed.getD j false = true → ∀ e ∈ oj.after, Region.binds .any e = true → listed.getD e.on false = true
  st : J (decide (n ≤ μ) && listed.getD μ false) w
  defers : a.defers = a0.defers
  tsize : a.tmps.size = a0.tmps.size
  told : ∀ i d, n ≤ i → i < m → listed.getD i false = true → dstOf ops i = some d → (m ≤ ex i ∨ listed.getD (ex i) false = false) → Φ i (slot a d) w
  kept : ∀ t, (∀ i, n ≤ i → i < m → listed.getD i false = true → dstOf ops i ≠ some t) → slot a t = slot a0 t

theorem seg_runX {n m μ : Nat} {ex : Nat → Nat} {Φ : Nat → Value → World → Prop} {J : Bool → World → Prop} {a0 : Act} (hh : segB ops n m = true) (hsk : ∀ i o, n ≤ i → i < m → ops[i]? = some o → Region.wanted o (yielded ops a0.tmps) = false → i ≠ μ ∧ ∀ W, Φ i undef W) (hd : ∀ i d, n ≤ i → i < m → dstOf ops i = some d → d < a0.tmps.size)
    (hstep : ∀ i o, n ≤ i → i < m → ops[i]? = some o → Region.wanted o (yielded ops a0.tmps) = true → ∀ (a : Act) (W : World) (b : Bool), J b W → (i = μ ∨ ahead .any ops ops.size i μ = true → b = false) → (∀ j d, n ≤ j → j < m → ahead .any ops ops.size j i = true → dstOf ops j = some d → (m ≤ ex j ∨ ex j = i ∨ ahead .any ops ops.size i (ex j) = true) → Φ j (slot a d) W) →
      (∀ t, t ∈ looks ops i → (∀ j, n ≤ j → j < m → dstOf ops j = some t → ahead .any ops ops.size j i = false) → slot a t = slot a0 t) → Gives P o a.eval W fun v W' => J (b || i == μ) W' ∧ Φ i v W' ∧ ∀ k u, k ≠ i → ex k ≠ i → ahead .any ops ops.size i k = false → (m ≤ ex k ∨ ahead .any ops ops.size (ex k) i = false) → Φ k u W → Φ k u W')
    (htail : ∀ (a : Act) (W : World), J (decide (n ≤ μ) && decide (μ < m)) W → a.defers = a0.defers → a.tmps.size = a0.tmps.size → (∀ i d, n ≤ i → i < m → dstOf ops i = some d → m ≤ ex i → Φ i (slot a d) W) → (∀ t, (∀ i, n ≤ i → i < m → dstOf ops i ≠ some t) → slot a t = slot a0 t) →
      AtN P ops Q m a W) :
    ∀ (c fuel : Nat) (listed : Array Bool) (a : Act) (w : World), InvX P ops n m μ ex Φ J a0 listed a w → ((List.range m).filter fun i => !listed.getD i false).length = c → ops.size + c ≤ m + fuel → wpAny P .any ops Q fuel listed a w := by
  simp only [segB, Bool.and_eq_true, decide_eq_true_eq] at hh
  obtain ⟨⟨⟨⟨⟨hnm, hms⟩, hB⟩, hT⟩, hD⟩, hL⟩ := hh
  simp only [List.all_eq_true, List.mem_range, Bool.or_eq_true, decide_eq_true_eq, Bool.and_eq_true] at hD hL
  intro c
  induction c with
  | zero =>
    intro fuel listed a w inv hm hf
    have hall : ∀ i, i < m → listed.getD i false = true := by
      intro i hi
      have h0 := List.eq_nil_of_length_eq_zero hm
      have := (List.filter_eq_nil_iff.1 h0) i (List.mem_range.2 hi)
      simpa using this
    have hst := inv.st
    have hlm : listed.getD μ false = decide (μ < m) := by
      rcases Nat.lt_or_ge μ m with h | h
      · rw [hall μ h]; simp [h]
      · rw [inv.tail μ h]; simp; omega
    rw [hlm] at hst
    refine htail a w hst inv.defers inv.tsize (fun i d hn hi hd' he => inv.told i d hn hi (hall i hi) hd' (.inl he)) (fun t ht => inv.kept t fun i hn hi _ => ht i hn hi) fuel listed inv.size (fun i => ?_) (by omega)
    rcases Nat.lt_or_ge i m with h | h
    · rw [hall i h]; simp [h]
    · rw [inv.tail i h]; simp; omega
  | succ c ih =>
    intro fuel listed a w inv hm hf
    have hmn : c + 1 ≤ m := by
      rw [← hm]
      exact Nat.le_trans (List.length_filter_le _ _) (by simp)
    obtain ⟨fuel, rfl⟩ : ∃ f, fuel = f + 1 := ⟨fuel - 1, by omega⟩
    have hex : ∃ i, i < m ∧ listed.getD i false = false := by
      cases hl : (List.range m).filter fun i => !listed.getD i false with
      | nil => rw [hl] at hm; cases hm
      | cons x l =>
        have hx : x ∈ (List.range m).filter fun i => !listed.getD i false := by rw [hl]; simp
        obtain ⟨h1, h2⟩ := List.mem_filter.1 hx
        exact ⟨x, List.mem_range.1 h1, by simpa using h2⟩
    refine ⟨fun hr => ?_, fun i hi => ?_⟩
    · exfalso
      obtain ⟨i, hin, hil⟩ := hex
      have key : ∀ k, k < m → listed.getD k false = true := by
        intro k
        induction k using Nat.strongRecOn with
        | _ k ihk =>
          intro hk
          cases hkl : listed.getD k false with
          | true => rfl
          | false =>
            have hks : k < ops.size := by omega
            have hmem : k ∈ Region.ready .any ops listed := mem_ready.2 ⟨by
              have : k < listed.size := by rw [inv.size]; exact hks
              simp [this] at hkl ⊢
              exact hkl, ops[k], Array.getElem?_eq_getElem hks, fun e he hb => by
              have := back_at hB (Array.getElem?_eq_getElem hks) he hb
              exact ihk e.on this (by omega)⟩
            rw [hr] at hmem
            cases hmem
      rw [key i hin] at hil
      cases hil
    · obtain ⟨hun, o, ho, hdeps⟩ := mem_ready.1 hi
      have hiz : i < ops.size := (Array.getElem?_eq_some_iff.1 ho).1
      have hunl : listed.getD i false = false := by
        have : i < listed.size := by rw [inv.size]; exact hiz
        simp [this] at hun ⊢
        exact hun
      have hni : n ≤ i := by
        rcases Nat.lt_or_ge i n with h | h
        · rw [inv.below i h] at hunl; cases hunl
        · exact h
      have hin : i < m := by
        rcases Nat.lt_or_ge i m with h | h
        · exact h
        · exfalso
          obtain ⟨k, hkn, hkl⟩ := hex
          have hkn' : n ≤ k := by
            rcases Nat.lt_or_ge k n with h | h
            · rw [inv.below k h] at hkl; cases hkl
            · exact h
          have ht := wall_at hT hiz h hkn' hkn
          have := ahead_listed inv.closed _ k i ht (fun oj hoj => by rw [ho] at hoj; cases hoj; exact hdeps)
          rw [this] at hkl
          cases hkl
      have hL' := (hL i hin).resolve_left (by omega)
      rw [ho] at hL'
      simp only [Bool.and_eq_true] at hL'
      have hgive := fun hw0 => hstep i o hni hin ho hw0 a w _ inv.st (fun e => by
          rcases e with e | e
          · subst e; simp [hunl]
          · cases hxl : listed.getD μ false with
            | false => simp
            | true =>
              have := ahead_listed inv.closed _ i μ e (fun oj hoj => inv.closed μ oj hoj hxl)
              rw [this] at hunl
              cases hunl) (fun j d hnj hj haj hdj hex => inv.told j d hnj hj (ahead_listed inv.closed _ j i haj (fun oj hoj => by rw [ho] at hoj; cases hoj; exact hdeps)) hdj (by
          rcases hex with h9 | h9 | h9
          · exact .inl h9
          · exact .inr (by rw [h9]; exact hunl)
          · refine .inr ?_
            cases hxl : listed.getD (ex j) false with
            | false => rfl
            | true =>
              have := ahead_listed inv.closed _ i (ex j) h9 (fun oj hoj => inv.closed (ex j) oj hoj hxl)
              rw [this] at hunl
              cases hunl))
        (fun t ht hno => inv.kept t fun j hnj hj hjl hdj => by
          have h3 := (hL'.2 j hj).resolve_left (by omega)
          rw [hdj] at h3
          simp only [Bool.or_eq_true, Bool.not_eq_true', List.contains_eq_mem, decide_eq_false_iff_not] at h3
          rcases h3 with (h3 | h3) | h3
          · exact h3 ht
          · rw [hno j hnj hj hdj] at h3; cases h3
          · have := ahead_listed inv.closed _ i j h3 (fun oj hoj => inv.closed j oj hoj hjl)
            rw [this] at hunl
            cases hunl)
      have hwant : Region.wanted o (yielded ops a.tmps) = Region.wanted o (yielded ops a0.tmps) := by
        have hg := hL'.1.1
        cases hgo : o.guard with
        | none => simp only [Region.wanted, hgo]
        | some gb =>
          obtain ⟨g, b⟩ := gb
          rw [hgo] at hg
          simp only [Bool.and_eq_true, decide_eq_true_eq, List.all_eq_true, List.mem_range, Bool.or_eq_true, bne_iff_ne] at hg
          have hyy := yielded_same (ops := ops) (g := g) inv.tsize (fun d hdg => inv.kept d fun j hnj hj _ hdj => by
            rcases hg.2 j hj with (h5 | h5) | h5
            · omega
            · rw [hdj] at h5; cases h5
            · exact h5 (hdj.trans hdg.symm))
          simp only [Region.wanted, hgo, hyy]
      have hili : i < listed.size := by rw [inv.size]; exact hiz
      unfold wpOp
      rw [ho]
      simp only []
      have hdst : dstOf ops i = o.dst := by simp [dstOf, ho]
      suffices hgo : ∀ v W', (J (decide (n ≤ μ) && listed.getD μ false || i == μ) W' ∧ Φ i v W' ∧ ∀ k u, k ≠ i → ex k ≠ i → ahead .any ops ops.size i k = false → (m ≤ ex k ∨ ahead .any ops ops.size (ex k) i = false) → Φ k u w → Φ k u W') → wpAny P .any ops Q fuel (listed.setIfInBounds i true) (a.put o.dst v) W' by
        rw [hwant]
        split
        · rename_i hw1
          exact .inl ((hgive hw1).wp fun v W' hR => hgo v W' hR)
        · rename_i hw1
          have h8 := hsk i o hni hin ho (by simpa using hw1)
          refine hgo undef w ⟨?_, h8.2 w, fun _ _ _ _ _ _ h => h⟩
          rw [show (i == μ) = false by simpa using h8.1, Bool.or_false]
          exact inv.st
      intro v W' hR
      refine ih fuel _ _ _ ⟨?_, ?_, ?_, ?_, ?_, ?_, ?_, ?_, ?_⟩ ?_ (by omega)
      · simp [inv.size]
      · intro t ht
        rw [getD_set hili, if_neg (by omega)]
        exact inv.below t ht
      · intro t ht
        rw [getD_set hili, if_neg (by omega)]
        exact inv.tail t ht
      · intro j oj hj hjl e he hb
        rw [getD_set hili] at hjl ⊢
        by_cases hij : i = j
        · subst hij
          rw [ho] at hj
          cases hj
          have := hdeps e he hb
          simp [this]
        · rw [if_neg hij] at hjl
          have := inv.closed j oj hj hjl e he hb
          simp [this]
      · have h6 := hR.1
        rw [getD_set hili]
        by_cases hiμ : i = μ
        · subst hiμ
          simpa [hni, hunl] using h6
        · rw [if_neg hiμ]
          rw [show (i == μ) = false by simpa using hiμ, Bool.or_false] at h6
          exact h6
      · rw [put_defers', inv.defers]
      · rw [put_size, inv.tsize]
      · intro j d hnj hj hjl hdj hexp
        rw [getD_set hili] at hjl hexp
        by_cases hij : i = j
        · subst hij
          have hdd : o.dst = some d := by rw [← hdst]; exact hdj
          rw [hdd, slot_put_same (by rw [inv.tsize]; exact hd i d hni hin hdj)]
          exact hR.2.1
        · rw [if_neg hij] at hjl
          have h4 := (((hD i hin).resolve_left (by omega)) j hj)
          simp only [Bool.or_eq_true, beq_iff_eq, bne_iff_ne, decide_eq_true_eq] at h4
          rw [slot_put_ne (by
            intro e
            rw [← hdst] at e
            rcases h4 with ((h4 | h4) | h4) | h4
            · omega
            · exact hij h4
            · rw [e] at h4; cases h4
            · exact h4 (e.trans hdj.symm))]
          have hxi : ex j ≠ i := by
            rintro e
            rcases hexp with h9 | h9
            · omega
            · rw [if_pos e.symm] at h9; cases h9
          have hah : ahead .any ops ops.size i j = false := by
            cases haj : ahead .any ops ops.size i j with
            | false => rfl
            | true =>
              have := ahead_listed inv.closed _ i j haj (fun oj hoj => inv.closed j oj hoj hjl)
              rw [this] at hunl
              cases hunl
          have hbh : m ≤ ex j ∨ ahead .any ops ops.size (ex j) i = false := by
            rcases hexp with h9 | h9
            · exact .inl h9
            · rw [if_neg (Ne.symm hxi)] at h9
              cases haj : ahead .any ops ops.size (ex j) i with
              | false => exact .inr rfl
              | true =>
                have := ahead_listed inv.closed _ (ex j) i haj (fun oj hoj => by rw [ho] at hoj; cases hoj; exact hdeps)
                rw [this] at h9
                cases h9
          refine hR.2.2 _ _ (Ne.symm hij) hxi hah hbh (inv.told j d hnj hj hjl hdj (hexp.imp id fun h9 => ?_))
          rw [if_neg (Ne.symm hxi)] at h9
          exact h9
      · intro t ht
        have hne : o.dst ≠ some t := by
          rw [← hdst]
          exact ht i hni hin (by rw [getD_set hili, if_pos rfl])
        rw [slot_put_ne hne]
        exact inv.kept t fun j hnj hj hjl => ht j hnj hj (by
          rw [getD_set hili]
          by_cases hij : i = j
          · rw [if_pos hij]
          · rw [if_neg hij]; exact hjl)
      · have hff := filter_flip (List.range m) (fun j => !listed.getD j false) (fun j => !(listed.setIfInBounds i true).getD j false) i List.nodup_range (List.mem_range.2 hin) (by simp only [hunl]; rfl) (by simp only [getD_set hili]; simp) (fun j hj => by simp only [getD_set hili, if_neg (Ne.symm hj)])
        omega

def sInX (ops : Array Oper) (n m : Nat) (ex : Nat → Nat) (i j d : Nat) : Bool := sInB ops n m i j d && (decide (m ≤ ex j) || ex j == i || ahead .any ops ops.size i (ex j))
/-- A stretch in whatever order: each gives what is told of it; number μ alone turns the state J. -/
theorem AtN.segX' (n m μ : Nat) (ex : Nat → Nat) (Φ : Nat → Value → World → Prop) (J : Bool → World → Prop) (hh : segB ops n m = true) (hsk : ∀ i o, n ≤ i → i < m → ops[i]? = some o → Region.wanted o (yielded ops a.tmps) = false → i ≠ μ ∧ ∀ W, Φ i undef W) (hd : sDstB ops n m a.tmps.size = true) (h0 : J false w)
    (hstep : ∀ i, n ≤ i → i < m → ∀ o, ops[i]? = some o → Region.wanted o (yielded ops a.tmps) = true → ∀ (A : Act) (W : World) (b : Bool), J b W → (i = μ ∨ ahead .any ops ops.size i μ = true → b = false) → (∀ j d, sInX ops n m ex i j d = true → Φ j (A.tmps[d]?.getD undef) W) →
      (∀ t, sKeptB ops n m i t = true → A.tmps[t]?.getD undef = slot a t) → Gives P o A.eval W fun v W' => J (b || i == μ) W' ∧ Φ i v W' ∧ ∀ k u, k ≠ i → ex k ≠ i → ahead .any ops ops.size i k = false → (m ≤ ex k ∨ ahead .any ops ops.size (ex k) i = false) → Φ k u W → Φ k u W')
    (htail : ∀ (A : Act) (W : World), J (decide (n ≤ μ) && decide (μ < m)) W → A.defers = a.defers → A.tmps.size = a.tmps.size → (∀ i d, sOutB ops n m i d = true → m ≤ ex i → Φ i (slot A d) W) → (∀ t, sOldB ops n m t = true → slot A t = slot a t) →
      AtN P ops Q m A W) : AtN P ops Q n a w := by
  intro fuel listed hls hl hf
  have hh' := hh
  simp only [segB, Bool.and_eq_true, decide_eq_true_eq] at hh'
  obtain ⟨⟨⟨⟨⟨hnm, hms⟩, hB⟩, hT⟩, hD⟩, hL⟩ := hh'
  simp only [sDstB, List.all_eq_true, List.mem_range, Bool.or_eq_true, decide_eq_true_eq] at hd
  refine seg_runX (n := n) (m := m) (μ := μ) (ex := ex) (Φ := Φ) (J := J) (a0 := a) hh hsk (fun i d hn hi hdi => ?_) (fun i o hn hi ho hw0 A W b hJ hμ hin hk => hstep i hn hi o ho hw0 A W b hJ hμ (fun j d h => ?_) (fun t h => ?_)) (fun A W h1 h2 h3 h4 h5 => htail A W h1 h2 h3 (fun i d h hx => ?_) (fun t h => ?_)) (m - n) fuel listed a w ⟨hls, ?_, ?_, ?_, ?_, rfl, rfl, ?_, fun _ _ => rfl⟩ ?_ (by omega)
  · have := (hd i hi).resolve_left (by omega)
    rw [hdi] at this
    simpa using this
  · simp only [sInX, sInB, Bool.and_eq_true, Bool.or_eq_true, decide_eq_true_eq, beq_iff_eq] at h
    obtain ⟨h, hx⟩ := h
    have := hin j d h.1.1.1 h.1.1.2 h.1.2 h.2 (by rcases hx with (h7 | h7) | h7 <;> simp [h7])
    simp only [slot, Array.getD_eq_getD_getElem?] at this
    exact this
  · simp only [sKeptB, Bool.and_eq_true, List.contains_eq_mem, decide_eq_true_eq, List.all_eq_true, List.mem_range, Bool.or_eq_true, bne_iff_ne, Bool.not_eq_true'] at h
    have := hk t h.1 (fun j hnj hj hdj => by
      rcases h.2 j hj with (h7 | h7) | h7
      · omega
      · exact absurd hdj h7
      · exact h7)
    simp only [slot, Array.getD_eq_getD_getElem?] at this ⊢
    exact this
  · simp only [sOutB, Bool.and_eq_true, decide_eq_true_eq, beq_iff_eq] at h
    exact h4 i d h.1.1 h.1.2 h.2 hx
  · simp only [sOldB, List.all_eq_true, List.mem_range, Bool.or_eq_true, decide_eq_true_eq, bne_iff_ne] at h
    exact h5 t fun i hn hi => (h i hi).resolve_left (by omega)
  · intro t ht
    rw [hl]; simpa using ht
  · intro t ht
    rw [hl]; simp; omega
  · intro j oj hj hjl e he hb
    have := back_at hB hj he hb
    rw [hl] at hjl ⊢
    simp only [decide_eq_true_eq] at hjl ⊢
    omega
  · rw [hl]
    have : (decide (n ≤ μ) && decide (μ < n)) = false := by simp
    rw [this]
    exact h0
  · intro i d hn hi hil
    rw [hl] at hil
    simp at hil
    omega
  · have hcong : ((List.range m).filter fun i => !listed.getD i false) = (List.range m).filter fun i => decide (n ≤ i) := List.filter_congr fun i _ => by
      rw [hl]
      by_cases h : i < n
      · simp [h]
      · simp [h]; omega
    rw [hcong]
    clear hcong
    have : ∀ m, ((List.range m).filter fun i => decide (n ≤ i)).length = m - n := by
      intro m
      induction m with
      | zero => simp
      | succ m ih =>
        rw [List.range_succ, List.filter_append, List.length_append, ih]
        by_cases h : n ≤ m
        · simp [h]; omega
        · simp [h]; omega
    exact this m


/-- What memory has become: T alone has turned, and nothing before number μ has been. -/
def JX (w : World) (T : Nat → Prop) (b : Bool) (W : World) : Prop := Chg w W T ∧ (b = false → New w W)
/-- A stretch that writes into memory of T (at number μ) and new memory; what is told of an operation holds until its reader has been (ex). -/
theorem AtN.segX2 (n m μ : Nat) (ds : List Nat) (T : Nat → Prop) (ex : Nat → Nat) (Φ : Nat → Value → World → Prop) (hh : segB ops n m = true) (hwn : wantB ops n m a.tmps = true) (hd : sDstB ops n m a.tmps.size = true) (hds : dsB ops n m ds = true)
    (hstep : ∀ i, n ≤ i → i < m → ∀ o, ops[i]? = some o → ∀ (A : Act) (W : World) (b : Bool), JX w T b W → (i = μ → b = false) → (∀ j d, sInX ops n m ex i j d = true → Φ j (A.tmps[d]?.getD undef) W) →
      (∀ t, sKeptB ops n m i t = true → A.tmps[t]?.getD undef = slot a t) → Gives P o A.eval W fun v W' => JX w T (b || i == μ) W' ∧ Φ i v W' ∧ ∀ k u, k ≠ i → ex k ≠ i → ahead .any ops ops.size i k = false → (m ≤ ex k ∨ ahead .any ops ops.size (ex k) i = false) → Φ k u W → Φ k u W')
    (htail : ∀ (l : List Value) (W : World), JX w T (decide (n ≤ μ) && decide (μ < m)) W → l.length = m - n → (∀ j, j < m - n → m ≤ ex (n + j) → Φ (n + j) (l.getD j undef) W) → AtN P ops Q m (putsL (ds.zip l) a) W) : AtN P ops Q n a w := by
  refine AtN.segX' n m μ ex Φ (JX w T) hh (fun i o hn hi ho h => (want_at hwn hn hi ho h).elim) hd ⟨Chg.refl _ _, fun _ => Chg.refl _ _⟩ (fun i hn hi o ho _ A W b hJ hμ hin hk => hstep i hn hi o ho A W b hJ (fun h => hμ (.inl h)) hin hk) (fun A W hN h1 h2 h3 h4 => ?_)
  have hds' := hds
  simp only [dsB, Bool.and_eq_true, decide_eq_true_eq] at hds'
  obtain ⟨⟨hlen, hnd⟩, _⟩ := hds'
  have hz : (ds.zip (ds.map (slot A))).map (·.1) = ds := List.map_fst_zip (by simp)
  rw [puts_eq (l := ds.zip (ds.map (slot A))) hds hd hz h1 h2 (fun i d hid v hv => ?_) h4]
  · refine htail _ W hN (by simpa using hlen) (fun j hj hx => ?_)
    obtain ⟨d, hd1, hd2⟩ := dsB_at hds (i := n + j) (by omega) (by omega)
    rw [show n + j - n = j by omega] at hd2
    have := h3 (n + j) d (by simp [sOutB, hd1]; omega) hx
    rw [List.getD_eq_getElem?_getD, List.getElem?_map, hd2]
    exact this
  · rw [List.getElem?_zip_eq_some] at hv
    obtain ⟨e1, e2⟩ := hv
    rw [List.getElem?_map, e1] at e2
    exact Option.some.inj e2
theorem JX.new {w W W' : World} {T : Nat → Prop} {b c : Bool} (h : JX w T b W) (hN : New W W') : JX w T (b || c) W' :=
  ⟨h.1.trans hN (fun _ _ x => x.elim), fun hb => (h.2 (by cases b <;> simp_all)).trans hN (fun _ _ x => x)⟩
/-- Memory of the stretch's own has turned. -/
theorem JX.fresh {w W W' : World} {T T' : Nat → Prop} {b c : Bool} (h : JX w T b W) (hc : Chg W W' T') (hT : ∀ k, T' k → w.heap.size ≤ k) : JX w T (b || c) W' :=
  ⟨h.1.trans hc (fun k hk h => absurd (hT k h) (by omega)), fun hb => (h.2 (by cases b <;> simp_all)).trans hc (fun k hk h => absurd (hT k h) (by omega))⟩
theorem JX.turn {w W W' : World} {T T' : Nat → Prop} {b : Bool} (h : JX w T b W) (hc : Chg W W' T') (hT : ∀ k, k < w.heap.size → T' k → T k) : JX w T (b || true) W' :=
  ⟨h.1.trans hc hT, fun hb => by cases b <;> simp at hb⟩
theorem ahead_no {b : Bool} {p : Prop} (h : b = false) (h' : b = true) : p := by rw [h] at h'; cases h'
/-- One that only reads, or lays new memory. -/
theorem Gives.newX {m : Nat} {o : Oper} {ρ : Operand → Value} {w W : World} {T : Nat → Prop} {Φ : Nat → Value → World → Prop} {ex : Nat → Nat} {i : Nat} {b c : Bool} (hJ : JX w T b W) (hst : ∀ i v w1 w2, New w1 w2 → Φ i v w1 → Φ i v w2) (h : Gives P o ρ W fun v W' => New W W' ∧ Φ i v W') :
    Gives P o ρ W fun v W' => JX w T (b || c) W' ∧ Φ i v W' ∧ ∀ k u, k ≠ i → ex k ≠ i → ahead .any ops ops.size i k = false → (m ≤ ex k ∨ ahead .any ops ops.size (ex k) i = false) → Φ k u W → Φ k u W' := by
  rcases h with ⟨v, W', hr, h1, h2⟩ | ⟨W', hr, h1, h2⟩ | ⟨f, args, W', hr, hc⟩
  · exact .inl ⟨v, W', hr, hJ.new h1, h2, fun k u _ _ _ _ h => hst k u _ _ h1 h⟩
  · exact .inr (.inl ⟨W', hr, hJ.new h1, h2, fun k u _ _ _ _ h => hst k u _ _ h1 h⟩)
  · refine .inr (.inr ⟨f, args, W', hr, hc.mono ?_⟩)
    rintro e W'' ⟨v, he, h1, h2⟩
    exact ⟨v, he, hJ.new h1, h2, fun k u _ _ _ _ h => hst k u _ _ h1 h⟩
end
end Go.Proofs.Ytffmalagochakaa

set_option linter.unusedVariables false
set_option linter.unusedSimpArgs false
namespace Go.Proofs.Ytffmalagochakaa
open Go.RowKit

/-- The stretch's slots: which operation, which slot. -/
def dsB3 (ops : Array Oper) (n m : Nat) (ds : List (Nat × Nat)) : Bool := decide (ds.map (·.2)).Nodup && ds.all (fun p => decide (n ≤ p.1) && decide (p.1 < m) && dstOf ops p.1 == some p.2) &&
  (List.range m).all fun i => decide (i < n) || (match dstOf ops i with | some d => ds.contains (i, d) | none => true)

section
variable {P : Program} {ops : Array Oper} {Q : Exit → Act → World → Prop} {a : Act} {w : World}
theorem puts_eq3 {n m : Nat} {ds : List (Nat × Nat)} (hds : dsB3 ops n m ds = true) (hd : sDstB ops n m a.tmps.size = true) {A : Act} (vs : Nat → Value) (h1 : A.defers = a.defers) (h2 : A.tmps.size = a.tmps.size)
    (h3 : ∀ i d, sOutB ops n m i d = true → slot A d = vs i) (h4 : ∀ t, sOldB ops n m t = true → slot A t = slot a t) : A = putsL (ds.map fun p => (p.2, vs p.1)) a := by
  simp only [dsB3, Bool.and_eq_true, decide_eq_true_eq, List.all_eq_true, List.mem_range, Bool.or_eq_true, beq_iff_eq] at hds
  obtain ⟨⟨hnd, hin⟩, hall⟩ := hds
  have hmap : (ds.map fun p => (p.2, vs p.1)).map (·.1) = ds.map (·.2) := by rw [List.map_map]; rfl
  refine act_ext (by rw [putsL_defers, h1]) (by rw [putsL_size, h2]) fun t => ?_
  by_cases ht : t ∈ ds.map (·.2)
  · obtain ⟨p, hp, rfl⟩ := List.mem_map.1 ht
    obtain ⟨⟨hp1, hp2⟩, hp3⟩ := hin p hp
    rw [h3 p.1 p.2 (by simp [sOutB, hp1, hp2, hp3])]
    symm
    have hsz : p.2 < a.tmps.size := by
      simp only [sDstB, List.all_eq_true, List.mem_range, Bool.or_eq_true, decide_eq_true_eq] at hd
      have := (hd p.1 hp2).resolve_left (by omega)
      rw [hp3] at this
      simpa using this
    exact putsL_in _ a _ _ (by rw [hmap]; exact hnd) (List.mem_map.2 ⟨p, hp, rfl⟩) hsz
  · rw [putsL_not _ a t (by rw [hmap]; exact ht)]
    refine h4 t ?_
    simp only [sOldB, List.all_eq_true, List.mem_range, Bool.or_eq_true, decide_eq_true_eq, bne_iff_ne]
    intro j hj
    by_cases hjn : j < n
    · exact .inl hjn
    · refine .inr fun he => ht ?_
      have h5 := (hall j hj).resolve_left hjn
      rw [he] at h5
      simp only [List.contains_eq_mem, decide_eq_true_eq] at h5
      exact List.mem_map.2 ⟨_, h5, rfl⟩
theorem AtN.segV3 (n m μ : Nat) (vs : Nat → Value) (ds : List (Nat × Nat)) (l : List (Nat × Value)) (J : Bool → World → Prop) (hh : segB ops n m = true) (hwn : wantB ops n m a.tmps = true) (hd : sDstB ops n m a.tmps.size = true) (hds : dsB3 ops n m ds = true) (hl : l = ds.map fun p => (p.2, vs p.1)) (h0 : J false w)
    (hstep : ∀ i, n ≤ i → i < m → ∀ o, ops[i]? = some o → ∀ (A : Act) (W : World) (b : Bool), J b W → (i = μ ∨ ahead .any ops ops.size i μ = true → b = false) → (∀ j d, sInB ops n m i j d = true → A.tmps[d]?.getD undef = vs j) →
      (∀ t, sKeptB ops n m i t = true → A.tmps[t]?.getD undef = slot a t) → Gives P o A.eval W fun v W' => J (b || i == μ) W' ∧ v = vs i)
    (htail : ∀ (W : World), J (decide (n ≤ μ) && decide (μ < m)) W → AtN P ops Q m (putsL l a) W) : AtN P ops Q n a w := by
  refine AtN.segX' n m μ (fun _ => m) (fun i v _ => v = vs i) J hh (fun i o hn hi ho h => (want_at hwn hn hi ho h).elim) hd h0 (fun i hn hi o ho _ A W b hJ hμ hin hk => ?_) (fun A W hJ h1 h2 h3 h4 => ?_)
  · rcases hstep i hn hi o ho A W b hJ hμ (fun j d h => hin j d (by simp [sInX, h])) hk with ⟨v, W', hr, h1, h2⟩ | ⟨W', hr, h1, h2⟩ | ⟨f, args, W', hr, hc⟩
    · exact .inl ⟨v, W', hr, h1, h2, fun _ _ _ _ _ _ h => h⟩
    · exact .inr (.inl ⟨W', hr, h1, h2, fun _ _ _ _ _ _ h => h⟩)
    · refine .inr (.inr ⟨f, args, W', hr, hc.mono ?_⟩)
      rintro e W'' ⟨v, he, h1, h2⟩
      exact ⟨v, he, h1, h2, fun _ _ _ _ _ _ h => h⟩
  · rw [puts_eq3 hds hd vs h1 h2 (fun i d h => h3 i d h (Nat.le_refl _)) h4, ← hl]
    exact htail W hJ
end

/-- One world, then another. -/
def JTwo (w1 w2 : World) (d : Bool) (W : World) : Prop := (d = false → W = w1) ∧ (d = true → W = w2)
theorem exec_store {P : Program} {o : Oper} {A : Act} {W : World} {k : Nat} (x y : Operand) (e : TypeId) (ho : o.op = .store e x y) (hS : StT P e k) (g off : Nat) (t : TypeId) (cur : Array Value) (cs : List Value) (hx : A.eval x = .pointer (some ⟨g, off, none⟩)) (hy : A.eval y = .agg cs.toArray)
    (hB : Blk W g t cur) (hl : cs.length = k) (hfit : off + k ≤ cur.size) (h1 : ∀ u ∈ cs, u.oneCell' = true) : (execOp A.eval o).run P W = .ok .skip (W.setRow g (layA cur off cs)) := by
  have hrun := run_storeK (P := P) hS g off t cur cs hB hl hfit h1
  unfold execOp
  simp only [ho, hx, hy, Instr.storeAt, Instr.sureAddr, Sem.run_bind, Sem.run_pure, Result.andThen_ok, hrun]
  rfl
theorem Gives.skip {P : Program} {o : Oper} {ρ : Operand → Value} {W W' : World} {R : Value → World → Prop} (hr : (execOp ρ o).run P W = .ok .skip W') (h : R undef W') : Gives P o ρ W R := .inr (.inl ⟨W', hr, h⟩)
end Go.Proofs.Ytffmalagochakaa

set_option linter.unusedVariables false
set_option linter.unusedSimpArgs false
namespace Go.Proofs.Ytffmalagochakaa
open Go.RowKit

def segGB (ops : Array Oper) (n m : Nat) (gs : List (Nat × Bool)) : Bool :=
  decide (n ≤ m) && decide (m ≤ ops.size) && backB ops && wallB ops n m &&
  (List.range m).all (fun i => decide (i < n) || ((List.range m).all fun j => decide (j < n) || i == j || (dstOf ops i).isNone || dstOf ops i != dstOf ops j)) &&
  (List.range m).all (fun i => decide (i < n) || ((match ops[i]? with | some o => (match o.guard with | some (g, _) => (decide (g < n) && (List.range m).all (fun j => decide (j < n) || (dstOf ops j).isNone || dstOf ops j != dstOf ops g)) || (decide (n ≤ g) && decide (g < m) && ahead .any ops ops.size g i) | none => true) && !(match o.op with | .select _ _ => true | _ => false) | none => false) && (List.range m).all fun j => decide (j < n) || match dstOf ops j with | some d => !(looks ops i).contains d || ahead .any ops ops.size j i || ahead .any ops ops.size i j | none => true))
def wantGB (ops : Array Oper) (n m : Nat) (gs : List (Nat × Bool)) (tmps : Array Value) : Bool := (List.range m).all fun i => decide (i < n) || match ops[i]? with | some o => (match o.guard with | none => true | some (g, b) => if g < n then Region.wanted o (yielded ops tmps) else (gs.contains (g, b) && (dstOf ops g).isSome)) | none => true

section
variable {P : Program} {ops : Array Oper} {Q : Exit → Act → World → Prop} {a : Act} {w : World}
theorem seg_runG {n m μ : Nat} {ex : Nat → Nat} {gs : List (Nat × Bool)} {Φ : Nat → Value → World → Prop} {J : Bool → World → Prop} {a0 : Act} (hh : segGB ops n m gs = true) (hw0 : wantGB ops n m gs a0.tmps = true) (hgs : ∀ g b, (g, b) ∈ gs → ∀ v W, Φ g v W → v = .bool b) (hexg : ∀ g b, (g, b) ∈ gs → m ≤ ex g) (hd : ∀ i d, n ≤ i → i < m → dstOf ops i = some d → d < a0.tmps.size)
    (hstep : ∀ i o, n ≤ i → i < m → ops[i]? = some o → ∀ (a : Act) (W : World) (b : Bool), J b W → (i = μ ∨ ahead .any ops ops.size i μ = true → b = false) → (∀ j d, n ≤ j → j < m → ahead .any ops ops.size j i = true → dstOf ops j = some d → (m ≤ ex j ∨ ex j = i ∨ ahead .any ops ops.size i (ex j) = true) → Φ j (slot a d) W) →
      (∀ t, t ∈ looks ops i → (∀ j, n ≤ j → j < m → dstOf ops j = some t → ahead .any ops ops.size j i = false) → slot a t = slot a0 t) → Gives P o a.eval W fun v W' => J (b || i == μ) W' ∧ Φ i v W' ∧ ∀ k u, k ≠ i → ex k ≠ i → ahead .any ops ops.size i k = false → (m ≤ ex k ∨ ahead .any ops ops.size (ex k) i = false) → Φ k u W → Φ k u W')
    (htail : ∀ (a : Act) (W : World), J (decide (n ≤ μ) && decide (μ < m)) W → a.defers = a0.defers → a.tmps.size = a0.tmps.size → (∀ i d, n ≤ i → i < m → dstOf ops i = some d → m ≤ ex i → Φ i (slot a d) W) → (∀ t, (∀ i, n ≤ i → i < m → dstOf ops i ≠ some t) → slot a t = slot a0 t) →
      AtN P ops Q m a W) :
    ∀ (c fuel : Nat) (listed : Array Bool) (a : Act) (w : World), InvX P ops n m μ ex Φ J a0 listed a w → ((List.range m).filter fun i => !listed.getD i false).length = c → ops.size + c ≤ m + fuel → wpAny P .any ops Q fuel listed a w := by
  simp only [segGB, Bool.and_eq_true, decide_eq_true_eq] at hh
  obtain ⟨⟨⟨⟨⟨hnm, hms⟩, hB⟩, hT⟩, hD⟩, hL⟩ := hh
  simp only [List.all_eq_true, List.mem_range, Bool.or_eq_true, decide_eq_true_eq, Bool.and_eq_true] at hD hL
  intro c
  induction c with
  | zero =>
    intro fuel listed a w inv hm hf
    have hall : ∀ i, i < m → listed.getD i false = true := by
      intro i hi
      have h0 := List.eq_nil_of_length_eq_zero hm
      have := (List.filter_eq_nil_iff.1 h0) i (List.mem_range.2 hi)
      simpa using this
    have hst := inv.st
    have hlm : listed.getD μ false = decide (μ < m) := by
      rcases Nat.lt_or_ge μ m with h | h
      · rw [hall μ h]; simp [h]
      · rw [inv.tail μ h]; simp; omega
    rw [hlm] at hst
    refine htail a w hst inv.defers inv.tsize (fun i d hn hi hd' he => inv.told i d hn hi (hall i hi) hd' (.inl he)) (fun t ht => inv.kept t fun i hn hi _ => ht i hn hi) fuel listed inv.size (fun i => ?_) (by omega)
    rcases Nat.lt_or_ge i m with h | h
    · rw [hall i h]; simp [h]
    · rw [inv.tail i h]; simp; omega
  | succ c ih =>
    intro fuel listed a w inv hm hf
    have hmn : c + 1 ≤ m := by
      rw [← hm]
      exact Nat.le_trans (List.length_filter_le _ _) (by simp)
    obtain ⟨fuel, rfl⟩ : ∃ f, fuel = f + 1 := ⟨fuel - 1, by omega⟩
    have hex : ∃ i, i < m ∧ listed.getD i false = false := by
      cases hl : (List.range m).filter fun i => !listed.getD i false with
      | nil => rw [hl] at hm; cases hm
      | cons x l =>
        have hx : x ∈ (List.range m).filter fun i => !listed.getD i false := by rw [hl]; simp
        obtain ⟨h1, h2⟩ := List.mem_filter.1 hx
        exact ⟨x, List.mem_range.1 h1, by simpa using h2⟩
    refine ⟨fun hr => ?_, fun i hi => ?_⟩
    · exfalso
      obtain ⟨i, hin, hil⟩ := hex
      have key : ∀ k, k < m → listed.getD k false = true := by
        intro k
        induction k using Nat.strongRecOn with
        | _ k ihk =>
          intro hk
          cases hkl : listed.getD k false with
          | true => rfl
          | false =>
            have hks : k < ops.size := by omega
            have hmem : k ∈ Region.ready .any ops listed := mem_ready.2 ⟨by
              have : k < listed.size := by rw [inv.size]; exact hks
              simp [this] at hkl ⊢
              exact hkl, ops[k], Array.getElem?_eq_getElem hks, fun e he hb => by
              have := back_at hB (Array.getElem?_eq_getElem hks) he hb
              exact ihk e.on this (by omega)⟩
            rw [hr] at hmem
            cases hmem
      rw [key i hin] at hil
      cases hil
    · obtain ⟨hun, o, ho, hdeps⟩ := mem_ready.1 hi
      have hiz : i < ops.size := (Array.getElem?_eq_some_iff.1 ho).1
      have hunl : listed.getD i false = false := by
        have : i < listed.size := by rw [inv.size]; exact hiz
        simp [this] at hun ⊢
        exact hun
      have hni : n ≤ i := by
        rcases Nat.lt_or_ge i n with h | h
        · rw [inv.below i h] at hunl; cases hunl
        · exact h
      have hin : i < m := by
        rcases Nat.lt_or_ge i m with h | h
        · exact h
        · exfalso
          obtain ⟨k, hkn, hkl⟩ := hex
          have hkn' : n ≤ k := by
            rcases Nat.lt_or_ge k n with h | h
            · rw [inv.below k h] at hkl; cases hkl
            · exact h
          have ht := wall_at hT hiz h hkn' hkn
          have := ahead_listed inv.closed _ k i ht (fun oj hoj => by rw [ho] at hoj; cases hoj; exact hdeps)
          rw [this] at hkl
          cases hkl
      have hL' := (hL i hin).resolve_left (by omega)
      rw [ho] at hL'
      simp only [Bool.and_eq_true] at hL'
      have hgive := hstep i o hni hin ho a w _ inv.st (fun e => by
          rcases e with e | e
          · subst e; simp [hunl]
          · cases hxl : listed.getD μ false with
            | false => simp
            | true =>
              have := ahead_listed inv.closed _ i μ e (fun oj hoj => inv.closed μ oj hoj hxl)
              rw [this] at hunl
              cases hunl) (fun j d hnj hj haj hdj hex => inv.told j d hnj hj (ahead_listed inv.closed _ j i haj (fun oj hoj => by rw [ho] at hoj; cases hoj; exact hdeps)) hdj (by
          rcases hex with h9 | h9 | h9
          · exact .inl h9
          · exact .inr (by rw [h9]; exact hunl)
          · refine .inr ?_
            cases hxl : listed.getD (ex j) false with
            | false => rfl
            | true =>
              have := ahead_listed inv.closed _ i (ex j) h9 (fun oj hoj => inv.closed (ex j) oj hoj hxl)
              rw [this] at hunl
              cases hunl))
        (fun t ht hno => inv.kept t fun j hnj hj hjl hdj => by
          have h3 := (hL'.2 j hj).resolve_left (by omega)
          rw [hdj] at h3
          simp only [Bool.or_eq_true, Bool.not_eq_true', List.contains_eq_mem, decide_eq_false_iff_not] at h3
          rcases h3 with (h3 | h3) | h3
          · exact h3 ht
          · rw [hno j hnj hj hdj] at h3; cases h3
          · have := ahead_listed inv.closed _ i j h3 (fun oj hoj => inv.closed j oj hoj hjl)
            rw [this] at hunl
            cases hunl)
      have hwant : Region.wanted o (yielded ops a.tmps) = true := by
        simp only [wantGB, List.all_eq_true, List.mem_range, Bool.or_eq_true, decide_eq_true_eq] at hw0
        have hwi := (hw0 i hin).resolve_left (by omega)
        rw [ho] at hwi
        have hg := hL'.1.1
        cases hgo : o.guard with
        | none => simp only [Region.wanted, hgo]
        | some gb =>
          obtain ⟨g, b⟩ := gb
          rw [hgo] at hg
          simp only [hgo] at hwi
          simp only [Bool.and_eq_true, decide_eq_true_eq, List.all_eq_true, List.mem_range, Bool.or_eq_true, bne_iff_ne] at hg
          by_cases hgn : g < n
          · rw [if_pos hgn] at hwi
            have hg2 := (hg.resolve_right (fun h => absurd h.1.1 (by omega))).2
            have hyy := yielded_same (ops := ops) (g := g) inv.tsize (fun d hdg => inv.kept d fun j hnj hj _ hdj => by
              rcases hg2 j hj with (h5 | h5) | h5
              · omega
              · rw [hdj] at h5; cases h5
              · exact h5 (hdj.trans hdg.symm))
            simp only [Region.wanted, hgo, hyy]
            simpa only [Region.wanted, hgo] using hwi
          · rw [if_neg hgn] at hwi
            have hg2 := hg.resolve_left (fun h => absurd h.1 (by omega))
            simp only [Bool.and_eq_true, List.contains_eq_mem, decide_eq_true_eq, Option.isSome_iff_exists] at hwi
            obtain ⟨hmem, dg, hdg⟩ := hwi
            have hgl := ahead_listed inv.closed _ g i hg2.2 (fun oj hoj => by rw [ho] at hoj; cases hoj; exact hdeps)
            obtain ⟨hxx, _⟩ : m ≤ ex g ∧ True := ⟨hexg g b hmem, trivial⟩
            have htold := inv.told g dg (by omega) hg2.1.2 hgl hdg (.inl hxx)
            have hval := hgs g b hmem _ _ htold
            have hsz : dg < a.tmps.size := by rw [inv.tsize]; exact hd g dg (by omega) hg2.1.2 hdg
            simp only [Region.wanted, hgo]
            have hy : yielded ops a.tmps g = some b := by
              unfold yielded
              have hdg' : (ops[g]?).bind (·.dst) = some dg := hdg
              rw [hdg']
              simp only [Option.bind_some]
              have : a.tmps[dg]? = some (.bool b) := by
                have h8 : slot a dg = .bool b := hval
                unfold slot at h8
                rw [Array.getD_eq_getD_getElem?, Array.getElem?_eq_getElem hsz, Option.getD_some] at h8
                rw [Array.getElem?_eq_getElem hsz, h8]
              rw [this]
            rw [hy]
            simp
      have hili : i < listed.size := by rw [inv.size]; exact hiz
      unfold wpOp
      rw [ho]
      simp only []
      have hdst : dstOf ops i = o.dst := by simp [dstOf, ho]
      suffices hgo : ∀ v W', (J (decide (n ≤ μ) && listed.getD μ false || i == μ) W' ∧ Φ i v W' ∧ ∀ k u, k ≠ i → ex k ≠ i → ahead .any ops ops.size i k = false → (m ≤ ex k ∨ ahead .any ops ops.size (ex k) i = false) → Φ k u w → Φ k u W') → wpAny P .any ops Q fuel (listed.setIfInBounds i true) (a.put o.dst v) W' by
        rw [if_pos hwant]
        exact .inl (hgive.wp fun v W' hR => hgo v W' hR)
      intro v W' hR
      refine ih fuel _ _ _ ⟨?_, ?_, ?_, ?_, ?_, ?_, ?_, ?_, ?_⟩ ?_ (by omega)
      · simp [inv.size]
      · intro t ht
        rw [getD_set hili, if_neg (by omega)]
        exact inv.below t ht
      · intro t ht
        rw [getD_set hili, if_neg (by omega)]
        exact inv.tail t ht
      · intro j oj hj hjl e he hb
        rw [getD_set hili] at hjl ⊢
        by_cases hij : i = j
        · subst hij
          rw [ho] at hj
          cases hj
          have := hdeps e he hb
          simp [this]
        · rw [if_neg hij] at hjl
          have := inv.closed j oj hj hjl e he hb
          simp [this]
      · have h6 := hR.1
        rw [getD_set hili]
        by_cases hiμ : i = μ
        · subst hiμ
          simpa [hni, hunl] using h6
        · rw [if_neg hiμ]
          rw [show (i == μ) = false by simpa using hiμ, Bool.or_false] at h6
          exact h6
      · rw [put_defers', inv.defers]
      · rw [put_size, inv.tsize]
      · intro j d hnj hj hjl hdj hexp
        rw [getD_set hili] at hjl hexp
        by_cases hij : i = j
        · subst hij
          have hdd : o.dst = some d := by rw [← hdst]; exact hdj
          rw [hdd, slot_put_same (by rw [inv.tsize]; exact hd i d hni hin hdj)]
          exact hR.2.1
        · rw [if_neg hij] at hjl
          have h4 := (((hD i hin).resolve_left (by omega)) j hj)
          simp only [Bool.or_eq_true, beq_iff_eq, bne_iff_ne, decide_eq_true_eq] at h4
          rw [slot_put_ne (by
            intro e
            rw [← hdst] at e
            rcases h4 with ((h4 | h4) | h4) | h4
            · omega
            · exact hij h4
            · rw [e] at h4; cases h4
            · exact h4 (e.trans hdj.symm))]
          have hxi : ex j ≠ i := by
            rintro e
            rcases hexp with h9 | h9
            · omega
            · rw [if_pos e.symm] at h9; cases h9
          have hah : ahead .any ops ops.size i j = false := by
            cases haj : ahead .any ops ops.size i j with
            | false => rfl
            | true =>
              have := ahead_listed inv.closed _ i j haj (fun oj hoj => inv.closed j oj hoj hjl)
              rw [this] at hunl
              cases hunl
          have hbh : m ≤ ex j ∨ ahead .any ops ops.size (ex j) i = false := by
            rcases hexp with h9 | h9
            · exact .inl h9
            · rw [if_neg (Ne.symm hxi)] at h9
              cases haj : ahead .any ops ops.size (ex j) i with
              | false => exact .inr rfl
              | true =>
                have := ahead_listed inv.closed _ (ex j) i haj (fun oj hoj => by rw [ho] at hoj; cases hoj; exact hdeps)
                rw [this] at h9
                cases h9
          refine hR.2.2 _ _ (Ne.symm hij) hxi hah hbh (inv.told j d hnj hj hjl hdj (hexp.imp id fun h9 => ?_))
          rw [if_neg (Ne.symm hxi)] at h9
          exact h9
      · intro t ht
        have hne : o.dst ≠ some t := by
          rw [← hdst]
          exact ht i hni hin (by rw [getD_set hili, if_pos rfl])
        rw [slot_put_ne hne]
        exact inv.kept t fun j hnj hj hjl => ht j hnj hj (by
          rw [getD_set hili]
          by_cases hij : i = j
          · rw [if_pos hij]
          · rw [if_neg hij]; exact hjl)
      · have hff := filter_flip (List.range m) (fun j => !listed.getD j false) (fun j => !(listed.setIfInBounds i true).getD j false) i List.nodup_range (List.mem_range.2 hin) (by simp only [hunl]; rfl) (by simp only [getD_set hili]; simp) (fun j hj => by simp only [getD_set hili, if_neg (Ne.symm hj)])
        omega

theorem AtN.segG' (n m μ : Nat) (gs : List (Nat × Bool)) (ex : Nat → Nat) (Φ : Nat → Value → World → Prop) (J : Bool → World → Prop) (hh : segGB ops n m gs = true) (hw0 : wantGB ops n m gs a.tmps = true) (hgs : ∀ g b, (g, b) ∈ gs → ∀ v W, Φ g v W → v = .bool b) (hexg : ∀ g b, (g, b) ∈ gs → m ≤ ex g) (hd : sDstB ops n m a.tmps.size = true) (h0 : J false w)
    (hstep : ∀ i, n ≤ i → i < m → ∀ o, ops[i]? = some o → ∀ (A : Act) (W : World) (b : Bool), J b W → (i = μ ∨ ahead .any ops ops.size i μ = true → b = false) → (∀ j d, sInX ops n m ex i j d = true → Φ j (A.tmps[d]?.getD undef) W) →
      (∀ t, sKeptB ops n m i t = true → A.tmps[t]?.getD undef = slot a t) → Gives P o A.eval W fun v W' => J (b || i == μ) W' ∧ Φ i v W' ∧ ∀ k u, k ≠ i → ex k ≠ i → ahead .any ops ops.size i k = false → (m ≤ ex k ∨ ahead .any ops ops.size (ex k) i = false) → Φ k u W → Φ k u W')
    (htail : ∀ (A : Act) (W : World), J (decide (n ≤ μ) && decide (μ < m)) W → A.defers = a.defers → A.tmps.size = a.tmps.size → (∀ i d, sOutB ops n m i d = true → m ≤ ex i → Φ i (slot A d) W) → (∀ t, sOldB ops n m t = true → slot A t = slot a t) →
      AtN P ops Q m A W) : AtN P ops Q n a w := by
  intro fuel listed hls hl hf
  have hh' := hh
  simp only [segGB, Bool.and_eq_true, decide_eq_true_eq] at hh'
  obtain ⟨⟨⟨⟨⟨hnm, hms⟩, hB⟩, hT⟩, hD⟩, hL⟩ := hh'
  simp only [sDstB, List.all_eq_true, List.mem_range, Bool.or_eq_true, decide_eq_true_eq] at hd
  refine seg_runG (n := n) (m := m) (μ := μ) (ex := ex) (gs := gs) (Φ := Φ) (J := J) (a0 := a) hh hw0 hgs hexg (fun i d hn hi hdi => ?_) (fun i o hn hi ho A W b hJ hμ hin hk => hstep i hn hi o ho A W b hJ hμ (fun j d h => ?_) (fun t h => ?_)) (fun A W h1 h2 h3 h4 h5 => htail A W h1 h2 h3 (fun i d h hx => ?_) (fun t h => ?_)) (m - n) fuel listed a w ⟨hls, ?_, ?_, ?_, ?_, rfl, rfl, ?_, fun _ _ => rfl⟩ ?_ (by omega)
  · have := (hd i hi).resolve_left (by omega)
    rw [hdi] at this
    simpa using this
  · simp only [sInX, sInB, Bool.and_eq_true, Bool.or_eq_true, decide_eq_true_eq, beq_iff_eq] at h
    obtain ⟨h, hx⟩ := h
    have := hin j d h.1.1.1 h.1.1.2 h.1.2 h.2 (by rcases hx with (h7 | h7) | h7 <;> simp [h7])
    simp only [slot, Array.getD_eq_getD_getElem?] at this
    exact this
  · simp only [sKeptB, Bool.and_eq_true, List.contains_eq_mem, decide_eq_true_eq, List.all_eq_true, List.mem_range, Bool.or_eq_true, bne_iff_ne, Bool.not_eq_true'] at h
    have := hk t h.1 (fun j hnj hj hdj => by
      rcases h.2 j hj with (h7 | h7) | h7
      · omega
      · exact absurd hdj h7
      · exact h7)
    simp only [slot, Array.getD_eq_getD_getElem?] at this ⊢
    exact this
  · simp only [sOutB, Bool.and_eq_true, decide_eq_true_eq, beq_iff_eq] at h
    exact h4 i d h.1.1 h.1.2 h.2 hx
  · simp only [sOldB, List.all_eq_true, List.mem_range, Bool.or_eq_true, decide_eq_true_eq, bne_iff_ne] at h
    exact h5 t fun i hn hi => (h i hi).resolve_left (by omega)
  · intro t ht
    rw [hl]; simpa using ht
  · intro t ht
    rw [hl]; simp; omega
  · intro j oj hj hjl e he hb
    have := back_at hB hj he hb
    rw [hl] at hjl ⊢
    simp only [decide_eq_true_eq] at hjl ⊢
    omega
  · rw [hl]
    have : (decide (n ≤ μ) && decide (μ < n)) = false := by simp
    rw [this]
    exact h0
  · intro i d hn hi hil
    rw [hl] at hil
    simp at hil
    omega
  · have hcong : ((List.range m).filter fun i => !listed.getD i false) = (List.range m).filter fun i => decide (n ≤ i) := List.filter_congr fun i _ => by
      rw [hl]
      by_cases h : i < n
      · simp [h]
      · simp [h]; omega
    rw [hcong]
    clear hcong
    have : ∀ m, ((List.range m).filter fun i => decide (n ≤ i)).length = m - n := by
      intro m
      induction m with
      | zero => simp
      | succ m ih =>
        rw [List.range_succ, List.filter_append, List.length_append, ih]
        by_cases h : n ≤ m
        · simp [h]; omega
        · simp [h]; omega
    exact this m



/-- A stretch of one value each, guards among them. -/
theorem AtN.segG3 (n m μ : Nat) (gs : List (Nat × Bool)) (vs : Nat → Value) (ds : List (Nat × Nat)) (l : List (Nat × Value)) (J : Bool → World → Prop) (hh : segGB ops n m gs = true) (hw0 : wantGB ops n m gs a.tmps = true) (hd : sDstB ops n m a.tmps.size = true) (hds : dsB3 ops n m ds = true) (hl : l = ds.map fun p => (p.2, vs p.1)) (hgs : ∀ p ∈ gs, vs p.1 = .bool p.2) (h0 : J false w)
    (hstep : ∀ i, n ≤ i → i < m → ∀ o, ops[i]? = some o → ∀ (A : Act) (W : World) (b : Bool), J b W → (i = μ ∨ ahead .any ops ops.size i μ = true → b = false) → (∀ j d, sInB ops n m i j d = true → A.tmps[d]?.getD undef = vs j) →
      (∀ t, sKeptB ops n m i t = true → A.tmps[t]?.getD undef = slot a t) → Gives P o A.eval W fun v W' => J (b || i == μ) W' ∧ v = vs i)
    (htail : ∀ (W : World), J (decide (n ≤ μ) && decide (μ < m)) W → AtN P ops Q m (putsL l a) W) : AtN P ops Q n a w := by
  refine AtN.segG' n m μ gs (fun _ => m) (fun i v _ => v = vs i) J hh hw0 (fun g b hgb v W h => by rw [h]; exact hgs (g, b) hgb) (fun _ _ _ => Nat.le_refl _) hd h0 (fun i hn hi o ho A W b hJ hμ hin hk => ?_) (fun A W hJ h1 h2 h3 h4 => ?_)
  · rcases hstep i hn hi o ho A W b hJ hμ (fun j d h => hin j d (by simp [sInX, h])) hk with ⟨v, W', hr, h1, h2⟩ | ⟨W', hr, h1, h2⟩ | ⟨f, args, W', hr, hc⟩
    · exact .inl ⟨v, W', hr, h1, h2, fun _ _ _ _ _ _ h => h⟩
    · exact .inr (.inl ⟨W', hr, h1, h2, fun _ _ _ _ _ _ h => h⟩)
    · refine .inr (.inr ⟨f, args, W', hr, hc.mono ?_⟩)
      rintro e W'' ⟨v, he, h1, h2⟩
      exact ⟨v, he, h1, h2, fun _ _ _ _ _ _ h => h⟩
  · rw [puts_eq3 hds hd vs h1 h2 (fun i d h => h3 i d h (Nat.le_refl _)) h4, ← hl]
    exact htail W hJ
end
end Go.Proofs.Ytffmalagochakaa
