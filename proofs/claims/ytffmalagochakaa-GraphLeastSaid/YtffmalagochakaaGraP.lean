/- Graphs: plain. Walks, distances, and the search by rising cost. -/
import Derived.Test.YtffmalagochakaaOrdP
set_option linter.unusedVariables false
set_option linter.unusedSimpArgs false
namespace Go.Proofs.Ytffmalagochakaa

/-- Edges, as a relation. -/
abbrev ER := ByteArray → ByteArray → Int → Prop
/-- A walk of one edge or more. -/
inductive Wk (R : ER) : ByteArray → ByteArray → Int → Prop
  | one {u v : ByteArray} {c : Int} : R u v c → Wk R u v c
  | cons {u v x : ByteArray} {c d : Int} : R u v c → Wk R v x d → Wk R u x (c + d)
theorem Wk.app {R : ER} {u v x : ByteArray} {c d : Int} (h : Wk R u v c) (h' : Wk R v x d) : Wk R u x (c + d) := by
  induction h with
  | one h => exact .cons h h'
  | cons h _ ih =>
    rw [Int.add_assoc]
    exact .cons h (ih h')
theorem Wk.snoc {R : ER} {u v x : ByteArray} {c d : Int} (h : Wk R u v c) (h' : R v x d) : Wk R u x (c + d) := h.app (.one h')
/-- By the last edge. -/
theorem Wk.last {R : ER} {u x : ByteArray} {d : Int} (h : Wk R u x d) : R u x d ∨ ∃ v d1 c, Wk R u v d1 ∧ R v x c ∧ d = d1 + c := by
  induction h with
  | one h => exact .inl h
  | cons h h' ih =>
    rename_i u v x c d
    rcases ih with ih | ⟨y, d1, c1, h1, h2, rfl⟩
    · exact .inr ⟨v, c, d, .one h, ih, rfl⟩
    · exact .inr ⟨y, c + d1, c1, .cons h h1, h2, by omega⟩
theorem Wk.pos {R : ER} (hR : ∀ u v c, R u v c → 1 ≤ c) {u v : ByteArray} {c : Int} (h : Wk R u v c) : 1 ≤ c := by
  induction h with
  | one h => exact hR _ _ _ h
  | cons h _ ih => have := hR _ _ _ h; omega
theorem Wk.mono {R R' : ER} (h : ∀ u v c, R u v c → R' u v c) {u v : ByteArray} {c : Int} (hw : Wk R u v c) : Wk R' u v c := by
  induction hw with
  | one h1 => exact .one (h _ _ _ h1)
  | cons h1 _ ih => exact .cons (h _ _ _ h1) ih
/-- Edges no dearer. -/
theorem Wk.under {R R' : ER} (h : ∀ u v c, R u v c → ∃ c', R' u v c' ∧ c' ≤ c) {u v : ByteArray} {c : Int} (hw : Wk R u v c) : ∃ c', Wk R' u v c' ∧ c' ≤ c := by
  induction hw with
  | one h1 => obtain ⟨c', h2, h3⟩ := h _ _ _ h1; exact ⟨c', .one h2, h3⟩
  | cons h1 _ ih =>
    obtain ⟨c', h2, h3⟩ := h _ _ _ h1
    obtain ⟨d', h4, h5⟩ := ih
    exact ⟨c' + d', .cons h2 h4, by omega⟩
/-- Turned about. -/
theorem Wk.turn {R R' : ER} (h : ∀ u v c, R u v c → R' v u c) {u v : ByteArray} {c : Int} (hw : Wk R u v c) : Wk R' v u c := by
  induction hw with
  | one h1 => exact .one (h _ _ _ h1)
  | cons h1 _ ih =>
    rw [Int.add_comm]
    exact ih.snoc (h _ _ _ h1)
theorem Wk.times {R R' : ER} {n : Int} (h : ∀ u v c, R u v c → R' u v (c * n)) {u v : ByteArray} {c : Int} (hw : Wk R u v c) : Wk R' u v (c * n) := by
  induction hw with
  | one h1 => exact .one (h _ _ _ h1)
  | cons h1 _ ih =>
    rw [Int.add_mul]
    exact .cons (h _ _ _ h1) ih
/-- The least cost. -/
def IsD (R : ER) (u v : ByteArray) (d : Int) : Prop := Wk R u v d ∧ ∀ d', Wk R u v d' → d ≤ d'
def DistO (R : ER) (u v : ByteArray) (o : Option Int) : Prop := (o = none ∧ ∀ d, ¬ Wk R u v d) ∨ ∃ d, o = some d ∧ IsD R u v d
theorem DistO.uniq {R : ER} {u v : ByteArray} {o o' : Option Int} (h : DistO R u v o) (h' : DistO R u v o') : o = o' := by
  rcases h with ⟨rfl, h⟩ | ⟨d, rfl, h⟩ <;> rcases h' with ⟨rfl, h'⟩ | ⟨d', rfl, h'⟩
  · rfl
  · exact absurd h'.1 (h _)
  · exact absurd h.1 (h' _)
  · have h1 := h.2 _ h'.1
    have h2 := h'.2 _ h.1
    congr 1
    omega
/-- Two relations of which each has for each edge one no dearer: the same distances. -/
theorem DistO.same {R R' : ER} (h : ∀ u v c, R u v c → ∃ c', R' u v c' ∧ c' ≤ c) (h' : ∀ u v c, R' u v c → ∃ c', R u v c' ∧ c' ≤ c) {u v : ByteArray} {o : Option Int} (hd : DistO R u v o) : DistO R' u v o := by
  rcases hd with ⟨rfl, hd⟩ | ⟨d, rfl, hd⟩
  · refine .inl ⟨rfl, fun d hw => ?_⟩
    obtain ⟨c', h1, _⟩ := hw.under h'
    exact hd _ h1
  · refine .inr ⟨d, rfl, ?_⟩
    obtain ⟨c', h1, h2⟩ := hd.1.under h
    obtain ⟨c2, h3, h4⟩ := h1.under h'
    have h5 := hd.2 _ h3
    obtain rfl : c' = d := by omega
    exact ⟨h1, fun d' hw => by
      obtain ⟨c3, h6, h7⟩ := hw.under h'
      have := hd.2 _ h6
      omega⟩
theorem dist_triangle {R : ER} {a b c : ByteArray} {x y : Int} {z : Option Int} (hx : IsD R a b x) (hy : IsD R b c y) (hz : DistO R a c z) : ∃ d, z = some d ∧ d ≤ x + y := by
  rcases hz with ⟨rfl, hz⟩ | ⟨d, rfl, hz⟩
  · exact absurd (hx.1.app hy.1) (hz _)
  · exact ⟨d, rfl, hz.2 _ (hx.1.app hy.1)⟩
theorem DistO.turn {R R' : ER} (h : ∀ u v c, R u v c → R' v u c) (h' : ∀ u v c, R' u v c → R v u c) {u v : ByteArray} {o : Option Int} (hd : DistO R u v o) : DistO R' v u o := by
  rcases hd with ⟨rfl, hd⟩ | ⟨d, rfl, hd⟩
  · exact .inl ⟨rfl, fun d hw => hd _ (hw.turn h')⟩
  · exact .inr ⟨d, rfl, hd.1.turn h, fun d' hw => hd.2 _ (hw.turn h')⟩
theorem DistO.times {R R' : ER} {n : Int} (hn : 1 ≤ n) (h : ∀ u v c, R u v c → R' u v (c * n)) (h' : ∀ u v c, R' u v c → ∃ c0, c = c0 * n ∧ R u v c0) {u v : ByteArray} {o : Option Int} (hd : DistO R u v o) : DistO R' u v (o.map (· * n)) := by
  have back : ∀ {u v : ByteArray} {c : Int}, Wk R' u v c → ∃ c0, c = c0 * n ∧ Wk R u v c0 := by
    intro u v c hw
    induction hw with
    | one h1 => obtain ⟨c0, e, h2⟩ := h' _ _ _ h1; exact ⟨c0, e, .one h2⟩
    | cons h1 _ ih =>
      obtain ⟨c0, e, h2⟩ := h' _ _ _ h1
      obtain ⟨d0, e2, h3⟩ := ih
      exact ⟨c0 + d0, by rw [e, e2, Int.add_mul], .cons h2 h3⟩
  rcases hd with ⟨rfl, hd⟩ | ⟨d, rfl, hd⟩
  · refine .inl ⟨rfl, fun d hw => ?_⟩
    obtain ⟨c0, _, h2⟩ := back hw
    exact hd _ h2
  · refine .inr ⟨d * n, rfl, hd.1.times h, fun d' hw => ?_⟩
    obtain ⟨c0, rfl, h2⟩ := back hw
    exact Int.mul_le_mul_of_nonneg_right (hd.2 _ h2) (by omega)
theorem dist_more {R R' : ER} (h : ∀ u v c, R u v c → R' u v c) {u v : ByteArray} {d : Int} {o : Option Int} (hd : IsD R u v d) (ho : DistO R' u v o) : ∃ d', o = some d' ∧ d' ≤ d := by
  rcases ho with ⟨rfl, ho⟩ | ⟨d', rfl, ho⟩
  · exact absurd (hd.1.mono h) (ho _)
  · exact ⟨d', rfl, ho.2 _ (hd.1.mono h)⟩

/-- The search: what is done, what stands in the queue. -/
def Cov (done : ByteArray → Option Int) (q : List (ByteArray × Int)) (t : ByteArray) (x : Int) : Prop := (∃ d, done t = some d ∧ d ≤ x) ∨ ∃ y, (t, y) ∈ q ∧ y ≤ x
structure Far (R : ER) (a : ByteArray) (done : ByteArray → Option Int) (q : List (ByteArray × Int)) : Prop where
  dist : ∀ v c, done v = some c → IsD R a v c
  walk : ∀ p ∈ q, Wk R a p.1 p.2
  start : ∀ t c, R a t c → Cov done q t c
  next : ∀ v d, done v = some d → ∀ t c, R v t c → Cov done q t (d + c)
theorem Far.cut {R : ER} (hR : ∀ u v c, R u v c → 1 ≤ c) {a : ByteArray} {done : ByteArray → Option Int} {q : List (ByteArray × Int)} (h : Far R a done q) {v : ByteArray} {d : Int} (hw : Wk R a v d) : (∃ dv, done v = some dv ∧ dv ≤ d) ∨ ∃ p ∈ q, p.2 ≤ d := by
  have key : ∀ (n : Nat) (v : ByteArray) (d : Int), d ≤ n → Wk R a v d → (∃ dv, done v = some dv ∧ dv ≤ d) ∨ ∃ p ∈ q, p.2 ≤ d := by
    intro n
    induction n with
    | zero => intro v d hd hw; have := hw.pos hR; omega
    | succ n ih =>
      intro v d hd hw
      rcases hw.last with h1 | ⟨u, d1, c, h1, h2, rfl⟩
      · rcases h.start _ _ h1 with h2 | ⟨y, hy, h2⟩
        · exact .inl h2
        · exact .inr ⟨_, hy, h2⟩
      · have hc := hR _ _ _ h2
        rcases ih u d1 (by omega) h1 with ⟨du, h3, h4⟩ | ⟨p, hp, h3⟩
        · rcases h.next _ _ h3 _ _ h2 with ⟨dv, h5, h6⟩ | ⟨y, hy, h6⟩
          · exact .inl ⟨dv, h5, by omega⟩
          · exact .inr ⟨_, hy, by show y ≤ _; omega⟩
        · exact .inr ⟨p, hp, by omega⟩
  exact key d.toNat v d (by omega) hw
/-- The least of the queue is taken: it was done. -/
theorem Far.old {R : ER} {a : ByteArray} {done : ByteArray → Option Int} {q q' : List (ByteArray × Int)} {x : ByteArray} {c d : Int} (h : Far R a done q) (hx : done x = some d) (hq : ∀ p, p ∈ q ↔ p = (x, c) ∨ p ∈ q') : Far R a done q' := by
  have hdc : d ≤ c := (h.dist _ _ hx).2 _ (h.walk (x, c) ((hq _).2 (.inl rfl)))
  have hc : ∀ {t y}, Cov done q t y → Cov done q' t y := fun {t y} hcv => by
    rcases hcv with h1 | ⟨z, hz, h1⟩
    · exact .inl h1
    · rcases (hq _).1 hz with h2 | h2
      · cases h2
        exact .inl ⟨d, hx, by omega⟩
      · exact .inr ⟨z, h2, h1⟩
  exact ⟨h.dist, fun p hp => h.walk p ((hq p).2 (.inr hp)), fun t c h1 => hc (h.start t c h1), fun v d h1 t c h2 => hc (h.next v d h1 t c h2)⟩
/-- It was not: its edges come in. -/
theorem Far.new {R : ER} (hR : ∀ u v c, R u v c → 1 ≤ c) {a : ByteArray} {done done' : ByteArray → Option Int} {q q' : List (ByteArray × Int)} {x : ByteArray} {c : Int} (h : Far R a done q) (hx : done x = none) (hmin : ∀ p ∈ q, c ≤ p.2) (hin : (x, c) ∈ q)
    (hd : ∀ v, done' v = if v = x then some c else done v) (hq1 : ∀ p ∈ q, p ≠ (x, c) → p ∈ q') (hq2 : ∀ t e, R x t e → (t, c + e) ∈ q') (hq3 : ∀ p ∈ q', p ∈ q ∨ ∃ t e, R x t e ∧ p = (t, c + e)) : Far R a done' q' := by
  have hxd : IsD R a x c := ⟨h.walk _ hin, fun d' hw => by
    rcases h.cut hR hw with ⟨dv, h1, _⟩ | ⟨p, hp, h1⟩
    · rw [hx] at h1; cases h1
    · have := hmin p hp; omega⟩
  have hdx : done' x = some c := by rw [hd, if_pos rfl]
  have hc : ∀ {t y}, Cov done q t y → Cov done' q' t y := fun {t y} hcv => by
    rcases hcv with ⟨d, h1, h2⟩ | ⟨z, hz, h1⟩
    · refine .inl ⟨d, ?_, h2⟩
      rw [hd, if_neg (fun e => by rw [e, hx] at h1; cases h1)]
      exact h1
    · by_cases he : (t, z) = (x, c)
      · cases he
        exact .inl ⟨c, hdx, h1⟩
      · exact .inr ⟨z, hq1 _ hz he, h1⟩
  refine ⟨fun v d h1 => ?_, fun p hp => ?_, fun t e h1 => hc (h.start t e h1), fun v d h1 t e h2 => ?_⟩
  · rw [hd] at h1
    split at h1
    · rename_i hv
      cases h1
      rw [hv]
      exact hxd
    · exact h.dist _ _ h1
  · rcases hq3 p hp with h1 | ⟨t, e, h1, rfl⟩
    · exact h.walk p h1
    · exact hxd.1.snoc h1
  · rw [hd] at h1
    split at h1
    · rename_i hv
      cases h1
      rw [hv] at h2
      exact .inr ⟨_, hq2 _ _ h2, Int.le_refl _⟩
    · exact hc (h.next _ _ h1 _ _ h2)
theorem Far.begin {R : ER} {a : ByteArray} {q : List (ByteArray × Int)} (h1 : ∀ t e, R a t e → (t, e) ∈ q) (h2 : ∀ p ∈ q, R a p.1 p.2) : Far R a (fun _ => none) q :=
  Far.mk (fun v c h => by cases h) (fun p hp => Wk.one (h2 p hp)) (fun t c h => Or.inr ⟨c, h1 t c h, Int.le_refl _⟩) (fun v d h => by cases h)
theorem Far.end {R : ER} (hR : ∀ u v c, R u v c → 1 ≤ c) {a : ByteArray} {done : ByteArray → Option Int} (h : Far R a done []) (v : ByteArray) : DistO R a v (done v) := by
  cases hv : done v with
  | none =>
    refine .inl ⟨rfl, fun d hw => ?_⟩
    rcases h.cut hR hw with ⟨dv, h1, _⟩ | ⟨p, hp, _⟩
    · rw [hv] at h1; cases h1
    · cases hp
  | some d => exact .inr ⟨d, rfl, h.dist _ _ hv⟩

/-- Edges. -/
structure Ed where
  a : ByteArray
  b : ByteArray
  c : Int
/-- It counts. -/
def Ed.Ok (e : Ed) : Prop := e.a ≠ e.b ∧ 1 ≤ e.c ∧ e.c ≤ 2147483647
def Ed.ok (e : Ed) : Bool := decide (e.a ≠ e.b) && (decide (1 ≤ e.c) && decide (e.c ≤ 2147483647))
theorem Ed.ok_iff (e : Ed) : e.ok = true ↔ e.Ok := by simp [Ed.ok, Ed.Ok]
def RE (E : List Ed) : ER := fun u v c => ∃ e ∈ E, e.Ok ∧ e.a = u ∧ e.b = v ∧ e.c = c
theorem RE.pos {E : List Ed} : ∀ u v c, RE E u v c → 1 ≤ c := fun u v c h => by
  obtain ⟨e, _, h1, _, _, rfl⟩ := h
  exact h1.2.1
/-- The table of the least costs. -/
abbrev Tb := ByteArray → ByteArray → Option Int
def putE (T : Tb) (e : Ed) : Tb := if e.ok then (fun u v => if u = e.a ∧ v = e.b then (match T e.a e.b with | some c => if e.c < c then some e.c else some c | none => some e.c) else T u v) else T
def tabF (E : List Ed) : Tb := E.foldl putE (fun _ _ => none)
def TR (T : Tb) : ER := fun u v c => T u v = some c
theorem tabF_snoc (E : List Ed) (e : Ed) : tabF (E ++ [e]) = putE (tabF E) e := by
  unfold tabF
  rw [List.foldl_append]
  rfl
theorem tab_ok : ∀ (E1 E2 : List Ed) (T : Tb), ((∀ u v c, TR T u v c → RE E1 u v c) ∧ (∀ u v c, RE E1 u v c → ∃ c', TR T u v c' ∧ c' ≤ c)) → (∀ u v c, TR (E2.foldl putE T) u v c → RE (E1 ++ E2) u v c) ∧ (∀ u v c, RE (E1 ++ E2) u v c → ∃ c', TR (E2.foldl putE T) u v c' ∧ c' ≤ c)
  | E1, [], T, h => by rw [List.append_nil]; exact h
  | E1, e :: E2, T, h => by
    rw [List.foldl_cons, show E1 ++ e :: E2 = (E1 ++ [e]) ++ E2 by simp]
    refine tab_ok (E1 ++ [e]) E2 (putE T e) ⟨fun u v c h1 => ?_, fun u v c h1 => ?_⟩
    · unfold TR putE at h1
      by_cases he : e.ok = true
      · rw [if_pos he] at h1
        by_cases hk : u = e.a ∧ v = e.b
        · obtain ⟨rfl, rfl⟩ := hk
          simp only [and_self, if_true] at h1
          cases ht : T e.a e.b with
          | none =>
            rw [ht] at h1
            cases h1
            exact ⟨e, by simp, (Ed.ok_iff e).1 he, rfl, rfl, rfl⟩
          | some c0 =>
            rw [ht] at h1
            simp only at h1
            split at h1
            · cases h1
              exact ⟨e, by simp, (Ed.ok_iff e).1 he, rfl, rfl, rfl⟩
            · cases h1
              obtain ⟨e', h2, h3⟩ := h.1 _ _ _ ht
              exact ⟨e', List.mem_append_left _ h2, h3⟩
        · rw [if_neg hk] at h1
          obtain ⟨e', h2, h3⟩ := h.1 _ _ _ h1
          exact ⟨e', List.mem_append_left _ h2, h3⟩
      · rw [if_neg he] at h1
        obtain ⟨e', h2, h3⟩ := h.1 _ _ _ h1
        exact ⟨e', List.mem_append_left _ h2, h3⟩
    · obtain ⟨e', h2, h3, rfl, rfl, rfl⟩ := h1
      unfold TR putE
      rcases List.mem_append.1 h2 with h2 | h2
      · obtain ⟨c', h4, h5⟩ := h.2 _ _ _ ⟨e', h2, h3, rfl, rfl, rfl⟩
        by_cases he : e.ok = true
        · rw [if_pos he]
          by_cases hk : e'.a = e.a ∧ e'.b = e.b
          · simp only [hk, and_self, if_true]
            rw [hk.1, hk.2] at h4
            rw [show T e.a e.b = some c' from h4]
            simp only
            by_cases hlt : e.c < c'
            · exact ⟨e.c, by rw [if_pos hlt], by omega⟩
            · exact ⟨c', by rw [if_neg hlt], h5⟩
          · exact ⟨c', by rw [if_neg hk]; exact h4, h5⟩
        · exact ⟨c', by rw [if_neg he]; exact h4, h5⟩
      · obtain rfl := List.mem_singleton.1 h2
        rw [if_pos ((Ed.ok_iff e').2 h3)]
        simp only [and_self, if_true]
        cases ht : T e'.a e'.b with
        | none => exact ⟨e'.c, rfl, Int.le_refl _⟩
        | some c0 =>
          simp only
          by_cases hlt : e'.c < c0
          · exact ⟨e'.c, by rw [if_pos hlt], Int.le_refl _⟩
          · exact ⟨c0, by rw [if_neg hlt], by omega⟩
theorem tab_sub (E : List Ed) : ∀ u v c, TR (tabF E) u v c → RE E u v c := (tab_ok [] E (fun _ _ => none) (And.intro (fun u v c h => (by cases h)) (fun u v c h => (by obtain ⟨e, he, _⟩ := h; cases he)))).1
theorem tab_all (E : List Ed) : ∀ u v c, RE E u v c → ∃ c', TR (tabF E) u v c' ∧ c' ≤ c := (tab_ok [] E (fun _ _ => none) (And.intro (fun u v c h => (by cases h)) (fun u v c h => (by obtain ⟨e, he, _⟩ := h; cases he)))).2
theorem tab_pos (E : List Ed) : ∀ u v c, TR (tabF E) u v c → 1 ≤ c := fun u v c h => RE.pos _ _ _ (tab_sub E u v c h)
theorem dist_tab {E : List Ed} {u v : ByteArray} {o : Option Int} (h : DistO (TR (tabF E)) u v o) : DistO (RE E) u v o := h.same (fun u v c h => ⟨c, tab_sub E u v c h, Int.le_refl _⟩) (tab_all E)
/-- The same edges, in whatever order; some that do not count. -/
theorem dist_mem {E F : List Ed} (h : ∀ e, e.Ok → (e ∈ E ↔ e ∈ F)) {u v : ByteArray} {o o' : Option Int} (ho : DistO (RE E) u v o) (ho' : DistO (RE F) u v o') : o = o' := by
  refine DistO.uniq ho (ho'.same (fun u v c h1 => ?_) (fun u v c h1 => ?_))
  · obtain ⟨e, h2, h3, h4⟩ := h1
    exact ⟨c, ⟨e, (h e h3).2 h2, h3, h4⟩, Int.le_refl _⟩
  · obtain ⟨e, h2, h3, h4⟩ := h1
    exact ⟨c, ⟨e, (h e h3).1 h2, h3, h4⟩, Int.le_refl _⟩
/-- A way through nodes, and its cost. -/
inductive PC (R : ER) : List ByteArray → Int → Prop
  | one (u : ByteArray) : PC R [u] 0
  | cons {u v : ByteArray} {l : List ByteArray} {c d : Int} : R u v c → PC R (v :: l) d → PC R (u :: v :: l) (c + d)
theorem PC.nonneg {R : ER} (hR : ∀ u v c, R u v c → 1 ≤ c) {l : List ByteArray} {d : Int} (h : PC R l d) : 0 ≤ d := by
  induction h with
  | one u => omega
  | cons h _ ih => have := hR _ _ _ h; omega
theorem PC.walk {R : ER} {l : List ByteArray} {d : Int} (h : PC R l d) : ∀ {u x : ByteArray}, l.head? = some u → l.getLast? = some x → 2 ≤ l.length → Wk R u x d := by
  induction h with
  | one u => intro _ _ _ _ h2; simp at h2
  | cons h h' ih =>
    rename_i u v l c d
    intro a x ha hx h2
    obtain rfl : u = a := by simpa using ha
    cases l with
    | nil =>
      cases h'
      obtain rfl : v = x := by simpa using hx
      rw [Int.add_zero]
      exact .one h
    | cons w l => exact .cons h (ih rfl (by simpa using hx) (by simp))
theorem PC.suffix {R : ER} (hR : ∀ u v c, R u v c → 1 ≤ c) : ∀ {l1 l2 : List ByteArray} {u : ByteArray} {d : Int}, PC R (l1 ++ u :: l2) d → ∃ d', PC R (u :: l2) d' ∧ d' ≤ d
  | [], l2, u, d, h => ⟨d, h, Int.le_refl _⟩
  | x :: l1, l2, u, d, h => by
    cases hl : l1 ++ u :: l2 with
    | nil => simp at hl
    | cons v l =>
      rw [List.cons_append, hl] at h
      cases h with
      | cons h1 h2 =>
        rename_i c d0
        rw [← hl] at h2
        obtain ⟨d', h3, h4⟩ := PC.suffix hR h2
        have := hR _ _ _ h1
        exact ⟨d', h3, by omega⟩
/-- Of a walk a way that comes to none twice, no dearer. -/
theorem Wk.simple {R : ER} (hR : ∀ u v c, R u v c → 1 ≤ c) {u x : ByteArray} {d : Int} (h : Wk R u x d) (hne : u ≠ x) : ∃ l d', l.head? = some u ∧ l.getLast? = some x ∧ l.Nodup ∧ PC R l d' ∧ d' ≤ d := by
  induction h with
  | one h =>
    rename_i u v c
    exact ⟨[u, v], c + 0, rfl, rfl, by simp [hne], .cons h (.one v), by omega⟩
  | cons h h' ih =>
    rename_i u v x c d
    by_cases hv : v = x
    · subst hv
      have := h'.pos hR
      exact ⟨[u, v], c + 0, rfl, rfl, by simp [hne], .cons h (.one v), by omega⟩
    · obtain ⟨l, d', h1, h2, h3, h4, h5⟩ := ih hv
      have hc := hR _ _ _ h
      by_cases hu : u ∈ l
      · obtain ⟨l1, l2, rfl⟩ := List.append_of_mem hu
        obtain ⟨d2, h6, h7⟩ := h4.suffix hR
        refine ⟨u :: l2, d2, rfl, ?_, (List.nodup_append.1 h3).2.1, h6, by omega⟩
        rw [List.getLast?_append] at h2
        simpa using h2
      · cases l with
        | nil => cases h1
        | cons w l =>
          obtain rfl : w = v := by simpa using h1
          exact ⟨u :: w :: l, c + d', rfl, by simpa using h2, List.nodup_cons.2 ⟨hu, h3⟩, .cons h h4, by omega⟩
end Go.Proofs.Ytffmalagochakaa
