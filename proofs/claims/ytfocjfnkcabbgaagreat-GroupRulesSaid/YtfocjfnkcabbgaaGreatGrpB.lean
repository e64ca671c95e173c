/- The state of group.Group's second loop. -/
import Derived.Test.YtfocjfnkcabbgaaGreatGrpA
set_option linter.unusedVariables false
set_option linter.unusedSimpArgs false
namespace Go.Proofs.YtfocjfnkcabbgaaGreat
open Go.RowKit Go.Shelf

theorem last_set {us : List Vl} {x : Vl} (hp : us ≠ []) : us.set (us.length - 1) x = us.dropLast ++ [x] := by
  have h := List.dropLast_concat_getLast hp
  have hl : us.length - 1 = us.dropLast.length := by rw [List.length_dropLast]
  conv => lhs; rw [← h, List.length_append]
  rw [show us.dropLast.length + [us.getLast hp].length - 1 = us.dropLast.length by simp, List.set_append_right _ _ (Nat.le_refl _), Nat.sub_self]
  rfl

/-- A row's last argument is written. -/
theorem OwnRow.last {W : World} {B : Nat} {cs : List Value} {r : Rw} {v : Value} (h : OwnRow W B cs r v) {last : Nat} (hl : r.args.length = last + 1) : ∃ g cap cur y, v = .slice (some ⟨g, 0, none⟩) (last + 1) cap ∧ B ≤ g ∧ r.args[last]? = some y ∧ r.args = r.args.dropLast ++ [y] ∧ Blk W g 40 cur ∧ At W ⟨g, last * 4, none⟩ (vcs y) ∧ last * 4 + 4 ≤ cur.size ∧
    ∀ x, OwnRow (W.setRow g (layA cur (last * 4) (vcs x))) B cs ⟨r.name, r.args.dropLast ++ [x], r.stamp⟩ v := by
  obtain ⟨h1, h2, h3⟩ := h
  obtain ⟨y, hy⟩ : ∃ y, r.args[last]? = some y := ⟨_, List.getElem?_eq_getElem (by omega)⟩
  obtain ⟨g, cap, rest, hv, hb, hblk, hat, hfit, hset, _⟩ := h3.get (i := last) (cs := vcs y) (by rw [List.getElem?_map, hy]; rfl)
  have hne : r.args ≠ [] := by intro e; rw [e] at hl; simp at hl
  have hyl : r.args = r.args.dropLast ++ [y] := by
    have := List.dropLast_concat_getLast hne
    rw [List.getLast_eq_getElem] at this
    rw [List.getElem?_eq_getElem (by omega)] at hy
    have e : r.args[r.args.length - 1]'(by omega) = y := by
      rw [← Option.some.inj hy]
      congr 1
      omega
    rw [e] at this
    exact this.symm
  refine ⟨g, cap, _, y, by rw [hv, List.length_map, hl], hb, hy, hyl, hblk, hat, hfit, fun x => ⟨h1, ?_, ?_⟩⟩
  · show (r.args.dropLast ++ [x]).length ≤ 1000
    rw [List.length_append, List.length_dropLast]
    simp
    omega
  · have := hset (vcs x) rfl
    rw [← List.map_set, show last = r.args.length - 1 by omega, last_set hne] at this
    rw [show last = r.args.length - 1 by omega]
    exact this

structure GrpSt (W : World) (B0 B : Nat) (css : List (List Value)) (m : List Rw) (vs : List Value) (i : Nat) (vo : Value) (cso : List (List Value)) (gs : List Rw) (us : List Value) : Prop where
  mrg : ∀ (j : Nat) (cs : List Value), i ≤ j → css[j]? = some cs → ∃ r v, m[j]? = some r ∧ vs[j]? = some v ∧ OwnRow W B cs r v
  out : Own W B0 44 3 vo cso
  len : cso.length = gs.length ∧ us.length = gs.length
  row : ∀ (q : Nat) (r : Rw), gs[q]? = some r → ∃ cs v, cso[q]? = some cs ∧ us[q]? = some v ∧ OwnRow W B cs r v
  up : ∀ (p q : Nat) (u v : Value) (a b : Nat), p < q → us[p]? = some u → us[q]? = some v → u.ownBlock = some a → v.ownBlock = some b → a < b
  low : ∀ (q j : Nat) (u v : Value) (a b : Nat), i ≤ j → us[q]? = some u → vs[j]? = some v → u.ownBlock = some a → v.ownBlock = some b → a < b
  vup : ∀ (i j : Nat) (u v : Value) (a b : Nat), i < j → vs[i]? = some u → vs[j]? = some v → u.ownBlock = some a → v.ownBlock = some b → a < b
  blk : ∀ (j : Nat) (v : Value) (b : Nat), vs[j]? = some v → v.ownBlock = some b → b < B0
  ublk : ∀ (q : Nat) (u : Value) (a : Nat), us[q]? = some u → u.ownBlock = some a → a < B0

section
variable {W W' : World} {B0 B i : Nat} {css cso : List (List Value)} {m gs : List Rw} {vs us : List Value} {vo : Value}
/-- Memory has changed apart from all that counts. -/
theorem GrpSt.chg {T : Nat → Prop} (h : GrpSt W B0 B css m vs i vo cso gs us) (hc : Chg W W' T) (h1 : ∀ (j : Nat) (v : Value) (b : Nat), i ≤ j → vs[j]? = some v → v.ownBlock = some b → ¬ T b) (h2 : ∀ (q : Nat) (u : Value) (a : Nat), us[q]? = some u → u.ownBlock = some a → ¬ T a) (h3 : ∀ g, vo.ownBlock = some g → ¬ T g) : GrpSt W' B0 B css m vs i vo cso gs us where
  mrg := fun j cs hj hcs => by
    obtain ⟨r, v, e1, e2, e3⟩ := h.mrg j cs hj hcs
    exact ⟨r, v, e1, e2, e3.chg hc (fun g hg => h1 j v g hj e2 hg)⟩
  out := h.out.chg hc h3
  len := h.len
  row := fun q r hq => by
    obtain ⟨cs, v, e1, e2, e3⟩ := h.row q r hq
    exact ⟨cs, v, e1, e2, e3.chg hc (fun g hg => h2 q v g e2 hg)⟩
  up := h.up
  low := h.low
  vup := h.vup
  blk := h.blk
  ublk := h.ublk
theorem GrpSt.new (h : GrpSt W B0 B css m vs i vo cso gs us) (hc : New W W') : GrpSt W' B0 B css m vs i vo cso gs us := h.chg hc (fun _ _ _ _ _ _ x => x) (fun _ _ _ _ _ x => x) (fun _ _ x => x)

/-- A row's stamp is written. -/
theorem GrpSt.stamp (h : GrpSt W B0 B css m vs i vo cso gs us) {q : Nat} {y : Rw} (hq : gs[q]? = some y) (s : Int) : ∃ go co cs v, vo = .slice (some ⟨go, 0, none⟩) gs.length co ∧ B0 ≤ go ∧ cso[q]? = some cs ∧ us[q]? = some v ∧ OwnRow W B cs y v ∧ At W ⟨go, q * 3, none⟩ cs ∧ (∃ t cur, Blk W go t cur) ∧
    GrpSt (W.setCell ⟨go, q * 3 + 2, none⟩ (.int .i64 s)) B0 B css m vs i vo (cso.set q [.string y.name, v, .int .i64 s]) (gs.set q ⟨y.name, y.args, s⟩) us := by
  obtain ⟨cs, v, e1, e2, e3⟩ := h.row q y hq
  have hql := (List.getElem?_eq_some_iff.1 hq).1
  obtain ⟨go, co, rest, hv, hb, hblk, hat, hfit, _, hset⟩ := h.out.get e1
  have hbo : ∀ b, vo.ownBlock = some b → b = go := fun b hb => by rw [hv] at hb; exact (Option.some.inj hb).symm
  have hc : Chg W (W.setCell ⟨go, q * 3 + 2, none⟩ (.int .i64 s)) (fun k => k = go) := (Chg.refl _ _).setCell _ _ (fun _ => rfl)
  have hs2 := hset 2 (.int .i64 s) (by omega)
  have hcs := e3.1
  rw [hcs] at hs2
  have hs3 : Own (W.setCell ⟨go, q * 3 + 2, none⟩ (.int .i64 s)) B0 44 3 vo (cso.set q [.string y.name, v, .int .i64 s]) := hs2
  refine ⟨go, co, cs, v, by rw [hv, h.len.1], hb, e1, e2, e3, hat, ⟨_, _, hblk⟩, ⟨fun j cs' hj hcs' => ?_, hs3, ?_, fun p r hp => ?_, h.up, h.low, h.vup, h.blk, h.ublk⟩⟩
  · obtain ⟨r, v', f1, f2, f3⟩ := h.mrg j cs' hj hcs'
    exact ⟨r, v', f1, f2, f3.chg hc (fun g hg e => by have := h.blk j v' g f2 hg; omega)⟩
  · rw [List.length_set, List.length_set]; exact h.len
  · rw [List.getElem?_set] at hp
    by_cases hpq : q = p
    · subst hpq
      rw [if_pos rfl, if_pos hql] at hp
      cases hp
      refine ⟨_, v, by rw [List.getElem?_set, if_pos rfl, if_pos (by rw [h.len.1]; exact hql)], e2, rfl, e3.2.1, e3.2.2.chg hc (fun g hg e => by have := h.ublk q v g e2 hg; omega)⟩
    · rw [if_neg hpq] at hp
      obtain ⟨cs', v', f1, f2, f3⟩ := h.row p r hp
      exact ⟨cs', v', by rw [List.getElem?_set, if_neg hpq]; exact f1, f2, f3.chg hc (fun g hg e => by have := h.ublk p v' g f2 hg; omega)⟩

/-- A row's last argument is written. -/
theorem GrpSt.fold (h : GrpSt W B0 B css m vs i vo cso gs us) {q : Nat} {y : Rw} (hq : gs[q]? = some y) {last : Nat} (hl : y.args.length = last + 1) : ∃ cs v g cap cur z, cso[q]? = some cs ∧ us[q]? = some v ∧ OwnRow W B cs y v ∧ v = .slice (some ⟨g, 0, none⟩) (last + 1) cap ∧ B ≤ g ∧ g < B0 ∧ y.args = y.args.dropLast ++ [z] ∧ Blk W g 40 cur ∧ At W ⟨g, last * 4, none⟩ (vcs z) ∧ last * 4 + 4 ≤ cur.size ∧
    ∀ x, GrpSt (W.setRow g (layA cur (last * 4) (vcs x))) B0 B css m vs i vo cso (gs.set q ⟨y.name, y.args.dropLast ++ [x], y.stamp⟩) us := by
  obtain ⟨cs, v, e1, e2, e3⟩ := h.row q y hq
  have hql := (List.getElem?_eq_some_iff.1 hq).1
  obtain ⟨g, cap, cur, z, hv, hB, hz, hyl, hblk, hat, hfit, hset⟩ := e3.last hl
  have hvb : v.ownBlock = some g := by rw [hv]; rfl
  have hg0 := h.ublk q v g e2 hvb
  refine ⟨cs, v, g, cap, cur, z, e1, e2, e3, hv, hB, hg0, hyl, hblk, hat, hfit, fun x => ?_⟩
  have hc : Chg W (W.setRow g (layA cur (last * 4) (vcs x))) (fun k => k = g) := (Chg.refl _ _).setRow _ _ (fun _ => rfl)
  refine ⟨fun j cs' hj hcs' => ?_, h.out.chg hc (fun go hgo e => ?_), ?_, fun p r hp => ?_, h.up, h.low, h.vup, h.blk, h.ublk⟩
  · obtain ⟨r, v', f1, f2, f3⟩ := h.mrg j cs' hj hcs'
    exact ⟨r, v', f1, f2, f3.chg hc (fun g' hg' e => by have := h.low q j v v' g g' hj e2 f2 hvb hg'; omega)⟩
  · have := (h.out.lt hgo).1
    omega
  · rw [List.length_set]; exact h.len
  · rw [List.getElem?_set] at hp
    by_cases hpq : q = p
    · subst hpq
      rw [if_pos rfl, if_pos hql] at hp
      cases hp
      exact ⟨cs, v, e1, e2, hset x⟩
    · rw [if_neg hpq] at hp
      obtain ⟨cs', v', f1, f2, f3⟩ := h.row p r hp
      refine ⟨cs', v', f1, f2, f3.chg hc (fun g' hg' e => ?_)⟩
      rcases Nat.lt_or_gt_of_ne hpq with h9 | h9
      · have := h.up q p v v' g g' h9 e2 f2 hvb hg'; omega
      · have := h.up p q v' v g' g h9 f2 e2 hg' hvb; omega
/-- The merged row that is looked at: its last argument is written. -/
theorem GrpSt.take (h : GrpSt W B0 B css m vs i vo cso gs us) {cs : List Value} (hcs : css[i]? = some cs) {last : Nat} (hl : ∀ r, m[i]? = some r → r.args.length = last + 1) : ∃ r v g cap cur z, m[i]? = some r ∧ vs[i]? = some v ∧ OwnRow W B cs r v ∧ v = .slice (some ⟨g, 0, none⟩) (last + 1) cap ∧ B ≤ g ∧ g < B0 ∧ r.args = r.args.dropLast ++ [z] ∧ Blk W g 40 cur ∧ At W ⟨g, last * 4, none⟩ (vcs z) ∧ last * 4 + 4 ≤ cur.size ∧
    ∀ x, GrpSt (W.setRow g (layA cur (last * 4) (vcs x))) B0 B css m vs (i + 1) vo cso gs us ∧ OwnRow (W.setRow g (layA cur (last * 4) (vcs x))) B cs ⟨r.name, r.args.dropLast ++ [x], r.stamp⟩ v := by
  obtain ⟨r, v, e1, e2, e3⟩ := h.mrg i cs (Nat.le_refl _) hcs
  obtain ⟨g, cap, cur, z, hv, hB, hz, hyl, hblk, hat, hfit, hset⟩ := e3.last (hl r e1)
  have hvb : v.ownBlock = some g := by rw [hv]; rfl
  have hg0 := h.blk i v g e2 hvb
  refine ⟨r, v, g, cap, cur, z, e1, e2, e3, hv, hB, hg0, hyl, hblk, hat, hfit, fun x => ⟨?_, hset x⟩⟩
  have hc : Chg W (W.setRow g (layA cur (last * 4) (vcs x))) (fun k => k = g) := (Chg.refl _ _).setRow _ _ (fun _ => rfl)
  refine ⟨fun j cs' hj hcs' => ?_, h.out.chg hc (fun go hgo e => ?_), h.len, fun p r' hp => ?_, h.up, fun q j u v' a b hj => h.low q j u v' a b (by omega), h.vup, h.blk, h.ublk⟩
  · obtain ⟨r', v', f1, f2, f3⟩ := h.mrg j cs' (by omega) hcs'
    exact ⟨r', v', f1, f2, f3.chg hc (fun g' hg' e => by have := h.vup i j v v' g g' (by omega) e2 f2 hvb hg'; omega)⟩
  · have := (h.out.lt hgo).1
    omega
  · obtain ⟨cs', v', f1, f2, f3⟩ := h.row p r' hp
    exact ⟨cs', v', f1, f2, f3.chg hc (fun g' hg' e => by have := h.low p i v' v g' g (Nat.le_refl _) f2 e2 hg' hvb; omega)⟩
/-- A row is appended. -/
theorem GrpSt.add {vo' : Value} (h : GrpSt W B0 B css m vs (i + 1) vo cso gs us) {cs : List Value} {r : Rw} {v : Value} (hr : OwnRow W B cs r v) (hv : vs[i]? = some v) (hlow : ∀ (q : Nat) (u : Value) (a b : Nat), us[q]? = some u → u.ownBlock = some a → v.ownBlock = some b → a < b)
    (ho : Own W' B0 44 3 vo' (cso ++ [cs])) (hc : Chg W W' (fun k => vo.ownBlock = some k)) : GrpSt W' B0 B css m vs (i + 1) vo' (cso ++ [cs]) (gs ++ [r]) (us ++ [v]) := by
  have hvo : ∀ (g a : Nat), vo.ownBlock = some g → a < B0 → a ≠ g := fun g a hg ha e => by have := (h.out.lt hg).1; omega
  have hus : ∀ (q : Nat) (u : Value), (us ++ [v])[q]? = some u → (us[q]? = some u ∧ q < us.length) ∨ (q = us.length ∧ u = v) := fun q u hq => by
    by_cases hl : q < us.length
    · rw [List.getElem?_append_left hl] at hq; exact .inl ⟨hq, hl⟩
    · rw [List.getElem?_append_right (by omega)] at hq
      have h0 := (List.getElem?_eq_some_iff.1 hq).1
      simp at h0
      have : q = us.length := by omega
      subst this
      rw [Nat.sub_self] at hq
      exact .inr ⟨rfl, by simpa using hq.symm⟩
  refine ⟨fun j cs' hj hcs' => ?_, ho, ?_, fun q r' hq => ?_, fun p q u u' a b hpq h1 h2 h3 h4 => ?_, fun q j u v' a b hj h1 h2 h3 h4 => ?_, h.vup, h.blk, fun q u a h1 h2 => ?_⟩
  · obtain ⟨r', v', f1, f2, f3⟩ := h.mrg j cs' hj hcs'
    exact ⟨r', v', f1, f2, f3.chg hc (fun g hg e => hvo g g e (h.blk j v' g f2 hg) rfl)⟩
  · rw [List.length_append, List.length_append, List.length_append, h.len.1, h.len.2]; exact ⟨rfl, rfl⟩
  · by_cases hl : q < gs.length
    · rw [List.getElem?_append_left hl] at hq
      obtain ⟨cs', v', f1, f2, f3⟩ := h.row q r' hq
      exact ⟨cs', v', by rw [List.getElem?_append_left (by rw [h.len.1]; exact hl)]; exact f1, by rw [List.getElem?_append_left (by rw [h.len.2]; exact hl)]; exact f2, f3.chg hc (fun g hg e => hvo g g e (h.ublk q v' g f2 hg) rfl)⟩
    · rw [List.getElem?_append_right (by omega)] at hq
      have h0 := (List.getElem?_eq_some_iff.1 hq).1
      simp at h0
      have : q = gs.length := by omega
      subst this
      rw [Nat.sub_self] at hq
      obtain rfl : r = r' := by simpa using hq
      refine ⟨cs, v, ?_, ?_, hr.chg hc (fun g hg e => hvo g g e (h.blk i v g hv hg) rfl)⟩
      · rw [List.getElem?_append_right (by rw [h.len.1]; exact Nat.le_refl _), h.len.1, Nat.sub_self]; rfl
      · rw [List.getElem?_append_right (by rw [h.len.2]; exact Nat.le_refl _), h.len.2, Nat.sub_self]; rfl
  · rcases hus p u h1 with ⟨g1, g2⟩ | ⟨g1, rfl⟩ <;> rcases hus q u' h2 with ⟨g3, g4⟩ | ⟨g3, rfl⟩
    · exact h.up p q u u' a b hpq g1 g3 h3 h4
    · exact hlow p u a b g1 h3 h4
    · omega
    · omega
  · rcases hus q u h1 with ⟨g1, g2⟩ | ⟨g1, rfl⟩
    · exact h.low q j u v' a b hj g1 h2 h3 h4
    · exact h.vup i j u v' a b (by omega) hv h2 h3 h4
  · rcases hus q u h1 with ⟨g1, g2⟩ | ⟨g1, rfl⟩
    · exact h.ublk q u a g1 h2
    · exact h.blk i u a hv h2
end
end Go.Proofs.YtfocjfnkcabbgaaGreat
