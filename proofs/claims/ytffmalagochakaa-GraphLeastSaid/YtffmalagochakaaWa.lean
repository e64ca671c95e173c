/- Words on worlds, rows of cells and the builtins append, copy, clear, for rows of elements of k cells. No program is named here. -/
import Derived.WalkKit
import Derived.WalkSpells
import Derived.WalkLawsBesides
import Derived.Deep.RegionLaw
import Derived.Deep.AppendLies
import Derived.Deep.QuietTactic
import Derived.BigQuiet
import Derived.Lib.Overlaps
import Derived.Lib.Hide
import Derived.StillTailTactics
import Derived.Maps.AppendAt
import Derived.Shelf.Abstract
set_option linter.unusedSimpArgs false
set_option linter.unusedVariables false
namespace Go.Proofs.Ytffmalagochakaa
open Go.RowKit

/-- What lay before lies there unturned, but for the blocks of T; the streams are as they were. -/
structure Chg (w w' : World) (T : Nat → Prop) : Prop where
  os : w'.os = w.os
  tape : w'.tape = w.tape
  output : w'.output = w.output
  size : w.heap.size ≤ w'.heap.size
  block : ∀ k, k < w.heap.size → ¬ T k → w'.heap[k]? = w.heap[k]?

abbrev New (w w' : World) : Prop := Chg w w' (fun _ => False)

section chg
variable {w w' w1 w2 : World} {T T' : Nat → Prop}
theorem Chg.refl (w : World) (T : Nat → Prop) : Chg w w T := ⟨rfl, rfl, rfl, Nat.le_refl _, fun _ _ _ => rfl⟩
theorem Chg.trans (h : Chg w w1 T) (h' : Chg w1 w2 T') (ht : ∀ k, k < w.heap.size → T' k → T k) : Chg w w2 T :=
  ⟨h'.os.trans h.os, h'.tape.trans h.tape, h'.output.trans h.output, Nat.le_trans h.size h'.size, fun k hk hn =>
    (h'.block k (Nat.lt_of_lt_of_le hk h.size) (fun x => hn (ht k hk x))).trans (h.block k hk hn)⟩
theorem Chg.mono (h : Chg w w1 T) (ht : ∀ k, k < w.heap.size → T k → T' k) : Chg w w1 T' :=
  ⟨h.os, h.tape, h.output, h.size, fun k hk hn => h.block k hk fun x => hn (ht k hk x)⟩
theorem Chg.alloc (h : Chg w w1 T) (o : Obj) : Chg w (w1.alloc o) T :=
  h.trans (T' := fun _ => False) ⟨rfl, rfl, rfl, by simp, fun k hk _ => Below.heap_alloc _ _ _ hk⟩ (fun _ _ x => x.elim)
theorem Chg.drew (h : Chg w w1 T) : Chg w w1.drew T := ⟨h.os, h.tape, h.output, h.size, h.block⟩
theorem Chg.drewN (h : Chg w w1 T) (n : Nat) : Chg w (w1.drewN n) T := ⟨h.os, h.tape, h.output, h.size, h.block⟩
theorem Chg.setRow (h : Chg w w1 T) (g : Nat) (cs : Array Value) (hg : g < w.heap.size → T g) : Chg w (w1.setRow g cs) T :=
  h.trans (T' := fun k => k = g) ⟨rfl, rfl, rfl, by simp, fun k _ hk => setRow_other w1 g k cs hk⟩ (fun k hk e => by subst e; exact hg hk)
theorem Chg.setCell (h : Chg w w1 T) (p : Addr) (u : Value) (hg : p.block < w.heap.size → T p.block) : Chg w (w1.setCell p u) T :=
  h.trans (T' := fun k => k = p.block) ⟨rfl, rfl, rfl, by simp [World.setCell], fun k _ hk => Below.heap_setCell _ _ _ _ hk⟩ (fun k hk e => by subst e; exact hg hk)
theorem Chg.of_grown {row : Option Nat} (h : w.grownBy w' row) : Chg w w' (fun k => some k = row) := ⟨h.os, h.tape, h.output, h.size, fun k hk hn => h.block k hk hn⟩
theorem Chg.to_grown {row : Option Nat} (h : Chg w w' (fun k => some k = row)) : w.grownBy w' row := ⟨h.os, h.tape, h.output, h.size, fun k hk hn => h.block k hk hn⟩
theorem Chg.of_below (h : Below w.heap.size w w') : New w w' := ⟨h.os, h.tape, h.output, h.size, fun k hk _ => h.block k hk⟩
theorem Chg.below {B : Nat} (h : Chg w w' T) (hB : B ≤ w.heap.size) (ht : ∀ k, k < B → ¬ T k) : Below B w w' := ⟨h.os, h.tape, h.output, h.size, fun k hk => h.block k (Nat.lt_of_lt_of_le hk hB) (ht k hk)⟩
theorem Chg.cell (h : Chg w w' T) {a : Addr} (ha : a.block < w.heap.size) (hn : ¬ T a.block) : w'.cell? a = w.cell? a := World.cell?_of_block (h.block _ ha hn)
theorem Chg.frozen (h : Chg w w' T) {a : Addr} (ha : a.block < w.heap.size) (hn : ¬ T a.block) : w'.frozen? a = w.frozen? a := World.frozen?_of_block (h.block _ ha hn)
theorem Chg.cellS (h : Chg w w' T) {a : Addr} {v : Value} (hc : w.cell? a = some v) (hn : ¬ T a.block) : w'.cell? a = some v := (h.cell (World.block_lt_of_cell? w a hc) hn).trans hc
end chg

theorem lt_of_heap {w : World} {g : Nat} {o : Obj} (h : w.heap[g]? = some o) : g < w.heap.size := (Array.getElem?_eq_some_iff.1 h).1

/-- A block that holds just these cells. -/
def Blk (w : World) (g : Nat) (t : TypeId) (cs : Array Value) : Prop := w.heap[g]? = some (.cells cs t (0, 0))
section blk
variable {w w' : World} {g : Nat} {t : TypeId} {cs : Array Value} {T : Nat → Prop}
theorem Blk.lt (h : Blk w g t cs) : g < w.heap.size := lt_of_heap h
theorem Blk.cell (h : Blk w g t cs) (i : Nat) : w.cell? ⟨g, i, none⟩ = cs[i]? := cell_of_row w g i cs t (0, 0) h
theorem Blk.frozen (h : Blk w g t cs) (i : Nat) : w.frozen? ⟨g, i, none⟩ = false := frozen_of_row w g i cs t h
theorem Blk.chg (h : Blk w g t cs) (hc : Chg w w' T) (hn : ¬ T g) : Blk w' g t cs := (hc.block g h.lt hn).trans h
theorem Blk.alloc (h : Blk w g t cs) (o : Obj) : Blk (w.alloc o) g t cs := (Below.heap_alloc w o g h.lt).trans h
theorem Blk.new (w : World) (t : TypeId) (cs : Array Value) : Blk (w.alloc (.cells cs t)) w.heap.size t cs := heap_alloc_new w _
theorem Blk.set (h : Blk w g t cs) (ds : Array Value) : Blk (w.setRow g ds) g t ds := setRow_heap w g cs ds t _ h
theorem Blk.other (h : Blk w g t cs) {g' : Nat} (hne : g ≠ g') (ds : Array Value) : Blk (w.setRow g' ds) g t cs := (setRow_other w g' g ds hne).trans h
theorem Blk.setCell (h : Blk w g t cs) (i : Nat) (u : Value) : Blk (w.setCell ⟨g, i, none⟩ u) g t (cs.setIfInBounds i u) := by
  unfold Blk at h ⊢
  simp [World.setCell, Array.getElem?_modify, h]
theorem Blk.far (h : Blk w g t cs) {p : Addr} (hp : g ≠ p.block) (u : Value) : Blk (w.setCell p u) g t cs := (Below.heap_setCell w p u g hp).trans h
theorem Blk.ne {g' : Nat} {t' : TypeId} {cs' : Array Value} (h : Blk w g t cs) (h' : Blk w g' t' cs') (hne : t ≠ t') : g ≠ g' := by
  rintro rfl
  unfold Blk at h h'
  rw [h] at h'
  injection h' with h'
  injection h' with _ ht
  exact hne ht
end blk

/-- A slice type t over elements of type e, of k cells and so many bytes, zs their zero. -/
structure ElT (P : Program) (t e : TypeId) (k bytes : Nat) (zs : List Value) : Prop where
  und : P.underlying t = some (.slice e)
  info : ∃ i z, P.info? e = some i ∧ i.zero = some z ∧ i.size = k ∧ i.bytes = bytes ∧ z.cells.toList = zs ∧ zs.length = k
  pos : 0 < k
  one : ∀ u ∈ zs, u.oneCell' = true

theorem ElT.mk' {P : Program} {t e : TypeId} {k bytes : Nat} {z : Value} (h : P.underlying t = some (.slice e)) (hi : (P.info? e).map (fun i => (i.zero, i.size, i.bytes)) = some (some z, k, bytes))
    (hz : z.cells.toList.length = k) (hk : 0 < k) (h1 : ∀ u ∈ z.cells.toList, u.oneCell' = true) : ElT P t e k bytes z.cells.toList := by
  obtain ⟨i, a, b, c, d⟩ := info_parts hi
  exact ⟨h, ⟨i, z, a, b, c, d, rfl, hz⟩, hk, h1⟩

section runs
variable {P : Program} {t e : TypeId} {k bytes : Nat} {zs : List Value} (hE : ElT P t e k bytes zs)
include hE

theorem ElT.zeros (n : Nat) : ∃ Z : Array Value, Z.size = n * k ∧ (∀ u ∈ Z.toList, u.oneCell' = true) ∧ ∀ z : Value, z.cells.toList = zs → Builtin.zeroCells z.cells n = Z := by
  obtain ⟨i, z, _, _, _, _, hz, hl⟩ := hE.info
  refine ⟨Builtin.zeroCells z.cells n, ?_, ?_, fun z' hz' => ?_⟩
  · have : z.cells.size = k := by rw [← Array.length_toList, hz, hl]
    simp [Builtin.zeroCells, this]
  · intro u hu
    have hzs : z.cells.size = k := by rw [← Array.length_toList, hz, hl]
    simp only [Builtin.zeroCells, Array.toList_map, List.mem_map] at hu
    obtain ⟨j, hj, rfl⟩ := hu
    have hlt : j % z.cells.size < z.cells.size := Nat.mod_lt _ (by rw [hzs]; exact hE.pos)
    rw [getElem!_pos z.cells _ hlt]
    exact hE.one _ (by rw [← hz]; simp)
  · have : z'.cells = z.cells := by
      apply Array.ext'
      rw [hz, hz']
    rw [this]

theorem run_copyK (w : World) (ty : TypeId) (g o dLen dCap : Nat) (a : Addr) (sLen sCap : Nat) (cur : Array Value) (tb : TypeId) (cs : List Value)
    (hg : w.heap[g]? = some (.cells cur tb (0, 0))) (m : Nat) (hm : Nat.min sLen dLen = m) (hn : cs.length = m * k)
    (hsrc : ∀ j v, cs[j]? = some v → w.cell? (a.add j) = some v) (hfit : o + cs.length ≤ cur.size) (h1 : ∀ v ∈ cs, v.oneCell' = true) :
    (Builtin.copy_ #[t, t] ty #[.slice (some ⟨g, o, none⟩) dLen dCap, .slice (some a) sLen sCap]).run P w =
      .ok (goInt m) (w.setRow g (cur.toList.take o ++ cs ++ cur.toList.drop (o + cs.length)).toArray) := by
  obtain ⟨i, z, hi, hz, hs, hb, _, _⟩ := hE.info
  have hf := run_firstCells_some (P := P) w i.size m a sLen sCap cs (by rw [hs]; exact hn) hsrc
  have hst := run_storeCells_at P g o tb cs 0 cur w hg (by simpa using hfit) h1
  simp only [Nat.add_zero] at hst
  simp [Builtin.copy_, run_underlying hE.und, sizeOf, typeInfo, hi, Builtin.lenOf, hm, hf, hst]

theorem run_clearK (w : World) (ty : TypeId) (g o n c : Nat) (cur : Array Value) (tb : TypeId) (hg : w.heap[g]? = some (.cells cur tb (0, 0))) (hfit : o + n * k ≤ cur.size) :
    ∃ Z : List Value, Z.length = n * k ∧ (Builtin.clear_ #[t] ty #[.slice (some ⟨g, o, none⟩) n c]).run P w =
      .ok (.tuple #[]) (w.setRow g (cur.toList.take o ++ Z ++ cur.toList.drop (o + n * k)).toArray) := by
  obtain ⟨i, z, hi, hz, hs, hb, hzz, hzl⟩ := hE.info
  obtain ⟨Z, hZ, hZ1, hZe⟩ := hE.zeros n
  refine ⟨Z.toList, by simpa using hZ, ?_⟩
  have hst := run_storeCells_at P g o tb Z.toList 0 cur w hg (by simp [hZ]; omega) hZ1
  simp only [Nat.add_zero, Array.length_toList, hZ] at hst
  cases n with
  | zero =>
    have : Z.toList = [] := List.eq_nil_of_length_eq_zero (by simp [hZ])
    simp [Builtin.clear_, run_underlying hE.und, this]
    rw [setRow_self w g cur tb (0, 0) hg]
  | succ n => simp [Builtin.clear_, run_underlying hE.und, zeroValue, typeInfo, hi, hz, hZe z hzz, hst]

/-- append(s[:i], make([]E, l)...) where it must grow. -/
theorem run_append_make (w : World) (ty tI : TypeId) (ik : P.underlying tI = some (.int .i64)) (g i cap : Nat) (l : Nat) (hl : 0 < l) (olds : List Value) (hlo : olds.length = i * k)
    (holds : ∀ j v, olds[j]? = some v → w.cell? ((⟨g, 0, none⟩ : Addr).add j) = some v) (hgr : cap < i + l) (hb : (i + l) * bytes ≤ 140737488355328) (hm : i + l ≤ maxLen) :
    ∃ (C : Nat) (Z : List Value), i + l ≤ C ∧ C ≤ maxLen ∧ Z.length = (C - i) * k ∧ (∀ u ∈ Z, u.oneCell' = true) ∧ (Builtin.append_ #[t, tI] ty #[.slice (some ⟨g, 0, none⟩) i cap, .int .i64 l]).run P w =
      .ok (.slice (some ⟨w.heap.size, 0, none⟩) (i + l) C) (w.drew.alloc (.cells (olds ++ Z).toArray e)) := by
  obtain ⟨inf, z, hi, hz, hs, hby, hzz, hzl⟩ := hE.info
  have hzc : z.cells.size = k := by rw [← Array.length_toList, hzz, hzl]
  have hge := grownCap_ge w (i + l) cap e
  have hle := grownCap_le_maxLen w (i + l) cap e hm
  obtain ⟨Z1, hZ1, hZ1o, hZe1⟩ := hE.zeros l
  obtain ⟨Z2, hZ2, hZ2o, hZe2⟩ := hE.zeros (grownCap w (i + l) cap e - (i + l))
  refine ⟨grownCap w (i + l) cap e, Z1.toList ++ Z2.toList, hge, hle, ?_, ?_, ?_⟩
  · simp [hZ1, hZ2, ← Nat.add_mul]
    congr 1
    omega
  · intro u hu
    rcases List.mem_append.1 hu with h | h
    · exact hZ1o u h
    · exact hZ2o u h
  have hfirst := run_firstCells_some (P := P) w.drew inf.size i ⟨g, 0, none⟩ i cap olds (by rw [hs]; exact hlo) (by simpa using holds)
  have hm' := hm
  unfold maxLen at hm'
  have hlb : l * bytes ≤ 140737488355328 := Nat.le_trans (Nat.mul_le_mul_right _ (by omega)) hb
  have hwl : IntKind.i64.wrap (l : Int) = l := by rw [IntKind.wrap_i64]; omega
  have hx : (l : Int) * (inf.bytes : Int) = ((l * bytes : Nat) : Int) := by rw [hby]; push_cast; rfl
  have h48 : ¬ (281474976710656 < (l : Int) * (inf.bytes : Int)) := by rw [hx]; omega
  have hcapn : ¬ (281474976710656 < Builtin.nextslicecap (i + l) cap * inf.bytes) := by rw [hby]; have := growslice_fits hgr hb; omega
  have h63 : ¬ (9223372036854775807 < (i : Int) + (l : Int)) := by omega
  have hneg : ¬ ((l : Int) < 0) := by omega
  have hnc : ¬ (i + l ≤ cap) := by omega
  have hls : ¬ (l * inf.size = 0) := by
    intro h
    rcases Nat.mul_eq_zero.1 h with h | h
    · omega
    · have := hE.pos; omega
  clear hx hby hlb hb hm'
  have hZ2e := hZe2 z hzz
  unfold grownCap at hZ2e
  simp [Builtin.append_, run_underlying hE.und, run_underlying ik, sizeOf, typeInfo, zeroValue, hi, hz, Builtin.lenOf, asInt, asIntOf, Question.forced, hfirst, newRow, hZe1 z hzz, hZ2e, hwl, h48, hneg, hnc, h63, hcapn, grownCap]
  rw [if_neg hls]
  have hA : olds.toArray ++ (Z1 ++ Z2) = (olds ++ (Z1.toList ++ Z2.toList)).toArray := by
    apply Array.ext'
    simp
  simp only [hA]
theorem ElT.zero : ∃ i z, P.info? e = some i ∧ i.zero = some z ∧ z.cells.size = k := by
  obtain ⟨i, z, hi, hz, _, _, hzz, hzl⟩ := hE.info
  exact ⟨i, z, hi, hz, by rw [← Array.length_toList, hzz, hzl]⟩

theorem ElT.append (w : World) (ty : TypeId) (base : Nat) (v : Value) (n : Nat) (xs : List Value) (hown : w.ownsRow base e k v n xs)
    (a : Addr) (m c : Nat) (news : List Value) (hl : news.length = m * k) (hnews : ∀ j u, news[j]? = some u → w.cell? (a.add j) = some u) (h1 : ∀ u ∈ news, u.oneCell' = true)
    (h63 : n + m ≤ maxLen) (hbytes : (n + m) * bytes ≤ 140737488355328) (hbase : base ≤ w.heap.size) :
    ∃ v' w', (Builtin.append_ #[t, t] ty #[v, .slice (some a) m c]).run P w = .ok v' w' ∧ w'.ownsRow base e k v' (n + m) (xs ++ news) ∧ w.grownBy w' v.ownBlock ∧
      (v' = .slice none 0 0 ↔ v = .slice none 0 0 ∧ m = 0) ∧ (v'.ownBlock = v.ownBlock ∨ v'.ownBlock = some w.heap.size) := by
  obtain ⟨i, z, hi, hz, hs, hb, hzz, hzl⟩ := hE.info
  exact run_append_own_at w base t ty e i z k bytes hE.und hi hz hs hb (by rw [← Array.length_toList, hzz, hzl]) hE.pos v n xs hown a m c news hl hnews h1 h63 hbytes hbase
end runs

section steps
variable {P : Program} {ops : Array Oper} {rest : List Oper} {o : Oper} {a : Act} {w w' : World} {Q : Exit → Act → World → Prop} {K : Act → World → Prop} {E : Prop} {v x y : Value}
theorem wp_append (s u : Operand) (t1 t2 : TypeId) (ho : o.op = .call { callee := .builtin .append, args := #[s, u], argTypes := #[t1, t2] }) (hs : a.eval s = x) (hu : a.eval u = y)
    (hrun : (Builtin.append_ #[t1, t2] o.type #[x, y]).run P w = .ok v w') (h : K (a.put o.dst v) w') : o.wp P a w K Q := by
  unfold Oper.wp execOp
  simp only [ho, resolve, invoke, builtin, Sem.run_bind, Sem.run_pure, Result.andThen_ok, List.map_toArray, List.map_cons, List.map_nil, hs, hu, hrun]
  exact h
theorem wp_copy (s u : Operand) (t1 t2 : TypeId) (ho : o.op = .call { callee := .builtin .copy, args := #[s, u], argTypes := #[t1, t2] }) (hs : a.eval s = x) (hu : a.eval u = y)
    (hrun : (Builtin.copy_ #[t1, t2] o.type #[x, y]).run P w = .ok v w') (h : K (a.put o.dst v) w') : o.wp P a w K Q := by
  unfold Oper.wp execOp
  simp only [ho, resolve, invoke, builtin, Sem.run_bind, Sem.run_pure, Result.andThen_ok, List.map_toArray, List.map_cons, List.map_nil, hs, hu, hrun]
  exact h
theorem wp_clear (s : Operand) (t1 : TypeId) (ho : o.op = .call { callee := .builtin .clear, args := #[s], argTypes := #[t1] }) (hs : a.eval s = x)
    (hrun : (Builtin.clear_ #[t1] o.type #[x]).run P w = .ok v w') (h : K (a.put o.dst v) w') : o.wp P a w K Q := by
  unfold Oper.wp execOp
  simp only [ho, resolve, invoke, builtin, Sem.run_bind, Sem.run_pure, Result.andThen_ok, List.map_toArray, List.map_cons, List.map_nil, hs, hrun]
  exact h
theorem wanted (hg : o.guard = none) (h : o.wp P a w K Q) : if Region.wanted o (yielded ops a.tmps) = true then Oper.wp P o a w K Q else E := by
  rw [if_pos (by simp [Region.wanted, hg])]
  exact h
theorem wpl_append (hg : o.guard = none) (s u : Operand) (t1 t2 : TypeId) (ho : o.op = .call { callee := .builtin .append, args := #[s, u], argTypes := #[t1, t2] }) (hs : a.eval s = x) (hu : a.eval u = y)
    (hrun : (Builtin.append_ #[t1, t2] o.type #[x, y]).run P w = .ok v w') (h : wpList P ops Q rest (a.put o.dst v) w') : wpList P ops Q (o :: rest) a w :=
  wpList_plain hg fun _ hK => wp_append s u t1 t2 ho hs hu hrun (hK _ _ h)
theorem wpl_copy (hg : o.guard = none) (s u : Operand) (t1 t2 : TypeId) (ho : o.op = .call { callee := .builtin .copy, args := #[s, u], argTypes := #[t1, t2] }) (hs : a.eval s = x) (hu : a.eval u = y)
    (hrun : (Builtin.copy_ #[t1, t2] o.type #[x, y]).run P w = .ok v w') (h : wpList P ops Q rest (a.put o.dst v) w') : wpList P ops Q (o :: rest) a w :=
  wpList_plain hg fun _ hK => wp_copy s u t1 t2 ho hs hu hrun (hK _ _ h)
theorem wpl_clear (hg : o.guard = none) (s : Operand) (t1 : TypeId) (ho : o.op = .call { callee := .builtin .clear, args := #[s], argTypes := #[t1] }) (hs : a.eval s = x)
    (hrun : (Builtin.clear_ #[t1] o.type #[x]).run P w = .ok v w') (h : wpList P ops Q rest (a.put o.dst v) w') : wpList P ops Q (o :: rest) a w :=
  wpList_plain hg fun _ hK => wp_clear s t1 ho hs hrun (hK _ _ h)
theorem st_append (hg : o.guard = none) (s u : Operand) (t1 t2 : TypeId) (ho : o.op = .call { callee := .builtin .append, args := #[s, u], argTypes := #[t1, t2] }) (hs : a.eval s = x) (hu : a.eval u = y)
    (hrun : (Builtin.append_ #[t1, t2] o.type #[x, y]).run P w = .ok v w') (h : K (a.put o.dst v) w') : if Region.wanted o (yielded ops a.tmps) = true then Oper.wp P o a w K Q else E :=
  wanted hg (wp_append s u t1 t2 ho hs hu hrun h)
theorem st_copy (hg : o.guard = none) (s u : Operand) (t1 t2 : TypeId) (ho : o.op = .call { callee := .builtin .copy, args := #[s, u], argTypes := #[t1, t2] }) (hs : a.eval s = x) (hu : a.eval u = y)
    (hrun : (Builtin.copy_ #[t1, t2] o.type #[x, y]).run P w = .ok v w') (h : K (a.put o.dst v) w') : if Region.wanted o (yielded ops a.tmps) = true then Oper.wp P o a w K Q else E :=
  wanted hg (wp_copy s u t1 t2 ho hs hu hrun h)
end steps

theorem add_add (a : Addr) (i j : Nat) : (a.add i).add j = a.add (i + j) := by
  unfold Addr.add
  by_cases hi : i = 0 <;> by_cases hj : j = 0 <;> simp [hi, hj, Nat.add_assoc]
theorem add_block (a : Addr) (i : Nat) : (a.add i).block = a.block := by unfold Addr.add; split <;> rfl

/-- A struct type of k cells. -/
structure StT (P : Program) (e : TypeId) (k : Nat) : Prop where
  und : ∃ fs, P.underlying e = some (.struct fs)
  size : (P.info? e).map (·.size) = some k

/-- These cells lie from an address on. -/
def At (w : World) (a : Addr) (cs : List Value) : Prop := ∀ j u, cs[j]? = some u → w.cell? (a.add j) = some u
theorem At.chg {w w' : World} {T : Nat → Prop} {a : Addr} {cs : List Value} (h : At w a cs) (hc : Chg w w' T) (hn : ¬ T a.block) : At w' a cs :=
  fun j u hu => hc.cellS (h j u hu) (by rw [add_block]; exact hn)
theorem Blk.at_ {w : World} {g : Nat} {t : TypeId} {cs : List Value} (h : Blk w g t cs.toArray) : At w ⟨g, 0, none⟩ cs := fun j u hj => by
  rw [Addr.add_lit, Nat.zero_add, h.cell]
  simpa using hj

/-- Rows of k cells each lie from an address on. -/
def RowsAt (w : World) (a : Addr) (k : Nat) (css : List (List Value)) : Prop := ∀ i cs, css[i]? = some cs → cs.length = k ∧ At w (a.add (i * k)) cs
theorem RowsAt.chg {w w' : World} {T : Nat → Prop} {a : Addr} {k : Nat} {css : List (List Value)} (h : RowsAt w a k css) (hc : Chg w w' T) (hn : ¬ T a.block) : RowsAt w' a k css :=
  fun i cs hi => ⟨(h i cs hi).1, (h i cs hi).2.chg hc (by rw [add_block]; exact hn)⟩

theorem flatten_len {k : Nat} : ∀ {css : List (List Value)}, (∀ cs ∈ css, cs.length = k) → css.flatten.length = css.length * k
  | [], _ => by simp
  | c :: css, h => by
    have ih := flatten_len (css := css) (fun cs hc => h cs (by simp [hc]))
    simp only [List.flatten_cons, List.length_append, ih, h c (by simp), List.length_cons, Nat.add_mul]
    omega
theorem flatten_take {k : Nat} : ∀ {css : List (List Value)} (i : Nat), (∀ cs ∈ css, cs.length = k) → css.flatten.take (i * k) = (css.take i).flatten
  | [], _, _ => by simp
  | c :: css, 0, _ => by simp
  | c :: css, i + 1, h => by
    have ih := flatten_take (css := css) i (fun cs hc => h cs (by simp [hc]))
    have hc := h c (by simp)
    simp only [List.flatten_cons, List.take_succ_cons]
    rw [show (i + 1) * k = c.length + i * k by rw [Nat.add_mul, hc]; omega, List.take_length_add_append, ih]
theorem flatten_drop {k : Nat} : ∀ {css : List (List Value)} (i : Nat), (∀ cs ∈ css, cs.length = k) → css.flatten.drop (i * k) = (css.drop i).flatten
  | [], _, _ => by simp
  | c :: css, 0, _ => by simp
  | c :: css, i + 1, h => by
    have ih := flatten_drop (css := css) i (fun cs hc => h cs (by simp [hc]))
    have hc := h c (by simp)
    simp only [List.flatten_cons, List.drop_succ_cons]
    rw [show (i + 1) * k = c.length + i * k by rw [Nat.add_mul, hc]; omega, List.drop_length_add_append, ih]
theorem flatten_get {k : Nat} {css : List (List Value)} (h : ∀ cs ∈ css, cs.length = k) {i : Nat} {cs : List Value} (hi : css[i]? = some cs) {j : Nat} {u : Value} (hj : cs[j]? = some u) : css.flatten[i * k + j]? = some u := by
  have hd := flatten_drop (css := css) i h
  have hlt : i < css.length := (List.getElem?_eq_some_iff.1 hi).1
  rw [← List.getElem?_drop, hd, List.drop_eq_getElem_cons hlt, List.flatten_cons]
  have he : css[i] = cs := by rw [List.getElem?_eq_getElem hlt] at hi; exact Option.some.inj hi
  rw [he, List.getElem?_append_left (List.getElem?_eq_some_iff.1 hj).1]
  exact hj

section own
variable {w w' : World} {base : Nat} {e : TypeId} {k : Nat} {v : Value} {css : List (List Value)}
/-- Rows of k cells each, in a row that is owned. -/
def Own (w : World) (base : Nat) (e : TypeId) (k : Nat) (v : Value) (css : List (List Value)) : Prop := w.ownsRow base e k v css.length css.flatten ∧ ∀ cs ∈ css, cs.length = k
theorem Own.rows (h : Own w base e k v css) {A : Option Addr} {n c : Nat} (hv : v = .slice A n c) : n = css.length ∧ (0 < css.length → ∃ a, A = some a ∧ RowsAt w a k css) := by
  rcases h.1.2 with ⟨h1, h2⟩ | ⟨g, cap, cur, h1, hb, hg, hn, hm, hs, ht⟩
  · rw [hv] at h1
    simp only [Value.slice.injEq] at h1
    exact ⟨by omega, fun hp => by omega⟩
  · rw [hv] at h1
    simp only [Value.slice.injEq] at h1
    refine ⟨h1.2.1, fun _ => ⟨⟨g, 0, none⟩, h1.1, fun i cs hi => ⟨h.2 cs (List.mem_of_getElem? hi), fun j u hj => ?_⟩⟩⟩
    have hf := flatten_get h.2 hi hj
    rw [Addr.add_lit, Nat.zero_add, Addr.add_lit, cell_of_row w g _ cur e (0, 0) hg]
    rw [← ht, List.getElem?_take] at hf
    split at hf
    · simpa using hf
    · cases hf
theorem Own.form (h : Own w base e k v css) : ∃ A cap, v = .slice A css.length cap ∧ css.length ≤ cap ∧ cap ≤ maxLen := by
  rcases h.1.2 with ⟨h1, h2⟩ | ⟨g, cap, cur, h1, hb, hg, hn, hm, hs, ht⟩
  · exact ⟨none, 0, by rw [h1, h2], by omega, Nat.zero_le _⟩
  · exact ⟨_, cap, h1, hn, hm⟩
theorem Own.kept {row : Option Nat} (h : Own w base e k v css) (hg : w.grownBy w' row) (hne : v.ownBlock = none ∨ v.ownBlock ≠ row) : Own w' base e k v css := ⟨h.1.kept hg hne, h.2⟩
theorem Own.chg {T : Nat → Prop} (h : Own w base e k v css) (hc : Chg w w' T) (hne : ∀ g, v.ownBlock = some g → ¬ T g) : Own w' base e k v css := by
  refine ⟨⟨h.1.1, ?_⟩, h.2⟩
  rcases h.1.2 with ⟨h1, h2⟩ | ⟨g, cap, cur, h1, hb, hg, r⟩
  · exact .inl ⟨h1, h2⟩
  · exact .inr ⟨g, cap, cur, h1, hb, (hc.block g (lt_of_heap hg) (hne g (by rw [h1]; rfl))).trans hg, r⟩
theorem Own.lt (h : Own w base e k v css) {g : Nat} (hg : v.ownBlock = some g) : base ≤ g ∧ g < w.heap.size := h.1.lt g hg
theorem Own.nil (w : World) (base : Nat) (e : TypeId) (k : Nat) : Own w base e k (.slice none 0 0) [] := ⟨World.ownsRow_nil w base e k, by simp⟩
end own

section loads
variable {P : Program} {ops : Array Oper} {rest : List Oper} {o : Oper} {a : Act} {w : World} {Q : Exit → Act → World → Prop} {e : TypeId} {k : Nat}
theorem run_loadK (hS : StT P e k) (ad : Addr) (cs : List Value) (hl : cs.length = k) (hc : At w ad cs) : (loadVar e ad).run P w = .ok (.agg cs.toArray) w := by
  obtain ⟨fs, hu⟩ := hS.und
  have hld := run_loadCells_list (P := P) w ad cs hc
  have hsz := hS.size
  cases hq : P.info? e with
  | none => simp [hq] at hsz
  | some i =>
    have hs : i.size = cs.length := by simp [hq] at hsz; omega
    have hagg : (isAgg e).run P w = .ok true w := by
      unfold isAgg
      rw [Sem.run_bind, run_underlying hu w]
      simp
    simp [loadVar, Sem.run_bind, hagg, sizeOf, typeInfo, hq, hs, hld]
theorem wpl_load (hg : o.guard = none) (x : Operand) (e : TypeId) (ho : o.op = .load e x) (hS : StT P e k) (ad : Addr) (cs : List Value) (hx : a.eval x = .pointer (some ad)) (hl : cs.length = k) (hc : At w ad cs)
    (h : wpList P ops Q rest (a.put o.dst (.agg cs.toArray)) w) : wpList P ops Q (o :: rest) a w := by
  refine wpList_plain hg fun K hK => ?_
  have hrun := run_loadK (P := P) (w := w) hS ad cs hl hc
  unfold Oper.wp execOp
  simp only [ho, hx, Instr.loadAt, Instr.sureAddr, Sem.run_bind, Sem.run_pure, Result.andThen_ok, hrun]
  exact hK _ _ h
theorem wpl_loadg (hw : Region.wanted o (yielded ops a.tmps) = true) (x : Operand) (e : TypeId) (ho : o.op = .load e x) (hS : StT P e k) (ad : Addr) (cs : List Value) (hx : a.eval x = .pointer (some ad)) (hl : cs.length = k) (hc : At w ad cs)
    (h : wpList P ops Q rest (a.put o.dst (.agg cs.toArray)) w) : wpList P ops Q (o :: rest) a w := by
  refine BigFrame.wpList_want hw fun K hK => ?_
  have hrun := run_loadK (P := P) (w := w) hS ad cs hl hc
  unfold Oper.wp execOp
  simp only [ho, hx, Instr.loadAt, Instr.sureAddr, Sem.run_bind, Sem.run_pure, Result.andThen_ok, hrun]
  exact hK _ _ h
end loads

/-- A list with a piece laid over it. -/
def lay (L : List Value) (o : Nat) (cs : List Value) : List Value := L.take o ++ cs ++ L.drop (o + cs.length)
theorem lay_length {L : List Value} {o : Nat} {cs : List Value} (h : o + cs.length ≤ L.length) : (lay L o cs).length = L.length := by
  unfold lay
  simp only [List.length_append, List.length_take, List.length_drop]
  omega
def layA (C : Array Value) (o : Nat) (cs : List Value) : Array Value := (lay C.toList o cs).toArray

section stores
variable {P : Program} {ops : Array Oper} {rest : List Oper} {o o1 o2 : Oper} {a : Act} {w : World} {Q : Exit → Act → World → Prop} {e : TypeId} {k : Nat}
theorem run_storeK (hS : StT P e k) (g off : Nat) (t : TypeId) (cur : Array Value) (cs : List Value) (hB : Blk w g t cur) (hl : cs.length = k) (hfit : off + k ≤ cur.size) (h1 : ∀ u ∈ cs, u.oneCell' = true) :
    (storeVar e ⟨g, off, none⟩ (.agg cs.toArray)).run P w = .ok () (w.setRow g (cur.toList.take off ++ cs ++ cur.toList.drop (off + cs.length)).toArray) := by
  have hsz := hS.size
  have hst := run_storeCells_at P g off t cs 0 cur w hB (by omega) h1
  simp only [Nat.add_zero] at hst
  cases hq : P.info? e with
  | none => simp [hq] at hsz
  | some i =>
    have hs : i.size = cs.length := by simp [hq] at hsz; omega
    simp [storeVar, sizeOf, typeInfo, hq, Value.cells, hs, hst]
theorem wpl_store (hg : o.guard = none) (x y : Operand) (e : TypeId) (ho : o.op = .store e x y) (hS : StT P e k) (g off : Nat) (t : TypeId) (cur : Array Value) (cs : List Value) (hx : a.eval x = .pointer (some ⟨g, off, none⟩)) (hy : a.eval y = .agg cs.toArray)
    (hB : Blk w g t cur) (hl : cs.length = k) (hfit : off + k ≤ cur.size) (h1 : ∀ u ∈ cs, u.oneCell' = true)
    (h : wpList P ops Q rest (a.put o.dst undef) (w.setRow g (layA cur off cs))) : wpList P ops Q (o :: rest) a w := by
  refine wpList_plain hg fun K hK => ?_
  have hrun := run_storeK (P := P) hS g off t cur cs hB hl hfit h1
  unfold Oper.wp execOp
  simp only [ho, hx, hy, Instr.storeAt, Instr.sureAddr, Sem.run_bind, Sem.run_pure, Result.andThen_ok, hrun]
  exact hK _ _ h
/-- A variable in a box of its own, and what is laid into it. -/
theorem wpl_box (hg1 : o1.guard = none) (hg2 : o2.guard = none) (t : Tmp) (x : Operand) (e : TypeId) (ho1 : o1.op = .alloc e) (hd1 : o1.dst = some t) (ho2 : o2.op = .store e (.tmp t) x) (hd2 : o2.dst = none)
    (hS : StT P e k) (hz : ∃ i z, P.info? e = some i ∧ i.zero = some z ∧ z.cells.size = k) (cs : List Value) (ht : t < a.tmps.size) (hx : (a.put (some t) (.pointer (some ⟨w.heap.size, 0, none⟩))).eval x = .agg cs.toArray) (hl : cs.length = k) (h1 : ∀ u ∈ cs, u.oneCell' = true)
    (h : ∀ w2, New w w2 → Blk w2 w.heap.size e cs.toArray → w2.heap.size = w.heap.size + 1 → wpList P ops Q rest (a.put (some t) (.pointer (some ⟨w.heap.size, 0, none⟩))) w2) : wpList P ops Q (o1 :: o2 :: rest) a w := by
  refine wpList_plain hg1 fun K hK => ?_
  obtain ⟨i, z, hi, hz, hzs⟩ := hz
  have hsz : i.size = k := by have := hS.size; simp [hi] at this; exact this
  have hrun : (execOp a.eval o1).run P w = .ok (.value (.pointer (some ⟨w.heap.size, 0, none⟩))) (w.alloc (.cells z.cells e)) := by
    unfold execOp
    simp [ho1, Instr.alloc, newVar, newRow, zeroValue, typeInfo, hi, hz]
  unfold Oper.wp
  rw [hrun]
  simp only [Oper.upon, hd1]
  refine hK _ _ ?_
  refine wpl_store hg2 (.tmp t) x e ho2 hS w.heap.size 0 e z.cells cs ?_ hx (Blk.new w e z.cells) hl (by omega) h1 ?_
  · simp [Act.eval, Act.put, ht]
  · simp only [hd2, Act.put]
    refine h _ (((Chg.refl w _).alloc _).setRow _ _ (fun h => absurd h (by omega))) ?_ (by simp)
    have hb := (Blk.new w e z.cells).set (layA z.cells 0 cs)
    have he : layA z.cells 0 cs = cs.toArray := by
      unfold layA lay
      congr 1
      rw [List.drop_of_length_le (by simp; omega)]
      simp
    rw [he] at hb ⊢
    exact hb
end stores

/-- What a function value answers at these cells, whatever was made, or done to the blocks of T, in the meantime. -/
def Says (P : Program) (w : World) (T : Nat → Prop) (g : Nat) (lb args : Array Value) (r : Value) : Prop := ∀ W, Chg w W T → Calls P g (args ++ lb) W fun e W' => e = .returned r ∧ New W W'
theorem Says.chg {P : Program} {w w' : World} {T : Nat → Prop} {g : Nat} {lb args : Array Value} {r : Value} (h : Says P w T g lb args r) (hc : Chg w w' T) : Says P w' T g lb args r := fun W hW => h W (hc.trans hW (fun _ _ x => x))

theorem take_succ_get {α : Type} {l : List α} {k : Nat} {x : α} (h : l[k]? = some x) : l.take (k + 1) = l.take k ++ [x] := by
  obtain ⟨hlt, he⟩ := List.getElem?_eq_some_iff.1 h
  rw [List.take_succ_eq_append_getElem hlt, he]

/-- What has become of the row when j have been looked at. -/
structure DfInv (K j i n cap : Nat) (css : List (List Value)) (p : List Value → Bool) (L : List Value) : Prop where
  len : L.length = cap * K
  cnt : i = ((css.take j).filter fun c => !p c).length
  lt : i < j
  le : j ≤ n
  front : L.take (i * K) = ((css.take j).filter fun c => !p c).flatten
  back : ∀ q cs, j ≤ q → css[q]? = some cs → ∀ r u, cs[r]? = some u → L[q * K + r]? = some u

theorem DfInv.drop {K j i n cap : Nat} {css : List (List Value)} {p : List Value → Bool} {L : List Value} (h : DfInv K j i n cap css p L) {cs : List Value} (hcs : css[j]? = some cs) (hj : j < n) (hp : p cs = true) : DfInv K (j + 1) i n cap css p L := by
  have e : (css.take (j + 1)).filter (fun c => !p c) = (css.take j).filter fun c => !p c := by
    rw [take_succ_get hcs, List.filter_append]
    simp [hp]
  exact ⟨h.len, by rw [e]; exact h.cnt, by have := h.lt; omega, hj, by rw [e]; exact h.front, fun q cs' hq => h.back q cs' (by omega)⟩

theorem DfInv.keep {K j i n cap : Nat} {css : List (List Value)} {p : List Value → Bool} {L : List Value} (h : DfInv K j i n cap css p L) {cs : List Value} (hcs : css[j]? = some cs) (hj : j < n) (hnc : n ≤ cap) (hp : p cs = false) (hl : cs.length = K) :
    DfInv K (j + 1) (i + 1) n cap css p (lay L (i * K) cs) := by
  unfold lay
  have e : (css.take (j + 1)).filter (fun c => !p c) = ((css.take j).filter fun c => !p c) ++ [cs] := by
    rw [take_succ_get hcs, List.filter_append]
    simp [hp]
  have hlt := h.lt
  have hiK : i * K + K ≤ j * K := by rw [← Nat.succ_mul]; exact Nat.mul_le_mul_right _ hlt
  have hjK : j * K + K ≤ cap * K := by rw [← Nat.succ_mul]; exact Nat.mul_le_mul_right _ (by omega)
  have hll := h.len
  have hlen1 : (L.take (i * K)).length = i * K := by rw [List.length_take]; omega
  refine ⟨?_, by rw [e, List.length_append, ← h.cnt]; rfl, by omega, hj, ?_, fun q cs' hq hcs' r u hu => ?_⟩
  · rw [List.length_append, List.length_append, hlen1, List.length_drop]
    omega
  · rw [e, List.flatten_append, ← h.front, Nat.succ_mul, List.take_append_of_le_length (by rw [List.length_append, hlen1]; omega)]
    simp only [List.flatten_cons, List.flatten_nil, List.append_nil]
    exact List.take_of_length_le (by rw [List.length_append, hlen1]; omega)
  · have h0 := h.back q cs' (by omega) hcs' r u hu
    have hqK : j * K + K ≤ q * K := by rw [← Nat.succ_mul]; exact Nat.mul_le_mul_right _ hq
    rw [List.getElem?_append_right (by rw [List.length_append, hlen1]; omega), List.getElem?_drop, List.length_append, hlen1, ← h0]
    congr 1
    omega


end Go.Proofs.Ytffmalagochakaa
