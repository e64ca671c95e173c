/- The names in a map, sorted by the library: slices.Sorted(maps.Keys(m)). -/
import Derived.Test.YtffmalagochakaaFarP
import Derived.Shelf.SlIter.Nil
import Derived.Shelf.SortM.Plain
import Derived.Shelf.SortM.SortNone
import Derived.Ground.GgzProg
import Derived.Ground.SlgmProg
set_option linter.unusedVariables false
set_option linter.unusedSimpArgs false
namespace Go.Proofs.Ytffmalagochakaa
open Go.RowKit Go.Shelf

shelf_lay_g SlLaysZ.n7 Ggz 7 at Try 22 as Try.keysA
shelf_lay_g SlLaysZ.n6 Ggz 6 at Try 21 as Try.sortedA
shelf_lay_g SlLaysM.n6 Slgm 6 at Try 27 as Try.sortA

theorem sortsA (m : Nat) : AnyZ.SortsIn Try.prog Try.sortedA_ren Fence.wide m :=
  ⟨fun blk off cap ss W hH hblk hsz => callsIn_wide.2 (AnyM.slices_Sort_string Try.sortA blk off cap ss W hH hblk hsz),
   fun p cap W => callsIn_wide.2 (AnyM.slices_Sort_string_none Try.sortA p cap W)⟩

def bsL (s : ByteArray) : List UInt8 := s.data.toList
def ofL (l : List UInt8) : ByteArray := ⟨l.toArray⟩
theorem ofL_bsL (s : ByteArray) : ofL (bsL s) = s := rfl
theorem bsL_inj {s t : ByteArray} (h : bsL s = bsL t) : s = t := ByteArray.ext (Array.toList_inj.1 h)
/-- The names of a map, by rising bytes, each once. -/
structure KeysF (f : ByteArray → Option Int) (ns : List ByteArray) : Prop where
  mem : ∀ s, s ∈ ns ↔ s.size ≤ maxLen ∧ (f s).isSome = true
  up : ns.Pairwise (fun a b => bsL a ≤ bsL b ∧ a ≠ b)
def nmC (s : ByteArray) : List Value := [.string s]
theorem strKeys_nodup {w : World} {b n : Nat} {D : D1} (h : w.ownsMap Try.prog 9 (plainElem (H := Unit) Try.prog 3) b n D) : (strKeys D).Nodup ∧ ∀ x, x ∈ strKeys D ↔ Maps.has D (.string x) = true := by
  obtain ⟨es, hD, hp, _⟩ := h.entries (Maps.string_keyed Try.underlying9)
  obtain ⟨es', hD', hko⟩ := h.keysOf
  obtain rfl : es = es' := by rw [hD] at hD'; simpa using hD'
  subst hD
  have hk : ∀ p ∈ es, ∃ x, p.1 = .string x := fun p hp => by
    obtain ⟨v, hv⟩ := hko p hp
    obtain ⟨x, _, hx, _⟩ := Maps.keyOf_str Try.underlying9 hv
    exact ⟨x, hx⟩
  constructor
  · show (es.map fun p => strOf p.1).Nodup
    refine List.pairwise_map.2 (hp.imp_of_mem fun {p q} hp' hq' hne e => hne ?_)
    obtain ⟨a, ha⟩ := hk p hp'
    obtain ⟨b, hb⟩ := hk q hq'
    rw [ha, hb] at e ⊢
    exact congrArg _ e
  · intro x
    show x ∈ es.map (fun p => strOf p.1) ↔ es.any (fun p => p.1.sameKey (.string x)) = true
    rw [List.mem_map, List.any_eq_true]
    constructor
    · rintro ⟨p, hp', rfl⟩
      obtain ⟨a, ha⟩ := hk p hp'
      exact ⟨p, hp', by rw [ha]; simp [Lit.sameKey, strOf]⟩
    · rintro ⟨p, hp', hs⟩
      obtain ⟨a, ha⟩ := hk p hp'
      rw [ha] at hs
      exact ⟨p, hp', by rw [ha]; simpa [Lit.sameKey, strOf] using hs⟩
theorem keys_plain {w : World} {b n : Nat} {f : ByteArray → Option Int} {D : D1} (h : w.ownsMap Try.prog 9 (plainElem (H := Unit) Try.prog 3) b n D)
    (hf : ∀ s : ByteArray, s.size ≤ maxLen → Maps.has D (.string s.data.toList) = (f s).isSome) {ss : List (List UInt8)} (hp : ss.Perm (strKeys D)) : KeysF f ((ss.mergeSort (fun x y => decide (x ≤ y))).map ofL) := by
  obtain ⟨h1, h2⟩ := strKeys_nodup h
  have hpm := (List.mergeSort_perm ss (fun x y => decide (x ≤ y))).trans hp
  refine ⟨fun s => ?_, List.pairwise_map.2 ?_⟩
  · rw [List.mem_map]
    constructor
    · rintro ⟨l, hl, rfl⟩
      rw [hpm.mem_iff] at hl
      have hsz : (ofL l).size ≤ maxLen := by
        have := strKeys_le h Try.underlying9 l hl
        show l.toArray.size ≤ maxLen
        simpa using this
      exact ⟨hsz, by rw [← hf _ hsz]; exact (h2 l).1 hl⟩
    · rintro ⟨hs, hi⟩
      refine ⟨bsL s, ?_, ofL_bsL s⟩
      rw [hpm.mem_iff, h2]
      rw [← hf s hs] at hi
      exact hi
  · have htr : ∀ a b c : List UInt8, decide (a ≤ b) = true → decide (b ≤ c) = true → decide (a ≤ c) = true := fun a b c h1 h2 => by simp only [decide_eq_true_eq] at *; exact List.le_trans h1 h2
    have htt : ∀ a b : List UInt8, (decide (a ≤ b) || decide (b ≤ a)) = true := fun a b => by simp only [Bool.or_eq_true, decide_eq_true_eq]; exact List.le_total a b
    have hs := List.pairwise_mergeSort htr htt ss
    have hnd : (ss.mergeSort (fun x y => decide (x ≤ y))).Nodup := hpm.nodup_iff.2 h1
    refine (hs.and hnd).imp (fun {a b} h => ⟨of_decide_eq_true h.1, fun e => h.2 ?_⟩)
    have : bsL (ofL a) = bsL (ofL b) := by rw [e]
    exact this
/-- What maps.Keys hands on. -/
def KeyPost (w : World) (ob : Option Nat) (e : Ending) (w' : World) : Prop := e = .returned (.func (.func 28) #[] #[.pointer (some ⟨w.heap.size, 0, none⟩)]) ∧ w' = w.alloc (.cells #[.map ob] 53)
theorem keys22 (ob : Option Nat) (w : World) : Calls Try.prog 22 #[.map ob] w (KeyPost w ob) :=
  (callsIn_wide (n := 5)).1 (AnyZ.keys_in Try.keysA Fence.wide 5 trivial rfl ob w)
def SortedPost (w : World) (f : ByteArray → Option Int) (e : Ending) (w' : World) : Prop := ∃ (v : Value) (ns : List ByteArray), e = .returned v ∧ KeysF f ns ∧ Own w' w.heap.size 9 1 v (ns.map nmC) ∧ New w w'
theorem sorted21 (w : World) (ob : Option Nat) (n : Nat) (f : ByteArray → Option Int) (h : IMapO w ob n f) (hn : n ≤ 1000000000000) :
    Calls Try.prog 21 #[.func (.func 28) #[] #[.pointer (some ⟨w.heap.size, 0, none⟩)]] (w.alloc (.cells #[.map ob] 53)) (SortedPost (w.alloc (.cells #[.map ob] 53)) f) := by
  have own : ∀ {W' : World} {B : Nat} {v : Value} {ss : List (List UInt8)}, W'.ownsRow B 9 1 v ss.length ((ss.mergeSort (fun x y => decide (x ≤ y))).map encStr) → Own W' B 9 1 v (((ss.mergeSort (fun x y => decide (x ≤ y))).map ofL).map nmC) := fun {W' B v ss} h => by
    have hl : (ss.mergeSort (fun x y => decide (x ≤ y))).length = ss.length := List.length_mergeSort _
    refine ⟨?_, fun cs hcs => by obtain ⟨s, _, rfl⟩ := List.mem_map.1 hcs; rfl⟩
    rw [List.length_map, List.length_map, hl]
    have he : (((ss.mergeSort (fun x y => decide (x ≤ y))).map ofL).map nmC).flatten = (ss.mergeSort (fun x y => decide (x ≤ y))).map encStr := by
      generalize ss.mergeSort (fun x y => decide (x ≤ y)) = l
      induction l with
      | nil => rfl
      | cons x l ih =>
        rw [List.map_cons, List.map_cons, List.flatten_cons, ih]
        rfl
    rw [he]
    exact h
  cases ob with
  | some b =>
    obtain ⟨D, hown, hf⟩ := h
    have hbl := hown.lt
    have hsz := hown.size_le
    have hseq : SeqGives Fence.wide 2 Try.prog 28 #[.pointer (some ⟨w.heap.size, 0, none⟩)] encStr (fun ss => ss.Perm (strKeys D)) (Maps.size D) (w.alloc (.cells #[.map (some b)] 53)) :=
      AnyZ.keys_gives (ρ := Try.keysA_ren) { Try.keysA with } Fence.wide _ trivial rfl (by omega) w.heap.size b n D _ (by simp) (by simp) (by
        obtain ⟨es, clock, hb, Ft, hs, hD⟩ := hown
        exact ⟨es, clock, (Below.heap_alloc _ _ b hbl).trans hb, Ft, hs, hD⟩)
    have cS := AnyZ.sorted_in Try.sortedA Fence.wide 5 trivial trivial trivial trivial rfl (by omega) (sortsA _) (enters_of Try.func27 (by kernel_rfl) rfl) 28 #[.pointer (some ⟨w.heap.size, 0, none⟩)] trivial (enters_of Try.func28 (by kernel_rfl) rfl) _ _ (by unfold maxLen; omega) (by omega) _ hseq
    change CallsIn _ _ Try.prog 21 _ _ _ at cS
    refine (callsIn_wide (n := 5)).1 (cS.mono ?_)
    rintro e w' ⟨v, ss, rfl, hS, hrow, _, hb⟩
    exact ⟨v, _, rfl, keys_plain hown (fun s hs => (hf s hs).1) hS, own hrow, Chg.of_below hb⟩
  | none =>
    obtain rfl : f = fun _ => none := h
    have hseq : SeqGives Fence.wide 2 Try.prog 28 #[.pointer (some ⟨w.heap.size, 0, none⟩)] encStr (fun ss : List (List UInt8) => ss = []) 0 (w.alloc (.cells #[.map none] 53)) :=
      AnyZ.keys_gives_nil (ρ := Try.keysA_ren) { Try.keysA with } Fence.wide _ trivial rfl w.heap.size _ (by simp) (by simp)
    have cS := AnyZ.sorted_in Try.sortedA Fence.wide 5 trivial trivial trivial trivial rfl (by omega) (sortsA _) (enters_of Try.func27 (by kernel_rfl) rfl) 28 #[.pointer (some ⟨w.heap.size, 0, none⟩)] trivial (enters_of Try.func28 (by kernel_rfl) rfl) _ 0 (Nat.zero_le _) (by omega) _ hseq
    change CallsIn _ _ Try.prog 21 _ _ _ at cS
    refine (callsIn_wide (n := 5)).1 (cS.mono ?_)
    rintro e w' ⟨v, ss, rfl, rfl, hrow, _, hb⟩
    exact ⟨v, _, rfl, ⟨fun s => by simp, by simp⟩, own hrow, Chg.of_below hb⟩
end Go.Proofs.Ytffmalagochakaa
