/- pick, gram, Same of the statements of layer 18. -/
import Derived.Test.YtenkobgeflckdaaBag6
import Derived.Test.YtenkobgeflckdaaWc
set_option linter.unusedVariables false
set_option linter.unusedSimpArgs false
namespace Go.Proofs.Ytenkobgeflckdaa
open Go.RowKit Go.Shelf

/-- Which of n things a raw number speaks of. -/
def pk (c n : Int) : Int := (if c < 0 then -(c + 1) else c) % n
theorem pk_lo (c n : Int) (h : 0 < n) : 0 ≤ pk c n := by unfold pk; exact Int.emod_nonneg _ (by omega)
theorem pk_hi (c n : Int) (h : 0 < n) : pk c n < n := by unfold pk; exact Int.emod_lt_of_pos _ h

set_option maxHeartbeats 400000 in
theorem pick18 (w : World) (c n : Int) (h0 : -9223372036854775808 ≤ c) (h1 : c ≤ 9223372036854775807) (hn : 0 < n) (hn2 : n ≤ 9223372036854775807) :
    Calls Try.prog 18 #[.int .i64 c, .int .i64 n] w fun e w' => e = .returned (.int .i64 (pk c n)) ∧ w = w' := by
  by_cases hc : c < 0
  · have hp : -((c + 1).tmod n) = pk c n := by unfold pk; rw [if_pos hc, ← Int.neg_tmod, Int.tmod_eq_emod_of_nonneg (by omega)]
    have Hp := Lib.hid hp
    clear hp
    go_enter Try.func18, Try.ntmps18
    go_wp2_with fail
    go_ret
    exact ⟨congrArg (fun z => Ending.returned (.int .i64 z)) Hp.out, rfl⟩
  · have hp : pk c n = c % n := by unfold pk; rw [if_neg hc]
    have Hp := Lib.hid hp
    clear hp
    go_enter Try.func18, Try.ntmps18
    go_wp2_with fail
    go_ret
    exact ⟨by rw [Hp.out]; rfl, rfl⟩

def nm3 (p : Nat) : ByteArray := [⟨#[97]⟩, ⟨#[98]⟩, ⟨#[99]⟩].getD p ⟨#[]⟩
def u8 (i : Int) : UInt8 := UInt8.ofNat (IntKind.u8.wrap i).toNat
def gramG (i k : Int) : Gm := ⟨nm3 (pk i 3).toNat, nm3 (pk k 3).toNat, ⟨#[u8 i, u8 k]⟩⟩

theorem gram_res (W : World) (tmps : Array Value) (N : Nat) (cs : List Value) (h4 : tmps.getD 4 undef = .pointer (some ⟨N, 0, none⟩)) (hc : At W ⟨N, 0, none⟩ cs) (hl : cs.length = 3 := by rfl) :
    (results Try.f20 tmps).run Try.prog W = .ok (.agg cs.toArray) W := by
  have hl := run_loadK (P := Try.prog) (w := W) stGram ⟨N, 0, none⟩ cs hl hc
  have hr : Try.f20.results = #[.cell 4 33] := by rfl
  have ha : (asAddr (.pointer (some ⟨N, 0, none⟩))).run Try.prog W = .ok ⟨N, 0, none⟩ W := rfl
  rw [results_cell_one hr, h4, ha]
  simp only [Result.andThen_ok, hl]
set_option maxHeartbeats 4000000 in
set_option maxRecDepth 100000 in
theorem gram18 (w : World) (i k : Int) (h0 : -9223372036854775808 ≤ i) (h1 : i ≤ 9223372036854775807) (k0 : -9223372036854775808 ≤ k) (k1 : k ≤ 9223372036854775807) :
    Calls Try.prog 20 #[.int .i64 i, .int .i64 k] w fun e w' => e = .returned (gval (gramG i k)) ∧ New w w' := by
  have pi0 := pk_lo i 3 (by omega)
  have pi1 := pk_hi i 3 (by omega)
  have pk0 := pk_lo k 3 (by omega)
  have pk1 := pk_hi k 3 (by omega)
  obtain ⟨p, hp⟩ : ∃ p : Nat, pk i 3 = p := ⟨(pk i 3).toNat, by omega⟩
  obtain ⟨q, hq⟩ : ∃ q : Nat, pk k 3 = q := ⟨(pk k 3).toNat, by omega⟩
  have hpl : p < 3 := by omega
  have hql : q < 3 := by omega
  have hpi := fun W => pick18 W i 3 h0 h1 (by omega) (by omega)
  have hpk := fun W => pick18 W k 3 k0 k1 (by omega) (by omega)
  rw [hp] at hpi
  rw [hq] at hpk
  have hg : gramG i k = ⟨nm3 p, nm3 q, ⟨#[u8 i, u8 k]⟩⟩ := by unfold gramG; rw [hp, hq]; rfl
  have Hpi := Lib.hid hpi
  have Hpk := Lib.hid hpk
  have Hg := Lib.hid hg
  clear hpi hpk hg pi0 pi1 pk0 pk1 hp hq
  go_enter Try.func20, Try.ntmps20
  go_wp2_with fail
  obtain ⟨W0, hW0⟩ : ∃ W0, W0 = ((w.alloc (.cells #[.string ⟨#[]⟩, .string ⟨#[]⟩, .string ⟨#[]⟩] 33)).alloc (.cells #[.string ⟨#[97]⟩, .string ⟨#[98]⟩, .string ⟨#[99]⟩] 9)) := ⟨_, rfl⟩
  rw [← hW0]
  have hN : New w W0 := by rw [hW0]; exact ((Chg.refl w _).alloc _).alloc _
  have hB : Blk W0 (w.heap.size + 1) 9 #[.string ⟨#[97]⟩, .string ⟨#[98]⟩, .string ⟨#[99]⟩] := by
    have := Blk.new (w.alloc (.cells #[.string ⟨#[]⟩, .string ⟨#[]⟩, .string ⟨#[]⟩] 33)) 9 #[.string ⟨#[97]⟩, .string ⟨#[98]⟩, .string ⟨#[99]⟩]
    rw [World.size_alloc] at this
    rw [hW0]
    exact this
  have hR : Blk W0 w.heap.size 33 #[.string ⟨#[]⟩, .string ⟨#[]⟩, .string ⟨#[]⟩] := by rw [hW0]; exact (Blk.new w _ _).alloc _
  have hc : ∀ j, j < 3 → W0.cell? ⟨w.heap.size + 1, j, none⟩ = some (.string (nm3 j)) := by
    intro j hj
    rw [hB.cell]
    match j, hj with
    | 0, _ => rfl
    | 1, _ => rfl
    | 2, _ => rfl
  have hcp := hc p hpl
  have hcq := hc q hql
  have hr0 := hR.cell 0
  have hr1 := hR.cell 1
  have hr2 := hR.cell 2
  have hf0 := hR.frozen 0
  have hf1 := hR.frozen 1
  have hf2 := hR.frozen 2
  have hsz := hB.lt
  have HN := Lib.hid hN
  have HR := Lib.hid hR
  clear hc hB hR hN hW0
  have q0 : (0 : Int) ≤ (p : Int) := by omega
  have q1 : (p : Int) < (3 : Int) := by omega
  have q2 : (0 : Int) ≤ (q : Int) := by omega
  have q3 : (q : Int) < (3 : Int) := by omega
  refine wp_region_heads' 16 (by kernel_rfl) (by kernel_rfl) (fun
    | 0 => fun v _ => v = .slice (some ⟨w.heap.size + 1, 0, none⟩) 3 3
    | 1 => fun v _ => v = .int .i64 i
    | 2 => fun v _ => v = .int .i64 p
    | 3 => fun v _ => v = .pointer (some ⟨w.heap.size + 1, p, none⟩)
    | 4 => fun v _ => v = .string (nm3 p)
    | 5 => fun v _ => v = .slice (some ⟨w.heap.size + 1, 0, none⟩) 3 3
    | 6 => fun v _ => v = .int .i64 k
    | 7 => fun v _ => v = .int .i64 q
    | 8 => fun v _ => v = .pointer (some ⟨w.heap.size + 1, q, none⟩)
    | 9 => fun v _ => v = .string (nm3 q)
    | 10 => fun v _ => v = .int .i64 i
    | 11 => fun v _ => v = .int .u8 (IntKind.u8.wrap i)
    | 12 => fun v _ => v = .int .i64 k
    | 13 => fun v _ => v = .int .u8 (IntKind.u8.wrap k)
    | 14 => fun v W => ∃ nb, v = .slice (some ⟨nb, 0, none⟩) 2 2 ∧ Blk W nb 5 #[.int .u8 (IntKind.u8.wrap i), .int .u8 (IntKind.u8.wrap k)]
    | 15 => fun v _ => v = .string ⟨#[u8 i, u8 k]⟩
    | _ => fun _ _ => True) (by kernel_rfl) ?st ?step ?tail
  case st =>
    intro j v w1 w2 hc h
    match j with
    | 14 => exact h.imp fun nb h => ⟨h.1, h.2.chg hc id⟩
    | 0 | 1 | 2 | 3 | 4 | 5 | 6 | 7 | 8 | 9 | 10 | 11 | 12 | 13 | 15 => exact h
    | _ + 16 => trivial
  case step =>
    intro j hj o ho a W hN1 hin hkept
    match j, hj with
    | 0, _ => cases ho; exact .move _ rfl (hkept 5 (by kernel_rfl))
    | 1, _ => cases ho; exact .move _ rfl (hkept 0 (by kernel_rfl))
    | 2, _ =>
      cases ho
      have h8 : a.tmps[8]?.getD undef = .int .i64 i := hin 1 8 (by kernel_rfl)
      refine .call (f := 18) (args := #[.int .i64 i, .int .i64 3]) (W' := W) ?_ ((Hpi.out W).mono ?_)
      · have eg := enters_of Try.func18 (by kernel_rfl) rfl
        unfold Enters at eg
        simp [go_sem, h8, eg]
      · rintro e w' ⟨rfl, rfl⟩
        exact ⟨_, rfl, Chg.refl _ _, rfl⟩
    | 3, _ =>
      cases ho
      have h7 : a.tmps[7]?.getD undef = .slice (some ⟨w.heap.size + 1, 0, none⟩) 3 3 := hin 0 7 (by kernel_rfl)
      have h9 : a.tmps[9]?.getD undef = .int .i64 p := hin 2 9 (by kernel_rfl)
      exact .same (by simp [go_sem, h7, h9, q0, q1, hpl]) rfl
    | 4, _ =>
      cases ho
      have h10 : a.tmps[10]?.getD undef = .pointer (some ⟨w.heap.size + 1, p, none⟩) := hin 3 10 (by kernel_rfl)
      have hcc : W.cell? ⟨w.heap.size + 1, p, none⟩ = some (.string (nm3 p)) := hN1.cellS hcp id
      exact .same (by simp [go_sem, h10, hcc]) rfl
    | 5, _ => cases ho; exact .move _ rfl (hkept 5 (by kernel_rfl))
    | 6, _ => cases ho; exact .move _ rfl (hkept 1 (by kernel_rfl))
    | 7, _ =>
      cases ho
      have h8 : a.tmps[13]?.getD undef = .int .i64 k := hin 6 13 (by kernel_rfl)
      refine .call (f := 18) (args := #[.int .i64 k, .int .i64 3]) (W' := W) ?_ ((Hpk.out W).mono ?_)
      · have eg := enters_of Try.func18 (by kernel_rfl) rfl
        unfold Enters at eg
        simp [go_sem, h8, eg]
      · rintro e w' ⟨rfl, rfl⟩
        exact ⟨_, rfl, Chg.refl _ _, rfl⟩
    | 8, _ =>
      cases ho
      have h7 : a.tmps[12]?.getD undef = .slice (some ⟨w.heap.size + 1, 0, none⟩) 3 3 := hin 5 12 (by kernel_rfl)
      have h9 : a.tmps[14]?.getD undef = .int .i64 q := hin 7 14 (by kernel_rfl)
      exact .same (by simp [go_sem, h7, h9, q2, q3, hql]) rfl
    | 9, _ =>
      cases ho
      have h10 : a.tmps[15]?.getD undef = .pointer (some ⟨w.heap.size + 1, q, none⟩) := hin 8 15 (by kernel_rfl)
      have hcc : W.cell? ⟨w.heap.size + 1, q, none⟩ = some (.string (nm3 q)) := hN1.cellS hcq id
      exact .same (by simp [go_sem, h10, hcc]) rfl
    | 10, _ => cases ho; exact .move _ rfl (hkept 0 (by kernel_rfl))
    | 11, _ =>
      cases ho
      have h : a.tmps[17]?.getD undef = .int .i64 i := hin 10 17 (by kernel_rfl)
      exact .same (by simp [go_sem, h]) rfl
    | 12, _ => cases ho; exact .move _ rfl (hkept 1 (by kernel_rfl))
    | 13, _ =>
      cases ho
      have h : a.tmps[19]?.getD undef = .int .i64 k := hin 12 19 (by kernel_rfl)
      exact .same (by simp [go_sem, h]) rfl
    | 14, _ =>
      cases ho
      have h1 : a.tmps[18]?.getD undef = .int .u8 (IntKind.u8.wrap i) := hin 11 18 (by kernel_rfl)
      have h2 : a.tmps[20]?.getD undef = .int .u8 (IntKind.u8.wrap k) := hin 13 20 (by kernel_rfl)
      exact .value (W' := W.alloc (.cells #[.int .u8 (IntKind.u8.wrap i), .int .u8 (IntKind.u8.wrap k)] 5)) (by simp [go_sem, h1, h2]) ⟨(Chg.refl _ _).alloc _, _, rfl, Blk.new _ _ _⟩
    | 15, _ =>
      cases ho
      obtain ⟨nb, h1, hb⟩ := hin 14 21 (by kernel_rfl)
      have hcv := run_convert_bytes_arg (P := Try.prog) W 76 5 (by kernel_rfl) (by kernel_rfl) nb 0 2 2 [IntKind.u8.wrap i, IntKind.u8.wrap k] rfl (fun j hj => by
        rw [Nat.zero_add, hb.cell]
        match j, hj with
        | 0, _ => rfl
        | 1, _ => rfl) 9 (by kernel_rfl)
      refine .same (by simp [go_sem, h1, hcv]; rfl) ?_
      rfl
    | j + 16, hj => omega
  case tail =>
    intro a W hN1 hdf hsz2 hout hold
    have s11 : slot a 11 = .string (nm3 p) := hout 4 11 (by kernel_rfl)
    have s16 : slot a 16 = .string (nm3 q) := hout 9 16 (by kernel_rfl)
    have s22 : slot a 22 = .string ⟨#[u8 i, u8 k]⟩ := hout 15 22 (by kernel_rfl)
    have s4 : slot a 4 = .pointer (some ⟨w.heap.size, 0, none⟩) := hold 4 (by kernel_rfl)
    have hNd : New W0 W := (Chg.refl W0 _).drew.trans hN1 (fun _ _ x => x)
    have hb := Blk.chg HR.out hNd id
    have hNf : New w W := HN.out.trans hNd (fun _ _ x => x)
    rw [act_eta a 24 _ hsz2 hdf, show List.range 24 = [0, 1, 2, 3, 4, 5, 6, 7, 8, 9, 10, 11, 12, 13, 14, 15, 16, 17, 18, 19, 20, 21, 22, 23] from rfl]
    simp only [List.map, s11, s16, s22, s4]
    have hb2 := hb.set (layA #[.string ⟨#[]⟩, .string ⟨#[]⟩, .string ⟨#[]⟩] 0 (gcs (gramG i k)))
    have hNg : New w (W.setRow w.heap.size (layA #[.string ⟨#[]⟩, .string ⟨#[]⟩, .string ⟨#[]⟩] 0 (gcs (gramG i k)))) := hNf.setRow _ _ (fun h => absurd h (by omega))
    have hat := Blk.at_ (cs := gcs (gramG i k)) hb2
    have Hat := Lib.hid hat
    have HNg := Lib.hid hNg
    have Hb := Lib.hid hb
    rw [show gcs (gramG i k) = [.string (nm3 p), .string (nm3 q), .string ⟨#[u8 i, u8 k]⟩] by rw [Hg.out]; rfl] at Hat HNg
    clear hat hNg hb2 hb hNf hNd hN1 hout hold hsz2 hdf HN
    change wpList _ _ _ [_, _] _ _
    go_wp2_with ((with_reducible refine wpl_store rfl (.tmp 4) (.tmp 23) 33 rfl stGram w.heap.size 0 33 #[.string ⟨#[]⟩, .string ⟨#[]⟩, .string ⟨#[]⟩] [.string (nm3 p), .string (nm3 q), .string ⟨#[u8 i, u8 k]⟩] ?_ ?_ Hb.out rfl (by decide) ?_ ?_); exact rfl; exact rfl; (simp [Value.oneCell']))
    refine bodyPost_ret (v := gval (gramG i k)) ?_ rfl ⟨rfl, HNg.out⟩
    refine (gram_res _ _ w.heap.size _ rfl Hat.out).trans ?_
    unfold gval
    rw [Hg.out]
end Go.Proofs.Ytenkobgeflckdaa
