/- awake of the statements of layer 18. -/
import Derived.Test.YtenkobgeflckdaaL18b
import Derived.Test.YtenkobgeflckdaaBag7
import Derived.Test.YtenkobgeflckdaaWd
set_option linter.unusedVariables false
set_option linter.unusedSimpArgs false
namespace Go.Proofs.Ytenkobgeflckdaa
open Go.RowKit Go.Shelf

def gA : Gm := ⟨⟨#[97]⟩, ⟨#[98]⟩, ⟨#[120]⟩⟩
def gB : Gm := ⟨⟨#[98]⟩, ⟨#[97]⟩, ⟨#[121]⟩⟩

theorem Chg.of {w w' : World} {S : Nat → Prop} {g : Nat} {t : TypeId} {cs : Array Value} (hc : Chg w w' (fun k => ¬ S k)) (hS : S g) (hB : Blk w g t cs) : Blk w' g t cs := hB.chg hc (fun h => h hS)

set_option maxHeartbeats 4000000 in
set_option maxRecDepth 100000 in
theorem awake18 (w : World) : Calls Try.prog 15 #[] w fun e w' => e = .returned (.bool true) ∧ New w w' := by
  go_enter Try.func15, Try.ntmps15
  go_wp2_with fail
  refine (new_s 9 (Chg.refl w _) (fun _ => False) (fun k h => h.elim)).mono ?_
  rintro e W1 ⟨rfl, hb1, -⟩
  rw [show min (max (9 : Int) 0) 200 = 9 by decide] at hb1
  generalize hbb : w.heap.size = bb at hb1 ⊢
  have HB1 := Lib.hid hb1
  clear hb1
  go_wp2_with fail
  obtain ⟨W2, hW2⟩ : ∃ W2, W2 = ((W1.alloc (.cells #[.string ⟨#[97]⟩, .string ⟨#[98]⟩, .string ⟨#[120]⟩] 33)).alloc (.cells #[.string ⟨#[98]⟩, .string ⟨#[97]⟩, .string ⟨#[121]⟩] 33)) := ⟨_, rfl⟩
  rw [← hW2]
  have hN12 : New W1 W2 := by rw [hW2]; exact ((Chg.refl _ _).alloc _).alloc _
  have hA2 : Blk W2 W1.heap.size 33 (gcs gA).toArray := by rw [hW2]; exact (Blk.new W1 _ _).alloc _
  have hB2 : Blk W2 (W1.heap.size + 1) 33 (gcs gB).toArray := by
    have := Blk.new (W1.alloc (.cells #[.string ⟨#[97]⟩, .string ⟨#[98]⟩, .string ⟨#[120]⟩] 33)) 33 #[.string ⟨#[98]⟩, .string ⟨#[97]⟩, .string ⟨#[121]⟩]
    rw [World.size_alloc] at this
    rw [hW2]
    exact this
  have hs2 := HB1.out.add hN12 (fun k => k = W1.heap.size ∨ k = W1.heap.size + 1) (fun k hk => by
    have h1 := hB2.lt
    rcases hk with rfl | rfl <;> omega)
  generalize W1.heap.size = b2 at hA2 hB2 hs2 ⊢
  have hs2' := hs2.less (S' := fun k => k = b2 ∨ k = b2 + 1) (fun k hk => .inr hk)
  clear hs2 hN12 HB1 hW2
  refine (put_s hs2' gA).mono ?_
  rintro e W3 ⟨rfl, hs3, hc3⟩
  have hA3 := hc3.of (.inl rfl) hA2
  have hB3 := hc3.of (.inr rfl) hB2
  rw [show putOk [] 9 = true by decide]
  rw [show putL [] 9 gA = [gA] by decide] at hs3
  clear hA2 hB2 hc3 hs2'
  have HS3 := Lib.hid hs3
  have HA3 := Lib.hid hA3
  have HB3 := Lib.hid hB3
  clear hs3 hA3 hB3
  go_wp2_with ((with_reducible refine wpl_loadg rfl (.tmp 3) 33 rfl stGram ⟨b2 + 1, 0, none⟩ (gcs gB) ?_ rfl HB3.out.at_ ?_); exact rfl)
  refine (put_s HS3.out gB).mono ?_
  rintro e W4 ⟨rfl, hs4, hc4⟩
  have HA4 := Lib.hid (hc4.of (.inl rfl) HA3.out)
  have HB4 := Lib.hid (hc4.of (.inr rfl) HB3.out)
  rw [show putOk [gA] 9 = true by decide]
  rw [show putL [gA] 9 gB = [gA, gB] by decide] at hs4
  have HS4 := Lib.hid hs4
  clear hs4 hc4 HA3 HB3 HS3
  go_wp2_with fail
  refine (again_s_yes HS4.out 0 gA rfl).mono ?_
  rintro e W5 ⟨rfl, hs5, hc5⟩
  have HA5 := Lib.hid (hc5.of (.inl rfl) HA4.out)
  have HB5 := Lib.hid (hc5.of (.inr rfl) HB4.out)
  rw [show putOk [gA, gB] 9 = true by decide]
  rw [show putL [gA, gB] 9 gA = [gA, gB, gA] by decide] at hs5
  have HS5 := Lib.hid hs5
  clear hs5 hc5 HA4 HB4 HS4
  go_wp2_with fail
  refine (move_s_yes HS5.out 2 0 gA rfl (by decide)).mono ?_
  rintro e W6 ⟨rfl, hs6, hc6⟩
  have HA6 := Lib.hid (hc6.of (.inl rfl) HA5.out)
  have HB6 := Lib.hid (hc6.of (.inr rfl) HB5.out)
  rw [show List.take 0 ([gA, gB, gA].eraseIdx 2) ++ gA :: List.drop 0 ([gA, gB, gA].eraseIdx 2) = [gA, gA, gB] by decide] at hs6
  have HS6 := Lib.hid hs6
  clear hs6 hc6 HA5 HB5 HS5
  go_wp2_with fail
  refine (take_s_yes HS6.out 1 gA rfl).mono ?_
  rintro e W7 ⟨rfl, hs7, hc7⟩
  have hA7 := hc7.of (.inl rfl) HA6.out
  have hB7 := hc7.of (.inr rfl) HB6.out
  rw [show [gA, gA, gB].eraseIdx 1 = [gA, gB] by decide] at hs7
  rw [show gval gA = .agg #[.string ⟨#[97]⟩, .string ⟨#[98]⟩, .string ⟨#[120]⟩] from rfl]
  have HS7 := Lib.hid hs7
  have HA7 := Lib.hid hA7
  have HB7 := Lib.hid hB7
  clear hs7 hA7 hB7 hc7 HA6 HB6 HS6
  go_wp2_with fail
  obtain ⟨W8, hW8⟩ : ∃ W8, W8 = (W7.alloc (.cells #[.string ⟨#[97]⟩, .string ⟨#[98]⟩, .string ⟨#[120]⟩] 33)).drew := ⟨_, rfl⟩
  have hN78 : New W7 W8 := by rw [hW8]; exact ((Chg.refl _ _).alloc _).drew
  have hC8 : Blk W8 W7.heap.size 33 (gcs gA).toArray := by rw [hW8]; exact (Blk.new W7 _ _).chg ((Chg.refl _ (fun _ => False)).drew) id
  generalize hb5 : W7.heap.size = b5 at hC8 ⊢
  refine wp_region_at (by kernel_rfl) ?_
  rw [← hb5, ← hW8, hb5]
  have HA8 := Lib.hid (HA7.out.chg hN78 id)
  have HB8 := Lib.hid (HB7.out.chg hN78 id)
  have HC8 := Lib.hid hC8
  have HS8 := Lib.hid (HS7.out.stay hN78)
  clear hC8 HA7 HB7 HS7 hN78 hW8 hb5
  refine AtN.list 0 5 (by kernel_rfl) ?_
  change wpList _ _ _ [_, _, _, _, _] _ _
  go_wp2_with fail
  change AtN _ _ _ 5 _ _
  refine AtN.segQ 5 7 (fun _ => gval gA) (by kernel_rfl) (by kernel_rfl) (by kernel_rfl) (fun i hn hi o ho A hin hk => ?_) (fun A hdf hsz hout hold => ?_)
  · rcases (show i = 5 ∨ i = 6 by omega) with rfl | rfl
    · cases ho
      exact exec_load 5 _ rfl stGram ⟨b5, 0, none⟩ (gcs gA) (hk 5 (by kernel_rfl)) rfl HC8.out.at_
    · cases ho
      exact exec_load 2 _ rfl stGram ⟨b2, 0, none⟩ (gcs gA) (hk 2 (by kernel_rfl)) rfl HA8.out.at_
  have s38 : slot A 38 = .agg #[.string ⟨#[97]⟩, .string ⟨#[98]⟩, .string ⟨#[120]⟩] := hout 5 38 (by kernel_rfl)
  have s39 : slot A 39 = .agg #[.string ⟨#[97]⟩, .string ⟨#[98]⟩, .string ⟨#[120]⟩] := hout 6 39 (by kernel_rfl)
  have s1 : slot A 1 = .pointer (some ⟨bb, 0, none⟩) := hold 1 (by kernel_rfl)
  have s2 : slot A 2 = .pointer (some ⟨b2, 0, none⟩) := hold 2 (by kernel_rfl)
  have s3 : slot A 3 = .pointer (some ⟨b2 + 1, 0, none⟩) := hold 3 (by kernel_rfl)
  have s37 : slot A 37 = .bool true := hold 37 (by kernel_rfl)
  rw [act_eta A 61 _ hsz hdf, show List.range 61 = [0, 1, 2, 3, 4, 5, 6, 7, 8, 9, 10, 11, 12, 13, 14, 15, 16, 17, 18, 19, 20, 21, 22, 23, 24, 25, 26, 27, 28, 29, 30, 31, 32, 33, 34, 35, 36, 37, 38, 39, 40, 41, 42, 43, 44, 45, 46, 47, 48, 49, 50, 51, 52, 53, 54, 55, 56, 57, 58, 59, 60] from rfl]
  simp only [List.map, s1, s2, s3, s37, s38, s39]
  clear hsz hdf hout hold s1 s2 s3 s37 s38 s39
  refine AtN.list 7 10 (by kernel_rfl) ?_
  change wpList _ _ _ [_, _, _] _ _
  go_wp2_with fail
  change AtN _ _ _ 10 _ _
  have eg := enters_of Try.func31 (by kernel_rfl) rfl
  unfold Enters at eg
  refine AtN.segN 10 15 (fun
    | 10 => fun v _ => v = .pointer (some ⟨bb, 0, none⟩)
    | 11 => fun v W => Grams W v [gA, gB]
    | 12 => fun v _ => v = gval gA
    | 13 => fun v _ => v = gval gB
    | 14 => fun v W => Grams W v [gA, gB]
    | _ => fun _ _ => True) (by kernel_rfl) (by kernel_rfl) (by kernel_rfl) ?st ?step ?tail
  case st =>
    intro j v w1 w2 hc h
    match j with
    | 11 | 14 => exact h.chg hc (fun _ _ x => x)
    | 10 | 12 | 13 => exact h
    | 0 | 1 | 2 | 3 | 4 | 5 | 6 | 7 | 8 | 9 => trivial
    | _ + 15 => trivial
  case step =>
    intro i hn hi o ho A2 W hN hin hk
    rcases (show i = 10 ∨ i = 11 ∨ i = 12 ∨ i = 13 ∨ i = 14 by omega) with rfl | rfl | rfl | rfl | rfl
    · cases ho
      exact .same (exec_move 1 _ rfl (hk 1 (by kernel_rfl))) rfl
    · cases ho
      have h43 : A2.tmps[43]?.getD undef = .pointer (some ⟨bb, 0, none⟩) := hin 10 43 (by kernel_rfl)
      refine .call (f := 31) (args := #[.pointer (some ⟨bb, 0, none⟩)]) (W' := W) ?_ ((all_s (HS8.out.stay hN)).mono ?_)
      · simp [go_sem, h43, eg]
      · rintro e w' ⟨v', rfl, hg, hc, -⟩
        exact ⟨_, rfl, hc, hg⟩
    · cases ho
      exact .same (exec_load 2 _ rfl stGram ⟨b2, 0, none⟩ (gcs gA) (hk 2 (by kernel_rfl)) rfl ((HA8.out.chg hN id).at_)) rfl
    · cases ho
      exact .same (exec_load 3 _ rfl stGram ⟨b2 + 1, 0, none⟩ (gcs gB) (hk 3 (by kernel_rfl)) rfl ((HB8.out.chg hN id).at_)) rfl
    · cases ho
      have h45 : A2.tmps[45]?.getD undef = gval gA := hin 12 45 (by kernel_rfl)
      have h46 : A2.tmps[46]?.getD undef = gval gB := hin 13 46 (by kernel_rfl)
      refine .value (W' := W.alloc (.cells ((gcs gA ++ gcs gB).toArray) 33)) (v := .slice (some ⟨W.heap.size, 0, none⟩) 2 2) ?_ ⟨(Chg.refl _ _).alloc _, ?_⟩
      · simp [go_sem, h45, h46, gval, gcs]
      · exact Blk.grams (gs := [gA, gB]) (Blk.new _ _ _) (by decide)
  case tail =>
    intro A2 W9 hN9 hdf hsz hout hold
    have g44 : Grams W9 (slot A2 44) [gA, gB] := hout 11 44 (by kernel_rfl)
    have g47 : Grams W9 (slot A2 47) [gA, gB] := hout 14 47 (by kernel_rfl)
    have s1 : slot A2 1 = .pointer (some ⟨bb, 0, none⟩) := hold 1 (by kernel_rfl)
    have s42 : slot A2 42 = .bool true := hold 42 (by kernel_rfl)
    obtain ⟨R1, c1, s44, _, _, hr1, _⟩ := g44
    obtain ⟨R2, c2, s47, _, _, hr2, _⟩ := g47
    have hsame := same18 W9 R1 2 c1 R2 2 c2 [gA, gB] [gA, gB] rfl rfl (by decide) (by decide) (fun _ => hr1 (by decide)) (fun _ => hr2 (by decide))
    rw [show decide ([gA, gB] = [gA, gB]) = true by decide] at hsame
    have Hsame := Lib.hid hsame
    have HS9 := Lib.hid (HS8.out.stay hN9)
    have e44 : slot A2 44 = .slice R1 2 c1 := s44
    have e47 : slot A2 47 = .slice R2 2 c2 := s47
    rw [act_eta A2 61 _ hsz hdf, show List.range 61 = [0, 1, 2, 3, 4, 5, 6, 7, 8, 9, 10, 11, 12, 13, 14, 15, 16, 17, 18, 19, 20, 21, 22, 23, 24, 25, 26, 27, 28, 29, 30, 31, 32, 33, 34, 35, 36, 37, 38, 39, 40, 41, 42, 43, 44, 45, 46, 47, 48, 49, 50, 51, 52, 53, 54, 55, 56, 57, 58, 59, 60] from rfl]
    simp only [List.map, s1, s42, e44, e47]
    clear hsz hdf hout hold s1 s42 s44 s47 e44 e47 hr1 hr2 hsame hN9 eg HA8 HB8 HC8 HS8
    refine AtN.list 15 29 (by kernel_rfl) ?_
    change wpList _ _ _ [_, _, _, _, _, _, _, _, _, _, _, _, _, _] _ _
    go_wp2_with fail
    refine Hsame.out.mono ?_
    rintro e W10 ⟨rfl, hN10⟩
    have HS10 := Lib.hid (HS9.out.stay hN10)
    clear Hsame HS9 hN10
    go_wp2_with fail
    refine (cut_s HS10.out ⟨#[98]⟩ ⟨#[97]⟩).mono ?_
    rintro e W11 ⟨rfl, hs11, -⟩
    rw [show ([gA, gB].filter fun x => !cutP ⟨#[98]⟩ ⟨#[97]⟩ x) = [] by decide] at hs11 ⊢
    have HS11 := Lib.hid hs11
    clear hs11 HS10
    go_wp2_with fail
    refine (all_s HS11.out).mono ?_
    rintro e W12 ⟨v', rfl, ⟨R, c, rfl, -⟩, -, hs12⟩
    have HN12 := Lib.hid hs12.new
    clear hs12 HS11
    go_wp2_with fail
    change AtN _ _ _ 29 _ _
    refine AtN.done rfl ?_
    go_wp2_with fail
    go_ret
    exact ⟨rfl, HN12.out⟩
end Go.Proofs.Ytenkobgeflckdaa
