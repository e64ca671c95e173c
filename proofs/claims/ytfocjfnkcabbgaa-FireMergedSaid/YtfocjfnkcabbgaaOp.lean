/- value.Number; results in a cell; builtin.right, builtin.Op (+, -), builtin.Test. -/
import Derived.Test.YtfocjfnkcabbgaaMrgW
import Derived.Test.YtfocjfnkcabbgaaRgt
set_option linter.unusedVariables false
set_option linter.unusedSimpArgs false
namespace Go.Proofs.Ytfocjfnkcabbgaa
open Go.RowKit Go.Shelf

theorem res_cellK {P : Program} {f : Func} {p : Nat} {ty : TypeId} {k : Nat} (hS : StT P ty k) (hr : f.results = #[.cell p ty]) (W : World) (tmps : Array Value) (ad : Addr) (cs : List Value) (h2 : tmps.getD p undef = .pointer (some ad)) (hc : At W ad cs) (hl : cs.length = k) :
    (results f tmps).run P W = .ok (.agg cs.toArray) W := by
  have hl := run_loadK (P := P) (w := W) hS ad cs hl hc
  have ha : (asAddr (.pointer (some ad))).run P W = .ok ad W := rfl
  rw [results_cell_one hr, h2, ha]
  simp only [Result.andThen_ok, hl]
set_option maxHeartbeats 1000000 in
theorem number_any (w : World) (n : Int) : Calls Try.prog 72 #[.int .i64 n] w fun e w' => e = .returned (.agg #[.int .i64 1, .int .i64 n, .string ⟨#[]⟩, .slice none 0 0]) ∧ New w w' := by
  have hb : Blk (w.alloc (.cells #[.int .i64 1, .int .i64 n, .string ⟨#[]⟩, .slice none 0 0] 37)) w.heap.size 37 [Value.int .i64 1, .int .i64 n, .string ⟨#[]⟩, .slice none 0 0].toArray := Blk.new w _ _
  have HB := Lib.hid hb
  clear hb
  go_enter Try.func72, Try.ntmps72
  go_wp2_with fail
  refine bodyPost_ret (v := .agg #[.int .i64 1, .int .i64 n, .string ⟨#[]⟩, .slice none 0 0]) (res_cellK stVal4 rfl _ _ ⟨w.heap.size, 0, none⟩ [Value.int .i64 1, .int .i64 n, .string ⟨#[]⟩, .slice none 0 0] rfl HB.out.at_ rfl) rfl ⟨rfl, (Chg.refl _ _).alloc _⟩
end Go.Proofs.Ytfocjfnkcabbgaa

set_option linter.unusedVariables false
set_option linter.unusedSimpArgs false
namespace Go.Proofs.Ytfocjfnkcabbgaa
open Go.RowKit Go.Shelf

theorem res_cell2 {P : Program} {f : Func} {p q : Nat} {ty : TypeId} {k : Nat} (hS : StT P ty k) (hr : f.results = #[.cell p ty, .tmp q]) (W : World) (tmps : Array Value) (ad : Addr) (cs : List Value) (h2 : tmps.getD p undef = .pointer (some ad)) (hc : At W ad cs) (hl : cs.length = k) :
    (results f tmps).run P W = .ok (.tuple #[.agg cs.toArray, tmps.getD q undef]) W := by
  have hl := run_loadK (P := P) (w := W) hS ad cs hl hc
  have ha : (asAddr (.pointer (some ad))).run P W = .ok ad W := rfl
  have h2' : tmps[p]?.getD undef = .pointer (some ad) := by simpa using h2
  simp [results, hr, Sem.run_bind, h2', ha, hl]

theorem vcl_len (v : Vl) : (vcs v).length = 4 := rfl
theorem vcl_one (v : Vl) : ∀ u ∈ vcs v, u.oneCell' = true := by
  intro u hu
  simp only [vcs, List.mem_cons, List.not_mem_nil, or_false] at hu
  rcases hu with rfl | rfl | rfl | rfl <;> rfl
theorem layA_all {cur : Array Value} {cs : List Value} (h : cur.size = cs.length) : layA cur 0 cs = cs.toArray := by
  unfold layA lay
  congr 1
  rw [List.drop_of_length_le (by simp; omega)]
  simp

theorem stored_at {w : World} {g : Nat} {t : TypeId} {cur : Array Value} {cs : List Value} (h : Blk w g t cur) (hc : cur.size = cs.length) : At (w.setRow g (layA cur 0 cs)) ⟨g, 0, none⟩ cs := by
  rw [layA_all hc]
  exact (h.set _).at_
theorem Blk.vcs {w : World} {g : Nat} {t : TypeId} {v : Vl} (h : Blk w g t #[.int .i64 v.k, .int .i64 v.i, .string v.t, .slice none 0 0]) : At w ⟨g, 0, none⟩ (vcs v) := Blk.at_ h

set_option maxHeartbeats 1000000 in
theorem bright_val (w : World) (v : Vl) (hv : okV v) (h0 : -9223372036854775808 ≤ v.i) (h1 : v.i ≤ 9223372036854775807) : Calls Try.prog 71 #[vval v] w
    fun e w' => e = .returned (optV (okR v)) ∧ New w w' := by
  have key := fun W => right_val W v hv h0 h1
  have hb : ∀ b : Bool, rightV v = b → okR v = if b = true then some v else none := by intro b hb; rw [← hb]; rfl
  obtain ⟨q, hq⟩ : ∃ q, rightV v = q := ⟨_, rfl⟩
  rw [hb q hq]
  rw [hq] at key
  clear hb hq hv h0 h1
  have Key := Lib.hid key
  clear key
  unfold vval at *
  cases q with
  | true =>
    go_enter Try.func71, Try.ntmps71
    go_wp2_with first
      | (go_at_call 58; refine (Key.out _).mono ?_; rintro e w2 ⟨rfl, hc2⟩; have Hb1 := Lib.hid (((Blk.new w _ _).alloc _).chg hc2 id).vcs
         have hb2 := Blk.new (w.alloc (.cells #[.int .i64 v.k, .int .i64 v.i, .string v.t, .slice none 0 0] 37)) 37 #[.int .i64 0, .int .i64 0, .string ⟨#[]⟩, .slice none 0 0]
         rw [World.size_alloc] at hb2
         have Hb2 := Lib.hid (hb2.chg hc2 id); clear hb2
         have hc1 := ((((Chg.refl w (fun _ => False)).alloc _).alloc _).trans hc2 (fun _ _ x => x)); have Hc1 := Lib.hid hc1; clear hc2 hc1)
      | ((with_reducible refine wpl_load rfl (.tmp 1) 37 rfl stVal4 ⟨w.heap.size, 0, none⟩ (vcs v) ?_ (vcl_len v) Hb1.out ?_); exact rfl)
      | ((with_reducible refine wpl_store rfl (.tmp 2) (.tmp 8) 37 rfl stVal4 (w.heap.size + 1) 0 37 _ (vcs v) ?_ ?_ Hb2.out (vcl_len _) ?_ (vcl_one v) ?_); exact rfl; exact rfl; exact Nat.le_refl _)
    refine bodyPost_ret (v := .tuple #[.agg (vcs v).toArray, .bool true]) (res_cell2 (p := 2) (q := 3) stVal4 rfl _ _ ⟨w.heap.size + 1, 0, none⟩ (vcs v) rfl (stored_at Hb2.out rfl) rfl) rfl ⟨rfl, Hc1.out.setRow _ _ (fun h => absurd h (by omega))⟩
  | false =>
    go_enter Try.func71, Try.ntmps71
    go_wp2_with first
      | (go_at_call 58; refine (Key.out _).mono ?_; rintro e w2 ⟨rfl, hc2⟩
         have hb2 := Blk.new (w.alloc (.cells #[.int .i64 v.k, .int .i64 v.i, .string v.t, .slice none 0 0] 37)) 37 #[.int .i64 0, .int .i64 0, .string ⟨#[]⟩, .slice none 0 0]
         rw [World.size_alloc] at hb2
         have Hb2 := Lib.hid (hb2.chg hc2 id); clear hb2
         have hc1 := ((((Chg.refl w (fun _ => False)).alloc _).alloc _).trans hc2 (fun _ _ x => x)); have Hc1 := Lib.hid hc1; clear hc2 hc1)
      | ((with_reducible refine wpl_store rfl (.tmp 2) (.tmp 7) 37 rfl stVal4 (w.heap.size + 1) 0 37 _ (vcs zV) ?_ ?_ Hb2.out (vcl_len _) ?_ (vcl_one zV) ?_); exact rfl; exact rfl; exact Nat.le_refl _)
    refine bodyPost_ret (v := .tuple #[.agg (vcs zV).toArray, .bool false]) (res_cell2 (p := 2) (q := 3) stVal4 rfl _ _ ⟨w.heap.size + 1, 0, none⟩ (vcs zV) rfl (stored_at Hb2.out rfl) rfl) rfl ⟨rfl, Hc1.out.setRow _ _ (fun h => absurd h (by omega))⟩

def opV (m : Bool) (a b : Vl) : Option Vl := if a.k = 1 ∧ b.k = 1 ∧ rightV a = true ∧ rightV b = true then okR ⟨1, if m then a.i - b.i else a.i + b.i, ⟨#[]⟩⟩ else none
def opS (m : Bool) : ByteArray := if m then ⟨#[45]⟩ else ⟨#[43]⟩

set_option maxHeartbeats 2000000 in
set_option maxRecDepth 100000 in
theorem op_k3 (w : World) (s : ByteArray) (a b : Vl) : Calls Try.prog 62 #[.string s, .agg #[.int .i64 3, .int .i64 a.i, .string a.t, .slice none 0 0], .agg #[.int .i64 b.k, .int .i64 b.i, .string b.t, .slice none 0 0]] w
    fun e w' => e = .returned (.tuple #[.agg (vcs zV).toArray, .bool false]) ∧ New w w' := by
  have hb3 := Blk.new ((w.alloc (.cells #[.int .i64 3, .int .i64 a.i, .string a.t, .slice none 0 0] 37)).alloc (.cells #[.int .i64 b.k, .int .i64 b.i, .string b.t, .slice none 0 0] 37)) 37 #[.int .i64 0, .int .i64 0, .string ⟨#[]⟩, .slice none 0 0]
  have hc := (((Chg.refl w (fun _ => False)).alloc (.cells #[.int .i64 3, .int .i64 a.i, .string a.t, .slice none 0 0] 37)).alloc (.cells #[.int .i64 b.k, .int .i64 b.i, .string b.t, .slice none 0 0] 37)).alloc (.cells #[.int .i64 0, .int .i64 0, .string ⟨#[]⟩, .slice none 0 0] 37)
  have hsz : ((w.alloc (.cells #[.int .i64 3, .int .i64 a.i, .string a.t, .slice none 0 0] 37)).alloc (.cells #[.int .i64 b.k, .int .i64 b.i, .string b.t, .slice none 0 0] 37)).heap.size = w.heap.size + 1 + 1 := by simp
  rw [hsz] at hb3
  have Hb3 := Lib.hid hb3
  have Hc := Lib.hid hc
  clear hb3 hc
  go_enter Try.func62, Try.ntmps62
  go_wp2_with ((with_reducible refine wpl_store rfl (.tmp 6) (.tmp 26) 37 rfl stVal4 (w.heap.size + 1 + 1) 0 37 _ (vcs zV) ?_ ?_ Hb3.out (vcl_len _) ?_ (vcl_one zV) ?_); exact rfl; exact rfl; exact Nat.le_refl _)
  refine bodyPost_ret (v := .tuple #[.agg (vcs zV).toArray, .bool false]) (res_cell2 (p := 6) (q := 7) stVal4 rfl _ _ ⟨w.heap.size + 1 + 1, 0, none⟩ (vcs zV) rfl (stored_at Hb3.out rfl) rfl) rfl ⟨rfl, Hc.out.setRow _ _ (fun h => absurd h (by omega))⟩
set_option maxHeartbeats 2000000 in
set_option maxRecDepth 100000 in
theorem op_k13 (w : World) (s : ByteArray) (a b : Vl) : Calls Try.prog 62 #[.string s, .agg #[.int .i64 1, .int .i64 a.i, .string a.t, .slice none 0 0], .agg #[.int .i64 3, .int .i64 b.i, .string b.t, .slice none 0 0]] w
    fun e w' => e = .returned (.tuple #[.agg (vcs zV).toArray, .bool false]) ∧ New w w' := by
  have hb3 := Blk.new ((w.alloc (.cells #[.int .i64 1, .int .i64 a.i, .string a.t, .slice none 0 0] 37)).alloc (.cells #[.int .i64 3, .int .i64 b.i, .string b.t, .slice none 0 0] 37)) 37 #[.int .i64 0, .int .i64 0, .string ⟨#[]⟩, .slice none 0 0]
  have hc := (((Chg.refl w (fun _ => False)).alloc (.cells #[.int .i64 1, .int .i64 a.i, .string a.t, .slice none 0 0] 37)).alloc (.cells #[.int .i64 3, .int .i64 b.i, .string b.t, .slice none 0 0] 37)).alloc (.cells #[.int .i64 0, .int .i64 0, .string ⟨#[]⟩, .slice none 0 0] 37)
  have hsz : ((w.alloc (.cells #[.int .i64 1, .int .i64 a.i, .string a.t, .slice none 0 0] 37)).alloc (.cells #[.int .i64 3, .int .i64 b.i, .string b.t, .slice none 0 0] 37)).heap.size = w.heap.size + 1 + 1 := by simp
  rw [hsz] at hb3
  have Hb3 := Lib.hid hb3
  have Hc := Lib.hid hc
  clear hb3 hc
  go_enter Try.func62, Try.ntmps62
  go_wp2_with ((with_reducible refine wpl_store rfl (.tmp 6) (.tmp 26) 37 rfl stVal4 (w.heap.size + 1 + 1) 0 37 _ (vcs zV) ?_ ?_ Hb3.out (vcl_len _) ?_ (vcl_one zV) ?_); exact rfl; exact rfl; exact Nat.le_refl _)
  refine bodyPost_ret (v := .tuple #[.agg (vcs zV).toArray, .bool false]) (res_cell2 (p := 6) (q := 7) stVal4 rfl _ _ ⟨w.heap.size + 1 + 1, 0, none⟩ (vcs zV) rfl (stored_at Hb3.out rfl) rfl) rfl ⟨rfl, Hc.out.setRow _ _ (fun h => absurd h (by omega))⟩

set_option maxHeartbeats 2000000 in
set_option maxRecDepth 100000 in
theorem op_r1 (w : World) (s : ByteArray) (x y : Int) (ka : ∀ W, Calls Try.prog 58 #[.agg #[.int .i64 1, .int .i64 x, .string ⟨#[]⟩, .slice none 0 0]] W fun e w' => e = .returned (.bool false) ∧ New W w') : Calls Try.prog 62 #[.string s, .agg #[.int .i64 1, .int .i64 x, .string ⟨#[]⟩, .slice none 0 0], .agg #[.int .i64 1, .int .i64 y, .string ⟨#[]⟩, .slice none 0 0]] w
    fun e w' => e = .returned (.tuple #[.agg (vcs zV).toArray, .bool false]) ∧ New w w' := by
  have KA := Lib.hid ka
  clear ka
  have hb1 : Blk (((w.alloc (.cells #[.int .i64 1, .int .i64 x, .string ⟨#[]⟩, .slice none 0 0] 37)).alloc (.cells #[.int .i64 1, .int .i64 y, .string ⟨#[]⟩, .slice none 0 0] 37)).alloc (.cells #[.int .i64 0, .int .i64 0, .string ⟨#[]⟩, .slice none 0 0] 37)) w.heap.size 37 #[.int .i64 1, .int .i64 x, .string ⟨#[]⟩, .slice none 0 0] := ((Blk.new w _ _).alloc _).alloc _
  have hb2 : Blk (((w.alloc (.cells #[.int .i64 1, .int .i64 x, .string ⟨#[]⟩, .slice none 0 0] 37)).alloc (.cells #[.int .i64 1, .int .i64 y, .string ⟨#[]⟩, .slice none 0 0] 37)).alloc (.cells #[.int .i64 0, .int .i64 0, .string ⟨#[]⟩, .slice none 0 0] 37)) (w.heap.size + 1) 37 #[.int .i64 1, .int .i64 y, .string ⟨#[]⟩, .slice none 0 0] := by
    have := (Blk.new (w.alloc (.cells #[.int .i64 1, .int .i64 x, .string ⟨#[]⟩, .slice none 0 0] 37)) 37 #[.int .i64 1, .int .i64 y, .string ⟨#[]⟩, .slice none 0 0]).alloc (.cells #[.int .i64 0, .int .i64 0, .string ⟨#[]⟩, .slice none 0 0] 37)
    rwa [World.size_alloc] at this
  have hb3 : Blk (((w.alloc (.cells #[.int .i64 1, .int .i64 x, .string ⟨#[]⟩, .slice none 0 0] 37)).alloc (.cells #[.int .i64 1, .int .i64 y, .string ⟨#[]⟩, .slice none 0 0] 37)).alloc (.cells #[.int .i64 0, .int .i64 0, .string ⟨#[]⟩, .slice none 0 0] 37)) (w.heap.size + 1 + 1) 37 #[.int .i64 0, .int .i64 0, .string ⟨#[]⟩, .slice none 0 0] := by
    have := Blk.new ((w.alloc (.cells #[.int .i64 1, .int .i64 x, .string ⟨#[]⟩, .slice none 0 0] 37)).alloc (.cells #[.int .i64 1, .int .i64 y, .string ⟨#[]⟩, .slice none 0 0] 37)) 37 #[.int .i64 0, .int .i64 0, .string ⟨#[]⟩, .slice none 0 0]
    rwa [World.size_alloc, World.size_alloc] at this
  have hc : New w (((w.alloc (.cells #[.int .i64 1, .int .i64 x, .string ⟨#[]⟩, .slice none 0 0] 37)).alloc (.cells #[.int .i64 1, .int .i64 y, .string ⟨#[]⟩, .slice none 0 0] 37)).alloc (.cells #[.int .i64 0, .int .i64 0, .string ⟨#[]⟩, .slice none 0 0] 37)) := ((Chg.refl w _).alloc _).alloc _ |>.alloc _
  have Hb1 := Lib.hid hb1
  have Hb2 := Lib.hid hb2
  have Hb3 := Lib.hid hb3
  have Hc := Lib.hid hc
  clear hb1 hb2 hb3 hc
  go_enter Try.func62, Try.ntmps62
  go_wp2_with fail
  refine (KA.out _).mono ?_
  rintro e w3 ⟨rfl, hc3⟩
  replace Hb1 := Lib.hid (Hb1.out.chg hc3 id)
  replace Hb2 := Lib.hid (Hb2.out.chg hc3 id)
  replace Hb3 := Lib.hid (Hb3.out.chg hc3 id)
  replace Hc := Lib.hid (Hc.out.trans hc3 (fun _ _ x => x))
  clear hc3
  go_wp2_with ((with_reducible refine wpl_store rfl (.tmp 6) (.tmp 26) 37 rfl stVal4 (w.heap.size + 1 + 1) 0 37 _ (vcs zV) ?_ ?_ Hb3.out (vcl_len _) ?_ (vcl_one zV) ?_); exact rfl; exact rfl; exact Nat.le_refl _)
  refine bodyPost_ret (v := .tuple #[.agg (vcs zV).toArray, .bool false]) (res_cell2 (p := 6) (q := 7) stVal4 rfl _ _ ⟨w.heap.size + 1 + 1, 0, none⟩ (vcs zV) rfl (stored_at Hb3.out rfl) rfl) rfl ⟨rfl, Hc.out.setRow _ _ (fun h => absurd h (by omega))⟩

set_option maxHeartbeats 2000000 in
set_option maxRecDepth 100000 in
theorem op_r2 (w : World) (s : ByteArray) (x y : Int) (ka : ∀ W, Calls Try.prog 58 #[.agg #[.int .i64 1, .int .i64 x, .string ⟨#[]⟩, .slice none 0 0]] W fun e w' => e = .returned (.bool true) ∧ New W w')
    (kb : ∀ W, Calls Try.prog 58 #[.agg #[.int .i64 1, .int .i64 y, .string ⟨#[]⟩, .slice none 0 0]] W fun e w' => e = .returned (.bool false) ∧ New W w') : Calls Try.prog 62 #[.string s, .agg #[.int .i64 1, .int .i64 x, .string ⟨#[]⟩, .slice none 0 0], .agg #[.int .i64 1, .int .i64 y, .string ⟨#[]⟩, .slice none 0 0]] w
    fun e w' => e = .returned (.tuple #[.agg (vcs zV).toArray, .bool false]) ∧ New w w' := by
  have KA := Lib.hid ka
  have KB := Lib.hid kb
  clear ka kb
  have hb1 : Blk (((w.alloc (.cells #[.int .i64 1, .int .i64 x, .string ⟨#[]⟩, .slice none 0 0] 37)).alloc (.cells #[.int .i64 1, .int .i64 y, .string ⟨#[]⟩, .slice none 0 0] 37)).alloc (.cells #[.int .i64 0, .int .i64 0, .string ⟨#[]⟩, .slice none 0 0] 37)) w.heap.size 37 #[.int .i64 1, .int .i64 x, .string ⟨#[]⟩, .slice none 0 0] := ((Blk.new w _ _).alloc _).alloc _
  have hb2 : Blk (((w.alloc (.cells #[.int .i64 1, .int .i64 x, .string ⟨#[]⟩, .slice none 0 0] 37)).alloc (.cells #[.int .i64 1, .int .i64 y, .string ⟨#[]⟩, .slice none 0 0] 37)).alloc (.cells #[.int .i64 0, .int .i64 0, .string ⟨#[]⟩, .slice none 0 0] 37)) (w.heap.size + 1) 37 #[.int .i64 1, .int .i64 y, .string ⟨#[]⟩, .slice none 0 0] := by
    have := (Blk.new (w.alloc (.cells #[.int .i64 1, .int .i64 x, .string ⟨#[]⟩, .slice none 0 0] 37)) 37 #[.int .i64 1, .int .i64 y, .string ⟨#[]⟩, .slice none 0 0]).alloc (.cells #[.int .i64 0, .int .i64 0, .string ⟨#[]⟩, .slice none 0 0] 37)
    rwa [World.size_alloc] at this
  have hb3 : Blk (((w.alloc (.cells #[.int .i64 1, .int .i64 x, .string ⟨#[]⟩, .slice none 0 0] 37)).alloc (.cells #[.int .i64 1, .int .i64 y, .string ⟨#[]⟩, .slice none 0 0] 37)).alloc (.cells #[.int .i64 0, .int .i64 0, .string ⟨#[]⟩, .slice none 0 0] 37)) (w.heap.size + 1 + 1) 37 #[.int .i64 0, .int .i64 0, .string ⟨#[]⟩, .slice none 0 0] := by
    have := Blk.new ((w.alloc (.cells #[.int .i64 1, .int .i64 x, .string ⟨#[]⟩, .slice none 0 0] 37)).alloc (.cells #[.int .i64 1, .int .i64 y, .string ⟨#[]⟩, .slice none 0 0] 37)) 37 #[.int .i64 0, .int .i64 0, .string ⟨#[]⟩, .slice none 0 0]
    rwa [World.size_alloc, World.size_alloc] at this
  have hc : New w (((w.alloc (.cells #[.int .i64 1, .int .i64 x, .string ⟨#[]⟩, .slice none 0 0] 37)).alloc (.cells #[.int .i64 1, .int .i64 y, .string ⟨#[]⟩, .slice none 0 0] 37)).alloc (.cells #[.int .i64 0, .int .i64 0, .string ⟨#[]⟩, .slice none 0 0] 37)) := ((Chg.refl w _).alloc _).alloc _ |>.alloc _
  have Hb1 := Lib.hid hb1
  have Hb2 := Lib.hid hb2
  have Hb3 := Lib.hid hb3
  have Hc := Lib.hid hc
  clear hb1 hb2 hb3 hc
  go_enter Try.func62, Try.ntmps62
  go_wp2_with fail
  refine (KA.out _).mono ?_
  rintro e w3 ⟨rfl, hc3⟩
  replace Hb1 := Lib.hid (Hb1.out.chg hc3 id)
  replace Hb2 := Lib.hid (Hb2.out.chg hc3 id)
  replace Hb3 := Lib.hid (Hb3.out.chg hc3 id)
  replace Hc := Lib.hid (Hc.out.trans hc3 (fun _ _ x => x))
  clear hc3
  have Hat := Lib.hid (Blk.vcs (v := ⟨1, y, ⟨#[]⟩⟩) Hb2.out)
  go_wp2_with ((with_reducible refine wpl_loadg ?_ (.tmp 5) 37 rfl stVal4 ⟨w.heap.size + 1, 0, none⟩ (vcs ⟨1, y, ⟨#[]⟩⟩) ?_ (vcl_len _) Hat.out ?_); rfl; exact rfl)
  refine (KB.out _).mono ?_
  rintro e w4 ⟨rfl, hc4⟩
  replace Hb1 := Lib.hid (Hb1.out.chg hc4 id)
  replace Hb2 := Lib.hid (Hb2.out.chg hc4 id)
  replace Hb3 := Lib.hid (Hb3.out.chg hc4 id)
  replace Hc := Lib.hid (Hc.out.trans hc4 (fun _ _ x => x))
  clear hc4
  go_wp2_with ((with_reducible refine wpl_store rfl (.tmp 6) (.tmp 26) 37 rfl stVal4 (w.heap.size + 1 + 1) 0 37 _ (vcs zV) ?_ ?_ Hb3.out (vcl_len _) ?_ (vcl_one zV) ?_); exact rfl; exact rfl; exact Nat.le_refl _)
  refine bodyPost_ret (v := .tuple #[.agg (vcs zV).toArray, .bool false]) (res_cell2 (p := 6) (q := 7) stVal4 rfl _ _ ⟨w.heap.size + 1 + 1, 0, none⟩ (vcs zV) rfl (stored_at Hb3.out rfl) rfl) rfl ⟨rfl, Hc.out.setRow _ _ (fun h => absurd h (by omega))⟩

set_option maxHeartbeats 2000000 in
set_option maxRecDepth 100000 in
theorem op_add (w : World) (x y : Int) (hx0 : -2147483647 ≤ x) (hx1 : x ≤ 2147483647) (hy0 : -2147483647 ≤ y) (hy1 : y ≤ 2147483647) (ka : ∀ W, Calls Try.prog 58 #[.agg #[.int .i64 1, .int .i64 x, .string ⟨#[]⟩, .slice none 0 0]] W fun e w' => e = .returned (.bool true) ∧ New W w')
    (kb : ∀ W, Calls Try.prog 58 #[.agg #[.int .i64 1, .int .i64 y, .string ⟨#[]⟩, .slice none 0 0]] W fun e w' => e = .returned (.bool true) ∧ New W w') : Calls Try.prog 62 #[.string ⟨#[43]⟩, .agg #[.int .i64 1, .int .i64 x, .string ⟨#[]⟩, .slice none 0 0], .agg #[.int .i64 1, .int .i64 y, .string ⟨#[]⟩, .slice none 0 0]] w
    fun e w' => e = .returned (optV (okR ⟨1, x + y, ⟨#[]⟩⟩)) ∧ New w w' := by
  have KA := Lib.hid ka
  have KB := Lib.hid kb
  clear ka kb
  have kr : ∀ W, Calls Try.prog 71 #[.agg #[.int .i64 1, .int .i64 (x + y), .string ⟨#[]⟩, .slice none 0 0]] W fun e w' => ∃ u : Vl, ∃ q : Bool, optV (okR ⟨1, x + y, ⟨#[]⟩⟩) = .tuple #[.agg (vcs u).toArray, .bool q] ∧ e = .returned (.tuple #[.agg (vcs u).toArray, .bool q]) ∧ New W w' := fun W =>
    (bright_val W ⟨1, x + y, ⟨#[]⟩⟩ (.inl ⟨rfl, rfl⟩) (by dsimp only; omega) (by dsimp only; omega)).mono fun e w' ⟨he, hc⟩ => ⟨_, _, rfl, he, hc⟩
  have KR := Lib.hid kr
  clear kr
  have hb1 : Blk (((w.alloc (.cells #[.int .i64 1, .int .i64 x, .string ⟨#[]⟩, .slice none 0 0] 37)).alloc (.cells #[.int .i64 1, .int .i64 y, .string ⟨#[]⟩, .slice none 0 0] 37)).alloc (.cells #[.int .i64 0, .int .i64 0, .string ⟨#[]⟩, .slice none 0 0] 37)) w.heap.size 37 #[.int .i64 1, .int .i64 x, .string ⟨#[]⟩, .slice none 0 0] := ((Blk.new w _ _).alloc _).alloc _
  have hb2 : Blk (((w.alloc (.cells #[.int .i64 1, .int .i64 x, .string ⟨#[]⟩, .slice none 0 0] 37)).alloc (.cells #[.int .i64 1, .int .i64 y, .string ⟨#[]⟩, .slice none 0 0] 37)).alloc (.cells #[.int .i64 0, .int .i64 0, .string ⟨#[]⟩, .slice none 0 0] 37)) (w.heap.size + 1) 37 #[.int .i64 1, .int .i64 y, .string ⟨#[]⟩, .slice none 0 0] := by
    have := (Blk.new (w.alloc (.cells #[.int .i64 1, .int .i64 x, .string ⟨#[]⟩, .slice none 0 0] 37)) 37 #[.int .i64 1, .int .i64 y, .string ⟨#[]⟩, .slice none 0 0]).alloc (.cells #[.int .i64 0, .int .i64 0, .string ⟨#[]⟩, .slice none 0 0] 37)
    rwa [World.size_alloc] at this
  have hb3 : Blk (((w.alloc (.cells #[.int .i64 1, .int .i64 x, .string ⟨#[]⟩, .slice none 0 0] 37)).alloc (.cells #[.int .i64 1, .int .i64 y, .string ⟨#[]⟩, .slice none 0 0] 37)).alloc (.cells #[.int .i64 0, .int .i64 0, .string ⟨#[]⟩, .slice none 0 0] 37)) (w.heap.size + 1 + 1) 37 #[.int .i64 0, .int .i64 0, .string ⟨#[]⟩, .slice none 0 0] := by
    have := Blk.new ((w.alloc (.cells #[.int .i64 1, .int .i64 x, .string ⟨#[]⟩, .slice none 0 0] 37)).alloc (.cells #[.int .i64 1, .int .i64 y, .string ⟨#[]⟩, .slice none 0 0] 37)) 37 #[.int .i64 0, .int .i64 0, .string ⟨#[]⟩, .slice none 0 0]
    rwa [World.size_alloc, World.size_alloc] at this
  have hc : New w (((w.alloc (.cells #[.int .i64 1, .int .i64 x, .string ⟨#[]⟩, .slice none 0 0] 37)).alloc (.cells #[.int .i64 1, .int .i64 y, .string ⟨#[]⟩, .slice none 0 0] 37)).alloc (.cells #[.int .i64 0, .int .i64 0, .string ⟨#[]⟩, .slice none 0 0] 37)) := ((Chg.refl w _).alloc _).alloc _ |>.alloc _
  have Hb1 := Lib.hid hb1
  have Hb2 := Lib.hid hb2
  have Hb3 := Lib.hid hb3
  have Hc := Lib.hid hc
  clear hb1 hb2 hb3 hc
  go_enter Try.func62, Try.ntmps62
  go_wp2_with fail
  refine (KA.out _).mono ?_
  rintro e w3 ⟨rfl, hc3⟩
  replace Hb1 := Lib.hid (Hb1.out.chg hc3 id)
  replace Hb2 := Lib.hid (Hb2.out.chg hc3 id)
  replace Hb3 := Lib.hid (Hb3.out.chg hc3 id)
  replace Hc := Lib.hid (Hc.out.trans hc3 (fun _ _ x => x))
  clear hc3
  have Hat := Lib.hid (Blk.vcs (v := ⟨1, y, ⟨#[]⟩⟩) Hb2.out)
  go_wp2_with ((with_reducible refine wpl_loadg ?_ (.tmp 5) 37 rfl stVal4 ⟨w.heap.size + 1, 0, none⟩ (vcs ⟨1, y, ⟨#[]⟩⟩) ?_ (vcl_len _) Hat.out ?_); rfl; exact rfl)
  refine (KB.out _).mono ?_
  rintro e w4 ⟨rfl, hc4⟩
  replace Hb1 := Lib.hid (Hb1.out.chg hc4 id)
  replace Hb2 := Lib.hid (Hb2.out.chg hc4 id)
  replace Hb3 := Lib.hid (Hb3.out.chg hc4 id)
  replace Hc := Lib.hid (Hc.out.trans hc4 (fun _ _ x => x))
  clear hc4
  have hcx := Hb1.out.cell 1
  have hcy := Hb2.out.cell 1
  simp only [List.getElem?_toArray, List.getElem?_cons_succ, List.getElem?_cons_zero] at hcx hcy
  go_wp2_with first
    | (go_at_call 72; refine (number_any _ _).mono ?_; rintro e w5 ⟨rfl, hc5⟩; replace Hb3 := Lib.hid (Hb3.out.chg hc5 id); replace Hc := Lib.hid (Hc.out.trans hc5 (fun _ _ x => x)); clear hc5)
    | (go_at_call 71; refine (KR.out _).mono ?_; rintro e w6 ⟨u, q, hu, rfl, hc6⟩; have Hu := Lib.hid hu; clear hu; replace Hb3 := Lib.hid (Hb3.out.chg hc6 id); replace Hc := Lib.hid (Hc.out.trans hc6 (fun _ _ x => x)); clear hc6)
    | ((with_reducible refine wpl_store rfl (.tmp 6) (.tmp 37) 37 rfl stVal4 (w.heap.size + 1 + 1) 0 37 _ (vcs u) ?_ ?_ Hb3.out (vcl_len _) ?_ (vcl_one u) ?_); exact rfl; exact rfl; exact Nat.le_refl _)
  refine bodyPost_ret (v := .tuple #[.agg (vcs u).toArray, .bool q]) (res_cell2 (p := 6) (q := 7) stVal4 rfl _ _ ⟨w.heap.size + 1 + 1, 0, none⟩ (vcs u) rfl (stored_at Hb3.out rfl) rfl) rfl ⟨congrArg Ending.returned Hu.out.symm, Hc.out.setRow _ _ (fun h => absurd h (by omega))⟩

set_option maxHeartbeats 2000000 in
set_option maxRecDepth 100000 in
theorem op_sub (w : World) (x y : Int) (hx0 : -2147483647 ≤ x) (hx1 : x ≤ 2147483647) (hy0 : -2147483647 ≤ y) (hy1 : y ≤ 2147483647) (ka : ∀ W, Calls Try.prog 58 #[.agg #[.int .i64 1, .int .i64 x, .string ⟨#[]⟩, .slice none 0 0]] W fun e w' => e = .returned (.bool true) ∧ New W w')
    (kb : ∀ W, Calls Try.prog 58 #[.agg #[.int .i64 1, .int .i64 y, .string ⟨#[]⟩, .slice none 0 0]] W fun e w' => e = .returned (.bool true) ∧ New W w') : Calls Try.prog 62 #[.string ⟨#[45]⟩, .agg #[.int .i64 1, .int .i64 x, .string ⟨#[]⟩, .slice none 0 0], .agg #[.int .i64 1, .int .i64 y, .string ⟨#[]⟩, .slice none 0 0]] w
    fun e w' => e = .returned (optV (okR ⟨1, x - y, ⟨#[]⟩⟩)) ∧ New w w' := by
  have KA := Lib.hid ka
  have KB := Lib.hid kb
  clear ka kb
  have kr : ∀ W, Calls Try.prog 71 #[.agg #[.int .i64 1, .int .i64 (x - y), .string ⟨#[]⟩, .slice none 0 0]] W fun e w' => ∃ u : Vl, ∃ q : Bool, optV (okR ⟨1, x - y, ⟨#[]⟩⟩) = .tuple #[.agg (vcs u).toArray, .bool q] ∧ e = .returned (.tuple #[.agg (vcs u).toArray, .bool q]) ∧ New W w' := fun W =>
    (bright_val W ⟨1, x - y, ⟨#[]⟩⟩ (.inl ⟨rfl, rfl⟩) (by dsimp only; omega) (by dsimp only; omega)).mono fun e w' ⟨he, hc⟩ => ⟨_, _, rfl, he, hc⟩
  have KR := Lib.hid kr
  clear kr
  have hb1 : Blk (((w.alloc (.cells #[.int .i64 1, .int .i64 x, .string ⟨#[]⟩, .slice none 0 0] 37)).alloc (.cells #[.int .i64 1, .int .i64 y, .string ⟨#[]⟩, .slice none 0 0] 37)).alloc (.cells #[.int .i64 0, .int .i64 0, .string ⟨#[]⟩, .slice none 0 0] 37)) w.heap.size 37 #[.int .i64 1, .int .i64 x, .string ⟨#[]⟩, .slice none 0 0] := ((Blk.new w _ _).alloc _).alloc _
  have hb2 : Blk (((w.alloc (.cells #[.int .i64 1, .int .i64 x, .string ⟨#[]⟩, .slice none 0 0] 37)).alloc (.cells #[.int .i64 1, .int .i64 y, .string ⟨#[]⟩, .slice none 0 0] 37)).alloc (.cells #[.int .i64 0, .int .i64 0, .string ⟨#[]⟩, .slice none 0 0] 37)) (w.heap.size + 1) 37 #[.int .i64 1, .int .i64 y, .string ⟨#[]⟩, .slice none 0 0] := by
    have := (Blk.new (w.alloc (.cells #[.int .i64 1, .int .i64 x, .string ⟨#[]⟩, .slice none 0 0] 37)) 37 #[.int .i64 1, .int .i64 y, .string ⟨#[]⟩, .slice none 0 0]).alloc (.cells #[.int .i64 0, .int .i64 0, .string ⟨#[]⟩, .slice none 0 0] 37)
    rwa [World.size_alloc] at this
  have hb3 : Blk (((w.alloc (.cells #[.int .i64 1, .int .i64 x, .string ⟨#[]⟩, .slice none 0 0] 37)).alloc (.cells #[.int .i64 1, .int .i64 y, .string ⟨#[]⟩, .slice none 0 0] 37)).alloc (.cells #[.int .i64 0, .int .i64 0, .string ⟨#[]⟩, .slice none 0 0] 37)) (w.heap.size + 1 + 1) 37 #[.int .i64 0, .int .i64 0, .string ⟨#[]⟩, .slice none 0 0] := by
    have := Blk.new ((w.alloc (.cells #[.int .i64 1, .int .i64 x, .string ⟨#[]⟩, .slice none 0 0] 37)).alloc (.cells #[.int .i64 1, .int .i64 y, .string ⟨#[]⟩, .slice none 0 0] 37)) 37 #[.int .i64 0, .int .i64 0, .string ⟨#[]⟩, .slice none 0 0]
    rwa [World.size_alloc, World.size_alloc] at this
  have hc : New w (((w.alloc (.cells #[.int .i64 1, .int .i64 x, .string ⟨#[]⟩, .slice none 0 0] 37)).alloc (.cells #[.int .i64 1, .int .i64 y, .string ⟨#[]⟩, .slice none 0 0] 37)).alloc (.cells #[.int .i64 0, .int .i64 0, .string ⟨#[]⟩, .slice none 0 0] 37)) := ((Chg.refl w _).alloc _).alloc _ |>.alloc _
  have Hb1 := Lib.hid hb1
  have Hb2 := Lib.hid hb2
  have Hb3 := Lib.hid hb3
  have Hc := Lib.hid hc
  clear hb1 hb2 hb3 hc
  go_enter Try.func62, Try.ntmps62
  go_wp2_with fail
  refine (KA.out _).mono ?_
  rintro e w3 ⟨rfl, hc3⟩
  replace Hb1 := Lib.hid (Hb1.out.chg hc3 id)
  replace Hb2 := Lib.hid (Hb2.out.chg hc3 id)
  replace Hb3 := Lib.hid (Hb3.out.chg hc3 id)
  replace Hc := Lib.hid (Hc.out.trans hc3 (fun _ _ x => x))
  clear hc3
  have Hat := Lib.hid (Blk.vcs (v := ⟨1, y, ⟨#[]⟩⟩) Hb2.out)
  go_wp2_with ((with_reducible refine wpl_loadg ?_ (.tmp 5) 37 rfl stVal4 ⟨w.heap.size + 1, 0, none⟩ (vcs ⟨1, y, ⟨#[]⟩⟩) ?_ (vcl_len _) Hat.out ?_); rfl; exact rfl)
  refine (KB.out _).mono ?_
  rintro e w4 ⟨rfl, hc4⟩
  replace Hb1 := Lib.hid (Hb1.out.chg hc4 id)
  replace Hb2 := Lib.hid (Hb2.out.chg hc4 id)
  replace Hb3 := Lib.hid (Hb3.out.chg hc4 id)
  replace Hc := Lib.hid (Hc.out.trans hc4 (fun _ _ x => x))
  clear hc4
  have hcx := Hb1.out.cell 1
  have hcy := Hb2.out.cell 1
  simp only [List.getElem?_toArray, List.getElem?_cons_succ, List.getElem?_cons_zero] at hcx hcy
  go_wp2_with first
    | (go_at_call 72; refine (number_any _ _).mono ?_; rintro e w5 ⟨rfl, hc5⟩; replace Hb3 := Lib.hid (Hb3.out.chg hc5 id); replace Hc := Lib.hid (Hc.out.trans hc5 (fun _ _ x => x)); clear hc5)
    | (go_at_call 71; refine (KR.out _).mono ?_; rintro e w6 ⟨u, q, hu, rfl, hc6⟩; have Hu := Lib.hid hu; clear hu; replace Hb3 := Lib.hid (Hb3.out.chg hc6 id); replace Hc := Lib.hid (Hc.out.trans hc6 (fun _ _ x => x)); clear hc6)
    | ((with_reducible refine wpl_store rfl (.tmp 6) (.tmp 48) 37 rfl stVal4 (w.heap.size + 1 + 1) 0 37 _ (vcs u) ?_ ?_ Hb3.out (vcl_len _) ?_ (vcl_one u) ?_); exact rfl; exact rfl; exact Nat.le_refl _)
  refine bodyPost_ret (v := .tuple #[.agg (vcs u).toArray, .bool q]) (res_cell2 (p := 6) (q := 7) stVal4 rfl _ _ ⟨w.heap.size + 1 + 1, 0, none⟩ (vcs u) rfl (stored_at Hb3.out rfl) rfl) rfl ⟨congrArg Ending.returned Hu.out.symm, Hc.out.setRow _ _ (fun h => absurd h (by omega))⟩

/-- builtin.Op at + and -. -/
theorem op_val (w : World) (m : Bool) (a b : Vl) (ha : okV a) (hb : okV b) (ha0 : -9223372036854775808 ≤ a.i) (ha1 : a.i ≤ 9223372036854775807) (hb0 : -9223372036854775808 ≤ b.i) (hb1 : b.i ≤ 9223372036854775807) :
    Calls Try.prog 62 #[.string (opS m), vval a, vval b] w fun e w' => e = .returned (optV (opV m a b)) ∧ New w w' := by
  have ra := fun W => right_val W a ha ha0 ha1
  have rb := fun W => right_val W b hb hb0 hb1
  obtain ⟨ka, x, s⟩ := a
  obtain ⟨kb, y, t⟩ := b
  unfold okV at ha hb
  dsimp only at ha hb
  rcases ha with ⟨rfl, rfl⟩ | ⟨rfl, rfl, c, rfl, _⟩
  · rcases hb with ⟨rfl, rfl⟩ | ⟨rfl, rfl, d, rfl, _⟩
    · cases hqa : rightV ⟨1, x, ⟨#[]⟩⟩ with
      | false =>
        rw [hqa] at ra
        have : opV m ⟨1, x, ⟨#[]⟩⟩ ⟨1, y, ⟨#[]⟩⟩ = none := by unfold opV; rw [if_neg (by rw [hqa]; simp)]
        rw [this]
        exact op_r1 w (opS m) x y ra
      | true =>
        cases hqb : rightV ⟨1, y, ⟨#[]⟩⟩ with
        | false =>
          rw [hqa] at ra
          rw [hqb] at rb
          have : opV m ⟨1, x, ⟨#[]⟩⟩ ⟨1, y, ⟨#[]⟩⟩ = none := by unfold opV; rw [if_neg (by rw [hqb]; simp)]
          rw [this]
          exact op_r2 w (opS m) x y ra rb
        | true =>
          rw [hqa] at ra
          rw [hqb] at rb
          have : opV m ⟨1, x, ⟨#[]⟩⟩ ⟨1, y, ⟨#[]⟩⟩ = okR ⟨1, if m then x - y else x + y, ⟨#[]⟩⟩ := by unfold opV; rw [if_pos ⟨rfl, rfl, hqa, hqb⟩]
          rw [this]
          simp only [rightV, ne_eq, not_true_eq_false, decide_false, Bool.false_or, Bool.and_eq_true, decide_eq_true_eq] at hqa hqb
          cases m with
          | false => exact op_add w x y hqa.2 hqa.1 hqb.2 hqb.1 ra rb
          | true => exact op_sub w x y hqa.2 hqa.1 hqb.2 hqb.1 ra rb
    · have : opV m ⟨1, x, ⟨#[]⟩⟩ ⟨3, 0, ⟨#[d]⟩⟩ = none := by unfold opV; rw [if_neg (by simp)]
      rw [this]
      exact op_k13 w (opS m) ⟨1, x, ⟨#[]⟩⟩ ⟨3, 0, ⟨#[d]⟩⟩
  · have : opV m ⟨3, 0, ⟨#[c]⟩⟩ ⟨kb, y, t⟩ = none := by unfold opV; rw [if_neg (by simp)]
    rw [this]
    exact op_k3 w (opS m) ⟨3, 0, ⟨#[c]⟩⟩ ⟨kb, y, t⟩
end Go.Proofs.Ytfocjfnkcabbgaa
