/- Part 7 of what stands beneath. -/
import Derived.Test.YtbpgfnbhihklnaaGreatJ6
import Derived.Laws.IdiomStrings
set_option maxHeartbeats 8000000
set_option maxRecDepth 100000
set_option linter.all false
namespace Go.Proofs.YtbpgfnbhihklnaaGreat
open Go.RowKit Go.Shelf
def tms1 {W:World} {b:Nat} {c1:List Value} {t1:Tm} (hb:Blk W b 64 c1.toArray) (h1:TmAt W c1 t1):TmsAt W (some ⟨b,0,none⟩) [c1] [t1]:=
 ⟨rfl,fun _=>⟨_,rfl,fun i cs hi=>by
  match i,hi with
  |0,hi=>cases hi;exact ⟨h1.len,by rw [yo];exact hb.at_⟩
  |i+1,hi=>simp at hi⟩,fun j cs t hj ht=>by
  match j,hj,ht with
  |0,hj,ht=>cases hj;cases ht;exact h1
  |j+1,hj,ht=>simp at hj⟩
def tms2 {W:World} {b:Nat} {c1 c2:List Value} {t1 t2:Tm} (hb:Blk W b 64 (c1++c2).toArray) (h1:TmAt W c1 t1) (h2:TmAt W c2 t2):TmsAt W (some ⟨b,0,none⟩) [c1,c2] [t1,t2]:=
 ⟨rfl,fun _=>⟨_,rfl,fun i cs hi=>by
  match i,hi with
  |0,hi=>cases hi;exact ⟨h1.len,fun j u hj=>by rw [yo,Addr.add_lit,Addr.add_lit,hb.cell,qx];simp only [jn];rw [qe (qv.1 hj).1];exact hj⟩
  |1,hi=>cases hi;exact ⟨h2.len,fun j u hj=>by
    rw [Addr.add_lit,Addr.add_lit,hb.cell,qx,qi (by rw [h1.len];omega)]
    rw [show 0+1 * 7+j - c1.length=j from by rw [h1.len];omega]
    exact hj⟩
  |i+2,hi=>simp at hi⟩,fun j cs t hj ht=>by
  match j,hj,ht with
  |0,hj,ht=>cases hj;cases ht;exact h1
  |1,hj,ht=>cases hj;cases ht;exact h2
  |j+2,hj,ht=>simp at hj⟩
def B64 (c:Int):Prop:=-9223372036854775808≤c∧c≤9223372036854775807
def vNm (c:Int):ByteArray:=match (pk c 6).toNat with
 |0=>⟨#[83]⟩|1=>⟨#[68]⟩|2=>⟨#[88]⟩|3=>⟨#[89]⟩|4=>⟨#[90]⟩|_=>⟨#[67]⟩
def varC (s:ByteArray):List Value:=[.int .i64 1,.string s,.int .i64 0,.int .i64 0,.string ⟨#[]⟩,.slice none 0 0,.slice none 0 0]
def valC (v:Vl):List Value:=[.int .i64 2,.string ⟨#[]⟩,.int .i64 v.k,.int .i64 v.i,.string v.t,.slice none 0 0,.slice none 0 0]
def v06 (w:World) (c:Int) (h:B64 c):Calls Tryz.prog 95 #[.int .i64 c] w fun e w'=>e=.returned (.agg #[.int .i64 1,.string (vNm c),.int .i64 0,.int .i64 0,.string ⟨#[]⟩,.slice none 0 0,.slice none 0 0])∧New w w':=by
 obtain ⟨p,hp⟩:∃ p:Nat,pk c 6=p:=⟨(pk c 6).toNat,by have:=km c 6 (by omega);omega⟩
 have hp6:p < 6:=by have:=kn c 6 (by omega);omega
 obtain ⟨s,hs⟩:=qdp (vNm c)
 have hs':=hs
 rw [hs]
 have hpick:=fun W=>gm W c 6 h.1 h.2 (by omega) (by omega)
 unfold vNm at hs'
 rw [hp] at hpick hs'
 rw [Int.toNat_natCast] at hs'
 have HP:=qq hpick
 clear hpick hp hs
 rcases (show p=0∨p=1∨p=2∨p=3∨p=4∨p=5 by omega) with rfl|rfl|rfl|rfl|rfl|rfl
 all_goals
  simp only at hs'
  subst hs'
  go_enter Tryz.func95,Tryz.ntmps95
  go_wp2_with (go_at_call 64;refine (HP.out _).mono ?_;rintro e w2 ⟨rfl,rfl⟩)
  exact bodyPost_ret (v:=.agg #[.int .i64 1,.string _,.int .i64 0,.int .i64 0,.string ⟨#[]⟩,.slice none 0 0,.slice none 0 0]) (xh xy rfl _ _ ⟨w.heap.size,0,none⟩ [.int .i64 1,.string _,.int .i64 0,.int .i64 0,.string ⟨#[]⟩,.slice none 0 0,.slice none 0 0] rfl ((Blk.new w _ _).alloc _).at_ rfl) rfl ⟨rfl,((Chg.refl _ _).alloc _).alloc _⟩
def num06 (w:World) (c:Int):Calls Tryz.prog 96 #[.int .i64 c] w fun e w'=>e=.returned (.agg #[.int .i64 2,.string ⟨#[]⟩,.int .i64 1,.int .i64 c,.string ⟨#[]⟩,.slice none 0 0,.slice none 0 0])∧New w w':=by
 go_enter Tryz.func96,Tryz.ntmps96
 go_wp2_with fail
 exact bodyPost_ret (v:=.agg #[.int .i64 2,.string ⟨#[]⟩,.int .i64 1,.int .i64 c,.string ⟨#[]⟩,.slice none 0 0,.slice none 0 0]) (xh xy rfl _ _ ⟨w.heap.size,0,none⟩ [.int .i64 2,.string ⟨#[]⟩,.int .i64 1,.int .i64 c,.string ⟨#[]⟩,.slice none 0 0,.slice none 0 0] rfl (Blk.new w _ _).at_ rfl) rfl ⟨rfl,(Chg.refl _ _).alloc _⟩
def flatT (t:Tm):Prop:=(∃ c,t=.var (vNm c))∨∃ v,t=.val v∧rawV v
def rawT:Tm→Prop
 | .var s=>∃ c,s=vNm c
 | .val v=>rawV v
 | .op _ a b=>(∃ c,a=.var (vNm c))∧flatT b
def rawV.ok {v:Vl} (h:rawV v):okW v:=by
 rcases h with ⟨i,h0,h1,rfl⟩| ⟨b,h0,h1,rfl⟩
 ·exact ⟨.inl ⟨rfl,rfl⟩,by dsimp only;omega,by dsimp only;omega⟩
 ·exact ⟨.inr ⟨rfl,rfl,b,rfl,h0,by omega⟩,by dsimp only;omega,by dsimp only;omega⟩
def rawT.ok:∀ {t:Tm},rawT t→okTm t
 | .var s,_=>trivial
 | .val v,h=>rawV.ok h
 | .op _ a b,⟨⟨_,h⟩,h'⟩=>⟨by rw [h];trivial,by
  rcases h' with ⟨_,h'⟩| ⟨_,h',h2⟩
  ·rw [h'];trivial
  ·rw [h'];exact rawV.ok h2⟩
def Own.one {w:World} {base g k:Nat} {e:TypeId} {cs:List Value} (hb:Blk w g e cs.toArray) (hB:base≤g) (hl:cs.length=k):Own w base e k (.slice (some ⟨g,0,none⟩) 1 1) [cs]:=
 ⟨⟨by simp [hl],.inr ⟨g,1,cs.toArray,rfl,hB,hb,qh _,by decide,by simp [hl],by simp [←hl]⟩⟩,by simp [hl]⟩
section
variable {P:Program} {t e:TypeId} {k bytes:Nat} {zs:List Value}
def ElT.appOne (hE:ElT P t e k bytes zs) {B:Nat} {W:World} {v:Value} {css:List (List Value)} (ho:Own W B e k v css) (hB:B≤W.heap.size) (cs:List Value) (hk:cs.length=k) (h1:∀ u∈cs,u.oneCell'=true)
  (hb:(css.length+1) * bytes≤140737488355328) (hb2:css.length+1≤maxLen) (ty:TypeId) (g:Nat) (hg:W.heap.size=g):
  ∃ v' W',(Builtin.append_ #[t,t] ty #[v,.slice (some ⟨g,0,none⟩) 1 1]).run P (W.alloc (.cells cs.toArray e))=.ok v' W'∧(Own W' B e k v' (css++[cs])∧Chg W W' (fun k=>v.ownBlock=some k)∧∀ k,v'.ownBlock=some k→v.ownBlock=some k∨W.heap.size≤k):=by
 subst hg
 have hn:New W (W.alloc (.cells cs.toArray e)):=(Chg.refl _ _).alloc _
 have hbl:Blk (W.alloc (.cells cs.toArray e)) W.heap.size e cs.toArray:=Blk.new _ _ _
 obtain ⟨v',W',h1,h2,h3,h4⟩:=hE.appendS (ho.chg hn qdr) (qb hB hn.size) (some ⟨W.heap.size,0,none⟩) 1 1 [cs] rfl (fun d hd=>by rw [qn.1 hd];exact hk) (fun d hd=>by rw [qn.1 hd];exact h1) (kj hbl.at_ hk) hb hb2 ty
 exact ⟨v',W',h1,h2,(hn.mono (T':=fun k=>v.ownBlock=some k) (fun _ _ x=>x.elim)).trans h3 qdr,fun k hk=>(h4 k hk).imp id (fun h=>qb hn.size h)⟩
end
structure TmL (w:World) (css:List (List Value)) (ts:List Tm):Prop where
 len:css.length=ts.length
 at_:∀ (j:Nat) (cs:List Value) (t:Tm),css[j]? =some cs→ts[j]? =some t→TmAt w cs t
def TmL.snoc {w:World} {css:List (List Value)} {ts:List Tm} {cs:List Value} {t:Tm} (h:TmL w css ts) (ht:TmAt w cs t):TmL w (css++[cs]) (ts++[t]):=by
 refine ⟨by simp [h.len],fun j c u h1 h2=>?_⟩
 rcases Nat.lt_trichotomy j css.length with hj|hj|hj
 ·rw [qe hj] at h1
  rw [qe (by rw [←h.len];exact hj)] at h2
  exact h.at_ j c u h1 h2
 ·subst hj
  rw [qi (qh _)] at h1
  rw [h.len,qi (qh _)] at h2
  simp at h1 h2
  rw [←h1, ←h2]
  exact ht
 ·rw [jm (by simp;omega)] at h1
  cases h1
def TmL.one {w:World} {cs:List Value} {t:Tm} (h:TmAt w cs t):TmL w [cs] [t]:=TmL.snoc (css:=[]) (ts:=[]) ⟨rfl,fun j cs t h1=>by simp at h1⟩ h
def bp {y d:Int} (hd:0 < d) (h0:-9223372036854775808≤y) (h1:y≤9223372036854775807):-9223372036854775808≤y.tdiv d∧y.tdiv d≤9223372036854775807:=by
 rcases Int.le_total 0 y with h|h
 ·rw [uc h]
  have:=Int.ediv_le_self d h
  have:=Int.ediv_nonneg h (Int.le_of_lt hd)
  omega
 ·have e:y.tdiv d=-((-y).tdiv d):=by rw [Int.neg_tdiv];omega
  rw [e,uc (by omega)]
  have:=Int.ediv_le_self d (show 0≤-y by omega)
  have:=Int.ediv_nonneg (show 0≤-y by omega) (Int.le_of_lt hd)
  omega
def Stays (w:World) (S:Nat→Prop) (P:World→Prop):Prop:=∀ W',Chg w W' S→P W'
def Stays.now {w:World} {S:Nat→Prop} {P:World→Prop} (h:Stays w S P):P w:=h w (Chg.refl _ _)
def Stays.chg {w w1:World} {S T S1:Nat→Prop} {P:World→Prop} (h:Stays w S P) (hc:Chg w w1 T) (hT:∀ k,k < w.heap.size→T k→S k) (hS:∀ k,k < w.heap.size→S1 k→S k):Stays w1 S1 P:=
 fun W' hW=>h W' ((hc.mono hT).trans hW hS)
def TmL.grow {wr W W':World} {B:Nat} {v v':Value} {css:List (List Value)} {ts:List Tm} {cs:List Value} {t:Tm} (hB:B≤wr.heap.size) (hv:∀ k,v.ownBlock=some k→k < wr.heap.size)
  (h:Stays wr (fun k=>k < B∨v.ownBlock=some k) (fun W=>TmL W css ts)) (hW:New wr W) (ht:Stays W (fun k=>k < wr.heap.size) (fun W=>TmAt W cs t))
  (hc:Chg W W' (fun k=>v.ownBlock=some k)) (ho:∀ k,v'.ownBlock=some k→v.ownBlock=some k∨W.heap.size≤k):
  Stays W' (fun k=>k < B∨v'.ownBlock=some k) (fun W=>TmL W (css++[cs]) (ts++[t])):=by
 intro W2 h2
 have hWz:=hW.size
 have hc1:Chg W W2 (fun k=>k < B∨v.ownBlock=some k):=(hc.mono (fun k _ hk=>.inr hk)).trans h2 (fun k hk e=>e.imp id (fun e=>(ho k e).elim id (fun h=>absurd hk (Nat.not_lt.2 h))))
 have h1:TmL W2 css ts:=h W2 ((hW.mono (fun _ _ x=>x.elim)).trans hc1 (fun k _ e=>e))
 refine h1.snoc (ht W2 (hc1.mono (fun k _ e=>e.elim (fun e=>by omega) (fun e=>hv k e))))
def tm_one (b:UInt8):∀ u∈[Value.int .i64 2,.string ⟨#[]⟩,.int .i64 3,.int .i64 0,.string ⟨#[b]⟩,.slice none 0 0,.slice none 0 0],u.oneCell'=true:=by
 intro u hu
 simp only [qp,qm,or_false] at hu
 rcases hu with rfl|rfl|rfl|rfl|rfl|rfl|rfl <;> rfl
def tn_one (i:Int):∀ u∈[Value.int .i64 2,.string ⟨#[]⟩,.int .i64 1,.int .i64 i,.string ⟨#[]⟩,.slice none 0 0,.slice none 0 0],u.oneCell'=true:=by
 intro u hu
 simp only [qp,qm,or_false] at hu
 rcases hu with rfl|rfl|rfl|rfl|rfl|rfl|rfl <;> rfl
def tv_one (s:ByteArray):∀ u∈[Value.int .i64 1,.string s,.int .i64 0,.int .i64 0,.string ⟨#[]⟩,.slice none 0 0,.slice none 0 0],u.oneCell'=true:=by
 intro u hu
 simp only [qp,qm,or_false] at hu
 rcases hu with rfl|rfl|rfl|rfl|rfl|rfl|rfl <;> rfl
def op_one (s:ByteArray) (g n:Nat):∀ u∈[Value.int .i64 4,.string s,.int .i64 0,.int .i64 0,.string ⟨#[]⟩,.slice none 0 0,.slice (some ⟨g,0,none⟩) n n],u.oneCell'=true:=by
 intro u hu
 simp only [qp,qm,or_false] at hu
 rcases hu with rfl|rfl|rfl|rfl|rfl|rfl|rfl <;> rfl
def op_stays {wr W:World} (hW:New wr W) {m:Bool} {a b:Tm} {ca cb:List Value} (ha:∀ W,TmAt W ca a) (hb:∀ W,TmAt W cb b):
  Stays (W.alloc (.cells (ca++cb).toArray 64)) (fun k=>k < wr.heap.size) (fun W'=>TmAt W' [.int .i64 4,.string (opS m),.int .i64 0,.int .i64 0,.string ⟨#[]⟩,.slice none 0 0,.slice (some ⟨W.heap.size,0,none⟩) 2 2] (.op m a b)):=by
 intro W' hc
 have hbl:Blk (W.alloc (.cells (ca++cb).toArray 64)) W.heap.size 64 (ca++cb).toArray:=Blk.new _ _ _
 have hb':=hbl.chg hc (fun e=>by have:=hW.size;omega)
 refine ⟨⟨W.heap.size,0,none⟩,2,ca,cb,rfl,hb'.lt,?_,ha _,hb _⟩
 obtain ⟨a,h1,h2⟩:=(tms2 (t1:=a) (t2:=b) hb' (ha _) (hb _)).src (by simp)
 cases h1
 exact h2
def AtomPost (w:World) (e:Ending) (w':World):Prop:=∃ (nm:ByteArray) (v:Value) (ts:List Tm) (css:List (List Value)),e=.returned (.tuple #[.string nm,v])∧(∃ p:Nat,relCs[p]? =some (nm,(ts.length:Int)))∧1≤ts.length∧ts.length≤3∧(∃ c,ts[0]? =some (.var (vNm c)))∧(∀ t∈ts,rawT t)∧Stays w' (fun k=>k < w.heap.size) (fun W=>TmL W css ts)∧Own w' w.heap.size 64 7 v css∧New w w'
def atom06 (w:World) (y0 y1 y2 y3 y4 y5:Int) (h1:B64 y1) (h2:B64 y2) (h3':B64 y3) (h4:B64 y4):
  Calls Tryz.prog 65 #[.agg #[.int .i64 y0,.int .i64 y1,.int .i64 y2,.int .i64 y3,.int .i64 y4,.int .i64 y5]] w (AtomPost w):=by
 obtain ⟨w1,hw1⟩:=qdq (w.alloc (.cells #[.int .i64 y0,.int .i64 y1,.int .i64 y2,.int .i64 y3,.int .i64 y4,.int .i64 y5] 75))
 have hN1:New w w1:=by rw [hw1];exact (Chg.refl _ _).alloc _
 have hB1:Blk w1 w.heap.size 75 #[.int .i64 y0,.int .i64 y1,.int .i64 y2,.int .i64 y3,.int .i64 y4,.int .i64 y5]:=by rw [hw1];exact Blk.new w _ _
 obtain ⟨p,hp⟩:∃ p:Nat,pk y1 6=p:=⟨(pk y1 6).toNat,by have:=km y1 6 (by omega);omega⟩
 have hp6:p < 6:=by have:=kn y1 6 (by omega);omega
 have hpick:=fun W=>gm W y1 6 h1.1 h1.2 (by omega) (by omega)
 rw [hp] at hpick
 have HP:=qq hpick
 have HN1:=qq hN1
 have HB1:=qq hB1
 have HW1:=qq hw1
 have hbx:w.heap.size < w1.heap.size:=hB1.lt
 clear hpick hp hN1 hB1 hw1
 go_enter Tryz.func65,Tryz.ntmps65
 go_upto_region 1 with fail
 rw [←HW1.out]
 obtain ⟨nm,ar,hpr⟩:∃ nm ar,relCs[p]? =some (nm,ar):=by
  have:p < relCs.length:=hp6
  exact ⟨_,_,qz this⟩
 have har:1≤ar∧ar≤3:=by
  rcases (show p=0∨p=1∨p=2∨p=3∨p=4∨p=5 by omega) with rfl|rfl|rfl|rfl|rfl|rfl <;> (simp only [relCs,qj,qw,Option.some.injEq,Prod.mk.injEq] at hpr;omega)
 have hcell:∀ W b,Blk W b 106 relCells→At W ⟨b,p * 2,none⟩ [.string nm,.int .i64 ar]:=fun W b hb j u hj=>by
  rw [Addr.add_lit,hb.cell]
  rcases (show p=0∨p=1∨p=2∨p=3∨p=4∨p=5 by omega) with rfl|rfl|rfl|rfl|rfl|rfl <;> (simp only [relCs,qj,qw,Option.some.injEq,Prod.mk.injEq] at hpr;obtain ⟨rfl,rfl⟩:=hpr;match j,hj with|0,hj=>(cases hj;rfl)|1,hj=>(cases hj;rfl)|j+2,hj=>simp at hj)
 have Hcell:=qq hcell
 have Har:=qq har
 have HPr:=qq hpr
 have HPr:=qq hpr
 clear hcell har hpr
 have eg1:=enters_of Tryz.func35 (by kernel_rfl) rfl
 have eg2:=enters_of Tryz.func64 (by kernel_rfl) rfl
 unfold Enters at eg1 eg2
 have HBd:=qq (HB1.out.chg ((Chg.refl w1 (fun _=>False)).drew) id)
 have HNd:=qq (HN1.out.drew)
 refine vj (by kernel_rfl) ?_
 generalize w1.drew=wd at HBd HNd⊢
 have q0:(0:Int)≤(p:Int):=by omega
 have q1:(p:Int) < 6:=by omega
 refine AtN.segN2 0 7 [8,9,10,11,12,13,4] (fun
  |0=>fun v W=>∃ rb,v=.slice (some ⟨rb,0,none⟩) 6 6∧Blk W rb 106 relCells
  |1=>fun v _=>v=.pointer (some ⟨w.heap.size,1,none⟩)
  |2=>fun v _=>v=.int .i64 y1
  |3=>fun v _=>v=.int .i64 p
  |4=>fun v W=>∃ rb,v=.pointer (some ⟨rb,p * 2,none⟩)∧Blk W rb 106 relCells
  |5=>fun v _=>v=.agg #[.string nm,.int .i64 ar]
  |6=>fun v W=>∃ b,v=.pointer (some ⟨b,0,none⟩)∧Blk W b 106 #[.string ⟨#[]⟩,.int .i64 0]∧wd.heap.size≤b
  |_=>fun _ _=>True) (by kernel_rfl) (by kernel_rfl) (by kernel_rfl) (by kernel_rfl) (fun j v w1 w2 hc h=>?_) (fun i hn hi o ho A0 W hN hin hk=>?_) (fun l W2 hN hl hΦ=>?_)
 ·match j with
  |0=>exact h.imp fun b h=>⟨h.1,h.2.chg hc id⟩
  |4=>exact h.imp fun b h=>⟨h.1,h.2.chg hc id⟩
  |6=>exact h.imp fun b h=>⟨h.1,h.2.1.chg hc id,h.2.2⟩
  |1|2|3|5=>exact h
  |_+7=>trivial
 ·rcases (show i=0∨i=1∨i=2∨i=3∨i=4∨i=5∨i=6 by omega) with rfl|rfl|rfl|rfl|rfl|rfl|rfl<;>cases ho
  ·refine .call (f:=35) (args:=#[]) (W':=W) ?_ ((pf W).mono ?_)
   ·simp [go_sem,eg1]
   ·rintro e w' ⟨rfl,hb,hc⟩
    exact ⟨_,rfl,hc,_,rfl,hb⟩
  ·have h1:A0.tmps[1]?.getD undef=.pointer (some ⟨w.heap.size,0,none⟩):=hk 1
   exact .same (by simp [go_sem,h1]) rfl
  ·have h7:A0.tmps[9]?.getD undef=.pointer (some ⟨w.heap.size,1,none⟩):=hin 1 9
   have hc:W.cell? ⟨w.heap.size,1,none⟩=some (.int .i64 y1):=(HBd.out.chg hN id).cell 1
   exact .same (by simp [go_sem,h7,hc]) rfl
  ·have h8:A0.tmps[10]?.getD undef=.int .i64 y1:=hin 2 10
   refine .enter (f:=64) (args:=#[.int .i64 y1,.int .i64 6]) (v:=.int .i64 p) ?_ ((HP.out W).mono ?_)
   ·simp [go_sem,h8,eg2]
   ·rintro e w' ⟨rfl,rfl⟩
    exact ⟨rfl,Chg.refl _ _,rfl⟩
  ·have h6:=hin 0 8
   have h9:A0.tmps[11]?.getD undef=.int .i64 p:=hin 3 11
   obtain ⟨rb,e6,hb⟩:=h6
   exact .same (v:=.pointer (some ⟨rb,p * 2,none⟩)) (by simp [go_sem,e6,h9,q0,q1,hp6]) ⟨rb,rfl,hb⟩
  ·have h10:=hin 4 12
   obtain ⟨rb,e10,hb⟩:=h10
   exact .same (vu 12 _ rfl pj ⟨rb,p * 2,none⟩ [.string nm,.int .i64 ar] e10 rfl (Hcell.out _ _ hb)) rfl
  ·exact .value (W':=W.alloc (.cells #[.string ⟨#[]⟩,.int .i64 0] 106)) (v:=.pointer (some ⟨W.heap.size,0,none⟩)) (by simp [go_sem]) ⟨(Chg.refl _ _).alloc _,_,rfl,Blk.new _ _ _,hN.size⟩
 obtain ⟨x6,x7,x8,x9,x10,x11,x3,rfl⟩:∃ x6 x7 x8 x9 x10 x11 x3,l=[x6,x7,x8,x9,x10,x11,x3]:=by
  match l,hl with
  | [x6,x7,x8,x9,x10,x11,x3],_=>exact ⟨_,_,_,_,_,_,_,rfl⟩
 have hx6:=hΦ 0 (by decide)
 obtain rfl:x7=.pointer (some ⟨w.heap.size,1,none⟩):=hΦ 1 (by decide)
 obtain rfl:x8=.int .i64 y1:=hΦ 2 (by decide)
 obtain rfl:x9=.int .i64 p:=hΦ 3 (by decide)
 have hx10:=hΦ 4 (by decide)
 obtain rfl:x11=.agg #[.string nm,.int .i64 ar]:=hΦ 5 (by decide)
 have hx3:=hΦ 6 (by decide)
 simp only [putsL,zq,zj,zz,List.zip,List.zipWith,Act.put,qk,qu,qy]
 clear hΦ hl
 obtain ⟨b3,rfl,hb3,hb3l⟩:=hx3
 have HR2:=qq (HBd.out.chg hN id)
 have HN2:=qq (HNd.out.trans hN qdr)
 clear hx6 hx10
 refine AtN.list 7 8 (by kernel_rfl) ?_
 change wpList _ _ _ [_] _ _
 have hlay:layA #[.string ⟨#[]⟩,.int .i64 0] 0 [.string nm,.int .i64 ar]=#[.string nm,.int .i64 ar]:=rfl
 refine vf rfl (.tmp 4) (.tmp 13) 106 rfl pj b3 0 106 #[.string ⟨#[]⟩,.int .i64 0] [.string nm,.int .i64 ar] rfl rfl hb3 rfl (by decide) (fun u hu=>by
  simp only [qp,qm,or_false] at hu
  rcases hu with rfl|rfl <;> rfl) ?_
 rw [hlay]
 obtain ⟨W3,hW3⟩:=qdq (W2.setRow b3 #[.string nm,.int .i64 ar])
 rw [←hW3]
 have hwd:=HNd.out.size
 have hbl:=HBd.out.lt
 have HB3:=qq (show Blk W3 b3 106 #[.string nm,.int .i64 ar] by rw [hW3];exact hb3.set _)
 have HN3:=qq (show New w W3 by rw [hW3];exact HN2.out.setRow _ _ (fun h=>by omega))
 have HR3:=qq (show Blk W3 w.heap.size 75 #[.int .i64 y0,.int .i64 y1,.int .i64 y2,.int .i64 y3,.int .i64 y4,.int .i64 y5] by rw [hW3];exact HR2.out.other (by omega) _)
 have hb30:w.heap.size < b3:=by omega
 clear hW3 hb3 hN HN2 HR2 hlay HBd HNd
 refine AtN.done rfl ?_
 simp only [Act.put]
 have eR2:=HR3.out.cell 2
 have eD0:=HB3.out.cell 0
 simp only [qx,qj,qw] at eR2 eD0
 go_upto_region 2 with fail
 go_upto_region 3 with (go_at_call 95;refine (v06 _ y2 h2).mono ?_;rintro e W4 ⟨rfl,hN4⟩;have HN4:=qq hN4;clear hN4)
 have hb3l:=HB3.out.lt
 have hown0:Own (W4.alloc (.cells #[.int .i64 1,.string (vNm y2),.int .i64 0,.int .i64 0,.string ⟨#[]⟩,.slice none 0 0,.slice none 0 0] 64)) w.heap.size 64 7 (.slice (some ⟨W4.heap.size,0,none⟩) 1 1) [varC (vNm y2)]:=Own.one (Blk.new _ _ _) (by have:=HN3.out.size;have:=HN4.out.size;omega) rfl
 have hnn:New W3 (W4.alloc (.cells #[.int .i64 1,.string (vNm y2),.int .i64 0,.int .i64 0,.string ⟨#[]⟩,.slice none 0 0,.slice none 0 0] 64)):=HN4.out.alloc _
 obtain ⟨W5,hW5⟩:=qdq (W4.alloc (.cells #[.int .i64 1,.string (vNm y2),.int .i64 0,.int .i64 0,.string ⟨#[]⟩,.slice none 0 0,.slice none 0 0] 64))
 rw [←hW5] at hown0 hnn⊢
 have HO5:=qq hown0
 have HN5:=qq (HN3.out.trans hnn qdr)
 have HB5:=qq (HB3.out.chg hnn id)
 have HR5:=qq (HR3.out.chg hnn id)
 obtain ⟨b5,hb5⟩:=qdp (W4.heap.size)
 rw [hb5] at HO5⊢
 clear hown0 hnn hW5 hb5 HN4 HN3 HB3 HR3 eR2 eD0
 go_wp2_with fail
 go_loopw [5,6] (fun u5 u6 wr=>∃ (i:Nat) (ts:List Tm) (css:List (List Value)),1≤i∧(i:Int)≤ar∧u6=.int .i64 i∧ts.length=i∧(∃ c,ts[0]? =some (.var (vNm c)))∧(∀ t∈ts,rawT t)∧Stays wr (fun k=>k < w.heap.size∨u5.ownBlock=some k) (fun W=>TmL W css ts)∧Own wr w.heap.size 64 7 u5 css∧Blk wr b3 106 #[.string nm,.int .i64 ar]∧Blk wr w.heap.size 75 #[.int .i64 y0,.int .i64 y1,.int .i64 y2,.int .i64 y3,.int .i64 y4,.int .i64 y5]∧New w wr) (fun _ u _=>3 - (intOf u).toNat)
 case atStart=>exact ⟨1,[.var (vNm y2)],[varC (vNm y2)],qh _,Har.out.1,rfl,rfl,⟨y2,rfl⟩,fun t ht=>by rw [qn.1 ht];exact ⟨y2,rfl⟩,fun W' _=>TmL.one rfl,HO5.out,HB5.out,HR5.out,HN5.out⟩
 case round=>
  obtain ⟨i,ts,css,hi1,hia,rfl,hul,hfst,hraw,htl,hov,hb3,hrw,hN⟩:=hrel
  obtain ⟨Av,cv,rfl,_,_⟩:=hov.form
  have hcl:css.length=i:=by rw [htl.now.len,hul]
  rw [hcl] at hov htl⊢
  have har3:=Har.out
  have hv1:=hov
  have e1:=hb3.cell 1
  simp only [qx,qj,qw] at e1
  have HOv:=qq hov
  have HB:=qq hb3
  have HRw:=qq hrw
  have HNw:=qq hN
  have HRaw:=qq hraw
  have HFst:=qq hfst
  have HTl:=qq htl
  have HUl:=qq hul
  have HCl:=qq hcl
  by_cases hlt:(i:Int) < ar
  ·have hi3:i < 3:=by omega
   obtain ⟨y,hy,hyl,hyh⟩:∃ y,(∀ W,Blk W w.heap.size 75 #[.int .i64 y0,.int .i64 y1,.int .i64 y2,.int .i64 y3,.int .i64 y4,.int .i64 y5]→W.cell? ⟨w.heap.size,2+i,none⟩=some (.int .i64 y))∧-9223372036854775808≤y∧y≤9223372036854775807:=by
    rcases (show i=0∨i=1∨i=2 by omega) with rfl|rfl|rfl
    ·exact ⟨y2,fun W h=>h.cell 2,h2⟩
    ·exact ⟨y3,fun W h=>h.cell 3,h3'⟩
    ·exact ⟨y4,fun W h=>h.cell 4,h4⟩
   have ey:=hy wr hrw
   have q0:(0:Int)≤(i:Int):=by omega
   have q1:(i:Int) < 4:=by omega
   have q2:i < 4:=by omega
   have hd:decide ((i:Int) < ar)=true:=decide_eq_true hlt
   obtain ⟨p2,hpe⟩:∃ p:Int,pk y 12=p:=⟨_,rfl⟩
   have hp2:=fun W=>gm W y 12 hyl hyh (by omega) (by omega)
   rw [hpe] at hp2
   have HP2:=qq hp2
   have hyb:-9223372036854775808≤y.tdiv 12∧y.tdiv 12≤9223372036854775807:=bp (by omega) hyl hyh
   have kq:IntKind.i64.wrap (y.tdiv 12)=y.tdiv 12:=by rw [IntKind.wrap_i64];omega
   have hBy:B64 y:=⟨hyl,hyh⟩
   have hBq:B64 (y.tdiv 12):=hyb
   have HBy:=qq hBy
   have HBq:=qq hBq
   have hwl:w.heap.size≤wr.heap.size:=HNw.out.size
   have HApp:=qq (fun (W:World) (hW:New wr W) (cs:List Value) (hk:cs.length=7) (h1:∀ u∈cs,u.oneCell'=true) (g:Nat) (hg:W.heap.size=g)=>elTerm.appOne (HOv.out.chg hW qdr) (qb HNw.out.size hW.size) cs hk h1 (by rw [HCl.out];omega) (by rw [HCl.out];unfold maxLen;omega) 44 g hg)
   have hend:∀ (W W':World) (v':Value) (cs:List Value) (t:Tm),New wr W→Stays W (fun k=>k < wr.heap.size) (fun W=>TmAt W cs t)→rawT t→(Own W' w.heap.size 64 7 v' (css++[cs])∧Chg W W' (fun k=>(Value.slice Av i cv).ownBlock=some k)∧∀ k,v'.ownBlock=some k→(Value.slice Av i cv).ownBlock=some k∨W.heap.size≤k)→
     ∃ (j:Nat) (ts:List Tm) (css:List (List Value)),1≤j∧(j:Int)≤ar∧Value.int .i64 ((i:Int)+1)=.int .i64 j∧ts.length=j∧(∃ c,ts[0]? =some (.var (vNm c)))∧(∀ t∈ts,rawT t)∧Stays W' (fun k=>k < w.heap.size∨v'.ownBlock=some k) (fun W=>TmL W css ts)∧Own W' w.heap.size 64 7 v' css∧Blk W' b3 106 #[.string nm,.int .i64 ar]∧Blk W' w.heap.size 75 #[.int .i64 y0,.int .i64 y1,.int .i64 y2,.int .i64 y3,.int .i64 y4,.int .i64 y5]∧New w W':=by
    rintro W W' v' cs t hW ht hrt ⟨ho,hc,hk⟩
    have hvl:∀ k,(Value.slice Av i cv).ownBlock=some k→k < wr.heap.size:=fun k e=>(HOv.out.lt e).2
    have hne3:∀ g,(Value.slice Av i cv).ownBlock=some g→g≠b3:=fun g hg e=>xg HOv.out HB.out (by decide) (by rw [hg,e])
    have hneR:∀ g,(Value.slice Av i cv).ownBlock=some g→g≠w.heap.size:=fun g hg e=>xg HOv.out HRw.out (by decide) (by rw [hg,e])
    refine ⟨i+1,ts++[t],css++[cs],by omega,by omega,by simp,by rw [qg,HUl.out];rfl,?_,?_,TmL.grow hwl hvl HTl.out hW ht hc hk,ho,(HB.out.chg hW id).chg hc (fun e=>hne3 _ e rfl),(HRw.out.chg hW id).chg hc (fun e=>hneR _ e rfl),(HNw.out.trans hW qdr).trans hc (fun k hk1 e=>by have:=(HOv.out.lt e).1;omega)⟩
    ·obtain ⟨c,hc⟩:=HFst.out
     exact ⟨c,by rw [qe (by rw [HUl.out];omega)];exact hc⟩
    ·intro u hu
     rcases zk.1 hu with hu|hu
     ·exact HRaw.out u hu
     ·rw [qn.1 hu];exact hrt
   have HEnd:=qq hend
   clear hend hp2 hpe hy hov hv1 hb3 hrw hN hraw hfst htl hul hcl hyb hBy hBq
   by_cases hp9:p2=9
   ·subst hp9
    obtain ⟨p4,hp4⟩:∃ p:Int,pk (y.tdiv 12) 4=p:=⟨_,rfl⟩
    have hp40:0≤p4∧p4 < 4:=by rw [←hp4];exact ⟨km _ _ (by omega),kn _ _ (by omega)⟩
    have hpk4:=fun W=>gm W (y.tdiv 12) 4 HBq.out.1 HBq.out.2 (by omega) (by omega)
    rw [hp4] at hpk4
    have HP4:=qq hpk4
    clear hpk4 hp4
    go_wp2_with first
     | (go_at_call 64;refine (HP2.out _).mono ?_;rintro e w' ⟨rfl,rfl⟩;clear HP2)
     | (go_at_call 64;refine (HP4.out _).mono ?_;rintro e w' ⟨rfl,rfl⟩;clear HP4)
     | (go_at_call 96;refine (num06 _ _).mono ?_;rintro e W6 ⟨rfl,hN6⟩;have HN6:=qq hN6;clear hN6)
     | ((with_reducible refine rz (HApp.out W6 HN6.out [.int .i64 2,.string ⟨#[]⟩,.int .i64 1,.int .i64 p4,.string ⟨#[]⟩,.slice none 0 0,.slice none 0 0] ?_ ?_ W6.heap.size rfl) rfl (.tmp 38) (.tmp 43) rfl ?_ ?_ ?_);exact rfl;exact tn_one _;exact rfl;exact rfl;intro v' W' hp';have HPp:=qq hp';clear hp')
    go_roundw
    case rel=>exact HEnd.out W6 _ _ _ (.val ⟨1,p4,⟨#[]⟩⟩) HN6.out (fun W' _=>rfl) (.inl ⟨p4,hp40.1,by omega,rfl⟩) HPp.out
    case measure=>simp [intOf];omega
   ·by_cases hp10:p2=10
    ·subst hp10
     obtain ⟨p3,hp3⟩:∃ p:Nat,pk (y.tdiv 12) 3=p:=⟨(pk (y.tdiv 12) 3).toNat,by have:=km (y.tdiv 12) 3 (by omega);omega⟩
     have hp30:p3 < 3:=by have:=kn (y.tdiv 12) 3 (by omega);omega
     have hpk3:=fun W=>gm W (y.tdiv 12) 3 HBq.out.1 HBq.out.2 (by omega) (by omega)
     rw [hp3] at hpk3
     have HP3:=qq hpk3
     clear hpk3 hp3
     obtain ⟨b,hb,hbc⟩:∃ b:UInt8,(97≤b.toNat∧b.toNat≤100)∧∀ W g,Blk W g 9 #[.string ⟨#[97]⟩,.string ⟨#[98]⟩,.string ⟨#[99]⟩]→W.cell? ⟨g,p3,none⟩=some (.string ⟨#[b]⟩):=by
      rcases (show p3=0∨p3=1∨p3=2 by omega) with rfl|rfl|rfl
      ·exact ⟨97,by decide,fun W g h=>h.cell 0⟩
      ·exact ⟨98,by decide,fun W g h=>h.cell 1⟩
      ·exact ⟨99,by decide,fun W g h=>h.cell 2⟩
     obtain ⟨W6,hW6⟩:=qdq (wr.alloc (.cells #[.string ⟨#[97]⟩,.string ⟨#[98]⟩,.string ⟨#[99]⟩] 9))
     have hcell:(wr.alloc (.cells #[.string ⟨#[97]⟩,.string ⟨#[98]⟩,.string ⟨#[99]⟩] 9)).cell? ⟨wr.heap.size,p3,none⟩=some (.string ⟨#[b]⟩):=hbc _ _ (Blk.new _ _ _)
     have hN6:New wr W6:=by rw [hW6];exact (Chg.refl _ _).alloc _
     have HN6:=qq hN6
     have HW6:=qq hW6
     have Hb:=qq hb
     clear hbc hN6 hW6 hb
     have s0:(0:Int)≤(p3:Int):=by omega
     have s1:(p3:Int) < 3:=by omega
     rw [HW6.out] at HN6
     go_wp2_with first
      | (go_at_call 64;refine (HP2.out _).mono ?_;rintro e w' ⟨rfl,rfl⟩;clear HP2)
      | (go_at_call 64;refine (HP3.out _).mono ?_;rintro e w' ⟨rfl,rfl⟩;clear HP3)
      | ((with_reducible refine rz (HApp.out _ HN6.out [.int .i64 2,.string ⟨#[]⟩,.int .i64 3,.int .i64 0,.string ⟨#[b]⟩,.slice none 0 0,.slice none 0 0] ?_ ?_ (wr.heap.size+1) (World.size_alloc _ _)) rfl (.tmp 47) (.tmp 56) rfl ?_ ?_ ?_);exact rfl;exact tm_one _;exact rfl;exact rfl;intro v' W' hp';have HPp:=qq hp';clear hp')
     go_roundw
     case rel=>exact HEnd.out _ _ _ _ (.val ⟨3,0,⟨#[b]⟩⟩) HN6.out (fun W' _=>rfl) (.inr ⟨b,Hb.out.1,Hb.out.2,rfl⟩) HPp.out
     case measure=>simp [intOf];omega
    ·by_cases hp11:p2=11
     ·subst hp11
      go_upto_region 14 with (go_at_call 64;refine (HP2.out _).mono ?_;rintro e w' ⟨rfl,rfl⟩;clear HP2)
      go_wp2_with first
       | (go_at_call 95;refine (v06 _ _ HBq.out).mono ?_;rintro e W6 ⟨rfl,hN6⟩;have HN6:=qq hN6;clear hN6)
       | (go_at_call 96;refine (num06 _ _).mono ?_;rintro e W7 ⟨rfl,hN7⟩;have HN7:=qq (HN6.out.trans hN7 qdr);clear hN7)
       | ((with_reducible refine rz (HApp.out _ (HN7.out.alloc _) [.int .i64 4,.string ⟨#[43]⟩,.int .i64 0,.int .i64 0,.string ⟨#[]⟩,.slice none 0 0,.slice (some ⟨W7.heap.size,0,none⟩) 2 2] ?_ ?_ (W7.heap.size+1) (World.size_alloc _ _)) rfl (.tmp 60) (.tmp 67) rfl ?_ ?_ ?_);exact rfl;exact op_one _ _ _;exact rfl;exact rfl;intro v' W' hp';have HPp:=qq hp';clear hp')
      go_roundw
      case rel=>exact HEnd.out _ _ _ _ (.op false (.var (vNm (y.tdiv 12))) (.val ⟨1,1,⟨#[]⟩⟩)) (HN7.out.alloc _) (op_stays (m:=false) HN7.out (ca:=[.int .i64 1,.string (vNm (y.tdiv 12)),.int .i64 0,.int .i64 0,.string ⟨#[]⟩,.slice none 0 0,.slice none 0 0]) (cb:=[.int .i64 2,.string ⟨#[]⟩,.int .i64 1,.int .i64 1,.string ⟨#[]⟩,.slice none 0 0,.slice none 0 0]) (fun _=>rfl) (fun _=>rfl)) ⟨⟨_,rfl⟩,.inr ⟨_,rfl,.inl ⟨1,by omega,by omega,rfl⟩⟩⟩ HPp.out
      case measure=>simp [intOf];omega
     ·have t9:(p2 == 9)=false:=by simpa using hp9
      have t10:(p2 == 10)=false:=by simpa using hp10
      have t11:(p2 == 11)=false:=by simpa using hp11
      go_wp2_with first
       | (go_at_call 64;refine (HP2.out _).mono ?_;rintro e w' ⟨rfl,rfl⟩;clear HP2)
       | (go_at_call 95;refine (v06 _ _ HBy.out).mono ?_;rintro e W6 ⟨rfl,hN6⟩;have HN6:=qq hN6;clear hN6)
       | ((with_reducible refine rz (HApp.out W6 HN6.out [.int .i64 1,.string (vNm y),.int .i64 0,.int .i64 0,.string ⟨#[]⟩,.slice none 0 0,.slice none 0 0] ?_ ?_ W6.heap.size rfl) rfl (.tmp 31) (.tmp 34) rfl ?_ ?_ ?_);exact rfl;exact tv_one _;exact rfl;exact rfl;intro v' W' hp';have HPp:=qq hp';clear hp')
      go_roundw
      case rel=>exact HEnd.out W6 _ _ _ (.var (vNm y)) HN6.out (fun W' _=>rfl) ⟨y,rfl⟩ HPp.out
      case measure=>simp [intOf];omega
  ·have e0:=HB.out.cell 0
   simp only [qx,qj,qw] at e0
   have hd:decide ((i:Int) < ar)=false:=decide_eq_false hlt
   clear hov hv1 hb3 hrw hN hraw hfst htl hul hcl
   go_wp2_with fail
   go_ret2
   refine ⟨nm,_,ts,css,rfl,⟨p,?_⟩,by rw [HUl.out];exact hi1,by rw [HUl.out];omega,HFst.out,HRaw.out,HTl.out.chg (Chg.refl _ (fun _=>False)) (fun _ _ x=>x.elim) (fun k _ e=>.inl e),HOv.out,HNw.out⟩
   rw [HUl.out,show (i:Int)=ar by omega]
   exact HPr.out
def rawL:Lt→Prop
 | .atom _ nm ts=>(∃ p:Nat,relCs[p]? =some (nm,(ts.length:Int)))∧1≤ts.length∧ts.length≤3∧(∃ c,ts[0]? =some (.var (vNm c)))∧∀ t∈ts,rawT t
 | .test j a b=>j < 6∧(∃ c,a=.var (vNm c))∧rawT b
 | .assign nm t=>(∃ c,nm=vNm c)∧rawT t
def rawL.ok {L:Lt} (h:rawL L):okLt L∧L.size≤3:=by
 cases L with
 |atom b nm ts=>exact ⟨fun t ht=>rawT.ok (h.2.2.2.2 t ht),h.2.2.1⟩
 |test j a b=>
  refine ⟨fun t ht=>?_,by show 2≤3;omega⟩
  obtain ⟨_,⟨c,rfl⟩,hb⟩:=h
  simp only [Lt.args,qp,qm,or_false] at ht
  rcases ht with rfl|rfl
  ·trivial
  ·exact rawT.ok hb
 |assign nm t=>
  refine ⟨fun u hu=>?_,by show 1≤3;omega⟩
  simp only [Lt.args,qp,qm,or_false] at hu
  subst hu
  exact rawT.ok h.2
def LitPost (w:World) (e:Ending) (w':World):Prop:=∃ (L:Lt) (A:Option Addr) (c:Nat),e=.returned (.agg #[.int .i64 L.kind,.string L.name,.slice A L.args.length c])∧rawL L∧Stays w' (fun k=>k < w.heap.size) (fun W=>LtAt W [.int .i64 L.kind,.string L.name,.slice A L.args.length c] L)∧New w w'
def Stays.imp {w:World} {S:Nat→Prop} {P Q:World→Prop} (h:Stays w S P) (hq:∀ W,P W→Q W):Stays w S Q:=fun W' hc=>hq _ (h W' hc)
def bf {w:World} {B:Nat} {A:Option Addr} {n c:Nat} {css:List (List Value)} {ts:List Tm} (ho:Own w B 64 7 (.slice A n c) css) (h:Stays w (fun k=>k < B) (fun W=>TmL W css ts)):Stays w (fun k=>k < B) (fun W=>TmsAt W A css ts):=by
 intro W' hc
 have ho':=ho.chg hc (fun g hg e=>by have:=(ho.lt hg).1;omega)
 have ht:=h W' hc
 exact ⟨ht.len,fun hp=>(ho'.rows rfl).2 hp,ht.at_⟩
def qcn (s:ByteArray) (W:World):(Instr.field 64 (.agg #[.int .i64 1,.string s,.int .i64 0,.int .i64 0,.string ⟨#[]⟩,.slice none 0 0,.slice none 0 0]) 1).run Tryz.prog W=.ok (.string s) W:=by kernel_rfl
def vw {α:Type} {l:List α} {n:Nat} (h:l.length=n+1):∃ x t,l=x::t∧t.length=n:=by
 cases l with
 |nil=>cases h
 |cons x t=>exact ⟨x,t,rfl,Nat.succ.inj h⟩
def ki (i:Int) (s:ByteArray) (A:Option Addr) (n c:Nat):∀ u∈[Value.int .i64 i,.string s,.slice A n c],u.oneCell'=true:=gt rfl rfl rfl
def lit06 (w:World) (y0 y1 y2 y3 y4 y5:Int) (h0:B64 y0) (h1:B64 y1) (h2:B64 y2) (h3':B64 y3) (h4:B64 y4) (h5:B64 y5):
  Calls Tryz.prog 66 #[.agg #[.int .i64 y0,.int .i64 y1,.int .i64 y2,.int .i64 y3,.int .i64 y4,.int .i64 y5]] w (LitPost w):=by
 obtain ⟨w1,hw1⟩:=qdq ((w.alloc (.cells #[.int .i64 y0,.int .i64 y1,.int .i64 y2,.int .i64 y3,.int .i64 y4,.int .i64 y5] 75)).alloc (.cells #[.int .i64 0,.string ⟨#[]⟩,.slice none 0 0] 53))
 have hN1:New w w1:=by rw [hw1];exact ((Chg.refl _ _).alloc _).alloc _
 have hB1:Blk w1 w.heap.size 75 #[.int .i64 y0,.int .i64 y1,.int .i64 y2,.int .i64 y3,.int .i64 y4,.int .i64 y5]:=by rw [hw1];exact (Blk.new w _ _).alloc _
 have hL1:Blk w1 (w.heap.size+1) 53 #[.int .i64 0,.string ⟨#[]⟩,.slice none 0 0]:=by
  have:=Blk.new (w.alloc (.cells #[.int .i64 y0,.int .i64 y1,.int .i64 y2,.int .i64 y3,.int .i64 y4,.int .i64 y5] 75)) 53 #[.int .i64 0,.string ⟨#[]⟩,.slice none 0 0]
  rw [World.size_alloc] at this
  rw [hw1]
  exact this
 have hsz1:w1.heap.size=w.heap.size+2:=by rw [hw1];simp
 obtain ⟨p,hp⟩:∃ p:Nat,pk y0 8=p:=⟨(pk y0 8).toNat,by have:=km y0 8 (by omega);omega⟩
 have hp8:p < 8:=by have:=kn y0 8 (by omega);omega
 have hpick:=fun W=>gm W y0 8 h0.1 h0.2 (by omega) (by omega)
 rw [hp] at hpick
 obtain ⟨j,hj⟩:∃ p:Nat,pk y1 6=p:=⟨(pk y1 6).toNat,by have:=km y1 6 (by omega);omega⟩
 have hj6:j < 6:=by have:=kn y1 6 (by omega);omega
 have hpick1:=fun W=>gm W y1 6 h1.1 h1.2 (by omega) (by omega)
 rw [hj] at hpick1
 have HP:=qq hpick
 have HP1:=qq hpick1
 have HN1:=qq hN1
 have HB1:=qq hB1
 have HL1:=qq hL1
 have HW1:=qq hw1
 have HZ1:=qq hsz1
 clear hpick hp hN1 hB1 hw1 hL1 hpick1 hj hsz1
 go_enter Tryz.func66,Tryz.ntmps66
 go_upto_region 1 with fail
 rw [←HW1.out]
 have hld:=HB1.out.at_
 have HLd:=qq hld
 clear hld
 go_upto_region 2 with first
  | ((with_reducible refine vq rfl (.tmp 1) 75 rfl wa ⟨w.heap.size,0,none⟩ [.int .i64 y0,.int .i64 y1,.int .i64 y2,.int .i64 y3,.int .i64 y4,.int .i64 y5] ?_ rfl HLd.out ?_);exact rfl)
  | (go_at_call 65;refine (atom06 _ y0 y1 y2 y3 y4 y5 h1 h2 h3' h4).mono ?_;rintro e w2 ⟨nm,v4,ts,css,rfl,hrel,hl1,hl3,hfst,hraw,hst,hown,hN2⟩;obtain ⟨A4,c4,rfl,hc1,hc2⟩:=hown.form;have HRel:=qq hrel;have HFst:=qq hfst;have HRaw:=qq hraw;have HSt:=qq hst;have HOwn:=qq hown;have HN2:=qq hN2;have Hl:=qq (show css.length=ts.length from hst.now.len);have Hl1:=qq hl1;have Hl3:=qq hl3;clear hrel hfst hraw hst hown hN2 hl1 hl3 hc1 hc2)
 rw [Hl.out] at HOwn⊢
 have HB2:=qq (HB1.out.chg HN2.out id)
 have HL2:=qq (HL1.out.chg HN2.out id)
 have HNa:=qq (HN1.out.trans HN2.out qdr)
 have HTs:=qq (bf HOwn.out HSt.out)
 have eR0:=HB2.out.cell 0
 have eR1:=HB2.out.cell 1
 simp only [qx,qj,qw] at eR0 eR1
 have hatom:∀ (b:Bool) (W:World),Chg w2 W (fun k=>k=w.heap.size+1)→Stays W (fun k=>k < w.heap.size) (fun W=>LtAt W [.int .i64 (Lt.atom b nm ts).kind,.string nm,.slice A4 ts.length c4] (.atom b nm ts)):=fun b W hc=>
  (HTs.out.chg hc (fun k _ e=>by have:=HZ1.out;omega) (S1:=fun k=>k < w.heap.size) (fun k _ e=>by have:=HZ1.out;omega)).imp fun W' h=>⟨A4,c4,css,rfl,h⟩
 have HAtom:=qq hatom
 have hend:∀ W,Chg w2 W (fun k=>k=w.heap.size+1)→New w W:=fun W hc=>HNa.out.trans hc (fun k hk e=>by omega)
 have HEnd:=qq hend
 clear hatom hend HLd HL1 HB1 HN1 HW1 HN2 HSt HOwn HTs
 rcases (show p < 4∨p=4∨(p=5∨p=6)∨p=7 by omega) with hq|rfl|hq|rfl
 ·rcases (show p=0∨p=1∨p=2∨p=3 by omega) with rfl|rfl|rfl|rfl
  all_goals
   go_wp2_with first
    | (go_at_call 64;refine (HP.out _).mono ?_;rintro e w' ⟨rfl,rfl⟩;clear HP)
    | ((with_reducible refine xq rfl (.tmp 2) (.tmp 21) 53 rfl rfl gn (w.heap.size+1) 53 _ [.int .i64 1,.string nm,.slice A4 ts.length c4] ?_ ?_ HL2.out rfl rfl (ki _ _ _ _ _) ?_);exact rfl;exact rfl;intro w6 hc6 hb6 hs6;have HC6:=qq hc6;have HB6:=qq hb6;clear hc6 hb6 hs6)
   exact bodyPost_ret (v:=.agg #[.int .i64 1,.string nm,.slice A4 ts.length c4]) (xh gn rfl _ _ ⟨w.heap.size+1,0,none⟩ [.int .i64 1,.string nm,.slice A4 ts.length c4] rfl HB6.out.at_ rfl) rfl ⟨.atom false nm ts,A4,c4,rfl,⟨HRel.out,Hl1.out,Hl3.out,HFst.out,HRaw.out⟩,HAtom.out false _ HC6.out,HEnd.out _ HC6.out⟩
 ·go_wp2_with first
   | (go_at_call 64;refine (HP.out _).mono ?_;rintro e w' ⟨rfl,rfl⟩;clear HP)
   | ((with_reducible refine xq rfl (.tmp 2) (.tmp 26) 53 rfl rfl gn (w.heap.size+1) 53 _ [.int .i64 2,.string nm,.slice A4 ts.length c4] ?_ ?_ HL2.out rfl rfl (ki _ _ _ _ _) ?_);exact rfl;exact rfl;intro w6 hc6 hb6 hs6;have HC6:=qq hc6;have HB6:=qq hb6;clear hc6 hb6 hs6)
  exact bodyPost_ret (v:=.agg #[.int .i64 2,.string nm,.slice A4 ts.length c4]) (xh gn rfl _ _ ⟨w.heap.size+1,0,none⟩ [.int .i64 2,.string nm,.slice A4 ts.length c4] rfl HB6.out.at_ rfl) rfl ⟨.atom true nm ts,A4,c4,rfl,⟨HRel.out,Hl1.out,Hl3.out,HFst.out,HRaw.out⟩,HAtom.out true _ HC6.out,HEnd.out _ HC6.out⟩
 ·clear HAtom HRel HFst HRaw
  obtain ⟨wo,hwo⟩:=qdq (w2.alloc (.cells #[.string ⟨#[61,61]⟩,.string ⟨#[33,61]⟩,.string ⟨#[60]⟩,.string ⟨#[60,61]⟩,.string ⟨#[62]⟩,.string ⟨#[62,61]⟩] 9))
  have hcs:(w2.alloc (.cells #[.string ⟨#[61,61]⟩,.string ⟨#[33,61]⟩,.string ⟨#[60]⟩,.string ⟨#[60,61]⟩,.string ⟨#[62]⟩,.string ⟨#[62,61]⟩] 9)).cell? ⟨w2.heap.size,j,none⟩=some (.string (opT j)):=by
   have hb:Blk (w2.alloc (.cells #[.string ⟨#[61,61]⟩,.string ⟨#[33,61]⟩,.string ⟨#[60]⟩,.string ⟨#[60,61]⟩,.string ⟨#[62]⟩,.string ⟨#[62,61]⟩] 9)) w2.heap.size 9 #[.string ⟨#[61,61]⟩,.string ⟨#[33,61]⟩,.string ⟨#[60]⟩,.string ⟨#[60,61]⟩,.string ⟨#[62]⟩,.string ⟨#[62,61]⟩]:=Blk.new _ _ _
   rcases (show j=0∨j=1∨j=2∨j=3∨j=4∨j=5 by omega) with rfl|rfl|rfl|rfl|rfl|rfl
   ·exact hb.cell 0
   ·exact hb.cell 1
   ·exact hb.cell 2
   ·exact hb.cell 3
   ·exact hb.cell 4
   ·exact hb.cell 5
  have s0:(0:Int)≤(j:Int):=by omega
  have s1:(j:Int) < 6:=by omega
  have hno:New w2 wo:=by rw [hwo];exact (Chg.refl _ _).alloc _
  replace HB2:=qq (HB2.out.chg hno id)
  replace HL2:=qq (HL2.out.chg hno id)
  replace HNa:=qq (HNa.out.trans hno qdr)
  have eR1':(w2.alloc (.cells #[.string ⟨#[61,61]⟩,.string ⟨#[33,61]⟩,.string ⟨#[60]⟩,.string ⟨#[60,61]⟩,.string ⟨#[62]⟩,.string ⟨#[62,61]⟩] 9)).cell? ⟨w.heap.size,1,none⟩=some (.int .i64 y1):=by
   rw [←hwo];exact HB2.out.cell 1
  have Hwo:=qq hwo
  clear hwo hno HEnd
  rcases hq with rfl|rfl
  all_goals
   go_upto_region 13 with first
    | (go_at_call 64;refine (HP.out _).mono ?_;rintro e w' ⟨rfl,rfl⟩;clear HP)
    | (go_at_call 64;refine (HP1.out _).mono ?_;rintro e w' ⟨rfl,rfl⟩;clear HP1)
   rw [←Hwo.out]
   clear hcs eR1' eR1 eR0 Hwo
   obtain ⟨w2,hw2⟩:=qdq (wo)
   rw [←hw2] at HB2 HL2 HNa⊢
   clear hw2
   obtain ⟨q,hq⟩:∃ p:Nat,pk y5 2=p:=⟨(pk y5 2).toNat,by have:=km y5 2 (by omega);omega⟩
   have hq2:q < 2:=by have:=kn y5 2 (by omega);omega
   have hpickq:=fun W=>gm W y5 2 h5.1 h5.2 (by omega) (by omega)
   rw [hq] at hpickq
   have HPq:=qq hpickq
   have kq0:(0:Int)≤(q:Int):=by omega
   have kq1:(q:Int) < 2:=by omega
   clear hpickq hq
   obtain ⟨tx,x0,x1,x2,x3,x4,x5,x6,htx,hx,hxc⟩:∃ (tx:Tm) (x0 x1 x2 x3 x4 x5 x6:Value),rawT tx∧(∀ W,TmAt W [x0,x1,x2,x3,x4,x5,x6] tx)∧∀ W b,Blk W b 64 #[.int .i64 2,.string ⟨#[]⟩,.int .i64 1,.int .i64 (pk y4 4),.string ⟨#[]⟩,.slice none 0 0,.slice none 0 0,.int .i64 1,.string (vNm y3),.int .i64 0,.int .i64 0,.string ⟨#[]⟩,.slice none 0 0,.slice none 0 0]→At W ⟨b,q * 7,none⟩ [x0,x1,x2,x3,x4,x5,x6]:=by
    have h7:∀ (W:World) (b:Nat) (ca cb:List Value),ca.length=7→cb.length=7→Blk W b 64 (ca++cb).toArray→At W ⟨b,0 * 7,none⟩ ca∧At W ⟨b,1 * 7,none⟩ cb:=fun W b ca cb hca hcb hb=>⟨fun j u hj=>by
      rw [yo,Addr.add_lit,hb.cell,qx,jn,qe (qv.1 hj).1];exact hj,fun j u hj=>by
      rw [Addr.add_lit,hb.cell,qx,qi (by rw [hca];omega),hca,show 1 * 7+j - 7=j by omega];exact hj⟩
    rcases (show q=0∨q=1 by omega) with rfl|rfl
    ·exact ⟨.val ⟨1,pk y4 4,⟨#[]⟩⟩,_,_,_,_,_,_,_,.inl ⟨pk y4 4,km _ _ (by omega),by have:=kn y4 4 (by omega);omega,rfl⟩,fun W=>rfl,fun W b hb=>(h7 W b [.int .i64 2,.string ⟨#[]⟩,.int .i64 1,.int .i64 (pk y4 4),.string ⟨#[]⟩,.slice none 0 0,.slice none 0 0] [.int .i64 1,.string (vNm y3),.int .i64 0,.int .i64 0,.string ⟨#[]⟩,.slice none 0 0,.slice none 0 0] rfl rfl hb).1⟩
    ·exact ⟨.var (vNm y3),_,_,_,_,_,_,_,⟨y3,rfl⟩,fun W=>rfl,fun W b hb=>(h7 W b [.int .i64 2,.string ⟨#[]⟩,.int .i64 1,.int .i64 (pk y4 4),.string ⟨#[]⟩,.slice none 0 0,.slice none 0 0] [.int .i64 1,.string (vNm y3),.int .i64 0,.int .i64 0,.string ⟨#[]⟩,.slice none 0 0,.slice none 0 0] rfl rfl hb).2⟩
   have HTx:=qq htx
   have Hx:=qq hx
   have Hxc:=qq hxc
   clear htx hx hxc
   have hpick4:=fun W=>gm W y4 4 h4.1 h4.2 (by omega) (by omega)
   have HP4:=qq hpick4
   clear hpick4
   obtain ⟨p4,hp4⟩:=qdp (pk y4 4)
   rw [hp4] at HP4 Hxc
   clear hp4
   have eg25:∀ (args:Array Value) (w:World),(callFunc 64 args).run Tryz.prog w=.ok (.enter 64 args) w:=enters_of Tryz.func64 (by kernel_rfl) rfl
   have eg39:∀ (args:Array Value) (w:World),(callFunc 95 args).run Tryz.prog w=.ok (.enter 95 args) w:=enters_of Tryz.func95 (by kernel_rfl) rfl
   have eg40:∀ (args:Array Value) (w:World),(callFunc 96 args).run Tryz.prog w=.ok (.enter 96 args) w:=enters_of Tryz.func96 (by kernel_rfl) rfl
   refine vj (by kernel_rfl) ?_
   have hnd:New w2 w2.drew:=(Chg.refl _ _).drew
   have DB:=qq (HB2.out.chg hnd id)
   have DL:=qq (HL2.out.chg hnd id)
   have DN:=qq (HNa.out.trans hnd qdr)
   clear hnd HB2 HL2 HNa
   generalize w2.drew=wd at DB DL DN⊢
   refine AtN.segN2 0 23 [36,37,38,39,40,41,42,43,44,45,46,47,48,49,50,51,52,53,54,55,56,57,58] (fun
    |0=>fun v _=>v=.string (opT j)
    |1=>fun v _=>v=.pointer (some ⟨w.heap.size,2,none⟩)
    |2=>fun v _=>v=.pointer (some ⟨w.heap.size,2,none⟩)
    |3=>fun v _=>v=.int .i64 y2
    |4=>fun v _=>v=.agg #[.int .i64 1,.string (vNm y2),.int .i64 0,.int .i64 0,.string ⟨#[]⟩,.slice none 0 0,.slice none 0 0]
    |5=>fun v _=>v=.pointer (some ⟨w.heap.size,2,none⟩)
    |6=>fun v _=>v=.pointer (some ⟨w.heap.size,4,none⟩)
    |7=>fun v _=>v=.int .i64 y4
    |8=>fun v _=>v=.int .i64 p4
    |9=>fun v _=>v=.agg #[.int .i64 2,.string ⟨#[]⟩,.int .i64 1,.int .i64 p4,.string ⟨#[]⟩,.slice none 0 0,.slice none 0 0]
    |10=>fun v _=>v=.pointer (some ⟨w.heap.size,2,none⟩)
    |11=>fun v _=>v=.pointer (some ⟨w.heap.size,3,none⟩)
    |12=>fun v _=>v=.int .i64 y3
    |13=>fun v _=>v=.agg #[.int .i64 1,.string (vNm y3),.int .i64 0,.int .i64 0,.string ⟨#[]⟩,.slice none 0 0,.slice none 0 0]
    |14=>fun v W=>∃ b,v=.slice (some ⟨b,0,none⟩) 2 2∧Blk W b 64 #[.int .i64 2,.string ⟨#[]⟩,.int .i64 1,.int .i64 p4,.string ⟨#[]⟩,.slice none 0 0,.slice none 0 0,.int .i64 1,.string (vNm y3),.int .i64 0,.int .i64 0,.string ⟨#[]⟩,.slice none 0 0,.slice none 0 0]∧wd.heap.size≤b
    |15=>fun v _=>v=.pointer (some ⟨w.heap.size,2,none⟩)
    |16=>fun v _=>v=.pointer (some ⟨w.heap.size,5,none⟩)
    |17=>fun v _=>v=.int .i64 y5
    |18=>fun v _=>v=.int .i64 q
    |19=>fun v W=>∃ b,v=.pointer (some ⟨b,q * 7,none⟩)∧Blk W b 64 #[.int .i64 2,.string ⟨#[]⟩,.int .i64 1,.int .i64 p4,.string ⟨#[]⟩,.slice none 0 0,.slice none 0 0,.int .i64 1,.string (vNm y3),.int .i64 0,.int .i64 0,.string ⟨#[]⟩,.slice none 0 0,.slice none 0 0]
    |20=>fun v _=>v=.agg #[x0,x1,x2,x3,x4,x5,x6]
    |21=>fun v W=>∃ b,v=.slice (some ⟨b,0,none⟩) 2 2∧Blk W b 64 #[.int .i64 1,.string (vNm y2),.int .i64 0,.int .i64 0,.string ⟨#[]⟩,.slice none 0 0,.slice none 0 0,x0,x1,x2,x3,x4,x5,x6]∧wd.heap.size≤b
    |22=>fun v W=>∃ b,v=.agg #[.int .i64 3,.string (opT j),.slice (some ⟨b,0,none⟩) 2 2]∧Blk W b 64 #[.int .i64 1,.string (vNm y2),.int .i64 0,.int .i64 0,.string ⟨#[]⟩,.slice none 0 0,.slice none 0 0,x0,x1,x2,x3,x4,x5,x6]∧wd.heap.size≤b
    |_=>fun _ _=>True) (by kernel_rfl) (by kernel_rfl) (by kernel_rfl) (by kernel_rfl) (fun j v w1 w2 hc h=>?_) (fun i hn hi o ho A0 W hN hin hk=>?_) (fun l W3 hN hl hΦ=>?_)
   ·match j with
    |14=>exact h.imp fun b h=>⟨h.1,h.2.1.chg hc id,h.2.2⟩
    |19=>exact h.imp fun b h=>⟨h.1,h.2.chg hc id⟩
    |21=>exact h.imp fun b h=>⟨h.1,h.2.1.chg hc id,h.2.2⟩
    |22=>exact h.imp fun b h=>⟨h.1,h.2.1.chg hc id,h.2.2⟩
    |0|1|2|3|4|5|6|7|8|9|10|11|12|13|15|16|17|18|20=>exact h
    |_+23=>trivial
   ·rcases (show i=0∨i=1∨i=2∨i=3∨i=4∨i=5∨i=6∨i=7∨i=8∨i=9∨i=10∨i=11∨i=12∨i=13∨i=14∨i=15∨i=16∨i=17∨i=18∨i=19∨i=20∨i=21∨i=22 by omega) with rfl|rfl|rfl|rfl|rfl|rfl|rfl|rfl|rfl|rfl|rfl|rfl|rfl|rfl|rfl|rfl|rfl|rfl|rfl|rfl|rfl|rfl|rfl<;>cases ho
    ·exact .same (uo 5 _ rfl (hk 5)) rfl
    ·have h1:A0.tmps[1]?.getD undef=.pointer (some ⟨w.heap.size,0,none⟩):=hk 1
     exact .same (by simp [go_sem,h1]) rfl
    ·have h37:A0.tmps[37]?.getD undef=.pointer (some ⟨w.heap.size,2,none⟩):=hin 1 37
     exact .same (by simp [go_sem,h37]) rfl
    ·have h38:A0.tmps[38]?.getD undef=.pointer (some ⟨w.heap.size,2,none⟩):=hin 2 38
     have hc:W.cell? ⟨w.heap.size,2,none⟩=some (.int .i64 y2):=(DB.out.chg hN id).cell 2
     exact .same (by simp [go_sem,h38,hc]) rfl
    ·have h39:A0.tmps[39]?.getD undef=.int .i64 y2:=hin 3 39
     refine .call (f:=95) (args:=#[.int .i64 y2]) (W':=W) ?_ ((v06 W y2 h2).mono ?_)
     ·simp [go_sem,h39,eg39]
     ·rintro e w' ⟨rfl,hc⟩
      exact ⟨_,rfl,hc,rfl⟩
    ·have h1:A0.tmps[1]?.getD undef=.pointer (some ⟨w.heap.size,0,none⟩):=hk 1
     exact .same (by simp [go_sem,h1]) rfl
    ·have h41:A0.tmps[41]?.getD undef=.pointer (some ⟨w.heap.size,2,none⟩):=hin 5 41
     exact .same (by simp [go_sem,h41]) rfl
    ·have h42:A0.tmps[42]?.getD undef=.pointer (some ⟨w.heap.size,4,none⟩):=hin 6 42
     have hc:W.cell? ⟨w.heap.size,4,none⟩=some (.int .i64 y4):=(DB.out.chg hN id).cell 4
     exact .same (by simp [go_sem,h42,hc]) rfl
    ·have h43:A0.tmps[43]?.getD undef=.int .i64 y4:=hin 7 43
     refine .enter (f:=64) (args:=#[.int .i64 y4,.int .i64 4]) (v:=.int .i64 p4) ?_ ((HP4.out W).mono ?_)
     ·simp [go_sem,h43,eg25]
     ·rintro e w' ⟨rfl,rfl⟩
      exact ⟨rfl,Chg.refl _ _,rfl⟩
    ·have h44:A0.tmps[44]?.getD undef=.int .i64 p4:=hin 8 44
     refine .call (f:=96) (args:=#[.int .i64 p4]) (W':=W) ?_ ((num06 W p4).mono ?_)
     ·simp [go_sem,h44,eg40]
     ·rintro e w' ⟨rfl,hc⟩
      exact ⟨_,rfl,hc,rfl⟩
    ·have h1:A0.tmps[1]?.getD undef=.pointer (some ⟨w.heap.size,0,none⟩):=hk 1
     exact .same (by simp [go_sem,h1]) rfl
    ·have h46:A0.tmps[46]?.getD undef=.pointer (some ⟨w.heap.size,2,none⟩):=hin 10 46
     exact .same (by simp [go_sem,h46]) rfl
    ·have h47:A0.tmps[47]?.getD undef=.pointer (some ⟨w.heap.size,3,none⟩):=hin 11 47
     have hc:W.cell? ⟨w.heap.size,3,none⟩=some (.int .i64 y3):=(DB.out.chg hN id).cell 3
     exact .same (by simp [go_sem,h47,hc]) rfl
    ·have h48:A0.tmps[48]?.getD undef=.int .i64 y3:=hin 12 48
     refine .call (f:=95) (args:=#[.int .i64 y3]) (W':=W) ?_ ((v06 W y3 h3').mono ?_)
     ·simp [go_sem,h48,eg39]
     ·rintro e w' ⟨rfl,hc⟩
      exact ⟨_,rfl,hc,rfl⟩
    ·have h45:A0.tmps[45]?.getD undef=.agg #[.int .i64 2,.string ⟨#[]⟩,.int .i64 1,.int .i64 p4,.string ⟨#[]⟩,.slice none 0 0,.slice none 0 0]:=hin 9 45
     have h49:A0.tmps[49]?.getD undef=.agg #[.int .i64 1,.string (vNm y3),.int .i64 0,.int .i64 0,.string ⟨#[]⟩,.slice none 0 0,.slice none 0 0]:=hin 13 49
     exact .value (W':=W.alloc (.cells #[.int .i64 2,.string ⟨#[]⟩,.int .i64 1,.int .i64 p4,.string ⟨#[]⟩,.slice none 0 0,.slice none 0 0,.int .i64 1,.string (vNm y3),.int .i64 0,.int .i64 0,.string ⟨#[]⟩,.slice none 0 0,.slice none 0 0] 64)) (v:=.slice (some ⟨W.heap.size,0,none⟩) 2 2) (by simp [go_sem,h45,h49]) ⟨(Chg.refl _ _).alloc _,_,rfl,Blk.new _ _ _,hN.size⟩
    ·have h1:A0.tmps[1]?.getD undef=.pointer (some ⟨w.heap.size,0,none⟩):=hk 1
     exact .same (by simp [go_sem,h1]) rfl
    ·have h51:A0.tmps[51]?.getD undef=.pointer (some ⟨w.heap.size,2,none⟩):=hin 15 51
     exact .same (by simp [go_sem,h51]) rfl
    ·have h52:A0.tmps[52]?.getD undef=.pointer (some ⟨w.heap.size,5,none⟩):=hin 16 52
     have hc:W.cell? ⟨w.heap.size,5,none⟩=some (.int .i64 y5):=(DB.out.chg hN id).cell 5
     exact .same (by simp [go_sem,h52,hc]) rfl
    ·have h53:A0.tmps[53]?.getD undef=.int .i64 y5:=hin 17 53
     refine .enter (f:=64) (args:=#[.int .i64 y5,.int .i64 2]) (v:=.int .i64 q) ?_ ((HPq.out W).mono ?_)
     ·simp [go_sem,h53,eg25]
     ·rintro e w' ⟨rfl,rfl⟩
      exact ⟨rfl,Chg.refl _ _,rfl⟩
    ·have h50:=hin 14 50
     have h54:A0.tmps[54]?.getD undef=.int .i64 q:=hin 18 54
     obtain ⟨b,e,hb,_⟩:=h50
     exact .same (v:=.pointer (some ⟨b,q * 7,none⟩)) (by simp [go_sem,e,h54,kq0,kq1,hq2]) ⟨b,rfl,hb⟩
    ·have h55:=hin 19 55
     obtain ⟨b,e,hb⟩:=h55
     exact .same (vu 55 _ rfl xy ⟨b,q * 7,none⟩ [x0,x1,x2,x3,x4,x5,x6] e rfl (Hxc.out W b hb)) rfl
    ·have h40:A0.tmps[40]?.getD undef=.agg #[.int .i64 1,.string (vNm y2),.int .i64 0,.int .i64 0,.string ⟨#[]⟩,.slice none 0 0,.slice none 0 0]:=hin 4 40
     have h56:A0.tmps[56]?.getD undef=.agg #[x0,x1,x2,x3,x4,x5,x6]:=hin 20 56
     exact .value (W':=W.alloc (.cells #[.int .i64 1,.string (vNm y2),.int .i64 0,.int .i64 0,.string ⟨#[]⟩,.slice none 0 0,.slice none 0 0,x0,x1,x2,x3,x4,x5,x6] 64)) (v:=.slice (some ⟨W.heap.size,0,none⟩) 2 2) (by simp [go_sem,h40,h56]) ⟨(Chg.refl _ _).alloc _,_,rfl,Blk.new _ _ _,hN.size⟩
    ·have h36:A0.tmps[36]?.getD undef=.string (opT j):=hin 0 36
     have h57:=hin 21 57
     obtain ⟨b,e,hb⟩:=h57
     exact .same (v:=.agg #[.int .i64 3,.string (opT j),.slice (some ⟨b,0,none⟩) 2 2]) (by simp [go_sem,e,h36]) ⟨b,rfl,hb⟩
   have hlq0:l.length=23:=hl
   obtain ⟨x36,lq1,rfl,hlq1⟩:=vw hlq0
   obtain ⟨x37,lq2,rfl,hlq2⟩:=vw hlq1
   obtain ⟨x38,lq3,rfl,hlq3⟩:=vw hlq2
   obtain ⟨x39,lq4,rfl,hlq4⟩:=vw hlq3
   obtain ⟨x40,lq5,rfl,hlq5⟩:=vw hlq4
   obtain ⟨x41,lq6,rfl,hlq6⟩:=vw hlq5
   obtain ⟨x42,lq7,rfl,hlq7⟩:=vw hlq6
   obtain ⟨x43,lq8,rfl,hlq8⟩:=vw hlq7
   obtain ⟨x44,lq9,rfl,hlq9⟩:=vw hlq8
   obtain ⟨x45,lq10,rfl,hlq10⟩:=vw hlq9
   obtain ⟨x46,lq11,rfl,hlq11⟩:=vw hlq10
   obtain ⟨x47,lq12,rfl,hlq12⟩:=vw hlq11
   obtain ⟨x48,lq13,rfl,hlq13⟩:=vw hlq12
   obtain ⟨x49,lq14,rfl,hlq14⟩:=vw hlq13
   obtain ⟨x50,lq15,rfl,hlq15⟩:=vw hlq14
   obtain ⟨x51,lq16,rfl,hlq16⟩:=vw hlq15
   obtain ⟨x52,lq17,rfl,hlq17⟩:=vw hlq16
   obtain ⟨x53,lq18,rfl,hlq18⟩:=vw hlq17
   obtain ⟨x54,lq19,rfl,hlq19⟩:=vw hlq18
   obtain ⟨x55,lq20,rfl,hlq20⟩:=vw hlq19
   obtain ⟨x56,lq21,rfl,hlq21⟩:=vw hlq20
   obtain ⟨x57,lq22,rfl,hlq22⟩:=vw hlq21
   obtain ⟨x58,lq23,rfl,hlq23⟩:=vw hlq22
   obtain rfl:=ze hlq23
   clear hlq0 hlq1 hlq2 hlq3 hlq4 hlq5 hlq6 hlq7 hlq8 hlq9 hlq10 hlq11 hlq12 hlq13 hlq14 hlq15 hlq16 hlq17 hlq18 hlq19 hlq20 hlq21 hlq22 hlq23
   obtain rfl:x36=.string (opT j):=hΦ 0 (by decide)
   obtain rfl:x37=.pointer (some ⟨w.heap.size,2,none⟩):=hΦ 1 (by decide)
   obtain rfl:x38=.pointer (some ⟨w.heap.size,2,none⟩):=hΦ 2 (by decide)
   obtain rfl:x39=.int .i64 y2:=hΦ 3 (by decide)
   obtain rfl:x40=.agg #[.int .i64 1,.string (vNm y2),.int .i64 0,.int .i64 0,.string ⟨#[]⟩,.slice none 0 0,.slice none 0 0]:=hΦ 4 (by decide)
   obtain rfl:x41=.pointer (some ⟨w.heap.size,2,none⟩):=hΦ 5 (by decide)
   obtain rfl:x42=.pointer (some ⟨w.heap.size,4,none⟩):=hΦ 6 (by decide)
   obtain rfl:x43=.int .i64 y4:=hΦ 7 (by decide)
   obtain rfl:x44=.int .i64 p4:=hΦ 8 (by decide)
   obtain rfl:x45=.agg #[.int .i64 2,.string ⟨#[]⟩,.int .i64 1,.int .i64 p4,.string ⟨#[]⟩,.slice none 0 0,.slice none 0 0]:=hΦ 9 (by decide)
   obtain rfl:x46=.pointer (some ⟨w.heap.size,2,none⟩):=hΦ 10 (by decide)
   obtain rfl:x47=.pointer (some ⟨w.heap.size,3,none⟩):=hΦ 11 (by decide)
   obtain rfl:x48=.int .i64 y3:=hΦ 12 (by decide)
   obtain rfl:x49=.agg #[.int .i64 1,.string (vNm y3),.int .i64 0,.int .i64 0,.string ⟨#[]⟩,.slice none 0 0,.slice none 0 0]:=hΦ 13 (by decide)
   have hx50:=hΦ 14 (by decide)
   obtain rfl:x51=.pointer (some ⟨w.heap.size,2,none⟩):=hΦ 15 (by decide)
   obtain rfl:x52=.pointer (some ⟨w.heap.size,5,none⟩):=hΦ 16 (by decide)
   obtain rfl:x53=.int .i64 y5:=hΦ 17 (by decide)
   obtain rfl:x54=.int .i64 q:=hΦ 18 (by decide)
   have hx55:=hΦ 19 (by decide)
   obtain rfl:x56=.agg #[x0,x1,x2,x3,x4,x5,x6]:=hΦ 20 (by decide)
   have hx57:=hΦ 21 (by decide)
   have hx58:=hΦ 22 (by decide)
   simp only [putsL,zq,zj,zz,List.zip,List.zipWith,Act.put,qk,qu,qy]
   clear hΦ hl
   obtain ⟨b,rfl,hbb,hbl⟩:=hx58
   obtain ⟨_,rfl,_⟩:=hx50
   obtain ⟨_,rfl,_⟩:=hx55
   obtain ⟨_,rfl,_⟩:=hx57
   have HBb:=qq hbb
   have HL3:=qq (DL.out.chg hN id)
   have HN3:=qq (DN.out.trans hN qdr)
   have hlb:=DL.out.lt
   have hwl:=DN.out.size
   clear hbb DL DB DN hN
   refine AtN.list 23 24 (by kernel_rfl) ?_
   change wpList _ _ _ [_] _ _
   go_wp2_with ((with_reducible refine xq rfl (.tmp 2) (.tmp 58) 53 rfl rfl gn (w.heap.size+1) 53 _ [.int .i64 3,.string (opT j),.slice (some ⟨b,0,none⟩) 2 2] ?_ ?_ HL3.out rfl rfl (ki _ _ _ _ _) ?_);exact rfl;exact rfl;intro w6 hc6 hb6 hs6;have HC6:=qq hc6;have HB6:=qq hb6;clear hc6 hb6 hs6)
   change AtN _ _ _ 24 _ _
   refine AtN.done rfl ?_
   go_wp2_with fail
   have hS:Stays w6 (fun k=>k < w.heap.size) (fun W=>LtAt W [.int .i64 3,.string (opT j),.slice (some ⟨b,0,none⟩) 2 2] (.test j (.var (vNm y2)) tx)):=fun W' hc=>by
    have hb':=(HBb.out.chg HC6.out (fun e=>by omega)).chg hc (fun e=>by omega)
    exact ⟨some ⟨b,0,none⟩,2,[[.int .i64 1,.string (vNm y2),.int .i64 0,.int .i64 0,.string ⟨#[]⟩,.slice none 0 0,.slice none 0 0],[x0,x1,x2,x3,x4,x5,x6]],rfl,tms2 hb' rfl (Hx.out W')⟩
   exact bodyPost_ret (v:=.agg #[.int .i64 3,.string (opT j),.slice (some ⟨b,0,none⟩) 2 2]) (xh gn rfl _ _ ⟨w.heap.size+1,0,none⟩ [.int .i64 3,.string (opT j),.slice (some ⟨b,0,none⟩) 2 2] rfl HB6.out.at_ rfl) rfl ⟨.test j (.var (vNm y2)) tx,some ⟨b,0,none⟩,2,rfl,⟨hj6,⟨y2,rfl⟩,HTx.out⟩,hS,HN3.out.trans HC6.out (fun k hk e=>by omega)⟩
 ·clear HAtom HRel HFst HRaw
  go_upto_region 14 with (go_at_call 64;refine (HP.out _).mono ?_;rintro e w' ⟨rfl,rfl⟩;clear HP)
  clear HEnd eR0 eR1
  have hyb:=bp (d:=2) (by omega) h5.1 h5.2
  have kw:IntKind.i64.wrap (y5.tdiv 2)=y5.tdiv 2:=by rw [IntKind.wrap_i64];omega
  have hBq:B64 (y5.tdiv 2):=hyb
  obtain ⟨q,hq⟩:∃ p:Nat,pk (y5.tdiv 2) 2=p:=⟨(pk (y5.tdiv 2) 2).toNat,by have:=km (y5.tdiv 2) 2 (by omega);omega⟩
  have hq2:q < 2:=by have:=kn (y5.tdiv 2) 2 (by omega);omega
  have hpickq:=fun W=>gm W (y5.tdiv 2) 2 hBq.1 hBq.2 (by omega) (by omega)
  rw [hq] at hpickq
  have HPq:=qq hpickq
  have kq0:(0:Int)≤(q:Int):=by omega
  have kq1:(q:Int) < 2:=by omega
  clear hpickq hq
  obtain ⟨tx,x0,x1,x2,x3,x4,x5,x6,htx,hx,hxc⟩:∃ (tx:Tm) (x0 x1 x2 x3 x4 x5 x6:Value),flatT tx∧(∀ W,TmAt W [x0,x1,x2,x3,x4,x5,x6] tx)∧∀ W b,Blk W b 64 #[.int .i64 2,.string ⟨#[]⟩,.int .i64 1,.int .i64 1,.string ⟨#[]⟩,.slice none 0 0,.slice none 0 0,.int .i64 1,.string (vNm y4),.int .i64 0,.int .i64 0,.string ⟨#[]⟩,.slice none 0 0,.slice none 0 0]→At W ⟨b,q * 7,none⟩ [x0,x1,x2,x3,x4,x5,x6]:=by
   have h7:∀ (W:World) (b:Nat) (ca cb:List Value),ca.length=7→cb.length=7→Blk W b 64 (ca++cb).toArray→At W ⟨b,0 * 7,none⟩ ca∧At W ⟨b,1 * 7,none⟩ cb:=fun W b ca cb hca hcb hb=>⟨fun j u hj=>by
     rw [yo,Addr.add_lit,hb.cell,qx,jn,qe (qv.1 hj).1];exact hj,fun j u hj=>by
     rw [Addr.add_lit,hb.cell,qx,qi (by rw [hca];omega),hca,show 1 * 7+j - 7=j by omega];exact hj⟩
   rcases (show q=0∨q=1 by omega) with rfl|rfl
   ·exact ⟨.val ⟨1,1,⟨#[]⟩⟩,_,_,_,_,_,_,_,.inr ⟨_,rfl,.inl ⟨1,by omega,by omega,rfl⟩⟩,fun W=>rfl,fun W b hb=>(h7 W b [.int .i64 2,.string ⟨#[]⟩,.int .i64 1,.int .i64 1,.string ⟨#[]⟩,.slice none 0 0,.slice none 0 0] [.int .i64 1,.string (vNm y4),.int .i64 0,.int .i64 0,.string ⟨#[]⟩,.slice none 0 0,.slice none 0 0] rfl rfl hb).1⟩
   ·exact ⟨.var (vNm y4),_,_,_,_,_,_,_,.inl ⟨y4,rfl⟩,fun W=>rfl,fun W b hb=>(h7 W b [.int .i64 2,.string ⟨#[]⟩,.int .i64 1,.int .i64 1,.string ⟨#[]⟩,.slice none 0 0,.slice none 0 0] [.int .i64 1,.string (vNm y4),.int .i64 0,.int .i64 0,.string ⟨#[]⟩,.slice none 0 0,.slice none 0 0] rfl rfl hb).2⟩
  have HTx:=qq htx
  have Hx:=qq hx
  have Hxc:=qq hxc
  clear htx hx hxc
  obtain ⟨m,hm⟩:∃ p:Nat,pk y5 2=p:=⟨(pk y5 2).toNat,by have:=km y5 2 (by omega);omega⟩
  have hm2:m < 2:=by have:=kn y5 2 (by omega);omega
  have hpm:=fun W=>gm W y5 2 h5.1 h5.2 (by omega) (by omega)
  rw [hm] at hpm
  have HPm:=qq hpm
  have km0:(0:Int)≤(m:Int):=by omega
  have km1:(m:Int) < 2:=by omega
  obtain ⟨mb,hmb⟩:∃ mb:Bool,∀ W b,Blk W b 9 #[.string ⟨#[43]⟩,.string ⟨#[45]⟩]→W.cell? ⟨b,m,none⟩=some (.string (opS mb)):=by
   rcases (show m=0∨m=1 by omega) with rfl|rfl
   ·exact ⟨false,fun W b hb=>hb.cell 0⟩
   ·exact ⟨true,fun W b hb=>hb.cell 1⟩
  have Hmb:=qq hmb
  clear hpm hm hmb hyb
  have eg25:∀ (args:Array Value) (w:World),(callFunc 64 args).run Tryz.prog w=.ok (.enter 64 args) w:=enters_of Tryz.func64 (by kernel_rfl) rfl
  have eg39:∀ (args:Array Value) (w:World),(callFunc 95 args).run Tryz.prog w=.ok (.enter 95 args) w:=enters_of Tryz.func95 (by kernel_rfl) rfl
  have eg40:∀ (args:Array Value) (w:World),(callFunc 96 args).run Tryz.prog w=.ok (.enter 96 args) w:=enters_of Tryz.func96 (by kernel_rfl) rfl
  refine vj (by kernel_rfl) ?_
  have hnd:New w2 w2.drew:=(Chg.refl _ _).drew
  have DB:=qq (HB2.out.chg hnd id)
  have DL:=qq (HL2.out.chg hnd id)
  have DN:=qq (HNa.out.trans hnd qdr)
  clear hnd HB2 HL2 HNa
  generalize w2.drew=wd at DB DL DN⊢
  refine AtN.segN2 0 33 [59,60,61,62,63,64,65,66,67,68,69,70,71,72,73,74,75,76,77,78,79,80,81,82,83,84,85,86,87,88,89,90,91] (fun
   |0=>fun v _=>v=.pointer (some ⟨w.heap.size,2,none⟩)
   |1=>fun v _=>v=.pointer (some ⟨w.heap.size,2,none⟩)
   |2=>fun v _=>v=.int .i64 y2
   |3=>fun v _=>v=.agg #[.int .i64 1,.string (vNm y2),.int .i64 0,.int .i64 0,.string ⟨#[]⟩,.slice none 0 0,.slice none 0 0]
   |4=>fun v _=>v=.string (vNm y2)
   |5=>fun v W=>∃ b,v=.slice (some ⟨b,0,none⟩) 2 2∧Blk W b 9 #[.string ⟨#[43]⟩,.string ⟨#[45]⟩]∧wd.heap.size≤b
   |6=>fun v _=>v=.pointer (some ⟨w.heap.size,2,none⟩)
   |7=>fun v _=>v=.pointer (some ⟨w.heap.size,5,none⟩)
   |8=>fun v _=>v=.int .i64 y5
   |9=>fun v _=>v=.int .i64 m
   |10=>fun v W=>∃ b,v=.pointer (some ⟨b,m,none⟩)∧Blk W b 9 #[.string ⟨#[43]⟩,.string ⟨#[45]⟩]
   |11=>fun v _=>v=.string (opS mb)
   |12=>fun v _=>v=.pointer (some ⟨w.heap.size,2,none⟩)
   |13=>fun v _=>v=.pointer (some ⟨w.heap.size,3,none⟩)
   |14=>fun v _=>v=.int .i64 y3
   |15=>fun v _=>v=.agg #[.int .i64 1,.string (vNm y3),.int .i64 0,.int .i64 0,.string ⟨#[]⟩,.slice none 0 0,.slice none 0 0]
   |16=>fun v _=>v=.agg #[.int .i64 2,.string ⟨#[]⟩,.int .i64 1,.int .i64 1,.string ⟨#[]⟩,.slice none 0 0,.slice none 0 0]
   |17=>fun v _=>v=.pointer (some ⟨w.heap.size,2,none⟩)
   |18=>fun v _=>v=.pointer (some ⟨w.heap.size,4,none⟩)
   |19=>fun v _=>v=.int .i64 y4
   |20=>fun v _=>v=.agg #[.int .i64 1,.string (vNm y4),.int .i64 0,.int .i64 0,.string ⟨#[]⟩,.slice none 0 0,.slice none 0 0]
   |21=>fun v W=>∃ b,v=.slice (some ⟨b,0,none⟩) 2 2∧Blk W b 64 #[.int .i64 2,.string ⟨#[]⟩,.int .i64 1,.int .i64 1,.string ⟨#[]⟩,.slice none 0 0,.slice none 0 0,.int .i64 1,.string (vNm y4),.int .i64 0,.int .i64 0,.string ⟨#[]⟩,.slice none 0 0,.slice none 0 0]∧wd.heap.size≤b
   |22=>fun v _=>v=.pointer (some ⟨w.heap.size,2,none⟩)
   |23=>fun v _=>v=.pointer (some ⟨w.heap.size,5,none⟩)
   |24=>fun v _=>v=.int .i64 y5
   |25=>fun v _=>v=.int .i64 (y5.tdiv 2)
   |26=>fun v _=>v=.int .i64 q
   |27=>fun v W=>∃ b,v=.pointer (some ⟨b,q * 7,none⟩)∧Blk W b 64 #[.int .i64 2,.string ⟨#[]⟩,.int .i64 1,.int .i64 1,.string ⟨#[]⟩,.slice none 0 0,.slice none 0 0,.int .i64 1,.string (vNm y4),.int .i64 0,.int .i64 0,.string ⟨#[]⟩,.slice none 0 0,.slice none 0 0]
   |28=>fun v _=>v=.agg #[x0,x1,x2,x3,x4,x5,x6]
   |29=>fun v W=>∃ b,v=.slice (some ⟨b,0,none⟩) 2 2∧Blk W b 64 #[.int .i64 1,.string (vNm y3),.int .i64 0,.int .i64 0,.string ⟨#[]⟩,.slice none 0 0,.slice none 0 0,x0,x1,x2,x3,x4,x5,x6]∧wd.heap.size≤b
   |30=>fun v W=>∃ b,v=.agg #[.int .i64 4,.string (opS mb),.int .i64 0,.int .i64 0,.string ⟨#[]⟩,.slice none 0 0,.slice (some ⟨b,0,none⟩) 2 2]∧Blk W b 64 #[.int .i64 1,.string (vNm y3),.int .i64 0,.int .i64 0,.string ⟨#[]⟩,.slice none 0 0,.slice none 0 0,x0,x1,x2,x3,x4,x5,x6]∧wd.heap.size≤b
   |31=>fun v W=>∃ b d,v=.slice (some ⟨d,0,none⟩) 1 1∧Blk W b 64 #[.int .i64 1,.string (vNm y3),.int .i64 0,.int .i64 0,.string ⟨#[]⟩,.slice none 0 0,.slice none 0 0,x0,x1,x2,x3,x4,x5,x6]∧wd.heap.size≤b∧Blk W d 64 #[.int .i64 4,.string (opS mb),.int .i64 0,.int .i64 0,.string ⟨#[]⟩,.slice none 0 0,.slice (some ⟨b,0,none⟩) 2 2]∧wd.heap.size≤d
   |32=>fun v W=>∃ b d,v=.agg #[.int .i64 4,.string (vNm y2),.slice (some ⟨d,0,none⟩) 1 1]∧Blk W b 64 #[.int .i64 1,.string (vNm y3),.int .i64 0,.int .i64 0,.string ⟨#[]⟩,.slice none 0 0,.slice none 0 0,x0,x1,x2,x3,x4,x5,x6]∧wd.heap.size≤b∧Blk W d 64 #[.int .i64 4,.string (opS mb),.int .i64 0,.int .i64 0,.string ⟨#[]⟩,.slice none 0 0,.slice (some ⟨b,0,none⟩) 2 2]∧wd.heap.size≤d
   |_=>fun _ _=>True) (by kernel_rfl) (by kernel_rfl) (by kernel_rfl) (by kernel_rfl) (fun j v w1 w2 hc h=>?_) (fun i hn hi o ho A0 W hN hin hk=>?_) (fun l W3 hN hl hΦ=>?_)
  ·match j with
   |5=>exact h.imp fun b h=>⟨h.1,h.2.1.chg hc id,h.2.2⟩
   |10=>exact h.imp fun b h=>⟨h.1,h.2.chg hc id⟩
   |21=>exact h.imp fun b h=>⟨h.1,h.2.1.chg hc id,h.2.2⟩
   |27=>exact h.imp fun b h=>⟨h.1,h.2.chg hc id⟩
   |29=>exact h.imp fun b h=>⟨h.1,h.2.1.chg hc id,h.2.2⟩
   |30=>exact h.imp fun b h=>⟨h.1,h.2.1.chg hc id,h.2.2⟩
   |31=>exact h.imp fun b h=>h.imp fun d h=>⟨h.1,h.2.1.chg hc id,h.2.2.1,h.2.2.2.1.chg hc id,h.2.2.2.2⟩
   |32=>exact h.imp fun b h=>h.imp fun d h=>⟨h.1,h.2.1.chg hc id,h.2.2.1,h.2.2.2.1.chg hc id,h.2.2.2.2⟩
   |0|1|2|3|4|6|7|8|9|11|12|13|14|15|16|17|18|19|20|22|23|24|25|26|28=>exact h
   |_+33=>trivial
  ·rcases (show i=0∨i=1∨i=2∨i=3∨i=4∨i=5∨i=6∨i=7∨i=8∨i=9∨i=10∨i=11∨i=12∨i=13∨i=14∨i=15∨i=16∨i=17∨i=18∨i=19∨i=20∨i=21∨i=22∨i=23∨i=24∨i=25∨i=26∨i=27∨i=28∨i=29∨i=30∨i=31∨i=32 by omega) with rfl|rfl|rfl|rfl|rfl|rfl|rfl|rfl|rfl|rfl|rfl|rfl|rfl|rfl|rfl|rfl|rfl|rfl|rfl|rfl|rfl|rfl|rfl|rfl|rfl|rfl|rfl|rfl|rfl|rfl|rfl|rfl|rfl<;>cases ho
   ·have h1:A0.tmps[1]?.getD undef=.pointer (some ⟨w.heap.size,0,none⟩):=hk 1
    exact .same (by simp [go_sem,h1]) rfl
   ·have h59:A0.tmps[59]?.getD undef=.pointer (some ⟨w.heap.size,2,none⟩):=hin 0 59
    exact .same (by simp [go_sem,h59]) rfl
   ·have h60:A0.tmps[60]?.getD undef=.pointer (some ⟨w.heap.size,2,none⟩):=hin 1 60
    have hc:W.cell? ⟨w.heap.size,2,none⟩=some (.int .i64 y2):=(DB.out.chg hN id).cell 2
    exact .same (by simp [go_sem,h60,hc]) rfl
   ·have h61:A0.tmps[61]?.getD undef=.int .i64 y2:=hin 2 61
    refine .call (f:=95) (args:=#[.int .i64 y2]) (W':=W) ?_ ((v06 W y2 h2).mono ?_)
    ·simp [go_sem,h61,eg39]
    ·rintro e w' ⟨rfl,hc⟩
     exact ⟨_,rfl,hc,rfl⟩
   ·have h62:A0.tmps[62]?.getD undef=.agg #[.int .i64 1,.string (vNm y2),.int .i64 0,.int .i64 0,.string ⟨#[]⟩,.slice none 0 0,.slice none 0 0]:=hin 3 62
    exact .same (by simp [go_sem,h62,qcn]) rfl
   ·exact .value (W':=W.alloc (.cells #[.string ⟨#[43]⟩,.string ⟨#[45]⟩] 9)) (v:=.slice (some ⟨W.heap.size,0,none⟩) 2 2) (by simp [go_sem,Nat.zero_lt_one]) ⟨(Chg.refl _ _).alloc _,_,rfl,Blk.new _ _ _,hN.size⟩
   ·have h1:A0.tmps[1]?.getD undef=.pointer (some ⟨w.heap.size,0,none⟩):=hk 1
    exact .same (by simp [go_sem,h1]) rfl
   ·have h65:A0.tmps[65]?.getD undef=.pointer (some ⟨w.heap.size,2,none⟩):=hin 6 65
    exact .same (by simp [go_sem,h65]) rfl
   ·have h66:A0.tmps[66]?.getD undef=.pointer (some ⟨w.heap.size,5,none⟩):=hin 7 66
    have hc:W.cell? ⟨w.heap.size,5,none⟩=some (.int .i64 y5):=(DB.out.chg hN id).cell 5
    exact .same (by simp [go_sem,h66,hc]) rfl
   ·have h67:A0.tmps[67]?.getD undef=.int .i64 y5:=hin 8 67
    refine .enter (f:=64) (args:=#[.int .i64 y5,.int .i64 2]) (v:=.int .i64 m) ?_ ((HPm.out W).mono ?_)
    ·simp [go_sem,h67,eg25]
    ·rintro e w' ⟨rfl,rfl⟩
     exact ⟨rfl,Chg.refl _ _,rfl⟩
   ·have h64:=hin 5 64
    have h68:A0.tmps[68]?.getD undef=.int .i64 m:=hin 9 68
    obtain ⟨b,e,hb,_⟩:=h64
    exact .same (v:=.pointer (some ⟨b,m,none⟩)) (by simp [go_sem,e,h68,km0,km1,hm2]) ⟨b,rfl,hb⟩
   ·have h69:=hin 10 69
    obtain ⟨b,e,hb⟩:=h69
    have hc:=Hmb.out W b hb
    exact .same (v:=.string (opS mb)) (by simp [go_sem,e,hc]) rfl
   ·have h1:A0.tmps[1]?.getD undef=.pointer (some ⟨w.heap.size,0,none⟩):=hk 1
    exact .same (by simp [go_sem,h1]) rfl
   ·have h71:A0.tmps[71]?.getD undef=.pointer (some ⟨w.heap.size,2,none⟩):=hin 12 71
    exact .same (by simp [go_sem,h71]) rfl
   ·have h72:A0.tmps[72]?.getD undef=.pointer (some ⟨w.heap.size,3,none⟩):=hin 13 72
    have hc:W.cell? ⟨w.heap.size,3,none⟩=some (.int .i64 y3):=(DB.out.chg hN id).cell 3
    exact .same (by simp [go_sem,h72,hc]) rfl
   ·have h73:A0.tmps[73]?.getD undef=.int .i64 y3:=hin 14 73
    refine .call (f:=95) (args:=#[.int .i64 y3]) (W':=W) ?_ ((v06 W y3 h3').mono ?_)
    ·simp [go_sem,h73,eg39]
    ·rintro e w' ⟨rfl,hc⟩
     exact ⟨_,rfl,hc,rfl⟩
   ·refine .call (f:=96) (args:=#[.int .i64 1]) (W':=W) ?_ ((num06 W 1).mono ?_)
    ·simp [go_sem,eg40]
    ·rintro e w' ⟨rfl,hc⟩
     exact ⟨_,rfl,hc,rfl⟩
   ·have h1:A0.tmps[1]?.getD undef=.pointer (some ⟨w.heap.size,0,none⟩):=hk 1
    exact .same (by simp [go_sem,h1]) rfl
   ·have h76:A0.tmps[76]?.getD undef=.pointer (some ⟨w.heap.size,2,none⟩):=hin 17 76
    exact .same (by simp [go_sem,h76]) rfl
   ·have h77:A0.tmps[77]?.getD undef=.pointer (some ⟨w.heap.size,4,none⟩):=hin 18 77
    have hc:W.cell? ⟨w.heap.size,4,none⟩=some (.int .i64 y4):=(DB.out.chg hN id).cell 4
    exact .same (by simp [go_sem,h77,hc]) rfl
   ·have h78:A0.tmps[78]?.getD undef=.int .i64 y4:=hin 19 78
    refine .call (f:=95) (args:=#[.int .i64 y4]) (W':=W) ?_ ((v06 W y4 h4).mono ?_)
    ·simp [go_sem,h78,eg39]
    ·rintro e w' ⟨rfl,hc⟩
     exact ⟨_,rfl,hc,rfl⟩
   ·have h75:A0.tmps[75]?.getD undef=.agg #[.int .i64 2,.string ⟨#[]⟩,.int .i64 1,.int .i64 1,.string ⟨#[]⟩,.slice none 0 0,.slice none 0 0]:=hin 16 75
    have h79:A0.tmps[79]?.getD undef=.agg #[.int .i64 1,.string (vNm y4),.int .i64 0,.int .i64 0,.string ⟨#[]⟩,.slice none 0 0,.slice none 0 0]:=hin 20 79
    exact .value (W':=W.alloc (.cells #[.int .i64 2,.string ⟨#[]⟩,.int .i64 1,.int .i64 1,.string ⟨#[]⟩,.slice none 0 0,.slice none 0 0,.int .i64 1,.string (vNm y4),.int .i64 0,.int .i64 0,.string ⟨#[]⟩,.slice none 0 0,.slice none 0 0] 64)) (v:=.slice (some ⟨W.heap.size,0,none⟩) 2 2) (by simp [go_sem,h75,h79]) ⟨(Chg.refl _ _).alloc _,_,rfl,Blk.new _ _ _,hN.size⟩
   ·have h1:A0.tmps[1]?.getD undef=.pointer (some ⟨w.heap.size,0,none⟩):=hk 1
    exact .same (by simp [go_sem,h1]) rfl
   ·have h81:A0.tmps[81]?.getD undef=.pointer (some ⟨w.heap.size,2,none⟩):=hin 22 81
    exact .same (by simp [go_sem,h81]) rfl
   ·have h82:A0.tmps[82]?.getD undef=.pointer (some ⟨w.heap.size,5,none⟩):=hin 23 82
    have hc:W.cell? ⟨w.heap.size,5,none⟩=some (.int .i64 y5):=(DB.out.chg hN id).cell 5
    exact .same (by simp [go_sem,h82,hc]) rfl
   ·have h83:A0.tmps[83]?.getD undef=.int .i64 y5:=hin 24 83
    exact .same (by simp [go_sem,h83,kw]) rfl
   ·have h84:A0.tmps[84]?.getD undef=.int .i64 (y5.tdiv 2):=hin 25 84
    refine .enter (f:=64) (args:=#[.int .i64 (y5.tdiv 2),.int .i64 2]) (v:=.int .i64 q) ?_ ((HPq.out W).mono ?_)
    ·simp [go_sem,h84,eg25]
    ·rintro e w' ⟨rfl,rfl⟩
     exact ⟨rfl,Chg.refl _ _,rfl⟩
   ·have h80:=hin 21 80
    have h85:A0.tmps[85]?.getD undef=.int .i64 q:=hin 26 85
    obtain ⟨b,e,hb,_⟩:=h80
    exact .same (v:=.pointer (some ⟨b,q * 7,none⟩)) (by simp [go_sem,e,h85,kq0,kq1,hq2]) ⟨b,rfl,hb⟩
   ·have h86:=hin 27 86
    obtain ⟨b,e,hb⟩:=h86
    exact .same (vu 86 _ rfl xy ⟨b,q * 7,none⟩ [x0,x1,x2,x3,x4,x5,x6] e rfl (Hxc.out W b hb)) rfl
   ·have h74:A0.tmps[74]?.getD undef=.agg #[.int .i64 1,.string (vNm y3),.int .i64 0,.int .i64 0,.string ⟨#[]⟩,.slice none 0 0,.slice none 0 0]:=hin 15 74
    have h87:A0.tmps[87]?.getD undef=.agg #[x0,x1,x2,x3,x4,x5,x6]:=hin 28 87
    exact .value (W':=W.alloc (.cells #[.int .i64 1,.string (vNm y3),.int .i64 0,.int .i64 0,.string ⟨#[]⟩,.slice none 0 0,.slice none 0 0,x0,x1,x2,x3,x4,x5,x6] 64)) (v:=.slice (some ⟨W.heap.size,0,none⟩) 2 2) (by simp [go_sem,h74,h87]) ⟨(Chg.refl _ _).alloc _,_,rfl,Blk.new _ _ _,hN.size⟩
   ·have h70:A0.tmps[70]?.getD undef=.string (opS mb):=hin 11 70
    have h88:=hin 29 88
    obtain ⟨b,e,hb⟩:=h88
    exact .same (v:=.agg #[.int .i64 4,.string (opS mb),.int .i64 0,.int .i64 0,.string ⟨#[]⟩,.slice none 0 0,.slice (some ⟨b,0,none⟩) 2 2]) (by simp [go_sem,e,h70]) ⟨b,rfl,hb⟩
   ·have h89:=hin 30 89
    obtain ⟨b,e,hb,hl⟩:=h89
    have hN1:New W (W.alloc (.cells #[.int .i64 4,.string (opS mb),.int .i64 0,.int .i64 0,.string ⟨#[]⟩,.slice none 0 0,.slice (some ⟨b,0,none⟩) 2 2] 64)):=(Chg.refl _ _).alloc _
    exact .value (W':=W.alloc (.cells #[.int .i64 4,.string (opS mb),.int .i64 0,.int .i64 0,.string ⟨#[]⟩,.slice none 0 0,.slice (some ⟨b,0,none⟩) 2 2] 64)) (v:=.slice (some ⟨W.heap.size,0,none⟩) 1 1) (by simp [go_sem,e]) ⟨hN1,b,_,rfl,hb.chg hN1 id,hl,Blk.new _ _ _,hN.size⟩
   ·have h63:A0.tmps[63]?.getD undef=.string (vNm y2):=hin 4 63
    have h90:=hin 31 90
    obtain ⟨b,d,e,hb⟩:=h90
    exact .same (v:=.agg #[.int .i64 4,.string (vNm y2),.slice (some ⟨d,0,none⟩) 1 1]) (by simp [go_sem,e,h63]) ⟨b,d,rfl,hb⟩
  have hlq0:l.length=33:=hl
  obtain ⟨x59,lq1,rfl,hlq1⟩:=vw hlq0
  obtain ⟨x60,lq2,rfl,hlq2⟩:=vw hlq1
  obtain ⟨x61,lq3,rfl,hlq3⟩:=vw hlq2
  obtain ⟨x62,lq4,rfl,hlq4⟩:=vw hlq3
  obtain ⟨x63,lq5,rfl,hlq5⟩:=vw hlq4
  obtain ⟨x64,lq6,rfl,hlq6⟩:=vw hlq5
  obtain ⟨x65,lq7,rfl,hlq7⟩:=vw hlq6
  obtain ⟨x66,lq8,rfl,hlq8⟩:=vw hlq7
  obtain ⟨x67,lq9,rfl,hlq9⟩:=vw hlq8
  obtain ⟨x68,lq10,rfl,hlq10⟩:=vw hlq9
  obtain ⟨x69,lq11,rfl,hlq11⟩:=vw hlq10
  obtain ⟨x70,lq12,rfl,hlq12⟩:=vw hlq11
  obtain ⟨x71,lq13,rfl,hlq13⟩:=vw hlq12
  obtain ⟨x72,lq14,rfl,hlq14⟩:=vw hlq13
  obtain ⟨x73,lq15,rfl,hlq15⟩:=vw hlq14
  obtain ⟨x74,lq16,rfl,hlq16⟩:=vw hlq15
  obtain ⟨x75,lq17,rfl,hlq17⟩:=vw hlq16
  obtain ⟨x76,lq18,rfl,hlq18⟩:=vw hlq17
  obtain ⟨x77,lq19,rfl,hlq19⟩:=vw hlq18
  obtain ⟨x78,lq20,rfl,hlq20⟩:=vw hlq19
  obtain ⟨x79,lq21,rfl,hlq21⟩:=vw hlq20
  obtain ⟨x80,lq22,rfl,hlq22⟩:=vw hlq21
  obtain ⟨x81,lq23,rfl,hlq23⟩:=vw hlq22
  obtain ⟨x82,lq24,rfl,hlq24⟩:=vw hlq23
  obtain ⟨x83,lq25,rfl,hlq25⟩:=vw hlq24
  obtain ⟨x84,lq26,rfl,hlq26⟩:=vw hlq25
  obtain ⟨x85,lq27,rfl,hlq27⟩:=vw hlq26
  obtain ⟨x86,lq28,rfl,hlq28⟩:=vw hlq27
  obtain ⟨x87,lq29,rfl,hlq29⟩:=vw hlq28
  obtain ⟨x88,lq30,rfl,hlq30⟩:=vw hlq29
  obtain ⟨x89,lq31,rfl,hlq31⟩:=vw hlq30
  obtain ⟨x90,lq32,rfl,hlq32⟩:=vw hlq31
  obtain ⟨x91,lq33,rfl,hlq33⟩:=vw hlq32
  obtain rfl:=ze hlq33
  clear hlq0 hlq1 hlq2 hlq3 hlq4 hlq5 hlq6 hlq7 hlq8 hlq9 hlq10 hlq11 hlq12 hlq13 hlq14 hlq15 hlq16 hlq17 hlq18 hlq19 hlq20 hlq21 hlq22 hlq23 hlq24 hlq25 hlq26 hlq27 hlq28 hlq29 hlq30 hlq31 hlq32 hlq33
  obtain rfl:x59=.pointer (some ⟨w.heap.size,2,none⟩):=hΦ 0 (by decide)
  obtain rfl:x60=.pointer (some ⟨w.heap.size,2,none⟩):=hΦ 1 (by decide)
  obtain rfl:x61=.int .i64 y2:=hΦ 2 (by decide)
  obtain rfl:x62=.agg #[.int .i64 1,.string (vNm y2),.int .i64 0,.int .i64 0,.string ⟨#[]⟩,.slice none 0 0,.slice none 0 0]:=hΦ 3 (by decide)
  obtain rfl:x63=.string (vNm y2):=hΦ 4 (by decide)
  have hx64:=hΦ 5 (by decide)
  obtain rfl:x65=.pointer (some ⟨w.heap.size,2,none⟩):=hΦ 6 (by decide)
  obtain rfl:x66=.pointer (some ⟨w.heap.size,5,none⟩):=hΦ 7 (by decide)
  obtain rfl:x67=.int .i64 y5:=hΦ 8 (by decide)
  obtain rfl:x68=.int .i64 m:=hΦ 9 (by decide)
  have hx69:=hΦ 10 (by decide)
  obtain rfl:x70=.string (opS mb):=hΦ 11 (by decide)
  obtain rfl:x71=.pointer (some ⟨w.heap.size,2,none⟩):=hΦ 12 (by decide)
  obtain rfl:x72=.pointer (some ⟨w.heap.size,3,none⟩):=hΦ 13 (by decide)
  obtain rfl:x73=.int .i64 y3:=hΦ 14 (by decide)
  obtain rfl:x74=.agg #[.int .i64 1,.string (vNm y3),.int .i64 0,.int .i64 0,.string ⟨#[]⟩,.slice none 0 0,.slice none 0 0]:=hΦ 15 (by decide)
  obtain rfl:x75=.agg #[.int .i64 2,.string ⟨#[]⟩,.int .i64 1,.int .i64 1,.string ⟨#[]⟩,.slice none 0 0,.slice none 0 0]:=hΦ 16 (by decide)
  obtain rfl:x76=.pointer (some ⟨w.heap.size,2,none⟩):=hΦ 17 (by decide)
  obtain rfl:x77=.pointer (some ⟨w.heap.size,4,none⟩):=hΦ 18 (by decide)
  obtain rfl:x78=.int .i64 y4:=hΦ 19 (by decide)
  obtain rfl:x79=.agg #[.int .i64 1,.string (vNm y4),.int .i64 0,.int .i64 0,.string ⟨#[]⟩,.slice none 0 0,.slice none 0 0]:=hΦ 20 (by decide)
  have hx80:=hΦ 21 (by decide)
  obtain rfl:x81=.pointer (some ⟨w.heap.size,2,none⟩):=hΦ 22 (by decide)
  obtain rfl:x82=.pointer (some ⟨w.heap.size,5,none⟩):=hΦ 23 (by decide)
  obtain rfl:x83=.int .i64 y5:=hΦ 24 (by decide)
  obtain rfl:x84=.int .i64 (y5.tdiv 2):=hΦ 25 (by decide)
  obtain rfl:x85=.int .i64 q:=hΦ 26 (by decide)
  have hx86:=hΦ 27 (by decide)
  obtain rfl:x87=.agg #[x0,x1,x2,x3,x4,x5,x6]:=hΦ 28 (by decide)
  have hx88:=hΦ 29 (by decide)
  have hx89:=hΦ 30 (by decide)
  have hx90:=hΦ 31 (by decide)
  have hx91:=hΦ 32 (by decide)
  simp only [putsL,zq,zj,zz,List.zip,List.zipWith,Act.put,qk,qu,qy]
  clear hΦ hl
  obtain ⟨b,d,rfl,hbb,hbl,hdd,hdl⟩:=hx91
  obtain ⟨_,rfl,_⟩:=hx64
  obtain ⟨_,rfl,_⟩:=hx69
  obtain ⟨_,rfl,_⟩:=hx80
  obtain ⟨_,rfl,_⟩:=hx86
  obtain ⟨_,rfl,_⟩:=hx88
  obtain ⟨_,rfl,_⟩:=hx89
  obtain ⟨_,_,rfl,_⟩:=hx90
  have HBb:=qq hbb
  have HDd:=qq hdd
  have HL3:=qq (DL.out.chg hN id)
  have HN3:=qq (DN.out.trans hN qdr)
  have hlb:=DL.out.lt
  have hwl:=DN.out.size
  clear hbb hdd DL DB DN hN
  refine AtN.list 33 34 (by kernel_rfl) ?_
  change wpList _ _ _ [_] _ _
  go_wp2_with ((with_reducible refine xq rfl (.tmp 2) (.tmp 91) 53 rfl rfl gn (w.heap.size+1) 53 _ [.int .i64 4,.string (vNm y2),.slice (some ⟨d,0,none⟩) 1 1] ?_ ?_ HL3.out rfl rfl (ki _ _ _ _ _) ?_);exact rfl;exact rfl;intro w6 hc6 hb6 hs6;have HC6:=qq hc6;have HB6:=qq hb6;clear hc6 hb6 hs6)
  change AtN _ _ _ 34 _ _
  refine AtN.done rfl ?_
  go_wp2_with fail
  have hS:Stays w6 (fun k=>k < w.heap.size) (fun W=>LtAt W [.int .i64 4,.string (vNm y2),.slice (some ⟨d,0,none⟩) 1 1] (.assign (vNm y2) (.op mb (.var (vNm y3)) tx))):=fun W' hc=>by
   have hb':=(HBb.out.chg HC6.out (fun e=>by omega)).chg hc (fun e=>by omega)
   have hd':=(HDd.out.chg HC6.out (fun e=>by omega)).chg hc (fun e=>by omega)
   refine ⟨some ⟨d,0,none⟩,1,[[.int .i64 4,.string (opS mb),.int .i64 0,.int .i64 0,.string ⟨#[]⟩,.slice none 0 0,.slice (some ⟨b,0,none⟩) 2 2]],rfl,tms1 hd' ?_⟩
   obtain ⟨a,h1,h2⟩:=(tms2 (t1:=.var (vNm y3)) (t2:=tx) (c1:=[.int .i64 1,.string (vNm y3),.int .i64 0,.int .i64 0,.string ⟨#[]⟩,.slice none 0 0,.slice none 0 0]) (c2:=[x0,x1,x2,x3,x4,x5,x6]) hb' rfl (Hx.out W')).src (by simp)
   cases h1
   exact ⟨⟨b,0,none⟩,2,_,_,rfl,hb'.lt,h2,rfl,Hx.out W'⟩
  exact bodyPost_ret (v:=.agg #[.int .i64 4,.string (vNm y2),.slice (some ⟨d,0,none⟩) 1 1]) (xh gn rfl _ _ ⟨w.heap.size+1,0,none⟩ [.int .i64 4,.string (vNm y2),.slice (some ⟨d,0,none⟩) 1 1] rfl HB6.out.at_ rfl) rfl ⟨.assign (vNm y2) (.op mb (.var (vNm y3)) tx),some ⟨d,0,none⟩,1,rfl,⟨⟨y2,rfl⟩,⟨y3,rfl⟩,HTx.out⟩,hS,HN3.out.trans HC6.out (fun k hk e=>by omega)⟩
def next_len {rows:List Rw} {n:Nat} (hr:rows.length≤n) (hn:1≤n) (L:Lt) (s:Sta):(nextV rows L s).length≤n:=by
 have h2:∀ o:Option Sta,o.toList.length≤n:=fun o=>by cases o <;> simp <;> omega
 cases L with
 |atom b nm ts=>
  cases b
  ·show (atomsV rows nm ts s).length≤n
   unfold atomsV
   have h1:=jd (atomS ts s) (named rows nm)
   have h3:(named rows nm).length≤rows.length:=jc _ _
   omega
  ·exact h2 _
 |test j a b=>exact h2 _
 |assign nm t=>exact h2 _
def iy {α β:Type} {f:α→List β} {k:Nat}:∀ (l:List α),(∀ x∈l,(f x).length≤k)→(l.flatMap f).length≤l.length * k
 | [],_=>by simp
 |x::l,h=>by
  rw [ul,qg,zf,Nat.succ_mul]
  have h1:=h x (zb ..)
  have h2:=iy l (fun y hy=>h y (zh _ hy))
  omega
def si {rows:List Rw} {n:Nat} (hr:rows.length≤n) (hn:1≤n):∀ (Ls:List Lt) (s:Sta),(waysV rows Ls s).length≤n ^ Ls.length
 | [],s=>by simp [waysV]
 |L::Ls,s=>by
  show ((nextV rows L s).flatMap (waysV rows Ls)).length≤_
  have h1:=iy (f:=waysV rows Ls) (k:=n ^ Ls.length) (nextV rows L s) (fun x _=>si hr hn Ls x)
  have h2:=yy (n ^ Ls.length) (next_len hr hn L s)
  rw [zf,Nat.pow_succ,jf _ n]
  exact qb h1 h2
def qdk {v:Vl} (h:okW v):canon v:=h.1.canon
def ec {α:Type} {f:α→Option Vl}:∀ {l:List α} {us:List Vl},allO (l.map f)=some us→∀ u∈us,∃ x∈l,f x=some u
 | [],us,h,u,hu=>by
  have:us=[]:=by simpa [allO] using h.symm
  rw [this] at hu;cases hu
 |x::l,us,h,u,hu=>by
  cases hf:f x with
  |none=>simp [allO,hf] at h
  |some y=>
   cases hr:allO (l.map f) with
   |none=>simp [allO,hf,hr] at h
   |some ys=>
    have:us=y::ys:=by simpa [allO,hf,hr] using h.symm
    rw [this] at hu
    rcases qp.1 hu with rfl|hu
    ·exact ⟨x,zb ..,hf⟩
    ·obtain ⟨z,hz,h2⟩:=ec hr u hu
     exact ⟨z,zh _ hz,h2⟩
def head_ok {h:ByteArray} {ts:List Tm} (ht:∀ t∈ts,okTm t) {s:Sta} (hs:okEnv s.1) {r:Rw} (hr:headV h ts s=some r):∀ v∈r.args,okW v:=by
 unfold headV at hr
 cases ha:allO (ts.map (evalT s.1)) with
 |none=>rw [ha] at hr;cases hr
 |some us=>
  rw [ha] at hr
  cases hr
  intro v hv
  obtain ⟨t,ht',he⟩:=ec ha v hv
  exact pn hs (ht t ht') he
def fire_ok {h:ByteArray} {ts:List Tm} (ht:∀ t∈ts,okTm t) {Ls:List Lt} (hL:∀ L∈Ls,okLt L) {rows:List Rw} (hr:∀ r∈rows,∀ v∈r.args,okW v):∀ r∈fireV h ts Ls rows,∀ v∈r.args,okW v:=by
 intro r hrm
 obtain ⟨s,hs,he⟩:=zr.1 hrm
 exact head_ok ht (ai hr hL (s:=([],forever)) (fun p hp=>by cases hp) hs).1 he
def ok_canon {rows:List Rw} (hr:∀ r∈rows,∀ v∈r.args,okW v):∀ r∈rows,canonR r:=fun r h v hv=>qdk (hr r h v hv)
section
variable {P:Program} {ops:Array Oper} {Q:Exit→Act→World→Prop} {o:Oper} {rest:List Oper} {a:Act} {w:World}
def qch {u:Value} (hu:u.oneCell'=true):u.cells=#[u]:=by
 cases u <;> first|rfl| (simp [Value.oneCell'] at hu)
def og {e:TypeId} (hsz:(P.info? e).map (·.size)=some 1) (g off:Nat) (t:TypeId) (cur:Array Value) (u:Value) (hB:Blk w g t cur) (hfit:off < cur.size) (hu:u.oneCell'=true):
  (storeVar e ⟨g,off,none⟩ u).run P w=.ok () (w.setRow g (layA cur off [u])):=by
 have hst:=run_storeCells_at P g off t [u] 0 cur w hB (by simp;omega) (fun v hv=>by rw [qn.1 hv];exact hu)
 simp only [Nat.add_zero] at hst
 cases hq:P.info? e with
 |none=>simp [hq] at hsz
 |some i=>
  have hs:i.size=1:=by simpa [hq] using hsz
  simp [storeVar,sizeOf,typeInfo,hq,qch hu,hs,hst,layA,lay]
def kf (hg:o.guard=none) (x y:Operand) (e:TypeId) (ho:o.op=.store e x y) (hd:o.dst=none) (hsz:(P.info? e).map (·.size)=some 1) (g off:Nat) (t:TypeId) (cur:Array Value) (u:Value) (cs':Array Value) (hx:a.eval x=.pointer (some ⟨g,off,none⟩)) (hy:a.eval y=u)
  (hB:Blk w g t cur) (hfit:off < cur.size) (hu:u.oneCell'=true) (hcs:layA cur off [u]=cs')
  (h:∀ w2,Chg w w2 (fun j=>j=g)→Blk w2 g t cs'→w2.heap.size=w.heap.size→wpList P ops Q rest a w2):wpList P ops Q (o::rest) a w:=by
 refine wpList_plain hg fun K hK=>?_
 have hrun:=og (P:=P) hsz g off t cur u hB hfit hu
 unfold Oper.wp execOp
 simp only [ho,hx,hy,Instr.storeAt,Instr.sureAddr,Sem.run_bind,Sem.run_pure,Result.andThen_ok,hrun]
 refine hK _ _ ?_
 simp only [hd,Act.put]
 refine h _ ((Chg.refl w _).setRow _ _ (fun _=>rfl)) ?_ (by simp)
 rw [←hcs]
 exact hB.set _
end
structure LtL (w:World) (css:List (List Value)) (Ls:List Lt):Prop where
 len:css.length=Ls.length
 at_:∀ (j:Nat) (cs:List Value) (L:Lt),css[j]? =some cs→Ls[j]? =some L→LtAt w cs L
def LtL.snoc {w:World} {css:List (List Value)} {ts:List Lt} {cs:List Value} {t:Lt} (h:LtL w css ts) (ht:LtAt w cs t):LtL w (css++[cs]) (ts++[t]):=by
 refine ⟨by simp [h.len],fun j c u h1 h2=>?_⟩
 rcases Nat.lt_trichotomy j css.length with hj|hj|hj
 ·rw [qe hj] at h1
  rw [qe (by rw [←h.len];exact hj)] at h2
  exact h.at_ j c u h1 h2
 ·subst hj
  rw [qi (qh _)] at h1
  rw [h.len,qi (qh _)] at h2
  simp at h1 h2
  rw [←h1, ←h2]
  exact ht
 ·rw [jm (by simp;omega)] at h1
  cases h1
def LtL.nil (w:World):LtL w [] []:=⟨rfl,fun j cs t h1=>by simp at h1⟩
def LtL.grow {wr W W':World} {B:Nat} {v v':Value} {css:List (List Value)} {ts:List Lt} {cs:List Value} {t:Lt} (hB:B≤wr.heap.size) (hv:∀ k,v.ownBlock=some k→k < wr.heap.size)
  (h:Stays wr (fun k=>k < B∨v.ownBlock=some k) (fun W=>LtL W css ts)) (hW:New wr W) (ht:Stays W (fun k=>k < wr.heap.size) (fun W=>LtAt W cs t))
  (hc:Chg W W' (fun k=>v.ownBlock=some k)) (ho:∀ k,v'.ownBlock=some k→v.ownBlock=some k∨W.heap.size≤k):
  Stays W' (fun k=>k < B∨v'.ownBlock=some k) (fun W=>LtL W (css++[cs]) (ts++[t])):=by
 intro W2 h2
 have hWz:=hW.size
 have hc1:Chg W W2 (fun k=>k < B∨v.ownBlock=some k):=(hc.mono (fun k _ hk=>.inr hk)).trans h2 (fun k hk e=>e.imp id (fun e=>(ho k e).elim id (fun h=>absurd hk (Nat.not_lt.2 h))))
 have h1:LtL W2 css ts:=h W2 ((hW.mono (fun _ _ x=>x.elim)).trans hc1 (fun k _ e=>e))
 exact h1.snoc (ht W2 (hc1.mono (fun k _ e=>e.elim (fun e=>by omega) (fun e=>hv k e))))
def qdc {w:World} {B:Nat} {A:Option Addr} {n c:Nat} {css:List (List Value)} {ts:List Lt} (ho:Own w B 53 3 (.slice A n c) css) (h:Stays w (fun k=>k < B∨(Value.slice A n c).ownBlock=some k) (fun W=>LtL W css ts)):Stays w (fun k=>k < B) (fun W=>LtsAt W A css ts):=by
 intro W' hc
 have ho':=ho.chg hc (fun g hg e=>by have:=(ho.lt hg).1;omega)
 have ht:=h W' (hc.mono (fun k _ e=>.inl e))
 exact ⟨ht.len,fun hp=>(ho'.rows rfl).2 hp,ht.at_⟩
def elLit:ElT Tryz.prog 45 53 3 48 (Value.cells (.agg #[.int .i64 0,.string ⟨#[]⟩,.slice none 0 0])).toList:=
 ElT.mk' (by kernel_rfl) (by kernel_rfl) rfl (by omega) (by intro u hu;simp only [Value.cells,qp,qm,or_false] at hu;rcases hu with rfl|rfl|rfl <;> rfl)
def ints_one (a b c d e f:Int):∀ u∈[Value.int .i64 a,.int .i64 b,.int .i64 c,.int .i64 d,.int .i64 e,.int .i64 f],u.oneCell'=true:=by
 intro u hu
 simp only [qp,qm,or_false] at hu
 rcases hu with rfl|rfl|rfl|rfl|rfl|rfl <;> rfl
def lowN (s:ByteArray):Prop:=1≤s.size∧s.size≤4∧∀ (i:Nat) (b:UInt8),s.data[i]? =some b→97≤b.toNat∧b.toNat≤122
def low_two (b:UInt8) (h:97≤b.toNat∧b.toNat≤122):lowN (⟨#[114]⟩++⟨#[b]⟩):=by
 rw [show (⟨#[114]⟩++⟨#[b]⟩:ByteArray)=⟨#[114,b]⟩ from rfl]
 refine ⟨(by show 1≤2;omega),(by show 2≤4;omega),fun i c hc=>?_⟩
 match i,hc with
 |0,hc=>cases hc;exact ⟨(by show 97≤114;omega),(by show 114≤122;omega)⟩
 |1,hc=>cases hc;exact h
 |i+2,hc=>cases hc
def RulePost (w:World) (e:Ending) (w':World):Prop:=∃ (lab h agg:ByteArray) (at':Int) (ts:List Tm) (Ls:List Lt) (A Ab:Option Addr) (c cb:Nat) (css cssb:List (List Value)),
 e=.returned (.agg #[.string lab,.string h,.slice A ts.length c,.string agg,.int .i64 at',.slice Ab Ls.length cb])∧(lowN lab∧ts.length≤c)∧(∃ p:Nat,relCs[p]? =some (h,(ts.length:Int)))∧1≤ts.length∧ts.length≤3∧(∃ c,ts[0]? =some (.var (vNm c)))∧(∀ t∈ts,rawT t)∧
 1≤Ls.length∧Ls.length≤4∧(∀ L∈Ls,rawL L)∧Ls.length≤cb∧cb≤maxLen∧
 ((agg=⟨#[]⟩∧at'=0)∨((agg=⟨#[109,105,110]⟩∨agg=⟨#[109,97,120]⟩∨agg=⟨#[99,111,117,110,116]⟩)∧at'=1∧2≤ts.length∧∃ s,ts[1]? =some (Tm.var s)))∧
 Stays w' (fun k=>k < w.heap.size) (fun W=>TmsAt W A css ts∧LtsAt W Ab cssb Ls)∧New w w'
def TmAt.kind {w:World} {cs:List Value} {t:Tm} (h:TmAt w cs t):∃ k:Int,cs[0]? =some (.int .i64 k):=by
 cases t with
 |var s=>exact ⟨1,by rw [show cs=_ from h];rfl⟩
 |val v=>exact ⟨2,by rw [show cs=_ from h];rfl⟩
 |op m a b=>obtain ⟨_,_,_,_,h,_⟩:=h;exact ⟨4,by rw [h];rfl⟩
def TmAt.var1 {w:World} {cs:List Value} {t:Tm} (h:TmAt w cs t) (h0:cs[0]? =some (.int .i64 1)):∃ s,t=.var s:=by
 cases t with
 |var s=>exact ⟨s,rfl⟩
 |val v=>rw [show cs=_ from h] at h0;cases h0
 |op m a b=>obtain ⟨ad,c,ca,cb,h1,_⟩:=h;rw [h1] at h0;cases h0
def rule06 (w:World) (v:Value) (n:Nat) (X:Nat→Int) (hx:IntsAt w v 6 n X) (k:Int) (hk:B64 k):
  Calls Tryz.prog 36 #[v,.int .i64 k] w (RulePost w):=by
 obtain ⟨⟨A,c,rfl,hnc,hcm,hat⟩,hbd⟩:=hx
 have hm:=hcm
 unfold maxLen at hm
 have hrows:∀ i,i < n→∃ a,A=some a∧a.block < w.heap.size∧At w (a.add (i * 6)) [.int .i64 (X (i * 6)),.int .i64 (X (i * 6+1)),.int .i64 (X (i * 6+2)),.int .i64 (X (i * 6+3)),.int .i64 (X (i * 6+4)),.int .i64 (X (i * 6+5))]:=fun i hi=>by
  obtain ⟨a,ha,hc⟩:=hat (by omega)
  have hc':∀ j,j < 6→w.cell? (a.add (i * 6+j))=some (.int .i64 (X (i * 6+j))):=fun j hj=>hc (i * 6+j) (by omega)
  refine ⟨a,ha,?_,fun j u hj=>?_⟩
  ·have:=World.block_lt_of_cell? w _ (hc 0 (by omega))
   rwa [xr] at this
  ·rw [add_add]
   match j,hj with
   |0,hj=>cases hj;exact hc' 0 (by omega)
   |1,hj=>cases hj;exact hc' 1 (by omega)
   |2,hj=>cases hj;exact hc' 2 (by omega)
   |3,hj=>cases hj;exact hc' 3 (by omega)
   |4,hj=>cases hj;exact hc' 4 (by omega)
   |5,hj=>cases hj;exact hc' 5 (by omega)
   |j+6,hj=>simp at hj
 have hbd':∀ q,B64 (X q):=hbd
 have HRows:=qq hrows
 have Hbd:=qq hbd'
 clear hat hbd hrows hbd'
 obtain ⟨q,hq⟩:∃ p:Nat,pk k 26=p:=⟨(pk k 26).toNat,by have:=km k 26 (by omega);omega⟩
 have hq26:q < 26:=by have:=kn k 26 (by omega);omega
 have hpick:=fun W=>gm W k 26 hk.1 hk.2 (by omega) (by omega)
 rw [hq] at hpick
 have HP:=qq hpick
 clear hpick hq
 have ku:IntKind.u8.wrap (97+(q:Int))=97+q:=by
  rw [IntKind.wrap_u8']
  omega
 obtain ⟨bt,hbt⟩:∃ b:UInt8,(b.toNat:Int)=97+q:=⟨UInt8.ofNat (97+q),by simp [UInt8.toNat_ofNat'];omega⟩
 obtain ⟨lab,hlab⟩:∃ lab:ByteArray,(⟨#[114]⟩++⟨#[bt]⟩:ByteArray)=lab:=⟨_,rfl⟩
 have HLab:=qq (show lowN lab by rw [←hlab];exact low_two bt ⟨by omega,by omega⟩)
 have hcv:(convert 107 9 (.slice (some ⟨w.heap.size+1,0,none⟩) 1 1)).run Tryz.prog ((w.alloc (.cells #[.string ⟨#[]⟩,.string ⟨#[]⟩,.slice none 0 0,.string ⟨#[]⟩,.int .i64 0,.slice none 0 0] 47)).alloc (.cells #[.int .u8 (97+q)] 5))=.ok (.string ⟨#[bt]⟩) ((w.alloc (.cells #[.string ⟨#[]⟩,.string ⟨#[]⟩,.slice none 0 0,.string ⟨#[]⟩,.int .i64 0,.slice none 0 0] 47)).alloc (.cells #[.int .u8 (97+q)] 5)):=by
  have hb:=Blk.new (w.alloc (.cells #[.string ⟨#[]⟩,.string ⟨#[]⟩,.slice none 0 0,.string ⟨#[]⟩,.int .i64 0,.slice none 0 0] 47)) 5 #[.int .u8 (97+(q:Int))]
  rw [World.size_alloc] at hb
  refine run_convert_bytes_back (P:=Tryz.prog) _ 107 9 5 ⟨w.heap.size+1,0,none⟩ 1 [bt] (by kernel_rfl) (by kernel_rfl) (by kernel_rfl) (fun j hj=>?_)
  obtain rfl:j=0:=by simpa using hj
  rw [Addr.add_lit]
  have:=hb.cell 0
  rw [this]
  show some (Value.int .u8 _)=some (Value.int .u8 _)
  rw [show (([bt]:List UInt8)[0]'hj)=bt from rfl,hbt]
 obtain ⟨w3,hw3⟩:=qdq ((((w.alloc (.cells #[.string ⟨#[]⟩,.string ⟨#[]⟩,.slice none 0 0,.string ⟨#[]⟩,.int .i64 0,.slice none 0 0] 47)).alloc (.cells #[.int .u8 (97+q)] 5)).alloc (.cells #[.string lab,.string ⟨#[]⟩,.slice none 0 0,.string ⟨#[]⟩,.int .i64 0,.slice none 0 0] 47)).alloc (.cells #[.int .i64 0,.int .i64 0,.int .i64 0,.int .i64 0,.int .i64 0,.int .i64 0] 75))
 have hN3:New w w3:=by rw [hw3];exact ((((Chg.refl _ _).alloc _).alloc _).alloc _).alloc _
 have hB4:Blk w3 w.heap.size 47 #[.string ⟨#[]⟩,.string ⟨#[]⟩,.slice none 0 0,.string ⟨#[]⟩,.int .i64 0,.slice none 0 0]:=by rw [hw3];exact (((Blk.new w _ _).alloc _).alloc _).alloc _
 obtain ⟨b5,hb5⟩:=qdp (w.heap.size+1+1)
 obtain ⟨b6,hb6⟩:=qdp (b5+1)
 have hB5:Blk w3 b5 47 #[.string lab,.string ⟨#[]⟩,.slice none 0 0,.string ⟨#[]⟩,.int .i64 0,.slice none 0 0]:=by
  have:=Blk.new ((w.alloc (.cells #[.string ⟨#[]⟩,.string ⟨#[]⟩,.slice none 0 0,.string ⟨#[]⟩,.int .i64 0,.slice none 0 0] 47)).alloc (.cells #[.int .u8 (97+(q:Int))] 5)) 47 #[.string lab,.string ⟨#[]⟩,.slice none 0 0,.string ⟨#[]⟩,.int .i64 0,.slice none 0 0]
  rw [World.size_alloc,World.size_alloc,hb5] at this
  rw [hw3]
  exact this.alloc _
 have hB6:Blk w3 b6 75 #[.int .i64 0,.int .i64 0,.int .i64 0,.int .i64 0,.int .i64 0,.int .i64 0]:=by
  have:=Blk.new (((w.alloc (.cells #[.string ⟨#[]⟩,.string ⟨#[]⟩,.slice none 0 0,.string ⟨#[]⟩,.int .i64 0,.slice none 0 0] 47)).alloc (.cells #[.int .u8 (97+(q:Int))] 5)).alloc (.cells #[.string lab,.string ⟨#[]⟩,.slice none 0 0,.string ⟨#[]⟩,.int .i64 0,.slice none 0 0] 47)) 75 #[.int .i64 0,.int .i64 0,.int .i64 0,.int .i64 0,.int .i64 0,.int .i64 0]
  rw [World.size_alloc,World.size_alloc,World.size_alloc,hb5,hb6] at this
  rw [hw3]
  exact this
 have h56:w.heap.size < b5∧b5 < b6:=by omega
 have HN3:=qq hN3
 have HB4:=qq hB4
 have HB5:=qq hB5
 have HB6:=qq hB6
 have HW3:=qq hw3
 have H56:=qq h56
 have Hb5:=qq hb5
 have Hb6:=qq hb6
 have sz9:(Tryz.prog.info? 9).map (·.size)=some 1:=by kernel_rfl
 have sz34:(Tryz.prog.info? 44).map (·.size)=some 1:=by kernel_rfl
 have sz35:(Tryz.prog.info? 45).map (·.size)=some 1:=by kernel_rfl
 have sz3:(Tryz.prog.info? 3).map (·.size)=some 1:=by kernel_rfl
 clear hbt hN3 hB4 hB5 hB6 hw3 h56 hb5 hb6
 go_enter Tryz.func36,Tryz.ntmps36
 go_upto_region 3 with (go_at_call 64;refine (HP.out _).mono ?_;rintro e w' ⟨rfl,rfl⟩;clear HP)
 rw [←HW3.out,Hb5.out,Hb6.out]
 clear hcv HW3 Hb5 Hb6
 go_upto_if 18 with fail
 go_cut [] from 16 to 22 (fun wx=>∃ z0 z1 z2 z3 z4 z5:Int,(B64 z0∧B64 z1∧B64 z2∧B64 z3∧B64 z4∧B64 z5)∧Chg w3 wx (fun k=>k=b6)∧Blk wx b6 75 #[.int .i64 z0,.int .i64 z1,.int .i64 z2,.int .i64 z3,.int .i64 z4,.int .i64 z5])
 case first=>
  by_cases h0:n=0
  ·have hd:decide ((0:Int) < (n:Int))=false:=by simp;omega
   go_wp2_with fail
   go_meet
   exact ⟨0,0,0,0,0,0,by unfold B64;omega,Chg.refl _ _,HB6.out⟩
  ·have hd:decide ((0:Int) < (n:Int))=true:=by simp;omega
   have hd':decide (0 < n)=true:=by simp;omega
   obtain ⟨a,rfl,hab,hrow⟩:=HRows.out 0 (by omega)
   have Hrow:=qq (hrow.chg HN3.out id)
   clear hrow
   have p0:0 < n:=by omega
   go_wp2_with first
    | ((with_reducible refine vq rfl (.tmp 20) 75 rfl wa (a.add (0 * 6)) [.int .i64 (X (0 * 6)),.int .i64 (X (0 * 6+1)),.int .i64 (X (0 * 6+2)),.int .i64 (X (0 * 6+3)),.int .i64 (X (0 * 6+4)),.int .i64 (X (0 * 6+5))] ?_ rfl Hrow.out ?_);exact rfl)
    | ((with_reducible refine xq rfl (.tmp 6) (.tmp 21) 75 rfl rfl wa b6 75 _ [.int .i64 (X (0 * 6)),.int .i64 (X (0 * 6+1)),.int .i64 (X (0 * 6+2)),.int .i64 (X (0 * 6+3)),.int .i64 (X (0 * 6+4)),.int .i64 (X (0 * 6+5))] ?_ ?_ HB6.out rfl rfl (ints_one _ _ _ _ _ _) ?_);exact rfl;exact rfl;intro w6 hc6 hb6 hs6;have HC6:=qq hc6;have HX6:=qq hb6;clear hc6 hb6 hs6)
   go_meet
   exact ⟨_,_,_,_,_,_,⟨Hbd.out _,Hbd.out _,Hbd.out _,Hbd.out _,Hbd.out _,Hbd.out _⟩,HC6.out,HX6.out⟩
 case rest=>
  obtain ⟨z0,z1,z2,z3,z4,z5,hz,hcc,hX6⟩:=hcut
  have HZ:=qq hz
  have h6l:=HB6.out.lt
  have H56':=H56.out
  have HB4c:=qq (HB4.out.chg hcc (fun e=>by omega))
  have HB5c:=qq (HB5.out.chg hcc (fun e=>by omega))
  have HX6:=qq hX6
  have hl3:=HN3.out.size
  have HNc:=qq (HN3.out.trans hcc (fun k hk e=>by omega))
  clear hz hcc hX6 HN3 HB4 HB5 HB6 h6l hl3
  obtain ⟨wk,hwk⟩:=qdq (wc)
  rw [←hwk] at HB4c HB5c HX6 HNc⊢
  clear hwk
  obtain ⟨B,hB⟩:=qdp (wk.heap.size)
  have h4B:w.heap.size < B:=by rw [←hB];exact HB4c.out.lt
  have h5B:b5 < B:=by rw [←hB];exact HB5c.out.lt
  have h6B:b6 < B:=by rw [←hB];exact HX6.out.lt
  have HBe:=qq hB
  clear hB
  have HXl:=qq HX6.out.at_
  go_upto_region 6 with first
   | ((with_reducible refine vq rfl (.tmp 6) 75 rfl wa ⟨b6,0,none⟩ [.int .i64 z0,.int .i64 z1,.int .i64 z2,.int .i64 z3,.int .i64 z4,.int .i64 z5] ?_ rfl HXl.out ?_);exact rfl)
   | (go_at_call 65;refine (atom06 _ z0 z1 z2 z3 z4 z5 HZ.out.2.1 HZ.out.2.2.1 HZ.out.2.2.2.1 HZ.out.2.2.2.2.1).mono ?_;rintro e w7 ⟨nm,v4,ts,css,rfl,hrel,hl1,hl3,hfst,hraw,hst,hown,hN7⟩;obtain ⟨Ah,ch,rfl,hc1,hc2⟩:=hown.form;have hcl:=hst.now.len;rw [hcl] at hown hc1⊢;have Hch:=qq hc1;have HRel:=qq hrel;have HFst:=qq hfst;have HRaw:=qq hraw;have HTs:=qq (bf hown hst);have HOh:=qq hown;have HN7:=qq hN7;have Hl1:=qq hl1;have Hl3:=qq hl3;have HB57:=qq (HB5c.out.chg hN7 id);clear hrel hfst hraw hst hown hN7 hl1 hl3 hc1 hc2 hcl)
   | ((with_reducible refine kf rfl (.tmp 27) (.tmp 25) 9 rfl rfl sz9 b5 1 47 _ (.string nm) #[.string lab,.string nm,.slice none 0 0,.string ⟨#[]⟩,.int .i64 0,.slice none 0 0] ?_ ?_ HB57.out ?_ ?_ ?_ ?_);exact rfl;exact rfl;exact (by decide:1 < 6);exact rfl;exact rfl;intro w8 hc8 hb8 hs8;have HC8:=qq hc8;have HB58:=qq hb8;clear hc8 hb8 hs8)
   | ((with_reducible refine kf rfl (.tmp 28) (.tmp 26) 44 rfl rfl sz34 b5 2 47 _ (.slice Ah ts.length ch) #[.string lab,.string nm,.slice Ah ts.length ch,.string ⟨#[]⟩,.int .i64 0,.slice none 0 0] ?_ ?_ HB58.out ?_ ?_ ?_ ?_);exact rfl;exact rfl;exact (by decide:2 < 6);exact rfl;exact rfl;intro w9 hc9 hb9 hs9;have HC9:=qq (HC8.out.trans hc9 (fun k _ e=>e));have HB59:=qq hb9;clear hc9 hb9 hs9)
  have hB7:=HBe.out
  have hs7:=HN7.out.size
  have HT9:=qq (HTs.out.chg HC9.out (fun k _ e=>by rw [hB7];omega) (S1:=fun k=>k < B) (fun k _ e=>by rw [hB7];exact e))
  have HB49:=qq ((HB4c.out.chg HN7.out id).chg HC9.out (fun e=>by have:=H56.out;omega))
  have HX69:=qq ((HX6.out.chg HN7.out id).chg HC9.out (fun e=>by have:=H56.out;omega))
  have HN9:=qq ((HNc.out.trans HN7.out qdr).trans HC9.out (fun k hk e=>by have:=H56.out;omega))
  have hB9:B≤w9.heap.size:=by rw [←hB7];exact qb hs7 HC9.out.size
  clear HTs HOh HN7 HB57 HB58 HC8 HC9 HB4c HB5c HX6 HNc HXl hB7 hs7 HBe
  go_wp2_with fail
  go_loopw [7] (fun u7 wr=>∃ (i:Nat) (Ls:List Lt) (cssb:List (List Value)) (vb:Value),1≤i∧i≤5∧u7=.int .i64 i∧Ls.length+1=i∧(∀ L∈Ls,rawL L)∧Blk wr b5 47 #[.string lab,.string nm,.slice Ah ts.length ch,.string ⟨#[]⟩,.int .i64 0,vb]∧Blk wr b6 75 #[.int .i64 z0,.int .i64 z1,.int .i64 z2,.int .i64 z3,.int .i64 z4,.int .i64 z5]∧Blk wr w.heap.size 47 #[.string ⟨#[]⟩,.string ⟨#[]⟩,.slice none 0 0,.string ⟨#[]⟩,.int .i64 0,.slice none 0 0]∧Own wr B 53 3 vb cssb∧Stays wr (fun k=>k < B∨vb.ownBlock=some k) (fun W=>LtL W cssb Ls)∧Stays wr (fun k=>k < B∨vb.ownBlock=some k) (fun W=>TmsAt W Ah css ts)∧B≤wr.heap.size∧New w wr) (fun u _=>5 - (intOf u).toNat)
  case atStart=>exact ⟨1,[],[],.slice none 0 0,qh _,by omega,rfl,rfl,fun L hL=>(by cases hL),HB59.out,HX69.out,HB49.out,Own.nil _ _ _ _,fun W' _=>LtL.nil W',HT9.out.chg (Chg.refl _ (fun _=>False)) (fun _ _ x=>x.elim) (fun k _ e=>e.elim id (fun h=>by cases h)),hB9,HN9.out⟩
  case round=>
   obtain ⟨i,Ls,cssb,vb,hi1,hi5,rfl,hLl,hrL,hb5,hb6,hb4,hob,hlt,htt,hBr,hN⟩:=hrel
   obtain ⟨Ab,cb,rfl,hcb1,hcb2⟩:=hob.form
   have hcl:cssb.length=Ls.length:=hlt.now.len
   obtain ⟨ib,hib⟩:=qdp (Ls.length)
   rw [hcl,hib] at hob hb5 hlt htt hcb1
   have e5:=hb5.cell 5
   simp only [qx,qj,qw] at e5
   have HLl:=qq hLl
   have HrL:=qq hrL
   have H5:=qq hb5
   have H6:=qq hb6
   have H4:=qq hb4
   have HOb:=qq hob
   have HLt:=qq hlt
   have HTt:=qq htt
   have HNr:=qq hN
   have Hib:=qq hib
   have Hcl:=qq hcl
   have HBr:=qq hBr
   clear hLl hrL hb5 hb6 hb4 hob hlt htt hN hib hcl hBr
   have hil:ib+1=i:=by rw [←Hib.out];exact HLl.out
   have Hil:=qq hil
   clear hil
   by_cases hgo:i < n∧i < 5
   ·obtain ⟨hin,hi5'⟩:=hgo
    have l1:decide ((i:Int) < (n:Int))=true:=by simpa using hin
    have l1':decide (i < n)=true:=by simpa using hin
    have l2:decide ((i:Int) < 5)=true:=by simp;omega
    obtain ⟨a,rfl,hab,hrow⟩:=HRows.out i hin
    have hneB:∀ g,(Value.slice Ab ib cb).ownBlock=some g→B≤g:=fun g hg=>(HOb.out.lt hg).1
    have hne5:∀ g,(Value.slice Ab ib cb).ownBlock=some g→g≠b5:=fun g hg e=>by have:=hneB g hg;omega
    have hneA:∀ g,(Value.slice Ab ib cb).ownBlock=some g→g≠(a.add (i * 6)).block:=fun g hg e=>by
     rw [xr] at e
     have:=hneB g hg;omega
    have HneB:=qq hneB
    have Hne5:=qq hne5
    have HneA:=qq hneA
    have q0:(0:Int)≤(i:Int):=by omega
    have q1:(i:Int) < (n:Int):=by omega
    have eg27:∀ (args:Array Value) (w:World),(callFunc 66 args).run Tryz.prog w=.ok (.enter 66 args) w:=enters_of Tryz.func66 (by kernel_rfl) rfl
    go_upto_region 9 with fail
    refine vj (by kernel_rfl) ?_
    have hnd:New wr wr.drew:=(Chg.refl _ _).drew
    have DRow:=qq ((hrow.chg HNr.out id).chg hnd id)
    have D5:=qq (H5.out.chg hnd id)
    have D6:=qq (H6.out.chg hnd id)
    have D4:=qq (H4.out.chg hnd id)
    have DOb:=qq (HOb.out.chg hnd qdr)
    have DLt:=qq (HLt.out.chg hnd (fun _ _ x=>x.elim) (fun k _ e=>e))
    have DTt:=qq (HTt.out.chg hnd (fun _ _ x=>x.elim) (fun k _ e=>e))
    have DN:=qq (HNr.out.trans hnd qdr)
    have DBr:=qq (qb HBr.out hnd.size)
    clear hnd hrow e5 H5 H6 H4 HOb HLt HTt HNr HBr hneB hne5 hneA
    generalize wr.drew=wd at DRow D5 D6 D4 DOb DLt DTt DN DBr⊢
    have hst:∀ jj uu w1 w2,New w1 w2→(fun
      |0=>fun v _=>v=.pointer (some ⟨b5,5,none⟩)
      |1=>fun v _=>v=.slice Ab ib cb
      |2=>fun v _=>v=.slice (some a) n c
      |3=>fun v _=>v=.int .i64 i
      |4=>fun v _=>v=.pointer (some (a.add (i * 6)))
      |5=>fun v _=>v=.agg #[.int .i64 (X (i * 6)),.int .i64 (X (i * 6+1)),.int .i64 (X (i * 6+2)),.int .i64 (X (i * 6+3)),.int .i64 (X (i * 6+4)),.int .i64 (X (i * 6+5))]
      |6=>fun v W=>∃ (L:Lt) (A':Option Addr) (c':Nat),v=.agg #[.int .i64 L.kind,.string L.name,.slice A' L.args.length c']∧rawL L∧Stays W (fun k=>k < wd.heap.size) (fun W=>LtAt W [.int .i64 L.kind,.string L.name,.slice A' L.args.length c'] L)
      |7=>fun v W=>∃ (rb:Nat) (L:Lt) (A':Option Addr) (c':Nat),v=.slice (some ⟨rb,0,none⟩) 1 1∧Blk W rb 53 #[.int .i64 L.kind,.string L.name,.slice A' L.args.length c']∧rawL L∧Stays W (fun k=>k < wd.heap.size) (fun W=>LtAt W [.int .i64 L.kind,.string L.name,.slice A' L.args.length c'] L)
      |8=>fun v W=>∃ (L:Lt) (A':Option Addr) (c':Nat),Own W B 53 3 v (cssb++[[.int .i64 L.kind,.string L.name,.slice A' L.args.length c']])∧(∀ k,v.ownBlock=some k→(Value.slice Ab ib cb).ownBlock=some k∨wd.heap.size≤k)∧rawL L∧Stays W (fun k=>k < B∨v.ownBlock=some k) (fun W=>LtL W (cssb++[[.int .i64 L.kind,.string L.name,.slice A' L.args.length c']]) (Ls++[L]))
      |9=>fun v _=>v=.pointer (some ⟨b5,5,none⟩)
      |_=>fun _ _=>True:Nat→Value→World→Prop) jj uu w1→(fun
      |0=>fun v _=>v=.pointer (some ⟨b5,5,none⟩)
      |1=>fun v _=>v=.slice Ab ib cb
      |2=>fun v _=>v=.slice (some a) n c
      |3=>fun v _=>v=.int .i64 i
      |4=>fun v _=>v=.pointer (some (a.add (i * 6)))
      |5=>fun v _=>v=.agg #[.int .i64 (X (i * 6)),.int .i64 (X (i * 6+1)),.int .i64 (X (i * 6+2)),.int .i64 (X (i * 6+3)),.int .i64 (X (i * 6+4)),.int .i64 (X (i * 6+5))]
      |6=>fun v W=>∃ (L:Lt) (A':Option Addr) (c':Nat),v=.agg #[.int .i64 L.kind,.string L.name,.slice A' L.args.length c']∧rawL L∧Stays W (fun k=>k < wd.heap.size) (fun W=>LtAt W [.int .i64 L.kind,.string L.name,.slice A' L.args.length c'] L)
      |7=>fun v W=>∃ (rb:Nat) (L:Lt) (A':Option Addr) (c':Nat),v=.slice (some ⟨rb,0,none⟩) 1 1∧Blk W rb 53 #[.int .i64 L.kind,.string L.name,.slice A' L.args.length c']∧rawL L∧Stays W (fun k=>k < wd.heap.size) (fun W=>LtAt W [.int .i64 L.kind,.string L.name,.slice A' L.args.length c'] L)
      |8=>fun v W=>∃ (L:Lt) (A':Option Addr) (c':Nat),Own W B 53 3 v (cssb++[[.int .i64 L.kind,.string L.name,.slice A' L.args.length c']])∧(∀ k,v.ownBlock=some k→(Value.slice Ab ib cb).ownBlock=some k∨wd.heap.size≤k)∧rawL L∧Stays W (fun k=>k < B∨v.ownBlock=some k) (fun W=>LtL W (cssb++[[.int .i64 L.kind,.string L.name,.slice A' L.args.length c']]) (Ls++[L]))
      |9=>fun v _=>v=.pointer (some ⟨b5,5,none⟩)
      |_=>fun _ _=>True:Nat→Value→World→Prop) jj uu w2:=by
     intro j uu w1 w2 hc h
     match j with
     |6=>exact h.imp fun L h=>h.imp fun A' h=>h.imp fun c' h=>⟨h.1,h.2.1,h.2.2.chg hc (fun _ _ x=>x.elim) (fun k _ e=>e)⟩
     |7=>exact h.imp fun rb h=>h.imp fun L h=>h.imp fun A' h=>h.imp fun c' h=>⟨h.1,h.2.1.chg hc id,h.2.2.1,h.2.2.2.chg hc (fun _ _ x=>x.elim) (fun k _ e=>e)⟩
     |8=>exact h.imp fun L h=>h.imp fun A' h=>h.imp fun c' h=>⟨h.1.chg hc qdr,h.2.1,h.2.2.1,h.2.2.2.chg hc (fun _ _ x=>x.elim) (fun k _ e=>e)⟩
     |0|1|2|3|4|5|9=>exact h
     |_+10=>trivial
    refine AtN.segX2 0 10 8 [39,40,41,42,43,44,45,46,47,48] (fun k=>(Value.slice Ab ib cb).ownBlock=some k) (fun
      |6=>7
      |7=>8
      |_=>999) (fun
      |0=>fun v _=>v=.pointer (some ⟨b5,5,none⟩)
      |1=>fun v _=>v=.slice Ab ib cb
      |2=>fun v _=>v=.slice (some a) n c
      |3=>fun v _=>v=.int .i64 i
      |4=>fun v _=>v=.pointer (some (a.add (i * 6)))
      |5=>fun v _=>v=.agg #[.int .i64 (X (i * 6)),.int .i64 (X (i * 6+1)),.int .i64 (X (i * 6+2)),.int .i64 (X (i * 6+3)),.int .i64 (X (i * 6+4)),.int .i64 (X (i * 6+5))]
      |6=>fun v W=>∃ (L:Lt) (A':Option Addr) (c':Nat),v=.agg #[.int .i64 L.kind,.string L.name,.slice A' L.args.length c']∧rawL L∧Stays W (fun k=>k < wd.heap.size) (fun W=>LtAt W [.int .i64 L.kind,.string L.name,.slice A' L.args.length c'] L)
      |7=>fun v W=>∃ (rb:Nat) (L:Lt) (A':Option Addr) (c':Nat),v=.slice (some ⟨rb,0,none⟩) 1 1∧Blk W rb 53 #[.int .i64 L.kind,.string L.name,.slice A' L.args.length c']∧rawL L∧Stays W (fun k=>k < wd.heap.size) (fun W=>LtAt W [.int .i64 L.kind,.string L.name,.slice A' L.args.length c'] L)
      |8=>fun v W=>∃ (L:Lt) (A':Option Addr) (c':Nat),Own W B 53 3 v (cssb++[[.int .i64 L.kind,.string L.name,.slice A' L.args.length c']])∧(∀ k,v.ownBlock=some k→(Value.slice Ab ib cb).ownBlock=some k∨wd.heap.size≤k)∧rawL L∧Stays W (fun k=>k < B∨v.ownBlock=some k) (fun W=>LtL W (cssb++[[.int .i64 L.kind,.string L.name,.slice A' L.args.length c']]) (Ls++[L]))
      |9=>fun v _=>v=.pointer (some ⟨b5,5,none⟩)
      |_=>fun _ _=>True:Nat→Value→World→Prop) (by kernel_rfl) (by kernel_rfl) (by kernel_rfl) (by kernel_rfl) (fun i hn hi o ho A0 W b hJ hμ hin hk=>?_) (fun l W3 hJ hl hΦ=>?_)
    ·rcases (show i=0∨i=1∨i=2∨i=3∨i=4∨i=5∨i=6∨i=7∨i=8∨i=9 by omega) with rfl|rfl|rfl|rfl|rfl|rfl|rfl|rfl|rfl|rfl<;>cases ho
     ·have h5:A0.tmps[5]?.getD undef=.pointer (some ⟨b5,0,none⟩):=hk 5
      refine .newX (i:=0) hJ hst ?_
      exact .same (v:=.pointer (some ⟨b5,5,none⟩)) (by simp [go_sem,h5]) rfl
     ·have h39:A0.tmps[39]?.getD undef=.pointer (some ⟨b5,5,none⟩):=hin 0 39
      refine .newX (i:=1) hJ hst ?_
      have hc:W.cell? ⟨b5,5,none⟩=some (.slice Ab ib cb):=(D5.out.chg hJ.1 (fun h=>Hne5.out _ h rfl)).cell 5
      exact .same (v:=.slice Ab ib cb) (by simp [go_sem,h39,hc]) rfl
     ·refine .newX (i:=2) hJ hst ?_
      exact .same (uo 0 (.slice (some a) n c) rfl (hk 0)) rfl
     ·refine .newX (i:=3) hJ hst ?_
      exact .same (uo 7 (.int .i64 i) rfl (hk 7)) rfl
     ·have h41:A0.tmps[41]?.getD undef=.slice (some a) n c:=hin 2 41
      have h42:A0.tmps[42]?.getD undef=.int .i64 i:=hin 3 42
      refine .newX (i:=4) hJ hst ?_
      exact .same (v:=.pointer (some (a.add (i * 6)))) (by simp [go_sem,h41,h42,q0,q1,hin]) rfl
     ·have h43:A0.tmps[43]?.getD undef=.pointer (some (a.add (i * 6))):=hin 4 43
      refine .newX (i:=5) hJ hst ?_
      exact .same (vu 43 _ rfl wa (a.add (i * 6)) [.int .i64 (X (i * 6)),.int .i64 (X (i * 6+1)),.int .i64 (X (i * 6+2)),.int .i64 (X (i * 6+3)),.int .i64 (X (i * 6+4)),.int .i64 (X (i * 6+5))] h43 rfl (DRow.out.chg hJ.1 (fun h=>HneA.out _ h rfl))) rfl
     ·have h44:A0.tmps[44]?.getD undef=.agg #[.int .i64 (X (i * 6)),.int .i64 (X (i * 6+1)),.int .i64 (X (i * 6+2)),.int .i64 (X (i * 6+3)),.int .i64 (X (i * 6+4)),.int .i64 (X (i * 6+5))]:=hin 5 44
      refine .newX (i:=6) hJ hst ?_
      refine .call (f:=66) (args:=#[.agg #[.int .i64 (X (i * 6)),.int .i64 (X (i * 6+1)),.int .i64 (X (i * 6+2)),.int .i64 (X (i * 6+3)),.int .i64 (X (i * 6+4)),.int .i64 (X (i * 6+5))]]) (W':=W) ?_ ((lit06 W _ _ _ _ _ _ (Hbd.out _) (Hbd.out _) (Hbd.out _) (Hbd.out _) (Hbd.out _) (Hbd.out _)).mono ?_)
      ·simp [go_sem,h44,eg27]
      ·rintro e w' ⟨L,A',c',rfl,hL,hst,hc⟩
       have hsz:=hJ.1.size
       exact ⟨_,rfl,hc,L,A',c',rfl,hL,hst.chg (Chg.refl _ (fun _=>False)) (fun _ _ x=>x.elim) (fun k _ e=>zd e hsz)⟩
     ·have h45:=hin 6 45
      refine .newX (i:=7) hJ hst ?_
      obtain ⟨L,A',c',e,hL,hs⟩:=h45
      have hn1:New W (W.alloc (.cells #[.int .i64 L.kind,.string L.name,.slice A' L.args.length c'] 53)):=(Chg.refl _ _).alloc _
      exact .value (W':=W.alloc (.cells #[.int .i64 L.kind,.string L.name,.slice A' L.args.length c'] 53)) (v:=.slice (some ⟨W.heap.size,0,none⟩) 1 1) (by simp [go_sem,e]) ⟨hn1,_,L,A',c',rfl,Blk.new _ _ _,hL,hs.chg hn1 (fun _ _ x=>x.elim) (fun k _ e=>e)⟩
     ·have h40:A0.tmps[40]?.getD undef=.slice Ab ib cb:=hin 1 40
      have h46:=hin 7 46
      obtain ⟨rb,L,A',c',eo,hb,hL,hs⟩:=h46
      have hbf:b=false:=hμ rfl
      have hNn:New wd W:=hJ.2 hbf
      obtain ⟨v1,W',hrun,hown,hchg,hblk⟩:=elLit.appendS (DOb.out.chg hNn qdr) (qb DBr.out hJ.1.size) (some ⟨rb,0,none⟩) 1 1 [[.int .i64 L.kind,.string L.name,.slice A' L.args.length c']] rfl (fun cs hc=>by simp only [qp,qm,or_false] at hc;subst hc;rfl) (fun cs hc=>by rw [qn.1 hc];exact ki _ _ _ _ _) (kj hb.at_ rfl) (by rw [Hcl.out,Hib.out];have:=Hil.out;omega) (by rw [Hcl.out,Hib.out];have:=Hil.out;unfold maxLen;omega) 45
      refine .value (gj _ _ _ _ rfl (by simpa [Act.eval] using h40) (by simpa [Act.eval] using eo) hrun) ⟨hJ.turn hchg qdr,⟨L,A',c',hown,fun k hk=>(hblk k hk).imp id (fun h=>qb hJ.1.size h),hL,LtL.grow DBr.out (fun k e=>(DOb.out.lt e).2) DLt.out hNn hs hchg hblk⟩,fun k u hki hkx hka hkb h=>?_⟩
      match k with
      |6=>exact hkb.elim (fun h=>absurd h (by decide)) (fun h=>my h (by kernel_rfl))
      |7=>exact absurd rfl hkx
      |8=>exact absurd rfl hki
      |0|1|2|3|4|5|9=>exact h
      |_+10=>trivial
     ·have h5:A0.tmps[5]?.getD undef=.pointer (some ⟨b5,0,none⟩):=hk 5
      refine .newX (i:=9) hJ hst ?_
      exact .same (v:=.pointer (some ⟨b5,5,none⟩)) (by simp [go_sem,h5]) rfl
    obtain ⟨x39,x40,x41,x42,x43,x44,x45,x46,x47,x48,rfl⟩:∃ x39 x40 x41 x42 x43 x44 x45 x46 x47 x48,l=[x39,x40,x41,x42,x43,x44,x45,x46,x47,x48]:=by
     match l,hl with
     | [x39,x40,x41,x42,x43,x44,x45,x46,x47,x48],_=>exact ⟨_,_,_,_,_,_,_,_,_,_,rfl⟩
    obtain rfl:x39=.pointer (some ⟨b5,5,none⟩):=hΦ 0 (by decide) (by decide)
    obtain rfl:x40=.slice Ab ib cb:=hΦ 1 (by decide) (by decide)
    obtain rfl:x41=.slice (some a) n c:=hΦ 2 (by decide) (by decide)
    obtain rfl:x42=.int .i64 i:=hΦ 3 (by decide) (by decide)
    obtain rfl:x43=.pointer (some (a.add (i * 6))):=hΦ 4 (by decide) (by decide)
    obtain rfl:x44=.agg #[.int .i64 (X (i * 6)),.int .i64 (X (i * 6+1)),.int .i64 (X (i * 6+2)),.int .i64 (X (i * 6+3)),.int .i64 (X (i * 6+4)),.int .i64 (X (i * 6+5))]:=hΦ 5 (by decide) (by decide)
    have hx47:(fun v W=>∃ (L:Lt) (A':Option Addr) (c':Nat),Own W B 53 3 v (cssb++[[.int .i64 L.kind,.string L.name,.slice A' L.args.length c']])∧(∀ k,v.ownBlock=some k→(Value.slice Ab ib cb).ownBlock=some k∨wd.heap.size≤k)∧rawL L∧Stays W (fun k=>k < B∨v.ownBlock=some k) (fun W=>LtL W (cssb++[[.int .i64 L.kind,.string L.name,.slice A' L.args.length c']]) (Ls++[L])):Value→World→Prop) x47 W3:=hΦ 8 (by decide) (by decide)
    obtain rfl:x48=.pointer (some ⟨b5,5,none⟩):=hΦ 9 (by decide) (by decide)
    simp only [putsL,zq,zj,zz,List.zip,List.zipWith,Act.put,qk,qu,qy]
    clear hΦ hl hst
    obtain ⟨L,A',c',hown,hblk,hL,hst⟩:=hx47
    obtain ⟨An,cn,hvn,hcn1,hcn2⟩:=hown.form
    rw [qg,Hcl.out,Hib.out,yp] at hvn
    subst hvn
    have HOn:=qq hown
    have HSt:=qq hst
    have HL:=qq hL
    have E5:=qq (D5.out.chg hJ.1 (fun h=>Hne5.out _ h rfl))
    have E6:=qq (D6.out.chg hJ.1 (fun h=>by have:=HneB.out _ h;omega))
    have E4:=qq (D4.out.chg hJ.1 (fun h=>by have:=HneB.out _ h;omega))
    have ET:=qq (DTt.out.chg hJ.1 (fun k _ e=>.inr e) (S1:=fun k=>k < B∨(Value.slice An (ib+1) cn).ownBlock=some k) (fun k hk e=>e.imp id (fun e=>(hblk k e).elim id (fun h=>absurd hk (Nat.not_lt.2 h)))))
    have EN:=qq (DN.out.trans hJ.1 (fun k hk h=>by have:=HneB.out _ h;omega))
    have EB:=qq (qb DBr.out hJ.1.size)
    clear hown hst hblk hJ hL D5 D6 D4 DOb DLt DTt DN DBr DRow
    refine AtN.list 10 11 (by kernel_rfl) ?_
    change wpList _ _ _ [_] _ _
    go_wp2_with ((with_reducible refine kf rfl (.tmp 48) (.tmp 47) 45 rfl rfl sz35 b5 5 47 _ (.slice An (ib+1) cn) #[.string lab,.string nm,.slice Ah ts.length ch,.string ⟨#[]⟩,.int .i64 0,.slice An (ib+1) cn] ?_ ?_ E5.out ?_ ?_ ?_ ?_);exact rfl;exact rfl;exact (by decide:5 < 6);exact rfl;exact rfl;intro w9 hc9 hb9 hs9;have HC9:=qq hc9;have HB9:=qq hb9;have Hs9:=qq hs9;clear hc9 hb9 hs9)
    change AtN _ _ _ 11 _ _
    refine AtN.done rfl ?_
    go_wp2_with fail
    have hfin:Blk w9 b6 75 #[.int .i64 z0,.int .i64 z1,.int .i64 z2,.int .i64 z3,.int .i64 z4,.int .i64 z5]∧Blk w9 w.heap.size 47 #[.string ⟨#[]⟩,.string ⟨#[]⟩,.slice none 0 0,.string ⟨#[]⟩,.int .i64 0,.slice none 0 0]∧Own w9 B 53 3 (.slice An (ib+1) cn) (cssb++[[.int .i64 L.kind,.string L.name,.slice A' L.args.length c']])∧Stays w9 (fun k=>k < B∨(Value.slice An (ib+1) cn).ownBlock=some k) (fun W=>LtL W (cssb++[[.int .i64 L.kind,.string L.name,.slice A' L.args.length c']]) (Ls++[L]))∧Stays w9 (fun k=>k < B∨(Value.slice An (ib+1) cn).ownBlock=some k) (fun W=>TmsAt W Ah css ts)∧B≤w9.heap.size∧New w w9:=
     ⟨E6.out.chg HC9.out (fun e=>by have:=H56.out;omega),E4.out.chg HC9.out (fun e=>by have:=H56.out;omega),HOn.out.chg HC9.out (fun g hg e=>by have:=(HOn.out.lt hg).1;omega),HSt.out.chg HC9.out (fun k _ e=>.inl (by omega)) (fun k _ e=>e),ET.out.chg HC9.out (fun k _ e=>.inl (by omega)) (fun k _ e=>e),by rw [Hs9.out];exact EB.out,EN.out.trans HC9.out (fun k hk e=>by have:=H56.out;omega)⟩
    have HF:=qq hfin
    have HrL2:∀ L'∈Ls++[L],rawL L':=fun L' h=>(zk.1 h).elim (HrL.out L') (fun h=>by rw [qn.1 h];exact HL.out)
    go_roundw
    case rel=>exact ⟨i+1,Ls++[L],_,_,by omega,by omega,by go_num,by rw [qg,Hib.out,yp];have:=Hil.out;omega,HrL2,HB9.out,HF.out⟩
    case measure=>simp only [intOf];omega
   ·obtain ⟨hL4,hgo'⟩:ib≤4∧(¬ i < n∨i=5):=by have:=Hil.out;omega
    have HL4:=qq hL4
    obtain ⟨cl1,cl2⟩:(decide ((i:Int) < (n:Int))=false∨(decide ((i:Int) < (n:Int))=true∧decide ((i:Int) < 5)=false))∧True:=by
     refine ⟨?_,trivial⟩
     by_cases h:i < n
     ·exact .inr ⟨by simpa using h,by simp;omega⟩
     ·exact .inl (by simpa using h)
    have Hq:=qq cl1
    clear cl1 cl2 hgo hgo' hL4
    go_upto_region 7 with fail
    go_cut [36] from 29 to 37 (fun u wx=>u=.bool false∧wx=wr)
    case first=>
     rcases Hq.out with l1| ⟨l1,l2⟩
     ·have l1':decide (i < n)=false:=by simpa using l1
      go_wp2_with fail
      go_meet
      exact ⟨rfl,rfl⟩
     ·have l1':decide (i < n)=true:=by simpa using l1
      go_wp2_with fail
      go_meet
      exact ⟨rfl,rfl⟩
    case rest=>
     obtain ⟨rfl,rfl⟩:=hcut
     obtain ⟨wr,hwr⟩:=qdq (wc)
     rw [←hwr] at H5 H6 H4 HOb HLt HTt HNr HBr e5⊢
     clear hwr
     go_upto_if 52 with fail
     go_cut [] from 53 to 60 (fun wx=>∃ (Ls:List Lt) (cssb:List (List Value)) (Ab:Option Addr) (cb:Nat),1≤Ls.length∧Ls.length≤4∧(∀ L∈Ls,rawL L)∧Ls.length≤cb∧cb≤maxLen∧Blk wx b5 47 #[.string lab,.string nm,.slice Ah ts.length ch,.string ⟨#[]⟩,.int .i64 0,.slice Ab Ls.length cb]∧Blk wx b6 75 #[.int .i64 z0,.int .i64 z1,.int .i64 z2,.int .i64 z3,.int .i64 z4,.int .i64 z5]∧Blk wx w.heap.size 47 #[.string ⟨#[]⟩,.string ⟨#[]⟩,.slice none 0 0,.string ⟨#[]⟩,.int .i64 0,.slice none 0 0]∧Own wx B 53 3 (.slice Ab Ls.length cb) cssb∧Stays wx (fun k=>k < B∨(Value.slice Ab Ls.length cb).ownBlock=some k) (fun W=>LtL W cssb Ls)∧Stays wx (fun k=>k < B∨(Value.slice Ab Ls.length cb).ownBlock=some k) (fun W=>TmsAt W Ah css ts)∧B≤wx.heap.size∧New w wx)
     case first=>
      by_cases h0:ib=0
      ·have z00:((ib:Int) == 0)=true:=by simpa using h0
       have Hz:=qq h0
       clear h0
       have hneB:∀ g,(Value.slice Ab ib cb).ownBlock=some g→B≤g:=fun g hg=>(HOb.out.lt hg).1
       have hne5:∀ g,(Value.slice Ab ib cb).ownBlock=some g→g≠b5:=fun g hg e=>by have:=hneB g hg;omega
       have HneB:=qq hneB
       have Hne5:=qq hne5
       have eg27:∀ (args:Array Value) (w:World),(callFunc 66 args).run Tryz.prog w=.ok (.enter 66 args) w:=enters_of Tryz.func66 (by kernel_rfl) rfl
       have hB0:B64 0:=by unfold B64;omega
       go_upto_region 11 with fail
       refine vj (by kernel_rfl) ?_
       have hnd:New wr wr.drew:=(Chg.refl _ _).drew
       have D5:=qq (H5.out.chg hnd id)
       have D6:=qq (H6.out.chg hnd id)
       have D4:=qq (H4.out.chg hnd id)
       have DOb:=qq (HOb.out.chg hnd qdr)
       have DLt:=qq (HLt.out.chg hnd (fun _ _ x=>x.elim) (fun k _ e=>e))
       have DTt:=qq (HTt.out.chg hnd (fun _ _ x=>x.elim) (fun k _ e=>e))
       have DN:=qq (HNr.out.trans hnd qdr)
       have DBr:=qq (qb HBr.out hnd.size)
       clear hnd e5 H5 H6 H4 HOb HLt HTt HNr HBr hneB hne5
       generalize wr.drew=wd at D5 D6 D4 DOb DLt DTt DN DBr⊢
       have hst:∀ jj uu w1 w2,New w1 w2→(fun
         |0=>fun v _=>v=.pointer (some ⟨b5,5,none⟩)
         |1=>fun v _=>v=.slice Ab ib cb
         |2=>fun v _=>v=.agg #[.int .i64 0,.int .i64 0,.int .i64 0,.int .i64 0,.int .i64 0,.int .i64 0]
         |3=>fun v W=>∃ (L:Lt) (A':Option Addr) (c':Nat),v=.agg #[.int .i64 L.kind,.string L.name,.slice A' L.args.length c']∧rawL L∧Stays W (fun k=>k < wd.heap.size) (fun W=>LtAt W [.int .i64 L.kind,.string L.name,.slice A' L.args.length c'] L)
         |4=>fun v W=>∃ (rb:Nat) (L:Lt) (A':Option Addr) (c':Nat),v=.slice (some ⟨rb,0,none⟩) 1 1∧Blk W rb 53 #[.int .i64 L.kind,.string L.name,.slice A' L.args.length c']∧rawL L∧Stays W (fun k=>k < wd.heap.size) (fun W=>LtAt W [.int .i64 L.kind,.string L.name,.slice A' L.args.length c'] L)
         |5=>fun v W=>∃ (L:Lt) (A':Option Addr) (c':Nat),Own W B 53 3 v (cssb++[[.int .i64 L.kind,.string L.name,.slice A' L.args.length c']])∧(∀ k,v.ownBlock=some k→(Value.slice Ab ib cb).ownBlock=some k∨wd.heap.size≤k)∧rawL L∧Stays W (fun k=>k < B∨v.ownBlock=some k) (fun W=>LtL W (cssb++[[.int .i64 L.kind,.string L.name,.slice A' L.args.length c']]) (Ls++[L]))
         |6=>fun v _=>v=.pointer (some ⟨b5,5,none⟩)
         |_=>fun _ _=>True:Nat→Value→World→Prop) jj uu w1→(fun
         |0=>fun v _=>v=.pointer (some ⟨b5,5,none⟩)
         |1=>fun v _=>v=.slice Ab ib cb
         |2=>fun v _=>v=.agg #[.int .i64 0,.int .i64 0,.int .i64 0,.int .i64 0,.int .i64 0,.int .i64 0]
         |3=>fun v W=>∃ (L:Lt) (A':Option Addr) (c':Nat),v=.agg #[.int .i64 L.kind,.string L.name,.slice A' L.args.length c']∧rawL L∧Stays W (fun k=>k < wd.heap.size) (fun W=>LtAt W [.int .i64 L.kind,.string L.name,.slice A' L.args.length c'] L)
         |4=>fun v W=>∃ (rb:Nat) (L:Lt) (A':Option Addr) (c':Nat),v=.slice (some ⟨rb,0,none⟩) 1 1∧Blk W rb 53 #[.int .i64 L.kind,.string L.name,.slice A' L.args.length c']∧rawL L∧Stays W (fun k=>k < wd.heap.size) (fun W=>LtAt W [.int .i64 L.kind,.string L.name,.slice A' L.args.length c'] L)
         |5=>fun v W=>∃ (L:Lt) (A':Option Addr) (c':Nat),Own W B 53 3 v (cssb++[[.int .i64 L.kind,.string L.name,.slice A' L.args.length c']])∧(∀ k,v.ownBlock=some k→(Value.slice Ab ib cb).ownBlock=some k∨wd.heap.size≤k)∧rawL L∧Stays W (fun k=>k < B∨v.ownBlock=some k) (fun W=>LtL W (cssb++[[.int .i64 L.kind,.string L.name,.slice A' L.args.length c']]) (Ls++[L]))
         |6=>fun v _=>v=.pointer (some ⟨b5,5,none⟩)
         |_=>fun _ _=>True:Nat→Value→World→Prop) jj uu w2:=by
        intro j uu w1 w2 hc h
        match j with
        |3=>exact h.imp fun L h=>h.imp fun A' h=>h.imp fun c' h=>⟨h.1,h.2.1,h.2.2.chg hc (fun _ _ x=>x.elim) (fun k _ e=>e)⟩
        |4=>exact h.imp fun rb h=>h.imp fun L h=>h.imp fun A' h=>h.imp fun c' h=>⟨h.1,h.2.1.chg hc id,h.2.2.1,h.2.2.2.chg hc (fun _ _ x=>x.elim) (fun k _ e=>e)⟩
        |5=>exact h.imp fun L h=>h.imp fun A' h=>h.imp fun c' h=>⟨h.1.chg hc qdr,h.2.1,h.2.2.1,h.2.2.2.chg hc (fun _ _ x=>x.elim) (fun k _ e=>e)⟩
        |0|1|2|6=>exact h
        |_+7=>trivial
       refine AtN.segX2 0 7 5 [53,54,55,56,57,58,59] (fun k=>(Value.slice Ab ib cb).ownBlock=some k) (fun
         |3=>4
         |4=>5
         |_=>999) (fun
         |0=>fun v _=>v=.pointer (some ⟨b5,5,none⟩)
         |1=>fun v _=>v=.slice Ab ib cb
         |2=>fun v _=>v=.agg #[.int .i64 0,.int .i64 0,.int .i64 0,.int .i64 0,.int .i64 0,.int .i64 0]
         |3=>fun v W=>∃ (L:Lt) (A':Option Addr) (c':Nat),v=.agg #[.int .i64 L.kind,.string L.name,.slice A' L.args.length c']∧rawL L∧Stays W (fun k=>k < wd.heap.size) (fun W=>LtAt W [.int .i64 L.kind,.string L.name,.slice A' L.args.length c'] L)
         |4=>fun v W=>∃ (rb:Nat) (L:Lt) (A':Option Addr) (c':Nat),v=.slice (some ⟨rb,0,none⟩) 1 1∧Blk W rb 53 #[.int .i64 L.kind,.string L.name,.slice A' L.args.length c']∧rawL L∧Stays W (fun k=>k < wd.heap.size) (fun W=>LtAt W [.int .i64 L.kind,.string L.name,.slice A' L.args.length c'] L)
         |5=>fun v W=>∃ (L:Lt) (A':Option Addr) (c':Nat),Own W B 53 3 v (cssb++[[.int .i64 L.kind,.string L.name,.slice A' L.args.length c']])∧(∀ k,v.ownBlock=some k→(Value.slice Ab ib cb).ownBlock=some k∨wd.heap.size≤k)∧rawL L∧Stays W (fun k=>k < B∨v.ownBlock=some k) (fun W=>LtL W (cssb++[[.int .i64 L.kind,.string L.name,.slice A' L.args.length c']]) (Ls++[L]))
         |6=>fun v _=>v=.pointer (some ⟨b5,5,none⟩)
         |_=>fun _ _=>True:Nat→Value→World→Prop) (by kernel_rfl) (by kernel_rfl) (by kernel_rfl) (by kernel_rfl) (fun i hn hi o ho A0 W b hJ hμ hin hk=>?_) (fun l W3 hJ hl hΦ=>?_)
       ·rcases (show i=0∨i=1∨i=2∨i=3∨i=4∨i=5∨i=6 by omega) with rfl|rfl|rfl|rfl|rfl|rfl|rfl<;>cases ho
        ·have h5:A0.tmps[5]?.getD undef=.pointer (some ⟨b5,0,none⟩):=hk 5
         refine .newX (i:=0) hJ hst ?_
         exact .same (v:=.pointer (some ⟨b5,5,none⟩)) (by simp [go_sem,h5]) rfl
        ·have h53:A0.tmps[53]?.getD undef=.pointer (some ⟨b5,5,none⟩):=hin 0 53
         refine .newX (i:=1) hJ hst ?_
         have hc:W.cell? ⟨b5,5,none⟩=some (.slice Ab ib cb):=(D5.out.chg hJ.1 (fun h=>Hne5.out _ h rfl)).cell 5
         exact .same (v:=.slice Ab ib cb) (by simp [go_sem,h53,hc]) rfl
        ·refine .newX (i:=2) hJ hst ?_
         exact .same (v:=.agg #[.int .i64 0,.int .i64 0,.int .i64 0,.int .i64 0,.int .i64 0,.int .i64 0]) (by simp [go_sem,]) rfl
        ·have h55:A0.tmps[55]?.getD undef=.agg #[.int .i64 0,.int .i64 0,.int .i64 0,.int .i64 0,.int .i64 0,.int .i64 0]:=hin 2 55
         refine .newX (i:=3) hJ hst ?_
         refine .call (f:=66) (args:=#[.agg #[.int .i64 0,.int .i64 0,.int .i64 0,.int .i64 0,.int .i64 0,.int .i64 0]]) (W':=W) ?_ ((lit06 W _ _ _ _ _ _ hB0 hB0 hB0 hB0 hB0 hB0).mono ?_)
         ·simp [go_sem,h55,eg27]
         ·rintro e w' ⟨L,A',c',rfl,hL,hst,hc⟩
          have hsz:=hJ.1.size
          exact ⟨_,rfl,hc,L,A',c',rfl,hL,hst.chg (Chg.refl _ (fun _=>False)) (fun _ _ x=>x.elim) (fun k _ e=>zd e hsz)⟩
        ·have h56:=hin 3 56
         refine .newX (i:=4) hJ hst ?_
         obtain ⟨L,A',c',e,hL,hs⟩:=h56
         have hn1:New W (W.alloc (.cells #[.int .i64 L.kind,.string L.name,.slice A' L.args.length c'] 53)):=(Chg.refl _ _).alloc _
         exact .value (W':=W.alloc (.cells #[.int .i64 L.kind,.string L.name,.slice A' L.args.length c'] 53)) (v:=.slice (some ⟨W.heap.size,0,none⟩) 1 1) (by simp [go_sem,e]) ⟨hn1,_,L,A',c',rfl,Blk.new _ _ _,hL,hs.chg hn1 (fun _ _ x=>x.elim) (fun k _ e=>e)⟩
        ·have h54:A0.tmps[54]?.getD undef=.slice Ab ib cb:=hin 1 54
         have h57:=hin 4 57
         obtain ⟨rb,L,A',c',eo,hb,hL,hs⟩:=h57
         have hbf:b=false:=hμ rfl
         have hNn:New wd W:=hJ.2 hbf
         obtain ⟨v1,W',hrun,hown,hchg,hblk⟩:=elLit.appendS (DOb.out.chg hNn qdr) (qb DBr.out hJ.1.size) (some ⟨rb,0,none⟩) 1 1 [[.int .i64 L.kind,.string L.name,.slice A' L.args.length c']] rfl (fun cs hc=>by simp only [qp,qm,or_false] at hc;subst hc;rfl) (fun cs hc=>by rw [qn.1 hc];exact ki _ _ _ _ _) (kj hb.at_ rfl) (by rw [Hcl.out,Hib.out];have:=Hil.out;omega) (by rw [Hcl.out,Hib.out];have:=Hil.out;unfold maxLen;omega) 45
         refine .value (gj _ _ _ _ rfl (by simpa [Act.eval] using h54) (by simpa [Act.eval] using eo) hrun) ⟨hJ.turn hchg qdr,⟨L,A',c',hown,fun k hk=>(hblk k hk).imp id (fun h=>qb hJ.1.size h),hL,LtL.grow DBr.out (fun k e=>(DOb.out.lt e).2) DLt.out hNn hs hchg hblk⟩,fun k u hki hkx hka hkb h=>?_⟩
         match k with
         |3=>exact hkb.elim (fun h=>absurd h (by decide)) (fun h=>my h (by kernel_rfl))
         |4=>exact absurd rfl hkx
         |5=>exact absurd rfl hki
         |0|1|2|6=>exact h
         |_+7=>trivial
        ·have h5:A0.tmps[5]?.getD undef=.pointer (some ⟨b5,0,none⟩):=hk 5
         refine .newX (i:=6) hJ hst ?_
         exact .same (v:=.pointer (some ⟨b5,5,none⟩)) (by simp [go_sem,h5]) rfl
       obtain ⟨x53,x54,x55,x56,x57,x58,x59,rfl⟩:∃ x53 x54 x55 x56 x57 x58 x59,l=[x53,x54,x55,x56,x57,x58,x59]:=by
        match l,hl with
        | [x53,x54,x55,x56,x57,x58,x59],_=>exact ⟨_,_,_,_,_,_,_,rfl⟩
       obtain rfl:x53=.pointer (some ⟨b5,5,none⟩):=hΦ 0 (by decide) (by decide)
       obtain rfl:x54=.slice Ab ib cb:=hΦ 1 (by decide) (by decide)
       obtain rfl:x55=.agg #[.int .i64 0,.int .i64 0,.int .i64 0,.int .i64 0,.int .i64 0,.int .i64 0]:=hΦ 2 (by decide) (by decide)
       have hx58:(fun v W=>∃ (L:Lt) (A':Option Addr) (c':Nat),Own W B 53 3 v (cssb++[[.int .i64 L.kind,.string L.name,.slice A' L.args.length c']])∧(∀ k,v.ownBlock=some k→(Value.slice Ab ib cb).ownBlock=some k∨wd.heap.size≤k)∧rawL L∧Stays W (fun k=>k < B∨v.ownBlock=some k) (fun W=>LtL W (cssb++[[.int .i64 L.kind,.string L.name,.slice A' L.args.length c']]) (Ls++[L])):Value→World→Prop) x58 W3:=hΦ 5 (by decide) (by decide)
       obtain rfl:x59=.pointer (some ⟨b5,5,none⟩):=hΦ 6 (by decide) (by decide)
       simp only [putsL,zq,zj,zz,List.zip,List.zipWith,Act.put,qk,qu,qy]
       clear hΦ hl hst
       obtain ⟨L,A',c',hown,hblk,hL,hst⟩:=hx58
       obtain ⟨An,cn,hvn,hcn1,hcn2⟩:=hown.form
       rw [qg,Hcl.out,Hib.out,yp] at hvn
       subst hvn
       have HOn:=qq hown
       have HSt:=qq hst
       have HL:=qq hL
       have E5:=qq (D5.out.chg hJ.1 (fun h=>Hne5.out _ h rfl))
       have E6:=qq (D6.out.chg hJ.1 (fun h=>by have:=HneB.out _ h;omega))
       have E4:=qq (D4.out.chg hJ.1 (fun h=>by have:=HneB.out _ h;omega))
       have ET:=qq (DTt.out.chg hJ.1 (fun k _ e=>.inr e) (S1:=fun k=>k < B∨(Value.slice An (ib+1) cn).ownBlock=some k) (fun k hk e=>e.imp id (fun e=>(hblk k e).elim id (fun h=>absurd hk (Nat.not_lt.2 h)))))
       have EN:=qq (DN.out.trans hJ.1 (fun k hk h=>by have:=HneB.out _ h;omega))
       have EB:=qq (qb DBr.out hJ.1.size)
       clear hown hst hblk hJ hL D5 D6 D4 DOb DLt DTt DN DBr
       refine AtN.list 7 8 (by kernel_rfl) ?_
       change wpList _ _ _ [_] _ _
       go_wp2_with ((with_reducible refine kf rfl (.tmp 59) (.tmp 58) 45 rfl rfl sz35 b5 5 47 _ (.slice An (ib+1) cn) #[.string lab,.string nm,.slice Ah ts.length ch,.string ⟨#[]⟩,.int .i64 0,.slice An (ib+1) cn] ?_ ?_ E5.out ?_ ?_ ?_ ?_);exact rfl;exact rfl;exact (by decide:5 < 6);exact rfl;exact rfl;intro w9 hc9 hb9 hs9;have HC9:=qq hc9;have HB9:=qq hb9;have Hs9:=qq hs9;clear hc9 hb9 hs9)
       change AtN _ _ _ 8 _ _
       refine AtN.done rfl ?_
       go_wp2_with fail
       have hfin:Blk w9 b6 75 #[.int .i64 z0,.int .i64 z1,.int .i64 z2,.int .i64 z3,.int .i64 z4,.int .i64 z5]∧Blk w9 w.heap.size 47 #[.string ⟨#[]⟩,.string ⟨#[]⟩,.slice none 0 0,.string ⟨#[]⟩,.int .i64 0,.slice none 0 0]∧Own w9 B 53 3 (.slice An (ib+1) cn) (cssb++[[.int .i64 L.kind,.string L.name,.slice A' L.args.length c']])∧Stays w9 (fun k=>k < B∨(Value.slice An (ib+1) cn).ownBlock=some k) (fun W=>LtL W (cssb++[[.int .i64 L.kind,.string L.name,.slice A' L.args.length c']]) (Ls++[L]))∧Stays w9 (fun k=>k < B∨(Value.slice An (ib+1) cn).ownBlock=some k) (fun W=>TmsAt W Ah css ts)∧B≤w9.heap.size∧New w w9:=
        ⟨E6.out.chg HC9.out (fun e=>by have:=H56.out;omega),E4.out.chg HC9.out (fun e=>by have:=H56.out;omega),HOn.out.chg HC9.out (fun g hg e=>by have:=(HOn.out.lt hg).1;omega),HSt.out.chg HC9.out (fun k _ e=>.inl (by omega)) (fun k _ e=>e),ET.out.chg HC9.out (fun k _ e=>.inl (by omega)) (fun k _ e=>e),by rw [Hs9.out];exact EB.out,EN.out.trans HC9.out (fun k hk e=>by have:=H56.out;omega)⟩
       have HF:=qq hfin
       have HrL2:∀ L'∈Ls++[L],rawL L':=fun L' h=>(zk.1 h).elim (HrL.out L') (fun h=>by rw [qn.1 h];exact HL.out)
       go_meet
       have hln:(Ls++[L]).length=ib+1:=by rw [qg,Hib.out,yp]
       refine ⟨Ls++[L],cssb++[[.int .i64 L.kind,.string L.name,.slice A' L.args.length c']],An,cn,by omega,by have:=Hz.out;omega,HrL2,?_⟩
       rw [hln]
       exact ⟨by rw [qg,Hcl.out,Hib.out,yp] at hcn1;exact hcn1,hcn2,HB9.out,HF.out⟩
      ·have z00:((ib:Int) == 0)=false:=by simpa using h0
       go_wp2_with fail
       go_meet
       refine ⟨Ls,cssb,Ab,cb,by rw [Hib.out];omega,by rw [Hib.out];exact HL4.out,HrL.out,by rw [Hib.out];exact hcb1,hcb2,?_⟩
       rw [Hib.out]
       exact ⟨H5.out,H6.out,H4.out,HOb.out,HLt.out,HTt.out,HBr.out,HNr.out⟩
     case rest=>
      clear HLl HrL H5 H6 H4 HOb HLt HTt HNr Hib Hcl HBr Hil HL4 Hq e5 hcb1 hcb2
      obtain ⟨Ls,cssb,Ab,cb,hL1,hL4,hrL,hcb1,hcb2,h5,h6,h4,hob,hlt,htt,hBr,hN⟩:=hcut
      obtain ⟨wr,hwr⟩:=qdq (wc)
      rw [←hwr] at h5 h6 h4 hob hlt htt hBr hN⊢
      clear hwr
      obtain ⟨nb,hnb⟩:=qdp (Ls.length)
      have hlts:=qdc hob hlt
      have htms:Stays wr (fun k=>k < B) (fun W=>TmsAt W Ah css ts):=fun W' hc=>htt W' (hc.mono (fun k _ e=>.inl e))
      have htn:TmsAt wr Ah css ts:=htt.now
      rw [hnb] at h5
      have e60:=h6.cell 0
      have e52:=h5.cell 2
      simp only [qx,qj,qw] at e60 e52
      have HHN:=qq hN
      have hend:∀ (agg:ByteArray) (at':Int) (W9 W10:World),((agg=⟨#[]⟩∧at'=0)∨((agg=⟨#[109,105,110]⟩∨agg=⟨#[109,97,120]⟩∨agg=⟨#[99,111,117,110,116]⟩)∧at'=1∧2≤ts.length∧∃ s,ts[1]? =some (Tm.var s)))→Chg wr W9 (fun k=>k=b5)→Chg W9 W10 (fun k=>k=w.heap.size)→
        RulePost w (.returned (.agg #[.string lab,.string nm,.slice Ah ts.length ch,.string agg,.int .i64 at',.slice Ab nb cb])) W10:=by
       intro agg at' W9 W10 hagg hc9 hc10
       have hcc:Chg wr W10 (fun k=>k < B):=(hc9.mono (fun k _ e=>by omega)).trans hc10 (fun k _ e=>by omega)
       refine ⟨lab,nm,agg,at',ts,Ls,Ah,Ab,ch,cb,css,cssb,by rw [hnb],⟨HLab.out,Hch.out⟩,HRel.out,Hl1.out,Hl3.out,HFst.out,HRaw.out,hL1,hL4,hrL,hcb1,hcb2,hagg,fun W' hW=>?_,(HHN.out.trans hc9 (fun k hk e=>by have:=H56.out;omega)).trans hc10 (fun k hk e=>by omega)⟩
       have hc3:Chg wr W' (fun k=>k < B):=hcc.trans hW (fun k _ e=>by omega)
       exact ⟨htms W' hc3,hlts W' hc3⟩
      have HEnd:=qq hend
      have H5:=qq h5
      have H6:=qq h6
      have H4:=qq h4
      have HTn:=qq htn
      obtain ⟨p5,hp5⟩:∃ p:Int,pk z0 5=p:=⟨_,rfl⟩
      have hpk:=fun W=>gm W z0 5 HZ.out.1.1 HZ.out.1.2 (by omega) (by omega)
      rw [hp5] at hpk
      have HPk:=qq hpk
      clear hend hpk hp5 hlts htms htn htt hlt hob hN h5 h6 h4 hBr hnb
      have hB54:b5≠w.heap.size:=by have:=H56.out;omega
      by_cases hp4:p5=4
      ·have t4:(p5 == 4)=true:=by simpa using hp4
       by_cases hl2:1 < ts.length
       ·have t2:decide ((1:Int) < (ts.length:Int))=true:=by simp;omega
        obtain ⟨a,ha,hra⟩:=HTn.out.src (by rw [HTn.out.len];omega)
        subst ha
        obtain ⟨cs1,hcs1⟩:∃ cs,css[1]? =some cs:=⟨_,qz (by rw [HTn.out.len];exact hl2)⟩
        obtain ⟨t1,ht1⟩:∃ t,ts[1]? =some t:=⟨_,qz hl2⟩
        obtain ⟨κ,hκ⟩:=(HTn.out.at_ 1 cs1 t1 hcs1 ht1).kind
        have hck:=(hra 1 cs1 hcs1).2 0 _ hκ
        have hck7:wr.cell? ⟨a.block,a.off+7,none⟩=some (.int .i64 κ):=by
         rw [add_add,show 1 * 7+0=6+1 from rfl,gk] at hck
         exact hck
        clear hck
        obtain ⟨bk,hbk⟩:∃ b:Bool,(κ == 1)=b:=⟨_,rfl⟩
        have hvar:bk=true→∃ s,ts[1]? =some (Tm.var s):=fun hb=>by
         have h1:κ=1:=by
          have:=hbk.trans hb
          simpa using this
         rw [h1] at hκ
         obtain ⟨s,hs⟩:=(HTn.out.at_ 1 cs1 t1 hcs1 ht1).var1 hκ
         exact ⟨s,by rw [ht1,hs]⟩
        have HVar:=qq hvar
        clear hra hcs1 ht1 hκ hvar
        have l2':1 < ts.length:=hl2
        cases bk with
        |false=>
         go_wp2_with first
          | (go_at_call 64;refine (HPk.out _).mono ?_;rintro e w' ⟨rfl,rfl⟩;clear HPk)
          | ((with_reducible refine vq rfl (.tmp 5) 47 rfl xt ⟨b5,0,none⟩ [.string lab,.string nm,.slice (some a) ts.length ch,.string ⟨#[]⟩,.int .i64 0,.slice Ab nb cb] ?_ rfl H5.out.at_ ?_);exact rfl)
          | ((with_reducible refine xq rfl (.tmp 4) (.tmp 87) 47 rfl rfl xt w.heap.size 47 _ [.string lab,.string nm,.slice (some a) ts.length ch,.string ⟨#[]⟩,.int .i64 0,.slice Ab nb cb] ?_ ?_ H4.out rfl rfl (gi rfl rfl rfl) ?_);exact rfl;exact rfl;intro w6 hc6 hb6 hs6;have HC6:=qq hc6;have HB6:=qq hb6;clear hc6 hb6 hs6)
         exact bodyPost_ret (v:=.agg #[.string lab,.string nm,.slice (some a) ts.length ch,.string ⟨#[]⟩,.int .i64 0,.slice Ab nb cb]) (xh xt rfl _ _ ⟨w.heap.size,0,none⟩ [.string lab,.string nm,.slice (some a) ts.length ch,.string ⟨#[]⟩,.int .i64 0,.slice Ab nb cb] rfl HB6.out.at_ rfl) rfl (HEnd.out _ _ wr _ (.inl ⟨rfl,rfl⟩) (Chg.refl _ _) HC6.out)
        |true=>
         have HV2:=qq (HVar.out rfl)
         clear HVar
         obtain ⟨q3,hq3⟩:∃ p:Nat,pk (z0.tdiv 5) 3=p:=⟨(pk (z0.tdiv 5) 3).toNat,by have:=km (z0.tdiv 5) 3 (by omega);omega⟩
         have hq33:q3 < 3:=by have:=kn (z0.tdiv 5) 3 (by omega);omega
         have hzb:=bp (d:=5) (by omega) HZ.out.1.1 HZ.out.1.2
         have kw:IntKind.i64.wrap (z0.tdiv 5)=z0.tdiv 5:=by rw [IntKind.wrap_i64];omega
         have hpk3:=fun W=>gm W (z0.tdiv 5) 3 hzb.1 hzb.2 (by omega) (by omega)
         rw [hq3] at hpk3
         have HPk3:=qq hpk3
         have s0:(0:Int)≤(q3:Int):=by omega
         have s1:(q3:Int) < 3:=by omega
         obtain ⟨sg,hsg,hsc⟩:∃ sg:ByteArray,(sg=⟨#[109,105,110]⟩∨sg=⟨#[109,97,120]⟩∨sg=⟨#[99,111,117,110,116]⟩)∧∀ W b,Blk W b 9 #[.string ⟨#[109,105,110]⟩,.string ⟨#[109,97,120]⟩,.string ⟨#[99,111,117,110,116]⟩]→W.cell? ⟨b,q3,none⟩=some (.string sg):=by
          rcases (show q3=0∨q3=1∨q3=2 by omega) with rfl|rfl|rfl
          ·exact ⟨_,.inl rfl,fun W b h=>h.cell 0⟩
          ·exact ⟨_,.inr (.inl rfl),fun W b h=>h.cell 1⟩
          ·exact ⟨_,.inr (.inr rfl),fun W b h=>h.cell 2⟩
         have c1:(wr.alloc (.cells #[.string ⟨#[109,105,110]⟩,.string ⟨#[109,97,120]⟩,.string ⟨#[99,111,117,110,116]⟩] 9)).cell? ⟨wr.heap.size,q3,none⟩=some (.string sg):=hsc _ _ (Blk.new _ _ _)
         have c2:(wr.alloc (.cells #[.string ⟨#[109,105,110]⟩,.string ⟨#[109,97,120]⟩,.string ⟨#[99,111,117,110,116]⟩] 9)).cell? ⟨b6,0,none⟩=some (.int .i64 z0):=(H6.out.alloc _).cell 0
         have hna:New wr (wr.alloc (.cells #[.string ⟨#[109,105,110]⟩,.string ⟨#[109,97,120]⟩,.string ⟨#[99,111,117,110,116]⟩] 9)):=(Chg.refl _ _).alloc _
         have HNA:=qq hna
         have H5a:=qq (H5.out.alloc (.cells #[.string ⟨#[109,105,110]⟩,.string ⟨#[109,97,120]⟩,.string ⟨#[99,111,117,110,116]⟩] 9))
         have H4a:=qq (H4.out.alloc (.cells #[.string ⟨#[109,105,110]⟩,.string ⟨#[109,97,120]⟩,.string ⟨#[99,111,117,110,116]⟩] 9))
         have Hsg:=qq hsg
         clear hsc hpk3 hq3 hzb hna hsg
         go_wp2_with first
          | (go_at_call 64;refine (HPk.out _).mono ?_;rintro e w' ⟨rfl,rfl⟩;clear HPk)
          | (go_at_call 64;refine (HPk3.out _).mono ?_;rintro e w' ⟨rfl,rfl⟩;clear HPk3)
          | ((with_reducible refine kf rfl (.tmp 85) (.tmp 84) 9 rfl rfl sz9 b5 3 47 _ (.string sg) #[.string lab,.string nm,.slice (some a) ts.length ch,.string sg,.int .i64 0,.slice Ab nb cb] ?_ ?_ H5a.out ?_ ?_ ?_ ?_);exact rfl;exact rfl;exact (by decide:3 < 6);exact rfl;exact rfl;intro w8 hc8 hb8 hs8;have HC8:=qq ((HNA.out.mono (T':=fun k=>k=b5) (fun _ _ x=>x.elim)).trans hc8 (fun k _ e=>e));have HB8:=qq hb8;have H48:=qq (H4a.out.chg hc8 (fun e=>hB54 e.symm));clear hc8 hb8 hs8)
          | ((with_reducible refine kf rfl (.tmp 86) (.const (.int .i64 1)) 3 rfl rfl sz3 b5 4 47 _ (.int .i64 1) #[.string lab,.string nm,.slice (some a) ts.length ch,.string sg,.int .i64 1,.slice Ab nb cb] ?_ ?_ HB8.out ?_ ?_ ?_ ?_);exact rfl;exact rfl;exact (by decide:4 < 6);exact rfl;exact rfl;intro w9 hc9 hb9 hs9;have HC9:=qq (HC8.out.trans hc9 (fun k _ e=>e));have HB9:=qq hb9;have H49:=qq (H48.out.chg hc9 (fun e=>hB54 e.symm));clear hc9 hb9 hs9)
          | ((with_reducible refine vq rfl (.tmp 5) 47 rfl xt ⟨b5,0,none⟩ [.string lab,.string nm,.slice (some a) ts.length ch,.string sg,.int .i64 1,.slice Ab nb cb] ?_ rfl HB9.out.at_ ?_);exact rfl)
          | ((with_reducible refine xq rfl (.tmp 4) (.tmp 87) 47 rfl rfl xt w.heap.size 47 _ [.string lab,.string nm,.slice (some a) ts.length ch,.string sg,.int .i64 1,.slice Ab nb cb] ?_ ?_ H49.out rfl rfl (gi rfl rfl rfl) ?_);exact rfl;exact rfl;intro w6 hc6 hb6 hs6;have HC6:=qq hc6;have HB6:=qq hb6;clear hc6 hb6 hs6)
         exact bodyPost_ret (v:=.agg #[.string lab,.string nm,.slice (some a) ts.length ch,.string sg,.int .i64 1,.slice Ab nb cb]) (xh xt rfl _ _ ⟨w.heap.size,0,none⟩ [.string lab,.string nm,.slice (some a) ts.length ch,.string sg,.int .i64 1,.slice Ab nb cb] rfl HB6.out.at_ rfl) rfl (HEnd.out _ _ w9 _ (.inr ⟨Hsg.out,rfl,by omega,HV2.out⟩) HC9.out HC6.out)
       ·have t2:decide ((1:Int) < (ts.length:Int))=false:=by simp;omega
        go_wp2_with first
         | (go_at_call 64;refine (HPk.out _).mono ?_;rintro e w' ⟨rfl,rfl⟩;clear HPk)
         | ((with_reducible refine vq rfl (.tmp 5) 47 rfl xt ⟨b5,0,none⟩ [.string lab,.string nm,.slice Ah ts.length ch,.string ⟨#[]⟩,.int .i64 0,.slice Ab nb cb] ?_ rfl H5.out.at_ ?_);exact rfl)
         | ((with_reducible refine xq rfl (.tmp 4) (.tmp 87) 47 rfl rfl xt w.heap.size 47 _ [.string lab,.string nm,.slice Ah ts.length ch,.string ⟨#[]⟩,.int .i64 0,.slice Ab nb cb] ?_ ?_ H4.out rfl rfl (gi rfl rfl rfl) ?_);exact rfl;exact rfl;intro w6 hc6 hb6 hs6;have HC6:=qq hc6;have HB6:=qq hb6;clear hc6 hb6 hs6)
        exact bodyPost_ret (v:=.agg #[.string lab,.string nm,.slice Ah ts.length ch,.string ⟨#[]⟩,.int .i64 0,.slice Ab nb cb]) (xh xt rfl _ _ ⟨w.heap.size,0,none⟩ [.string lab,.string nm,.slice Ah ts.length ch,.string ⟨#[]⟩,.int .i64 0,.slice Ab nb cb] rfl HB6.out.at_ rfl) rfl (HEnd.out _ _ wr _ (.inl ⟨rfl,rfl⟩) (Chg.refl _ _) HC6.out)
      ·have t4:(p5 == 4)=false:=by simpa using hp4
       go_wp2_with first
        | (go_at_call 64;refine (HPk.out _).mono ?_;rintro e w' ⟨rfl,rfl⟩;clear HPk)
        | ((with_reducible refine vq rfl (.tmp 5) 47 rfl xt ⟨b5,0,none⟩ [.string lab,.string nm,.slice Ah ts.length ch,.string ⟨#[]⟩,.int .i64 0,.slice Ab nb cb] ?_ rfl H5.out.at_ ?_);exact rfl)
        | ((with_reducible refine xq rfl (.tmp 4) (.tmp 87) 47 rfl rfl xt w.heap.size 47 _ [.string lab,.string nm,.slice Ah ts.length ch,.string ⟨#[]⟩,.int .i64 0,.slice Ab nb cb] ?_ ?_ H4.out rfl rfl (gi rfl rfl rfl) ?_);exact rfl;exact rfl;intro w6 hc6 hb6 hs6;have HC6:=qq hc6;have HB6:=qq hb6;clear hc6 hb6 hs6)
       exact bodyPost_ret (v:=.agg #[.string lab,.string nm,.slice Ah ts.length ch,.string ⟨#[]⟩,.int .i64 0,.slice Ab nb cb]) (xh xt rfl _ _ ⟨w.heap.size,0,none⟩ [.string lab,.string nm,.slice Ah ts.length ch,.string ⟨#[]⟩,.int .i64 0,.slice Ab nb cb] rfl HB6.out.at_ rfl) rfl (HEnd.out _ _ wr _ (.inl ⟨rfl,rfl⟩) (Chg.refl _ _) HC6.out)
structure Ru where
 h:ByteArray
 ts:List Tm
 Ls:List Lt
 agg:ByteArray
 at':Int
structure Ru.Raw (r:Ru):Prop where
 rel:∃ p:Nat,relCs[p]? =some (r.h,(r.ts.length:Int))
 lo:1≤r.ts.length
 hi:r.ts.length≤3
 fst:∃ c,r.ts[0]? =some (.var (vNm c))
 ts:∀ t∈r.ts,rawT t
 l1:1≤r.Ls.length
 l4:r.Ls.length≤4
 ls:∀ L∈r.Ls,rawL L
def Ru.aggOk (r:Ru):Prop:=(r.agg=⟨#[]⟩∧r.at'=0)∨((r.agg=⟨#[109,105,110]⟩∨r.agg=⟨#[109,97,120]⟩∨r.agg=⟨#[99,111,117,110,116]⟩)∧r.at'=1∧2≤r.ts.length∧∃ s,r.ts[1]? =some (Tm.var s))
def RuSl (w:World) (v:Value) (r:Ru):Prop:=∃ (lab:ByteArray) (A Ab:Option Addr) (c cb:Nat) (css cssb:List (List Value)),v=.agg #[.string lab,.string r.h,.slice A r.ts.length c,.string r.agg,.int .i64 r.at',.slice Ab r.Ls.length cb]∧TmsAt w A css r.ts∧LtsAt w Ab cssb r.Ls∧r.Ls.length≤cb∧cb≤maxLen∧lowN lab
def RuSl.chg {w w':World} {v:Value} {r:Ru} (h:RuSl w v r) (hc:New w w'):RuSl w' v r:=by
 obtain ⟨lab,A,Ab,c,cb,css,cssb,h1,h2,h3,h4⟩:=h
 exact ⟨lab,A,Ab,c,cb,css,cssb,h1,h2.chg hc,h3.chg hc,h4⟩
def it:∀ {Ls:List Lt},(∀ L∈Ls,L.size≤3)→(Ls.map Lt.size).sum≤Ls.length * 3
 | [],_=>by simp
 |L::Ls,h=>by
  have h1:=h L (zb ..)
  have h2:=it (fun L' hl=>h L' (zh _ hl))
  simp only [yi,List.sum_cons,zf,Nat.succ_mul]
  omega
def fireR (r:Ru) (m:List Rw):List Rw:=fireV r.h r.ts r.Ls m
def RuSl.form {w:World} {v:Value} {r:Ru} (h:RuSl w v r):∃ lab A c Ab cb,v=.agg #[.string lab,.string r.h,.slice A r.ts.length c,.string r.agg,.int .i64 r.at',.slice Ab r.Ls.length cb]:=by
 obtain ⟨lab,A,Ab,c,cb,css,cssb,rfl,h1,h2,h3,h4⟩:=h
 exact ⟨lab,A,c,Ab,cb,rfl⟩
end Go.Proofs.YtbpgfnbhihklnaaGreat
