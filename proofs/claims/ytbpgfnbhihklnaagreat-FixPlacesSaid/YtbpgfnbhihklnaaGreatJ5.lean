/- Part 5 of what stands beneath. -/
import Derived.Test.YtbpgfnbhihklnaaGreatJ4
import Derived.RangeFuncNested
import Derived.RangeFuncLeaves
import Derived.Shelf.RegionOpen
import Derived.OwnWalkIn
import Derived.TacticsInMore
import Derived.LoopNIn
import Derived.LoopIn
import Derived.RangeFuncBound
import Derived.RangeFuncCalls
import Derived.ArgAppend
set_option maxHeartbeats 8000000
set_option maxRecDepth 100000
set_option linter.all false
namespace Go.Proofs.YtbpgfnbhihklnaaGreat
open Go.RowKit Go.Shelf
def New.same {w:World} {g:Nat} {t:TypeId} {cur:Array Value} (h:Blk w g t cur):New w (w.setRow g cur):=
 ⟨rfl,rfl,rfl,by simp,fun k _ _=>by
  by_cases hk:k=g
  ·subst hk
   exact (h.set cur).trans h.symm
  ·exact setRow_other w g k cur hk⟩
def Own.blk {w:World} {b:Nat} {e:TypeId} {k:Nat} {v:Value} {css:List (List Value)} (h:Own w b e k v css) (hp:0 < css.length):∃ g cap cur,v=.slice (some ⟨g,0,none⟩) css.length cap∧b≤g∧Blk w g e cur∧css.length * k≤cur.size∧
  ∀ (i:Nat) (cs:List Value),css[i]? =some cs→∀ (j:Nat) (u:Value),cs[j]? =some u→cur[i * k+j]? =some u:=by
 obtain ⟨hh,hk⟩:=h
 have h1:=hh.2
 rcases h1 with ⟨h3,h4⟩| ⟨g,cap,cur,rfl,hb,hg,hn,hm,hs,ht⟩
 ·omega
 ·refine ⟨g,cap,cur,rfl,hb,hg,by rw [hs];exact yy _ hn,fun i cs hi j u hj=>?_⟩
  have hf:=xl hk hi hj
  rw [←ht,yq] at hf
  split at hf
  ·simpa using hf
  ·cases hf
def matchV (ts:List Tm) (vs:List Vl) (env:Env):Option Env:=
 if ts.length=vs.length then (if (ts.zip vs).all (fun p=>isV (envK env ts vs ts.length) p.1 p.2) then some (envK env ts vs ts.length) else none) else none
def MatchPost (w:World) (r:Option Env) (e:Ending) (w':World):Prop:=
 New w w'∧((r=none∧e=.returned (.tuple #[.slice none 0 0,.bool false]))∨∃ s v,r=some s∧e=.returned (.tuple #[v,.bool true])∧Own w' w.heap.size 191 5 v (s.map bcs))
def all_take {α:Type} {l:List α} {p:α→Bool} {k:Nat} {x:α} (h:(l.take k).all p=true) (hx:l[k]? =some x) (hp:p x=true):(l.take (k+1)).all p=true:=by
 rw [vh hx,List.all_append,h]
 simp [hp]
def all_no {α:Type} {l:List α} {p:α→Bool} {k:Nat} {x:α} (hx:l[k]? =some x) (hp:p x=false):l.all p=false:=by
 rw [List.all_eq_false]
 exact ⟨x,qf hx,by rw [hp];simp⟩
def qdm (w:World) (A:Option Addr) (n c:Nat) (css:List (List Value)) (ts:List Tm) (hn:n=ts.length) (hts:TmsAt w A css ts) (hokt:∀ t∈ts,okTm t)
  (Av:Option Addr) (nv cv:Nat) (vs:List Vl) (hnv:nv=vs.length) (hvs:SrcAt w Av 4 (vs.map vcs)) (hokv:∀ v∈vs,okW v)
  (Ae:Option Addr) (ne ce:Nat) (env:Env) (hne:ne=env.length) (hes:SrcAt w Ae 5 (env.map bcs)) (hea:∀ a,Ae=some a→a.block < w.heap.size) (hok:okEnv env) (hm:env.length+ts.length≤1000) (hmv:nv≤maxLen):
  Calls Tryz.prog 147 #[.slice A n c,.slice Av nv cv,.slice Ae ne ce] w (MatchPost w (matchV ts vs env)):=by
 unfold maxLen at hmv
 by_cases hl:n=nv
 ·subst hl
  have hcl:=qcu w Ae ne ce (env.map bcs) (by rw [qd];exact hne) hes hea (aa env) (by omega)
  obtain ⟨s,hs⟩:=qdp (envK env ts vs n)
  have hsl:s.length≤1000:=by rw [←hs];have:=ly env ts vs n;omega
  have hsok:okEnv s:=by rw [←hs];exact bi hok hokv n
  have hbd:=fun w1 u0 (h1:New w w1) (h2:Own w1 w.heap.size 191 5 u0 (env.map bcs))=>qcx w w1 h1 u0 env h2 A n c css ts hn hts Av cv vs hnv hvs (by omega) hok
  rw [hs] at hbd
  have hr1:(ts.zip vs).all (fun p=>isV s p.1 p.2)=true→matchV ts vs env=some s:=fun h=>by
   unfold matchV
   rw [←hn,hs,if_pos hnv,if_pos h]
  have hr0:(ts.zip vs).all (fun p=>isV s p.1 p.2)=false→matchV ts vs env=none:=fun h=>by
   unfold matchV
   rw [←hn,hs,if_pos hnv,if_neg (by rw [h];exact jp)]
  have HN:=qq hn
  have HNv:=qq hnv
  have Hts:=qq hts
  have Hvs:=qq hvs
  have Hcl:=qq hcl
  have Hbd:=qq hbd
  have HR1:=qq hr1
  have HR0:=qq hr0
  have Hsok:=qq hsok
  have Hokt:=qq hokt
  clear hn hnv hts hvs hcl hbd hr1 hr0 hsok hokt hok hokv hea hes hne hs
  go_enter Tryz.func147,Tryz.ntmps147
  go_wp2_with first
   | (go_at_call 173;refine Hcl.out.mono ?_;rintro e w1 ⟨u0,rfl,hown1,hc1⟩;have HO1:=qq hown1;have HC1:=qq hc1;clear hown1 hc1)
   | (go_at_call 174;refine (Hbd.out _ _ HC1.out HO1.out).mono ?_;rintro e w2 ⟨u1,rfl,hown2,hc2⟩;have HO2:=qq hown2;have HC2:=qq hc2;clear hown2 hc2)
  clear Hcl Hbd HC1 HO1
  obtain ⟨As,cs0,rfl,_,_⟩:=HO2.out.form
  rw [qd] at HO2⊢
  go_loopw [24] (fun u24 wr=>∃ (k:Nat),k≤n∧u24=.int .i64 k∧((ts.zip vs).take k).all (fun p=>isV s p.1 p.2)=true∧New w2 wr) (fun u _=>n - (intOf u).toNat)
  case atStart=>exact ⟨0,qr _,rfl,rfl,Chg.refl _ _⟩
  case round=>
   obtain ⟨k,hk,rfl,hall,hN⟩:=hrel
   have Hall:=qq hall
   have HNw:=qq hN
   clear hall hN
   by_cases hlt:k < n
   ·obtain ⟨t,ht⟩:∃ t,ts[k]? =some t:=⟨_,qz (by rw [←HN.out];exact hlt)⟩
    obtain ⟨v,hv⟩:∃ v,vs[k]? =some v:=⟨_,qz (by rw [←HNv.out];exact hlt)⟩
    obtain ⟨cs,hcs⟩:∃ cs,css[k]? =some cs:=⟨_,qz (by rw [Hts.out.len, ←HN.out];exact hlt)⟩
    obtain ⟨ad,rfl,hrw⟩:=Hts.out.src (by rw [Hts.out.len, ←HN.out];omega)
    obtain ⟨av,rfl,hrv⟩:=Hvs.out (by rw [qd, ←HNv.out];omega)
    have hww:New w wr:=HC2.out.trans HNw.out qdr
    have hat:=(hrw k cs hcs).2.chg hww id
    have hatv:=(hrv k (vcs v) (by rw [qa,hv];rfl)).2.chg hww id
    have htm:=(Hts.out.at_ k cs t hcs ht).chg hww
    have h1c:=htm.one
    have hzk:(ts.zip vs)[k]? =some (t,v):=by rw [yu];exact ⟨ht,hv⟩
    have hokk:=Hokt.out t (qf ht)
    have hso:=HO2.out.chg HNw.out qdr
    obtain ⟨t0,t1,t2,t3,t4,t5,t6,rfl⟩:=htm.seven
    have Hat:=qq hat
    have Hatv:=qq hatv
    have Htm:=qq htm
    have H1c:=qq h1c
    have Hzk:=qq hzk
    have Hokk:=qq hokk
    have Hso:=qq hso
    clear hat hatv htm h1c hzk hokk hso hrw hrv hcs ht hv hww
    go_upto_region 7 with first
     | ((with_reducible refine vq rfl (.tmp 27) 64 rfl xy (ad.add (k * 7)) _ ?_ rfl Hat.out ?_);exact rfl)
     | (with_reducible refine gz rfl 64 rfl elTerm.zero ?_;intro w3 cur hc3 hb3 hsz hs3;have HC3:=qq hc3;have HB3:=qq hb3;have Hsz:=qq hsz;clear hc3 hb3 hsz hs3)
     | ((with_reducible refine xq rfl (.tmp 10) (.tmp 28) 64 rfl rfl xy wr.heap.size 64 _ [t0,t1,t2,t3,t4,t5,t6] ?_ ?_ HB3.out rfl Hsz.out H1c.out ?_);exact rfl;exact rfl;intro w4 hc4 hb4 hs4;have HC4:=qq (HC3.out.put hc4 (qh _));have HB4:=qq hb4;clear hc4 hb4 hs4)
    refine vj (by kernel_rfl) ?_
    have hcd:=HC4.out.drew
    have HBd:=qq (show At w4.drew ⟨wr.heap.size,0,none⟩ [t0,t1,t2,t3,t4,t5,t6] from (HB4.out.chg (Chg.refl _ (fun _=>False)).drew id).at_)
    have Hvv:=qq (Hatv.out.chg hcd id)
    have Htd:=qq (Htm.out.chg hcd)
    have Hsd:=qq (Hso.out.chg hcd qdr)
    have Hcd:=qq hcd
    clear hcd HC3 HB3 Hsz HC4 HB4 Hat Hatv H1c Htm
    generalize w4.drew=wd at HBd Hvv Htd Hsd Hcd⊢
    obtain ⟨bx,hbx⟩:=qdp (wr.heap.size)
    rw [hbx] at HBd⊢
    have Hbx:=qq hbx
    clear hbx
    have q0:(0:Int)≤(k:Int):=by omega
    have q1:(k:Int) < (n:Int):=by omega
    refine AtN.segQ2 0 6 (fun
     |0=>.slice As s.length cs0
     |1=>.agg #[t0,t1,t2,t3,t4,t5,t6]
     |2=>.slice (some av) n cv
     |3=>.int .i64 k
     |4=>.pointer (some (av.add (k * 4)))
     |_=>.agg #[.int .i64 v.k,.int .i64 v.i,.string v.t,.slice none 0 0])
     [(29,.slice As s.length cs0),(30,.agg #[t0,t1,t2,t3,t4,t5,t6]),(31,.slice (some av) n cv),(32,.int .i64 k),(33,.pointer (some (av.add (k * 4)))),(34,.agg #[.int .i64 v.k,.int .i64 v.i,.string v.t,.slice none 0 0])] (by kernel_rfl) (by kernel_rfl) (by kernel_rfl) (by kernel_rfl) rfl (fun i hn hi o ho A0 hin hk=>?_) ?_
    ·rcases (show i=0∨i=1∨i=2∨i=3∨i=4∨i=5 by omega) with rfl|rfl|rfl|rfl|rfl|rfl<;>cases ho
     ·exact uo 8 _ rfl (hk 8)
     ·have h10:A0.tmps[10]?.getD undef=.pointer (some ⟨bx,0,none⟩):=hk 10
      exact vu 10 _ rfl xy ⟨bx,0,none⟩ [t0,t1,t2,t3,t4,t5,t6] h10 rfl HBd.out
     ·exact uo 1 _ rfl (hk 1)
     ·exact uo 9 _ rfl (hk 9)
     ·have h31:A0.tmps[31]?.getD undef=.slice (some av) n cv:=hin 2 31
      have h32:A0.tmps[32]?.getD undef=.int .i64 k:=hin 3 32
      exact by simp [go_sem,h31,h32,q0,q1]
     ·have h33:A0.tmps[33]?.getD undef=.pointer (some (av.add (k * 4))):=hin 4 33
      exact vu 33 _ rfl vz (av.add (k * 4)) (vcs v) h33 (vg v) Hvv.out
    simp only [putsL,Act.put,qk,qu,qy]
    have his:=bIs As s.length cs0 s rfl hsl Hsok.out t Hokk.out v wd [t0,t1,t2,t3,t4,t5,t6] (Hsd.out.rows (A:=As) (n:=s.length) (c:=cs0) rfl).2 Htd.out
    obtain ⟨q,hq⟩:=qdp (isV s t v)
    rw [hq] at his
    have His:=qq his
    have Hq:=qq hq
    clear his hq
    refine AtN.list 6 8 (by kernel_rfl) ?_
    change wpList _ _ _ [_,_] _ _
    go_wp2_with (go_at_call 175;refine His.out.mono ?_;rintro e w5 ⟨rfl,hc5⟩;have HC5:=qq (Hcd.out.trans hc5 qdr);clear hc5)
    cases q with
    |true=>
     change AtN _ _ _ 8 _ _
     refine AtN.done rfl ?_
     go_wp2_with fail
     go_roundw
     case rel=>exact ⟨k+1,by omega,by go_num,all_take Hall.out Hzk.out Hq.out,HNw.out.trans HC5.out qdr⟩
     case measure=>simp [intOf];omega
    |false=>
     change AtN _ _ _ 8 _ _
     refine AtN.done rfl ?_
     go_wp2_with fail
     go_ret2
     exact ⟨HC2.out.trans (HNw.out.trans HC5.out qdr) qdr,.inl ⟨HR0.out (all_no Hzk.out Hq.out),rfl⟩⟩
   ·have hall:matchV ts vs env=some s:=HR1.out (by
     have h:=Hall.out
     rwa [qc (by rw [List.length_zip, ←HN.out, ←HNv.out];omega)] at h)
    have HRes:=qq hall
    have HOs:=qq (HO2.out.chg HNw.out qdr)
    have HNr:=qq (HC2.out.trans HNw.out qdr)
    clear hall Hall HR1 HR0 HO2 HC2 HNw Hts Hvs
    go_wp2_with fail
    obtain ⟨wy,hwy⟩:=qdq (wr)
    subst hwy
    go_loopw [40] (fun u40 wx=>∃ (k:Nat),k≤s.length∧u40=.int .i64 k∧New wy wx) (fun u _=>s.length - (intOf u).toNat)
    case atStart=>exact ⟨0,qr _,rfl,Chg.refl _ _⟩
    case round=>
     obtain ⟨j,hj,rfl,hNx⟩:=hrel
     have HNx:=qq hNx
     clear hNx
     by_cases hjl:j < s.length
     ·obtain ⟨p,hp⟩:∃ p,s[j]? =some p:=⟨_,qz hjl⟩
      obtain ⟨g,cap,cur,hsv,hbg,hblk,hcs,hget⟩:=(HOs.out.chg HNx.out qdr).blk (by rw [qd];omega)
      rw [qd] at hsv hcs
      obtain ⟨rfl,rfl⟩:As=some ⟨g,0,none⟩∧cs0=cap:=by injection hsv with h1 _ h3;exact ⟨h1,h3⟩
      have hcell:=hget j (bcs p) (by rw [qa,hp];rfl)
      have hat:At wr ⟨g,j * 5+1,none⟩ [.int .i64 p.2.k,.int .i64 p.2.i,.string p.2.t,.slice none 0 0]:=fun i u hi=>by
       rw [Addr.add_lit,hblk.cell]
       have:=hcell (i+1) u (by simpa [bcs] using hi)
       rwa [show j * 5+(i+1)=j * 5+1+i by omega] at this
      have hsame:layA cur (j * 5+1) (vcs p.2)=cur:=iz (fun i u hi=>by
       have:=hcell (i+1) u (by simpa [bcs,vcs] using hi)
       rwa [show j * 5+(i+1)=j * 5+1+i by omega] at this)
      have hfit:j * 5+1+4≤cur.size:=by omega
      have HAt:=qq hat
      have HSame:=qq hsame
      have HBlk:=qq hblk
      have Hfit:=qq hfit
      clear hat hsame hblk hget hcell hcs hsv hfit hp
      have q0:(0:Int)≤(j:Int):=by omega
      have q1:(j:Int) < (s.length:Int):=by omega
      go_wp2_with first
       | ((with_reducible refine vq rfl (.tmp 48) 62 rfl vz ⟨g,j * 5+1,none⟩ [.int .i64 p.2.k,.int .i64 p.2.i,.string p.2.t,.slice none 0 0] ?_ rfl HAt.out ?_);exact rfl)
       | (go_at_call 152;refine (fi _ p.2).mono ?_;rintro e w6 ⟨rfl,hc6⟩;have HB6:=qq (HBlk.out.chg hc6 id);have HC6:=qq (HNx.out.trans hc6 qdr);clear hc6)
       | ((with_reducible refine vf rfl (.tmp 52) (.tmp 50) 62 rfl vz g (j * 5+1) 191 _ (vcs p.2) ?_ ?_ HB6.out (vg _) Hfit.out (xw p.2) ?_);exact rfl;exact rfl;rw [HSame.out];have HC7:=qq (HC6.out.trans (New.same HB6.out) qdr);generalize w6.setRow g cur=w7 at HC7⊢)
      go_roundw
      case rel=>exact ⟨j+1,by omega,by go_num,HC7.out⟩
      case measure=>simp [intOf];omega
     ·go_wp2_with fail
      go_ret2
      exact ⟨HNr.out.trans HNx.out qdr,.inr ⟨s,_,HRes.out,rfl,HOs.out.chg HNx.out qdr⟩⟩
 ·have hr:matchV ts vs env=none:=by
   unfold matchV
   rw [if_neg (by omega)]
  rw [hr]
  have hd:decide ((n:Int)=(nv:Int))=false:=decide_eq_false (by omega)
  have hd':decide (n=nv)=false:=decide_eq_false hl
  clear hn hnv hts hvs hokt hok hokv hea hes hne
  go_enter Tryz.func147,Tryz.ntmps147
  go_wp2_with fail
  go_ret2
  exact ⟨Chg.refl _ _,.inl ⟨rfl,rfl⟩⟩
open Go.RowKit
structure Acc {α:Type} (n:Nat) (J:List α→(Nat→Prop)→World→Prop):Prop where
 lt:∀ {pre S W},J pre S W→∀ k,S k→k < W.heap.size
 chg:∀ {pre S W W'},J pre S W→Chg W W' (fun k=>n≤k∧¬ S k)→J pre S W'
def Acc.mono {α:Type} {n n':Nat} {J:List α→(Nat→Prop)→World→Prop} (h:Acc n J) (hn:n≤n'):Acc n' J:=
 ⟨h.lt,fun hj hc=>h.chg hj (hc.mono fun k _ ⟨a,b⟩=>⟨qb hn a,b⟩)⟩
def Yld (P:Program) (l:Nat) (v:Value) (W:World) (R:Bool→World→Prop):Prop:=
 ∀ m,YieldAt Fence.wide m P l #[v] W fun e W'=>∃ b,e=.returned (.bool b)∧R b W'
def Stp {α:Type} (J:List α→(Nat→Prop)→World→Prop) (xs:List α) (S:Nat→Prop) (W W':World):Prop:=
 ∃ S',J xs S' W'∧Chg W W' S∧∀ k,S' k→S k∨W.heap.size≤k
def ItGives {α:Type} (P:Program) (gf:FuncId) (lb:Array Value) (enc:α→Value→(Nat→Prop)→World→Prop) (xs:List α) (S:Nat→Prop) (w:World) (Jx:List α→(Nat→Prop)→World→Prop):Prop:=
 ∀ (l:Nat) (J:List α→(Nat→Prop)→World→Prop) (S':Nat→Prop) (W:World),Acc w.heap.size J→J [] S' W→Chg w W S→(∀ k,S' k→S k∨w.heap.size≤k)→
  (∀ pre x rest S1 v W1,xs=pre++x::rest→J pre S1 W1→enc x v S1 W1→
   Yld P l v W1 fun b W2=>if b=true then Stp J (pre++[x]) S1 W1 W2 else Stp Jx (pre++[x]) S1 W1 W2)→
  CallsIn Fence.wide 0 P gf (#[.func (.yield l) #[] #[]]++lb) W fun e W'=>(∃ v,e=.returned v)∧(Stp J xs S' W W'∨∃ pre x rest,xs=pre++x::rest∧Stp Jx (pre++[x]) S' W W')
def rndPost {α:Type} (I:List α→(Nat→Prop)→World→Prop) (Ix:Code→List α→(Nat→Prop)→World→Prop) (xs:List α) (S:Nat→Prop) (W:World):Exit→Act→World→Prop
 | .normal,_,W'=>Stp I xs S W W'
 | .ret,_,W'=>Stp (Ix .ret) xs S W W'
 | .exit id,_,W'=>Stp (Ix (.exit id)) xs S W W'
 | .goto t,_,W'=>Stp (Ix (.goto t)) xs S W W'
 | .panic _,_,_=>False
 | .outgrown,_,_=>False
def Stp.trans {α:Type} {J:List α→(Nat→Prop)→World→Prop} {ys:List α} {S S1:Nat→Prop} {W W1 W2:World} (hc:Chg W W1 S) (hs:∀ k,S1 k→S k∨W.heap.size≤k) (h:Stp J ys S1 W1 W2):Stp J ys S W W2:=by
 obtain ⟨S2,hj,hc2,hs2⟩:=h
 refine ⟨S2,hj,hc.trans hc2 (fun k hk h1=>?_),fun k hk=>?_⟩
 ·rcases hs k h1 with h|h
  ·exact h
  ·omega
 ·rcases hs2 k hk with h|h
  ·exact hs k h
  ·exact .inr (qb hc.size h)
def Bck {α:Type} (J:List α→(Nat→Prop)→World→Prop) (xs:List α) (S:Nat→Prop) (l:Nat) (o:Obj) (W1 W2:World):Prop:=
 ∃ S',J xs S' W2∧Chg W1 W2 (fun k=>S k∨k=l)∧(∀ k,S' k→S k∨W1.heap.size≤k)∧W2.heap[l]? =some o
section core
variable {P:Program} {α:Type} {assign body:Code} {tmps:Array Value} {p:Tmp}
def tz {gf:FuncId} {lb:Array Value} {enc:α→Value→(Nat→Prop)→World→Prop} {xs:List α} {S:Nat→Prop} {w W1:World}
  {I:List α→(Nat→Prop)→World→Prop} {Ix:Code→List α→(Nat→Prop)→World→Prop} (hI:Acc w.heap.size I) (hIx:∀ c,Acc w.heap.size (Ix c))
  (hseq:∀ Jx,Acc w.heap.size Jx→ItGives P gf lb enc xs S w Jx) (h0:I [] S w) (rec:LoopState→Option Code→Loop)
  (fn:FuncId) (D:Nat) (hrec:rec=fun st pe=>{ state:=st,pending:=pe,fn,tmps:=tmps,params:=#[p],assign,body,defers:=D }) (l:Nat) (hl0:w.heap.size≤l) (hl:W1.heap[l]? =some (.loop (rec .ready none))) (hn:New w W1)
  (henc:∀ {x v S1 S2 W},enc x v S1 W→(∀ k,S2 k→S1 k)→enc x v S2 W)
  (hround:∀ pre x rest S1 v W,xs=pre++x::rest→l < W.heap.size→(∃ r,W.heap[l]? =some (.loop r))→¬ S1 l→I pre S1 W→enc x v S1 W→
   assign.wpIn (Fence.wide.inRound l) 0 P (Exit.then (fun a1 Wa=>New W Wa∧∀ W2,Chg W W2 (fun k=>k=l)→Chg Wa W2 (fun k=>k=l)→(∃ r,W2.heap[l]? =some (.loop r))→I pre S1 W2→
    body.wpIn (Fence.wide.inRound l) 0 P (rndPost I Ix (pre++[x]) S1 W2) a1 W2) (fun _ _ _=>False)) { tmps:=tmps.setIfInBounds p v,defers:=[] } W):
  CallsIn Fence.wide 0 P gf (#[.func (.yield l) #[] #[]]++lb) W1 fun e W2=>(∃ v,e=.returned v)∧
   (Bck I xs S l (.loop (rec .ready none)) W1 W2∨∃ c pre x rest,xs=pre++x::rest∧Bck (Ix c) (pre++[x]) S l (.loop (rec .done (some c))) W1 W2):=by
 have hSl:∀ k,S k→k < w.heap.size:=fun k hk=>hI.lt h0 k hk
 have hlW:l < W1.heap.size:=xf hl
 have hJ:∀ {I:List α→(Nat→Prop)→World→Prop} (hI:Acc w.heap.size I) (o:Obj),Acc w.heap.size (fun pre S' W=>∃ Sc,S'=(fun k=>Sc k∨k=l)∧¬ Sc l∧I pre Sc W∧W.heap[l]? =some o):=by
  intro I hI o
  constructor
  ·rintro pre S' W ⟨Sc,rfl,hn,hi,ho⟩ k (hk|rfl)
   ·exact hI.lt hi k hk
   ·exact xf ho
  ·rintro pre S' W W' ⟨Sc,rfl,hn,hi,ho⟩ hc
   refine ⟨Sc,rfl,hn,hI.chg hi (hc.mono fun k _ ⟨a,b⟩=>⟨a,fun h=>b (.inl h)⟩),(hc.block l (xf ho) (fun h=>h.2 (.inr rfl))).trans ho⟩
 refine (hseq (fun pre S' W=>∃ c,∃ Sc,S'=(fun k=>Sc k∨k=l)∧¬ Sc l∧Ix c pre Sc W∧W.heap[l]? =some (.loop (rec .done (some c)))) ⟨?_,?_⟩ l
  (fun pre S' W=>∃ Sc,S'=(fun k=>Sc k∨k=l)∧¬ Sc l∧I pre Sc W∧W.heap[l]? =some (.loop (rec .ready none))) (fun k=>S k∨k=l) W1 (hJ hI _)
  ⟨S,rfl,fun h=>by have:=hSl l h;omega,hI.chg h0 (hn.mono fun k _ h=>h.elim),hl⟩ (hn.mono fun k _ h=>h.elim) (fun k h=>by rcases h with h|rfl;exact .inl h;exact .inr hl0) ?_).mono ?_
 ·rintro pre S' W ⟨c,h⟩ k hk
  exact (hJ (hIx c) _).lt h k hk
 ·rintro pre S' W W' ⟨c,h⟩ hc
  exact ⟨c,(hJ (hIx c) _).chg h hc⟩
 ·rintro pre x rest S1 v W hxs ⟨Sc,rfl,hnl,hi,hr⟩ he m
  have hy:=run_yield (P:=P) (args:=#[v]) hr (by rw [hrec];rfl)
  have hlW2:=xf hr
  refine ⟨fn,tmps.setIfInBounds p v,assign,body,?_,?_⟩
  ·rw [hy,hrec]
   simp
  have key:=hround pre x rest Sc v W hxs hlW2 ⟨_,hr⟩ hnl hi (henc he fun k hk=>.inl hk)
  refine roundIn_of_wpIn (n:=m) trivial ?_
  have hm:∀ {c:Code} {Q:Exit→Act→World→Prop} {a:Act} {w:World},c.wpIn (Fence.wide.inRound l) 0 P Q a w→c.wpIn (Fence.wide.inRound l) m P Q a w:=by
   intro c Q a w h b k cs hro hb hroom
   exact h b k cs hro hb (room_wide _)
  refine hm (Go.wpIn_mono key ?_)
  intro e a1 Wa hq
  cases e with
  |normal=>
   obtain ⟨hna,hk⟩:=hq
   have hra:Wa.heap[l]? =some (.loop (rec .ready none)):=(hna.block l hlW2 (fun h=>h)).trans hr
   refine ⟨_,run_beginRound hra (by rw [hrec]),?_⟩
   have hca:Chg Wa (Wa.putObj l (.loop { rec .ready none with state:=.busy })) (fun k=>k=l):=(Chg.of_grown (grownBy_putObj' Wa l _)).mono fun k _ h=>by cases h;rfl
   have hcw:Chg W (Wa.putObj l (.loop { rec .ready none with state:=.busy })) (fun k=>k=l):=(hna.mono (T':=fun k=>k=l) fun k _ h=>h.elim).trans hca fun k _ h=>h
   have hr2:(Wa.putObj l (.loop { rec .ready none with state:=.busy })).heap[l]? =some (.loop { rec .ready none with state:=.busy }):=World.putObj_heap_same (xf hra)
   have hi2:I pre Sc (Wa.putObj l (.loop { rec .ready none with state:=.busy })):=hI.chg hi (hcw.mono fun k _ h=>by subst h;exact ⟨hl0,hnl⟩)
   refine hm (Go.wpIn_mono (hk _ hcw hca ⟨_,hr2⟩ hi2) ?_)
   have hlP:l < (Wa.putObj l (.loop { rec .ready none with state:=.busy })).heap.size:=xf hr2
   have fin:∀ {J:List α→(Nat→Prop)→World→Prop} (hA:Acc w.heap.size J) (jump:Option Code) (W3:World),Stp J (pre++[x]) Sc (Wa.putObj l (.loop { rec .ready none with state:=.busy })) W3→
     (Instr.endRound l jump).run P W3=.ok (.bool jump.isNone) (W3.putObj l (.loop (rec (if jump.isNone then .ready else .done) jump)))∧
     Stp (fun pre S' W=>∃ Sc,S'=(fun k=>Sc k∨k=l)∧¬ Sc l∧J pre Sc W∧W.heap[l]? =some (.loop (rec (if jump.isNone then .ready else .done) jump))) (pre++[x]) (fun k=>Sc k∨k=l) W (W3.putObj l (.loop (rec (if jump.isNone then .ready else .done) jump))):=by
    rintro J hA jump W3 ⟨S3,hj,hc3,hs3⟩
    have hr3:W3.heap[l]? =some (.loop { rec .ready none with state:=.busy }):=(hc3.block l hlP hnl).trans hr2
    have hn3:¬ S3 l:=fun h=>by
     rcases hs3 l h with h|h
     ·exact hnl h
     ·omega
    have hend:=run_endRound (P:=P) jump hr3
    have hc4:Chg W3 (W3.putObj l (.loop (rec (if jump.isNone then .ready else .done) jump))) (fun k=>k=l):=(Chg.of_grown (grownBy_putObj' W3 l _)).mono fun k _ h=>by cases h;rfl
    refine ⟨by rw [hend,hrec],fun k=>S3 k∨k=l,⟨S3,rfl,hn3,hA.chg hj (hc4.mono fun k _ h=>by subst h;exact ⟨hl0,hn3⟩),World.putObj_heap_same (xf hr3)⟩,?_,?_⟩
    ·refine ((hcw.mono (T':=fun k=>Sc k∨k=l) fun k _ h=>.inr h).trans hc3 fun k _ h=>.inl h).trans hc4 fun k _ h=>.inr h
    ·rintro k (h|h)
     ·rcases hs3 k h with h|h
      ·exact .inl (.inl h)
      ·exact .inr (qb hcw.size h)
     ·exact .inl (.inr h)
   intro e a3 W3 hp
   cases e with
   |normal=>
    obtain ⟨hrun,hs⟩:=fin hI none W3 hp
    exact ⟨_,_,hrun,true,rfl,by dsimp only;rw [if_pos rfl];exact hs⟩
   |ret=>
    obtain ⟨hrun,S3,hj,hr⟩:=fin (hIx _) (some .ret) W3 hp
    exact ⟨_,_,hrun,false,rfl,by dsimp only;rw [if_neg jp];exact ⟨S3,⟨_,hj⟩,hr⟩⟩
   |exit id=>
    obtain ⟨hrun,S3,hj,hr⟩:=fin (hIx _) (some (.exit id)) W3 hp
    exact ⟨_,_,hrun,false,rfl,by dsimp only;rw [if_neg jp];exact ⟨S3,⟨_,hj⟩,hr⟩⟩
   |goto t=>
    obtain ⟨hrun,S3,hj,hr⟩:=fin (hIx _) (some (.goto t)) W3 hp
    exact ⟨_,_,hrun,false,rfl,by dsimp only;rw [if_neg jp];exact ⟨S3,⟨_,hj⟩,hr⟩⟩
   |panic ch=>exact hp.elim
   |outgrown=>exact hp.elim
  |_=>exact hq.elim
 ·rintro e W2 ⟨hv,h⟩
  refine ⟨hv,?_⟩
  have stp:∀ {J:List α→(Nat→Prop)→World→Prop} {ys:List α} {S2 Sc:Nat→Prop} {o:Obj},S2=(fun k=>Sc k∨k=l)→J ys Sc W2→Chg W1 W2 (fun k=>S k∨k=l)→(∀ k,S2 k→(S k∨k=l)∨W1.heap.size≤k)→¬ Sc l→W2.heap[l]? =some o→Bck J ys S l o W1 W2:=by
   intro J ys S2 Sc o e hj hc hs hnl ho
   subst e
   refine ⟨Sc,hj,hc,fun k hk=>?_,ho⟩
   rcases hs k (.inl hk) with (h|rfl)|h
   ·exact .inl h
   ·exact absurd hk hnl
   ·exact .inr h
  rcases h with ⟨S2,⟨Sc,he,hnl,hi,hr⟩,hc,hs⟩| ⟨pre,x,rest,hxs,S2,⟨c,Sc,he,hnl,hi,hr⟩,hc,hs⟩
  ·exact .inl (stp he hi hc hs hnl hr)
  ·exact .inr ⟨c,pre,x,rest,hxs,stp he hi hc hs hnl hr⟩
def Bck.shut {J:List α→(Nat→Prop)→World→Prop} {xs:List α} {S:Nat→Prop} {w W1 W2:World} {l:Nat} {r:Loop} (hJ:Acc w.heap.size J) (hSl:∀ k,S k→k < w.heap.size) (hl0:w.heap.size≤l) (hlW:l < W1.heap.size) (hn:New w W1)
  (h:Bck J xs S l (.loop r) W1 W2) (o:Obj):∃ S',J xs S' (W2.putObj l o)∧Chg w (W2.putObj l o) S∧(∀ k,S' k→S k∨W1.heap.size≤k)∧∀ k,k < W1.heap.size→w.heap.size≤k→k≠l→(W2.putObj l o).heap[k]? =W1.heap[k]? :=by
 obtain ⟨S',hj,hc,hs,ho⟩:=h
 have hnl:¬ S' l:=fun h=>by
  rcases hs l h with h|h
  ·have:=hSl l h;omega
  ·omega
 have hc4:Chg W2 (W2.putObj l o) (fun k=>k=l):=(Chg.of_grown (grownBy_putObj' W2 l _)).mono fun k _ h=>by cases h;rfl
 refine ⟨S',hJ.chg hj (hc4.mono fun k _ h=>by subst h;exact ⟨hl0,hnl⟩),?_,hs,fun k hk hk0 hne=>?_⟩
 ·refine ((hn.mono (T':=S) fun k _ h=>h.elim).trans hc (fun k hk h=>?_)).trans hc4 fun k hk h=>?_
  ·rcases h with h|rfl
   ·exact h
   ·omega
  ·subst h;omega
 ·refine (hc4.block k (zd hk hc.size) hne).trans (hc.block k hk ?_)
  rintro (h|h)
  ·have:=hSl k h;omega
  ·exact hne h
def px {g:Operand} {Q:Exit→Act→World→Prop} {a:Act} {gf:FuncId} {lb:Array Value} {enc:α→Value→(Nat→Prop)→World→Prop} {xs:List α} {S:Nat→Prop} {w:World}
  (hg:a.eval g=.func (.func gf) #[] lb) (eg:∀ args w,(callFunc gf args).run P w=.ok (.enter gf args) w)
  (I:List α→(Nat→Prop)→World→Prop) (Ix:Code→List α→(Nat→Prop)→World→Prop) (hI:Acc w.heap.size I) (hIx:∀ c,Acc w.heap.size (Ix c))
  (hseq:∀ Jx,Acc w.heap.size Jx→ItGives P gf lb enc xs S w Jx) (h0:I [] S w)
  (henc:∀ {x v S1 S2 W},enc x v S1 W→(∀ k,S2 k→S1 k)→enc x v S2 W)
  (hround:∀ l pre x rest S1 v W,xs=pre++x::rest→w.heap.size≤l→l < W.heap.size→(∃ r,W.heap[l]? =some (.loop r))→¬ S1 l→I pre S1 W→enc x v S1 W→
   assign.wpIn (Fence.wide.inRound l) 0 P (Exit.then (fun a1 Wa=>New W Wa∧∀ W2,Chg W W2 (fun k=>k=l)→Chg Wa W2 (fun k=>k=l)→(∃ r,W2.heap[l]? =some (.loop r))→I pre S1 W2→
    body.wpIn (Fence.wide.inRound l) 0 P (rndPost I Ix (pre++[x]) S1 W2) a1 W2) (fun _ _ _=>False)) { tmps:=a.tmps.setIfInBounds p v,defers:=[] } W)
  (hdone:∀ D S' W,w.heap.size≤D→W.heap[D]? =some (.deferred (some []))→I xs S' W→Chg w W S→(∀ k,S' k→S k∨w.heap.size≤k)→¬ S' D→Q .normal { a with defers:={ target:=.collected D,args:=#[] }::a.defers } W)
  (hstop:∀ D c pre x rest S' W,xs=pre++x::rest→w.heap.size≤D→W.heap[D]? =some (.deferred (some []))→Ix c (pre++[x]) S' W→Chg w W S→(∀ k,S' k→S k∨w.heap.size≤k)→¬ S' D→
   c.wp P Q { a with defers:={ target:=.collected D,args:=#[] }::a.defers } W):
  (Code.rangeFunc g #[p] assign body).wp P Q a w:=by
 refine (wpIn_wide (n:=0)).1 ?_
 refine wpIn_rangeFunc ?_
 intro fn _
 have hSl:∀ k,S k→k < w.heap.size:=fun k hk=>hI.lt h0 k hk
 obtain ⟨rec,hrec⟩:∃ rec:LoopState→Option Code→Loop,rec=fun st pe=>{ state:=st,pending:=pe,fn,tmps:=a.tmps,params:=#[p],assign,body,defers:=w.heap.size }:=⟨_,rfl⟩
 obtain ⟨W1,hW1⟩:=qdp ((w.alloc (.deferred (some []))).alloc (.loop (rec .ready none)))
 have hL1:W1.heap[w.heap.size+1]? =some (.loop (rec .ready none)):=by
  rw [←hW1];have:=World.alloc_heap_new (w.alloc (.deferred (some []))) (.loop (rec .ready none));rwa [World.size_alloc] at this
 have hK1:W1.heap[w.heap.size]? =some (.deferred (some [])):=by
  rw [←hW1];exact (Below.heap_alloc _ _ _ (by simp)).trans (World.alloc_heap_new w _)
 have hn1:New w W1:=by rw [←hW1];exact ((Chg.refl w _).alloc _).alloc _
 have hsz:W1.heap.size=w.heap.size+2:=by rw [←hW1];simp
 refine ⟨w.heap.size+1,[{ target:=.collected w.heap.size,args:=#[] }],W1,{ target:=.fn (.func gf) lb,args:=#[.func (.yield (w.heap.size+1)) #[] #[]] },W1,gf,
  #[.func (.yield (w.heap.size+1)) #[] #[]]++lb,W1,?_,?_,fun _ _=>trivial,?_,fun h=>absurd h (by simp [Fence.wide,Fence.inRound]),?_⟩
 ·rw [←hW1,hrec];exact run_enterLoop_outer _ _ _ _ _
 ·simp only [resolve,hg]
  simp [go_sem]
 ·simp [invoke,go_sem,eg]
 ·refine (tz hI hIx hseq h0 rec fn w.heap.size hrec (w.heap.size+1) (by omega) hL1 hn1 henc ?_).mono ?_
  ·intro pre x rest S1 v W hxs hl hlr hn hi he
   exact hround _ pre x rest S1 v W hxs (by omega) hl hlr hn hi he
  ·rintro e W2 ⟨⟨v,rfl⟩,h⟩
   have tail:∀ {J:List α→(Nat→Prop)→World→Prop} {ys:List α} {r:Loop},Acc w.heap.size J→Bck J ys S (w.heap.size+1) (.loop r) W1 W2→r.state≠.busy→
     ∃ S' W3,(Instr.endLoop (w.heap.size+1)).run P W2=.ok r.pending W3∧J ys S' W3∧Chg w W3 S∧(∀ k,S' k→S k∨w.heap.size≤k)∧¬ S' w.heap.size∧W3.heap[w.heap.size]? =some (.deferred (some [])):=by
    intro J ys r hJ hb hne
    obtain ⟨_,_,_,_,ho⟩:=id hb
    have hrun:=run_endLoop (P:=P) ho hne
    obtain ⟨S',hj,hc,hs,hk⟩:=hb.shut hJ hSl (by omega) (by omega) hn1 (.loop { r with state:=.exhausted })
    refine ⟨S',_,hrun,hj,hc,fun k hk=>?_,fun h=>?_,(hk _ (by omega) (qh _) (by omega)).trans hK1⟩
    ·rcases hs k hk with h|h
     ·exact .inl h
     ·exact .inr (by omega)
    ·rcases hs _ h with h|h
     ·have:=hSl _ h;omega
     ·omega
   rcases h with h| ⟨c,pre,x,rest,hxs,h⟩
   ·obtain ⟨S',W3,hrun,hj,hc,hs,hnD,hD⟩:=tail hI h (by rw [hrec];simp)
    rw [hrec] at hrun
    exact ⟨none,W3,hrun,hdone _ S' W3 (qh _) hD hj hc hs hnD⟩
   ·obtain ⟨S',W3,hrun,hj,hc,hs,hnD,hD⟩:=tail (hIx c) h (by rw [hrec];simp)
    rw [hrec] at hrun
    exact ⟨some c,W3,hrun,wpIn_wide.2 (hstop _ c pre x rest S' W3 hxs (qh _) hD hj hc hs hnD)⟩
def dj {g:Operand} {Q:Exit→Act→World→Prop} {a:Act} {gf:FuncId} {lb:Array Value} {enc:α→Value→(Nat→Prop)→World→Prop} {xs:List α} {S:Nat→Prop} {w:World} {l₀:Nat} (hl₀:∃ r₀,w.heap[l₀]? =some (.loop r₀))
  (hg:a.eval g=.func (.func gf) #[] lb) (eg:∀ args w,(callFunc gf args).run P w=.ok (.enter gf args) w)
  (I:List α→(Nat→Prop)→World→Prop) (Ix:Code→List α→(Nat→Prop)→World→Prop) (hI:Acc w.heap.size I) (hIx:∀ c,Acc w.heap.size (Ix c))
  (hseq:∀ Jx,Acc w.heap.size Jx→ItGives P gf lb enc xs S w Jx) (h0:I [] S w)
  (henc:∀ {x v S1 S2 W},enc x v S1 W→(∀ k,S2 k→S1 k)→enc x v S2 W)
  (hround:∀ l pre x rest S1 v W,xs=pre++x::rest→w.heap.size≤l→l < W.heap.size→(∃ r,W.heap[l]? =some (.loop r))→¬ S1 l→I pre S1 W→enc x v S1 W→
   assign.wpIn (Fence.wide.inRound l) 0 P (Exit.then (fun a1 Wa=>New W Wa∧∀ W2,Chg W W2 (fun k=>k=l)→Chg Wa W2 (fun k=>k=l)→(∃ r,W2.heap[l]? =some (.loop r))→I pre S1 W2→
    body.wpIn (Fence.wide.inRound l) 0 P (rndPost I Ix (pre++[x]) S1 W2) a1 W2) (fun _ _ _=>False)) { tmps:=a.tmps.setIfInBounds p v,defers:=[] } W)
  (hdone:∀ S' W,I xs S' W→Chg w W S→(∀ k,S' k→S k∨w.heap.size≤k)→Q .normal a W)
  (hstop:∀ c pre x rest S' W,xs=pre++x::rest→Ix c (pre++[x]) S' W→Chg w W S→(∀ k,S' k→S k∨w.heap.size≤k)→c.wpIn (Fence.wide.inRound l₀) 0 P Q a W):
  (Code.rangeFunc g #[p] assign body).wpIn (Fence.wide.inRound l₀) 0 P Q a w:=by
 obtain ⟨r₀,hr₀⟩:=hl₀
 refine wpIn_rangeFunc ?_
 intro fn _
 have hSl:∀ k,S k→k < w.heap.size:=fun k hk=>hI.lt h0 k hk
 obtain ⟨rec,hrec⟩:∃ rec:LoopState→Option Code→Loop,rec=fun st pe=>{ state:=st,pending:=pe,fn,tmps:=a.tmps,params:=#[p],assign,body,defers:=r₀.defers }:=⟨_,rfl⟩
 obtain ⟨W1,hW1⟩:=qdp (w.alloc (.loop (rec .ready none)))
 have hL1:W1.heap[w.heap.size]? =some (.loop (rec .ready none)):=by rw [←hW1];exact World.alloc_heap_new w _
 have hn1:New w W1:=by rw [←hW1];exact (Chg.refl w _).alloc _
 have hsz:W1.heap.size=w.heap.size+1:=by rw [←hW1];simp
 refine ⟨w.heap.size,[],W1,{ target:=.fn (.func gf) lb,args:=#[.func (.yield w.heap.size) #[] #[]] },W1,gf,
  #[.func (.yield w.heap.size) #[] #[]]++lb,W1,?_,?_,fun _ _=>trivial,?_,fun h=>absurd h (by simp [Fence.wide,Fence.inRound]),?_⟩
 ·rw [←hW1,hrec];exact run_enterLoop_inner hr₀ _ _ _ _ _
 ·simp only [resolve,hg]
  simp [go_sem]
 ·simp [invoke,go_sem,eg]
 ·refine CallsIn.inRound l₀ ((tz hI hIx hseq h0 rec fn r₀.defers hrec w.heap.size (qh _) hL1 hn1 henc ?_).mono ?_)
  ·intro pre x rest S1 v W hxs hl hlr hn hi he
   exact hround _ pre x rest S1 v W hxs (qh _) hl hlr hn hi he
  ·rintro e W2 ⟨⟨v,rfl⟩,h⟩
   have tail:∀ {J:List α→(Nat→Prop)→World→Prop} {ys:List α} {r:Loop},Acc w.heap.size J→Bck J ys S w.heap.size (.loop r) W1 W2→r.state≠.busy→
     ∃ S' W3,(Instr.endLoop w.heap.size).run P W2=.ok r.pending W3∧J ys S' W3∧Chg w W3 S∧(∀ k,S' k→S k∨w.heap.size≤k):=by
    intro J ys r hJ hb hne
    obtain ⟨_,_,_,_,ho⟩:=id hb
    have hrun:=run_endLoop (P:=P) ho hne
    obtain ⟨S',hj,hc,hs,hk⟩:=hb.shut hJ hSl (qh _) (by omega) hn1 (.loop { r with state:=.exhausted })
    refine ⟨S',_,hrun,hj,hc,fun k hk=>?_⟩
    rcases hs k hk with h|h
    ·exact .inl h
    ·exact .inr (by omega)
   rcases h with h| ⟨c,pre,x,rest,hxs,h⟩
   ·obtain ⟨S',W3,hrun,hj,hc,hs⟩:=tail hI h (by rw [hrec];simp)
    rw [hrec] at hrun
    exact ⟨none,W3,hrun,hdone S' W3 hj hc hs⟩
   ·obtain ⟨S',W3,hrun,hj,hc,hs⟩:=tail (hIx c) h (by rw [hrec];simp)
    rw [hrec] at hrun
    exact ⟨some c,W3,hrun,hstop c pre x rest S' W3 hxs hj hc hs⟩
end core
def Wd (F:Fence):Prop:=F=Fence.wide∨∃ l,F=Fence.wide.inRound l
def Wd.wide:Wd Fence.wide:=.inl rfl
def Wd.round (l:Nat):Wd (Fence.wide.inRound l):=.inr ⟨l,rfl⟩
def Wd.fn {F:Fence} (h:Wd F) (f:FuncId):F.fn f:=by rcases h with rfl| ⟨l,rfl⟩ <;> trivial
def Wd.depth {F:Fence} (h:Wd F) (n:Nat):F.depth.isSome=true→1≤n:=by rcases h with rfl| ⟨l,rfl⟩ <;> intro h <;> cases h
def Wd.calls {F:Fence} (h:Wd F) {n:Nat} {P:Program} {f:FuncId} {args:Array Value} {w:World} {R:Ending→World→Prop} (hc:Calls P f args w R):CallsIn F n P f args w R:=by
 rcases h with rfl| ⟨l,rfl⟩
 ·exact callsIn_wide.2 hc
 ·exact CallsIn.inRound l (callsIn_wide.2 hc)
def Wd.rows {F:Fence} (h:Wd F) {n:Nat} {P:Program} {row:String} {args:Array Value} {w:World} {R:Value→World→Prop} (hc:Rows P row args w R):RowsIn F n P row args w R:=by
 have h0:RowsIn Fence.wide n P row args w R:=fun c cs _=>let ⟨v,w',r,s⟩:=hc c cs;⟨v,w',r,stepsIn_wide.2 s⟩
 rcases h with rfl| ⟨l,rfl⟩
 ·exact h0
 ·exact h0
def Wd.roundIn {F:Fence} (h:Wd F) {n:Nat} {P:Program} {l:Nat} {f:FuncId} {tmps:Array Value} {assign body:Code} {w:World} {R:Ending→World→Prop} (hc:RoundIn Fence.wide n P l f tmps assign body w R):RoundIn F n P l f tmps assign body w R:=by
 rcases h with rfl| ⟨l,rfl⟩
 ·exact hc
 ·exact hc
def noDefer (l:List Oper):Bool:=l.all fun o=>match o.op with| .defer _=>false|_=>true
section
variable {F:Fence} {n:Nat} {P:Program} {ops:Array Oper} {Q:Exit→Act→World→Prop} {rest:List Oper}
def liftL (hF:Wd F):∀ (l:List Oper),noDefer l=true→∀ (a:Act) (w:World),wpList P ops (Exit.then (fun a w=>wpListIn F n P ops Q rest a w) (fun _ _ _=>False)) l a w→wpListIn F n P ops Q (l++rest) a w
 | [],_,a,w,h=>h
 |o::l,hd,a,w,h=>by
  have hd':noDefer l=true:=by unfold noDefer at hd⊢;rw [List.all_cons,qt] at hd;exact hd.2
  have hdo:∀ c,o.op≠.defer c:=by
   unfold noDefer at hd
   rw [List.all_cons,qt] at hd
   intro c hc
   rw [hc] at hd
   exact absurd hd.1 (by simp)
  have ih:=fun a w=>liftL hF l hd' a w
  show wpListIn F n P ops Q (o::(l++rest)) a w
  unfold wpListIn
  unfold wpList at h
  by_cases hw:Region.wanted o (yielded ops a.tmps)=true
  ·rw [if_pos hw] at h⊢
   have h1:o.wp P a w (wpList P ops (Exit.then (fun a w=>wpListIn F n P ops Q rest a w) (fun _ _ _=>False)) l) (Exit.then (fun a w=>wpListIn F n P ops Q rest a w) (fun _ _ _=>False)):=by
    rcases h with h| ⟨_,⟨_,_,h⟩⟩
    ·exact h
    ·exact h.elim
   refine ⟨fun f _=>hF.fn f,?_⟩
   rw [Oper.semAt_plain F _ _ hdo]
   unfold Oper.wp at h1
   generalize (execOp a.eval o).run P w=r at h1⊢
   match r,h1 with
   | .ok (.value v) w',h1=>exact ih _ _ h1
   | .ok .skip w',h1=>exact ih _ _ h1
   | .ok (.defer d) w',h1=>exact ih _ _ h1
   | .ok (.enter f args) w',h1=>
    refine ⟨hF.depth n,hF.calls (Calls.mono h1 ?_)⟩
    intro e w'' he
    cases e with
    |returned v=>exact ih _ _ he
    |panicked c=>exact he.elim
    |outgrown=>obtain ⟨_,_,he⟩:=he;exact he.elim
   | .ok (.row row args) w',h1=>exact ⟨hF.depth n,hF.rows (Rows.mono h1 fun v w'' he=>ih _ _ he)⟩
   | .halt (.panic v) w',h1=>exact h1.elim
  ·rw [if_neg hw] at h⊢
   exact ⟨fun f _=>hF.fn f,ih _ _ h⟩
def xo (hF:Wd F) (k:Nat) {l:List Oper} {a:Act} {w:World} (hd:noDefer (l.take k)=true) (h:wpList P ops (Exit.then (fun a w=>wpListIn F n P ops Q (l.drop k) a w) (fun _ _ _=>False)) (l.take k) a w):wpListIn F n P ops Q l a w:=by
 have:=liftL hF (l.take k) hd a w h
 rwa [zm] at this
def gr (hF:Wd F) {o:Oper} {a:Act} {w:World} {l:Nat} {v:Value} {R:Bool→World→Prop} (hw:Region.wanted o (yielded ops a.tmps)=true) (x y:Operand) (t:TypeId) (ho:o.op=.call { callee:=.value x,args:=#[y],argTypes:=#[t] })
  (hx:a.eval x=.func (.yield l) #[] #[]) (hy:a.eval y=v) (hY:Yld P l v w R) (h:∀ b W',R b W'→wpListIn F n P ops Q rest (a.put o.dst (.bool b)) W'):wpListIn F n P ops Q (o::rest) a w:=by
 unfold wpListIn
 rw [if_pos hw]
 refine ⟨fun f _=>hF.fn f,?_⟩
 rw [Oper.semAt_plain F _ _ (by rw [ho];intro c hc;cases hc)]
 obtain ⟨fn,tmps,assign,body,hrun,hR⟩:=hY (n - 1)
 have hr:(execOp a.eval o).run P w=.ok (.round l fn tmps assign body) w:=by
  unfold execOp
  simp [ho,resolve,invoke,hx,hy,Deferred.ofValue,hrun]
 rw [hr]
 refine ⟨hF.depth n,hF.roundIn (hR.mono ?_)⟩
 rintro e W' ⟨b,rfl,hb⟩
 exact h b W' hb
end
abbrev Sta:=Env×Int
inductive Lt where
 |atom (neg:Bool) (name:ByteArray) (args:List Tm)
 |test (j:Nat) (a b:Tm)
 |assign (name:ByteArray) (t:Tm)
def Lt.args:Lt→List Tm
 | .atom _ _ ts=>ts
 | .test _ a b=>[a,b]
 | .assign _ t=>[t]
def Lt.kind:Lt→Int
 | .atom false _ _=>1
 | .atom true _ _=>2
 | .test _ _ _=>3
 | .assign _ _=>4
def Lt.name:Lt→ByteArray
 | .atom _ s _=>s
 | .test j _ _=>opT j
 | .assign s _=>s
def Lt.size (L:Lt):Nat:=L.args.length
def okLt (L:Lt):Prop:=∀ t∈L.args,okTm t
def minI (a b:Int):Int:=if a≤b then a else b
def named (rows:List Rw) (s:ByteArray):List Rw:=rows.filter (fun r=>decide (r.name=s))
def atomS (ts:List Tm) (s:Sta) (r:Rw):Option Sta:=(matchV ts r.args s.1).map (fun e=>(e,minI s.2 r.stamp))
def atomsV (rows:List Rw) (nm:ByteArray) (ts:List Tm) (s:Sta):List Sta:=(named rows nm).filterMap (atomS ts s)
def goesV (rows:List Rw) (L:Lt) (s:Sta):Option Sta:=match L with
 | .atom _ nm ts=>if (atomsV rows nm ts s).isEmpty then some s else none
 | .test j a b=>match evalT s.1 a,evalT s.1 b with
  |some x,some y=>if testV j x y then some s else none
  |_,_=>none
 | .assign nm t=>match evalT s.1 t with
  |some x=>if (lookE s.1 nm).isSome then none else some (s.1++[(nm,x)],s.2)
  |none=>none
def nextV (rows:List Rw) (L:Lt) (s:Sta):List Sta:=match L with
 | .atom false nm ts=>atomsV rows nm ts s
 |L=>(goesV rows L s).toList
def waysV (rows:List Rw):List Lt→Sta→List Sta
 | [],s=>[s]
 |L::Ls,s=>(nextV rows L s).flatMap (waysV rows Ls)
def StAt (x:Sta) (v:Value) (S:Nat→Prop) (W:World):Prop:=∃ A c,v=.agg #[.slice A x.1.length c,.int .i64 x.2]∧x.1.length≤c∧c≤maxLen∧SrcAt W A 5 (x.1.map bcs)∧∀ a,A=some a→a.block < W.heap.size∧¬ S a.block
def StAt.less {x:Sta} {v:Value} {S S2:Nat→Prop} {W:World} (h:StAt x v S W) (hs:∀ k,S2 k→S k):StAt x v S2 W:=by
 obtain ⟨A,c,h1,h2,h3,h4,h5⟩:=h
 exact ⟨A,c,h1,h2,h3,h4,fun a ha=>⟨(h5 a ha).1,fun h=>(h5 a ha).2 (hs _ h)⟩⟩
def StAt.chg {x:Sta} {v:Value} {S S2:Nat→Prop} {W W':World} (h:StAt x v S W) (hc:Chg W W' S) (hs:∀ k,S2 k→S k∨W.heap.size≤k):StAt x v S2 W':=by
 obtain ⟨A,c,h1,h2,h3,h4,h5⟩:=h
 refine ⟨A,c,h1,h2,h3,h4.chg hc (fun a ha=>(h5 a ha).2),fun a ha=>⟨zd (h5 a ha).1 hc.size,fun h=>?_⟩⟩
 rcases hs _ h with h|h
 ·exact (h5 a ha).2 h
 ·have:=(h5 a ha).1;omega
def StAt.new {x:Sta} {v:Value} {S:Nat→Prop} {W W':World} (h:StAt x v S W) (hc:New W W'):StAt x v S W':=by
 obtain ⟨A,c,h1,h2,h3,h4,h5⟩:=h
 exact ⟨A,c,h1,h2,h3,h4.chg hc (fun a ha=>id),fun a ha=>⟨zd (h5 a ha).1 hc.size,(h5 a ha).2⟩⟩
def StAt.cells {x:Sta} {v:Value} {S:Nat→Prop} {W:World} (h:StAt x v S W):∃ A c,v=.agg #[.slice A x.1.length c,.int .i64 x.2]:=by
 obtain ⟨A,c,h1,_⟩:=h
 exact ⟨A,c,h1⟩
def LtAt (w:World) (cs:List Value) (L:Lt):Prop:=∃ A c css,cs=[.int .i64 L.kind,.string L.name,.slice A L.args.length c]∧TmsAt w A css L.args
def LtAt.chg {w w':World} {cs:List Value} {L:Lt} (h:LtAt w cs L) (hc:New w w'):LtAt w' cs L:=by
 obtain ⟨A,c,css,h1,h2⟩:=h
 exact ⟨A,c,css,h1,h2.chg hc⟩
def MapAt (w:World) (b:Nat) (m:List (ByteArray×Value)):Prop:=∃ es clock,w.heap[b]? =some (.map es clock)∧es.toList.map (fun e=>(e.key,e.val))=m.map (fun p=>(Value.string p.1,p.2))
def MapAt.chg {w w':World} {b:Nat} {m:List (ByteArray×Value)} {T:Nat→Prop} (h:MapAt w b m) (hc:Chg w w' T) (hn:¬ T b):MapAt w' b m:=by
 obtain ⟨es,cl,h1,h2⟩:=h
 exact ⟨es,cl,(hc.block b (xf h1) hn).trans h1,h2⟩
def lookZ (z:Value) (m:List (ByteArray×Value)) (s:ByteArray):Value:=match m.find? (fun p=>decide (p.1=s)) with
 |some p=>p.2
 |none=>z
def lookM (m:List (ByteArray×Value)) (s:ByteArray):Value:=lookZ (.slice none 0 0) m s
def beqB (a b:ByteArray):(a == b)=decide (a=b):=by
 by_cases h:a=b
 ·subst h;rw [decide_eq_true rfl];show (a.data == a.data)=true;exact beq_self_eq_true _
 ·rw [decide_eq_false h];show (a.data == b.data)=false;exact beq_eq_false_iff_ne.2 (fun e=>h (ByteArray.ext e))
def ef (s:ByteArray):∀ (es:List MapEntry) (m:List (ByteArray×Value)) (i:Nat),es.map (fun e=>(e.key,e.val))=m.map (fun p=>(Value.string p.1,p.2))→
  ∃ r,Instr.findNow .string (.string s) es i=some r∧(∀ p,m.find? (fun p=>decide (p.1=s))=some p→∃ j,r=some (j,p.2))∧(m.find? (fun p=>decide (p.1=s))=none→r=none)
 | [],[],i,h=>⟨none,rfl,fun p h=>(by cases h),fun _=>rfl⟩
 | [],p::m,i,h=>by cases h
 |e::es,[],i,h=>by cases h
 |e::es,p::m,i,h=>by
  simp only [yi,List.cons.injEq,Prod.mk.injEq] at h
  obtain ⟨⟨hk,hv⟩,ht⟩:=h
  obtain ⟨r,h1,h2,h3⟩:=ef s es m (i+1) ht
  unfold Instr.findNow
  rw [hk]
  simp only [Instr.sameNow]
  by_cases hs:p.1=s
  ·rw [show (s == p.1)=true by rw [beqB,hs];exact decide_eq_true rfl]
   refine ⟨some (i,e.val),rfl,fun q hq=>?_,fun hq=>?_⟩
   ·rw [List.find?_cons_of_pos (by simpa using hs)] at hq
    cases hq
    exact ⟨i,by rw [hv]⟩
   ·rw [List.find?_cons_of_pos (by simpa using hs)] at hq
    cases hq
  ·rw [show (s == p.1)=false by rw [beqB];exact decide_eq_false (fun h=>hs h.symm)]
   refine ⟨r,h1,fun q hq=>?_,fun hq=>?_⟩
   ·rw [List.find?_cons_of_neg (by simpa using hs)] at hq
    exact h2 q hq
   ·rw [List.find?_cons_of_neg (by simpa using hs)] at hq
    exact h3 hq
def zero_run {e:TypeId} {z:Value} (hi:(Tryz.prog.info? e).map (fun i=>i.zero)=some (some z)) (w:World):(zeroValue e).run Tryz.prog w=.ok z w:=by
 cases hq:Tryz.prog.info? e with
 |none=>rw [hq] at hi;cases hi
 |some i=>
  rw [hq] at hi
  have hi':i.zero=some z:=Option.some.inj hi
  simp [zeroValue,typeInfo,hq,hi']
def fj {t e:TypeId} {z:Value} (ht:Tryz.prog.underlying t=some (.map 9 e)) (hz0:(Tryz.prog.info? e).map (fun i=>i.zero)=some (some z)) {w:World} {b:Nat} {m:List (ByteArray×Value)} (h:MapAt w b m) (s:ByteArray):(Instr.lookup t (.map (some b)) (.string s) false).run Tryz.prog w=.ok (lookZ z m s) w:=by
 obtain ⟨es,cl,hb,hm⟩:=h
 obtain ⟨r,h1,h2,h3⟩:=ef s es.toList m 0 hm
 have hz:=zero_run hz0 w
 have hk:=Tryz.underlying9
 clear hz0
 generalize Tryz.prog=P at ht hk hz⊢
 have hck:∀ e,(Instr.checkKey e 10000 9 (.string s)).run P w=.ok () w:=fun e=>by
  rw [show (10000:Nat)=9999+1 from rfl]
  unfold Instr.checkKey
  simp [underlying,hk]
 have hgo:(getObj b).run P w=.ok (.map es cl) w:=by simp [getObj,Sem.run,hb]
 unfold Instr.lookup
 cases hf:m.find? (fun p=>decide (p.1=s)) with
 |none=>
  obtain rfl:=h3 hf
  simp [underlying,ht,hk,hck,hgo,Instr.findKey,h1,hb,lookZ,hf,hz]
 |some p=>
  obtain ⟨j,rfl⟩:=h2 p hf
  simp [underlying,ht,hk,hck,hgo,Instr.findKey,h1,hb,lookZ,hf]
def bj {w:World} {b:Nat} {m:List (ByteArray×Value)} (h:MapAt w b m) (s:ByteArray):(Instr.lookup 117 (.map (some b)) (.string s) false).run Tryz.prog w=.ok (lookM m s) w:=fj Tryz.underlying117 (by kernel_rfl) h s
def dq {P:Program} {e:TypeId} {z:Value} {k:Nat} (h:(P.info? e).map (fun i=>i.zero)=some (some z)) (hk:z.cells.size=k):∃ i z,P.info? e=some i∧i.zero=some z∧z.cells.size=k:=by
 cases hi:P.info? e with
 |none=>rw [hi] at h;cases h
 |some i=>
  rw [hi] at h
  exact ⟨i,z,rfl,Option.some.inj h,hk⟩
def xb:StT Tryz.prog 123 2:=⟨⟨_,Tryz.underlying123⟩,by kernel_rfl⟩
def th:∃ i z,Tryz.prog.info? 123=some i∧i.zero=some z∧z.cells.size=2:=dq (z:=.agg #[.slice none 0 0,.int .i64 0]) (by kernel_rfl) rfl
def gn:StT Tryz.prog 53 3:=⟨⟨_,Tryz.underlying53⟩,by kernel_rfl⟩
def zLit:∃ i z,Tryz.prog.info? 53=some i∧i.zero=some z∧z.cells.size=3:=dq (z:=.agg #[.int .i64 0,.string ⟨#[]⟩,.slice none 0 0]) (by kernel_rfl) rfl
def zRow:∃ i z,Tryz.prog.info? 42=some i∧i.zero=some z∧z.cells.size=3:=dq (z:=.agg #[.string ⟨#[]⟩,.slice none 0 0,.int .i64 0]) (by kernel_rfl) rfl
def gu (A:Option Addr) (n c:Nat) (i:Int):∀ u∈[Value.slice A n c,.int .i64 i],u.oneCell'=true:=by
 intro u hu
 simp only [qp,qm,or_false] at hu
 rcases hu with rfl|rfl <;> rfl
def rk {a b:Value} (ha:a.oneCell'=true) (hb:b.oneCell'=true):∀ u∈[a,b],u.oneCell'=true:=by
 intro u hu
 simp only [qp,qm,or_false] at hu
 rcases hu with rfl|rfl
 ·exact ha
 ·exact hb
def mj {α β:Type} {f:α→Option β} {l:List α} {k:Nat} {r:α} {x:β} (hr:l[k]? =some r) (hx:f r=some x):l.filterMap f=(l.take k).filterMap f++x::(l.drop (k+1)).filterMap f:=by
 obtain ⟨hlt,he⟩:=qv.1 hr
 have h:l=l.take k++r::l.drop (k+1):=by
  rw [←he,List.getElem_cons_drop,zm]
 conv=>lhs;rw [h]
 rw [yz,List.filterMap_cons_some hx]
def fu {α β:Type} {f:α→Option β} {l:List α} {k:Nat} {r:α} {x:β} (hr:l[k]? =some r) (hx:f r=some x):(l.take (k+1)).filterMap f=(l.take k).filterMap f++[x]:=by
 rw [vh hr,yz,List.filterMap_cons_some hx]
 rfl
def fg {α β:Type} {f:α→Option β} {l:List α} {k:Nat} {r:α} (hr:l[k]? =some r) (hx:f r=none):(l.take (k+1)).filterMap f=(l.take k).filterMap f:=by
 rw [vh hr,yz,List.filterMap_cons_none hx]
 simp
def Stp.then {α:Type} {J':List α→(Nat→Prop)→World→Prop} {ys:List α} {S S1:Nat→Prop} {W W1 W2 W3:World} (hc:Chg W W1 S) (hs:∀ k,S1 k→S k∨W.heap.size≤k) (hn:New W1 W2) (h:Stp J' ys S1 W2 W3):Stp J' ys S W W3:=
 Stp.trans (hc.trans hn (fun _ _ h=>h.elim)) hs h
def GoesPost (W:World) (S:Nat→Prop) (o:Option Sta) (e:Ending) (W':World):Prop:=
 New W W'∧((o=none∧∃ a b,a.oneCell'=true∧b.oneCell'=true∧e=.returned (.tuple #[.agg #[a,b],.bool false]))∨∃ x v,o=some x∧e=.returned (.tuple #[v,.bool true])∧StAt x v S W')
attribute [local go_sem] Oper.semAt_some
def g43 (w:World) (S:Nat→Prop) (Jx:List Sta→(Nat→Prop)→World→Prop) (b1 b2 b3:Nat) (mv l1 l2 l3 s1 s2:Value) (o:Option Sta)
  (h1:w.cell? ⟨b1,0,none⟩=some mv) (n1:¬ S b1) (h2:At w ⟨b2,0,none⟩ [l1,l2,l3]) (n2:¬ S b2) (h3:At w ⟨b3,0,none⟩ [s1,s2]) (n3:¬ S b3)
  (hg:∀ W S1,Chg w W S→(∀ k,S1 k→k < W.heap.size)→(∀ k,S1 k→S k∨w.heap.size≤k)→Calls Tryz.prog 114 #[mv,.agg #[l1,l2,l3],.agg #[s1,s2]] W (GoesPost W S1 o)):
  ItGives Tryz.prog 113 #[.pointer (some ⟨b1,0,none⟩),.pointer (some ⟨b2,0,none⟩),.pointer (some ⟨b3,0,none⟩)] StAt o.toList S w Jx:=by
 intro l J S' W hA hJ hc hS hy
 have hlt:=fun k hk=>hA.lt hJ k hk
 have hg':=hg W S' hc hlt hS
 have c1:=hc.cellS h1 n1
 have c2:=h2.chg hc n2
 have c3:=h3.chg hc n3
 have HG:=qq hg'
 have C1:=qq c1
 have C2:=qq c2
 have C3:=qq c3
 have HY:=qq hy
 have HA:=qq hA
 have HJ:=qq hJ
 clear hg hg' h1 h2 h3 c2 c3 hy hA hJ
 refine callsIn_of_wp Tryz.func113 rfl trivial ?_ rfl
 refine wpIn_wide.2 ?_
 simp only [Tryz.ntmps113,zl,zf,yj,Nat.reduceAdd,Nat.reduceSub,yw,yv,yt,yd,jq,js]
 have o1:∀ u∈[l1,l2,l3],True:=fun _ _=>trivial
 cases o with
 |none=>
  go_wp2_with first
   | ((with_reducible refine vq rfl (.tmp 2) 53 rfl gn ⟨b2,0,none⟩ [l1,l2,l3] ?_ rfl C2.out ?_);exact rfl)
   | ((with_reducible refine vq rfl (.tmp 3) 123 rfl xb ⟨b3,0,none⟩ [s1,s2] ?_ rfl C3.out ?_);exact rfl)
   | (go_at_call 114;refine HG.out.mono ?_;rintro e w2 ⟨hc2,⟨_,a,b,ha,hb,rfl⟩| ⟨x,v,hx,_⟩⟩;(rotate_left;cases hx);have HC2:=qq hc2;have Ha:=qq ha;have Hb:=qq hb;clear hc2 ha hb)
   | ((with_reducible refine xx rfl rfl 5 (.tmp 12) 123 rfl rfl rfl rfl xb th [a,b] ?_ ?_ rfl (rk Ha.out Hb.out) ?_);exact (by decide:5 < 18);exact rfl;intro w4 hc4 hb4 hs4;have HC4:=qq (HC2.out.trans hc4 qdr);clear hc4 hb4 hs4)
  go_end0
  exact ⟨⟨_,rfl⟩,.inl ⟨S',HA.out.chg HJ.out (HC4.out.mono fun _ _ h=>h.elim),HC4.out.mono (fun _ _ h=>h.elim),fun k hk=>.inl hk⟩⟩
 |some x=>
  go_upto_region 2 with first
   | ((with_reducible refine vq rfl (.tmp 2) 53 rfl gn ⟨b2,0,none⟩ [l1,l2,l3] ?_ rfl C2.out ?_);exact rfl)
   | ((with_reducible refine vq rfl (.tmp 3) 123 rfl xb ⟨b3,0,none⟩ [s1,s2] ?_ rfl C3.out ?_);exact rfl)
   | (go_at_call 114;refine HG.out.mono ?_;rintro e w2 ⟨hc2,⟨hx,_⟩| ⟨y,v,hx,rfl,hst⟩⟩;(cases hx);obtain rfl:x=y:=Option.some.inj hx;clear hx;obtain ⟨A,c,rfl⟩:=hst.cells;have HC2:=qq hc2;have HSt:=qq hst;clear hc2 hst)
   | ((with_reducible refine xx rfl rfl 5 (.tmp 12) 123 rfl rfl rfl rfl xb th [.slice A x.1.length c,.int .i64 x.2] ?_ ?_ rfl (gu A x.1.length c x.2) ?_);exact (by decide:5 < 18);exact rfl;intro w4 hc4 hb4 hs4;have HC4:=qq (HC2.out.trans hc4 qdr);have HS4:=qq (HSt.out.new hc4);have HB4:=qq (Blk.at_ (cs:=[.slice A x.1.length c,.int .i64 x.2]) hb4);clear hc4 hb4 hs4)
  have hJ4:J [] S' w4:=HA.out.chg HJ.out (HC4.out.mono fun _ _ h=>h.elim)
  have hyl:=HY.out [] x [] S' _ w4 rfl hJ4 HS4.out
  refine (wpIn_wide (n:=0)).1 ?_
  refine wpIn_region_lit ?_
  refine xo Wd.wide 2 (by rfl) ?_
  change wpList _ _ _ [_,_] _ _
  go_wp2_with ((with_reducible refine vq rfl (.tmp 5) 123 rfl xb ⟨w2.heap.size,0,none⟩ [.slice A x.1.length c,.int .i64 x.2] ?_ rfl HB4.out ?_);exact rfl)
  change wpListIn _ _ _ _ _ [_] _ _
  refine gr Wd.wide rfl (.tmp 15) (.tmp 16) 123 rfl rfl rfl hyl ?_
  rintro b W2 hb
  refine wpListIn_nil ?_
  go_end0
  refine ⟨⟨_,rfl⟩,?_⟩
  cases b with
  |true=>
   rw [if_pos rfl] at hb
   exact .inl (Stp.trans (HC4.out.mono fun _ _ h=>h.elim) (fun k hk=>.inl hk) hb)
  |false=>
   rw [if_neg jp] at hb
   exact .inr ⟨[],x,[],rfl,Stp.trans (HC4.out.mono fun _ _ h=>h.elim) (fun k hk=>.inl hk) hb⟩
def dv (s:ByteArray) (A:Option Addr) (n c:Nat) (i:Int):∀ u∈[Value.string s,Value.slice A n c,.int .i64 i],u.oneCell'=true:=by
 intro u hu
 simp only [qp,qm,or_false] at hu
 rcases hu with rfl|rfl|rfl <;> rfl
def g49 (w0 w:World) (hw0:New w0 w) (S:Nat→Prop) (hS0:∀ k,S k→w0.heap.size≤k) (Jx:List Sta→(Nat→Prop)→World→Prop) (b1 b2 b3 bm:Nat) (m:List (ByteArray×Value)) (rs:List Rw)
  (h1:w.cell? ⟨b1,0,none⟩=some (.map (some bm))) (n1:¬ S b1) (hm:MapAt w0 bm m) (kd:Int) (nm:ByteArray) (A:Option Addr) (n c:Nat) (css:List (List Value)) (ts:List Tm)
  (h2:At w ⟨b2,0,none⟩ [.int .i64 kd,.string nm,.slice A n c]) (n2:¬ S b2) (hn:n=ts.length) (hts:TmsAt w0 A css ts) (hokt:∀ t∈ts,okTm t)
  (hrs:RowSl w0 (lookM m nm) rs) (hokr:∀ r∈rs,∀ v∈r.args,okW v)
  (s:Sta) (Ae:Option Addr) (ce:Nat) (h3:At w ⟨b3,0,none⟩ [.slice Ae s.1.length ce,.int .i64 s.2]) (n3:¬ S b3) (hst:StAt s (.agg #[.slice Ae s.1.length ce,.int .i64 s.2]) S w) (hok:okEnv s.1) (hm1:s.1.length+ts.length≤1000):
  ItGives Tryz.prog 146 #[.pointer (some ⟨b1,0,none⟩),.pointer (some ⟨b2,0,none⟩),.pointer (some ⟨b3,0,none⟩)] StAt (rs.filterMap (atomS ts s)) S w Jx:=by
 intro l J S' W hA hJ hc hS hy
 have hS0':∀ k,S' k→w0.heap.size≤k:=fun k hk=>by
  rcases hS k hk with h|h
  ·exact hS0 k h
  ·exact qb hw0.size h
 have hN0:New w0 W:=hw0.trans hc (fun k hk h=>by have:=hS0 k h;omega)
 have hst':=hst.chg hc hS
 have c1:=hc.cellS h1 n1
 have c2:=h2.chg hc n2
 have c3:=h3.chg hc n3
 have l2:b2 < w.heap.size:=World.block_lt_of_cell? w _ (h2 0 _ rfl)
 have l3:b3 < w.heap.size:=World.block_lt_of_cell? w _ (h3 0 _ rfl)
 have n2':¬ S' b2:=fun h=>by rcases hS _ h with h|h;exact n2 h;omega
 have n3':¬ S' b3:=fun h=>by rcases hS _ h with h|h;exact n3 h;omega
 obtain ⟨Ar,cr,rcs,hrv,hrl,hrc,hrm,hrsrc,hrcs,hra⟩:=hrs
 have hlk:=bj (hm.chg hN0 id) nm
 rw [hrv] at hlk
 obtain ⟨mr,hmr⟩:=qdp (rs.length)
 rw [hmr] at hlk hrl hrc
 have HN0:=qq hN0
 have HLk:=qq hlk
 have HMr:=qq hmr
 have HC2:=qq c2
 have HC3:=qq c3
 have HY:=qq hy
 have HA:=qq hA
 have HJ:=qq hJ
 have HSt:=qq hst'
 have HS0:=qq hS0'
 have Hrs:=qq hrsrc
 have Hrc:=qq hrcs
 have HN:=qq hn
 have Hts:=qq hts
 have Hokt:=qq hokt
 have Hokr:=qq hokr
 have Hok:=qq hok
 have Hc:=qq hc
 have HSS:=qq hS
 have e2:=c2 1 _ rfl
 rw [Addr.add_lit] at e2
 clear hN0 hlk hmr c2 c3 hy hA hJ hst' hS0' hrsrc hrcs hn hts hokt hokr hok hc hS hrv hra hm h1 h2 h3 hst hw0 hS0
 refine callsIn_of_wp Tryz.func146 rfl trivial ?_ rfl
 refine wpIn_wide.2 ?_
 simp only [Tryz.ntmps146,zl,zf,yj,Nat.reduceAdd,Nat.reduceSub,yw,yv,yt,yd,jq,js]
 have hlk:=HLk.out
 go_wp2_with fail
 clear hlk HLk c1 e2
 go_loopw [14] (fun u14 wr=>∃ k:Nat,k≤mr∧u14=.int .i64 k∧Stp J ((rs.take k).filterMap (atomS ts s)) S' W wr) (fun u _=>mr - (intOf u).toNat)
 case atStart=>exact ⟨0,qr _,rfl,S',HJ.out,Chg.refl _ _,fun k hk=>.inl hk⟩
 case round=>
  obtain ⟨k,hk,rfl,S1,hJ1,hc1,hS1⟩:=hrel
  have HJ1:=qq hJ1
  have HC1:=qq hc1
  have HS1:=qq hS1
  have hn0:New w0 wr:=HN0.out.trans hc1 (fun k hk h=>by have:=HS0.out k h;omega)
  have HN1:=qq hn0
  clear hJ1 hc1 hS1 hn0
  by_cases hlt:k < mr
  ·obtain ⟨r,hr⟩:∃ r,rs[k]? =some r:=⟨_,qz (by rw [HMr.out];exact hlt)⟩
   obtain ⟨cs,hcs⟩:∃ cs,rcs[k]? =some cs:=⟨_,qz (by rw [Hrc.out.1,HMr.out];exact hlt)⟩
   obtain ⟨ar,rfl,hrw⟩:=Hrs.out (by rw [Hrc.out.1,HMr.out];omega)
   have hat:=(hrw k cs hcs).2.chg HN1.out id
   obtain ⟨r',hr',hrow⟩:=Hrc.out.2 k cs hcs
   obtain rfl:r=r':=Option.some.inj (hr.symm.trans hr')
   obtain ⟨Aa,ca,rfl,ha1,ha2,ha3,hasrc,hab⟩:=hrow
   have hokr:=Hokr.out r (qf hr)
   have Hat:=qq hat
   have Hasrc:=qq (hasrc.chg HN1.out (fun _ _=>id))
   have HC21:=qq (HC2.out.chg HC1.out n2')
   have HC31:=qq (HC3.out.chg HC1.out n3')
   have hst1:=HSt.out.chg HC1.out HS1.out
   have HSt1:=qq hst1
   have Hr:=qq hr
   have HokR:=qq hokr
   clear hat hasrc hr' hrw hcs hst1 hr hokr hab
   have e2:=HC21.out 2 _ rfl
   have e3:=HC31.out 0 _ rfl
   have e4:=HC31.out 1 _ rfl
   rw [Addr.add_lit] at e2 e3 e4
   have hM:∀ w4,New wr w4→Calls Tryz.prog 147 #[.slice A n c,.slice Aa r.args.length ca,.slice Ae s.1.length ce] w4 (MatchPost w4 (matchV ts r.args s.1)):=fun w4 h4=>by
    obtain ⟨A',c',he,_,_,hse,hbe⟩:=HSt1.out
    obtain ⟨rfl,rfl⟩:Ae=A'∧ce=c':=by
     injection he with he
     injection he with he
     injection he with h1 h2
     injection h1 with h1 _ h3
     exact ⟨h1,h3⟩
    exact qdm w4 A n c css ts HN.out (Hts.out.chg (HN1.out.trans h4 qdr)) Hokt.out Aa r.args.length ca r.args rfl (Hasrc.out.chg h4 (fun _ _=>id)) HokR.out Ae s.1.length ce s.1 rfl (hse.chg h4 (fun _ _=>id)) (fun a ha=>zd (hbe a ha).1 h4.size) Hok.out hm1 (by unfold maxLen;omega)
   have HM:=qq hM
   obtain ⟨o,ho⟩:=qdp (matchV ts r.args s.1)
   have hos:atomS ts s r=o.map (fun e=>(e,minI s.2 r.stamp)):=by unfold atomS;rw [ho]
   rw [ho] at HM
   have Hos:=qq hos
   clear hM ho hos
   cases o with
   |none=>
    go_wp2_with first
     | ((with_reducible refine vq rfl (.tmp 16) 42 rfl vd (ar.add (k * 3)) _ ?_ rfl Hat.out ?_);exact rfl)
     | ((with_reducible refine xx rfl rfl 6 (.tmp 17) 42 rfl rfl rfl rfl vd zRow [.string r.name,.slice Aa r.args.length ca,.int .i64 r.stamp] ?_ ?_ rfl (dv _ _ _ _ _) ?_);exact (by decide:6 < 42);exact rfl;intro w4 hc4 hb4 hs4;have HC4:=qq hc4;have HB4:=qq hb4;have g2:=hc4.cellS e2 id;have g3:=hc4.cellS e3 id;have g4:=hc4.cellS e4 id;have g5:=hb4.cell 1;have g6:=hb4.cell 2;simp only [qx,qj,qw] at g5 g6;clear hc4 hb4 hs4)
     | (go_at_call 147;refine (HM.out _ HC4.out).mono ?_;rintro e w5 ⟨hc5,⟨_,rfl⟩| ⟨_,_,hx,_⟩⟩;(rotate_left;cases hx);have HC5:=qq (HC4.out.trans hc5 qdr);clear hc5 g2 g3 g4 g5 g6)
    go_roundw
    case rel=>exact ⟨k+1,by omega,by go_num,by rw [fg Hr.out Hos.out];exact ⟨S1,HA.out.chg HJ1.out (HC5.out.mono fun _ _ h=>h.elim),HC1.out.trans HC5.out (fun _ _ h=>h.elim),HS1.out⟩⟩
    case measure=>simp [intOf];omega
   |some e=>
    go_upto_region 4 with first
     | ((with_reducible refine vq rfl (.tmp 16) 42 rfl vd (ar.add (k * 3)) _ ?_ rfl Hat.out ?_);exact rfl)
     | ((with_reducible refine xx rfl rfl 6 (.tmp 17) 42 rfl rfl rfl rfl vd zRow [.string r.name,.slice Aa r.args.length ca,.int .i64 r.stamp] ?_ ?_ rfl (dv _ _ _ _ _) ?_);exact (by decide:6 < 42);exact rfl;intro w4 hc4 hb4 hs4;have HC4:=qq hc4;have HB4:=qq hb4;have g2:=hc4.cellS e2 id;have g3:=hc4.cellS e3 id;have g4:=hc4.cellS e4 id;have g5:=hb4.cell 1;have g6:=hb4.cell 2;simp only [qx,qj,qw] at g5 g6;clear hc4 hb4 hs4)
     | (go_at_call 147;refine (HM.out _ HC4.out).mono ?_;rintro e w5 ⟨hc5,⟨hx,_⟩| ⟨e',v,hx,rfl,hown⟩⟩;(cases hx);obtain rfl:=Option.some.inj hx;obtain ⟨Av,cv,rfl,hv1,hv2⟩:=hown.form;have hvr:=(hown.rows rfl).2;have hvb:=fun g hg=>hown.lt (g:=g) hg;rw [qd] at hv1;have HVr:=qq hvr;have HVb:=qq hvb;have HC5:=qq (HC4.out.trans hc5 qdr);have HL4:=qq HC4.out.size;have k3:=hc5.cellS g3 id;have k4:=hc5.cellS g4 id;have k6:=hc5.cellS g6 id;clear hc5 g2 g3 g4 g5 g6 hx hown hvr hvb HB4 HC4)
    have hJ5:J ((rs.take k).filterMap (atomS ts s)) S1 w5:=HA.out.chg HJ1.out (HC5.out.mono fun _ _ h=>h.elim)
    have hst5:StAt (e,minI s.2 r.stamp) (.agg #[.slice Av e.length cv,.int .i64 (minI s.2 r.stamp)]) S1 w5:=by
     refine ⟨Av,cv,rfl,hv1,hv2,?_,fun a ha=>?_⟩
     ·exact HVr.out
     ·obtain ⟨hb1,hb2⟩:=HVb.out a.block (by rw [ha];rfl)
      refine ⟨hb2,fun h=>?_⟩
      have:=HA.out.lt HJ1.out _ h
      have:=HL4.out
      omega
    have hyl:=HY.out _ _ _ S1 _ w5 (mj Hr.out Hos.out) hJ5 hst5
    obtain ⟨mi,hmi⟩:=qdp (minI s.2 r.stamp)
    rw [hmi] at hyl
    have hos':atomS ts s r=some (e,mi):=by rw [Hos.out];exact congrArg (fun i=>some (e,i)) hmi
    have HOs':=qq hos'
    clear hos'
    have HYl:=qq hyl
    have Hmi:=qq hmi
    have HSt5:=qq hst5
    clear hJ5 hst5 hyl hmi
    refine (wpIn_wide (n:=0)).1 ?_
    refine wpIn_region_lit ?_
    refine xo Wd.wide 10 (by rfl) ?_
    change wpList _ _ _ [_,_,_,_,_,_,_,_,_,_] _ _
    go_wp2_with fail
    all_goals
     have hmm:=Hmi.out
     unfold minI at hmm
     first| (rw [if_pos (by omega)] at hmm)| (rw [if_neg (by omega)] at hmm)
     subst hmm
     refine gr Wd.wide rfl (.tmp 30) (.tmp 37) 123 rfl rfl rfl HYl.out ?_
     rintro b W2 hb
     have hbt:b=true→Stp J _ S1 w5 W2:=fun h=>by rw [if_pos h] at hb;exact hb
     have hbf:b=false→Stp Jx _ S1 w5 W2:=fun h=>by rw [if_neg (by rw [h];exact jp)] at hb;exact hb
     have HBt:=qq hbt
     have HBf:=qq hbf
     clear hbt hbf
     clear hb HYl
     refine xo Wd.wide 2 (by rfl) ?_
     change wpList _ _ _ [_,_] _ _
     cases b with
     |true=>
      go_wp2_with fail
      refine wpListIn_nil ?_
      go_wp2_with fail
      go_roundw
      case rel=>
       refine ⟨k+1,by omega,by go_num,?_⟩
       rw [fu Hr.out HOs'.out]
       exact Stp.then HC1.out HS1.out HC5.out (HBt.out (by trivial))
      case measure=>simp [intOf];omega
     |false=>
      go_wp2_with fail
      refine wpListIn_nil ?_
      go_wp2_with fail
      refine bodyPost_ret (results_none rfl _ _ _) rfl ?_
      exact ⟨⟨_,rfl⟩,.inr ⟨_,_,_,mj Hr.out HOs'.out,Stp.then HC1.out HS1.out HC5.out (HBf.out (by trivial))⟩⟩
  ·go_wp2_with fail
   go_end0
   refine ⟨⟨_,rfl⟩,.inl ⟨S1,?_,HC1.out,HS1.out⟩⟩
   have h:=HJ1.out
   rwa [qc (by rw [HMr.out];omega)] at h
def pz {P:Program} {f:Func} {p q:Nat} {ty ty2:TypeId} {k:Nat} (hS:StT P ty k) (hr:f.results=#[.cell p ty,.cell q ty2]) (hb:P.underlying ty2=some .bool) (W:World) (tmps:Array Value) (ad g:Addr) (cs:List Value) (b:Bool) (h2:tmps.getD p undef=.pointer (some ad)) (hc:At W ad cs) (hl:cs.length=k)
  (h3:tmps.getD q undef=.pointer (some g)) (hg:W.cell? g=some (.bool b)):
  (results f tmps).run P W=.ok (.tuple #[.agg cs.toArray,.bool b]) W:=by
 have hl:=kg (P:=P) (w:=W) hS ad cs hl hc
 have ha:(asAddr (.pointer (some ad))).run P W=.ok ad W:=rfl
 have ha2:(asAddr (.pointer (some g))).run P W=.ok g W:=rfl
 have h2':tmps[p]?.getD undef=.pointer (some ad):=by simpa using h2
 have h3':tmps[q]?.getD undef=.pointer (some g):=by simpa using h3
 have hl2:(loadVar ty2 g).run P W=.ok (.bool b) W:=by
  have hagg:(isAgg ty2).run P W=.ok false W:=by
   unfold isAgg
   rw [Sem.run_bind,run_underlying hb W]
   simp
  simp [loadVar,Sem.run_bind,hagg,hg,go_sem]
 simp [results,hr,Sem.run_bind,h2',h3',ha,ha2,hl,hl2]
def aj (w:World) (c1 c2 c3:Array Value) (t1 t2 t3:TypeId) (w1:World) (h:w1=((w.alloc (.cells c1 t1)).alloc (.cells c2 t2)).alloc (.cells c3 t3)):
  New w w1∧Blk w1 w.heap.size t1 c1∧Blk w1 (w.heap.size+1) t2 c2∧Blk w1 (w.heap.size+1+1) t3 c3∧w1.heap.size=w.heap.size+3:=by
 subst h
 refine ⟨(((Chg.refl w _).alloc _).alloc _).alloc _,((Blk.new w _ _).alloc _).alloc _,?_,?_,by simp⟩
 ·have:=(Blk.new (w.alloc (.cells c1 t1)) t2 c2).alloc (.cells c3 t3)
  rwa [World.size_alloc] at this
 ·have:=Blk.new ((w.alloc (.cells c1 t1)).alloc (.cells c2 t2)) t3 c3
  rwa [World.size_alloc,World.size_alloc] at this
def oi (w:World) (c1 c2 c3 c4:Array Value) (t1 t2 t3 t4:TypeId) (w1:World) (h:w1=(((w.alloc (.cells c1 t1)).alloc (.cells c2 t2)).alloc (.cells c3 t3)).alloc (.cells c4 t4)):
  New w w1∧Blk w1 w.heap.size t1 c1∧Blk w1 (w.heap.size+1) t2 c2∧Blk w1 (w.heap.size+1+1) t3 c3∧Blk w1 (w.heap.size+1+1+1) t4 c4∧w1.heap.size=w.heap.size+4:=by
 obtain ⟨h1,h2,h3,h4,h5⟩:=aj w c1 c2 c3 t1 t2 t3 _ rfl
 subst h
 refine ⟨h1.alloc _,h2.alloc _,h3.alloc _,h4.alloc _,?_,by simp⟩
 have:=Blk.new (((w.alloc (.cells c1 t1)).alloc (.cells c2 t2)).alloc (.cells c3 t3)) t4 c4
 rwa [h5] at this
def clip_env (w:World) (A:Option Addr) (n c:Nat) (hn:n≤c) (hc:c≤maxLen):Calls Tryz.prog 150 #[.slice A n c] w fun e w'=>e=.returned (.slice A n n)∧w=w':=by
 unfold maxLen at hc
 go_enter Tryz.func150,Tryz.ntmps150
 go_wp2_with fail
 go_ret
 exact ⟨rfl,rfl⟩
def ft (w:World) (bm:Nat) (l1 l2 l3 s1 s2:Value):Calls Tryz.prog 112 #[.map (some bm),.agg #[l1,l2,l3],.agg #[s1,s2]] w fun e w'=>
  e=.returned (.func (.func 146) #[] #[.pointer (some ⟨w.heap.size,0,none⟩),.pointer (some ⟨w.heap.size+1,0,none⟩),.pointer (some ⟨w.heap.size+1+1,0,none⟩)])∧
  New w w'∧w'.cell? ⟨w.heap.size,0,none⟩=some (.map (some bm))∧At w' ⟨w.heap.size+1,0,none⟩ [l1,l2,l3]∧At w' ⟨w.heap.size+1+1,0,none⟩ [s1,s2]∧w'.heap.size=w.heap.size+3:=by
 go_enter Tryz.func112,Tryz.ntmps112
 go_wp2_with fail
 go_ret
 obtain ⟨hN,b1,b2,b3,hs⟩:=aj w #[.map (some bm)] #[l1,l2,l3] #[s1,s2] 117 53 123 _ rfl
 exact ⟨rfl,hN,b1.cell 0,Blk.at_ b2,Blk.at_ b3,hs⟩
def sp {w W:World} {S1:Nat→Prop} {o:Option Sta} {s:Sta} {Ae:Option Addr} {ce D g6 g7:Nat} {q:Bool} {tmps:Array Value} (hD:W.heap[D]? =some (.deferred (some []))) (hDw:w.heap.size≤D)
  (h6:Blk W g6 123 #[.slice Ae s.1.length ce,.int .i64 s.2]) (h7:Blk W g7 4 #[.bool q]) (hN:New w W) (hst:StAt s (.agg #[.slice Ae s.1.length ce,.int .i64 s.2]) S1 w)
  (hq:(q=true∧o=some s)∨(q=false∧o=none)) (ht6:tmps.getD 6 undef=.pointer (some ⟨g6,0,none⟩)) (ht7:tmps.getD 7 undef=.pointer (some ⟨g7,0,none⟩)):
  LeavesInM Fence.wide 0 Tryz.prog Tryz.f114 tmps (GoesPost w S1 o) [{ target:=.collected D,args:=#[] }] .returning W:=by
 have hd6:g6≠D:=fun h=>by subst h;have:=Option.some.inj (hD.symm.trans h6);cases this
 have hd7:g7≠D:=fun h=>by subst h;have:=Option.some.inj (hD.symm.trans h7);cases this
 refine ⟨by simp,.inl ⟨_,_,rfl,run_takeDeferred hD,?_⟩⟩
 have hc:∀ ob,Chg W (W.putObj D ob) (fun k=>k=D):=fun ob=>(Chg.of_grown (grownBy_putObj' W D ob)).mono fun k _ h=>by cases h;rfl
 refine ⟨_,pz xb rfl Tryz.underlying4 _ _ ⟨g6,0,none⟩ ⟨g7,0,none⟩ [.slice Ae s.1.length ce,.int .i64 s.2] q ht6 (Blk.at_ (h6.chg (hc _) hd6)) rfl ht7 ((h7.chg (hc _) hd7).cell 0),?_⟩
 refine ⟨Chg.put hN (hc _) hDw,?_⟩
 rcases hq with ⟨rfl,rfl⟩| ⟨rfl,rfl⟩
 ·exact .inr ⟨s,_,rfl,rfl,hst.new (Chg.put hN (hc _) hDw)⟩
 ·exact .inl ⟨rfl,_,_,rfl,rfl,rfl⟩
def goes_not (w0 w:World) (hw0:New w0 w) (S1:Nat→Prop) (bm:Nat) (m:List (ByteArray×Value)) (rs:List Rw) (hm:MapAt w0 bm m)
  (nm:ByteArray) (A:Option Addr) (n c:Nat) (css:List (List Value)) (ts:List Tm) (hn:n=ts.length) (hts:TmsAt w0 A css ts) (hokt:∀ t∈ts,okTm t)
  (hrs:RowSl w0 (lookM m nm) rs) (hokr:∀ r∈rs,∀ v∈r.args,okW v)
  (s:Sta) (Ae:Option Addr) (ce:Nat) (hst:StAt s (.agg #[.slice Ae s.1.length ce,.int .i64 s.2]) S1 w) (hok:okEnv s.1) (hm1:s.1.length+ts.length≤1000):
  Calls Tryz.prog 114 #[.map (some bm),.agg #[.int .i64 2,.string nm,.slice A n c],.agg #[.slice Ae s.1.length ce,.int .i64 s.2]] w (GoesPost w S1 (if (rs.filterMap (atomS ts s)).isEmpty then some s else none)):=by
 obtain ⟨xs,hxs⟩:=qdp (rs.filterMap (atomS ts s))
 obtain ⟨S0,hS0⟩:∃ S0:Nat→Prop,S0=fun k=>k=w.heap.size+1+1∨k=w.heap.size+1+1+1:=⟨_,rfl⟩
 have hS0':∀ k,S0 k↔k=w.heap.size+1+1∨k=w.heap.size+1+1+1:=fun k=>by rw [hS0]
 obtain ⟨o,ho⟩:=qdp ((if xs.isEmpty then some s else none))
 have ho1:xs=[]→o=some s:=fun h=>by rw [←ho,h];rfl
 have ho2:∀ pre x rest,xs=pre++x::rest→o=none:=fun pre x rest h=>by rw [←ho,h];cases pre <;> rfl
 have HS0:=qq hS0'
 have HO1:=qq ho1
 have HO2:=qq ho2
 obtain ⟨w1,hw1⟩:=qdq ((((w.alloc (.cells #[.int .i64 2,.string nm,.slice A n c] 53)).alloc (.cells #[.slice Ae s.1.length ce,.int .i64 s.2] 123)).alloc (.cells #[.slice none 0 0,.int .i64 0] 123)).alloc (.cells #[.bool false] 4))
 obtain ⟨hN1,b4,b5,b6,b7,hz1⟩:=oi _ _ _ _ _ _ _ _ _ w1 hw1
 have hit:∀ w2 Jx,New w1 w2→w2.heap.size=w1.heap.size+3→w2.cell? ⟨w1.heap.size,0,none⟩=some (.map (some bm))→At w2 ⟨w1.heap.size+1,0,none⟩ [.int .i64 2,.string nm,.slice A n c]→At w2 ⟨w1.heap.size+1+1,0,none⟩ [.slice Ae s.1.length ce,.int .i64 s.2]→
   ItGives Tryz.prog 146 #[.pointer (some ⟨w1.heap.size,0,none⟩),.pointer (some ⟨w1.heap.size+1,0,none⟩),.pointer (some ⟨w1.heap.size+1+1,0,none⟩)] StAt xs S0 w2 Jx:=by
  intro w2 Jx h2 hz h1' h2' h3'
  rw [←hxs,hS0]
  have hlw:=hw0.size
  refine g49 w0 w2 ((hw0.trans hN1 qdr).trans h2 qdr) _ (fun k hk=>by omega) Jx _ _ _ bm m rs h1' (by omega) hm 2 nm A n c css ts h2' (by omega) hn hts hokt hrs hokr s Ae ce h3' (by omega) ?_ hok hm1
  obtain ⟨A',c',he,k1,k2,k3,k4⟩:=hst
  exact ⟨A',c',he,k1,k2,k3.chg (hN1.trans h2 qdr) (fun _ _=>id),fun a ha=>⟨by have:=(k4 a ha).1;omega,by have:=(k4 a ha).1;omega⟩⟩
 have HIt:=qq hit
 have HW:=qq hw1
 have HN1:=qq hN1
 have B4:=qq b4
 have B5:=qq b5
 have B6:=qq b6
 have B7:=qq b7
 have HZ:=qq hz1
 have HSt:=qq hst
 rw [hxs,ho]
 clear hit hw1 hN1 b4 b5 b6 b7 hz1 hst hn hts hokt hrs hokr hok hm1 hm hw0 hxs ho ho1 ho2 hS0 hS0'
 refine (callsIn_wide (n:=0)).1 (callsIn_of_wp_marks Tryz.func114 rfl trivial ?_ rfl)
 refine wpIn_wide.2 ?_
 simp only [Tryz.ntmps114,zl,zf,yj,Nat.reduceAdd,Nat.reduceSub,yw,yv,yt,yd,jq,js]
 go_upto_region 12 with fail
 rw [←HW.out]
 go_wp2_with first
  | ((with_reducible refine vq rfl (.tmp 4) 53 rfl gn ⟨w.heap.size,0,none⟩ [.int .i64 2,.string nm,.slice A n c] ?_ rfl B4.out.at_ ?_);exact rfl)
  | ((with_reducible refine vq rfl (.tmp 5) 123 rfl xb ⟨w.heap.size+1,0,none⟩ [.slice Ae s.1.length ce,.int .i64 s.2] ?_ rfl B5.out.at_ ?_);exact rfl)
  | (go_at_call 112;refine (ft _ _ _ _ _ _ _).mono ?_;rintro e w2 ⟨rfl,hN2,k1,k2,k3,k4⟩;have HN2:=qq hN2;have K1:=qq k1;have K2:=qq k2;have K3:=qq k3;have K4:=qq k4;clear hN2 k1 k2 k3 k4)
 refine px (gf:=146) (lb:=#[.pointer (some ⟨w1.heap.size,0,none⟩),.pointer (some ⟨w1.heap.size+1,0,none⟩),.pointer (some ⟨w1.heap.size+1+1,0,none⟩)]) (enc:=StAt) (xs:=xs) (S:=S0) rfl (enters_of Tryz.func146 (by kernel_rfl) rfl)
  (fun pre S' W=>pre=[]∧S'=S0∧Chg w2 W S0∧Blk W (w.heap.size+1+1) 123 #[.slice none 0 0,.int .i64 0]∧Blk W (w.heap.size+1+1+1) 4 #[.bool false])
  (fun c pre S' W=>c=Code.ret∧S'=S0∧Blk W (w.heap.size+1+1) 123 #[.slice Ae s.1.length ce,.int .i64 s.2]∧Blk W (w.heap.size+1+1+1) 4 #[.bool false])
  ?hI ?hIx (fun Jx _=>HIt.out w2 Jx HN2.out K4.out K1.out K2.out K3.out) ⟨rfl,rfl,Chg.refl _ _,B6.out.chg HN2.out id,B7.out.chg HN2.out id⟩ (fun h hs=>h.less hs) ?round ?done ?stop
 case hI=>
  constructor
  ·rintro pre S' W ⟨_,rfl,_,h6,h7⟩ k hk
   rcases (HS0.out k).1 hk with rfl|rfl
   ·exact h6.lt
   ·exact h7.lt
  ·rintro pre S' W W' ⟨h1,rfl,h3,h6,h7⟩ hc
   exact ⟨h1,rfl,h3.trans hc (fun k hk h=>absurd hk (Nat.not_lt.2 h.1)),h6.chg hc (fun h=>h.2 ((HS0.out _).2 (.inl rfl))),h7.chg hc (fun h=>h.2 ((HS0.out _).2 (.inr rfl)))⟩
 case hIx=>
  intro c
  constructor
  ·rintro pre S' W ⟨_,rfl,h6,h7⟩ k hk
   rcases (HS0.out k).1 hk with rfl|rfl
   ·exact h6.lt
   ·exact h7.lt
  ·rintro pre S' W W' ⟨h1,rfl,h6,h7⟩ hc
   exact ⟨h1,rfl,h6.chg hc (fun h=>h.2 ((HS0.out _).2 (.inl rfl))),h7.chg hc (fun h=>h.2 ((HS0.out _).2 (.inr rfl)))⟩
 case round=>
  rintro l pre x rest S1' v W hx hl1 hl2 hlr hl3 ⟨rfl,rfl,hcw,h6,h7⟩ hsv
  refine wpIn_skip ?_
  refine ⟨Chg.refl _ _,fun W2 hc1 hc2 _ hI2=>?_⟩
  obtain ⟨_,_,hcw2,h62,h72⟩:=hI2
  have H5:=qq ((B5.out.chg HN2.out id).chg hcw2 (fun h=>by have:=(HS0.out _).1 h;omega))
  have H6:=qq h62
  have H7:=qq h72
  clear hc1 hc2 hcw hcw2 h6 h7 h62 h72 hsv
  simp only [qk,qu,qy]
  gi_step
  gi_step
  gi_step
  refine wpIn_region_lit ?_
  refine xo (Wd.round l) 3 (by rfl) ?_
  change wpList _ _ _ [_,_,_] _ _
  go_wp2_with first
   | ((with_reducible refine vq rfl (.tmp 5) 123 rfl xb ⟨w.heap.size+1,0,none⟩ [.slice Ae s.1.length ce,.int .i64 s.2] ?_ rfl H5.out.at_ ?_);exact rfl)
   | ((with_reducible refine xq rfl (.tmp 6) (.tmp 49) 123 rfl rfl xb (w.heap.size+1+1) 123 _ [.slice Ae s.1.length ce,.int .i64 s.2] ?_ ?_ H6.out rfl rfl (gu _ _ _ _) ?_);exact rfl;exact rfl;intro w3 hc3 hb3 hs3;have h73:=H7.out.chg hc3 (by omega);have HC3:=qq hc3;have HB3:=qq hb3;have H73:=qq h73;have c7:=h73.cell 0;have f7:=h73.frozen 0;simp only [qx,qj] at c7;clear hc3 hb3 hs3 h73)
  refine wpListIn_nil ?_
  gi_wp2
  refine ⟨_,⟨rfl,rfl,HB3.out.far (by simp) _,by simpa using H73.out.setCell 0 (.bool false)⟩,?_,fun k hk=>.inl hk⟩
  exact (HC3.out.mono (fun k _ h=>(HS0.out k).2 (.inl h))).setCell _ _ (fun _=>(HS0.out _).2 (.inr rfl))
 case done=>
  rintro D S' W hD hDe ⟨hxe,rfl,hcw,h6,h7⟩ hc hs hnD
  have H5:=qq ((B5.out.chg HN2.out id).chg hcw (fun h=>by have:=(HS0.out _).1 h;omega))
  have H6:=qq h6
  have H7:=qq h7
  have HX:=qq hxe
  have HD:=qq hD
  have HDe:=qq hDe
  have HNW:=qq ((HN1.out.trans HN2.out qdr).trans hcw (fun k hk h=>by have:=(HS0.out _).1 h;omega))
  have hnd6:D≠w.heap.size+1+1:=fun h=>hnD ((HS0.out _).2 (.inl h))
  have hnd7:D≠w.heap.size+1+1+1:=fun h=>hnD ((HS0.out _).2 (.inr h))
  clear hcw h6 h7 hc hs hnD hxe hD hDe
  go_wp2_with first
   | ((with_reducible refine vq rfl (.tmp 5) 123 rfl xb ⟨w.heap.size+1,0,none⟩ [.slice Ae s.1.length ce,.int .i64 s.2] ?_ rfl H5.out.at_ ?_);exact rfl)
   | ((with_reducible refine xq rfl (.tmp 6) (.tmp 50) 123 rfl rfl xb (w.heap.size+1+1) 123 _ [.slice Ae s.1.length ce,.int .i64 s.2] ?_ ?_ H6.out rfl rfl (gu _ _ _ _) ?_);exact rfl;exact rfl;intro w3 hc3 hb3 hs3;have h73:=H7.out.chg hc3 (by omega);have HN3:=qq (HNW.out.put hc3 (by omega));have HB3:=qq hb3;have H73:=qq h73;have HD3:=qq ((hc3.block D (xf HDe.out) hnd6).trans HDe.out);have c7:=h73.cell 0;have f7:=h73.frozen 0;simp only [qx,qj] at c7;clear hc3 hb3 hs3 h73)
  exact sp (q:=true) ((Below.heap_setCell w3 ⟨_,0,none⟩ _ D hnd7).trans HD3.out) (by have:=HD.out;have:=HN2.out.size;have:=HN1.out.size;omega) (HB3.out.far (by simp) _) (by simpa using H73.out.setCell 0 (.bool true)) (HN3.out.setCell _ _ (fun h=>absurd h (by simp;omega))) HSt.out (.inl ⟨rfl,HO1.out HX.out⟩) rfl rfl
 case stop=>
  rintro D c pre x rest S' W hx hD hDe ⟨rfl,rfl,h6,h7⟩ hc hs hnD
  have HNW:=qq ((HN1.out.trans HN2.out qdr).trans hc (fun k hk h=>by have:=(HS0.out _).1 h;omega))
  have hDw:w.heap.size≤D:=by have:=HN2.out.size;have:=HN1.out.size;omega
  clear hc hs
  go_wp2_with fail
  exact sp (q:=false) hDe hDw h6 h7 HNW.out HSt.out (.inr ⟨rfl,HO2.out _ _ _ hx⟩) rfl rfl
def qcs (jt bm:Nat) (w0 w:World) (hw0:New w0 w) (S1:Nat→Prop) (hS1:∀ k,S1 k→k < w.heap.size) (A:Option Addr) (n c:Nat) (css:List (List Value)) (ts:List Tm) (hn:n=ts.length) (hnm:n≤1000) (hts:TmsAt w0 A css ts) (hokt:∀ t∈ts,okTm t)
  (s:Sta) (Ae:Option Addr) (ce:Nat) (hst:StAt s (.agg #[.slice Ae s.1.length ce,.int .i64 s.2]) S1 w) (hok:okEnv s.1) (hsl:s.1.length≤999) (fs:List (Option Vl)) (hfs:fs=ts.map (evalT s.1)) (o:Option Sta) (hnone:allO fs=none→o=none) (h2:n=2) (hsome:∀ x y,allO fs=some [x,y]→o=if testV jt x y then some s else none) (hokx:∀ us,allO fs=some us→∀ u∈us,okW u):
  Calls Tryz.prog 114 #[.map (some bm),.agg #[.int .i64 3,.string (opT jt),.slice A n c],.agg #[.slice Ae s.1.length ce,.int .i64 s.2]] w (GoesPost w S1 o):=by
 have Hnone:=qq hnone
 have Hsome:=qq hsome
 have HOkx:=qq hokx
 have H2:=qq h2
 clear hnone hsome hokx h2
 obtain ⟨w1,hw1⟩:=qdq ((((w.alloc (.cells #[.int .i64 3,.string (opT jt),.slice A n c] 53)).alloc (.cells #[.slice Ae s.1.length ce,.int .i64 s.2] 123)).alloc (.cells #[.slice none 0 0,.int .i64 0] 123)).alloc (.cells #[.bool false] 4))
 obtain ⟨hN1,b4,b5,b6,b7,hz1⟩:=oi _ _ _ _ _ _ _ _ _ w1 hw1
 have hev:∀ (k:Nat) (t:Tm) (cs:List Value) (W:World),css[k]? =some cs→ts[k]? =some t→New w1 W→Calls Tryz.prog 115 #[.agg cs.toArray,.slice Ae s.1.length ce] W fun e W'=>e=.returned (optV (evalT s.1 t))∧New W W':=by
  intro k t cs W hcs ht hW
  obtain ⟨A',c',he,_,_,hse,_⟩:=hst
  obtain ⟨rfl,rfl⟩:Ae=A'∧ce=c':=by
   injection he with he
   injection he with he
   injection he with h1 h2
   injection h1 with h1 _ h3
   exact ⟨h1,h3⟩
  have hww:=(hN1.trans hW qdr)
  exact bEval Ae s.1.length ce s.1 rfl (by omega) hok t (hokt t (qf ht)) W cs (hse.chg hww (fun _ _=>id)) ((hts.at_ k cs t hcs ht).chg ((hw0.trans hww qdr)))
 have hone:∀ (k:Nat) (t:Tm) (cs:List Value),css[k]? =some cs→ts[k]? =some t→∀ u∈cs,u.oneCell'=true:=fun k t cs h1 h2=>(hts.at_ k cs t h1 h2).one
 have hsrc:=hts.src.chg (hw0.trans hN1 qdr) (fun _ _=>id)
 have hlen:=hts.len
 have hseven:∀ (k:Nat) (t:Tm) (cs:List Value),css[k]? =some cs→ts[k]? =some t→∃ t0 t1 t2 t3 t4 t5 t6,cs=[t0,t1,t2,t3,t4,t5,t6]:=fun k t cs h1 h2=>(hts.at_ k cs t h1 h2).seven
 have HEv:=qq hev
 have HOne:=qq hone
 have HSeven:=qq hseven
 have HSrc:=qq hsrc
 have HLen:=qq hlen
 have HW:=qq hw1
 have HN1:=qq hN1
 have B4:=qq b4
 have B5:=qq b5
 have B6:=qq b6
 have B7:=qq b7
 have HZ:=qq hz1
 have HSt:=qq hst
 have HN:=qq hn
 have Hfs:=qq hfs
 clear hev hone hseven hsrc hlen hw1 hN1 b4 b5 b6 b7 hz1 hst hts hokt hok hw0 hn hfs
 go_enter Tryz.func114,Tryz.ntmps114
 go_upto_region 3 with fail
 rw [←HW.out]
 have e2:=(B4.out).cell 2
 simp only [qx,qj,qw] at e2
 go_wp2_with fail
 clear HW e2
 go_loopw [8,21] (fun u8 u21 wr=>∃ (k:Nat) (us:List Vl),k≤n∧u21=.int .i64 k∧allO (fs.take k)=some us∧us.length=k∧Own wr w1.heap.size 62 4 u8 (us.map vcs)∧New w1 wr) (fun _ u _=>n - (intOf u).toNat)
 case atStart=>exact ⟨0,[],qr _,rfl,rfl,rfl,Own.nil _ _ _ _,Chg.refl _ _⟩
 case round=>
  obtain ⟨k,us,hk,rfl,ha,hl,hov,hNr⟩:=hrel
  obtain ⟨Ao,co,rfl,hc1,hc2⟩:=hov.form
  rw [qd] at hov⊢
  have Ha:=qq ha
  have HOv:=qq hov
  have HNw:=qq hNr
  have Hl:=qq hl
  clear ha hov hNr hl hc1 hc2
  by_cases hlt:k < n
  ·obtain ⟨t,ht⟩:∃ t,ts[k]? =some t:=⟨_,qz (by rw [←HN.out];exact hlt)⟩
   obtain ⟨cs,hcs⟩:∃ cs,css[k]? =some cs:=⟨_,qz (by rw [HLen.out, ←HN.out];exact hlt)⟩
   obtain ⟨ad,rfl,hrw⟩:=HSrc.out (by rw [HLen.out, ←HN.out];omega)
   have hat:=(hrw k cs hcs).2.chg HNw.out id
   have h1c:=HOne.out k t cs hcs ht
   have hek:=fun W h=>HEv.out k t cs W hcs ht h
   obtain ⟨o1,ho1⟩:=qdp (evalT s.1 t)
   have hfk:fs[k]? =some o1:=by rw [Hfs.out,qa,ht, ←ho1];rfl
   rw [ho1] at hek
   obtain ⟨t0,t1,t2,t3,t4,t5,t6,rfl⟩:=HSeven.out k t cs hcs ht
   have Hat:=qq hat
   have H1c:=qq h1c
   have Hek:=qq hek
   have Hfk:=qq hfk
   clear hat h1c hek hfk hrw hcs ht ho1
   have e5:=(B5.out.chg HNw.out id).cell 0
   simp only [qx,qj] at e5
   cases o1 with
   |none=>
    unfold optV at Hek
    dsimp only [Option.getD,Option.isSome,vval,zV] at Hek
    go_wp2_with first
     | ((with_reducible refine vq rfl (.tmp 23) 64 rfl xy (ad.add (k * 7)) _ ?_ rfl Hat.out ?_);exact rfl)
     | ((with_reducible refine xx rfl rfl 10 (.tmp 24) 64 rfl rfl rfl rfl xy elTerm.zero [t0,t1,t2,t3,t4,t5,t6] ?_ ?_ rfl H1c.out ?_);exact (by decide:10 < 104);exact rfl;intro w2 hc2 hb2 hs2;have e6:=hc2.cellS e5 id;have Hc2:=qq hc2;have Hb2:=qq (Blk.at_ (cs:=[t0,t1,t2,t3,t4,t5,t6]) hb2);clear hc2 hb2 hs2)
     | ((with_reducible refine vq rfl (.tmp 10) 64 rfl xy ⟨wr.heap.size,0,none⟩ _ ?_ rfl Hb2.out ?_);exact rfl)
     | (go_at_call 115;refine (Hek.out _ (HNw.out.trans Hc2.out qdr)).mono ?_;rintro e w3 ⟨rfl,hc3⟩;have HN3:=qq ((HNw.out.trans Hc2.out qdr).trans hc3 qdr);clear hc3 e5 e6)
     | ((with_reducible refine xx rfl rfl 11 (.tmp 30) 62 rfl rfl rfl rfl vz fz.zero (vcs zV) ?_ ?_ (vg _) (xw _) ?_);exact (by decide:11 < 104);exact rfl;intro w4 hc4 hb4 hs4;have HN4:=qq (HN3.out.trans hc4 qdr);clear hc4 hb4 hs4)
     | ((with_reducible refine vq rfl (.tmp 5) 123 rfl xb ⟨w.heap.size+1,0,none⟩ [.slice Ae s.1.length ce,.int .i64 s.2] ?_ rfl (B5.out.chg HN4.out id).at_ ?_);exact rfl)
     | ((with_reducible refine xq rfl (.tmp 6) (.tmp 34) 123 rfl rfl xb (w.heap.size+1+1) 123 _ [.slice Ae s.1.length ce,.int .i64 s.2] ?_ ?_ (B6.out.chg HN4.out id) rfl rfl (gu _ _ _ _) ?_);exact rfl;exact rfl;intro w5 hc5 hb5 hs5;have h75:=(B7.out.chg HN4.out id).chg hc5 (by omega);have HN5:=qq ((HN1.out.trans HN4.out qdr).put hc5 (by omega));have HB5:=qq hb5;have H75:=qq h75;have c7:=h75.cell 0;have f7:=h75.frozen 0;simp only [qx,qj] at c7;clear hc5 hb5 hs5 h75)
    refine bodyPost_ret (pz xb rfl Tryz.underlying4 _ _ ⟨w.heap.size+1+1,0,none⟩ ⟨w.heap.size+1+1+1,0,none⟩ [.slice Ae s.1.length ce,.int .i64 s.2] false rfl (Blk.at_ (HB5.out.far (by simp) _)) rfl rfl (by have:=H75.out.setCell 0 (.bool false);exact (this.cell 0).trans rfl)) rfl ?_
    exact ⟨HN5.out.setCell _ _ (fun h=>absurd h (by simp;omega)),.inl ⟨Hnone.out (fy Hfk.out),_,_,rfl,rfl,rfl⟩⟩
   |some x=>
    unfold optV at Hek
    dsimp only [Option.getD,Option.isSome,vval] at Hek
    go_upto_region 9 with first
     | ((with_reducible refine vq rfl (.tmp 23) 64 rfl xy (ad.add (k * 7)) _ ?_ rfl Hat.out ?_);exact rfl)
     | ((with_reducible refine xx rfl rfl 10 (.tmp 24) 64 rfl rfl rfl rfl xy elTerm.zero [t0,t1,t2,t3,t4,t5,t6] ?_ ?_ rfl H1c.out ?_);exact (by decide:10 < 104);exact rfl;intro w2 hc2 hb2 hs2;have e6:=hc2.cellS e5 id;have Hc2:=qq hc2;have Hb2:=qq (Blk.at_ (cs:=[t0,t1,t2,t3,t4,t5,t6]) hb2);clear hc2 hb2 hs2)
     | ((with_reducible refine vq rfl (.tmp 10) 64 rfl xy ⟨wr.heap.size,0,none⟩ _ ?_ rfl Hb2.out ?_);exact rfl)
     | (go_at_call 115;refine (Hek.out _ (HNw.out.trans Hc2.out qdr)).mono ?_;rintro e w3 ⟨rfl,hc3⟩;have HN3:=qq (Hc2.out.trans hc3 qdr);clear hc3 e5 e6)
     | ((with_reducible refine xx rfl rfl 11 (.tmp 30) 62 rfl rfl rfl rfl vz fz.zero (vcs x) ?_ ?_ (vg _) (xw _) ?_);exact (by decide:11 < 104);exact rfl;intro w4 hc4 hb4 hs4;have HN4:=qq (HN3.out.trans hc4 qdr);have Hb4:=qq (show At w4 ⟨w3.heap.size,0,none⟩ [.int .i64 x.k,.int .i64 x.i,.string x.t,.slice none 0 0] from Blk.at_ (cs:=vcs x) hb4);clear hc4 hb4 hs4)
    have HOv4:=qq (HOv.out.chg HN4.out qdr)
    have HW4:=qq (HNw.out.trans HN4.out qdr)
    have hul:us.length≤1000:=by have:=Hl.out;have:=HN.out;omega
    have HA4:=qq (fw Ha.out Hfk.out)
    obtain ⟨w5,hw5⟩:=qdq (w4.alloc (.cells #[.int .i64 x.k,.int .i64 x.i,.string x.t,.slice none 0 0] 62))
    have hn5:New w4 w5:=by rw [hw5];exact (Chg.refl _ _).alloc _
    have hb5:Blk w5 w4.heap.size 62 #[.int .i64 x.k,.int .i64 x.i,.string x.t,.slice none 0 0]:=by rw [hw5];exact Blk.new _ _ _
    have hrun:=fz.appendS (HOv4.out.chg hn5 qdr) (qb HW4.out.size hn5.size) (some ⟨w4.heap.size,0,none⟩) 1 1 [vcs x] rfl (fun cs hc=>by rw [qn.1 hc];rfl) (fun cs hc=>by rw [qn.1 hc];exact xw x) (kj (Blk.vcs hb5) (vg x)) (by rw [qd];omega) (by rw [qd];unfold maxLen;omega) 40
    rw [hw5] at hrun
    obtain ⟨v6,w6,hrun,hown6,hc6,-⟩:=hrun
    have Hrun:=qq hrun
    have Hown6:=qq hown6
    have HC6:=qq ((hn5.mono (T':=fun k=>(Value.slice Ao us.length co).ownBlock=some k) (fun _ _ x=>x.elim)).trans (hw5▸hc6) qdr)
    clear hrun hb5 hn5 hw5 hown6 hc6
    clear HOv HN3 HNw Hc2 Hat H1c Ha Hek
    go_wp2_with first
     | ((with_reducible refine vq rfl (.tmp 11) 62 rfl vz ⟨w3.heap.size,0,none⟩ [.int .i64 x.k,.int .i64 x.i,.string x.t,.slice none 0 0] ?_ rfl Hb4.out ?_);exact rfl)
     | ((with_reducible refine xu rfl (.tmp 35) (.tmp 37) 40 40 rfl ?_ ?_ Hrun.out ?_);exact rfl;exact rfl)
    go_roundw
    case rel=>
     refine ⟨k+1,us++[x],by omega,by go_num,HA4.out,by rw [qg,Hl.out];rfl,by rw [jw];exact Hown6.out,HW4.out.trans HC6.out (fun k hk h=>?_)⟩
     have:=(HOv4.out.lt h).1
     omega
    case measure=>simp [intOf];omega
  ·have hfull:allO fs=some us:=by
    have h:=Ha.out
    rwa [qc (by rw [Hfs.out,qd, ←HN.out];omega)] at h
   obtain ⟨x,y,rfl⟩:∃ x y,us=[x,y]:=by
    have:=Hl.out
    have:=H2.out
    match us,(show us.length=2 by omega) with
    | [x,y],_=>exact ⟨x,y,rfl⟩
   obtain ⟨q,hq⟩:=qdp (testV jt x y)
   have okx:=HOkx.out _ hfull x (by simp)
   have oky:=HOkx.out _ hfull y (by simp)
   have ht:=fun W=>test_val W jt x y okx.1 oky.1 okx.2.1 okx.2.2 oky.2.1 oky.2.2
   rw [hq] at ht
   have hso:=Hsome.out x y hfull
   rw [hq] at hso
   have HT:=qq ht
   have HSo:=qq hso
   have e0:=(B4.out.chg HNw.out id).cell 0
   simp only [qx,qj] at e0
   obtain ⟨B,hB,hr⟩:=(HOv.out.rows rfl).2 (by simp)
   subst hB
   have hHR:=qq hr
   clear hfull Ha HOv Hsome Hnone HOkx HEv HOne HSeven HSrc HLen ht hso hq okx oky hr
   rw [show ([x,y]:List Vl).length=2 from rfl]
   go_upto_region 16 with fail
   refine vj (by kernel_rfl) ?_
   have hnd:New w1 wr.drew:=HNw.out.drew
   have D4:=qq (B4.out.chg hnd id)
   have D5:=qq (B5.out.chg hnd id)
   have D6:=qq (B6.out.chg hnd id)
   have D7:=qq (B7.out.chg hnd id)
   have DR:=qq (hHR.out.chg (Chg.refl wr (fun _=>False)).drew id)
   have DN:=qq (HN1.out.trans hnd qdr)
   clear hnd e0 HNw hHR
   generalize wr.drew=wd at D4 D5 D6 D7 DR DN⊢
   have hx:=(DR.out 0 _ rfl).2
   have hy:=(DR.out 1 _ rfl).2
   have Hx:=qq hx
   have Hy:=qq hy
   clear hx hy DR
   have eg51:∀ (args:Array Value) (w:World),(callFunc 148 args).run Tryz.prog w=.ok (.enter 148 args) w:=enters_of Tryz.func148 (by kernel_rfl) rfl
   refine AtN.segN2 0 10 [60,61,62,63,64,65,66,67,68,69] (fun
    |0=>fun v _=>v=.agg #[.slice Ae s.1.length ce,.int .i64 s.2]
    |1=>fun v _=>v=.pointer (some ⟨w.heap.size,1,none⟩)
    |2=>fun v _=>v=.string (opT jt)
    |3=>fun v _=>v=.slice (some B) 2 co
    |4=>fun v _=>v=.pointer (some (B.add 0))
    |5=>fun v _=>v=.agg #[.int .i64 x.k,.int .i64 x.i,.string x.t,.slice none 0 0]
    |6=>fun v _=>v=.slice (some B) 2 co
    |7=>fun v _=>v=.pointer (some (B.add 4))
    |8=>fun v _=>v=.agg #[.int .i64 y.k,.int .i64 y.i,.string y.t,.slice none 0 0]
    |9=>fun v _=>v=.bool q
    |_=>fun _ _=>True) (by kernel_rfl) (by kernel_rfl) (by kernel_rfl) (by kernel_rfl) (fun j v w1 w2 hc h=>?_) (fun i hn hi o ho A0 W hN hin hk=>?_) (fun l W5 hN hl hΦ=>?_)
   ·match j with
    |0|1|2|3|4|5|6|7|8|9=>exact h
    |_+10=>trivial
   ·rcases (show i=0∨i=1∨i=2∨i=3∨i=4∨i=5∨i=6∨i=7∨i=8∨i=9 by omega) with rfl|rfl|rfl|rfl|rfl|rfl|rfl|rfl|rfl|rfl<;>cases ho
    ·have h5:A0.tmps[5]?.getD undef=.pointer (some ⟨w.heap.size+1,0,none⟩):=hk 5
     exact .same (vu 5 _ rfl xb ⟨w.heap.size+1,0,none⟩ [.slice Ae s.1.length ce,.int .i64 s.2] h5 rfl (D5.out.chg hN id).at_) rfl
    ·have h4:A0.tmps[4]?.getD undef=.pointer (some ⟨w.heap.size,0,none⟩):=hk 4
     exact .same (by simp [go_sem,h4]) rfl
    ·have h61:A0.tmps[61]?.getD undef=.pointer (some ⟨w.heap.size,1,none⟩):=hin 1 61
     have hcx:W.cell? ⟨w.heap.size,1,none⟩=some (.string (opT jt)):=(D4.out.chg hN id).cell 1
     exact .same (v:=.string (opT jt)) (by simp [go_sem,h61,hcx]) rfl
    ·exact .same (uo 8 _ rfl (hk 8)) rfl
    ·have h63:A0.tmps[63]?.getD undef=.slice (some B) 2 co:=hin 3 63
     exact .same (by simp [go_sem,h63]) rfl
    ·have h64:A0.tmps[64]?.getD undef=.pointer (some (B.add 0)):=hin 4 64
     exact .same (vu 64 _ rfl vz (B.add (0 * 4)) (vcs x) h64 (vg x) (Hx.out.chg hN id)) rfl
    ·exact .same (uo 8 _ rfl (hk 8)) rfl
    ·have h66:A0.tmps[66]?.getD undef=.slice (some B) 2 co:=hin 6 66
     exact .same (by simp [go_sem,h66]) rfl
    ·have h67:A0.tmps[67]?.getD undef=.pointer (some (B.add 4)):=hin 7 67
     exact .same (vu 67 _ rfl vz (B.add (1 * 4)) (vcs y) h67 (vg y) (Hy.out.chg hN id)) rfl
    ·have h62:A0.tmps[62]?.getD undef=.string (opT jt):=hin 2 62
     have h65:A0.tmps[65]?.getD undef=.agg #[.int .i64 x.k,.int .i64 x.i,.string x.t,.slice none 0 0]:=hin 5 65
     have h68:A0.tmps[68]?.getD undef=.agg #[.int .i64 y.k,.int .i64 y.i,.string y.t,.slice none 0 0]:=hin 8 68
     refine .call (f:=148) (args:=#[.string (opT jt),.agg #[.int .i64 x.k,.int .i64 x.i,.string x.t,.slice none 0 0],.agg #[.int .i64 y.k,.int .i64 y.i,.string y.t,.slice none 0 0]]) (W':=W) ?_ ((HT.out W).mono ?_)
     ·simp [go_sem,h62,h65,h68,eg51]
     ·rintro e w' ⟨rfl,hc⟩
      exact ⟨_,rfl,hc,rfl⟩
   obtain ⟨x60,x61,x62,x63,x64,x65,x66,x67,x68,x69,rfl⟩:∃ x60 x61 x62 x63 x64 x65 x66 x67 x68 x69,l=[x60,x61,x62,x63,x64,x65,x66,x67,x68,x69]:=by
    match l,hl with
    | [x60,x61,x62,x63,x64,x65,x66,x67,x68,x69],_=>exact ⟨_,_,_,_,_,_,_,_,_,_,rfl⟩
   obtain rfl:x60=.agg #[.slice Ae s.1.length ce,.int .i64 s.2]:=hΦ 0 (by decide)
   obtain rfl:x61=.pointer (some ⟨w.heap.size,1,none⟩):=hΦ 1 (by decide)
   obtain rfl:x62=.string (opT jt):=hΦ 2 (by decide)
   obtain rfl:x63=.slice (some B) 2 co:=hΦ 3 (by decide)
   obtain rfl:x64=.pointer (some (B.add 0)):=hΦ 4 (by decide)
   obtain rfl:x65=.agg #[.int .i64 x.k,.int .i64 x.i,.string x.t,.slice none 0 0]:=hΦ 5 (by decide)
   obtain rfl:x66=.slice (some B) 2 co:=hΦ 6 (by decide)
   obtain rfl:x67=.pointer (some (B.add 4)):=hΦ 7 (by decide)
   obtain rfl:x68=.agg #[.int .i64 y.k,.int .i64 y.i,.string y.t,.slice none 0 0]:=hΦ 8 (by decide)
   obtain rfl:x69=.bool q:=hΦ 9 (by decide)
   simp only [putsL,zq,zj,zz,List.zip,List.zipWith,Act.put,qk,qu,qy]
   clear hΦ hl
   have F6:=qq (D6.out.chg hN id)
   have F7:=qq (D7.out.chg hN id)
   have FN:=qq (DN.out.trans hN qdr)
   clear D4 D5 D6 D7 DN hN
   refine AtN.list 10 12 (by kernel_rfl) ?_
   change wpList _ _ _ [_,_] _ _
   go_wp2_with ((with_reducible refine xq rfl (.tmp 6) (.tmp 60) 123 rfl rfl xb (w.heap.size+1+1) 123 _ [.slice Ae s.1.length ce,.int .i64 s.2] ?_ ?_ F6.out rfl rfl (gu _ _ _ _) ?_);exact rfl;exact rfl;intro w5 hc5 hb5 hs5;have h75:=F7.out.chg hc5 (by omega);have HN5:=qq (FN.out.put hc5 (by omega));have HB5:=qq hb5;have H75:=qq h75;have c7:=h75.cell 0;have f7:=h75.frozen 0;simp only [qx,qj] at c7;clear hc5 hb5 hs5 h75)
   change AtN _ _ _ 12 _ _
   refine AtN.done rfl ?_
   go_wp2_with fail
   refine bodyPost_ret (pz xb rfl Tryz.underlying4 _ _ ⟨w.heap.size+1+1,0,none⟩ ⟨w.heap.size+1+1+1,0,none⟩ [.slice Ae s.1.length ce,.int .i64 s.2] q rfl (Blk.at_ (HB5.out.far (by simp) _)) rfl rfl (by have:=H75.out.setCell 0 (.bool q);exact (this.cell 0).trans rfl)) rfl ?_
   refine ⟨HN5.out.setCell _ _ (fun h=>absurd h (by simp;omega)),?_⟩
   cases q with
   |true=>exact .inr ⟨s,_,HSo.out,rfl,HSt.out.new (HN5.out.setCell _ _ (fun h=>absurd h (by simp;omega)))⟩
   |false=>exact .inl ⟨HSo.out,_,_,rfl,rfl,rfl⟩
def il (W:World) (Ae:Option Addr) (n:Nat) (env:Env) (hn:n=env.length) (hs:SrcAt W Ae 5 (env.map bcs)) (rb:Nat) (p:ByteArray×Vl) (hb:Blk W rb 191 (bcs p).toArray) (hm:n≤999):
  ∃ v' W',(Builtin.append_ #[121,121] 121 #[.slice Ae n n,.slice (some ⟨rb,0,none⟩) 1 1]).run Tryz.prog W=.ok v' W'∧New W W'∧Own W' W.heap.size 191 5 v' ((env++[p]).map bcs):=by
 cases Ae with
 |none=>
  have h0:env=[]:=by
   cases env with
   |nil=>rfl
   |cons x l=>obtain ⟨a,h,_⟩:=hs (by simp);cases h
  subst h0
  obtain rfl:n=0:=hn
  obtain ⟨v',W',h1,h2,h3,_⟩:=elBind.appendS (Own.nil W W.heap.size 191 5) (qh _) (some ⟨rb,0,none⟩) 1 1 [bcs p] rfl (fun cs hc=>by rw [qn.1 hc];rfl) (fun cs hc=>aa [p] cs hc) (kj (Blk.at_ hb) rfl) (by simp) (by simp [maxLen]) 121
  exact ⟨v',W',h1,h3.mono (fun k _ h=>by cases h),h2⟩
 |some a=>
  obtain ⟨i,z,hi,hz,hsz,hby,hzz,hzl⟩:=elBind.info
  have hk:∀ cs∈env.map bcs,cs.length=5:=fun cs hc=>by obtain ⟨q,_,rfl⟩:=zi.1 hc;rfl
  obtain ⟨v',W',h1,h2,h3⟩:=run_append_arg_grows (P:=Tryz.prog) W 121 121 191 i z 5 72 elBind.und hi hz hsz hby (by rw [←za,hzz,hzl]) (by omega) a n n (env.map bcs).flatten (by rw [xz hk,qd, ←hn]) (fun j u hj=>by
    have hlt:j < (env.map bcs).flatten.length:=(qv.1 hj).1
    rw [xz hk,qd] at hlt
    obtain ⟨a',ha,hr⟩:=hs (by rw [qd];omega)
    obtain rfl:=Option.some.inj ha
    have hq:j / 5 < (env.map bcs).length:=by rw [qd];exact ur (by rw [jf];exact hlt)
    have hrr:=hr (j / 5) _ (qz hq)
    have hjr:j % 5 < ((env.map bcs)[j / 5]).length:=by rw [hrr.1];exact Nat.mod_lt _ (by omega)
    have hu:(env.map bcs).flatten[j / 5 * 5+j % 5]? =some ((env.map bcs)[j / 5][j % 5]):=xl hk (qz hq) (qz hjr)
    have hjj:j / 5 * 5+j % 5=j:=by rw [jf];exact un j 5
    rw [hjj] at hu
    rw [hu] at hj
    have hcell:=hrr.2 (j % 5) _ (qz hjr)
    rw [add_add,hjj] at hcell
    rw [hcell]
    exact hj) ⟨rb,0,none⟩ 1 1 (bcs p) rfl (fun j u hj=>Blk.at_ hb j u hj) (by omega) (by unfold maxLen;omega) (by omega)
  refine ⟨v',W',h1,(Chg.of_grown h3).mono (fun k _ h=>by cases h),?_,?_⟩
  ·rw [jw,qg,List.flatten_append,qd, ←hn]
   simpa using h2
  ·intro cs hc;obtain ⟨q,_,rfl⟩:=zi.1 hc;rfl
def ie (nm:ByteArray) (bm:Nat) (w0 w:World) (hw0:New w0 w) (S1:Nat→Prop) (hS1:∀ k,S1 k→k < w.heap.size) (A:Option Addr) (n c:Nat) (css:List (List Value)) (ts:List Tm) (hn:n=ts.length) (hnm:n≤1000) (hts:TmsAt w0 A css ts) (hokt:∀ t∈ts,okTm t)
  (s:Sta) (Ae:Option Addr) (ce:Nat) (hst:StAt s (.agg #[.slice Ae s.1.length ce,.int .i64 s.2]) S1 w) (hok:okEnv s.1) (hsl:s.1.length≤999) (fs:List (Option Vl)) (hfs:fs=ts.map (evalT s.1)) (o:Option Sta) (hnone:allO fs=none→o=none) (h2:n=1) (hsome:∀ x,allO fs=some [x]→o=if (lookE s.1 nm).isSome then none else some (s.1++[(nm,x)],s.2)):
  Calls Tryz.prog 114 #[.map (some bm),.agg #[.int .i64 4,.string nm,.slice A n c],.agg #[.slice Ae s.1.length ce,.int .i64 s.2]] w (GoesPost w S1 o):=by
 have Hnone:=qq hnone
 have Hsome:=qq hsome
 have H2:=qq h2
 clear hnone hsome h2
 obtain ⟨w1,hw1⟩:=qdq ((((w.alloc (.cells #[.int .i64 4,.string nm,.slice A n c] 53)).alloc (.cells #[.slice Ae s.1.length ce,.int .i64 s.2] 123)).alloc (.cells #[.slice none 0 0,.int .i64 0] 123)).alloc (.cells #[.bool false] 4))
 obtain ⟨hN1,b4,b5,b6,b7,hz1⟩:=oi _ _ _ _ _ _ _ _ _ w1 hw1
 have hev:∀ (k:Nat) (t:Tm) (cs:List Value) (W:World),css[k]? =some cs→ts[k]? =some t→New w1 W→Calls Tryz.prog 115 #[.agg cs.toArray,.slice Ae s.1.length ce] W fun e W'=>e=.returned (optV (evalT s.1 t))∧New W W':=by
  intro k t cs W hcs ht hW
  obtain ⟨A',c',he,_,_,hse,_⟩:=hst
  obtain ⟨rfl,rfl⟩:Ae=A'∧ce=c':=by
   injection he with he
   injection he with he
   injection he with h1 h2
   injection h1 with h1 _ h3
   exact ⟨h1,h3⟩
  have hww:=(hN1.trans hW qdr)
  exact bEval Ae s.1.length ce s.1 rfl (by omega) hok t (hokt t (qf ht)) W cs (hse.chg hww (fun _ _=>id)) ((hts.at_ k cs t hcs ht).chg ((hw0.trans hww qdr)))
 have hone:∀ (k:Nat) (t:Tm) (cs:List Value),css[k]? =some cs→ts[k]? =some t→∀ u∈cs,u.oneCell'=true:=fun k t cs h1 h2=>(hts.at_ k cs t h1 h2).one
 have hsrc:=hts.src.chg (hw0.trans hN1 qdr) (fun _ _=>id)
 have hlen:=hts.len
 have hseven:∀ (k:Nat) (t:Tm) (cs:List Value),css[k]? =some cs→ts[k]? =some t→∃ t0 t1 t2 t3 t4 t5 t6,cs=[t0,t1,t2,t3,t4,t5,t6]:=fun k t cs h1 h2=>(hts.at_ k cs t h1 h2).seven
 have HEv:=qq hev
 have HOne:=qq hone
 have HSeven:=qq hseven
 have HSrc:=qq hsrc
 have HLen:=qq hlen
 have HW:=qq hw1
 have HN1:=qq hN1
 have B4:=qq b4
 have B5:=qq b5
 have B6:=qq b6
 have B7:=qq b7
 have HZ:=qq hz1
 have HSt:=qq hst
 have HN:=qq hn
 have Hfs:=qq hfs
 clear hev hone hseven hsrc hlen hw1 hN1 b4 b5 b6 b7 hz1 hst hts hokt hok hw0 hn hfs
 go_enter Tryz.func114,Tryz.ntmps114
 go_upto_region 3 with fail
 rw [←HW.out]
 have e2:=(B4.out).cell 2
 simp only [qx,qj,qw] at e2
 go_wp2_with fail
 clear HW e2
 go_loopw [8,21] (fun u8 u21 wr=>∃ (k:Nat) (us:List Vl),k≤n∧u21=.int .i64 k∧allO (fs.take k)=some us∧us.length=k∧Own wr w1.heap.size 62 4 u8 (us.map vcs)∧New w1 wr) (fun _ u _=>n - (intOf u).toNat)
 case atStart=>exact ⟨0,[],qr _,rfl,rfl,rfl,Own.nil _ _ _ _,Chg.refl _ _⟩
 case round=>
  obtain ⟨k,us,hk,rfl,ha,hl,hov,hNr⟩:=hrel
  obtain ⟨Ao,co,rfl,hc1,hc2⟩:=hov.form
  rw [qd] at hov⊢
  have Ha:=qq ha
  have HOv:=qq hov
  have HNw:=qq hNr
  have Hl:=qq hl
  clear ha hov hNr hl hc1 hc2
  by_cases hlt:k < n
  ·obtain ⟨t,ht⟩:∃ t,ts[k]? =some t:=⟨_,qz (by rw [←HN.out];exact hlt)⟩
   obtain ⟨cs,hcs⟩:∃ cs,css[k]? =some cs:=⟨_,qz (by rw [HLen.out, ←HN.out];exact hlt)⟩
   obtain ⟨ad,rfl,hrw⟩:=HSrc.out (by rw [HLen.out, ←HN.out];omega)
   have hat:=(hrw k cs hcs).2.chg HNw.out id
   have h1c:=HOne.out k t cs hcs ht
   have hek:=fun W h=>HEv.out k t cs W hcs ht h
   obtain ⟨o1,ho1⟩:=qdp (evalT s.1 t)
   have hfk:fs[k]? =some o1:=by rw [Hfs.out,qa,ht, ←ho1];rfl
   rw [ho1] at hek
   obtain ⟨t0,t1,t2,t3,t4,t5,t6,rfl⟩:=HSeven.out k t cs hcs ht
   have Hat:=qq hat
   have H1c:=qq h1c
   have Hek:=qq hek
   have Hfk:=qq hfk
   clear hat h1c hek hfk hrw hcs ht ho1
   have e5:=(B5.out.chg HNw.out id).cell 0
   simp only [qx,qj] at e5
   cases o1 with
   |none=>
    unfold optV at Hek
    dsimp only [Option.getD,Option.isSome,vval,zV] at Hek
    go_wp2_with first
     | ((with_reducible refine vq rfl (.tmp 23) 64 rfl xy (ad.add (k * 7)) _ ?_ rfl Hat.out ?_);exact rfl)
     | ((with_reducible refine xx rfl rfl 10 (.tmp 24) 64 rfl rfl rfl rfl xy elTerm.zero [t0,t1,t2,t3,t4,t5,t6] ?_ ?_ rfl H1c.out ?_);exact (by decide:10 < 104);exact rfl;intro w2 hc2 hb2 hs2;have e6:=hc2.cellS e5 id;have Hc2:=qq hc2;have Hb2:=qq (Blk.at_ (cs:=[t0,t1,t2,t3,t4,t5,t6]) hb2);clear hc2 hb2 hs2)
     | ((with_reducible refine vq rfl (.tmp 10) 64 rfl xy ⟨wr.heap.size,0,none⟩ _ ?_ rfl Hb2.out ?_);exact rfl)
     | (go_at_call 115;refine (Hek.out _ (HNw.out.trans Hc2.out qdr)).mono ?_;rintro e w3 ⟨rfl,hc3⟩;have HN3:=qq ((HNw.out.trans Hc2.out qdr).trans hc3 qdr);clear hc3 e5 e6)
     | ((with_reducible refine xx rfl rfl 11 (.tmp 30) 62 rfl rfl rfl rfl vz fz.zero (vcs zV) ?_ ?_ (vg _) (xw _) ?_);exact (by decide:11 < 104);exact rfl;intro w4 hc4 hb4 hs4;have HN4:=qq (HN3.out.trans hc4 qdr);clear hc4 hb4 hs4)
     | ((with_reducible refine vq rfl (.tmp 5) 123 rfl xb ⟨w.heap.size+1,0,none⟩ [.slice Ae s.1.length ce,.int .i64 s.2] ?_ rfl (B5.out.chg HN4.out id).at_ ?_);exact rfl)
     | ((with_reducible refine xq rfl (.tmp 6) (.tmp 34) 123 rfl rfl xb (w.heap.size+1+1) 123 _ [.slice Ae s.1.length ce,.int .i64 s.2] ?_ ?_ (B6.out.chg HN4.out id) rfl rfl (gu _ _ _ _) ?_);exact rfl;exact rfl;intro w5 hc5 hb5 hs5;have h75:=(B7.out.chg HN4.out id).chg hc5 (by omega);have HN5:=qq ((HN1.out.trans HN4.out qdr).put hc5 (by omega));have HC5:=qq hc5;have HB5:=qq hb5;have H75:=qq h75;have c7:=h75.cell 0;have f7:=h75.frozen 0;simp only [qx,qj] at c7;clear hc5 hb5 hs5 h75)
    refine bodyPost_ret (pz xb rfl Tryz.underlying4 _ _ ⟨w.heap.size+1+1,0,none⟩ ⟨w.heap.size+1+1+1,0,none⟩ [.slice Ae s.1.length ce,.int .i64 s.2] false rfl (Blk.at_ (HB5.out.far (by simp) _)) rfl rfl (by have:=H75.out.setCell 0 (.bool false);exact (this.cell 0).trans rfl)) rfl ?_
    exact ⟨HN5.out.setCell _ _ (fun h=>absurd h (by simp;omega)),.inl ⟨Hnone.out (fy Hfk.out),_,_,rfl,rfl,rfl⟩⟩
   |some x=>
    unfold optV at Hek
    dsimp only [Option.getD,Option.isSome,vval] at Hek
    go_upto_region 9 with first
     | ((with_reducible refine vq rfl (.tmp 23) 64 rfl xy (ad.add (k * 7)) _ ?_ rfl Hat.out ?_);exact rfl)
     | ((with_reducible refine xx rfl rfl 10 (.tmp 24) 64 rfl rfl rfl rfl xy elTerm.zero [t0,t1,t2,t3,t4,t5,t6] ?_ ?_ rfl H1c.out ?_);exact (by decide:10 < 104);exact rfl;intro w2 hc2 hb2 hs2;have e6:=hc2.cellS e5 id;have Hc2:=qq hc2;have Hb2:=qq (Blk.at_ (cs:=[t0,t1,t2,t3,t4,t5,t6]) hb2);clear hc2 hb2 hs2)
     | ((with_reducible refine vq rfl (.tmp 10) 64 rfl xy ⟨wr.heap.size,0,none⟩ _ ?_ rfl Hb2.out ?_);exact rfl)
     | (go_at_call 115;refine (Hek.out _ (HNw.out.trans Hc2.out qdr)).mono ?_;rintro e w3 ⟨rfl,hc3⟩;have HN3:=qq (Hc2.out.trans hc3 qdr);clear hc3 e5 e6)
     | ((with_reducible refine xx rfl rfl 11 (.tmp 30) 62 rfl rfl rfl rfl vz fz.zero (vcs x) ?_ ?_ (vg _) (xw _) ?_);exact (by decide:11 < 104);exact rfl;intro w4 hc4 hb4 hs4;have HN4:=qq (HN3.out.trans hc4 qdr);have Hb4:=qq (show At w4 ⟨w3.heap.size,0,none⟩ [.int .i64 x.k,.int .i64 x.i,.string x.t,.slice none 0 0] from Blk.at_ (cs:=vcs x) hb4);clear hc4 hb4 hs4)
    have HOv4:=qq (HOv.out.chg HN4.out qdr)
    have HW4:=qq (HNw.out.trans HN4.out qdr)
    have hul:us.length≤1000:=by have:=Hl.out;have:=HN.out;omega
    have HA4:=qq (fw Ha.out Hfk.out)
    obtain ⟨w5,hw5⟩:=qdq (w4.alloc (.cells #[.int .i64 x.k,.int .i64 x.i,.string x.t,.slice none 0 0] 62))
    have hn5:New w4 w5:=by rw [hw5];exact (Chg.refl _ _).alloc _
    have hb5:Blk w5 w4.heap.size 62 #[.int .i64 x.k,.int .i64 x.i,.string x.t,.slice none 0 0]:=by rw [hw5];exact Blk.new _ _ _
    have hrun:=fz.appendS (HOv4.out.chg hn5 qdr) (qb HW4.out.size hn5.size) (some ⟨w4.heap.size,0,none⟩) 1 1 [vcs x] rfl (fun cs hc=>by rw [qn.1 hc];rfl) (fun cs hc=>by rw [qn.1 hc];exact xw x) (kj (Blk.vcs hb5) (vg x)) (by rw [qd];omega) (by rw [qd];unfold maxLen;omega) 40
    rw [hw5] at hrun
    obtain ⟨v6,w6,hrun,hown6,hc6,-⟩:=hrun
    have Hrun:=qq hrun
    have Hown6:=qq hown6
    have HC6:=qq ((hn5.mono (T':=fun k=>(Value.slice Ao us.length co).ownBlock=some k) (fun _ _ x=>x.elim)).trans (hw5▸hc6) qdr)
    clear hrun hb5 hn5 hw5 hown6 hc6
    clear HOv HN3 HNw Hc2 Hat H1c Ha Hek
    go_wp2_with first
     | ((with_reducible refine vq rfl (.tmp 11) 62 rfl vz ⟨w3.heap.size,0,none⟩ [.int .i64 x.k,.int .i64 x.i,.string x.t,.slice none 0 0] ?_ rfl Hb4.out ?_);exact rfl)
     | ((with_reducible refine xu rfl (.tmp 35) (.tmp 37) 40 40 rfl ?_ ?_ Hrun.out ?_);exact rfl;exact rfl)
    go_roundw
    case rel=>
     refine ⟨k+1,us++[x],by omega,by go_num,HA4.out,by rw [qg,Hl.out];rfl,by rw [jw];exact Hown6.out,HW4.out.trans HC6.out (fun k hk h=>?_)⟩
     have:=(HOv4.out.lt h).1
     omega
    case measure=>simp [intOf];omega
  ·have hfull:allO fs=some us:=by
    have h:=Ha.out
    rwa [qc (by rw [Hfs.out,qd, ←HN.out];omega)] at h
   obtain ⟨x,rfl⟩:∃ x,us=[x]:=by
    have:=Hl.out
    have:=H2.out
    match us,(show us.length=1 by omega) with
    | [x],_=>exact ⟨x,rfl⟩
   obtain ⟨o2,ho2⟩:=qdp (lookE s.1 nm)
   have hso:=Hsome.out x hfull
   rw [ho2] at hso
   have hlk:∀ W,New w1 W→Calls Tryz.prog 149 #[.slice Ae s.1.length ce,.string nm] W fun e W'=>e=.returned (optV o2)∧New W W':=fun W hW=>by
    rw [←ho2]
    obtain ⟨A',c',he,_,_,hse,_⟩:=HSt.out
    obtain ⟨rfl,rfl⟩:Ae=A'∧ce=c':=by
     injection he with he
     injection he with he
     injection he with h1 h2
     injection h1 with h1 _ h3
     exact ⟨h1,h3⟩
    exact bLookup Ae s.1.length ce s.1 rfl (by omega) nm W (hse.chg (HN1.out.trans hW qdr) (fun _ _=>id))
   have HLk:=qq hlk
   have HSo:=qq hso
   have e0:=(B4.out.chg HNw.out id).cell 0
   have e1:=(B4.out.chg HNw.out id).cell 1
   have e5:=(B5.out.chg HNw.out id).cell 0
   simp only [qx,qj,qw] at e0 e1 e5
   obtain ⟨B,hB,hr⟩:=(HOv.out.rows rfl).2 (by simp)
   subst hB
   have hHR:=qq hr
   clear hfull Ha HOv Hsome Hnone HEv HOne HSeven HSrc HLen hso hr hlk ho2
   rw [show ([x]:List Vl).length=1 from rfl]
   cases o2 with
   |some y=>
    have hLk:=HLk.out wr HNw.out
    unfold optV at hLk
    dsimp only [Option.getD,Option.isSome,vval] at hLk
    have HLk1:=qq hLk
    clear hLk
    go_wp2_with first
     | (go_at_call 149;refine HLk1.out.mono ?_;rintro e w3 ⟨rfl,hc3⟩;have HN3:=qq (HNw.out.trans hc3 qdr);clear hc3)
     | ((with_reducible refine xx rfl rfl 13 (.tmp 85) 62 rfl rfl rfl rfl vz fz.zero (vcs y) ?_ ?_ (vg _) (xw _) ?_);exact (by decide:13 < 104);exact rfl;intro w4 hc4 hb4 hs4;have HN4:=qq (HN3.out.trans hc4 qdr);clear hc4 hb4 hs4)
     | ((with_reducible refine vq rfl (.tmp 5) 123 rfl xb ⟨w.heap.size+1,0,none⟩ [.slice Ae s.1.length ce,.int .i64 s.2] ?_ rfl (B5.out.chg HN4.out id).at_ ?_);exact rfl)
     | ((with_reducible refine xq rfl (.tmp 6) (.tmp 88) 123 rfl rfl xb (w.heap.size+1+1) 123 _ [.slice Ae s.1.length ce,.int .i64 s.2] ?_ ?_ (B6.out.chg HN4.out id) rfl rfl (gu _ _ _ _) ?_);exact rfl;exact rfl;intro w5 hc5 hb5 hs5;have h75:=(B7.out.chg HN4.out id).chg hc5 (by omega);have HN5:=qq ((HN1.out.trans HN4.out qdr).put hc5 (by omega));have HC5:=qq hc5;have HB5:=qq hb5;have H75:=qq h75;have c7:=h75.cell 0;have f7:=h75.frozen 0;simp only [qx,qj] at c7;clear hc5 hb5 hs5 h75)
    refine bodyPost_ret (pz xb rfl Tryz.underlying4 _ _ ⟨w.heap.size+1+1,0,none⟩ ⟨w.heap.size+1+1+1,0,none⟩ [.slice Ae s.1.length ce,.int .i64 s.2] false rfl (Blk.at_ (HB5.out.far (by simp) _)) rfl rfl (by have:=H75.out.setCell 0 (.bool false);exact (this.cell 0).trans rfl)) rfl ?_
    exact ⟨HN5.out.setCell _ _ (fun h=>absurd h (by simp;omega)),.inl ⟨HSo.out,_,_,rfl,rfl,rfl⟩⟩
   |none=>
    have hLk:=HLk.out wr HNw.out
    unfold optV at hLk
    dsimp only [Option.getD,Option.isSome,vval,zV] at hLk
    have HLk1:=qq hLk
    clear hLk
    go_upto_region 21 with first
     | (go_at_call 149;refine HLk1.out.mono ?_;rintro e w3 ⟨rfl,hc3⟩;have HN3:=qq hc3;clear hc3)
     | ((with_reducible refine xx rfl rfl 13 (.tmp 85) 62 rfl rfl rfl rfl vz fz.zero (vcs zV) ?_ ?_ (vg _) (xw _) ?_);exact (by decide:13 < 104);exact rfl;intro w4 hc4 hb4 hs4;have HN4:=qq (HN3.out.trans hc4 qdr);clear hc4 hb4 hs4)
    refine vj (by kernel_rfl) ?_
    have hnw:New wr w4.drew:=HN4.out.drew
    have hnd:New w1 w4.drew:=HNw.out.trans hnw qdr
    have D4:=qq (B4.out.chg hnd id)
    have D5:=qq (B5.out.chg hnd id)
    have D6:=qq (B6.out.chg hnd id)
    have D7:=qq (B7.out.chg hnd id)
    have DR:=qq (hHR.out.chg hnw id)
    have DN:=qq (HN1.out.trans hnd qdr)
    have Dz:=qq hnd.size
    clear hnd hnw e0 e1 e5 HNw hHR HN3 HN4
    generalize w4.drew=wd at D4 D5 D6 D7 DR DN Dz⊢
    have hx:=(DR.out 0 _ rfl).2
    have Hx:=qq hx
    obtain ⟨A',c',hee,hle,hcm,hse,_⟩:=HSt.out
    obtain ⟨rfl,rfl⟩:Ae=A'∧ce=c':=by
     injection hee with he
     injection he with he
     injection he with h1 h2
     injection h1 with h1 _ h3
     exact ⟨h1,h3⟩
    have HSe:=qq (hse.chg DN.out (fun _ _=>id))
    have Hle:=qq hle
    have Hcm:=qq hcm
    clear hx DR hee hle hcm hse
    have eg53:∀ (args:Array Value) (w:World),(callFunc 150 args).run Tryz.prog w=.ok (.enter 150 args) w:=enters_of Tryz.func150 (by kernel_rfl) rfl
    refine AtN.segN2 0 14 [89,90,91,92,93,94,95,96,97,98,99,100,101,102] (fun
     |0=>fun v _=>v=.pointer (some ⟨w.heap.size+1,0,none⟩)
     |1=>fun v _=>v=.slice Ae s.1.length ce
     |2=>fun v _=>v=.slice Ae s.1.length s.1.length
     |3=>fun v _=>v=.pointer (some ⟨w.heap.size,1,none⟩)
     |4=>fun v _=>v=.string nm
     |5=>fun v _=>v=.slice (some B) 1 co
     |6=>fun v _=>v=.pointer (some (B.add 0))
     |7=>fun v _=>v=.agg #[.int .i64 x.k,.int .i64 x.i,.string x.t,.slice none 0 0]
     |8=>fun v _=>v=.agg #[.string nm,.int .i64 x.k,.int .i64 x.i,.string x.t,.slice none 0 0]
     |9=>fun v W=>∃ rb,v=.slice (some ⟨rb,0,none⟩) 1 1∧Blk W rb 191 #[.string nm,.int .i64 x.k,.int .i64 x.i,.string x.t,.slice none 0 0]
     |10=>fun v W=>∃ Av cv,v=.slice Av (s.1.length+1) cv∧s.1.length+1≤cv∧cv≤maxLen∧SrcAt W Av 5 ((s.1++[(nm,x)]).map bcs)∧∀ a,Av=some a→a.block < W.heap.size∧wd.heap.size≤a.block
     |11=>fun v _=>v=.pointer (some ⟨w.heap.size+1,1,none⟩)
     |12=>fun v _=>v=.int .i64 s.2
     |13=>fun v W=>∃ Av cv,v=.agg #[.slice Av (s.1.length+1) cv,.int .i64 s.2]∧s.1.length+1≤cv∧cv≤maxLen∧SrcAt W Av 5 ((s.1++[(nm,x)]).map bcs)∧∀ a,Av=some a→a.block < W.heap.size∧wd.heap.size≤a.block
     |_=>fun _ _=>True) (by kernel_rfl) (by kernel_rfl) (by kernel_rfl) (by kernel_rfl) (fun j v w1 w2 hc h=>?_) (fun i hn hi o ho A0 W hN hin hk=>?_) (fun l W5 hN hl hΦ=>?_)
    ·match j with
     |9=>exact h.imp fun b h=>⟨h.1,h.2.chg hc id⟩
     |10=>exact h.imp fun Av h=>h.imp fun cv h=>⟨h.1,h.2.1,h.2.2.1,h.2.2.2.1.chg hc (fun _ _=>id),fun a ha=>⟨zd (h.2.2.2.2 a ha).1 hc.size,(h.2.2.2.2 a ha).2⟩⟩
     |13=>exact h.imp fun Av h=>h.imp fun cv h=>⟨h.1,h.2.1,h.2.2.1,h.2.2.2.1.chg hc (fun _ _=>id),fun a ha=>⟨zd (h.2.2.2.2 a ha).1 hc.size,(h.2.2.2.2 a ha).2⟩⟩
     |0|1|2|3|4|5|6|7|8|11|12=>exact h
     |_+14=>trivial
    ·rcases (show i=0∨i=1∨i=2∨i=3∨i=4∨i=5∨i=6∨i=7∨i=8∨i=9∨i=10∨i=11∨i=12∨i=13 by omega) with rfl|rfl|rfl|rfl|rfl|rfl|rfl|rfl|rfl|rfl|rfl|rfl|rfl|rfl<;>cases ho
     ·have h5:A0.tmps[5]?.getD undef=.pointer (some ⟨w.heap.size+1,0,none⟩):=hk 5
      exact .same (by simp [go_sem,h5]) rfl
     ·have h89:A0.tmps[89]?.getD undef=.pointer (some ⟨w.heap.size+1,0,none⟩):=hin 0 89
      have hcx:W.cell? ⟨w.heap.size+1,0,none⟩=some (.slice Ae s.1.length ce):=(D5.out.chg hN id).cell 0
      exact .same (v:=.slice Ae s.1.length ce) (by simp [go_sem,h89,hcx]) rfl
     ·have h90:A0.tmps[90]?.getD undef=.slice Ae s.1.length ce:=hin 1 90
      refine .call (f:=150) (args:=#[.slice Ae s.1.length ce]) (W':=W) ?_ ((clip_env W Ae s.1.length ce Hle.out Hcm.out).mono ?_)
      ·simp [go_sem,h90,eg53]
      ·rintro e w' ⟨rfl,rfl⟩
       exact ⟨_,rfl,Chg.refl _ _,rfl⟩
     ·have h4:A0.tmps[4]?.getD undef=.pointer (some ⟨w.heap.size,0,none⟩):=hk 4
      exact .same (by simp [go_sem,h4]) rfl
     ·have h92:A0.tmps[92]?.getD undef=.pointer (some ⟨w.heap.size,1,none⟩):=hin 3 92
      have hcx:W.cell? ⟨w.heap.size,1,none⟩=some (.string nm):=(D4.out.chg hN id).cell 1
      exact .same (v:=.string nm) (by simp [go_sem,h92,hcx]) rfl
     ·exact .same (uo 8 _ rfl (hk 8)) rfl
     ·have h94:A0.tmps[94]?.getD undef=.slice (some B) 1 co:=hin 5 94
      exact .same (by simp [go_sem,h94]) rfl
     ·have h95:A0.tmps[95]?.getD undef=.pointer (some (B.add 0)):=hin 6 95
      exact .same (vu 95 _ rfl vz (B.add (0 * 4)) (vcs x) h95 (vg x) (Hx.out.chg hN id)) rfl
     ·have h93:A0.tmps[93]?.getD undef=.string nm:=hin 4 93
      have h96:A0.tmps[96]?.getD undef=.agg #[.int .i64 x.k,.int .i64 x.i,.string x.t,.slice none 0 0]:=hin 7 96
      exact .same (by simp [go_sem,h93,h96]) rfl
     ·have h97:A0.tmps[97]?.getD undef=.agg #[.string nm,.int .i64 x.k,.int .i64 x.i,.string x.t,.slice none 0 0]:=hin 8 97
      exact .value (W':=W.alloc (.cells #[.string nm,.int .i64 x.k,.int .i64 x.i,.string x.t,.slice none 0 0] 191)) (by simp [go_sem,h97]) ⟨(Chg.refl _ _).alloc _,_,rfl,Blk.new _ _ _⟩
     ·have h91:A0.tmps[91]?.getD undef=.slice Ae s.1.length s.1.length:=hin 2 91
      have h98:=hin 9 98
      obtain ⟨rb,e98,hb⟩:=h98
      obtain ⟨v1,W',hrun,hnew,hown⟩:=il W Ae s.1.length s.1 rfl (HSe.out.chg hN (fun _ _=>id)) rb (nm,x) hb hsl
      obtain ⟨Av,cv,hv,hv1,hv2⟩:=hown.form
      rw [qd,qg] at hv hv1
      refine .value (gj _ _ _ _ rfl (by simpa [Act.eval] using h91) (by simpa [Act.eval] using e98) hrun) ⟨hnew,Av,cv,hv,hv1,hv2,(hown.rows hv).2,fun a ha=>?_⟩
      have:=hown.lt (g:=a.block) (by rw [hv,ha];rfl)
      exact ⟨this.2,qb hN.size this.1⟩
     ·have h5:A0.tmps[5]?.getD undef=.pointer (some ⟨w.heap.size+1,0,none⟩):=hk 5
      exact .same (by simp [go_sem,h5]) rfl
     ·have h100:A0.tmps[100]?.getD undef=.pointer (some ⟨w.heap.size+1,1,none⟩):=hin 11 100
      have hcx:W.cell? ⟨w.heap.size+1,1,none⟩=some (.int .i64 s.2):=(D5.out.chg hN id).cell 1
      exact .same (v:=.int .i64 s.2) (by simp [go_sem,h100,hcx]) rfl
     ·have h99:=hin 10 99
      have h101:A0.tmps[101]?.getD undef=.int .i64 s.2:=hin 12 101
      obtain ⟨Av,cv,e99,hr⟩:=h99
      exact .same (v:=.agg #[.slice Av (s.1.length+1) cv,.int .i64 s.2]) (by simp [go_sem,e99,h101]) ⟨Av,cv,rfl,hr⟩
    obtain ⟨x89,x90,x91,x92,x93,x94,x95,x96,x97,x98,x99,x100,x101,x102,rfl⟩:∃ x89 x90 x91 x92 x93 x94 x95 x96 x97 x98 x99 x100 x101 x102,l=[x89,x90,x91,x92,x93,x94,x95,x96,x97,x98,x99,x100,x101,x102]:=by
     match l,hl with
     | [x89,x90,x91,x92,x93,x94,x95,x96,x97,x98,x99,x100,x101,x102],_=>exact ⟨_,_,_,_,_,_,_,_,_,_,_,_,_,_,rfl⟩
    obtain rfl:x89=.pointer (some ⟨w.heap.size+1,0,none⟩):=hΦ 0 (by decide)
    obtain rfl:x90=.slice Ae s.1.length ce:=hΦ 1 (by decide)
    obtain rfl:x91=.slice Ae s.1.length s.1.length:=hΦ 2 (by decide)
    obtain rfl:x92=.pointer (some ⟨w.heap.size,1,none⟩):=hΦ 3 (by decide)
    obtain rfl:x93=.string nm:=hΦ 4 (by decide)
    obtain rfl:x94=.slice (some B) 1 co:=hΦ 5 (by decide)
    obtain rfl:x95=.pointer (some (B.add 0)):=hΦ 6 (by decide)
    obtain rfl:x96=.agg #[.int .i64 x.k,.int .i64 x.i,.string x.t,.slice none 0 0]:=hΦ 7 (by decide)
    obtain rfl:x97=.agg #[.string nm,.int .i64 x.k,.int .i64 x.i,.string x.t,.slice none 0 0]:=hΦ 8 (by decide)
    have hx98:=hΦ 9 (by decide)
    have hx99:=hΦ 10 (by decide)
    obtain rfl:x100=.pointer (some ⟨w.heap.size+1,1,none⟩):=hΦ 11 (by decide)
    obtain rfl:x101=.int .i64 s.2:=hΦ 12 (by decide)
    have hx102:=hΦ 13 (by decide)
    simp only [putsL,zq,zj,zz,List.zip,List.zipWith,Act.put,qk,qu,qy]
    clear hΦ hl
    have F6:=qq (D6.out.chg hN id)
    have F7:=qq (D7.out.chg hN id)
    have FN:=qq (DN.out.trans hN qdr)
    obtain ⟨Av,cv,rfl,hv1,hv2,hv3,hv4⟩:=hx102
    obtain ⟨Aw,cw,rfl,_⟩:=hx99
    obtain ⟨rb,rfl,_⟩:=hx98
    have HV3:=qq hv3
    have HV4:=qq hv4
    have HDz:=Dz
    clear D4 D5 D6 D7 DN hN hv3 hv4 HSe
    refine AtN.list 14 16 (by kernel_rfl) ?_
    change wpList _ _ _ [_,_] _ _
    go_wp2_with ((with_reducible refine xq rfl (.tmp 6) (.tmp 102) 123 rfl rfl xb (w.heap.size+1+1) 123 _ [.slice Av (s.1.length+1) cv,.int .i64 s.2] ?_ ?_ F6.out rfl rfl (gu _ _ _ _) ?_);exact rfl;exact rfl;intro w5 hc5 hb5 hs5;have h75:=F7.out.chg hc5 (by omega);have HN5:=qq (FN.out.put hc5 (by omega));have HC5:=qq hc5;have HB5:=qq hb5;have H75:=qq h75;have c7:=h75.cell 0;have f7:=h75.frozen 0;simp only [qx,qj] at c7;clear hc5 hb5 hs5 h75)
    change AtN _ _ _ 16 _ _
    refine AtN.done rfl ?_
    go_wp2_with fail
    refine bodyPost_ret (pz xb rfl Tryz.underlying4 _ _ ⟨w.heap.size+1+1,0,none⟩ ⟨w.heap.size+1+1+1,0,none⟩ [.slice Av (s.1.length+1) cv,.int .i64 s.2] true rfl (Blk.at_ (HB5.out.far (by simp) _)) rfl rfl (by have:=H75.out.setCell 0 (.bool true);exact (this.cell 0).trans rfl)) rfl ?_
    refine ⟨HN5.out.setCell _ _ (fun h=>absurd h (by simp;omega)),.inr ⟨(s.1++[(nm,x)],s.2),_,by rw [HSo.out];rfl,rfl,Av,cv,by rw [qg];rfl,by rw [qg];exact hv1,hv2,?_,fun a ha=>?_⟩⟩
    ·exact HV3.out.chg (((Chg.refl W5 (fun k=>w.heap.size+1+1≤k∧k < wd.heap.size)).trans HC5.out (fun k hk h=>by subst h;exact ⟨qh _,by have:=HDz.out;have:=HZ.out;omega⟩)).setCell _ _ (fun _=>⟨by simp,by have:=HDz.out;have:=HZ.out;simp;omega⟩)) (fun a ha h=>by have:=(HV4.out a ha).2;omega)
    ·obtain ⟨k1,k2⟩:=HV4.out a ha
     refine ⟨by rw [World.size_setCell];have:=HC5.out.size;omega,fun h=>?_⟩
     have:=hS1 _ h
     have:=HDz.out
     have:=HZ.out
     omega
end Go.Proofs.YtbpgfnbhihklnaaGreat
