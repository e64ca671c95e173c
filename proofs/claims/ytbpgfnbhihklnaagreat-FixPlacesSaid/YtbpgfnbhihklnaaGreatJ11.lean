/- Part 11 of what stands beneath. -/
import Derived.Test.YtbpgfnbhihklnaaGreatJ10
import Derived.ScopeJumps
set_option maxHeartbeats 8000000
set_option maxRecDepth 100000
set_option linter.all false
namespace Go.Proofs.YtbpgfnbhihklnaaGreat
open Go.RowKit Go.Shelf
def isVar (s:ByteArray):Tm→Bool
 | .var t=>decide (s=t)
 |_=>false
def bndA (f:ByteArray→Bool) (ts:List Tm):ByteArray→Bool:=fun s=>f s||ts.any (isVar s)
def bnd1 (L:Lt) (f:ByteArray→Bool):ByteArray→Bool:=if L.kind=1 then bndA f L.args else f
def takeE (L:Lt) (f:ByteArray→Bool):Int:=if (varsL L.args).all (bnd1 L f)=false then 61 else if L.kind≠4 then 0 else if bnd1 L f L.name=true then 62 else 0
def takeF (L:Lt) (f:ByteArray→Bool):ByteArray→Bool:=if (varsL L.args).all (bnd1 L f)=true∧L.kind=4 then fun t=>decide (t=L.name)||bnd1 L f t else bnd1 L f
def qdj {f:ByteArray→Bool} {ts:List Tm} {k:Nat} {t:Tm} (h:ts[k]? =some t):bndA f (ts.take (k+1))=fun s=>bndA f (ts.take k) s||isVar s t:=by
 funext s
 unfold bndA
 rw [vh h,List.any_append,Bool.or_assoc]
 simp
def TakePost (w:World) (bm:Nat) (f:ByteArray→Bool) (L:Lt) (e:Ending) (w':World):Prop:=e=.returned (.int .i64 (takeE L f))∧BMap w' bm (takeF L f)∧Chg w w' (fun k=>k=bm)
def ot (w0 w:World) (hN0:New w0 w) (bm:Nat) (hbm:w0.heap.size≤bm) (f:ByteArray→Bool) (hm:BMap w bm f) (nm:ByteArray) (A:Option Addr) (n c:Nat) (css:List (List Value)) (ts:List Tm) (hn:n=ts.length) (hmx:n≤1000) (hT:TmsAt w0 A css ts):
  Calls Tryz.prog 109 #[.map (some bm),.agg #[.int .i64 1,.string nm,.slice A n c]] w (TakePost w bm f (.atom false nm ts)):=by
 obtain ⟨w1,hw1⟩:=qdq (w.alloc (.cells #[.int .i64 1,.string nm,.slice A n c] 53))
 have hN1:New w w1:=by rw [hw1];exact (Chg.refl _ _).alloc _
 have HB3:=qq (show Blk w1 w.heap.size 53 #[.int .i64 1,.string nm,.slice A n c] by rw [hw1];exact Blk.new w _ _)
 have HM:=qq (hm.chg hN1 id)
 have HT:=qq hT
 have HN:=qq hn
 have HN1:=qq hN1
 have HN0:=qq (hN0.trans hN1 qdr)
 have HW1:=qq hw1
 have hlt:=hm.lt
 have Hlt:=qq hlt
 have Hbm:=qq hbm
 clear hm hT hn hN1 hw1 hlt hN0 hbm
 go_enter Tryz.func109,Tryz.ntmps109
 go_upto_region 1 with fail
 rw [←HW1.out]
 have e0:=HB3.out.cell 0
 have e2:=HB3.out.cell 2
 simp only [qx,qj,qw] at e0 e2
 clear HW1
 go_wp2_with fail
 clear e0 e2
 go_loopw [13] (fun u13 wr=>∃ k:Nat,k≤n∧u13=.int .i64 k∧BMap wr bm (bndA f (ts.take k))∧Chg w1 wr (fun k=>k=bm)) (fun u _=>n - (intOf u).toNat)
 case atStart=>exact ⟨0,qr _,rfl,by rw [show bndA f (ts.take 0)=f from funext fun s=>by simp [bndA]];exact HM.out,Chg.refl _ _⟩
 case round=>
  obtain ⟨k,hk,rfl,hb,hc⟩:=hrel
  have HBm:=qq hb
  have HC:=qq hc
  have HNr:=qq (show New w0 wr from HN0.out.trans hc (fun k hk h=>by have:=Hbm.out;omega))
  clear hb hc
  by_cases hlt:k < n
  ·obtain ⟨t,ht⟩:∃ t,ts[k]? =some t:=⟨_,qz (by rw [←HN.out];exact hlt)⟩
   obtain ⟨cs,hcs⟩:∃ cs,css[k]? =some cs:=⟨_,qz (by rw [HT.out.len, ←HN.out];exact hlt)⟩
   obtain ⟨ad,rfl,hrw⟩:=HT.out.src (by rw [HT.out.len, ←HN.out];omega)
   have htm:=HT.out.at_ k cs t hcs ht
   have Hat:=qq ((hrw k cs hcs).2.chg HNr.out id)
   have H1c:=qq htm.one
   have Hst:=qq (qdj (f:=f) ht)
   have q0:(0:Int)≤(k:Int):=by omega
   have q1:(k:Int) < (n:Int):=by omega
   have hsp:=htm.split
   clear hrw hcs htm ht
   rcases hsp with ⟨s,rfl,rfl⟩| ⟨k1,s,s2,k2,i2,A',c',css',ts',hk1,rfl,hT',hv',hl',hd',hnv'⟩
   ·go_upto_region 6 with first
     | ((with_reducible refine vq rfl (.tmp 15) 64 rfl xy (ad.add (k * 7)) [.int .i64 1,.string s,.int .i64 0,.int .i64 0,.string ⟨#[]⟩,.slice none 0 0,.slice none 0 0] ?_ rfl Hat.out ?_);exact rfl)
     | (with_reducible refine gz rfl 64 rfl elTerm.zero ?_;intro w3 cur hc3 hb3 hsz hs3;have HC3:=qq hc3;have HB4:=qq hb3;have Hsz:=qq hsz;clear hc3 hb3 hsz hs3)
     | ((with_reducible refine xq rfl (.tmp 6) (.tmp 16) 64 rfl rfl xy wr.heap.size 64 _ [.int .i64 1,.string s,.int .i64 0,.int .i64 0,.string ⟨#[]⟩,.slice none 0 0,.slice none 0 0] ?_ ?_ HB4.out rfl Hsz.out H1c.out ?_);exact rfl;exact rfl;intro w4 hc4 hb4 hs4;have HC4:=qq (HC3.out.put hc4 (qh _));have e0:=hb4.cell 0;have e1:=hb4.cell 1;simp only [qx,qj,qw] at e0 e1;clear hc4 hb4 hs4)
    obtain ⟨w5,hup,hb5,hc5⟩:=(HBm.out.chg HC4.out id).put s
    have HB5:=qq hb5
    have HC5:=qq hc5
    clear hb5 hc5
    go_wp2_with fail
    go_roundw
    case rel=>
     refine ⟨k+1,by omega,by go_num,?_,(HC.out.trans HC4.out (fun _ _ h=>h.elim)).trans HC5.out (fun _ _ h=>h)⟩
     rw [Hst.out]
     have:=HB5.out
     rwa [show (fun s_1=>bndA f (ts.take k) s_1||isVar s_1 (.var s))=fun t=>decide (t=s)||bndA f (ts.take k) t from funext fun t=>Bool.or_comm _ _]
    case measure=>simp [intOf];omega
   ·go_upto_region 7 with first
     | ((with_reducible refine vq rfl (.tmp 15) 64 rfl xy (ad.add (k * 7)) [.int .i64 k1,.string s,.int .i64 k2,.int .i64 i2,.string s2,.slice none 0 0,.slice A' ts'.length c'] ?_ rfl Hat.out ?_);exact rfl)
     | (with_reducible refine gz rfl 64 rfl elTerm.zero ?_;intro w3 cur hc3 hb3 hsz hs3;have HC3:=qq hc3;have HB4:=qq hb3;have Hsz:=qq hsz;clear hc3 hb3 hsz hs3)
     | ((with_reducible refine xq rfl (.tmp 6) (.tmp 16) 64 rfl rfl xy wr.heap.size 64 _ [.int .i64 k1,.string s,.int .i64 k2,.int .i64 i2,.string s2,.slice none 0 0,.slice A' ts'.length c'] ?_ ?_ HB4.out rfl Hsz.out H1c.out ?_);exact rfl;exact rfl;intro w4 hc4 hb4 hs4;have HC4:=qq (HC3.out.put hc4 (qh _));have e0:=hb4.cell 0;have e1:=hb4.cell 1;simp only [qx,qj,qw] at e0 e1;clear hc4 hb4 hs4)
    have hnv:∀ u,isVar u t=false:=fun u=>by
     cases t with
     |var x=>exact absurd rfl (hnv' x)
     |val v=>rfl
     |op m a b=>rfl
    have Hnv:=qq hnv
    clear hnv hnv' hT' hv' hl' hd'
    go_wp2_with fail
    go_roundw
    case rel=>
     refine ⟨k+1,by omega,by go_num,?_,HC.out.trans HC4.out (fun _ _ h=>h.elim)⟩
     rw [Hst.out]
     have:=HBm.out.chg HC4.out id
     simpa [Hnv.out] using this
    case measure=>simp [intOf];omega
  ·have HBf:=qq (show BMap wr bm (bndA f ts) by have:=HBm.out;rwa [qc (by rw [←HN.out];omega)] at this)
   have HD:=qq (HB3.out.chg HC.out (by have:=Hlt.out;omega))
   have HAll:=qq (mh wr bm (bndA f ts) HBf.out A n c css ts HN.out hmx (HT.out.chg HNr.out))
   have e0:=HD.out.cell 0
   have e2:=HD.out.cell 2
   simp only [qx,qj,qw] at e0 e2
   obtain ⟨q,hq⟩:=qdp ((varsL ts).all (bndA f ts))
   rw [hq] at HAll
   have Hq:=qq hq
   clear hq
   have hend:∀ w5,New wr w5→TakePost w bm f (.atom false nm ts) (.returned (.int .i64 (bif q then 0 else 61))) w5:=by
    intro w5 hn5
    refine ⟨?_,?_,(((HN1.out.mono (T':=fun k=>k=bm) (fun _ _ h=>h.elim)).trans HC.out (fun _ _ h=>h))).trans hn5 (fun _ _ h=>h.elim)⟩
    ·have h1:bnd1 (.atom false nm ts) f=bndA f ts:=rfl
     unfold takeE
     rw [h1]
     show Ending.returned _=.returned (.int .i64 (if (varsL ts).all (bndA f ts)=false then 61 else if (1:Int)≠4 then 0 else _))
     rw [Hq.out]
     cases q <;> rfl
    ·have h1:takeF (.atom false nm ts) f=bndA f ts:=by
      unfold takeF
      rw [if_neg (fun h=>absurd (show (1:Int)=4 from h.2) (by decide))]
      rfl
     rw [h1]
     exact HBf.out.chg hn5 id
   have HEnd:=qq hend
   clear hend
   cases q with
   |true=>
    go_wp2_with (go_at_call 110;refine HAll.out.mono ?_;rintro e w5 ⟨rfl,hn5⟩;have g0:=(HD.out.chg hn5 id).cell 0;simp only [qx,qj,qw] at g0;have HN5:=qq hn5;clear hn5 e0 e2)
    go_ret
    exact HEnd.out _ HN5.out
   |false=>
    go_wp2_with (go_at_call 110;refine HAll.out.mono ?_;rintro e w5 ⟨rfl,hn5⟩;have g0:=(HD.out.chg hn5 id).cell 0;simp only [qx,qj,qw] at g0;have HN5:=qq hn5;clear hn5 e0 e2)
    go_ret
    exact HEnd.out _ HN5.out
def ip (w:World) (bm:Nat) (f:ByteArray→Bool) (hm:BMap w bm f) (kk:Int) (hkk:kk=2∨kk=3∨kk=4) (nm:ByteArray) (A:Option Addr) (n c:Nat) (css:List (List Value)) (ts:List Tm) (hn:n=ts.length) (hmx:n≤1000) (hT:TmsAt w A css ts) (q r:Bool) (hq:(varsL ts).all f=q) (hr:f nm=r):
  Calls Tryz.prog 109 #[.map (some bm),.agg #[.int .i64 kk,.string nm,.slice A n c]] w fun e w'=>e=.returned (.int .i64 (bif q then (if kk=4 then (bif r then 62 else 0) else 0) else 61))∧BMap w' bm (if kk=4∧q=true∧r=false then fun t=>decide (t=nm)||f t else f)∧Chg w w' (fun k=>k=bm):=by
 have hN1:New w (w.alloc (.cells #[.int .i64 kk,.string nm,.slice A n c] 53)):=(Chg.refl _ _).alloc _
 have HB3:=qq (Blk.new w 53 #[.int .i64 kk,.string nm,.slice A n c])
 have HM:=qq (hm.chg hN1 id)
 have hAll:=mh _ bm f (hm.chg hN1 id) A n c css ts hn hmx (hT.chg hN1)
 rw [hq] at hAll
 have HAll:=qq hAll
 have HN1:=qq hN1
 clear hm hT hn hN1 hAll hq
 have Hr:=qq hr
 clear hr
 cases q with
 |false=>
  rcases hkk with rfl|rfl|rfl
  all_goals
   go_enter Tryz.func109,Tryz.ntmps109
   go_wp2_with (go_at_call 110;refine HAll.out.mono ?_;rintro e w5 ⟨rfl,hn5⟩;have HN5:=qq hn5;clear hn5)
   go_ret
   exact ⟨rfl,by simpa using HM.out.chg HN5.out id,((HN1.out.trans HN5.out qdr).mono (fun _ _ h=>h.elim))⟩
 |true=>
  rcases hkk with rfl|rfl|rfl
  iterate 2
   ·go_enter Tryz.func109,Tryz.ntmps109
    go_wp2_with (go_at_call 110;refine HAll.out.mono ?_;rintro e w5 ⟨rfl,hn5⟩;have g0:=(HB3.out.chg hn5 id).cell 0;simp only [qx,qj,qw] at g0;have HN5:=qq hn5;clear hn5)
    go_ret
    exact ⟨rfl,by simpa using HM.out.chg HN5.out id,((HN1.out.trans HN5.out qdr).mono (fun _ _ h=>h.elim))⟩
  ·cases r with
   |true=>
    go_enter Tryz.func109,Tryz.ntmps109
    go_wp2_with (go_at_call 110;refine HAll.out.mono ?_;rintro e w5 ⟨rfl,hn5⟩;have g0:=(HB3.out.chg hn5 id).cell 0;have g1:=(HB3.out.chg hn5 id).cell 1;simp only [qx,qj,qw] at g0 g1;have hlk:=(HM.out.chg hn5 id).look nm;rw [Hr.out] at hlk;have HN5:=qq hn5;clear hn5)
    go_ret
    exact ⟨rfl,by simpa using HM.out.chg HN5.out id,((HN1.out.trans HN5.out qdr).mono (fun _ _ h=>h.elim))⟩
   |false=>
    go_enter Tryz.func109,Tryz.ntmps109
    go_wp2_with (go_at_call 110;refine HAll.out.mono ?_;rintro e w5 ⟨rfl,hn5⟩;have g0:=(HB3.out.chg hn5 id).cell 0;have g1:=(HB3.out.chg hn5 id).cell 1;simp only [qx,qj,qw] at g0 g1;have hlk:=(HM.out.chg hn5 id).look nm;rw [Hr.out] at hlk;obtain ⟨w6,hup,hb6,hc6⟩:=(HM.out.chg hn5 id).put nm;have HB6:=qq hb6;have HC6:=qq hc6;have HN5:=qq hn5;clear hn5 hb6 hc6)
    go_ret
    exact ⟨rfl,by simpa using HB6.out,((HN1.out.trans HN5.out qdr).mono (T':=fun k=>k=bm) (fun _ _ h=>h.elim)).trans HC6.out (fun _ _ h=>h)⟩
def qad {L:Lt} (f:ByteArray→Bool) (hk:L.kind≠1):takeE L f=(bif (varsL L.args).all f then (if L.kind=4 then (bif f L.name then 62 else 0) else 0) else 61)∧takeF L f=if L.kind=4∧(varsL L.args).all f=true∧f L.name=false then fun t=>decide (t=L.name)||f t else f:=by
 have h1:bnd1 L f=f:=by unfold bnd1;rw [if_neg hk]
 unfold takeE takeF
 rw [h1]
 constructor
 ·cases (varsL L.args).all f with
  |false=>rfl
  |true=>
   by_cases h4:L.kind=4
   ·cases f L.name <;> simp [h4]
   ·simp [h4]
 ·by_cases h4:L.kind=4
  ·cases (varsL L.args).all f with
   |false=>simp [h4]
   |true=>
    cases hn:f L.name with
    |false=>simp [h4]
    |true=>
     simp only [h4,and_self,if_true]
     rw [if_neg (by simp)]
     funext t
     by_cases ht:t=L.name
     ·rw [ht,hn];simp
     ·simp [ht]
  ·simp [h4]
def takes_ok (w0 w:World) (hN0:New w0 w) (bm:Nat) (hbm:w0.heap.size≤bm) (f:ByteArray→Bool) (hm:BMap w bm f) (cs:List Value) (L:Lt) (hL:LtAt w0 cs L) (hl:L.args.length≤1000):
  Calls Tryz.prog 109 #[.map (some bm),.agg cs.toArray] w (TakePost w bm f L):=by
 obtain ⟨A,c,css,rfl,hA⟩:=hL
 have other:L.kind=2∨L.kind=3∨L.kind=4→Calls Tryz.prog 109 #[.map (some bm),.agg [Value.int .i64 L.kind,.string L.name,.slice A L.args.length c].toArray] w (TakePost w bm f L):=fun hk=>by
  obtain ⟨h1,h2⟩:=qad f (show L.kind≠1 by omega)
  refine (ip w bm f hm L.kind hk L.name A L.args.length c css L.args rfl hl (hA.chg hN0) _ _ rfl rfl).mono ?_
  rintro e w' ⟨rfl,h3,h4⟩
  exact ⟨by rw [h1],by rw [h2];exact h3,h4⟩
 cases L with
 |atom neg nm ts=>
  cases neg with
  |false=>exact ot w0 w hN0 bm hbm f hm nm A ts.length c css ts rfl hl hA
  |true=>exact other (.inl rfl)
 |test j a b=>exact other (.inr (.inl rfl))
 |assign nm t=>exact other (.inr (.inr rfl))
def chkL:List Lt→(ByteArray→Bool)→Int
 | [],_=>0
 |L::Ls,f=>if takeE L f=0 then chkL Ls (takeF L f) else takeE L f
def bndL (Ls:List Lt):ByteArray→Bool:=Ls.foldl (fun f L=>takeF L f) (fun _=>false)
def chkR (r:Ru):Int:=if chkL r.Ls (fun _=>false)=0 then (if (varsL r.ts).all (bndL r.Ls)=true then 0 else 61) else chkL r.Ls (fun _=>false)
def qcr {Ls:List Lt} {k:Nat} {L:Lt} (h:Ls[k]? =some L):bndL (Ls.take (k+1))=takeF L (bndL (Ls.take k)):=by
 unfold bndL
 rw [vh h,List.foldl_append]
 rfl
def tc {α:Type} {l:List α} {k:Nat} {x:α} (h:l[k]? =some x):l.drop k=x::l.drop (k+1):=by
 obtain ⟨hlt,he⟩:=qv.1 h
 rw [jg hlt,he]
def rule_chk (w:World) (d m cr:Nat) (Ar Af:Option Addr) (nf cf:Nat) (hd:Blk w d 106 relCells) (v:Value) (r:Ru) (hr:RuSl w v r) (h:ruRel r) (hl:r.Ls.length≤8) (ht:r.ts.length≤1000) (hla:∀ L∈r.Ls,L.args.length≤1000):
  Calls Tryz.prog 72 #[.agg #[.slice (some ⟨d,0,none⟩) 6 6,.slice Af nf cf,.slice Ar m cr],v] w fun e w'=>e=.returned (.int .i64 (chkR r))∧New w w':=by
 have HRel:=qq (fun W (hW:New w W)=>rels_ok W d m cr Ar Af nf cf (hd.chg hW id) v r (hr.chg hW) h (by omega))
 obtain ⟨lab,A,Ab,c,cb,css,cssb,rfl,hT,hL,hcb,hcm,hlab⟩:=hr
 obtain ⟨n,hn⟩:=qdp (r.ts.length)
 obtain ⟨nb,hnb⟩:=qdp (r.Ls.length)
 rw [hn] at HRel ht⊢
 rw [hnb] at HRel hl⊢
 obtain ⟨w1,hw1⟩:=qdq ((w.alloc (.cells #[.slice (some ⟨d,0,none⟩) 6 6,.slice Af nf cf,.slice Ar m cr] 29)).alloc (.cells #[.string lab,.string r.h,.slice A n c,.string r.agg,.int .i64 r.at',.slice Ab nb cb] 47))
 have HN1:=qq (show New w w1 by rw [hw1];exact ((Chg.refl _ _).alloc _).alloc _)
 have HB0:=qq (show Blk w1 w.heap.size 29 #[.slice (some ⟨d,0,none⟩) 6 6,.slice Af nf cf,.slice Ar m cr] by rw [hw1];exact (Blk.new w _ _).alloc _)
 have HB1:=qq (show Blk w1 (w.heap.size+1) 47 #[.string lab,.string r.h,.slice A n c,.string r.agg,.int .i64 r.at',.slice Ab nb cb] by
  have:=Blk.new (w.alloc (.cells #[.slice (some ⟨d,0,none⟩) 6 6,.slice Af nf cf,.slice Ar m cr] 29)) 47 #[.string lab,.string r.h,.slice A n c,.string r.agg,.int .i64 r.at',.slice Ab nb cb]
  rw [World.size_alloc] at this
  rw [hw1]
  exact this)
 have HW1:=qq hw1
 have HT:=qq hT
 have HL:=qq hL
 have Hn:=qq hn
 have Hnb:=qq hnb
 have HLa:=qq hla
 clear hT hL hn hnb hw1 hlab h hla hd
 have hmm:∀ w,(Instr.makeMap 156 none).run Tryz.prog w=.ok (.map (some w.heap.size)) (w.alloc (.map #[] 0)):=fun w=>rfl
 go_enter Tryz.func72,Tryz.ntmps72
 go_upto_region 1 with fail
 rw [←HW1.out]
 clear HW1
 go_wp2_with first
  | ((with_reducible refine vq rfl (.tmp 2) 29 rfl xp ⟨w.heap.size,0,none⟩ [.slice (some ⟨d,0,none⟩) 6 6,.slice Af nf cf,.slice Ar m cr] ?_ rfl HB0.out.at_ ?_);exact rfl)
  | ((with_reducible refine vq rfl (.tmp 3) 47 rfl xt ⟨w.heap.size+1,0,none⟩ [.string lab,.string r.h,.slice A n c,.string r.agg,.int .i64 r.at',.slice Ab nb cb] ?_ rfl HB1.out.at_ ?_);exact rfl)
  | (go_at_call 108;refine (HRel.out _ HN1.out).mono ?_;rintro e w2 ⟨rfl,hn2⟩;have HN2:=qq (HN1.out.trans hn2 qdr);have HB2:=qq (HB1.out.chg hn2 id);have c5:=((HB1.out.chg hn2 id).alloc (.map #[] 0)).cell 5;simp only [qx,qj,qw] at c5;clear hn2)
 have hM0:BMap (w2.alloc (.map #[] 0)) w2.heap.size (fun _=>false):=BMap.made w2
 have HM0:=qq hM0
 clear hM0 c5 hmm
 obtain ⟨bm,hbm⟩:=qdp (w2.heap.size)
 rw [hbm] at HM0⊢
 have Hbm:=qq hbm
 clear hbm
 go_loopw [17] (fun u17 wr=>∃ k:Nat,k≤nb∧u17=.int .i64 k∧BMap wr bm (bndL (r.Ls.take k))∧chkL r.Ls (fun _=>false)=chkL (r.Ls.drop k) (bndL (r.Ls.take k))∧New w2 wr) (fun u _=>nb - (intOf u).toNat)
 case atStart=>exact ⟨0,qr _,rfl,HM0.out,rfl,(Chg.refl _ _).alloc _⟩
 case round=>
  obtain ⟨k,hk,rfl,hb,hck,hN⟩:=hrel
  have HBm:=qq hb
  have HCk:=qq hck
  have HNr:=qq hN
  clear hb hck hN
  have hM1:bm < wr.heap.size:=HBm.out.lt
  by_cases hlt:k < nb
  ·obtain ⟨L,hLk⟩:∃ L,r.Ls[k]? =some L:=⟨_,qz (by rw [Hnb.out];exact hlt)⟩
   obtain ⟨cs,hcs⟩:∃ cs,cssb[k]? =some cs:=⟨_,qz (by rw [HL.out.len,Hnb.out];exact hlt)⟩
   obtain ⟨ad,rfl,hrw⟩:=HL.out.src (by rw [HL.out.len,Hnb.out];omega)
   have hlt2:=(HL.out.at_ k cs L hcs hLk).chg HN2.out
   have HLt:=qq hlt2
   obtain ⟨A',c',css',rfl,hA'⟩:=hlt2
   have Hat:=qq (((hrw k _ hcs).2.chg HN2.out id).chg HNr.out id)
   have q0:(0:Int)≤(k:Int):=by omega
   have q1:(k:Int) < (nb:Int):=by omega
   have HTk:=qq (fun W (hW:New w2 W) (hb:BMap W bm (bndL (r.Ls.take k)))=>takes_ok w2 W hW bm (Nat.le_of_eq Hbm.out) _ hb _ L HLt.out (HLa.out L (qf hLk)))
   have Hsn:=qq (qcr hLk)
   have Hdr:=qq (tc hLk)
   obtain ⟨q,hq⟩:=qdp (takeE L (bndL (r.Ls.take k)))
   have Hq:=qq hq
   clear hrw hcs hLk hA' hq
   go_upto_region 8 with first
    | ((with_reducible refine vq rfl (.tmp 19) 53 rfl gn (ad.add (k * 3)) [.int .i64 L.kind,.string L.name,.slice A' L.args.length c'] ?_ rfl Hat.out ?_);exact rfl)
    | (with_reducible refine gz rfl 53 rfl zLit ?_;intro w3 cur hc3 hb3 hsz hs3;have HC3:=qq hc3;have HB4:=qq hb3;have Hsz:=qq hsz;clear hc3 hb3 hsz hs3)
    | ((with_reducible refine xq rfl (.tmp 7) (.tmp 20) 53 rfl rfl gn wr.heap.size 53 _ [.int .i64 L.kind,.string L.name,.slice A' L.args.length c'] ?_ ?_ HB4.out rfl Hsz.out (ki _ _ _ _ _) ?_);exact rfl;exact rfl;intro w4 hc4 hb4 hs4;have HC4:=qq (HC3.out.put hc4 (qh _));have HB5:=qq hb4;clear hc4 hb4 hs4)
    | ((with_reducible refine vq rfl (.tmp 7) 53 rfl gn ⟨wr.heap.size,0,none⟩ [.int .i64 L.kind,.string L.name,.slice A' L.args.length c'] ?_ rfl HB5.out.at_ ?_);exact rfl)
    | (go_at_call 109;refine (HTk.out _ (HNr.out.trans HC4.out qdr) (HBm.out.chg HC4.out id)).mono ?_;rintro e w5 ⟨rfl,hb5,hc5⟩;rw [Hq.out];have HB6:=qq hb5;have HC5:=qq hc5;clear hb5 hc5)
   have HN5:=qq (show New w2 w5 from (HNr.out.trans HC4.out qdr).trans HC5.out (fun k hk h=>by have:=Hbm.out;omega))
   by_cases hq0:q=0
   ·subst hq0
    go_wp2_with fail
    go_roundw
    case rel=>
     refine ⟨k+1,by omega,by go_num,by rw [Hsn.out];exact HB6.out,?_,HN5.out⟩
     rw [HCk.out,Hdr.out,Hsn.out]
     exact if_pos Hq.out
    case measure=>simp [intOf];omega
   ·have HR:=qq (show chkR r=q by
     have h1:chkL r.Ls (fun _=>false)=q:=by
      rw [HCk.out,Hdr.out]
      exact (if_neg (by rw [Hq.out];exact hq0)).trans Hq.out
     unfold chkR
     rw [h1,if_neg hq0])
    have hqb:(q != 0)=true:=by simpa using hq0
    go_wp2_with fail
    go_ret
    exact ⟨by rw [HR.out];rfl,HN2.out.trans HN5.out qdr⟩
  ·have hbf:BMap wr bm (bndL r.Ls):=by
    have:=HBm.out
    rwa [qc (by rw [Hnb.out];omega)] at this
   have hc0:chkL r.Ls (fun _=>false)=0:=by
    rw [HCk.out,List.drop_eq_nil_of_le (by rw [Hnb.out];omega)]
    rfl
   have hAll:=mh wr bm _ hbf A n c css r.ts Hn.out.symm ht ((HT.out.chg HN2.out).chg HNr.out)
   obtain ⟨q,hq⟩:=qdp ((varsL r.ts).all (bndL r.Ls))
   rw [hq] at hAll
   have HR:=qq (show chkR r=(if q=true then 0 else 61) by
    unfold chkR
    rw [if_pos hc0,hq])
   have HAll:=qq hAll
   have c2:=((HB2.out.chg HNr.out id)).cell 2
   simp only [qx,qj,qw] at c2
   clear hbf hc0 hAll hq
   cases q with
   |true=>
    go_wp2_with (go_at_call 110;refine HAll.out.mono ?_;rintro e w5 ⟨rfl,hn5⟩;have HN5:=qq hn5;clear hn5)
    go_ret
    exact ⟨by rw [HR.out];rfl,(HN2.out.trans HNr.out qdr).trans HN5.out qdr⟩
   |false=>
    go_wp2_with (go_at_call 110;refine HAll.out.mono ?_;rintro e w5 ⟨rfl,hn5⟩;have HN5:=qq hn5;clear hn5)
    go_ret
    exact ⟨by rw [HR.out];rfl,(HN2.out.trans HNr.out qdr).trans HN5.out qdr⟩
def BMap.look2 {w:World} {b:Nat} {f:ByteArray→Bool} (h:BMap w b f) (s:ByteArray):(Instr.lookup 112 (.map (some b)) (.string s) false).run Tryz.prog w=.ok (.bool (f s)) w:=by
 obtain ⟨m,h1,h2⟩:=h
 rw [fj Tryz.underlying112 (z:=.bool false) (by kernel_rfl) h1 s,h2]
def BMap.put2 {w:World} {b:Nat} {f:ByteArray→Bool} (h:BMap w b f) (s:ByteArray):∃ w',(Instr.mapUpdate 112 (.map (some b)) (.string s) (.bool true)).run Tryz.prog w=.ok () w'∧BMap w' b (fun t=>decide (t=s)||f t)∧Chg w w' (fun k=>k=b):=by
 obtain ⟨m,h1,h2⟩:=h
 obtain ⟨w',m',h3,h4,h5,h6⟩:=mq Tryz.underlying112 h1 s (.bool true)
 refine ⟨w',h3,⟨m',h4,fun t=>?_⟩,h6⟩
 rw [h5,h2]
 by_cases ht:t=s <;> simp [ht]
def chkP:List Ru→Int
 | []=>0
 |r::rs=>if chkR r=0 then chkP rs else chkR r
def relN (k:Nat):ByteArray→Bool:=fun s=>(relCs.take k).any (fun p=>decide (s=p.1))
def relN_new {k:Nat} (hk:k < 6):∃ nm n,relN k nm=false∧(fun t=>decide (t=nm)||relN k t)=relN (k+1)∧relCells[k * 2]? =some (.string nm)∧relCells[k * 2+1]? =some (.int .i64 n):=by
 have key:∀ nm n,relCs[k]? =some (nm,n)→(fun t=>decide (t=nm)||relN k t)=relN (k+1):=fun nm n h=>by
  funext t
  unfold relN
  rw [vh h,List.any_append]
  simp [Bool.or_comm]
 rcases (show k=0∨k=1∨k=2∨k=3∨k=4∨k=5 by omega) with rfl|rfl|rfl|rfl|rfl|rfl <;> exact ⟨_,_,by decide,key _ _ rfl,rfl,rfl⟩
def lit_len {L:Lt} (h:litP L):L.args.length≤1000:=by
 cases L with
 |atom neg s ts=>
  have h3:ts.length≤3:=h.2.hi
  show ts.length≤1000
  omega
 |test j x y=>exact (by decide:2≤1000)
 |assign s u=>exact (by decide:1≤1000)
def ChkPost (w:World) (k:Int) (e:Ending) (w':World):Prop:=(∃ j:Int,e=.returned (.tuple #[.int .i64 k,.int .i64 j]))∧New w w'
def check_is (w:World) (v:Value) (rs:List Ru) (hv:PgSl w v rs) (hp:∀ r∈rs,ruP r) (hrel:∀ r∈rs,ruRel r):
  Calls Tryz.prog 41 #[v] w (ChkPost w (chkP rs)):=by
 have HR:=qq (fun W (hW:New w W)=>right_ok W v rs (hv.chg hW) hp)
 obtain ⟨d,Ar,Af,cr,cf,css,csf,fs,rfl,h2,h3,h4,h5,h6,h7⟩:=hv
 obtain ⟨n,hn⟩:=qdp (rs.length)
 obtain ⟨m,hm⟩:=qdp (fs.length)
 have HK:=qq (fun W (hW:New w W) (r:Ru) (hr:r∈rs) (u:Value) (hu:RuSl W u r)=>rule_chk W d n cr Ar Af m cf (h2.chg hW id) u r hu (hrel r hr) (by have:=(hp r hr).l4;omega) (by have:=(hp r hr).ts.hi;omega) (fun L hL=>lit_len ((hp r hr).ls L hL)))
 have HA:=qq (fun W (hW:New w W) nm k hk=>aw W d Ar Af m cf n cr (h2.chg hW id) nm k hk)
 rw [hn,hm] at HR⊢
 rw [hn] at h4
 rw [hm] at h6
 obtain ⟨w1,hw1⟩:=qdq (w.alloc (.cells #[.slice (some ⟨d,0,none⟩) 6 6,.slice Af m cf,.slice Ar n cr] 29))
 have HN1:=qq (show New w w1 by rw [hw1];exact (Chg.refl _ _).alloc _)
 have HB1:=qq (show Blk w1 w.heap.size 29 #[.slice (some ⟨d,0,none⟩) 6 6,.slice Af m cf,.slice Ar n cr] by rw [hw1];exact Blk.new w _ _)
 have HW1:=qq hw1
 have HD:=qq h2
 have HRu:=qq h3
 have HFc:=qq h5
 have HFp:=qq h7
 have Hn:=qq hn
 have Hm:=qq hm
 clear h2 h3 h5 h7 hn hm hw1 hp hrel
 have hmm:∀ w,(Instr.makeMap 112 none).run Tryz.prog w=.ok (.map (some w.heap.size)) (w.alloc (.map #[] 0)):=fun w=>rfl
 have eg1:∀ (args:Array Value) (w:World),(callFunc 71 args).run Tryz.prog w=.ok (.enter 71 args) w:=enters_of Tryz.func71 (by kernel_rfl) rfl
 have Heg:=qq eg1
 clear eg1
 go_enter Tryz.func41,Tryz.ntmps41
 go_upto_region 1 with fail
 rw [←HW1.out]
 clear HW1
 go_wp2_with first
  | ((with_reducible refine vq rfl (.tmp 1) 29 rfl xp ⟨w.heap.size,0,none⟩ [.slice (some ⟨d,0,none⟩) 6 6,.slice Af m cf,.slice Ar n cr] ?_ rfl HB1.out.at_ ?_);exact rfl)
  | (go_at_call 70;refine (HR.out _ HN1.out).mono ?_;rintro e w2 ⟨rfl,hn2⟩;have HN2:=qq (HN1.out.trans hn2 qdr);have HB2:=qq (HB1.out.chg hn2 id);have c0:=((HB1.out.chg hn2 id).alloc (.map #[] 0)).cell 0;simp only [qx,qj,qw] at c0;clear hn2)
 have hM0:BMap (w2.alloc (.map #[] 0)) w2.heap.size (relN 0):=BMap.made w2
 have HM0:=qq hM0
 clear hM0 c0 hmm HR
 obtain ⟨bm,hbm⟩:=qdp (w2.heap.size)
 rw [hbm] at HM0⊢
 have Hbm:=qq hbm
 clear hbm
 go_loopw [19] (fun u19 wr=>∃ k:Nat,k≤6∧u19=.int .i64 k∧BMap wr bm (relN k)∧New w2 wr) (fun u _=>6 - (intOf u).toNat)
 case atStart=>exact ⟨0,qr _,rfl,HM0.out,(Chg.refl _ _).alloc _⟩
 case round=>
  obtain ⟨k,hk,rfl,hb,hN⟩:=hrel
  have HBm:=qq hb
  have HNr:=qq hN
  have HNk:=qq (HN2.out.trans hN qdr)
  clear hb hN
  by_cases hlt:k < 6
  ·obtain ⟨nm,nn,hf,hnx,hc0,hc1⟩:=relN_new hlt
   have hDk:=HD.out.chg HNk.out id
   have Hat:=qq (show At wr ⟨d,k * 2,none⟩ [.string nm,.int .i64 nn] from fun j u hj=>match j,hj with
    |0,hj=>by cases hj;exact (hDk.cell (k * 2)).trans hc0
    |1,hj=>by cases hj;exact (hDk.cell (k * 2+1)).trans hc1)
   have Hf:=qq hf
   have Hnx:=qq hnx
   have q0:(0:Int)≤(k:Int):=by omega
   have q1:(k:Int) < 6:=by omega
   clear hf hnx hc0 hc1 hDk
   go_upto_region 7 with first
    | ((with_reducible refine vq rfl (.tmp 21) 106 rfl pj ⟨d,k * 2,none⟩ [.string nm,.int .i64 nn] ?_ rfl Hat.out ?_);exact rfl)
    | (with_reducible refine gz rfl 106 rfl zDecl ?_;intro w3 cur hc3 hb3 hsz hs3;have HC3:=qq hc3;have HB4:=qq hb3;have Hsz:=qq hsz;clear hc3 hb3 hsz hs3)
    | ((with_reducible refine xq rfl (.tmp 6) (.tmp 22) 106 rfl rfl pj wr.heap.size 106 _ [.string nm,.int .i64 nn] ?_ ?_ HB4.out rfl Hsz.out (rk rfl rfl) ?_);exact rfl;exact rfl;intro w4 hc4 hb4 hs4;have HC4:=qq (HC3.out.put hc4 (qh _));have e0:=hb4.cell 0;simp only [qx,qj,qw] at e0;clear hc4 hb4 hs4)
   have hbm4:=HBm.out.chg HC4.out id
   have hlk:=hbm4.look2 nm
   rw [Hf.out] at hlk
   obtain ⟨w5,hup,hb5,hc5⟩:=hbm4.put2 nm
   have HB5:=qq hb5
   have HN5:=qq (show New w2 w5 from (HNr.out.trans HC4.out qdr).trans hc5 (fun k hk h=>by have:=Hbm.out;omega))
   clear hb5 hc5 hbm4
   go_wp2_with fail
   go_roundw
   case rel=>exact ⟨k+1,by omega,by go_num,by rw [←Hnx.out];exact HB5.out,HN5.out⟩
   case measure=>simp [intOf];omega
  ·have hB3:=HB2.out.chg HNr.out id
   have HB3:=qq hB3
   have c1:=hB3.cell 1
   simp only [qx,qj,qw] at c1
   clear hB3 HBm
   go_wp2_with fail
   clear c1
   go_loopw [34] (fun u34 ws=>∃ k:Nat,k≤m∧u34=.int .i64 k∧New wr ws) (fun u _=>m - (intOf u).toNat)
   case atStart=>exact ⟨0,qr _,rfl,Chg.refl _ _⟩
   case round=>
    obtain ⟨j,hj,rfl,hN⟩:=hrel
    have HNs:=qq hN
    have HNj:=qq (HNk.out.trans hN qdr)
    clear hN
    by_cases hlt:j < m
    ·obtain ⟨f,hf⟩:∃ f,fs[j]? =some f:=⟨_,qz (by rw [Hm.out];exact hlt)⟩
     obtain ⟨cs,hcs⟩:∃ cs,csf[j]? =some cs:=⟨_,qz (by rw [HFc.out.len,Hm.out];exact hlt)⟩
     obtain ⟨ad,rfl,hrw⟩:=HFc.out.src (by rw [HFc.out.len,Hm.out];omega)
     obtain ⟨A',c',rfl,hsr⟩:=(HFc.out.at_ j cs f hcs hf).form
     have HRel:=qq (HFp.out f (qf hf)).1
     have Hat:=qq ((hrw j _ hcs).2.chg HNj.out id)
     obtain ⟨nf,hnf⟩:=qdp (f.args.length)
     obtain ⟨nm,hnm⟩:=qdp (f.name)
     rw [hnf,hnm] at HRel Hat
     have q0:(0:Int)≤(j:Int):=by omega
     have q1:(j:Int) < (m:Int):=by omega
     clear hrw hcs hf hsr hnf hnm
     go_upto_region 14 with first
      | ((with_reducible refine vq rfl (.tmp 36) 60 rfl cc (ad.add (j * 2)) [.string nm,.slice A' nf c'] ?_ rfl Hat.out ?_);exact rfl)
      | (with_reducible refine gz rfl 60 rfl zTuple ?_;intro w3 cur hc3 hb3 hsz hs3;have HC3:=qq hc3;have HB4:=qq hb3;have Hsz:=qq hsz;clear hc3 hb3 hsz hs3)
      | ((with_reducible refine xq rfl (.tmp 8) (.tmp 37) 60 rfl rfl cc wr.heap.size 60 _ [.string nm,.slice A' nf c'] ?_ ?_ HB4.out rfl Hsz.out (rk rfl rfl) ?_);exact rfl;exact rfl;intro w4 hc4 hb4 hs4;have HC4:=qq (HC3.out.put hc4 (qh _));have HB5:=qq hb4;clear hc4 hb4 hs4)
     refine vj (by kernel_rfl) ?_
     have hnd:New w4 w4.drew:=(Chg.refl _ _).drew
     have D1:=qq ((((HB3.out.chg HNs.out id).chg HC4.out id)).chg hnd id)
     have D2:=qq (HB5.out.chg hnd id)
     have DN:=qq ((HNs.out.trans HC4.out qdr).trans hnd qdr)
     clear hnd
     generalize w4.drew=wd at D1 D2 DN⊢
     refine AtN.segN2 0 8 [38,39,40,41,42,43,44,45] (fun
      |0=>fun vv _=>vv=.agg #[.slice (some ⟨d,0,none⟩) 6 6,.slice (some ad) m cf,.slice Ar n cr]
      |1=>fun vv _=>vv=.pointer (some ⟨wr.heap.size,0,none⟩)
      |2=>fun vv _=>vv=.string nm
      |3=>fun vv _=>vv=.int .i64 nf
      |4=>fun vv _=>vv=.pointer (some ⟨wr.heap.size,1,none⟩)
      |5=>fun vv _=>vv=.slice A' nf c'
      |6=>fun vv _=>vv=.int .i64 nf
      |7=>fun vv _=>vv=.bool false
      |_=>fun _ _=>True) (by kernel_rfl) (by kernel_rfl) (by kernel_rfl) (by kernel_rfl) (fun j v w1 w2 hc h=>?_) (fun i hn hi o ho A0 W hN hin hk=>?_) (fun l W5 hN hl hΦ=>?_)
     ·match j with
      |0|1|2|3|4|5|6|7=>exact h
      |_+8=>trivial
     ·rcases (show i=0∨i=1∨i=2∨i=3∨i=4∨i=5∨i=6∨i=7 by omega) with rfl|rfl|rfl|rfl|rfl|rfl|rfl|rfl<;>cases ho
      ·have h1:A0.tmps[1]?.getD undef=.pointer (some ⟨w.heap.size,0,none⟩):=hk 1
       exact .same (vu 1 _ rfl xp ⟨w.heap.size,0,none⟩ [.slice (some ⟨d,0,none⟩) 6 6,.slice (some ad) m cf,.slice Ar n cr] h1 rfl (D1.out.chg hN id).at_) rfl
      ·have h8:A0.tmps[8]?.getD undef=.pointer (some ⟨wr.heap.size,0,none⟩):=hk 8
       exact .same (by simp [go_sem,h8]) rfl
      ·have h39:A0.tmps[39]?.getD undef=.pointer (some ⟨wr.heap.size,0,none⟩):=hin 1 39
       have hcx:W.cell? ⟨wr.heap.size,0,none⟩=some (.string nm):=(D2.out.chg hN id).cell 0
       exact .same (v:=.string nm) (by simp [go_sem,h39,hcx]) rfl
      ·have h38:A0.tmps[38]?.getD undef=.agg #[.slice (some ⟨d,0,none⟩) 6 6,.slice (some ad) m cf,.slice Ar n cr]:=hin 0 38
       have h40:A0.tmps[40]?.getD undef=.string nm:=hin 2 40
       refine .call (f:=71) (args:=#[.agg #[.slice (some ⟨d,0,none⟩) 6 6,.slice (some ad) m cf,.slice Ar n cr],.string nm]) (W':=W) ?_ ((HA.out W ((HNk.out.trans DN.out qdr).trans hN qdr) nm nf HRel.out).mono ?_)
       ·simp [go_sem,h38,h40,Heg.out]
       ·rintro e w' ⟨rfl,hc⟩
        exact ⟨_,rfl,hc,rfl⟩
      ·have h8:A0.tmps[8]?.getD undef=.pointer (some ⟨wr.heap.size,0,none⟩):=hk 8
       exact .same (by simp [go_sem,h8]) rfl
      ·have h42:A0.tmps[42]?.getD undef=.pointer (some ⟨wr.heap.size,1,none⟩):=hin 4 42
       have hcx:W.cell? ⟨wr.heap.size,1,none⟩=some (.slice A' nf c'):=(D2.out.chg hN id).cell 1
       exact .same (v:=.slice A' nf c') (by simp [go_sem,h42,hcx]) rfl
      ·have h43:A0.tmps[43]?.getD undef=.slice A' nf c':=hin 5 43
       exact .same (by simp [go_sem,h43]) rfl
      ·have h41:A0.tmps[41]?.getD undef=.int .i64 nf:=hin 3 41
       have h44:A0.tmps[44]?.getD undef=.int .i64 nf:=hin 6 44
       exact .same (by simp [go_sem,h41,h44]) rfl
     obtain ⟨x38,x39,x40,x41,x42,x43,x44,x45,rfl⟩:∃ x38 x39 x40 x41 x42 x43 x44 x45,l=[x38,x39,x40,x41,x42,x43,x44,x45]:=by
      match l,hl with
      | [x38,x39,x40,x41,x42,x43,x44,x45],_=>exact ⟨_,_,_,_,_,_,_,_,rfl⟩
     obtain rfl:x38=.agg #[.slice (some ⟨d,0,none⟩) 6 6,.slice (some ad) m cf,.slice Ar n cr]:=hΦ 0 (by decide)
     obtain rfl:x39=.pointer (some ⟨wr.heap.size,0,none⟩):=hΦ 1 (by decide)
     obtain rfl:x40=.string nm:=hΦ 2 (by decide)
     obtain rfl:x41=.int .i64 nf:=hΦ 3 (by decide)
     obtain rfl:x42=.pointer (some ⟨wr.heap.size,1,none⟩):=hΦ 4 (by decide)
     obtain rfl:x43=.slice A' nf c':=hΦ 5 (by decide)
     obtain rfl:x44=.int .i64 nf:=hΦ 6 (by decide)
     obtain rfl:x45=.bool false:=hΦ 7 (by decide)
     simp only [putsL,zq,zj,zz,List.zip,List.zipWith,Act.put,qk,qu,qy]
     clear hΦ hl
     refine AtN.done rfl ?_
     go_wp2_with fail
     go_roundw
     case rel=>exact ⟨j+1,by omega,by go_num,DN.out.trans hN qdr⟩
     case measure=>simp [intOf];omega
    ·have hB4:=HB3.out.chg HNs.out id
     have HB4:=qq hB4
     have c2:=hB4.cell 2
     simp only [qx,qj,qw] at c2
     clear hB4
     go_wp2_with fail
     clear c2
     go_loopw [50] (fun u50 wt=>∃ k:Nat,k≤n∧u50=.int .i64 k∧chkP rs=chkP (rs.drop k)∧New wr wt) (fun u _=>n - (intOf u).toNat)
     case atStart=>exact ⟨0,qr _,rfl,rfl,Chg.refl _ _⟩
     case round=>
      obtain ⟨i,hi,rfl,hck,hN⟩:=hrel
      have HNt:=qq hN
      have HNi:=qq (HNj.out.trans hN qdr)
      have HCk:=qq hck
      clear hN hck
      by_cases hlt:i < n
      ·obtain ⟨r,hr⟩:∃ r,rs[i]? =some r:=⟨_,qz (by rw [Hn.out];exact hlt)⟩
       obtain ⟨cs,hcs⟩:∃ cs,css[i]? =some cs:=⟨_,qz (by rw [HRu.out.len,Hn.out];exact hlt)⟩
       obtain ⟨ad,rfl,hrw⟩:=HRu.out.src (by rw [HRu.out.len,Hn.out];omega)
       have hru:=HRu.out.at_ i cs r hcs hr
       obtain ⟨lab,A,c,Ab,cb,he⟩:=hru.form
       obtain rfl:cs=[.string lab,.string r.h,.slice A r.ts.length c,.string r.agg,.int .i64 r.at',.slice Ab r.Ls.length cb]:=by
        injection he with he
        simpa using congrArg Array.toList he
       have HU:=qq (HK.out wr HNi.out r (qf hr) _ (hru.chg HNi.out))
       have HU2:=qq (fun W (hW:New wr W)=>HK.out W (HNi.out.trans hW qdr) r (qf hr) _ ((hru.chg HNi.out).chg hW))
       have Hat:=qq ((hrw i _ hcs).2.chg HNi.out id)
       have Hdr:=qq (tc hr)
       have q0:(0:Int)≤(i:Int):=by omega
       have q1:(i:Int) < (n:Int):=by omega
       obtain ⟨q,hq⟩:=qdp (chkR r)
       rw [hq] at HU2
       have Hq:=qq hq
       obtain ⟨n1,hn1⟩:=qdp (r.ts.length)
       obtain ⟨n2,hn2⟩:=qdp (r.Ls.length)
       rw [hn1,hn2] at HU2 Hat
       clear hrw hcs hr hru he HU hq hn1 hn2
       go_upto_region 21 with first
        | ((with_reducible refine vq rfl (.tmp 53) 47 rfl xt (ad.add (i * 6)) [.string lab,.string r.h,.slice A n1 c,.string r.agg,.int .i64 r.at',.slice Ab n2 cb] ?_ rfl Hat.out ?_);exact rfl)
        | (with_reducible refine gz rfl 47 rfl ae ?_;intro w3 cur hc3 hb3 hsz hs3;have HC3:=qq hc3;have HB5:=qq hb3;have Hsz:=qq hsz;clear hc3 hb3 hsz hs3)
        | ((with_reducible refine xq rfl (.tmp 10) (.tmp 54) 47 rfl rfl xt wr.heap.size 47 _ [.string lab,.string r.h,.slice A n1 c,.string r.agg,.int .i64 r.at',.slice Ab n2 cb] ?_ ?_ HB5.out rfl Hsz.out (gi rfl rfl rfl) ?_);exact rfl;exact rfl;intro w4 hc4 hb4 hs4;have HC4:=qq (HC3.out.put hc4 (qh _));have HB6:=qq hb4;have HBp:=qq ((HB4.out.chg HNt.out id).chg (HC3.out.put hc4 (qh _)) id);clear hc4 hb4 hs4)
        | ((with_reducible refine vq rfl (.tmp 1) 29 rfl xp ⟨w.heap.size,0,none⟩ [.slice (some ⟨d,0,none⟩) 6 6,.slice Af m cf,.slice (some ad) n cr] ?_ rfl HBp.out.at_ ?_);exact rfl)
        | ((with_reducible refine vq rfl (.tmp 10) 47 rfl xt ⟨wr.heap.size,0,none⟩ [.string lab,.string r.h,.slice A n1 c,.string r.agg,.int .i64 r.at',.slice Ab n2 cb] ?_ rfl HB6.out.at_ ?_);exact rfl)
        | (go_at_call 72;refine (HU2.out _ HC4.out).mono ?_;rintro e w5 ⟨rfl,hc5⟩;have HC5:=qq (HC4.out.trans hc5 qdr);clear hc5)
       by_cases hq0:q=0
       ·subst hq0
        go_wp2_with fail
        go_roundw
        case rel=>
         refine ⟨i+1,by omega,by go_num,?_,HNt.out.trans HC5.out qdr⟩
         rw [HCk.out,Hdr.out]
         exact if_pos Hq.out
        case measure=>simp [intOf];omega
       ·have HRs:=qq (show chkP rs=q by
         rw [HCk.out,Hdr.out]
         exact (if_neg (by rw [Hq.out];exact hq0)).trans Hq.out)
        have hqb:(q != 0)=true:=by simpa using hq0
        go_wp2_with fail
        go_ret2
        exact ⟨⟨_,by rw [HRs.out];rfl⟩,HNi.out.trans HC5.out qdr⟩
      ·have HRs:=qq (show chkP rs=0 by
        rw [HCk.out,List.drop_eq_nil_of_le (by rw [Hn.out];omega)]
        rfl)
       go_wp2_with fail
       go_ret2
       exact ⟨⟨_,by rw [HRs.out];rfl⟩,HNi.out⟩
def eqf_rows (w:World) (A:Option Addr) (n c:Nat) (B:Option Addr) (m d:Nat) (css dss:List (List Value)) (hn:n=css.length) (hm:m=dss.length) (hnb:n≤100000000) (hA:SrcAt w A 3 css) (hB:SrcAt w B 3 dss) (h1:∀ cs∈css,∀ u∈cs,u.oneCell'=true) (h2:∀ cs∈dss,∀ u∈cs,u.oneCell'=true)
  (g:Nat) (lb:Array Value) (eg:Enters Tryz.prog g) (p:Nat→Bool) (R:Bool) (hp:∀ k cs ds,css[k]? =some cs→dss[k]? =some ds→Says Tryz.prog w (fun _=>False) g lb #[.agg cs.toArray,.agg ds.toArray] (.bool (p k)))
  (hne:n≠m→R=false) (hno:n=m→∀ k,k < n→p k=false→R=false) (hall:n=m→(∀ k,k < n→p k=true)→R=true):
  Calls Tryz.prog 97 #[.slice A n c,.slice B m d,.func (.func g) #[] lb] w fun e w'=>e=.returned (.bool R)∧New w w':=by
 unfold Enters at eg
 have HA:=qq hA
 have HB:=qq hB
 have HN:=qq hn
 have HM:=qq hm
 have HP:=qq hp
 have HO1:=qq h1
 have HO2:=qq h2
 by_cases hnm:n=m
 ·subst hnm
  have HNo:=qq (hno rfl)
  have HAll:=qq (hall rfl)
  clear hA hB hn hm hp h1 h2 hne hno hall
  have hnn:((n:Int) != (n:Int))=false:=by simp
  go_enter Tryz.func97,Tryz.ntmps97
  go_wp2_with fail
  go_loopw [17] (fun u17 wr=>∃ k:Nat,k≤n∧u17=.int .i64 k∧New w wr∧∀ j,j < k→p j=true) (fun u _=>n - (intOf u).toNat)
  case atStart=>exact ⟨0,qr _,rfl,Chg.refl _ _,fun j h=>absurd h (by omega)⟩
  case round=>
   obtain ⟨k,hkn,rfl,hN,hr⟩:=hrel
   have HNw:=qq hN
   have Hr:=qq hr
   clear hN hr
   by_cases hlt:k < n
   ·obtain ⟨cs,hcs⟩:∃ x,css[k]? =some x:=⟨_,qz (by rw [←HN.out];exact hlt)⟩
    obtain ⟨ds,hds⟩:∃ x,dss[k]? =some x:=⟨_,qz (by rw [←HM.out];exact hlt)⟩
    obtain ⟨ad,rfl,hrA⟩:=HA.out (by rw [←HN.out];omega)
    obtain ⟨bd,rfl,hrB⟩:=HB.out (by rw [←HM.out];omega)
    have Hl1:=qq (hrA k _ hcs).1
    have Hl2:=qq (hrB k _ hds).1
    have Hat:=qq ((hrA k _ hcs).2.chg HNw.out id)
    have Hbt:=qq ((hrB k _ hds).2.chg HNw.out id)
    have Ho1:=qq (HO1.out cs (qf hcs))
    have Ho2:=qq (HO2.out ds (qf hds))
    obtain ⟨q,hq⟩:=qdp (p k)
    have hs:=HP.out k cs ds hcs hds
    rw [hq] at hs
    have HS:=qq hs
    have Hq:=qq hq
    have k0:(0:Int)≤(k:Int):=by omega
    have k1:(k:Int) < (n:Int):=by omega
    clear hcs hds hrA hrB hs hq
    go_upto_region 7 with first
     | ((with_reducible refine vq rfl (.tmp 20) 42 rfl vd (ad.add (k * 3)) cs ?_ Hl1.out Hat.out ?_);exact rfl)
     | ((with_reducible refine vq rfl (.tmp 24) 42 rfl vd (bd.add (k * 3)) ds ?_ Hl2.out (Hbt.out.chg HC1.out id) ?_);exact rfl)
     | ((with_reducible refine xq rfl (.tmp 8) (.tmp 21) 42 rfl rfl vd wr.heap.size 42 _ cs ?_ ?_ Hb3.out Hl1.out Hz3.out Ho1.out ?_);exact rfl;exact rfl;intro w4 hc4 hb4 hs4;have HC1:=qq (Hc3.out.put hc4 (qh _));have HB1:=qq hb4;clear hc4 hb4 hs4)
     | ((with_reducible refine xq rfl (.tmp 9) (.tmp 25) 42 rfl rfl vd w4.heap.size 42 _ ds ?_ ?_ Hb5.out Hl2.out Hz5.out Ho2.out ?_);exact rfl;exact rfl;intro w6 hc6 hb6 hs6;have HC2:=qq (Hc5.out.put hc6 (qh _));have HB2:=qq hb6;have HB3:=qq (HB1.out.chg (Hc5.out.put hc6 (qh _)) id);clear hc6 hb6 hs6)
     | (with_reducible refine gz (w:=wr) rfl 42 rfl zRow ?_;intro w3 cur hc3 hb3 hsz hs3;have Hc3:=qq hc3;have Hb3:=qq hb3;have Hz3:=qq hsz;clear hc3 hb3 hsz hs3)
     | (with_reducible refine gz rfl 42 rfl zRow ?_;intro w5 cur5 hc3 hb3 hsz hs3;have Hc5:=qq hc3;have Hb5:=qq hb3;have Hz5:=qq hsz;clear hc3 hb3 hsz hs3)
    go_wp2_with first
     | ((with_reducible refine vq rfl (.tmp 8) 42 rfl vd ⟨wr.heap.size,0,none⟩ cs ?_ Hl1.out HB3.out.at_ ?_);exact rfl)
     | ((with_reducible refine vq rfl (.tmp 9) 42 rfl vd ⟨w4.heap.size,0,none⟩ ds ?_ Hl2.out HB2.out.at_ ?_);exact rfl)
    refine (HS.out w6 ((HNw.out.trans HC1.out qdr).trans HC2.out qdr)).mono ?_
    rintro e W ⟨rfl,hN3⟩
    have HN3:=qq (((HNw.out.trans HC1.out qdr).trans HC2.out qdr).trans hN3 qdr)
    clear hN3
    cases q with
    |true=>
     go_wp2_with fail
     go_roundw
     case rel=>
      refine ⟨k+1,by omega,by go_num,HN3.out,fun j hj=>?_⟩
      by_cases hjk:j=k
      ·rw [hjk];exact Hq.out
      ·exact Hr.out j (by omega)
     case measure=>simp only [intOf];omega
    |false=>
     have HR:=qq (HNo.out k hlt Hq.out)
     go_wp2_with fail
     go_ret
     exact ⟨by rw [HR.out];rfl,HN3.out⟩
   ·have HR:=qq (HAll.out fun j hj=>Hr.out j (by omega))
    go_wp2_with fail
    go_ret
    exact ⟨by rw [HR.out];rfl,HNw.out⟩
 ·have hnn:((n:Int) != (m:Int))=true:=by
   rw [bne_iff_ne]
   omega
  have HR:=qq (hne hnm)
  clear hA hB hn hm hp h1 h2 hne hno hall
  go_enter Tryz.func97,Tryz.ntmps97
  go_wp2_with fail
  go_ret
  exact ⟨by rw [HR.out];rfl,Chg.refl _ _⟩
def same_one (w:World) (x y:List Value) (r s:Rw) (hx:RowAt w x r) (hy:RowAt w y s):
  Calls Tryz.prog 98 #[.agg x.toArray,.agg y.toArray] w fun e w'=>e=.returned (.bool (decide (r.stamp=s.stamp∧cmpR r s=0)))∧New w w':=by
 obtain ⟨w1,hw1⟩:=qdq ((w.alloc (.cells x.toArray 42)).alloc (.cells y.toArray 42))
 have hN:New w w1:=by rw [hw1];exact ((Chg.refl w _).alloc _).alloc _
 have Hcr:=qq (nd w1 x y r s (hx.chg hN) (hy.chg hN))
 obtain ⟨A,c,rfl,-⟩:=hx
 obtain ⟨B,d,rfl,-⟩:=hy
 have hB1:Blk w1 w.heap.size 42 #[.string r.name,.slice A r.args.length c,.int .i64 r.stamp]:=by rw [hw1];exact (Blk.new w _ _).alloc _
 have hB2:Blk w1 (w.heap.size+1) 42 #[.string s.name,.slice B s.args.length d,.int .i64 s.stamp]:=by
  have:=Blk.new (w.alloc (.cells #[.string r.name,.slice A r.args.length c,.int .i64 r.stamp] 42)) 42 #[.string s.name,.slice B s.args.length d,.int .i64 s.stamp]
  rw [World.size_alloc] at this
  rw [hw1]
  exact this
 obtain ⟨q,hq⟩:=qdp (cmpR r s)
 rw [hq] at Hcr⊢
 have HN:=qq hN
 have HW:=qq hw1
 have e2:=hB1.cell 2
 have f2:=hB2.cell 2
 have HB1:=qq hB1
 have HB2:=qq hB2
 simp only [qx,qj,qw] at e2 f2
 clear hN hw1 hq hB1 hB2
 obtain ⟨i,hi⟩:=qdp (r.stamp)
 obtain ⟨j,hj⟩:=qdp (s.stamp)
 rw [hi] at e2 HB1 Hcr HW⊢
 rw [hj] at f2 HB2 Hcr HW⊢
 clear hi hj
 go_enter Tryz.func98,Tryz.ntmps98
 go_upto_region 1 with fail
 rw [←HW.out]
 clear HW
 by_cases he:i=j
 ·subst he
  have hb:(i == i)=true:=by simp
  obtain ⟨b,hqb⟩:=qdp (decide (q=0))
  have hb2:(q == 0)=b:=by rw [←hqb];rfl
  have Hb:=qq hqb
  clear hqb
  go_wp2_with first
   | ((with_reducible refine xe ?_ (.tmp 2) 42 rfl vd ⟨w.heap.size,0,none⟩ [.string r.name,.slice A r.args.length c,.int .i64 i] ?_ rfl HB1.out.at_ ?_);rfl;exact rfl)
   | ((with_reducible refine xe ?_ (.tmp 3) 42 rfl vd ⟨w.heap.size+1,0,none⟩ [.string s.name,.slice B s.args.length d,.int .i64 i] ?_ rfl HB2.out.at_ ?_);rfl;exact rfl)
   | (go_at_call 25;refine Hcr.out.mono ?_;rintro e W ⟨rfl,hc⟩;have HN3:=qq (HN.out.trans hc qdr);clear hc)
  go_ret
  exact ⟨by rw [Hb.out];rfl,HN3.out⟩
 ·have hb:(i == j)=false:=by simpa using he
  have Hb:=qq (show decide (i=j∧q=0)=false by simp [he])
  clear he
  go_wp2_with fail
  go_ret
  exact ⟨by rw [Hb.out];rfl,HN.out⟩
def same_rw {r s:Rw} (hr:canonR r) (hs:canonR s):decide (r.stamp=s.stamp∧cmpR r s=0)=decide (r=s):=by
 by_cases h:r=s
 ·subst h
  simp [pp.refl r]
 ·have:¬ (r.stamp=s.stamp∧cmpR r s=0):=fun ⟨h1,h2⟩=>h (by
   obtain ⟨e1,e2⟩:=de hr hs h2
   cases r;cases s
   simp_all)
  simp [h,this]
def same_is (w:World) (u v:Value) (a b:List Rw) (hu:RowSl w u a) (hv:RowSl w v b) (ha:OkR a) (hb:OkR b):
  Calls Tryz.prog 69 #[u,v] w fun e w'=>e=.returned (.bool (decide (a=b)))∧New w w':=by
 obtain ⟨A,c,css,rfl,a1,a2,a3,a4,a5,a6⟩:=hu
 obtain ⟨B,d,dss,rfl,b1,b2,b3,b4,b5,b6⟩:=hv
 have eg:=enters_of Tryz.func98 (by kernel_rfl) rfl
 have H:=qq (eqf_rows w A a.length c B b.length d css dss a5.1.symm b5.1.symm a1 a4 b4 a5.one b5.one 98 #[] eg (fun k=>decide (a[k]? =b[k]?)) (decide (a=b)) (fun k cs ds hcs hds W hW=>by
  obtain ⟨r,hr,h1⟩:=a5.2 k cs hcs
  obtain ⟨s,hs,h2⟩:=b5.2 k ds hds
  have:=same_one W cs ds r s (h1.chg (hW.mono fun _ _ x=>x)) (h2.chg (hW.mono fun _ _ x=>x))
  rw [same_rw (ha.can r (qf hr)) (hb.can s (qf hs))] at this
  rw [hr,hs]
  simpa using this) (fun h=>by
   have:a≠b:=fun e=>h (by rw [e])
   simp [this]) (fun h k hk hf=>by
   have:a≠b:=fun e=>by simp [e] at hf
   simp [this]) (fun h hall=>by
   have:a=b:=uv fun k=>by
    by_cases hk:k < a.length
    ·exact of_decide_eq_true (hall k hk)
    ·rw [jm (by omega),jm (by omega)]
   simp [this]))
 clear a4 a5 a6 b4 b5 b6 eg
 go_enter Tryz.func69,Tryz.ntmps69
 go_wp2_with (go_at_call 97;refine H.out.mono ?_;rintro e W ⟨rfl,hc⟩;have HN:=qq hc;clear hc)
 go_ret
 exact ⟨rfl,HN.out⟩
def relI (s:ByteArray):Nat:=(relCs.findIdx? (fun p=>decide (p.1=s))).getD 0
def dz (s:ByteArray):relI s < 6:=by
 unfold relI
 cases h:relCs.findIdx? (fun p=>decide (p.1=s)) with
 |none=>exact (by decide:0 < 6)
 |some i=>exact (List.findIdx?_eq_some_iff_findIdx_eq.1 h).1
structure Ed where
 head:Nat
 on:Nat
 up:Nat
def edL (r:Ru) (L:Lt):Option Ed:=if L.kind=2 then some ⟨relI r.h,relI L.name,1⟩ else if L.kind=1 then some ⟨relI r.h,relI L.name,if r.agg=⟨#[]⟩ then 0 else 1⟩ else none
def edP (rs:List Ru):List Ed:=rs.flatMap fun r=>r.Ls.filterMap (edL r)
def edP_lt {rs:List Ru} {e:Ed} (h:e∈edP rs):e.head < 6∧e.on < 6∧e.up≤1:=by
 obtain ⟨r,hr,h⟩:=ju.1 h
 obtain ⟨L,hL,h⟩:=zr.1 h
 unfold edL at h
 split at h
 ·cases h;exact ⟨dz _,dz _,qh _⟩
 ·split at h
  ·cases h
   refine ⟨dz _,dz _,?_⟩
   show (if _ then 0 else 1)≤1
   split <;> omega
  ·cases h
def badE (s:List Nat) (e:Ed):Bool:=decide (s.getD e.head 0 < s.getD e.on 0+e.up)
def lift (es:List Ed):Nat→List Nat→Option (List Nat)
 |0,_=>none
 |k+1,s=>match es.find? (badE s) with
  |none=>some s
  |some e=>if 6 < s.getD e.on 0+e.up then none else lift es k (s.set e.head (s.getD e.on 0+e.up))
def zero6:List Nat:=[0,0,0,0,0,0]
def qay {es:List Ed}:∀ {k:Nat} {s t:List Nat},s.length=6→(∀ x∈s,x≤6)→lift es k s=some t→t.length=6∧(∀ x∈t,x≤6)∧∀ e∈es,t.getD e.on 0+e.up≤t.getD e.head 0
 |0,s,t,_,_,h=>by cases h
 |k+1,s,t,h6,hx,h=>by
  unfold lift at h
  split at h
  ·rename_i hf
   cases h
   refine ⟨h6,hx,fun e he=>?_⟩
   have:=uh.1 hf e he
   unfold badE at this
   simpa using this
  ·rename_i e hf
   split at h
   ·cases h
   ·refine qay (by rw [jk];exact h6) (fun x hx'=>?_) h
    rcases yr hx' with h1|h1
    ·exact hx x h1
    ·omega
def plainR (r:Ru):Prop:=r.agg=⟨#[]⟩∧∀ L∈r.Ls,L.kind≠2
def plain_ed {rs:List Ru} (h:∀ r∈rs,plainR r):∀ e∈edP rs,e.up=0:=fun e he=>by
 obtain ⟨r,hr,he⟩:=ju.1 he
 obtain ⟨L,hL,he⟩:=zr.1 he
 unfold edL at he
 rw [if_neg ((h r hr).2 L hL),if_pos (h r hr).1] at he
 split at he
 ·cases he;rfl
 ·cases he
def sum_set {s:List Nat} {i n:Nat} (hi:i < s.length) (h:s.getD i 0 < n):s.sum < (s.set i n).sum:=by
 induction s generalizing i with
 |nil=>simp at hi
 |cons x s ih=>
  cases i with
  |zero=>
   simp only [List.getD_cons_zero] at h
   simp only [qy,List.sum_cons]
   omega
  |succ i=>
   simp only [List.getD_cons_succ] at h
   simp only [qu,List.sum_cons]
   have:=ih (by simpa using hi) h
   omega
def oh {s:List Nat} {m:Nat} (h:∀ x∈s,x≤m):s.sum≤s.length * m:=by
 induction s with
 |nil=>simp
 |cons x s ih=>
  have h1:=ih (fun y hy=>h y (zh _ hy))
  have h2:=h x (zb ..)
  simp only [List.sum_cons,zf,Nat.succ_mul]
  omega
def strV (rs:List Ru):Option (List Nat):=if chkP rs=0 then lift (edP rs) 40 zero6 else none
def ba {rs:List Ru} {s:List Nat} (h:strV rs=some s):chkP rs=0∧s.length=6∧(∀ x∈s,x≤6)∧∀ e∈edP rs,s.getD e.on 0+e.up≤s.getD e.head 0:=by
 unfold strV at h
 split at h
 ·rename_i h0
  exact ⟨h0,qay rfl (by decide) h⟩
 ·cases h
def bu {rs:List Ru} (h:∀ r∈rs,plainR r) (h0:chkP rs=0):strV rs=some zero6:=by
 unfold strV
 rw [if_pos h0]
 have hn:(edP rs).find? (badE zero6)=none:=uh.2 fun e he=>by
  obtain ⟨h1,h2,-⟩:=edP_lt he
  have hz:∀ i,i < 6→zero6.getD i 0=0:=by decide
  unfold badE
  rw [hz _ h1,hz _ h2,plain_ed h e he]
  decide
 show lift _ (39+1) _=_
 unfold lift
 rw [hn]
def NMap (w:World) (b:Nat) (f:ByteArray→Nat):Prop:=∃ m,MapAt w b m∧∀ s,lookZ (.int .i64 0) m s=.int .i64 (f s)
def NMap.chg {w w':World} {b:Nat} {f:ByteArray→Nat} {T:Nat→Prop} (h:NMap w b f) (hc:Chg w w' T) (hn:¬ T b):NMap w' b f:=by
 obtain ⟨m,h1,h2⟩:=h
 exact ⟨m,h1.chg hc hn,h2⟩
def NMap.lt {w:World} {b:Nat} {f:ByteArray→Nat} (h:NMap w b f):b < w.heap.size:=by
 obtain ⟨m,⟨es,cl,h1,_⟩,_⟩:=h
 exact xf h1
def NMap.look {w:World} {b:Nat} {f:ByteArray→Nat} (h:NMap w b f) (s:ByteArray):(Instr.lookup 115 (.map (some b)) (.string s) false).run Tryz.prog w=.ok (.int .i64 (f s)) w:=by
 obtain ⟨m,h1,h2⟩:=h
 rw [fj Tryz.underlying115 (z:=.int .i64 0) (by kernel_rfl) h1 s,h2]
def NMap.put {w:World} {b:Nat} {f:ByteArray→Nat} (h:NMap w b f) (s:ByteArray) (k:Nat):∃ w',(Instr.mapUpdate 115 (.map (some b)) (.string s) (.int .i64 k)).run Tryz.prog w=.ok () w'∧NMap w' b (fun t=>if t=s then k else f t)∧Chg w w' (fun k=>k=b):=by
 obtain ⟨m,h1,h2⟩:=h
 obtain ⟨w',m',h3,h4,h5,h6⟩:=mq Tryz.underlying115 h1 s (.int .i64 k)
 refine ⟨w',h3,⟨m',h4,fun t=>?_⟩,h6⟩
 rw [h5,h2]
 by_cases ht:t=s <;> simp [ht]
def relK (k:Nat) (s:ByteArray):Nat:=((relCs.take k).findIdx? (fun p=>decide (p.1=s))).getD 0
def relK_new {k:Nat} (hk:k < 6):∃ nm n,(fun t=>if t=nm then k else relK k t)=relK (k+1)∧relCells[k * 2]? =some (.string nm)∧relCells[k * 2+1]? =some (.int .i64 n):=by
 have key:∀ nm n,relCs[k]? =some (nm,n)→(relCs.take k).findIdx? (fun p=>decide (p.1=nm))=none→(fun t=>if t=nm then k else relK k t)=relK (k+1):=fun nm n h h0=>by
  funext t
  unfold relK
  have hl:(relCs.take k).length=k:=by rw [ql];exact Nat.min_eq_left (Nat.le_of_lt hk)
  rw [vh h,List.findIdx?_append]
  by_cases ht:t=nm
  ·subst ht
   rw [h0,if_pos rfl]
   simp [List.findIdx?_cons,hl]
  ·rw [if_neg ht]
   have:¬ nm=t:=fun e=>ht e.symm
   simp [List.findIdx?_cons,this]
 rcases (show k=0∨k=1∨k=2∨k=3∨k=4∨k=5 by omega) with rfl|rfl|rfl|rfl|rfl|rfl <;> exact ⟨_,_,key _ _ rfl (by decide),rfl,rfl⟩
def NumPost (w:World) (e:Ending) (w':World):Prop:=∃ b,e=.returned (.map (some b))∧NMap w' b relI∧w.heap.size≤b∧New w w'
def sq (w:World) (v:Value) (rs:List Ru) (hv:PgSl w v rs):Calls Tryz.prog 73 #[v] w (NumPost w):=by
 obtain ⟨d,Ar,Af,cr,cf,css,csf,fs,rfl,h2,-⟩:=hv
 obtain ⟨n,hn⟩:=qdp (rs.length)
 obtain ⟨m,hm⟩:=qdp (fs.length)
 rw [hn,hm]
 clear hn hm
 have HD:=qq h2
 have c0:=((Blk.new w 29 #[.slice (some ⟨d,0,none⟩) 6 6,.slice Af m cf,.slice Ar n cr]).alloc (.map #[] 0)).cell 0
 simp only [qx,qj] at c0
 obtain ⟨w1,hw1⟩:=qdq (w.alloc (.cells #[.slice (some ⟨d,0,none⟩) 6 6,.slice Af m cf,.slice Ar n cr] 29))
 have HN1:=qq (show New w w1 by rw [hw1];exact (Chg.refl _ _).alloc _)
 rw [←hw1] at c0
 have HW1:=qq hw1
 have hmm:∀ w,(Instr.makeMap 115 none).run Tryz.prog w=.ok (.map (some w.heap.size)) (w.alloc (.map #[] 0)):=fun w=>rfl
 clear h2 hw1
 go_enter Tryz.func73,Tryz.ntmps73
 go_upto_region 1 with fail
 rw [←HW1.out]
 clear HW1
 go_wp2_with fail
 have HM0:=qq (show NMap (w1.alloc (.map #[] 0)) w1.heap.size (relK 0) from ⟨[],⟨#[],0,World.alloc_heap_new w1 _,rfl⟩,fun s=>rfl⟩)
 clear c0 hmm
 obtain ⟨bm,hbm⟩:=qdp (w1.heap.size)
 rw [hbm] at HM0⊢
 have Hbm:=qq hbm
 clear hbm
 go_loopw [10] (fun u10 wr=>∃ k:Nat,k≤6∧u10=.int .i64 k∧NMap wr bm (relK k)∧New w1 wr) (fun u _=>6 - (intOf u).toNat)
 case atStart=>exact ⟨0,qr _,rfl,HM0.out,(Chg.refl _ _).alloc _⟩
 case round=>
  obtain ⟨k,hk,rfl,hb,hN⟩:=hrel
  have HBm:=qq hb
  have HNr:=qq hN
  have HNk:=qq (HN1.out.trans hN qdr)
  clear hb hN
  by_cases hlt:k < 6
  ·obtain ⟨nm,nn,hnx,hc0,hc1⟩:=relK_new hlt
   have hDk:=HD.out.chg HNk.out id
   have Hat:=qq (show At wr ⟨d,k * 2,none⟩ [.string nm,.int .i64 nn] from fun j u hj=>match j,hj with
    |0,hj=>by cases hj;exact (hDk.cell (k * 2)).trans hc0
    |1,hj=>by cases hj;exact (hDk.cell (k * 2+1)).trans hc1)
   have Hnx:=qq hnx
   have q0:(0:Int)≤(k:Int):=by omega
   have q1:(k:Int) < 6:=by omega
   clear hnx hc0 hc1 hDk
   go_upto_region 5 with first
    | ((with_reducible refine vq rfl (.tmp 13) 106 rfl pj ⟨d,k * 2,none⟩ [.string nm,.int .i64 nn] ?_ rfl Hat.out ?_);exact rfl)
    | (with_reducible refine gz rfl 106 rfl zDecl ?_;intro w3 cur hc3 hb3 hsz hs3;have HC3:=qq hc3;have HB4:=qq hb3;have Hsz:=qq hsz;clear hc3 hb3 hsz hs3)
    | ((with_reducible refine xq rfl (.tmp 5) (.tmp 14) 106 rfl rfl pj wr.heap.size 106 _ [.string nm,.int .i64 nn] ?_ ?_ HB4.out rfl Hsz.out (rk rfl rfl) ?_);exact rfl;exact rfl;intro w4 hc4 hb4 hs4;have HC4:=qq (HC3.out.put hc4 (qh _));have e0:=hb4.cell 0;simp only [qx,qj,qw] at e0;clear hc4 hb4 hs4)
   obtain ⟨w5,hup,hb5,hc5⟩:=(HBm.out.chg HC4.out id).put nm k
   have HB5:=qq hb5
   have HN5:=qq (show New w1 w5 from (HNr.out.trans HC4.out qdr).trans hc5 (fun k hk h=>by have:=Hbm.out;omega))
   clear hb5 hc5
   go_wp2_with fail
   go_roundw
   case rel=>exact ⟨k+1,by omega,by go_num,by rw [←Hnx.out];exact HB5.out,HN5.out⟩
   case measure=>simp [intOf];omega
  ·have HF:=qq (show NMap wr bm relI by
    have:=HBm.out
    rw [show k=6 by omega] at this
    exact this)
   have Hle:=qq (show w.heap.size≤bm by rw [←Hbm.out];exact HN1.out.size)
   go_wp2_with fail
   go_ret
   exact ⟨_,rfl,HF.out,Hle.out,HNk.out⟩
def ecs (e:Ed):List Value:=[.int .i64 e.head,.int .i64 e.on,.int .i64 e.up]
def ecs_one (e:Ed):∀ u∈ecs e,u.oneCell'=true:=gt rfl rfl rfl
def elEd:ElT Tryz.prog 80 83 3 24 (Value.cells (.agg #[.int .i64 0,.int .i64 0,.int .i64 0])).toList:=
 ElT.mk' (by kernel_rfl) (by kernel_rfl) rfl (by omega) (by intro u hu;simp only [Value.cells,qp,qm,or_false] at hu;rcases hu with rfl|rfl|rfl <;> rfl)
def edP_snoc {rs:List Ru} {i:Nat} {r:Ru} (h:rs[i]? =some r):edP (rs.take (i+1))=edP (rs.take i)++r.Ls.filterMap (edL r):=by
 unfold edP
 rw [vh h,zp,List.flatMap_singleton]
def qbk {rs:List Ru} (h:∀ r∈rs,r.Ls.length≤4):(edP rs).length≤rs.length * 4:=by
 induction rs with
 |nil=>exact qh 0
 |cons r rs ih=>
  have h1:=ih (fun x hx=>h x (zh _ hx))
  have h2:=h r (zb ..)
  have h3:=jd (edL r) r.Ls
  show (r.Ls.filterMap (edL r)++edP rs).length≤_
  rw [qg,zf,Nat.succ_mul]
  omega
def edL_snoc {r:Ru} {j:Nat} {L:Lt} (h:r.Ls[j]? =some L):(r.Ls.take (j+1)).filterMap (edL r)=(r.Ls.take j).filterMap (edL r)++(edL r L).toList:=by
 rw [vh h,yz]
 cases h:edL r L <;> simp [h]
def EdPost (w:World) (es:List Ed) (e:Ending) (w':World):Prop:=∃ v,e=.returned v∧Own w' w.heap.size 83 3 v (es.map ecs)∧New w w'
def edges_is (w:World) (v:Value) (rs:List Ru) (hv:PgSl w v rs) (hp:∀ r∈rs,ruP r):Calls Tryz.prog 42 #[v] w (EdPost w (edP rs)):=by
 have HNu:=qq (fun W (hW:New w W)=>sq W v rs (hv.chg hW))
 obtain ⟨d,Ar,Af,cr,cf,css,csf,fs,rfl,h2,h3,h4,-⟩:=hv
 obtain ⟨n,hn⟩:=qdp (rs.length)
 obtain ⟨m,hm⟩:=qdp (fs.length)
 rw [hn,hm] at HNu⊢
 rw [hn] at h4
 clear hm
 have HRu:=qq h3
 have Hp:=qq hp
 have Hn:=qq hn
 obtain ⟨w1,hw1⟩:=qdq (w.alloc (.cells #[.slice (some ⟨d,0,none⟩) 6 6,.slice Af m cf,.slice Ar n cr] 29))
 have HN1:=qq (show New w w1 by rw [hw1];exact (Chg.refl _ _).alloc _)
 have HB1:=qq (show Blk w1 w.heap.size 29 #[.slice (some ⟨d,0,none⟩) 6 6,.slice Af m cf,.slice Ar n cr] by rw [hw1];exact Blk.new w _ _)
 have HW1:=qq hw1
 have Hlen:=qq (fun (i:Nat)=>show (edP (rs.take i)).length≤24 from qb (qbk (fun r hr=>(hp r (je hr)).l4)) (by rw [ql];omega))
 clear h2 h3 hp hn hw1
 go_enter Tryz.func42,Tryz.ntmps42
 go_upto_region 1 with fail
 rw [←HW1.out]
 clear HW1
 go_wp2_with first
  | ((with_reducible refine vq rfl (.tmp 1) 29 rfl xp ⟨w.heap.size,0,none⟩ [.slice (some ⟨d,0,none⟩) 6 6,.slice Af m cf,.slice Ar n cr] ?_ rfl HB1.out.at_ ?_);exact rfl)
  | (go_at_call 73;refine (HNu.out _ HN1.out).mono ?_;rintro e w2 ⟨bm,rfl,hm2,hbm,hn2⟩;have HN2:=qq (HN1.out.trans hn2 qdr);have HM2:=qq hm2;have HBm:=qq hm2.lt;have c2:=(HB1.out.chg hn2 id).cell 2;simp only [qx,qj,qw] at c2;clear hn2 hm2 hbm)
 clear c2 HNu HB1 HN1
 go_loopw [2,14] (fun u2 u14 wr=>∃ (i:Nat),i≤n∧u14=.int .i64 i∧Own wr w2.heap.size 83 3 u2 ((edP (rs.take i)).map ecs)∧New w2 wr) (fun _ u _=>n - (intOf u).toNat)
 case atStart=>exact ⟨0,qr _,rfl,Own.nil _ _ _ _,Chg.refl _ _⟩
 case round=>
  obtain ⟨i,hi,rfl,ho,hN⟩:=hrel
  have HO:=qq ho
  have HNr:=qq hN
  have HNi:=qq (HN2.out.trans hN qdr)
  clear ho hN
  by_cases hlt:i < n
  ·obtain ⟨r,hr⟩:∃ r,rs[i]? =some r:=⟨_,qz (by rw [Hn.out];exact hlt)⟩
   obtain ⟨cs,hcs⟩:∃ cs,css[i]? =some cs:=⟨_,qz (by rw [HRu.out.len,Hn.out];exact hlt)⟩
   obtain ⟨ad,rfl,hrw⟩:=HRu.out.src (by rw [HRu.out.len,Hn.out];omega)
   have hru:=HRu.out.at_ i cs r hcs hr
   obtain ⟨lab,A,Ab,c,cb,cs1,cssb,he,hT,hL,-,-,-⟩:=hru
   obtain rfl:cs=[.string lab,.string r.h,.slice A r.ts.length c,.string r.agg,.int .i64 r.at',.slice Ab r.Ls.length cb]:=by
    injection he with he
    simpa using congrArg Array.toList he
   have Hat:=qq ((hrw i _ hcs).2.chg HNi.out id)
   have q0:(0:Int)≤(i:Int):=by omega
   have q1:(i:Int) < (n:Int):=by omega
   have hL4:=(Hp.out r (qf hr)).l4
   have hag:=(Hp.out r (qf hr)).agg
   have hagc:(r.agg=⟨#[]⟩)∨((r.agg != ⟨#[]⟩)=true∧(r.agg.toList == ([]:List UInt8))=false∧r.agg≠⟨#[]⟩):=by
    rcases hag with ⟨h1,_⟩| ⟨h1|h1|h1,_⟩
    ·exact .inl h1
    all_goals
     rw [h1]
     exact .inr ⟨by decide+kernel,by decide+kernel,by decide⟩
   obtain ⟨n1,hn1⟩:=qdp (r.ts.length)
   obtain ⟨nb,hnb⟩:=qdp (r.Ls.length)
   obtain ⟨ag,hagn⟩:=qdp (r.agg)
   rw [hn1,hnb,hagn] at Hat
   rw [hnb] at hL4
   rw [hagn] at hagc
   have Hnb:=qq hnb
   have Hag:=qq hagn
   have HLs:=qq hL
   have Hsn:=qq (edP_snoc hr)
   have Hagc:=qq hagc
   clear hrw hcs hr he hT hL hn1 hnb hagn hag hagc
   go_wp2_with first
    | ((with_reducible refine vq rfl (.tmp 16) 47 rfl xt (ad.add (i * 6)) [.string lab,.string r.h,.slice A n1 c,.string ag,.int .i64 r.at',.slice Ab nb cb] ?_ rfl Hat.out ?_);exact rfl)
    | (with_reducible refine gz rfl 47 rfl ae ?_;intro w3 cur hc3 hb3 hsz hs3;have HC3:=qq hc3;have HB5:=qq hb3;have Hsz:=qq hsz;clear hc3 hb3 hsz hs3)
    | ((with_reducible refine xq rfl (.tmp 5) (.tmp 17) 47 rfl rfl xt wr.heap.size 47 _ [.string lab,.string r.h,.slice A n1 c,.string ag,.int .i64 r.at',.slice Ab nb cb] ?_ ?_ HB5.out rfl Hsz.out (gi rfl rfl rfl) ?_);exact rfl;exact rfl;intro w4 hc4 hb4 hs4;have HC4:=qq (HC3.out.put hc4 (qh _));have HB6:=qq hb4;have e5:=hb4.cell 5;simp only [qx,qj,qw] at e5;clear hc4 hb4 hs4)
   obtain ⟨g5,hg5⟩:=qdp (wr.heap.size)
   rw [hg5] at HB6⊢
   have Hg5:=qq hg5
   clear e5 hg5 Hat
   go_loopw [2,21] (fun u2 u21 ws=>∃ (j:Nat),j≤nb∧u21=.int .i64 j∧Own ws w2.heap.size 83 3 u2 ((edP (rs.take i)++(r.Ls.take j).filterMap (edL r)).map ecs)∧Blk ws g5 47 #[.string lab,.string r.h,.slice A n1 c,.string ag,.int .i64 r.at',.slice Ab nb cb]∧New w2 ws) (fun _ u _=>nb - (intOf u).toNat)
   case atStart=>exact ⟨0,qr _,rfl,by simpa using HO.out.chg HC4.out qdr,HB6.out,HNr.out.trans HC4.out qdr⟩
   case round=>
    obtain ⟨j,hj,rfl,ho,hb5,hN⟩:=hrel
    have HOs:=qq ho
    have HB7:=qq hb5
    have HNs:=qq hN
    have HNj:=qq (HN2.out.trans hN qdr)
    clear ho hb5 hN
    by_cases hltj:j < nb
    ·obtain ⟨L,hLj⟩:∃ L,r.Ls[j]? =some L:=⟨_,qz (by rw [Hnb.out];exact hltj)⟩
     obtain ⟨cs,hcs⟩:∃ cs,cssb[j]? =some cs:=⟨_,qz (by rw [HLs.out.len,Hnb.out];exact hltj)⟩
     obtain ⟨ab,rfl,hrw⟩:=HLs.out.src (by rw [HLs.out.len,Hnb.out];omega)
     have hNrs:New wr wr→True:=fun _=>trivial
     obtain ⟨A',c',css',rfl,hA'⟩:=HLs.out.at_ j cs L hcs hLj
     have Hat:=qq ((hrw j _ hcs).2.chg HNj.out id)
     have hes:=edL_snoc hLj
     have hcase:(((L.kind == 2)=false∧(L.kind == 1)=false∧(L.kind != 1)=true)∧edL r L=none)∨∃ u:Nat,edL r L=some ⟨relI r.h,relI L.name,u⟩∧(((L.kind == 2)=true∧u=1)∨(((L.kind == 2)=false∧(L.kind == 1)=true∧(L.kind != 1)=false)∧u=1∧(ag != ⟨#[]⟩)=true∧(ag.toList == ([]:List UInt8))=false)∨(((L.kind == 2)=false∧(L.kind == 1)=true∧(L.kind != 1)=false)∧u=0∧ag=⟨#[]⟩)):=by
      unfold edL
      rw [Hag.out]
      have hk:L.kind=1∨L.kind=2∨L.kind=3∨L.kind=4:=by
       cases L with
       |atom neg s ts=>cases neg;exact .inl rfl;exact .inr (.inl rfl)
       |test j x y=>exact .inr (.inr (.inl rfl))
       |assign s u=>exact .inr (.inr (.inr rfl))
      rcases hk with hk|hk|hk|hk
      ·rw [if_neg (by omega),if_pos hk]
       rcases Hagc.out with h| ⟨h1,h2,h3⟩
       ·exact .inr ⟨0,by rw [if_pos h],.inr (.inr ⟨by rw [hk];decide,rfl,h⟩)⟩
       ·exact .inr ⟨1,by rw [if_neg h3],.inr (.inl ⟨by rw [hk];decide,rfl,h1,h2⟩)⟩
      ·exact .inr ⟨1,by rw [if_pos hk],.inl ⟨by rw [hk];decide,rfl⟩⟩
      ·exact .inl ⟨by rw [hk];decide,by rw [if_neg (by omega),if_neg (by omega)]⟩
      ·exact .inl ⟨by rw [hk];decide,by rw [if_neg (by omega),if_neg (by omega)]⟩
     obtain ⟨kk,hkk⟩:=qdp (L.kind)
     obtain ⟨nm,hnm⟩:=qdp (L.name)
     obtain ⟨na,hna⟩:=qdp (L.args.length)
     rw [hkk,hnm] at hcase
     rw [hkk,hnm,hna] at Hat
     have p0:(0:Int)≤(j:Int):=by omega
     have p1:(j:Int) < (nb:Int):=by omega
     have Hes:=qq hes
     have HLn:=qq (show (edP (rs.take i)++(r.Ls.take j).filterMap (edL r)).length≤100 by
      have h1:=Hlen.out i
      have h2:=jd (edL r) (r.Ls.take j)
      have h3:(r.Ls.take j).length≤j:=by rw [ql];omega
      rw [qg]
      omega)
     clear hrw hcs hLj hA' hes hkk hnm hna
     rcases hcase with ⟨⟨k1,k2,k3⟩,hne⟩| ⟨u,hne,⟨k1,hu⟩| ⟨⟨k1,k2,k3⟩,hu,q2,q3⟩| ⟨⟨k1,k2,k3⟩,hu,rfl⟩⟩
     ·have Hne:=qq hne
      clear hne
      go_wp2_with first
       | ((with_reducible refine vq rfl (.tmp 23) 53 rfl gn (ab.add (j * 3)) [.int .i64 kk,.string nm,.slice A' na c'] ?_ rfl Hat.out ?_);exact rfl)
       | (with_reducible refine gz rfl 53 rfl zLit ?_;intro w3 cur hc3 hb3 hsz hs3;have HC3:=qq hc3;have HB8:=qq hb3;have Hsz:=qq hsz;clear hc3 hb3 hsz hs3)
       | ((with_reducible refine xq rfl (.tmp 7) (.tmp 24) 53 rfl rfl gn wr.heap.size 53 _ [.int .i64 kk,.string nm,.slice A' na c'] ?_ ?_ HB8.out rfl Hsz.out (ki _ _ _ _ _) ?_);exact rfl;exact rfl;intro w4 hc4 hb4 hs4;have HC5:=qq (HC3.out.put hc4 (qh _));have e0:=hb4.cell 0;simp only [qx,qj,qw] at e0;clear hc4 hb4 hs4)
      go_roundw
      case rel=>
       refine ⟨j+1,by omega,by go_num,?_,HB7.out.chg HC5.out id,HNs.out.trans HC5.out qdr⟩
       rw [Hes.out,Hne.out]
       simpa using HOs.out.chg HC5.out qdr
      case measure=>simp [intOf];omega
     all_goals
      have Hne:=qq hne
      have Hu:=qq hu
      clear hne hu
      go_upto_region 12 with first
       | ((with_reducible refine vq rfl (.tmp 23) 53 rfl gn (ab.add (j * 3)) [.int .i64 kk,.string nm,.slice A' na c'] ?_ rfl Hat.out ?_);exact rfl)
       | (with_reducible refine gz rfl 53 rfl zLit ?_;intro w3 cur hc3 hb3 hsz hs3;have HC3:=qq hc3;have HB8:=qq hb3;have Hsz:=qq hsz;clear hc3 hb3 hsz hs3)
       | ((with_reducible refine xq rfl (.tmp 7) (.tmp 24) 53 rfl rfl gn wr.heap.size 53 _ [.int .i64 kk,.string nm,.slice A' na c'] ?_ ?_ HB8.out rfl Hsz.out (ki _ _ _ _ _) ?_);exact rfl;exact rfl;intro w4 hc4 hb4 hs4;have HC5:=qq (HC3.out.put hc4 (qh _));have e0:=hb4.cell 0;have e1:=hb4.cell 1;have f3:=(HB7.out.chg (HC3.out.put hc4 (qh _)) id).cell 3;have f1:=(HB7.out.chg (HC3.out.put hc4 (qh _)) id).cell 1;simp only [qx,qj,qw] at e0 e1 f3 f1;clear hc4 hb4 hs4)
      have hN4:=HNs.out.trans HC5.out qdr
      have hM4:=HM2.out.chg hN4 id
      have l1:=hM4.look r.h
      have l2:=hM4.look nm
      have hO4:=HOs.out.chg HC5.out qdr
      have hB4:=HB7.out.chg HC5.out id
      obtain ⟨v8,w8,hr8,h1,h2,-⟩:=elEd.appOne hO4 hN4.size (ecs ⟨relI r.h,relI nm,u⟩) rfl (ecs_one _) (by rw [qd];have:=HLn.out;omega) (by rw [qd];have:=HLn.out;unfold maxLen;omega) 80 w4.heap.size rfl
      have H8:=qq (show Own w8 w2.heap.size 83 3 v8 ((edP (rs.take i)++(r.Ls.take (j+1)).filterMap (edL r)).map ecs) by
       rw [Hes.out,Hne.out]
       simpa using h1)
      have HB9:=qq (hB4.chg h2 (xg hO4 hB4 (by decide)))
      have HN8:=qq (show New w2 w8 from hN4.trans h2 (fun k hk e=>by have:=(hO4.lt e).1;omega))
      obtain rfl:=Hu.out
      have HR8:=qq hr8
      clear hN4 hM4 hO4 hB4 hr8 h1 h2
      go_wp2_with ((with_reducible refine xu rfl (.tmp 43) (.tmp 54) 80 80 rfl ?_ ?_ HR8.out ?_);exact rfl;exact rfl)
      go_roundw
      case rel=>exact ⟨j+1,by omega,by go_num,H8.out,HB9.out,HN8.out⟩
      case measure=>simp [intOf];omega
    ·have HF:=qq (show Own wr w2.heap.size 83 3 u2 ((edP (rs.take (i+1))).map ecs) by
      have:=HOs.out
      rw [qc (l:=r.Ls) (by rw [Hnb.out];omega)] at this
      rw [Hsn.out]
      exact this)
     go_wp2_with fail
     go_roundw
     case rel=>exact ⟨i+1,by omega,by go_num,HF.out,HNs.out⟩
     case measure=>simp [intOf];omega
  ·have HF:=qq (show Own wr w.heap.size 83 3 u2 ((edP rs).map ecs) by
    have:=HO.out
    rw [qc (l:=rs) (by rw [Hn.out];omega)] at this
    exact this.base HN2.out.size)
   go_wp2_with fail
   go_ret
   exact ⟨_,rfl,HF.out,HNi.out⟩
def ints (s:List Nat):Array Value:=(s.map fun (n:Nat)=>Value.int .i64 (n:Int)).toArray
def rp {s:List Nat} {i:Nat} (h:i < s.length):(ints s)[i]? =some (.int .i64 ((s.getD i 0:Nat):Int)):=by
 unfold ints
 rw [qx,qa,qz h,yx,qz h]
 rfl
def ints_put {s:List Nat} {i n:Nat} (h:i < s.length):layA (ints s) i [.int .i64 n]=ints (s.set i n):=by
 unfold layA lay ints
 simp only [yp]
 congr 1
 rw [List.map_set,um,if_pos (by rw [qd];exact h)]
 simp
def sumAt (b:Nat) (W:World):Nat:=((List.range 6).map fun i=>(intOf ((W.cell? ⟨b,i,none⟩).getD undef)).toNat).sum
def ia {b:Nat} {W:World} {s:List Nat} (hb:Blk W b 3 (ints s)) (h6:s.length=6):sumAt b W=s.sum:=by
 match s,h6 with
 | [x0,x1,x2,x3,x4,x5],_=>
  have h:∀ i,W.cell? ⟨b,i,none⟩=(ints [x0,x1,x2,x3,x4,x5])[i]? :=fun i=>hb.cell i
  unfold sumAt
  rw [show List.range 6=[0,1,2,3,4,5] from rfl]
  simp only [List.map,h]
  rfl
def qbt {l:Nat} {J J':Act→World→Prop} {Q:Exit→Act→World→Prop} {e:Exit} {a:Act} {W:World} (h:Exit.jump l J Q e a W) (hJ:∀ a W,J a W→J' a W):Exit.jump l J' Q e a W:=by
 cases e <;> first|exact ⟨h.1,hJ _ _ h.2⟩|exact h
def StPost (w:World):Option (List Nat)→Ending→World→Prop
 |some s,e,w'=>∃ b,e=.returned (.tuple #[.slice (some ⟨b,0,none⟩) 6 6,.int .i64 0])∧Blk w' b 3 (ints s)∧w.heap.size≤b∧New w w'
 |none,e,w'=>(∃ k:Int,k≠0∧e=.returned (.tuple #[.slice none 0 0,.int .i64 k]))∧New w w'
def szInt:(Tryz.prog.info? 3).map (·.size)=some 1:=by kernel_rfl
def stEd:StT Tryz.prog 83 3:=⟨⟨_,Tryz.underlying83⟩,by kernel_rfl⟩
def zEd:∃ i z,Tryz.prog.info? 83=some i∧i.zero=some z∧z.cells.size=3:=dq (z:=.agg #[.int .i64 0,.int .i64 0,.int .i64 0]) (by kernel_rfl) rfl
def mk6 (w:World):(Instr.makeSlice 35 (.int .i64 6) (.int .i64 6)).run Tryz.prog w=.ok (.slice (some ⟨w.heap.size,0,none⟩) 6 6) (w.alloc (.cells (ints zero6) 3)):=by
 have h:(Tryz.prog.info? 3).map (fun i=>(i.zero,i.size,i.bytes))=some (some (.int .i64 0),1,8):=by kernel_rfl
 cases hi:Tryz.prog.info? 3 with
 |none=>rw [hi] at h;cases h
 |some i=>
  rw [hi] at h
  simp only [Option.map_some,Option.some.injEq,Prod.mk.injEq] at h
  have hr:=run_makeSlice (P:=Tryz.prog) (w:=w) 35 3 i (.int .i64 0) Tryz.underlying35 hi h.1 .i64 .i64 6 6 (by omega) (by omega) (by rw [h.2.1];decide) (by rw [h.2.2];decide) (by omega)
  rw [h.2.1] at hr
  rw [show ints zero6=madeCells (Value.int .i64 0).cells (Int.toNat 6 * 1) by kernel_rfl]
  exact hr
def lift_end {es:List Ed} {s:List Nat} {k:Nat} (hno:∀ x∈es,badE s x=false) (hk:1≤k):lift es k s=some s:=by
 obtain ⟨k,rfl⟩:∃ j,k=j+1:=⟨k - 1,by omega⟩
 unfold lift
 rw [uh.2 fun x hx=>by rw [hno x hx];decide]
def lift_at {es:List Ed} {s:List Nat} {k i:Nat} {e:Ed} (he:es[i]? =some e) (hno:∀ x∈es.take i,badE s x=false) (hb:badE s e=true) (hk:1≤k):lift es k s=if 6 < s.getD e.on 0+e.up then none else lift es (k - 1) (s.set e.head (s.getD e.on 0+e.up)):=by
 obtain ⟨k,rfl⟩:∃ j,k=j+1:=⟨k - 1,by omega⟩
 have hf:es.find? (badE s)=some e:=by
  rw [←zm i es,List.find?_append,uh.2 fun x hx=>by rw [hno x hx];decide,tc he]
  simp [hb]
 conv=>lhs;unfold lift
 rw [hf]
 rfl
def qbe {s:List Nat} {m:Nat} (h:∀ x∈s,x≤m) (i:Nat):s.getD i 0≤m:=by
 rw [yx]
 cases hi:s[i]? with
 |none=>exact qr _
 |some x=>exact h x (qf hi)
def blkOf:Value→Nat
 | .slice (some a) _ _=>a.block
 |_=>0
def StM (a:Act) (W:World):Nat:=36 - sumAt (blkOf (a.tmps.getD 7 undef)) W
def StJ (w:World) (T0 T1:Value) (es:List Ed) (a:Act) (W:World):Prop:=∃ (s:List Nat) (k bo:Nat) (ve:Value) (j:Int) (u2 u3 u8 u9 u10 u11 u12 u13 u14 u15 u16 u17 u18 u19 u20 u21 u22 u23 u24 u25 u26 u27 u28 u29 u30 u31 u32 u33 u34 u35 u36 u37 u38 u39 u40 u41 u42 u43 u44 u45 u46 u47 u48 u49 u50 u51 u52 u53 u54 u55 u56 u57 u58:Value),
 a={ tmps:=#[T0,T1,u2,u3,.int .i64 0,.int .i64 j,ve,.slice (some ⟨bo,0,none⟩) 6 6,u8,u9,u10,u11,u12,u13,u14,u15,u16,u17,u18,u19,u20,u21,u22,u23,u24,u25,u26,u27,u28,u29,u30,u31,u32,u33,u34,u35,u36,u37,u38,u39,u40,u41,u42,u43,u44,u45,u46,u47,u48,u49,u50,u51,u52,u53,u54,u55,u56,u57,u58],defers:=[] }∧s.length=6∧(∀ x∈s,x≤6)∧lift es 40 zero6=lift es k s∧40≤k+s.sum∧Blk W bo 3 (ints s)∧w.heap.size≤bo∧Own W w.heap.size 83 3 ve (es.map ecs)∧New w W
def fx (w:World) (v:Value) (rs:List Ru) (hv:PgSl w v rs) (hp:∀ r∈rs,ruP r) (hrel:∀ r∈rs,ruRel r):Calls Tryz.prog 18 #[v] w (StPost w (strV rs)):=by
 have HCk:=qq (fun W (hW:New w W)=>check_is W v rs (hv.chg hW) hp hrel)
 have HEd:=qq (fun W (hW:New w W)=>edges_is W v rs (hv.chg hW) hp)
 have HEl:=qq (show (edP rs).length≤24 by
  obtain ⟨d,Ar,Af,cr,cf,css,csf,fs,rfl,h2,h3,h4,-⟩:=hv
  have:=qbk (fun r hr=>(hp r hr).l4)
  omega)
 obtain ⟨d,Ar,Af,cr,cf,css,csf,fs,rfl,-⟩:=hv
 obtain ⟨n,hn⟩:=qdp (rs.length)
 obtain ⟨m,hm⟩:=qdp (fs.length)
 rw [hn,hm] at HCk HEd⊢
 clear hn hm hp hrel
 obtain ⟨w1,hw1⟩:=qdq (w.alloc (.cells #[.slice (some ⟨d,0,none⟩) 6 6,.slice Af m cf,.slice Ar n cr] 29))
 have HN1:=qq (show New w w1 by rw [hw1];exact (Chg.refl _ _).alloc _)
 have HB1:=qq (show Blk w1 w.heap.size 29 #[.slice (some ⟨d,0,none⟩) 6 6,.slice Af m cf,.slice Ar n cr] by rw [hw1];exact Blk.new w _ _)
 have HW1:=qq hw1
 clear hw1
 obtain ⟨q,hq⟩:=qdp (chkP rs)
 obtain ⟨st,hst⟩:=qdp (strV rs)
 rw [hq] at HCk
 rw [hst]
 have Hst:=qq hst
 have Hq:=qq hq
 clear hq hst
 by_cases hq0:q=0
 ·subst hq0
  have HS:=qq (show st=lift (edP rs) 40 zero6 by rw [←Hst.out];unfold strV;rw [if_pos Hq.out])
  obtain ⟨es,hes⟩:=qdp (edP rs)
  have Hlt:=qq (show ∀ e∈es,e.head < 6∧e.on < 6∧e.up≤1 from fun e he=>edP_lt (hes▸he))
  rw [hes] at HEd HEl HS
  clear hes
  have hmk:=mk6
  go_enter Tryz.func18,Tryz.ntmps18
  go_wp2_with fail
  rw [←HW1.out]
  clear HW1
  refine (fun (hb:∀ a W,StJ w (.agg #[.slice (some ⟨d,0,none⟩) 6 6,.slice Af m cf,.slice Ar n cr]) (.pointer (some ⟨w.heap.size,0,none⟩)) es a W→Code.wp Tryz.prog _ (Exit.jump 0 (fun a' W'=>StJ w (.agg #[.slice (some ⟨d,0,none⟩) 6 6,.slice Af m cf,.slice Ar n cr]) (.pointer (some ⟨w.heap.size,0,none⟩)) es a' W'∧StM a' W' < StM a W) (bodyPost Tryz.prog Tryz.f18 (StPost w st))) a W)=>wp_scope_jumps 0 (StJ w (.agg #[.slice (some ⟨d,0,none⟩) 6 6,.slice Af m cf,.slice Ar n cr]) (.pointer (some ⟨w.heap.size,0,none⟩)) es) StM rfl ?_ (fun a W hj=>wp_seq (wp_skip (hb a W hj)))) ?_
  ·go_wp2_with first
    | ((with_reducible refine vq rfl (.tmp 1) 29 rfl xp ⟨w.heap.size,0,none⟩ [.slice (some ⟨d,0,none⟩) 6 6,.slice Af m cf,.slice Ar n cr] ?_ rfl HB1.out.at_ ?_);exact rfl)
    | ((with_reducible refine vq rfl (.tmp 1) 29 rfl xp ⟨w.heap.size,0,none⟩ [.slice (some ⟨d,0,none⟩) 6 6,.slice Af m cf,.slice Ar n cr] ?_ rfl HB2.out.at_ ?_);exact rfl)
    | (go_at_call 41;refine (HCk.out _ HN1.out).mono ?_;rintro e w2 ⟨⟨j,rfl⟩,hn2⟩;have HN2:=qq (HN1.out.trans hn2 qdr);have HB2:=qq (HB1.out.chg hn2 id);clear hn2)
    | (go_at_call 42;refine (HEd.out _ HN2.out).mono ?_;rintro e w3 ⟨ve,rfl,ho3,hn3⟩;have HN3:=qq (HN2.out.trans hn3 qdr);have HO3:=qq ho3;have c0:=(HB2.out.chg hn3 id).cell 0;simp only [qx,qj] at c0;clear hn3 ho3)
   go_step3
   rename_i K hK
   refine hK _ _ (wp_mono (hb _ _ ⟨zero6,40,w3.heap.size,ve,j,_,_,_,_,_,_,_,_,_,_,_,_,_,_,_,_,_,_,_,_,_,_,_,_,_,_,_,_,_,_,_,_,_,_,_,_,_,_,_,_,_,_,_,_,_,_,_,_,_,_,_,_,_,rfl,rfl,by decide,rfl,by decide,Blk.new _ _ _,HN3.out.size,(HO3.out.base HN2.out.size).chg (show New w3 _ from (Chg.refl _ _).alloc _) qdr,HN3.out.alloc _⟩) (fun e a W h=>qbt h fun _ _ h=>h.1))
  ·rintro a W ⟨s,k,bo,ve,j,u2,u3,u8,u9,u10,u11,u12,u13,u14,u15,u16,u17,u18,u19,u20,u21,u22,u23,u24,u25,u26,u27,u28,u29,u30,u31,u32,u33,u34,u35,u36,u37,u38,u39,u40,u41,u42,u43,u44,u45,u46,u47,u48,u49,u50,u51,u52,u53,u54,u55,u56,u57,u58,rfl,h6,hx,hl,hk,hbk,hbo,hov,hN⟩
   have Hx:=qq hx
   have Hl:=qq hl
   have Hk:=qq hk
   have HBo:=qq hbk
   have HOv:=qq hov
   have HN:=qq hN
   have H6:=qq h6
   have HM:=qq (show ∀ us,StM { tmps:=us,defers:=[] } W=36 - sumAt (blkOf (us.getD 7 undef)) W from fun _=>rfl)
   obtain ⟨A,ce,rfl,-,-⟩:=hov.form
   have HRw:=qq (hov.rows rfl).2
   rw [qd] at hov HOv⊢
   obtain ⟨ne,hne⟩:=qdp (es.length)
   rw [hne] at HOv⊢
   have Hne:=qq hne
   have hne24:ne≤24:=by have:=HEl.out;omega
   have Hk1:=qq (show 1≤k by have:=oh hx;omega)
   have Hbo:=qq hbo
   clear hx hl hk hbk hov hN h6 hne HM hbo
   go_wp2_with fail
   go_loopw [27] (fun u27 wr=>∃ i:Nat,i≤ne∧u27=.int .i64 i∧(∀ e∈es.take i,badE s e=false)∧New W wr) (fun u _=>ne - (intOf u).toNat)
   case atStart=>exact ⟨0,qr _,rfl,fun e he=>(by cases he),Chg.refl _ _⟩
   case round=>
    obtain ⟨i,hi,rfl,hno,hNr⟩:=hrel
    have HNo:=qq hno
    have HNr:=qq hNr
    clear hno hNr
    by_cases hlt:i < ne
    ·obtain ⟨e,he⟩:∃ e,es[i]? =some e:=⟨_,qz (by rw [Hne.out];exact hlt)⟩
     obtain ⟨ad,rfl,hrw⟩:=HRw.out (by rw [qd,Hne.out];omega)
     obtain ⟨l1,l2,l3⟩:=Hlt.out e (qf he)
     have Hat:=qq ((hrw i (ecs e) (by rw [qa,he];rfl)).2.chg HNr.out id)
     have Hfin:=qq (fun (hb:badE s e=true)=>Hl.out.trans (lift_at he HNo.out hb Hk1.out))
     have Hno:=qq (fun (hb:badE s e=false)=>show ∀ x∈es.take (i+1),badE s x=false from fun x hx=>by
      rw [vh he] at hx
      rcases zk.1 hx with hx|hx
      ·exact HNo.out x hx
      ·rw [qn.1 hx];exact hb)
     obtain ⟨hd,on,up⟩:=e
     dsimp only at l1 l2 l3
     have Hat:=qq (show At wr (ad.add (i * 3)) [.int .i64 hd,.int .i64 on,.int .i64 up] from Hat.out)
     obtain ⟨va,hva⟩:=qdp (s.getD on 0)
     obtain ⟨vb,hvb⟩:=qdp (s.getD hd 0)
     have Hbad:=qq (show badE s ⟨hd,on,up⟩=decide (vb < va+up) by unfold badE;rw [hva,hvb])
     have a6:va≤6:=by rw [←hva];exact qbe Hx.out on
     have b6:vb≤6:=by rw [←hvb];exact qbe Hx.out hd
     have Hva:=qq (show (ints s)[on]? =some (.int .i64 (va:Int)) by rw [rp (by rw [H6.out];exact l2),hva])
     have Hvb:=qq (show (ints s)[hd]? =some (.int .i64 (vb:Int)) by rw [rp (by rw [H6.out];exact l1),hvb])
     have Hvab:=qq (And.intro hva hvb)
     have q0:(0:Int)≤(i:Int):=by omega
     have q1:(i:Int) < (ne:Int):=by omega
     clear he hrw hva hvb
     go_upto_region 9 with first
      | ((with_reducible refine vq rfl (.tmp 29) 83 rfl stEd (ad.add (i * 3)) [.int .i64 hd,.int .i64 on,.int .i64 up] ?_ rfl Hat.out ?_);exact rfl)
      | (with_reducible refine gz rfl 83 rfl zEd ?_;intro w4 cur hc3 hb3 hsz hs3;have HC3:=qq hc3;have HB5:=qq hb3;have Hsz:=qq hsz;clear hc3 hb3 hsz hs3)
      | ((with_reducible refine xq rfl (.tmp 9) (.tmp 30) 83 rfl rfl stEd wr.heap.size 83 _ [.int .i64 hd,.int .i64 on,.int .i64 up] ?_ ?_ HB5.out rfl Hsz.out (gt rfl rfl rfl) ?_);exact rfl;exact rfl;intro w5 hc4 hb4 hs4;have HC4:=qq (HC3.out.put hc4 (qh _));have HB6:=qq hb4;clear hc4 hb4 hs4)
     refine vj (by kernel_rfl) ?_
     have hnd:New w5 w5.drew:=(Chg.refl _ _).drew
     have D1:=qq ((((HBo.out.chg HNr.out id).chg HC4.out id)).chg hnd id)
     have D2:=qq (HB6.out.chg hnd id)
     have DN:=qq ((HNr.out.trans HC4.out qdr).trans hnd qdr)
     clear hnd
     generalize w5.drew=wd at D1 D2 DN⊢
     have c1:=D2.out.cell 1
     have c2:=D2.out.cell 2
     simp only [qx,qj,qw] at c1 c2
     have ca:=(D1.out.cell on).trans Hva.out
     have p0:(0:Int)≤(on:Int):=by omega
     have p1:(on:Int) < 6:=by omega
     have hw:IntKind.i64.wrap ((va:Int)+(up:Int))=(va:Int)+(up:Int):=IntWalk.i64_in _ (by omega)
     refine AtN.segQ2 0 9 (fun
      |0=>.slice (some ⟨bo,0,none⟩) 6 6
      |1=>.pointer (some ⟨wr.heap.size,1,none⟩)
      |2=>.int .i64 on
      |3=>.pointer (some ⟨bo,on,none⟩)
      |4=>.int .i64 va
      |5=>.pointer (some ⟨wr.heap.size,2,none⟩)
      |6=>.int .i64 up
      |7=>.int .i64 ((va:Int)+(up:Int))
      |_=>.int .i64 ((va:Int)+(up:Int)))
      [(31,.slice (some ⟨bo,0,none⟩) 6 6),(32,.pointer (some ⟨wr.heap.size,1,none⟩)),(33,.int .i64 on),(34,.pointer (some ⟨bo,on,none⟩)),(35,.int .i64 va),(36,.pointer (some ⟨wr.heap.size,2,none⟩)),(37,.int .i64 up),(38,.int .i64 ((va:Int)+(up:Int))),(10,.int .i64 ((va:Int)+(up:Int)))] (by kernel_rfl) (by kernel_rfl) (by kernel_rfl) (by kernel_rfl) rfl (fun i hn hi o ho A0 hin hk=>?_) ?_
     ·rcases (show i=0∨i=1∨i=2∨i=3∨i=4∨i=5∨i=6∨i=7∨i=8 by omega) with rfl|rfl|rfl|rfl|rfl|rfl|rfl|rfl|rfl<;>cases ho
      ·exact uo 7 _ rfl (hk 7)
      ·have h9:A0.tmps[9]?.getD undef=.pointer (some ⟨wr.heap.size,0,none⟩):=hk 9
       exact by simp [go_sem,h9]
      ·have h32:A0.tmps[32]?.getD undef=.pointer (some ⟨wr.heap.size,1,none⟩):=hin 1 32
       exact by simp [go_sem,h32,c1]
      ·have h31:A0.tmps[31]?.getD undef=.slice (some ⟨bo,0,none⟩) 6 6:=hin 0 31
       have h33:A0.tmps[33]?.getD undef=.int .i64 on:=hin 2 33
       exact by simp [go_sem,h31,h33,p0,p1]
      ·have h34:A0.tmps[34]?.getD undef=.pointer (some ⟨bo,on,none⟩):=hin 3 34
       exact by simp [go_sem,h34,ca]
      ·have h9:A0.tmps[9]?.getD undef=.pointer (some ⟨wr.heap.size,0,none⟩):=hk 9
       exact by simp [go_sem,h9]
      ·have h36:A0.tmps[36]?.getD undef=.pointer (some ⟨wr.heap.size,2,none⟩):=hin 5 36
       exact by simp [go_sem,h36,c2]
      ·have h35:A0.tmps[35]?.getD undef=.int .i64 va:=hin 4 35
       have h37:A0.tmps[37]?.getD undef=.int .i64 up:=hin 6 37
       exact by simp [go_sem,h35,h37,hw]
      ·have h38:A0.tmps[38]?.getD undef=.int .i64 ((va:Int)+(up:Int)):=hin 7 38
       exact by simp [go_sem,h38]
     simp only [putsL,Act.put,qk,qu,qy]
     refine AtN.done rfl ?_
     have c0:=D2.out.cell 0
     have cb:=(D1.out.cell hd).trans Hvb.out
     simp only [qx,qj,qw] at c0
     have r0:(0:Int)≤(hd:Int):=by omega
     have r1:(hd:Int) < 6:=by omega
     clear c1 c2 ca hw p0 p1
     by_cases hbad:vb < va+up
     ·have hle:¬ ((va:Int)+(up:Int)≤(vb:Int)):=by omega
      have Hfn:=qq (Hfin.out (by rw [Hbad.out];exact decide_eq_true hbad))
      obtain ⟨e1,e2⟩:=Hvab.out
      have Hfn2:=qq (show lift es 40 zero6=if 6 < va+up then none else lift es (k - 1) (s.set hd (va+up)) by have:=Hfn.out;rwa [e1] at this)
      clear e1 e2 Hfn
      by_cases h7:6 < va+up
      ·have hgt:(6:Int) < (va:Int)+(up:Int):=by omega
       have HSt:=qq (show st=none by rw [HS.out,Hfn2.out,if_pos h7])
       go_wp2_with fail
       simp only [Exit.jump]
       go_ret2
       rw [HSt.out]
       exact ⟨⟨80,by decide,rfl⟩,HN.out.trans DN.out qdr⟩
      ·have hgt:¬ ((6:Int) < (va:Int)+(up:Int)):=by omega
       have Hfn3:=qq (show lift es 40 zero6=lift es (k - 1) (s.set hd (va+up)) by rw [Hfn2.out,if_neg h7])
       have hput:layA (ints s) hd [.int .i64 ((va:Int)+(up:Int))]=ints (s.set hd (va+up)):=by
        rw [←Int.natCast_add]
        exact ints_put (by rw [H6.out];exact l1)
       have HPut:=qq hput
       have HN5:=qq (show New W wd from DN.out)
       have Hsum:=qq (show s.sum < (s.set hd (va+up)).sum by
        obtain ⟨e1,e2⟩:=Hvab.out
        exact sum_set (by rw [H6.out];exact l1) (by rw [e2];exact hbad))
       have HSz:=qq (show hd < (ints s).size by unfold ints;rw [zl,qd,H6.out];exact l1)
       have HX2:=qq (show ∀ x∈s.set hd (va+up),x≤6 from fun x hx=>by
        rcases yr hx with h1|h1
        ·exact Hx.out x h1
        ·omega)
       clear hput
       go_wp2_with ((with_reducible refine kf rfl (.tmp 56) (.tmp 55) 3 rfl rfl szInt bo hd 3 _ (.int .i64 ((va:Int)+(up:Int))) (ints (s.set hd (va+up))) ?_ ?_ D1.out HSz.out ?_ HPut.out ?_);exact rfl;exact rfl;exact rfl;intro w9 hc9 hb9 hs9;have HC9:=qq hc9;have HB9:=qq hb9;clear hc9 hb9 hs9)
       go_step3
       refine And.intro rfl (And.intro ⟨s.set hd (va+up),k - 1,bo,.slice (some ad) ne ce,j,_,_,_,_,_,_,_,_,_,_,_,_,_,_,_,_,_,_,_,_,_,_,_,_,_,_,_,_,_,_,_,_,_,_,_,_,_,_,_,_,_,_,_,_,_,_,_,_,_,_,_,_,_,rfl,by rw [jk];exact H6.out,HX2.out,Hfn3.out,by have:=Hk.out;have:=Hsum.out;have:=Hk1.out;omega,HB9.out,Hbo.out,(HOv.out.chg (HN5.out.mono (T':=fun k=>k=bo) (fun _ _ h=>h.elim)) (fun g hg e=>xg HOv.out HBo.out (by decide) (by rw [hg,show g=bo from e]))).chg HC9.out (fun g hg e=>xg HOv.out HBo.out (by decide) (by rw [hg,show g=bo from e])),(HN.out.trans HN5.out qdr).trans HC9.out (fun q hq e=>by have:=Hbo.out;omega)⟩ ?_)
       show 36 - sumAt bo w9 < 36 - sumAt bo W
       rw [ia HB9.out (by rw [jk];exact H6.out),ia HBo.out H6.out]
       have h1:=oh HX2.out
       rw [jk,H6.out] at h1
       have:=Hsum.out
       omega
     ·have hle:(va:Int)+(up:Int)≤(vb:Int):=by omega
      have Hn:=qq (Hno.out (by rw [Hbad.out];exact decide_eq_false hbad))
      go_wp2_with fail
      go_roundw
      case rel=>exact ⟨i+1,by omega,by go_num,Hn.out,DN.out⟩
      case measure=>simp only [intOf];omega
    ·have HSt:=qq (show st=some s by
      rw [HS.out,Hl.out]
      exact lift_end (fun x hx=>HNo.out x (by rw [qc (by rw [Hne.out];omega)];exact hx)) Hk1.out)
     go_wp2_with fail
     simp only [Exit.jump]
     go_ret2
     rw [HSt.out]
     exact ⟨bo,rfl,HBo.out.chg HNr.out id,Hbo.out,HN.out.trans HNr.out qdr⟩
 ·have HS:=qq (show st=none by rw [←Hst.out];unfold strV;rw [if_neg (by rw [Hq.out];exact hq0)])
  have hqb:(q != 0)=true:=by simpa using hq0
  go_enter Tryz.func18,Tryz.ntmps18
  go_wp2_with fail
  rw [←HW1.out]
  clear HW1
  go_step3
  go_wp2_with first
   | ((with_reducible refine vq rfl (.tmp 1) 29 rfl xp ⟨w.heap.size,0,none⟩ [.slice (some ⟨d,0,none⟩) 6 6,.slice Af m cf,.slice Ar n cr] ?_ rfl HB1.out.at_ ?_);exact rfl)
   | (go_at_call 41;refine (HCk.out _ HN1.out).mono ?_;rintro e w2 ⟨⟨j,rfl⟩,hn2⟩;have HN2:=qq (HN1.out.trans hn2 qdr);clear hn2)
  rw [Exit.noGoto_ret]
  go_ret2
  rw [HS.out]
  exact ⟨⟨q,hq0,rfl⟩,HN2.out⟩
noncomputable def least (p:Nat→Prop):Nat:=by
 classical
 exact if h:∃ n,p n∧∀ m,p m→n≤m then Classical.choose h else 0
def lm {p:Nat→Prop}:(∃ n,p n)→∃ n,p n∧∀ m,p m→n≤m:=by
 rintro ⟨n,hn⟩
 induction n using Nat.strongRecOn with
 |_ n ih=>
  by_cases h:∃ m,m < n∧p m
  ·obtain ⟨m,h1,h2⟩:=h
   exact ih m h1 h2
  ·exact ⟨n,hn,fun m hm=>Nat.le_of_not_lt fun hl=>h ⟨m,hl,hm⟩⟩
def ol {p:Nat→Prop} (h:∃ n,p n):p (least p):=by
 unfold least
 rw [dif_pos (lm h)]
 exact (ye (lm h)).1
def least_le {p:Nat→Prop} {m:Nat} (h:p m):least p≤m:=by
 unfold least
 rw [dif_pos (lm ⟨m,h⟩)]
 exact (ye (lm ⟨m,h⟩)).2 m h
def StR (l:List Rw):Prop:=∀ r∈l,0≤r.stamp∧r.stamp≤forever
def StR.merge {l:List Rw} (h:StR l):StR (mergeF l):=fun r hr=>h r ((xm l).sub r hr)
def StR.app {a b:List Rw} (h:StR a) (h':StR b):StR (a++b):=fun r hr=>(zk.1 hr).elim (h r) (h' r)
def nextV_st {m:List Rw} (h:StR m) {L:Lt} {s x:Sta} (hs:0≤s.2∧s.2≤forever) (hx:x∈nextV m L s):0≤x.2∧x.2≤forever:=by
 have atoms:∀ {nm ts},x∈atomsV m nm ts s→0≤x.2∧x.2≤forever:=fun {nm ts} hx=>by
  obtain ⟨r,hr,hrx⟩:=zr.1 hx
  unfold atomS at hrx
  cases hm:matchV ts r.args s.1 with
  |none=>rw [hm] at hrx;cases hrx
  |some e=>
   rw [hm] at hrx
   cases hrx
   have h1:=h r (zc.1 hr).1
   show 0≤minI s.2 r.stamp∧minI s.2 r.stamp≤forever
   unfold minI
   split <;> omega
 have goes:∀ {L},goesV m L s=some x→0≤x.2∧x.2≤forever:=fun {L} hx=>by
  cases L with
  |atom b nm ts=>
   rw [show goesV m (.atom b nm ts) s=if (atomsV m nm ts s).isEmpty then some s else none from rfl] at hx
   split at hx
   ·cases hx;exact hs
   ·cases hx
  |test j a b=>
   unfold goesV at hx
   cases ha:evalT s.1 a with
   |none=>simp [ha] at hx
   |some u=>
    cases hb:evalT s.1 b with
    |none=>simp [ha,hb] at hx
    |some v=>
     by_cases ht:testV j u v=true
     ·simp [ha,hb,ht] at hx
      subst hx
      exact hs
     ·simp [ha,hb,ht] at hx
  |assign nm t=>
   unfold goesV at hx
   cases ha:evalT s.1 t with
   |none=>simp [ha] at hx
   |some u=>
    cases hl:lookE s.1 nm with
    |some v=>simp [ha,hl] at hx
    |none=>
     simp [ha,hl] at hx
     subst hx
     exact hs
 cases L with
 |atom b nm ts=>
  cases b
  ·exact atoms hx
  ·exact goes (Option.mem_toList.1 hx)
 |test j a b=>exact goes (Option.mem_toList.1 hx)
 |assign nm t=>exact goes (Option.mem_toList.1 hx)
def qbi {m:List Rw} (h:StR m):∀ {Ls:List Lt} {s x:Sta},0≤s.2∧s.2≤forever→x∈waysV m Ls s→0≤x.2∧x.2≤forever
 | [],s,x,hs,hx=>by
  rw [qn.1 (show x∈[s] from hx)]
  exact hs
 |L::Ls,s,x,hs,hx=>by
  obtain ⟨t,ht,hx⟩:=ju.1 (show x∈(nextV m L s).flatMap (waysV m Ls) from hx)
  exact qbi h (nextV_st h hs ht) hx
def qbg {m:List Rw} (h:StR m) (r:Ru):StR (fireR r m):=fun x hx=>by
 obtain ⟨s,hs,he⟩:=zr.1 hx
 have h1:=qbi h (s:=([],forever)) (by unfold forever;omega) hs
 unfold headV at he
 cases ha:allO (r.ts.map (evalT s.1)) with
 |none=>rw [ha] at he;cases he
 |some us=>
  rw [ha] at he
  cases he
  exact h1
def bck_mem {k:Nat} {y:Rw} {u:Vl} (h:u∈(bck k y).args):u∈y.args.dropLast∨u=lastV y:=by
 rcases zk.1 (show u∈y.args.dropLast.take k++lastV y::y.args.dropLast.drop k from h) with h|h
 ·exact .inl (je h)
 ·rcases qp.1 h with h|h
  ·exact .inr h
  ·exact .inl (ua h)
def grp_fine {ag:Ag} {m:List Rw} (hc:OkR m) (hn:∀ x∈m,x.args≠[]) (hl:m.length≤1000000000) (k:Nat):OkR ((grp ag m).map (bck k))∧(StR m→StR ((grp ag m).map (bck k))):=by
 have hi:=an (ag:=ag) hc.can hn
 refine ⟨fun z hz=>?_,fun hs z hz=>?_⟩
 ·obtain ⟨y,hy,rfl⟩:=zi.1 hz
  intro u hu
  rcases bck_mem hu with h|h
  ·obtain ⟨x,hx,hk,-⟩:=hi.st2 y hy
   have:x.args.dropLast=y.args.dropLast:=congrArg Prod.snd hk
   exact hc x hx u (uq _ (this▸h))
  ·subst h
   cases ag with
   |min=>
    obtain ⟨⟨x,hx,-,he⟩,-⟩:=hi.mn rfl y hy
    rw [←he]
    exact hc x hx _ (pb (hn x hx))
   |max=>
    obtain ⟨⟨x,hx,-,he⟩,-⟩:=hi.mx rfl y hy
    rw [←he]
    exact hc x hx _ (pb (hn x hx))
   |count=>
    rw [hi.cnt rfl y hy]
    have:=jc (fun x=>decide (kk x=kk y)) m
    refine ⟨.inl ⟨rfl,rfl⟩,?_,?_⟩
    ·show -9223372036854775808≤((List.length _:Nat):Int)
     omega
    ·show ((List.length _:Nat):Int)≤9223372036854775807
     omega
 ·obtain ⟨y,hy,rfl⟩:=zi.1 hz
  obtain ⟨x,hx,-,he⟩:=hi.st2 y hy
  show 0≤y.stamp∧y.stamp≤forever
  rw [←he]
  exact hs x hx
def trn_ok {l:List Rw} (h:OkR l) (k:Nat):OkR (trn k l):=fun x hx u hu=>by
 obtain ⟨r,hr,v,hv,rfl⟩:=mz.1 hx
 rcases zk.1 hu with h1|h1
 ·exact h r hr u (List.mem_of_mem_eraseIdx h1)
 ·rw [qn.1 h1];exact h r hr v (qf hv)
def trn_st {l:List Rw} (h:StR l) (k:Nat):StR (trn k l):=fun x hx=>by
 obtain ⟨r,hr,v,hv,rfl⟩:=mz.1 hx
 exact h r hr
def fire_len {r:Ru} (hok:r.Ok) {m:List Rw} (hm:m.length≤48):(fireR r m).length≤5308416:=by
 have h5:=si (rows:=m) (n:=48) hm (by omega) r.Ls ([],forever)
 have h6:48 ^ r.Ls.length≤48 ^ 4:=Nat.pow_le_pow_right (by omega) hok.l4
 have h7:48 ^ 4=5308416:=by decide
 have h8:=jd (headV r.h r.ts) (waysV m r.Ls ([],forever))
 show (List.filterMap _ _).length≤_
 omega
def kx (l:List Rw):(mergeF l).length≤l.length:=me (xm l) _ (qh _)
def fk {r:Ru} (hok:r.Ok) {l:List Rw} (h:OkR l) (hl:l.length≤48):OkR (ruleV r l)∧(StR l→StR (ruleV r l))∧(ruleV r l).length≤5308416:=by
 have hm:(mergeF l).length≤48:=qb (kx l) hl
 have hf:=pl hok h.merge
 have hfl:=fire_len hok hm
 unfold ruleV
 split
 ·exact ⟨hf.merge,fun hs=>(qbg hs.merge r).merge,qb (kx _) hfl⟩
 ·rename_i ag _
  have h1:(trn 1 (mergeF (fireR r (mergeF l)))).length≤5308416:=qb (nc _ _) (qb (kx _) hfl)
  have h2:=qb (kx (trn 1 (mergeF (fireR r (mergeF l))))) h1
  have h3:=be ag (mergeF (trn 1 (mergeF (fireR r (mergeF l))))) (mergeF (trn 1 (mergeF (fireR r (mergeF l))))).length
  rw [List.take_length] at h3
  have hg:=grp_fine (ag:=ag) (trn_ok hf.merge 1).merge (fun x hx=>(qal x ((xm _).sub x hx)).1) (by omega) 1
  refine ⟨hg.1.merge,fun hs=>(hg.2 (trn_st (qbg hs.merge r).merge 1).merge).merge,qb (kx _) ?_⟩
  rw [qd]
  omega
def nextF (rs:List Ru) (seen l:List Rw):List Rw:=mergeF (l++rs.flatMap fun r=>ruleV r seen)
structure Fine (l:List Rw):Prop where
 ok:OkR l
 st:StR l
 up:l.Pairwise (fun x y=>cmpR x y < 0)
def gq {l:List Rw} (h:OkR l) (h':StR l):Fine (mergeF l):=⟨h.merge,h'.merge,(xm l).up⟩
def ky {rs:List Ru} (hok:∀ r∈rs,r.Ok) {seen:List Rw} (h:OkR seen) (hl:seen.length≤48):OkR (rs.flatMap fun r=>ruleV r seen)∧(StR seen→StR (rs.flatMap fun r=>ruleV r seen))∧(rs.flatMap fun r=>ruleV r seen).length≤rs.length * 5308416:=by
 refine ⟨fun x hx=>?_,fun hs x hx=>?_,?_⟩
 ·obtain ⟨r,hr,hx⟩:=ju.1 hx
  exact (fk (hok r hr) h hl).1 x hx
 ·obtain ⟨r,hr,hx⟩:=ju.1 hx
  exact (fk (hok r hr) h hl).2.1 hs x hx
 ·induction rs with
  |nil=>simp
  |cons r rs ih=>
   have h1:=ih (fun x hx=>hok x (zh _ hx))
   have h2:=(fk (hok r (zb ..)) h hl).2.2
   rw [ul,qg,zf,Nat.succ_mul]
   omega
def pr {rs:List Ru} (hok:∀ r∈rs,r.Ok) {seen l:List Rw} (h:Fine l) (hs:Fine seen) (hl:seen.length≤48):Fine (nextF rs seen l):=by
 have:=ky hok hs.ok hl
 exact gq (h.ok.app this.1) (h.st.app (this.2.1 hs.st))
def nw {rs:List Ru} (hok:∀ r∈rs,r.Ok) {seen l:List Rw} (h:Fine l) (hs:Fine seen) (hl:seen.length≤48):Under l (nextF rs seen l):=
 (Under.sub fun r hr=>ux _ hr).trans (pu (h.ok.app (ky hok hs.ok hl).1).can)
def wt (l:List Rw):Nat:=(l.map fun r=>(r.stamp+1).toNat).sum
def wt_le {l:List Rw} (h:StR l):wt l≤l.length * 1099511627777:=by
 unfold wt
 have:=oh (s:=l.map fun r=>(r.stamp+1).toNat) (m:=1099511627777) (fun x hx=>by
  obtain ⟨r,hr,rfl⟩:=zi.1 hx
  have:=(h r hr).2
  unfold forever at this
  omega)
 rwa [qd] at this
def wt_lt {a b:List Rw} (ha:a.Pairwise (fun x y=>cmpR x y < 0)) (hb:b.Pairwise (fun x y=>cmpR x y < 0)) (hs:StR b) (h:Under a b) (hne:a≠b):wt a < wt b:=by
 have key:∀ (n:Nat) (a b:List Rw),a.length=n→a.Pairwise (fun x y=>cmpR x y < 0)→b.Pairwise (fun x y=>cmpR x y < 0)→StR b→Under a b→wt a≤wt b∧(wt a=wt b→Under b a):=by
  intro n
  induction n with
  |zero=>
   intro a b h0 _ _ hs _
   obtain rfl:=ze h0
   refine ⟨qr _,fun h x hx=>?_⟩
   exfalso
   have h1:wt b=0:=h.symm
   unfold wt at h1
   have h2:=List.sum_eq_zero_iff_forall_eq_nat.1 h1 _ (zi.2 ⟨x,hx,rfl⟩)
   have:=(hs x hx).1
   omega
  |succ n ih=>
   intro a b h0 ha hb hs h
   cases a with
   |nil=>cases h0
   |cons r a=>
    obtain ⟨h1,h2⟩:=yn.1 ha
    obtain ⟨s,hsb,e1,e2,e3⟩:=h r (zb ..)
    obtain ⟨b1,b2,rfl⟩:=List.append_of_mem hsb
    have hb':=hb
    rw [List.pairwise_append] at hb'
    obtain ⟨p1,p2,p3⟩:=hb'
    obtain ⟨p4,p5⟩:=yn.1 p2
    have hb2:(b1++b2).Pairwise (fun x y=>cmpR x y < 0):=hb.sublist (by simp)
    have hu:Under a (b1++b2):=fun x hx=>by
     obtain ⟨t,ht,f1,f2,f3⟩:=h x (zh _ hx)
     refine ⟨t,?_,f1,f2,f3⟩
     rcases zk.1 ht with ht|ht
     ·exact ux _ ht
     ·rcases qp.1 ht with rfl|ht
      ·exfalso
       have h3:=h1 x hx
       have h4:cmpR r x=cmpR r r:=by simp only [cmpR,lex2];rw [←f1, ←f2,e1,e2]
       rw [h4,pp.refl r] at h3
       omega
      ·exact List.mem_append_right _ ht
    have h5:=ih a (b1++b2) (by simpa using h0) h2 hb2 (fun x hx=>hs x (by
     rcases zk.1 hx with hx|hx
     ·exact ux _ hx
     ·exact List.mem_append_right _ (zh _ hx))) hu
    have hw1:wt (r::a)=(r.stamp+1).toNat+wt a:=rfl
    have hw2:wt (b1++s::b2)=(s.stamp+1).toNat+wt (b1++b2):=by
     unfold wt
     simp only [jw,yi,List.sum_append,List.sum_cons]
     omega
    have hs0:=(hs s hsb).1
    rw [hw1,hw2]
    refine ⟨by omega,fun he x hx=>?_⟩
    have h6:=h5.2 (by omega)
    have hin:x=s∨x∈b1++b2:=by
     rcases zk.1 hx with hx|hx
     ·exact .inr (ux _ hx)
     ·rcases qp.1 hx with hx|hx
      ·exact .inl hx
      ·exact .inr (List.mem_append_right _ hx)
    rcases hin with rfl|hx
    ·exact ⟨r,zb ..,e1.symm,e2.symm,by omega⟩
    ·obtain ⟨y,hy,g⟩:=h6 x hx
     exact ⟨y,zh _ hy,g⟩
 have h1:=key _ a b rfl ha hb hs h
 exact Nat.lt_of_le_of_ne h1.1 fun e=>hne (tu ha hb h (h1.2 e))
inductive Strm (rs:List Ru) (rd:List Rw→List Rw) (most:Nat):List Rw→List Rw→Bool→Prop
 |over {l:List Rw}:most < l.length→Strm rs rd most l l false
 |done {l:List Rw}:l.length≤most→l=nextF rs (rd l) l→Strm rs rd most l l true
 |go {l m:List Rw} {b:Bool}:l.length≤most→l≠nextF rs (rd l) l→Strm rs rd most (nextF rs (rd l) l) m b→Strm rs rd most l m b
def ofS (rs:List Ru) (s:List Nat) (k:Nat):List Ru:=rs.filter fun r=>decide (s.getD (relI r.h) 0=k)
inductive Rnds (rs:List Ru) (s:List Nat) (rd:List Rw→List Rw) (most:Nat):Nat→Nat→List Rw→List Rw→Bool→Prop
 |last {k:Nat} {l:List Rw}:Rnds rs s rd most k 0 l l (decide (l.length≤most))
 |over {k j:Nat} {l m:List Rw}:Strm (ofS rs s k) rd most l m false→Rnds rs s rd most k (j+1) l m false
 |next {k j:Nat} {l m r:List Rw} {b:Bool}:Strm (ofS rs s k) rd most l m true→Rnds rs s rd most (k+1) j m r b→Rnds rs s rd most k (j+1) l r b
def mxI (s:List Nat):Int:=s.foldl (fun (a:Int) (b:Nat)=>max a (b:Int)) (-1)
def topN (s:List Nat):Nat:=(mxI s+1).toNat
def mxI_le (s:List Nat) (a:Int):a≤s.foldl (fun (a:Int) (b:Nat)=>max a (b:Int)) a∧∀ x∈s,(x:Int)≤s.foldl (fun (a:Int) (b:Nat)=>max a (b:Int)) a:=by
 induction s generalizing a with
 |nil=>exact ⟨yk _,fun x hx=>(by cases hx)⟩
 |cons y s ih=>
  obtain ⟨h1,h2⟩:=ih (max a (y:Int))
  rw [List.foldl_cons]
  refine ⟨Int.le_trans (Int.le_max_left ..) h1,fun x hx=>?_⟩
  rcases qp.1 hx with rfl|hx
  ·exact Int.le_trans (Int.le_max_right ..) h1
  ·exact h2 x hx
def topN_gt {s:List Nat}:∀ x∈s,x < topN s:=fun x hx=>by
 have:=(mxI_le s (-1)).2 x hx
 unfold topN mxI
 omega
def qbj (s:List Nat):mxI s+1=(topN s:Int):=by
 have:=(mxI_le s (-1)).1
 unfold topN mxI
 omega
def elRu:ElT Tryz.prog 27 47 6 104 (Value.cells (.agg #[.string ⟨#[]⟩,.string ⟨#[]⟩,.slice none 0 0,.string ⟨#[]⟩,.int .i64 0,.slice none 0 0])).toList:=
 ElT.mk' (by kernel_rfl) (by kernel_rfl) rfl (by omega) (by intro u hu;simp only [Value.cells,qp,qm,or_false] at hu;rcases hu with rfl|rfl|rfl|rfl|rfl|rfl <;> rfl)
def inS (s:List Nat) (k:Nat) (r:Ru):Bool:=decide (s.getD (relI r.h) 0=k)
def selR (css:List (List Value)) (rs:List Ru) (s:List Nat) (k i:Nat):List (List Value×Ru):=((css.zip rs).take i).filter fun p=>inS s k p.2
def qco {css:List (List Value)} {rs:List Ru} {s:List Nat} {k i:Nat} {cs:List Value} {r:Ru} (h1:css[i]? =some cs) (h2:rs[i]? =some r):selR css rs s k (i+1)=selR css rs s k i++if inS s k r=true then [(cs,r)] else []:=by
 unfold selR
 rw [vh (show (css.zip rs)[i]? =some (cs,r) by rw [yu];exact ⟨h1,h2⟩),uf]
 congr 1
 by_cases h:inS s k r=true <;> simp [h]
def selR_rs {css:List (List Value)} {rs:List Ru} (h:css.length=rs.length) (s:List Nat) (k:Nat):(selR css rs s k rs.length).map (·.2)=ofS rs s k:=by
 have hz:(css.zip rs).map (·.2)=rs:=List.map_snd_zip (by omega)
 unfold selR ofS
 rw [qc (by rw [List.length_zip];omega)]
 conv=>rhs;rw [←hz]
 rw [List.filter_map]
 rfl
def RlPost (w:World) (qs:List Ru) (e:Ending) (w':World):Prop:=∃ A c css,e=.returned (.slice A qs.length c)∧RusAt w' A css qs∧New w w'
def rules_is (w:World) (v:Value) (rs:List Ru) (hv:PgSl w v rs) (hp:∀ r∈rs,ruP r) (hrel:∀ r∈rs,ruRel r) (s:List Nat) (hs:strV rs=some s) (k:Nat):Calls Tryz.prog 56 #[v,.int .i64 k] w (RlPost w (ofS rs s k)):=by
 have HSt:=qq (fun W (hW:New w W)=>by
  have:=fx W v rs (hv.chg hW) hp hrel
  rw [hs] at this
  exact this)
 have HNu:=qq (fun W (hW:New w W)=>sq W v rs (hv.chg hW))
 have H6:=qq (ba hs).2.1
 obtain ⟨d,Ar,Af,cr,cf,css,csf,fs,rfl,h2,h3,h4,-⟩:=hv
 have Hfin:=qq (selR_rs h3.len s k)
 obtain ⟨n,hn⟩:=qdp (rs.length)
 obtain ⟨m,hm⟩:=qdp (fs.length)
 rw [hn,hm] at HSt HNu⊢
 rw [hn] at h4 Hfin
 clear hm
 have HRu:=qq h3
 have Hn:=qq hn
 obtain ⟨w1,hw1⟩:=qdq (w.alloc (.cells #[.slice (some ⟨d,0,none⟩) 6 6,.slice Af m cf,.slice Ar n cr] 29))
 have HN1:=qq (show New w w1 by rw [hw1];exact (Chg.refl _ _).alloc _)
 have HB1:=qq (show Blk w1 w.heap.size 29 #[.slice (some ⟨d,0,none⟩) 6 6,.slice Af m cf,.slice Ar n cr] by rw [hw1];exact Blk.new w _ _)
 have HW1:=qq hw1
 clear h2 h3 hp hrel hn hw1 hs
 go_enter Tryz.func56,Tryz.ntmps56
 go_upto_region 1 with fail
 rw [←HW1.out]
 clear HW1
 go_wp2_with first
  | ((with_reducible refine vq rfl (.tmp 2) 29 rfl xp ⟨w.heap.size,0,none⟩ [.slice (some ⟨d,0,none⟩) 6 6,.slice Af m cf,.slice Ar n cr] ?_ rfl HB1.out.at_ ?_);exact rfl)
  | ((with_reducible refine vq rfl (.tmp 2) 29 rfl xp ⟨w.heap.size,0,none⟩ [.slice (some ⟨d,0,none⟩) 6 6,.slice Af m cf,.slice Ar n cr] ?_ rfl HB2.out.at_ ?_);exact rfl)
  | (go_at_call 18;refine (HSt.out _ HN1.out).mono ?_;rintro e w2 ⟨b,rfl,hb2,hbl,hn2⟩;have HN2:=qq (HN1.out.trans hn2 qdr);have HS2:=qq hb2;have HB2:=qq (HB1.out.chg hn2 id);clear hn2 hb2 hbl)
  | (go_at_call 73;refine (HNu.out _ HN2.out).mono ?_;rintro e w3 ⟨bm,rfl,hm2,hbm,hn3⟩;have HN3:=qq (HN2.out.trans hn3 qdr);have HM3:=qq hm2;have HS3:=qq (HS2.out.chg hn3 id);have c2:=(HB2.out.chg hn3 id).cell 2;simp only [qx,qj,qw] at c2;clear hn3 hm2 hbm)
 clear c2 HNu HSt HB1 HB2 HN1 HN2 HS2
 go_loopw [4,22] (fun u4 u22 wr=>∃ (i:Nat),i≤n∧u22=.int .i64 i∧Own wr w3.heap.size 47 6 u4 ((selR css rs s k i).map (·.1))∧New w3 wr) (fun _ u _=>n - (intOf u).toNat)
 case atStart=>exact ⟨0,qr _,rfl,Own.nil _ _ _ _,Chg.refl _ _⟩
 case round=>
  obtain ⟨i,hi,rfl,ho,hN⟩:=hrel
  have HO:=qq ho
  have HNr:=qq hN
  have HNi:=qq (HN3.out.trans hN qdr)
  clear ho hN
  by_cases hlt:i < n
  ·obtain ⟨r,hr⟩:∃ r,rs[i]? =some r:=⟨_,qz (by rw [Hn.out];exact hlt)⟩
   obtain ⟨cs,hcs⟩:∃ cs,css[i]? =some cs:=⟨_,qz (by rw [HRu.out.len,Hn.out];exact hlt)⟩
   obtain ⟨ad,rfl,hrw⟩:=HRu.out.src (by rw [HRu.out.len,Hn.out];omega)
   have hsn:=qco (s:=s) (k:=k) hcs hr
   have hru:=HRu.out.at_ i cs r hcs hr
   obtain ⟨lab,A,c,Ab,cb,he⟩:=hru.form
   obtain rfl:cs=[.string lab,.string r.h,.slice A r.ts.length c,.string r.agg,.int .i64 r.at',.slice Ab r.Ls.length cb]:=by
    injection he with he
    simpa using congrArg Array.toList he
   have Hat:=qq ((hrw i _ hcs).2.chg HNi.out id)
   have q0:(0:Int)≤(i:Int):=by omega
   have q1:(i:Int) < (n:Int):=by omega
   obtain ⟨n1,hn1⟩:=qdp (r.ts.length)
   obtain ⟨nb,hnb⟩:=qdp (r.Ls.length)
   rw [hn1,hnb] at Hat hsn
   have Hsn:=qq hsn
   obtain ⟨ri,hri⟩:=qdp (relI r.h)
   have hr6:ri < 6:=by rw [←hri];exact dz _
   obtain ⟨sv,hsv⟩:=qdp (s.getD ri 0)
   have Hin:=qq (show inS s k r=decide (sv=k) by unfold inS;rw [hri,hsv])
   have Hri:=qq hri
   have r0:(0:Int)≤(ri:Int):=by omega
   have r1:(ri:Int) < 6:=by omega
   have HS4:=qq (HS3.out.chg HNr.out id)
   have HM4:=qq (HM3.out.chg HNr.out id)
   have Hsv:=qq (show (ints s)[ri]? =some (.int .i64 (sv:Int)) by rw [rp (by rw [H6.out];exact hr6),hsv])
   clear hrw hcs hr he hru hn1 hnb hsn hri hsv
   go_upto_region 8 with first
    | ((with_reducible refine vq rfl (.tmp 24) 47 rfl xt (ad.add (i * 6)) [.string lab,.string r.h,.slice A n1 c,.string r.agg,.int .i64 r.at',.slice Ab nb cb] ?_ rfl Hat.out ?_);exact rfl)
    | (with_reducible refine gz rfl 47 rfl ae ?_;intro w4 cur hc3 hb3 hsz hs3;have HC3:=qq hc3;have HB5:=qq hb3;have Hsz:=qq hsz;clear hc3 hb3 hsz hs3)
    | ((with_reducible refine xq rfl (.tmp 9) (.tmp 25) 47 rfl rfl xt wr.heap.size 47 _ [.string lab,.string r.h,.slice A n1 c,.string r.agg,.int .i64 r.at',.slice Ab nb cb] ?_ ?_ HB5.out rfl Hsz.out (gi rfl rfl rfl) ?_);exact rfl;exact rfl;intro w5 hc4 hb4 hs4;have HC4:=qq (HC3.out.put hc4 (qh _));have HB6:=qq hb4;have e1:=hb4.cell 1;simp only [qx,qj,qw] at e1;clear hc4 hb4 hs4)
   have hlk:=(HM4.out.chg HC4.out id).look r.h
   rw [Hri.out] at hlk
   have es:=((HS4.out.chg HC4.out id).cell ri).trans Hsv.out
   have hO5:=HO.out.chg HC4.out qdr
   have hN5:=HNr.out.trans HC4.out qdr
   have HO5:=qq hO5
   have HN5:=qq hN5
   have Hln:=qq (show ((selR css rs s k i).map (·.1)).length≤10 by
    have h1:=jc (fun p:List Value×Ru=>inS s k p.2) ((css.zip rs).take i)
    have h2:((css.zip rs).take i).length≤i:=by rw [ql];omega
    rw [qd]
    unfold selR
    omega)
   clear hO5 hN5
   by_cases hsk:sv=k
   ·obtain ⟨v8,w8,hr8,h1,h2,-⟩:=elRu.appOne HO5.out HN5.out.size [.string lab,.string r.h,.slice A n1 c,.string r.agg,.int .i64 r.at',.slice Ab nb cb] rfl (gi rfl rfl rfl) (by have:=Hln.out;omega) (by have:=Hln.out;unfold maxLen;omega) 27 w5.heap.size rfl
    have H8:=qq (show Own w8 w3.heap.size 47 6 v8 ((selR css rs s k (i+1)).map (·.1)) by
     rw [Hsn.out,Hin.out,if_pos (by simpa using hsk),jw]
     exact h1)
    have HN8:=qq (show New w3 w8 from HN5.out.trans h2 (fun k hk e=>by have:=(HO5.out.lt e).1;omega))
    have HR8:=qq hr8
    have hbq:((sv:Int) == (k:Int))=true:=by rw [hsk];simp
    clear hr8 h1 h2
    subst hsk
    go_wp2_with first
     | ((with_reducible refine vq rfl (.tmp 9) 47 rfl xt ⟨wr.heap.size,0,none⟩ [.string lab,.string r.h,.slice A n1 c,.string r.agg,.int .i64 r.at',.slice Ab nb cb] ?_ rfl HB6.out.at_ ?_);exact rfl)
     | ((with_reducible refine xu rfl (.tmp 35) (.tmp 37) 27 27 rfl ?_ ?_ HR8.out ?_);exact rfl;exact rfl)
    go_roundw
    case rel=>exact ⟨i+1,by omega,by go_num,H8.out,HN8.out⟩
    case measure=>simp [intOf];omega
   ·have H8:=qq (show Own w5 w3.heap.size 47 6 u4 ((selR css rs s k (i+1)).map (·.1)) by
     rw [Hsn.out,Hin.out,if_neg (by simpa using hsk),jr]
     exact HO5.out)
    have hbq:((sv:Int) == (k:Int))=false:=by
     rw [beq_eq_false_iff_ne]
     omega
    go_wp2_with fail
    go_roundw
    case rel=>exact ⟨i+1,by omega,by go_num,H8.out,HN5.out⟩
    case measure=>simp [intOf];omega
  ·have HF:=qq (show ∃ A c,u4=.slice A (ofS rs s k).length c∧RusAt wr A ((selR css rs s k n).map (·.1)) (ofS rs s k) by
    have ho:=HO.out
    rw [show i=n by omega] at ho
    obtain ⟨A,c,h1,-⟩:=ho.form
    have h2:=(ho.rows h1).2
    rw [qd] at h1
    have hl:(ofS rs s k).length=(selR css rs s k n).length:=by rw [←Hfin.out,qd]
    refine ⟨A,c,by rw [h1,hl],by rw [qd,hl],h2,fun j cs r hc hr=>?_⟩
    rw [←Hfin.out,qa] at hr
    rw [qa] at hc
    cases hg:(selR css rs s k n)[j]? with
    |none=>rw [hg] at hc;cases hc
    |some p=>
     rw [hg] at hc hr
     cases hc
     cases hr
     have h3:=je (zc.1 (qf hg)).1
     obtain ⟨x,hx⟩:=jz h3
     obtain ⟨g1,g2⟩:=yu.1 hx
     exact (HRu.out.at_ x _ _ g1 g2).chg HNi.out)
   go_wp2_with fail
   go_ret
   obtain ⟨A,c,h1,h2⟩:=HF.out
   exact ⟨A,c,_,by rw [←h1];rfl,h2,HNi.out⟩
def qct {W:World} {B k:Nat} {v:Value} {css:List (List Value)} (h:Own W B 42 k v css) (g:Nat) (hg:v.ownBlock=some g):¬ VlB W g:=fun ⟨cs,fr,hv⟩=>by
 rcases h.1.2 with ⟨h1,_⟩| ⟨g',cap,cur,h1,_,h2,_⟩
 ·rw [h1] at hg;cases hg
 ·rw [h1] at hg
  cases hg
  exact absurd (Option.some.inj (h2.symm.trans hv)) (by simp)
def mxI_hi {s:List Nat} {m:Nat} (h:∀ x∈s,x≤m):mxI s≤m:=by
 have key:∀ (a:Int),a≤m→s.foldl (fun (a:Int) (b:Nat)=>max a (b:Int)) a≤m:=by
  induction s with
  |nil=>exact fun a h=>h
  |cons y s ih=>
   intro a ha
   rw [List.foldl_cons]
   refine ih (fun x hx=>h x (zh _ hx)) _ ?_
   have:=h y (zb ..)
   omega
 exact key (-1) (by omega)
def NxAt (wc W:World) (v:Value) (qs:List Rw):Prop:=∃ cso,Own W wc.heap.size 42 3 v cso∧RowsCs W cso qs
def NxAt.chg {wc W W':World} {v:Value} {qs:List Rw} (h:NxAt wc W v qs) (hc:New W W'):NxAt wc W' v qs:=by
 obtain ⟨cso,h1,h2⟩:=h
 exact ⟨cso,h1.chg hc qdr,h2.chg hc⟩
def qan {wc W:World} {v u:Value} {qs ss:List Rw} (h:NxAt wc W v qs) (hw:New wc W) (hu:RowSl W u ss) (hl:qs.length+ss.length≤100000000) (ty:TypeId):
  ∃ v' W',(Builtin.append_ #[31,31] ty #[v,u]).run Tryz.prog W=.ok v' W'∧NxAt wc W' v' (qs++ss)∧New wc W':=by
 obtain ⟨cso,h1,h2⟩:=h
 obtain ⟨css,hs⟩:=hu.cells
 obtain ⟨v',W',hr,ho,hc,-⟩:=mf h1 hw.size hs (by rw [h2.1];omega) ty
 have hn:=fun k hk=>qct h1 k hk
 exact ⟨v',W',hr,⟨_,ho,(h2.stay hc hn).app (hs.cs.stay hc hn)⟩,hw.trans hc (fun k hk e=>by have:=(h1.lt e).1;omega)⟩
def clone_nx (w:World) (v:Value) (l:List Rw) (h:RowSl w v l):Calls Tryz.prog 68 #[v] w fun e w'=>∃ v',e=.returned v'∧NxAt w w' v' l∧New w w':=by
 obtain ⟨A,c,css,rfl,h2,h3,h4,h5,h6,h7⟩:=h
 refine (im w A l.length c css h6.1.symm h5 h7 h6.one (by omega)).mono ?_
 rintro e w' ⟨v',rfl,h8,h9⟩
 exact ⟨v',rfl,⟨css,h8,h6.chg h9⟩,h9⟩
def RndPost (w:World) (rs:List Ru) (s:List Nat) (rd:List Rw→List Rw) (most:Nat) (l0:List Rw) (e:Ending) (w':World):Prop:=∃ v m b,e=.returned (.tuple #[v,.bool b])∧RowSl w' v m∧Rnds rs s rd most 0 (topN s) l0 m b∧New w w'
def In2 (w:World) (rs:List Ru) (s:List Nat) (rd:List Rw→List Rw) (most:Nat) (l0:List Rw) (k:Nat) (u1:Value) (W:World):Prop:=∃ l,RowSl W u1 l∧Fine l∧(∀ m b,Rnds rs s rd most k (topN s - k) l m b→Rnds rs s rd most 0 (topN s) l0 m b)∧New w W
def In3 (w:World) (qs:List Ru) (rd:List Rw→List Rw) (most:Nat) (lk:List Rw) (u1:Value) (W:World) (x:Nat):Prop:=∃ l,x=49 * 1099511627777 - wt l∧RowSl W u1 l∧Fine l∧(∀ m b,Strm qs rd most l m b→Strm qs rd most lk m b)∧New w W
def Fine.sub {l m:List Rw} (h:Fine l) (hs:m.Sublist l):Fine m:=⟨fun r hr=>h.ok r (hs.subset hr),fun r hr=>h.st r (hs.subset hr),h.up.sublist hs⟩
def qca (w:World) (vp:Value) (rs:List Ru) (hv:PgSl w vp rs) (hp:∀ r∈rs,ruP r) (hrel:∀ r∈rs,ruRel r) (hok:∀ r∈rs,r.Ok) (s:List Nat) (hs:strV rs=some s) (vl:Value) (l0:List Rw) (hl:RowSl w vl l0) (hf:Fine l0) (most:Nat) (hm:most≤48)
  (g:Nat) (lb:Array Value) (eg:Enters Tryz.prog g) (rd:List Rw→List Rw) (hrd:∀ W,New w W→∀ v l,RowSl W v l→Calls Tryz.prog g (#[v]++lb) W fun e W'=>∃ v',e=.returned v'∧RowSl W' v' (rd l)∧New W W') (hsub:∀ l,(rd l).Sublist l):
  Calls Tryz.prog 39 #[vp,vl,.int .i64 most,.func (.func g) #[] lb] w (RndPost w rs s rd most l0):=by
 unfold Enters at eg
 have HSt:=qq (fun W (hW:New w W)=>by
  have:=fx W vp rs (hv.chg hW) hp hrel
  rw [hs] at this
  exact this)
 have HRl:=qq (fun W (hW:New w W) k=>rules_is W vp rs (hv.chg hW) hp hrel s hs k)
 have H6:=qq (ba hs).2.1
 have HOk:=qq (fun k r (hr:r∈ofS rs s k)=>hok r (zc.1 hr).1)
 have HL6:=qq (fun k=>show (ofS rs s k).length≤6 by
  obtain ⟨d,Ar,Af,cr,cf,css,csf,fs,-,-,-,h4,-⟩:=hv
  exact qb (jc _ _) h4)
 obtain ⟨d,Ar,Af,cr,cf,css,csf,fs,rfl,-⟩:=hv
 obtain ⟨n,hn⟩:=qdp (rs.length)
 obtain ⟨m,hmf⟩:=qdp (fs.length)
 rw [hn,hmf] at HSt HRl⊢
 clear hn hmf hp hrel
 obtain ⟨w1,hw1⟩:=qdq (w.alloc (.cells #[.slice (some ⟨d,0,none⟩) 6 6,.slice Af m cf,.slice Ar n cr] 29))
 have HN1:=qq (show New w w1 by rw [hw1];exact (Chg.refl _ _).alloc _)
 have HB1:=qq (show Blk w1 w.heap.size 29 #[.slice (some ⟨d,0,none⟩) 6 6,.slice Af m cf,.slice Ar n cr] by rw [hw1];exact Blk.new w _ _)
 have HW1:=qq hw1
 have HL0:=qq hl
 have HF0:=qq hf
 have HRd:=qq hrd
 have HSub:=qq hsub
 obtain ⟨T,hT⟩:=qdp (topN s)
 have hT7:T≤7:=by
  have h1:=mxI_hi (ba hs).2.2.1
  have h2:=qbj s
  omega
 have HT:=qq (show mxI s+1=(T:Int) by rw [←hT];exact qbj s)
 have HTT:=qq hT
 clear hw1 hl hf hrd hsub hT hok hs
 go_enter Tryz.func39,Tryz.ntmps39
 go_upto_region 1 with fail
 rw [←HW1.out]
 clear HW1
 go_wp2_with first
  | ((with_reducible refine vq rfl (.tmp 4) 29 rfl xp ⟨w.heap.size,0,none⟩ [.slice (some ⟨d,0,none⟩) 6 6,.slice Af m cf,.slice Ar n cr] ?_ rfl HB1.out.at_ ?_);exact rfl)
  | (go_at_call 18;refine (HSt.out _ HN1.out).mono ?_;rintro e w2 ⟨bs,rfl,hb2,hbl,hn2⟩;have HN2:=qq (HN1.out.trans hn2 qdr);have HS2:=qq hb2;have HB2:=qq (HB1.out.chg hn2 id);clear hn2 hb2 hbl)
 go_loopw [12,28] (fun u12 u28 wr=>∃ i:Nat,i≤6∧u28=.int .i64 i∧u12=.int .i64 (mxI (s.take i))∧New w2 wr) (fun _ u _=>6 - (intOf u).toNat)
 case atStart=>exact ⟨0,qr _,rfl,rfl,Chg.refl _ _⟩
 case round=>
  obtain ⟨i,hi,rfl,rfl,hN⟩:=hrel
  have HNr:=qq hN
  clear hN
  by_cases hlt:i < 6
  ·obtain ⟨x,hx⟩:∃ x,s[i]? =some x:=⟨_,qz (by rw [H6.out];exact hlt)⟩
   have hcx:=((HS2.out.chg HNr.out id).cell i).trans (rp (by rw [H6.out];exact hlt))
   have hxd:s.getD i 0=x:=by rw [yx,hx];rfl
   rw [hxd] at hcx
   have hnx:mxI (s.take (i+1))=max (mxI (s.take i)) (x:Int):=by
    unfold mxI
    rw [vh hx,List.foldl_append]
    rfl
   have q0:(0:Int)≤(i:Int):=by omega
   have q1:(i:Int) < 6:=by omega
   obtain ⟨y,hy⟩:=qdp (mxI (s.take i))
   rw [hy] at hnx⊢
   have Hnx:=qq (show (if y < (x:Int) then (x:Int) else y)=mxI (s.take (i+1)) by
    rw [hnx]
    split <;> omega)
   clear hx hxd hy hnx
   go_wp2_with fail
   go_roundw
   case rel=>exact ⟨i+1,by omega,by go_num,by rw [Hnx.out],HNr.out⟩
   case measure=>simp [intOf];omega
  ·have hTi:mxI (s.take i)=(T:Int) - 1:=by
    rw [qc (by rw [H6.out];omega)]
    have:=HT.out
    omega
   rw [hTi]
   have HNw:=qq (HN2.out.trans HNr.out qdr)
   have HB3:=qq (HB2.out.chg HNr.out id)
   clear hTi HB2 HB1
   go_wp2_with fail
   clear hlt
   go_loopw [1,38] (fun u1 u38 wr=>∃ k:Nat,k≤T∧u38=.int .i64 k∧In2 w rs s rd most l0 k u1 wr∧Blk wr w.heap.size 29 #[.slice (some ⟨d,0,none⟩) 6 6,.slice Af m cf,.slice Ar n cr]) (fun _ u _=>T - (intOf u).toNat)
   case atStart=>exact ⟨0,qr _,rfl,⟨l0,HL0.out.chg HNw.out,HF0.out,fun m b h=>h,HNw.out⟩,HB3.out⟩
   case round=>
    obtain ⟨k,hk,rfl,⟨l,hl,hf,hb,hN⟩,hB⟩:=hrel
    have HB4:=qq hB
    have HNk:=qq hN
    have HBk:=qq hb
    by_cases hlt:k < T
    ·have HL:=qq hl
     have HF:=qq hf
     have q0:(0:Int)≤(k:Int):=by omega
     have q1:(k:Int) < (T:Int):=by omega
     clear hl hf hb hN hB
     obtain ⟨qs,hqs⟩:=qdp (ofS rs s k)
     have hr:=HRl.out wr HNk.out k
     have Ho:=qq (HOk.out k)
     have Hl6:=qq (HL6.out k)
     rw [hqs] at hr Ho Hl6
     have HR:=qq hr
     have Hqs:=qq hqs
     clear hr hqs
     go_wp2_with first
      | ((with_reducible refine vq rfl (.tmp 4) 29 rfl xp ⟨w.heap.size,0,none⟩ [.slice (some ⟨d,0,none⟩) 6 6,.slice Af m cf,.slice Ar n cr] ?_ rfl HB4.out.at_ ?_);exact rfl)
      | (go_at_call 56;refine HR.out.mono ?_;rintro e w4 ⟨A,c,css,rfl,hru,hn4⟩;have HN4:=qq (HNk.out.trans hn4 qdr);have HRu:=qq hru;have HL4:=qq (HL.out.chg hn4);have HB5:=qq (HB4.out.chg hn4 id);clear hn4 hru)
     obtain ⟨nq,hnq⟩:=qdp (qs.length)
     rw [hnq] at Hl6⊢
     have Hnq:=qq hnq
     have hnq6:=Hl6.out
     clear hnq
     go_loopw [1] (fun u1 wr=>∃ x,In3 w4 qs rd most l u1 wr x) (fun u1 wr=>least fun x=>In3 w4 qs rd most l u1 wr x)
     case atStart=>exact ⟨_,l,rfl,HL4.out,HF.out,fun m b h=>h,Chg.refl _ _⟩
     case round=>
      have hst:=ol hrel
      obtain ⟨x,hx⟩:∃ x,(least fun x=>In3 w4 qs rd most l u1 wr x)=x:=⟨_,rfl⟩
      rw [hx] at hst
      obtain ⟨li,hxe,hli,hfi,hbi,hNi⟩:=hst
      have Hx:=qq (hx.trans hxe)
      have HLi:=qq hli
      have HFi:=qq hfi
      have HBi:=qq hbi
      have HNi:=qq hNi
      obtain ⟨Ai,ci,rfl,hlb⟩:=hli.form
      obtain ⟨nl,hnl⟩:=qdp (li.length)
      rw [hnl] at HLi hlb Hx⊢
      have Hnl:=qq hnl
      clear hrel hx hxe hli hfi hbi hNi hnl
      by_cases hov:most < nl
      ·have q2:(most:Int) < (nl:Int):=by omega
       have HSm:=qq (show Strm qs rd most l li false from HBi.out _ _ (.over (by rw [Hnl.out];exact hov)))
       go_wp2_with fail
       go_ret2
       refine ⟨.slice Ai nl ci,li,false,rfl,HLi.out,HBk.out _ _ ?_,HN4.out.trans HNi.out qdr⟩
       obtain ⟨j,hj⟩:∃ j,topN s - k=j+1:=⟨topN s - k - 1,by rw [HTT.out];omega⟩
       rw [hj]
       exact .over (by rw [Hqs.out];exact HSm.out)
      ·have q2:¬ ((most:Int) < (nl:Int)):=by omega
       have hc:=HRd.out wr ((HN4.out.trans HNi.out qdr)) _ li HLi.out
       have HC:=qq hc
       clear hc
       have hsl:(rd li).length≤48:=by
        have:=(HSub.out li).length_le
        have:=Hnl.out
        omega
       have HSl:=qq hsl
       have HFs:=qq (HFi.out.sub (HSub.out li))
       clear hsl
       go_upto_region 15 with fail
       refine HC.out.mono ?_
       rintro e w5 ⟨v5,rfl,hs5,hn5⟩
       have HV5:=qq hs5
       have HN5:=qq (HNi.out.trans hn5 qdr)
       have HL5:=qq (HLi.out.chg hn5)
       clear hs5 hn5
       go_wp2_with (go_at_call 68;refine (clone_nx _ _ li HL5.out).mono ?_;rintro e w6 ⟨v6,rfl,hx6,hn6⟩;have HX6:=qq hx6;have HN6:=qq hn6;clear hx6 hn6)
       go_loopw [18,56] (fun u18 u56 wr=>∃ j:Nat,j≤nq∧u56=.int .i64 j∧NxAt w5 wr u18 (li++(qs.take j).flatMap fun r=>ruleV r (rd li))∧New w5 wr) (fun _ u _=>nq - (intOf u).toNat)
       case atStart=>exact ⟨0,qr _,rfl,by simpa using HX6.out,HN6.out⟩
       case round=>
        obtain ⟨j,hj,rfl,hxj,hNj⟩:=hrel
        have HXj:=qq hxj
        have HNj:=qq hNj
        have HN7:=qq ((HN5.out.trans hNj qdr))
        clear hxj hNj
        by_cases hltj:j < nq
        ·obtain ⟨r,hr⟩:∃ r,qs[j]? =some r:=⟨_,qz (by rw [Hnq.out];exact hltj)⟩
         obtain ⟨cs,hcs⟩:∃ cs,css[j]? =some cs:=⟨_,qz (by rw [HRu.out.len,Hnq.out];exact hltj)⟩
         obtain ⟨ad,rfl,hrw⟩:=HRu.out.src (by rw [HRu.out.len,Hnq.out];omega)
         have hru:=HRu.out.at_ j cs r hcs hr
         obtain ⟨lab,Aa,ca,Ab,cb,he⟩:=hru.form
         obtain rfl:cs=[.string lab,.string r.h,.slice Aa r.ts.length ca,.string r.agg,.int .i64 r.at',.slice Ab r.Ls.length cb]:=by
          injection he with he
          simpa using congrArg Array.toList he
         have Hat:=qq ((hrw j _ hcs).2.chg HN7.out id)
         have HRj:=qq (fun W (hW:New w4 W)=>hru.chg hW)
         have HOr:=qq (Ho.out r (qf hr))
         have Htk:=qq (show (qs.take (j+1)).flatMap (fun r=>ruleV r (rd li))=(qs.take j).flatMap (fun r=>ruleV r (rd li))++ruleV r (rd li) by
          rw [vh hr,zp,List.flatMap_singleton])
         have Hlen:=qq (show (li++(qs.take j).flatMap fun r=>ruleV r (rd li)).length+(ruleV r (rd li)).length≤100000000 by
          have h1:=(ky (rs:=qs.take j) (fun x hx=>Ho.out x (je hx)) HFs.out.ok HSl.out).2.2
          have h2:=(fk HOr.out HFs.out.ok HSl.out).2.2
          have h3:(qs.take j).length≤6:=by rw [ql];omega
          have:=Hnl.out
          rw [qg]
          have h4:=yy 5308416 h3
          omega)
         have p0:(0:Int)≤(j:Int):=by omega
         have p1:(j:Int) < (nq:Int):=by omega
         obtain ⟨n1,hn1⟩:=qdp (r.ts.length)
         obtain ⟨nb,hnb⟩:=qdp (r.Ls.length)
         rw [hn1,hnb] at Hat HRj
         clear hrw hcs hr he hru hn1 hnb
         go_wp2_with first
          | ((with_reducible refine vq rfl (.tmp 58) 47 rfl xt (ad.add (j * 6)) [.string lab,.string r.h,.slice Aa n1 ca,.string r.agg,.int .i64 r.at',.slice Ab nb cb] ?_ rfl Hat.out ?_);exact rfl)
          | (with_reducible refine gz rfl 47 rfl ae ?_;intro w8 cur hc3 hb3 hsz hs3;have HC3:=qq hc3;have HB6:=qq hb3;have Hsz:=qq hsz;clear hc3 hb3 hsz hs3)
          | ((with_reducible refine xq rfl (.tmp 20) (.tmp 59) 47 rfl rfl xt wr.heap.size 47 _ [.string lab,.string r.h,.slice Aa n1 ca,.string r.agg,.int .i64 r.at',.slice Ab nb cb] ?_ ?_ HB6.out rfl Hsz.out (gi rfl rfl rfl) ?_);exact rfl;exact rfl;intro w9 hc4 hb4 hs4;have HC4:=qq (HC3.out.put hc4 (qh _));have HB7:=qq hb4;clear hc4 hb4 hs4)
          | ((with_reducible refine vq rfl (.tmp 20) 47 rfl xt ⟨wr.heap.size,0,none⟩ [.string lab,.string r.h,.slice Aa n1 ca,.string r.agg,.int .i64 r.at',.slice Ab nb cb] ?_ rfl HB7.out.at_ ?_);exact rfl)
          | (go_at_call 20;refine (gruleV w9 _ v5 r (HRj.out _ (HN7.out.trans HC4.out qdr)) HOr.out (rd li) (HV5.out.chg (HNj.out.trans HC4.out qdr)) HFs.out.ok (qb (kx _) HSl.out)).mono ?_;rintro e w10 ⟨v10,rfl,hs10,hn10⟩;have hn9:=(HNj.out.trans HC4.out qdr).trans hn10 qdr;obtain ⟨v11,w11,hr11,hx11,hn11⟩:=qan ((HXj.out.chg HC4.out).chg hn10) hn9 hs10 Hlen.out 31;have HR11:=qq hr11;have HX11:=qq hx11;have HN11:=qq hn11;clear hs10 hn10 hn9 hr11 hx11 hn11)
          | ((with_reducible refine xu rfl (.tmp 60) (.tmp 63) 31 31 rfl ?_ ?_ HR11.out ?_);exact rfl;exact rfl)
         go_roundw
         case rel=>exact ⟨j+1,by omega,by go_num,by rw [Htk.out, ←qo];exact HX11.out,HN11.out⟩
         case measure=>simp [intOf];omega
        ·have HXe:=qq (show RowSl wr u18 (li++qs.flatMap fun r=>ruleV r (rd li)) by
          have h:=HXj.out
          rw [qc (l:=qs) (by rw [Hnq.out];omega)] at h
          obtain ⟨cso,h1,h2⟩:=h
          refine h1.rowSl h2 ?_
          have h3:=(ky (rs:=qs) (fun x hx=>Ho.out x hx) HFs.out.ok HSl.out).2.2
          have:=Hnl.out
          have:=Hnq.out
          have h4:=yy 5308416 (show qs.length≤6 by omega)
          rw [qg]
          omega)
         have Hcan:=qq (HFi.out.ok.app (ky (rs:=qs) (fun x hx=>Ho.out x hx) HFs.out.ok HSl.out).1)
         have HFn:=qq (pr (rs:=qs) (fun x hx=>Ho.out x hx) HFi.out HFs.out HSl.out)
         have HUn:=qq (nw (rs:=qs) (fun x hx=>Ho.out x hx) HFi.out HFs.out HSl.out)
         obtain ⟨q,hq⟩:=qdp (decide (li=nextF qs (rd li) li))
         have HSame:=qq (fun W u v (h1:RowSl W u li) (h2:RowSl W v (nextF qs (rd li) li))=>by
          have:=same_is W u v li _ h1 h2 HFi.out.ok HFn.out.ok
          rw [hq] at this
          exact this)
         have Hq:=qq hq
         clear hq
         cases q with
         |true=>
          have HSd:=qq (show Strm qs rd most l li true from HBi.out _ _ (.done (by have:=Hnl.out;omega) (of_decide_eq_true Hq.out)))
          go_wp2_with first
           | (go_at_call 22;refine (db _ _ _ HXe.out).mono ?_;rintro e w10 ⟨v10,out,rfl,hm10,hs10,hn10⟩;obtain rfl:=ge Hcan.out.can hm10;have HV10:=qq hs10;have HN10:=qq (HN7.out.trans hn10 qdr);have HL10:=qq ((HL5.out.chg HNj.out).chg hn10);clear hm10 hs10 hn10)
           | (go_at_call 69;refine (HSame.out _ _ _ HL10.out HV10.out).mono ?_;rintro e w11 ⟨rfl,hn11⟩;have HN11:=qq (HN10.out.trans hn11 qdr);have HL11:=qq (HL10.out.chg hn11);have HV11:=qq (HV10.out.chg hn11);have HB11:=qq (HB5.out.chg (HN10.out.trans hn11 qdr) id);clear hn11)
          go_roundw
          case rel=>
           refine ⟨k+1,by omega,by go_num,⟨li,HL11.out,HFi.out,fun m b h=>HBk.out _ _ ?_,HN4.out.trans HN11.out qdr⟩,HB11.out⟩
           rw [show topN s - k=(topN s - (k+1))+1 by rw [HTT.out];omega]
           exact .next (by rw [Hqs.out];exact HSd.out) h
          case measure=>simp [intOf];omega
         |false=>
          have Hne:=qq (of_decide_eq_false Hq.out)
          have Hst:=qq (fun m b h=>show Strm qs rd most l m b from HBi.out _ _ (.go (by have:=Hnl.out;omega) Hne.out h))
          have Hwt:=qq (And.intro (wt_lt HFi.out.up HFn.out.up HFn.out.st HUn.out Hne.out) (wt_le HFi.out.st))
          go_wp2_with first
           | (go_at_call 22;refine (db _ _ _ HXe.out).mono ?_;rintro e w10 ⟨v10,out,rfl,hm10,hs10,hn10⟩;obtain rfl:=ge Hcan.out.can hm10;have HV10:=qq hs10;have HN10:=qq (HN7.out.trans hn10 qdr);have HL10:=qq ((HL5.out.chg HNj.out).chg hn10);clear hm10 hs10 hn10)
           | (go_at_call 69;refine (HSame.out _ _ _ HL10.out HV10.out).mono ?_;rintro e w11 ⟨rfl,hn11⟩;have HN11:=qq (HN10.out.trans hn11 qdr);have HL11:=qq (HL10.out.chg hn11);have HV11:=qq (HV10.out.chg hn11);have HB11:=qq (HB5.out.chg (HN10.out.trans hn11 qdr) id);clear hn11)
          have hnew:In3 w4 qs rd most l v10 w11 (49 * 1099511627777 - wt (nextF qs (rd li) li)):=⟨_,rfl,HV11.out,HFn.out,Hst.out,HN11.out⟩
          refine ⟨⟨_,hnew⟩,Nat.lt_of_le_of_lt (least_le hnew) ?_⟩
          rw [Hx.out]
          have h1:=Hwt.out.1
          have h2:=Hwt.out.2
          have:=Hnl.out
          have h3:=yy 1099511627777 (show li.length≤48 by omega)
          omega
    ·obtain ⟨A,c,rfl,-⟩:=hl.form
     obtain ⟨nl,hnl⟩:=qdp (l.length)
     have hbnd:=hl
     have Hlast:=qq (show Rnds rs s rd most 0 (topN s) l0 l (decide (l.length≤most)) from HBk.out _ _ (by
      rw [show topN s - k=0 by rw [HTT.out];omega]
      exact .last))
     obtain ⟨q,hq⟩:=qdp (decide (l.length≤most))
     rw [hq] at Hlast
     rw [hnl] at hl hq⊢
     have HL:=qq hl
     have Hq:=qq hq
     clear hl hf hb hN hB hbnd hq hnl
     go_wp2_with fail
     go_ret2
     exact ⟨.slice A nl c,l,q,by rw [←Hq.out];rfl,HL.out,Hlast.out,HNk.out⟩
end Go.Proofs.YtbpgfnbhihklnaaGreat
