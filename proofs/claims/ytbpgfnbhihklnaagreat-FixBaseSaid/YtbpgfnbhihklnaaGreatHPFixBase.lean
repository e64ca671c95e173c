/- FixBase: the walk and the statement. -/
import Derived.Test.YtbpgfnbhihklnaaGreatH12
set_option maxHeartbeats 8000000
set_option maxRecDepth 100000
set_option linter.all false
namespace Go.Proofs.YtbpgfnbhihklnaaGreat
open Go.RowKit Go.Shelf
theorem nx_nil2 (w:World):NxAt w w (.slice none 0 0) []:=⟨[],Own.nil w w.heap.size 42 3,⟨rfl,fun i cs h=>by simp at h⟩⟩
theorem NxAt.sl2 {wc W:World} {v:Value} {qs:List Rw} (h:NxAt wc W v qs) (hl:qs.length≤100000000):RowSl W v qs:=by
 obtain ⟨cso,h1,h2⟩:=h
 exact h1.rowSl h2 hl
end Go.Proofs.YtbpgfnbhihklnaaGreat
namespace Go.Proofs.YtbpgfnbhihklnaaGreat
open Go.RowKit Go.Shelf
theorem elTup:ElT Tryz.prog 26 60 2 40 (Value.cells (.agg #[.string ⟨#[]⟩,.slice none 0 0])).toList:=
 ElT.mk' (by kernel_rfl) (by kernel_rfl) rfl (by omega) (by intro u hu;simp only [Value.cells,qp,qm,or_false] at hu;rcases hu with rfl|rfl <;> rfl)
structure FcG (f:Rw):Prop where
 raw:∀ u∈f.args,rawV u
 fst:∃ v,f.args[0]? =some v∧v.k=3
 lo:1≤f.args.length
 hi:f.args.length≤3
 rel:∃ p:Nat,relCs[p]? =some (f.name,(f.args.length:Int))
structure FcL (w:World) (css:List (List Value)) (fs:List Rw):Prop where
 len:css.length=fs.length
 at_:∀ (j:Nat) (cs:List Value) (f:Rw),css[j]? =some cs→fs[j]? =some f→FcAt w cs f
theorem FcAt.stay {w w':World} {cs:List Value} {f:Rw} {T:Nat→Prop} (h:FcAt w cs f) (hc:Chg w w' T) (ht:∀ k,T k→¬ VlB w k):FcAt w' cs f:=by
 obtain ⟨v,h1,h2⟩:=h
 exact ⟨v,h1,h2.stay hc ht⟩
theorem FcL.stay {w w':World} {css:List (List Value)} {fs:List Rw} {T:Nat→Prop} (h:FcL w css fs) (hc:Chg w w' T) (ht:∀ k,T k→¬ VlB w k):FcL w' css fs:=⟨h.len,fun j cs f h1 h2=>(h.at_ j cs f h1 h2).stay hc ht⟩
theorem FcL.snoc {w:World} {css:List (List Value)} {ts:List Rw} {cs:List Value} {t:Rw} (h:FcL w css ts) (ht:FcAt w cs t):FcL w (css++[cs]) (ts++[t]):=by
 refine ⟨by simp [h.len],fun j c u h1 h2=>?_⟩
 rcases Nat.lt_trichotomy j css.length with hj|hj|hj
 ·rw [qe hj] at h1
  rw [qe (by rw [←h.len];exact hj)] at h2
  exact h.at_ j c u h1 h2
 ·subst hj
  rw [qi (qh _)] at h1
  rw [h.len,qi (qh _)] at h2
  simp at h1 h2
  rw [←h1, ←h2]
  exact ht
 ·rw [jm (by simp;omega)] at h1
  cases h1
theorem own_no_vlT {W:World} {B k:Nat} {v:Value} {e:TypeId} {css:List (List Value)} (h:Own W B e k v css) (he:e≠62) (g:Nat) (hg:v.ownBlock=some g):¬ VlB W g:=fun ⟨cs,fr,hv⟩=>by
 rcases h.1.2 with ⟨h1,_⟩| ⟨g',cap,cur,h1,_,h2,_⟩
 ·rw [h1] at hg;cases hg
 ·rw [h1] at hg
  cases hg
  have:=h2.symm.trans hv
  injection this with this
  injection this with _ this _
  exact he this
theorem blk_no_vl {W:World} {g:Nat} {t:TypeId} {cur:Array Value} (h:Blk W g t cur) (ht:t≠62):¬ VlB W g:=fun ⟨cs,fr,hv⟩=>by
 have:=(show W.heap[g]? =_ from h).symm.trans hv
 injection this with this
 injection this with _ this _
 exact ht this
theorem fact_at (w:World) (m:Nat) (X:Nat→Int) (hbd:∀ q,-9223372036854775808≤X q∧X q≤9223372036854775807):
  Calls Tryz.prog 37 #[.agg #[.int .i64 (X (m * 6)),.int .i64 (X (m * 6+1)),.int .i64 (X (m * 6+2)),.int .i64 (X (m * 6+3)),.int .i64 (X (m * 6+4)),.int .i64 (X (m * 6+5))]] w fun e w'=>∃ f Av cv,e=.returned (.agg #[.string f.name,.slice Av f.args.length cv])∧FcG f∧FcAt w' [.string f.name,.slice Av f.args.length cv] f∧New w w':=by
 refine (fact06 w (X (m * 6)) (X (m * 6+1)) (X (m * 6+2)) (X (m * 6+3)) (X (m * 6+4)) (X (m * 6+5)) (hbd _) (hbd _) (hbd _) (hbd _) (hbd _)).mono ?_
 rintro e w' ⟨nm,v,us,rfl,h1,h3,⟨hr,hf⟩,hrel,ho,hn⟩
 obtain ⟨Av,cv,rfl,-,-⟩:=ho.form
 rw [qd] at ho⊢
 exact ⟨⟨nm,us,0⟩,Av,cv,rfl,⟨hr,hf.resolve_left (fun e=>by rw [e] at h1;exact absurd h1 (by decide)),h1,h3,hrel⟩,⟨_,rfl,OwnRow.row ⟨rfl,by show us.length≤1000;omega,ho⟩⟩,hn⟩
def PrgG (w:World) (nf:Nat) (e:Ending) (w':World):Prop:=∃ (d B:Nat) (Ar Af:Option Addr) (cr cf:Nat) (cso csf:List (List Value)) (rs:List Ru) (fs:List Rw),e=.returned (.agg #[.slice (some ⟨d,0,none⟩) 6 6,.slice Af fs.length cf,.slice Ar rs.length cr])∧(∀ r∈rs,r.Raw∧r.aggOk)∧rs.length≤6∧fs.length=nf∧(∀ f∈fs,FcG f)∧Blk w' d 106 relCells∧d < B∧w.heap.size≤B∧Own w' B 47 6 (.slice Ar rs.length cr) cso∧Stays w' (fun k=>k < B∨(Value.slice Ar rs.length cr).ownBlock=some k) (fun W=>RuL W cso rs)∧FcsAt w' Af csf fs∧New w w'
theorem program06G (w:World) (v:Value) (n:Nat) (hx:IntsAts w v n) (vf:Value) (nf:Nat) (Xf:Nat→Int) (hxf:IntsAt w vf 6 nf Xf) (hn8:nf≤12):Calls Tryz.prog 15 #[v,vf] w (PrgG w nf):=by
 obtain ⟨⟨Ai,ci,rfl,hinc,hicm,hiat⟩,hibd⟩:=hxf
 have Hiat:=qq hiat
 have Hibd:=qq hibd
 clear hiat hibd
 obtain ⟨A,c,rfl,hnc,hcm,hat⟩:=hx
 have hm:=hcm
 unfold maxLen at hm
 have HAt:=qq hat
 obtain ⟨w1,hw1⟩:=qdq (w.alloc (.cells #[.slice none 0 0,.slice none 0 0,.slice none 0 0] 29))
 have HN1:=qq (show New w w1 by rw [hw1];exact (Chg.refl _ _).alloc _)
 have HB1:=qq (show Blk w1 w.heap.size 29 #[.slice none 0 0,.slice none 0 0,.slice none 0 0] by rw [hw1];exact Blk.new w _ _)
 have Hs1:=qq (show w1.heap.size=w.heap.size+1 by rw [hw1];simp)
 have HW1:=qq hw1
 have eg1:∀ (args:Array Value) (w:World),(callFunc 36 args).run Tryz.prog w=.ok (.enter 36 args) w:=enters_of Tryz.func36 (by kernel_rfl) rfl
 have Heg:=qq eg1
 have sz27:(Tryz.prog.info? 27).map (·.size)=some 1:=by kernel_rfl
 clear hat hw1 eg1
 go_enter Tryz.func15,Tryz.ntmps15
 go_upto_region 1 with fail
 rw [←HW1.out]
 clear HW1
 go_upto_region 2 with (go_at_call 35;refine (pf _).mono ?_;rintro e w2 ⟨rfl,hd2,hn2⟩;have HN2:=qq hn2;have HD2:=qq hd2;clear hd2 hn2)
 obtain ⟨d,hd⟩:=qdp (w1.heap.size)
 rw [hd] at HD2⊢
 obtain ⟨w3,hw3⟩:=qdq (w2.alloc (.cells #[.slice (some ⟨d,0,none⟩) 6 6,.slice none 0 0,.slice none 0 0] 29))
 have hn3:New w2 w3:=by rw [hw3];exact (Chg.refl _ _).alloc _
 have HN3:=qq ((HN1.out.trans HN2.out qdr).trans hn3 qdr)
 have HB3:=qq ((HB1.out.chg HN2.out id).chg hn3 id)
 have HD3:=qq (HD2.out.chg hn3 id)
 have HP3:=qq (show Blk w3 w2.heap.size 29 #[.slice (some ⟨d,0,none⟩) 6 6,.slice none 0 0,.slice none 0 0] by rw [hw3];exact Blk.new w2 _ _)
 have Hb3:=qq (show w3.heap.size=w2.heap.size+1 by rw [hw3];simp)
 have Hdb:=qq (show w.heap.size < d∧d < w2.heap.size from ⟨by rw [←hd,Hs1.out];omega,HD2.out.lt⟩)
 rw [←hw3]
 obtain ⟨b5,hb5⟩:=qdp (w2.heap.size)
 rw [hb5] at HP3 Hb3 Hdb⊢
 clear hd hw3 hn3 hb5 HB1 HN1 HD2 HN2 Hs1
 go_wp2_with fail
 go_loopw [6] (fun u6 wr=>∃ (i:Nat) (rs:List Ru) (cso:List (List Value)) (Ab:Option Addr) (cb:Nat),i≤n∧i≤6∧u6=.int .i64 i∧rs.length=i∧(∀ r∈rs,r.Raw∧r.aggOk)∧Own wr w3.heap.size 47 6 (.slice Ab i cb) cso∧Stays wr (fun k=>k < w3.heap.size∨(Value.slice Ab i cb).ownBlock=some k) (fun W=>RuL W cso rs)∧Blk wr b5 29 #[.slice (some ⟨d,0,none⟩) 6 6,.slice none 0 0,.slice Ab i cb]∧Chg w3 wr (fun k=>k=b5)) (fun u _=>n - (intOf u).toNat)
 case atStart=>exact ⟨0,[],[],none,0,qr _,qr _,rfl,rfl,fun r h=>(by cases h),Own.nil _ _ _ _,fun W _=>⟨rfl,fun j cs r h=>(by cases h)⟩,HP3.out,Chg.refl _ _⟩
 case round=>
  obtain ⟨i,rs,cso,Ab,cb,hin,hi6,rfl,hrl,hraw,hov,hst,hbp,hc⟩:=hrel
  have HRl:=qq hrl
  have HRaw:=qq hraw
  have HOv:=qq hov
  have HSt:=qq hst
  have HBp:=qq hbp
  have HC:=qq hc
  have HNw:=qq (show New w wr from HN3.out.trans hc (fun k hk e=>by have:=Hdb.out;omega))
  have Hcl:=qq (show cso.length=i by rw [hst.now.len,hrl])
  clear hrl hraw hov hst hbp hc
  by_cases hlt:i < n∧i < 6
  ·obtain ⟨hlt,hlt6⟩:=hlt
   obtain ⟨a,rfl,hq⟩:=HAt.out (by omega)
   obtain ⟨u,m,X,hcu,hxu⟩:=hq i hlt
   have Hcu:=qq (HNw.out.cellS hcu id)
   have Hxu:=qq (hxu.chg HNw.out)
   have q0:(0:Int)≤(i:Int):=by omega
   have q1:(i:Int) < (n:Int):=by omega
   have q2:(i:Int) < 6:=by omega
   have q3:decide ((i:Int) < (n:Int))=true:=by simpa using q1
   clear hq hcu hxu
   go_upto_region 5 with fail
   refine vj (by kernel_rfl) ?_
   have hnd:New wr wr.drew:=(Chg.refl _ _).drew
   have DP:=qq (HBp.out.chg hnd id)
   have DU:=qq (hnd.cellS Hcu.out id)
   have DX:=qq (Hxu.out.chg hnd)
   have DC:=qq (HC.out.trans hnd (fun _ _ h=>h.elim))
   have DO:=qq (HOv.out.chg hnd qdr)
   have DS:=qq (HSt.out.chg hnd (fun _ _ x=>x.elim) (fun _ _ e=>e))
   clear hnd
   generalize wr.drew=wd at DP DU DX DC DO DS⊢
   refine AtN.segN2 0 9 [20,21,22,23,24,25,26,27,28] (fun
    |0=>fun vv _=>vv=.pointer (some ⟨b5,2,none⟩)
    |1=>fun vv _=>vv=.slice Ab i cb
    |2=>fun vv _=>vv=.slice (some a) n c
    |3=>fun vv _=>vv=.int .i64 i
    |4=>fun vv _=>vv=.pointer (some (a.add i))
    |5=>fun vv _=>vv=u
    |6=>fun vv _=>vv=.int .i64 i
    |7=>fun v W=>∃ lab r A' c' Ab' cb',v=.agg #[.string lab,.string r.h,.slice A' r.ts.length c',.string r.agg,.int .i64 r.at',.slice Ab' r.Ls.length cb']∧r.Raw∧r.aggOk∧Stays W (fun k=>k < wd.heap.size) (fun W=>RuSl W (.agg #[.string lab,.string r.h,.slice A' r.ts.length c',.string r.agg,.int .i64 r.at',.slice Ab' r.Ls.length cb']) r)
    |8=>fun v W=>∃ rb lab r A' c' Ab' cb',v=.slice (some ⟨rb,0,none⟩) 1 1∧Blk W rb 47 #[.string lab,.string r.h,.slice A' r.ts.length c',.string r.agg,.int .i64 r.at',.slice Ab' r.Ls.length cb']∧r.Raw∧r.aggOk∧Stays W (fun k=>k < wd.heap.size) (fun W=>RuSl W (.agg #[.string lab,.string r.h,.slice A' r.ts.length c',.string r.agg,.int .i64 r.at',.slice Ab' r.Ls.length cb']) r)
    |_=>fun _ _=>True) (by kernel_rfl) (by kernel_rfl) (by kernel_rfl) (by kernel_rfl) (fun j v w1 w2 hc h=>?_) (fun i hn hi o ho A0 W hN hin hk=>?_) (fun l W5 hN hl hΦ=>?_)
   ·match j with
    |7=>exact (by obtain ⟨lab,r,A',c',Ab',cb',e,h1,h2,h3⟩:=h;exact ⟨lab,r,A',c',Ab',cb',e,h1,h2,h3.chg hc (fun _ _ x=>x.elim) (fun k _ e=>e)⟩)
    |8=>exact (by obtain ⟨rb,lab,r,A',c',Ab',cb',e,hb,h1,h2,h3⟩:=h;exact ⟨rb,lab,r,A',c',Ab',cb',e,hb.chg hc id,h1,h2,h3.chg hc (fun _ _ x=>x.elim) (fun k _ e=>e)⟩)
    |0|1|2|3|4|5|6=>exact h
    |_+9=>trivial
   ·rcases (show i=0∨i=1∨i=2∨i=3∨i=4∨i=5∨i=6∨i=7∨i=8 by omega) with rfl|rfl|rfl|rfl|rfl|rfl|rfl|rfl|rfl
    ·cases ho
     have h5:A0.tmps[5]?.getD undef=.pointer (some ⟨b5,0,none⟩):=hk 5
     exact .same (by simp [go_sem,h5]) rfl
    ·cases ho
     have h20:A0.tmps[20]?.getD undef=.pointer (some ⟨b5,2,none⟩):=hin 0 20
     have hcx:W.cell? ⟨b5,2,none⟩=some (.slice Ab i cb):=(DP.out.chg hN id).cell 2
     exact .same (v:=.slice Ab i cb) (by simp [go_sem,h20,hcx]) rfl
    ·cases ho
     exact .same (uo 0 _ rfl (hk 0)) rfl
    ·cases ho
     exact .same (uo 6 _ rfl (hk 6)) rfl
    ·cases ho
     have h22:A0.tmps[22]?.getD undef=.slice (some a) n c:=hin 2 22
     have h23:A0.tmps[23]?.getD undef=.int .i64 i:=hin 3 23
     exact .same (by simp [go_sem,h22,h23,q0,q1,hlt]) rfl
    ·cases ho
     have h24:A0.tmps[24]?.getD undef=.pointer (some (a.add i)):=hin 4 24
     have hcx:W.cell? (a.add i)=some u:=hN.cellS DU.out id
     exact .same (v:=u) (by simp [go_sem,h24,hcx]) rfl
    ·cases ho
     exact .same (uo 6 _ rfl (hk 6)) rfl
    ·cases ho
     have h25:A0.tmps[25]?.getD undef=u:=hin 5 25
     have h26:A0.tmps[26]?.getD undef=.int .i64 i:=hin 6 26
     refine .call (f:=36) (args:=#[u,.int .i64 i]) (W':=W) ?_ ((rule_st W u m X (DX.out.chg hN) i (by unfold B64;omega)).mono ?_)
     ·simp [go_sem,h25,h26,Heg.out]
     ·rintro e w' ⟨lab,r,A',c',Ab',cb',rfl,h1,h2,h3,hc⟩
      have hsz:=hN.size
      exact ⟨_,rfl,hc,lab,r,A',c',Ab',cb',rfl,h1,h2,h3.chg (Chg.refl _ (fun _=>False)) (fun _ _ x=>x.elim) (fun k _ e=>zd e hsz)⟩
    ·cases ho
     have h27:=hin 7 27
     obtain ⟨lab,r,A',c',Ab',cb',e,h1,h2,h3⟩:=h27
     have hn1:New W (W.alloc (.cells #[.string lab,.string r.h,.slice A' r.ts.length c',.string r.agg,.int .i64 r.at',.slice Ab' r.Ls.length cb'] 47)):=(Chg.refl _ _).alloc _
     exact .value (W':=W.alloc (.cells #[.string lab,.string r.h,.slice A' r.ts.length c',.string r.agg,.int .i64 r.at',.slice Ab' r.Ls.length cb'] 47)) (v:=.slice (some ⟨W.heap.size,0,none⟩) 1 1) (by simp [go_sem,e]) ⟨hn1,_,lab,r,A',c',Ab',cb',rfl,Blk.new _ _ _,h1,h2,h3.chg hn1 (fun _ _ x=>x.elim) (fun k _ e=>e)⟩
   obtain ⟨x20,x21,x22,x23,x24,x25,x26,x27,x28,rfl⟩:∃ x20 x21 x22 x23 x24 x25 x26 x27 x28,l=[x20,x21,x22,x23,x24,x25,x26,x27,x28]:=by
    match l,hl with
    | [x20,x21,x22,x23,x24,x25,x26,x27,x28],_=>exact ⟨_,_,_,_,_,_,_,_,_,rfl⟩
   obtain rfl:x20=.pointer (some ⟨b5,2,none⟩):=hΦ 0 (by decide)
   obtain rfl:x21=.slice Ab i cb:=hΦ 1 (by decide)
   obtain rfl:x22=.slice (some a) n c:=hΦ 2 (by decide)
   obtain rfl:x23=.int .i64 i:=hΦ 3 (by decide)
   obtain rfl:x24=.pointer (some (a.add i)):=hΦ 4 (by decide)
   obtain rfl:x25=u:=hΦ 5 (by decide)
   obtain rfl:x26=.int .i64 i:=hΦ 6 (by decide)
   have hx27:=hΦ 7 (by decide)
   have hx28:=hΦ 8 (by decide)
   simp only [putsL,zq,zj,zz,List.zip,List.zipWith,Act.put,qk,qu,qy]
   clear hΦ hl
   obtain ⟨rb,lab,r,A',c',Ab',cb',rfl,hb,h1,h2,h3⟩:=hx28
   have hsz:w3.heap.size≤W5.heap.size:=qb DC.out.size hN.size
   have hown:=DO.out.chg hN qdr
   obtain ⟨v1,W6,hrun,ho1,hc1,hblk⟩:=elRu.appendS hown hsz (some ⟨rb,0,none⟩) 1 1 [[.string lab,.string r.h,.slice A' r.ts.length c',.string r.agg,.int .i64 r.at',.slice Ab' r.Ls.length cb']] rfl (fun cs hc=>by simp only [qp,qm,or_false] at hc;subst hc;rfl) (fun cs hc=>by rw [qn.1 hc];exact gi rfl rfl rfl) (kj hb.at_ rfl) (by rw [Hcl.out];omega) (by rw [Hcl.out];unfold maxLen;omega) 27
   obtain ⟨An,cn,hvn,hcn1,hcn2⟩:=ho1.form
   rw [qg,Hcl.out,yp] at hvn
   subst hvn
   have hne5:∀ k,(Value.slice Ab i cb).ownBlock=some k→b5 < k:=fun k e=>by
    have:=(DO.out.lt e).1
    have:=Hb3.out
    omega
   have HP6:=qq ((DP.out.chg hN id).chg hc1 (fun e=>by have:=hne5 _ e;omega))
   have HC6:=qq ((DC.out.trans hN (fun _ _ h=>h.elim)).trans hc1 (fun k hk e=>by have:=(DO.out.lt e).1;omega))
   have HG:=qq (RuL.grow (B:=w3.heap.size) (by have:=DC.out.size;omega) (fun k e=>(DO.out.lt e).2) DS.out hN h3 hc1 hblk)
   have HO6:=qq ho1
   have HRn:=qq hrun
   have HRw2:=qq (show ∀ x∈rs++[r],x.Raw∧x.aggOk from fun x hx=>(zk.1 hx).elim (HRaw.out x) (fun h=>by rw [qn.1 h];exact ⟨h1,h2⟩))
   have HRl2:=qq (show (rs++[r]).length=i+1 by rw [qg,HRl.out,yp])
   clear hown hrun ho1 hc1 hblk hcn1 hcn2 hb h1 h2 h3 hN hsz hne5 hx27
   refine AtN.list 9 12 (by kernel_rfl) ?_
   change wpList _ _ _ [_,_,_] _ _
   go_wp2_with first
    | ((with_reducible refine xu rfl (.tmp 21) (.tmp 28) 27 27 rfl ?_ ?_ HRn.out ?_);exact rfl;exact rfl)
    | ((with_reducible refine kf rfl (.tmp 30) (.tmp 29) 27 rfl rfl sz27 b5 2 29 _ (.slice An (i+1) cn) #[.slice (some ⟨d,0,none⟩) 6 6,.slice none 0 0,.slice An (i+1) cn] ?_ ?_ HP6.out ?_ ?_ ?_ ?_);exact rfl;exact rfl;exact (by decide:2 < 3);exact rfl;exact rfl;intro w9 hc9 hb9 hs9;have HC9:=qq hc9;have HB9:=qq hb9;clear hc9 hb9 hs9)
   change AtN _ _ _ 12 _ _
   refine AtN.done rfl ?_
   go_wp2_with fail
   go_roundw
   case rel=>
    have hlb:=Hb3.out
    have h9:∀ k,(Value.slice An (i+1) cn).ownBlock=some k→¬ k=b5:=fun k e he=>by have:=(HO6.out.lt e).1;omega
    exact ⟨i+1,rs++[r],_,An,cn,by omega,by omega,by go_num,HRl2.out,HRw2.out,HO6.out.chg HC9.out h9,HG.out.chg HC9.out (fun k _ e=>.inl (by omega)) (fun k _ e=>e),HB9.out,HC6.out.trans HC9.out (fun k _ e=>e)⟩
   case measure=>simp [intOf];omega
  ·obtain ⟨wo,hwo⟩:=qdq (wr)
   subst hwo
   have HB4:=qq (HB3.out.chg HC.out (fun e=>by have:=Hdb.out;omega))
   have HD4:=qq (HD3.out.chg HC.out (fun e=>by have:=Hdb.out;omega))
   have sz26:(Tryz.prog.info? 26).map (·.size)=some 1:=by kernel_rfl
   have HeF:=qq (show ∀ (args:Array Value) (w:World),(callFunc 37 args).run Tryz.prog w=.ok (.enter 37 args) w from enters_of Tryz.func37 (by kernel_rfl) rfl)
   have q0:(i:Int) < (n:Int)∧decide ((i:Int) < (n:Int))=true∧¬ ((i:Int) < 6)∨¬ ((i:Int) < (n:Int))∧decide ((i:Int) < (n:Int))=false:=by
    by_cases hn:i < n
    ·exact .inl ⟨by omega,by simpa using hn,by omega⟩
    ·exact .inr ⟨by omega,by simpa using hn⟩
   have hlt9:=hlt
   clear hlt
   rcases q0 with ⟨q0,q3,q4⟩| ⟨q0,q3⟩
   all_goals
    go_wp2_with fail
    clear q0 q3
    go_loopw [7] (fun u7 wr=>∃ (j:Nat) (fs:List Rw) (csf:List (List Value)) (Af:Option Addr) (cf:Nat),j≤nf∧u7=.int .i64 j∧fs.length=j∧(∀ f∈fs,FcG f)∧Own wr wo.heap.size 60 2 (.slice Af j cf) csf∧FcL wr csf fs∧Blk wr b5 29 #[.slice (some ⟨d,0,none⟩) 6 6,.slice Af j cf,.slice Ab i cb]∧Chg wo wr (fun k=>k=b5)) (fun u _=>nf - (intOf u).toNat)
    case atStart=>exact ⟨0,[],[],none,0,qr _,rfl,rfl,fun f h=>(by cases h),Own.nil _ _ _ _,⟨rfl,fun j cs f h=>(by cases h)⟩,HBp.out,Chg.refl _ _⟩
    case round=>
     obtain ⟨j,fs,csf,Af,cf,hjn,rfl,hfl,hfg,hof,hfc,hbq,hcq⟩:=hrel
     have HFl:=qq hfl
     have HFg:=qq hfg
     have HOf:=qq hof
     have HFc:=qq hfc
     have HBq:=qq hbq
     have HCq:=qq hcq
     have HNq:=qq (show New w wr from HNw.out.trans hcq (fun k hk e=>by have:=Hdb.out;omega))
     have Hcf:=qq (show csf.length=j by rw [hfc.len,hfl])
     have Hb5:=qq (show b5 < wo.heap.size by have:=HC.out.size;have:=Hb3.out;omega)
     clear hfl hfg hof hfc hbq hcq
     by_cases hltj:j < nf
     ·obtain ⟨a,rfl,hcell⟩:=Hiat.out (by omega)
      have hc:∀ k,k < 6→wr.cell? (a.add (j * 6+k))=some (.int .i64 (Xf (j * 6+k))):=fun k hk=>HNq.out.cellS (hcell (j * 6+k) (by omega)) id
      have hrow:At wr (a.add (j * 6)) [.int .i64 (Xf (j * 6)),.int .i64 (Xf (j * 6+1)),.int .i64 (Xf (j * 6+2)),.int .i64 (Xf (j * 6+3)),.int .i64 (Xf (j * 6+4)),.int .i64 (Xf (j * 6+5))]:=fun k u hk=>by
       rw [add_add]
       match k,hk with
       |0,hk=>cases hk;exact hc 0 (by omega)
       |1,hk=>cases hk;exact hc 1 (by omega)
       |2,hk=>cases hk;exact hc 2 (by omega)
       |3,hk=>cases hk;exact hc 3 (by omega)
       |4,hk=>cases hk;exact hc 4 (by omega)
       |5,hk=>cases hk;exact hc 5 (by omega)
       |k+6,hk=>simp at hk
      have Hrow:=qq hrow
      have Hf:=qq (fun W=>fact_at W j Xf Hibd.out)
      clear hcell hc hrow
      have q0:(0:Int)≤(j:Int):=by omega
      have q1:(j:Int) < (nf:Int):=by omega
      have q2:(j:Int) < 12:=by omega
      have q3:decide ((j:Int) < (nf:Int))=true:=by simpa using q1
      go_upto_region 9 with fail
      refine vj (by kernel_rfl) ?_
      have hnd:New wr wr.drew:=(Chg.refl _ _).drew
      have DP:=qq (HBq.out.chg hnd id)
      have DX:=qq (Hrow.out.chg hnd id)
      have DC:=qq (HCq.out.trans hnd (fun _ _ h=>h.elim))
      have DO:=qq (HOf.out.chg hnd qdr)
      have DL:=qq (HFc.out.stay hnd (fun k e=>e.elim))
      clear hnd
      generalize wr.drew=wd at DP DX DC DO DL⊢
      refine AtN.segN2 0 8 [41,42,43,44,45,46,47,48] (fun
       |0=>fun vv _=>vv=.pointer (some ⟨b5,1,none⟩)
       |1=>fun vv _=>vv=.slice Af j cf
       |2=>fun vv _=>vv=.slice (some a) nf ci
       |3=>fun vv _=>vv=.int .i64 j
       |4=>fun vv _=>vv=.pointer (some (a.add (j * 6)))
       |5=>fun vv _=>vv=.agg #[.int .i64 (Xf (j * 6)),.int .i64 (Xf (j * 6+1)),.int .i64 (Xf (j * 6+2)),.int .i64 (Xf (j * 6+3)),.int .i64 (Xf (j * 6+4)),.int .i64 (Xf (j * 6+5))]
       |6=>fun v W=>∃ (f:Rw) (Av:Option Addr) (cv:Nat),v=.agg #[.string f.name,.slice Av f.args.length cv]∧FcG f∧FcAt W [.string f.name,.slice Av f.args.length cv] f
       |7=>fun v W=>∃ (fb:Nat) (f:Rw) (Av:Option Addr) (cv:Nat),v=.slice (some ⟨fb,0,none⟩) 1 1∧Blk W fb 60 #[.string f.name,.slice Av f.args.length cv]∧FcG f∧FcAt W [.string f.name,.slice Av f.args.length cv] f
       |_=>fun _ _=>True) (by kernel_rfl) (by kernel_rfl) (by kernel_rfl) (by kernel_rfl) (fun j v w1 w2 hc h=>?_) (fun i hn hi o ho A0 W hN hin hk=>?_) (fun l W5 hN hl hΦ=>?_)
      ·match j with
       |6=>exact (by obtain ⟨f,Av,cv,e,h1,h2⟩:=h;exact ⟨f,Av,cv,e,h1,h2.stay hc (fun k e=>e.elim)⟩)
       |7=>exact (by obtain ⟨fb,f,Av,cv,e,hb,h1,h2⟩:=h;exact ⟨fb,f,Av,cv,e,hb.chg hc id,h1,h2.stay hc (fun k e=>e.elim)⟩)
       |0|1|2|3|4|5=>exact h
       |_+8=>trivial
      ·rcases (show i=0∨i=1∨i=2∨i=3∨i=4∨i=5∨i=6∨i=7 by omega) with rfl|rfl|rfl|rfl|rfl|rfl|rfl|rfl
       ·cases ho
        have h5:A0.tmps[5]?.getD undef=.pointer (some ⟨b5,0,none⟩):=hk 5
        exact .same (by simp [go_sem,h5]) rfl
       ·cases ho
        have h41:A0.tmps[41]?.getD undef=.pointer (some ⟨b5,1,none⟩):=hin 0 41
        have hcx:W.cell? ⟨b5,1,none⟩=some (.slice Af j cf):=(DP.out.chg hN id).cell 1
        exact .same (v:=.slice Af j cf) (by simp [go_sem,h41,hcx]) rfl
       ·cases ho
        exact .same (uo 1 _ rfl (hk 1)) rfl
       ·cases ho
        exact .same (uo 7 _ rfl (hk 7)) rfl
       ·cases ho
        have h43:A0.tmps[43]?.getD undef=.slice (some a) nf ci:=hin 2 43
        have h44:A0.tmps[44]?.getD undef=.int .i64 j:=hin 3 44
        exact .same (by simp [go_sem,h43,h44,q0,q1,hltj]) rfl
       ·cases ho
        have h45:A0.tmps[45]?.getD undef=.pointer (some (a.add (j * 6))):=hin 4 45
        exact .same (vu 45 _ rfl wa (a.add (j * 6)) [.int .i64 (Xf (j * 6)),.int .i64 (Xf (j * 6+1)),.int .i64 (Xf (j * 6+2)),.int .i64 (Xf (j * 6+3)),.int .i64 (Xf (j * 6+4)),.int .i64 (Xf (j * 6+5))] h45 rfl (DX.out.chg hN id)) rfl
       ·cases ho
        have h46:A0.tmps[46]?.getD undef=.agg #[.int .i64 (Xf (j * 6)),.int .i64 (Xf (j * 6+1)),.int .i64 (Xf (j * 6+2)),.int .i64 (Xf (j * 6+3)),.int .i64 (Xf (j * 6+4)),.int .i64 (Xf (j * 6+5))]:=hin 5 46
        refine .call (f:=37) (args:=#[.agg #[.int .i64 (Xf (j * 6)),.int .i64 (Xf (j * 6+1)),.int .i64 (Xf (j * 6+2)),.int .i64 (Xf (j * 6+3)),.int .i64 (Xf (j * 6+4)),.int .i64 (Xf (j * 6+5))]]) (W':=W) ?_ ((Hf.out W).mono ?_)
        ·simp [go_sem,h46,HeF.out]
        ·rintro e w' ⟨f,Av,cv,rfl,h1,h2,hc⟩
         exact ⟨_,rfl,hc,f,Av,cv,rfl,h1,h2⟩
       ·cases ho
        have h47:=hin 6 47
        obtain ⟨f,Av,cv,e,h1,h2⟩:=h47
        have hn1:New W (W.alloc (.cells #[.string f.name,.slice Av f.args.length cv] 60)):=(Chg.refl _ _).alloc _
        exact .value (W':=W.alloc (.cells #[.string f.name,.slice Av f.args.length cv] 60)) (v:=.slice (some ⟨W.heap.size,0,none⟩) 1 1) (by simp [go_sem,e]) ⟨hn1,_,f,Av,cv,rfl,Blk.new _ _ _,h1,h2.stay hn1 (fun k e=>e.elim)⟩
      obtain ⟨x41,x42,x43,x44,x45,x46,x47,x48,rfl⟩:∃ x41 x42 x43 x44 x45 x46 x47 x48,l=[x41,x42,x43,x44,x45,x46,x47,x48]:=by
       match l,hl with
       | [x41,x42,x43,x44,x45,x46,x47,x48],_=>exact ⟨_,_,_,_,_,_,_,_,rfl⟩
      obtain rfl:x41=.pointer (some ⟨b5,1,none⟩):=hΦ 0 (by decide)
      obtain rfl:x42=.slice Af j cf:=hΦ 1 (by decide)
      obtain rfl:x43=.slice (some a) nf ci:=hΦ 2 (by decide)
      obtain rfl:x44=.int .i64 j:=hΦ 3 (by decide)
      obtain rfl:x45=.pointer (some (a.add (j * 6))):=hΦ 4 (by decide)
      obtain rfl:x46=.agg #[.int .i64 (Xf (j * 6)),.int .i64 (Xf (j * 6+1)),.int .i64 (Xf (j * 6+2)),.int .i64 (Xf (j * 6+3)),.int .i64 (Xf (j * 6+4)),.int .i64 (Xf (j * 6+5))]:=hΦ 5 (by decide)
      have hx47:=hΦ 6 (by decide)
      have hx48:=hΦ 7 (by decide)
      simp only [putsL,zq,zj,zz,List.zip,List.zipWith,Act.put,qk,qu,qy]
      clear hΦ hl
      obtain ⟨fb,f,Av,cv,rfl,hb,hg,hfa⟩:=hx48
      have hsz:wo.heap.size≤W5.heap.size:=qb DC.out.size hN.size
      have hown:=DO.out.chg hN qdr
      obtain ⟨v1,W6,hrun,ho1,hc1,hblk⟩:=elTup.appendS hown hsz (some ⟨fb,0,none⟩) 1 1 [[.string f.name,.slice Av f.args.length cv]] rfl (fun cs hc=>by simp only [qp,qm,or_false] at hc;subst hc;rfl) (fun cs hc=>by rw [qn.1 hc];exact fun u hu=>by (simp only [qp,qm,or_false] at hu;rcases hu with rfl|rfl <;> rfl)) (kj hb.at_ rfl) (by rw [Hcf.out];omega) (by rw [Hcf.out];unfold maxLen;omega) 26
      obtain ⟨An,cn,hvn,hcn1,hcn2⟩:=ho1.form
      rw [qg,Hcf.out,yp] at hvn
      subst hvn
      have hne5:∀ k,(Value.slice Af j cf).ownBlock=some k→b5 < k:=fun k e=>by
       have:=(DO.out.lt e).1
       have:=Hb5.out
       omega
      have HP6:=qq ((DP.out.chg hN id).chg hc1 (fun e=>by have:=hne5 _ e;omega))
      have HC6:=qq ((DC.out.trans hN (fun _ _ h=>h.elim)).trans hc1 (fun k hk e=>by have:=(DO.out.lt e).1;omega))
      have HL6:=qq (((DL.out.stay hN (fun k e=>e.elim)).snoc hfa).stay hc1 (fun k e=>own_no_vlT hown (by decide) k e))
      have HO6:=qq ho1
      have HRn:=qq hrun
      have HG2:=qq (show ∀ x∈fs++[f],FcG x from fun x hx=>(zk.1 hx).elim (HFg.out x) (fun h=>by rw [qn.1 h];exact hg))
      have HFl2:=qq (show (fs++[f]).length=j+1 by rw [qg,HFl.out,yp])
      clear hown hrun ho1 hc1 hblk hcn1 hcn2 hb hg hfa hN hsz hne5 hx47
      refine AtN.list 8 11 (by kernel_rfl) ?_
      change wpList _ _ _ [_,_,_] _ _
      go_wp2_with first
       | ((with_reducible refine xu rfl (.tmp 42) (.tmp 48) 26 26 rfl ?_ ?_ HRn.out ?_);exact rfl;exact rfl)
       | ((with_reducible refine kf rfl (.tmp 50) (.tmp 49) 26 rfl rfl sz26 b5 1 29 _ (.slice An (j+1) cn) #[.slice (some ⟨d,0,none⟩) 6 6,.slice An (j+1) cn,.slice Ab i cb] ?_ ?_ HP6.out ?_ ?_ ?_ ?_);exact rfl;exact rfl;exact (by decide:1 < 3);exact rfl;exact rfl;intro w9 hc9 hb9 hs9;have HC9:=qq hc9;have HB9:=qq hb9;clear hc9 hb9 hs9)
      change AtN _ _ _ 11 _ _
      refine AtN.done rfl ?_
      go_wp2_with fail
      go_roundw
      case rel=>
       have hlb:=Hb5.out
       have h9:∀ k,(Value.slice An (j+1) cn).ownBlock=some k→¬ k=b5:=fun k e he=>by have:=(HO6.out.lt e).1;omega
       exact ⟨j+1,fs++[f],_,An,cn,by omega,by go_num,HFl2.out,HG2.out,HO6.out.chg HC9.out h9,HL6.out.stay HC9.out (fun k e=>by have e:k=b5:=e;rw [e];exact blk_no_vl HP6.out (by decide)),HB9.out,HC6.out.trans HC9.out (fun k _ e=>e)⟩
      case measure=>simp [intOf];omega
     ·have q0:¬ ((j:Int) < (nf:Int)):=by omega
      have q3:decide ((j:Int) < (nf:Int))=false:=by simpa using q0
      have HB5:=qq (HB4.out.chg HCq.out (fun e=>by have:=Hdb.out;omega))
      go_wp2_with first
       | ((with_reducible refine vq rfl (.tmp 5) 29 rfl xp ⟨b5,0,none⟩ [.slice (some ⟨d,0,none⟩) 6 6,.slice Af j cf,.slice Ab i cb] ?_ rfl HBq.out.at_ ?_);exact rfl)
       | ((with_reducible refine xq rfl (.tmp 4) (.tmp 51) 29 rfl rfl xp w.heap.size 29 _ [.slice (some ⟨d,0,none⟩) 6 6,.slice Af j cf,.slice Ab i cb] ?_ ?_ HB5.out rfl rfl (gt rfl rfl rfl) ?_);exact rfl;exact rfl;intro w6 hc6 hb6 hs6;have HC6:=qq hc6;have HB6:=qq hb6;clear hc6 hb6 hs6)
      refine bodyPost_ret (v:=.agg #[.slice (some ⟨d,0,none⟩) 6 6,.slice Af j cf,.slice Ab i cb]) (xh xp rfl _ _ ⟨w.heap.size,0,none⟩ [.slice (some ⟨d,0,none⟩) 6 6,.slice Af j cf,.slice Ab i cb] rfl HB6.out.at_ rfl) rfl ?_
      have hdb:=Hdb.out
      have hlb:=Hb3.out
      have hcz:=HC.out.size
      have hvl:∀ k,k=w.heap.size→¬ VlB wr k:=fun k e=>by rw [e];exact blk_no_vl HB5.out (by decide)
      have hof:=HOf.out.chg HC6.out (fun g hg e=>by have:=(HOf.out.lt hg).1;omega)
      have hfc:=HFc.out.stay HC6.out hvl
      have hall:Chg wo w6 (fun k=>k=b5∨k=w.heap.size):=(HCq.out.mono (fun k _ e=>.inl e)).trans HC6.out (fun k _ e=>.inr e)
      exact ⟨d,w3.heap.size,Ab,Af,cb,cf,cso,csf,rs,fs,by rw [HFl.out,HRl.out],HRaw.out,by rw [HRl.out];exact hi6,by rw [HFl.out];omega,HFg.out,HD4.out.chg hall (fun e=>by omega),by omega,by omega,by rw [HRl.out];exact HOv.out.chg hall (fun g hg e=>by have:=(HOv.out.lt hg).1;omega),by rw [HRl.out];exact HSt.out.chg hall (fun k _ e=>.inl (by omega)) (fun k _ e=>e),⟨hfc.len,(hof.rows rfl).2,hfc.at_⟩,HNq.out.trans HC6.out (fun k hk e=>by omega)⟩
end Go.Proofs.YtbpgfnbhihklnaaGreat
namespace Go.Proofs.YtbpgfnbhihklnaaGreat
open Go.RowKit Go.Shelf
def stm (s:Int) (f:Rw):Rw:=⟨f.name,f.args,s⟩
theorem FcAt.stm {W:World} {cs:List Value} {f:Rw} (h:FcAt W cs f) (s:Int):∃ A c,cs=[.string f.name,.slice A f.args.length c]∧RowAt W [.string f.name,.slice A f.args.length c,.int .i64 s] (Go.Proofs.YtbpgfnbhihklnaaGreat.stm s f):=by
 obtain ⟨v,rfl,A,c,h1,h2⟩:=h
 injection h1 with _ h1
 injection h1 with h1 _
 subst h1
 exact ⟨A,c,rfl,A,c,rfl,h2⟩
theorem row_sl1 {W:World} {g:Nat} {cs:List Value} {r:Rw} (hb:Blk W g 42 cs.toArray) (hr:RowAt W cs r):RowSl W (.slice (some ⟨g,0,none⟩) 1 1) [r]:=by
 refine ⟨some ⟨g,0,none⟩,1,[cs],rfl,by simp,qh _,by unfold maxLen;omega,kj hb.at_ hr.cs.1,⟨rfl,fun i c hi=>?_⟩,fun a ha=>by cases ha;exact hb.lt⟩
 match i,hi with
 |0,hi=>cases hi;exact ⟨r,rfl,hr⟩
 |i+1,hi=>simp at hi
theorem base_is (w:World) (d:Nat) (Ar Af:Option Addr) (n cr cf:Nat) (csf:List (List Value)) (fs:List Rw) (hfc:FcsAt w Af csf fs) (hl:fs.length≤12) (hraw:∀ f∈fs,FcG f) (s:Int):
  Calls Tryz.prog 26 #[.agg #[.slice (some ⟨d,0,none⟩) 6 6,.slice Af fs.length cf,.slice Ar n cr],.int .i64 s] w fun e w'=>∃ v',e=.returned v'∧RowSl w' v' (mergeF (fs.map (stm s)))∧New w w':=by
 have HFc:=qq hfc
 have HCan:=qq (show OkR (fs.map (stm s)) from fun r hr=>by
  obtain ⟨f,hf,rfl⟩:=zi.1 hr
  exact fun u hu=>((hraw f hf).raw u hu).ok)
 obtain ⟨m,hm⟩:=qdp (fs.length)
 rw [hm] at hl⊢
 have Hm:=qq hm
 obtain ⟨w1,hw1⟩:=qdq (w.alloc (.cells #[.slice (some ⟨d,0,none⟩) 6 6,.slice Af m cf,.slice Ar n cr] 29))
 have HN1:=qq (show New w w1 by rw [hw1];exact (Chg.refl _ _).alloc _)
 have hb1:Blk w1 w.heap.size 29 #[.slice (some ⟨d,0,none⟩) 6 6,.slice Af m cf,.slice Ar n cr]:=by rw [hw1];exact Blk.new w _ _
 have HFc:=qq (HFc.out.chg HN1.out)
 have c1:=hb1.cell 1
 simp only [qx,qj,qw] at c1
 have HW1:=qq hw1
 clear hfc hm hraw hb1 hw1
 go_enter Tryz.func26,Tryz.ntmps26
 go_upto_region 1 with fail
 rw [←HW1.out]
 clear HW1
 go_wp2_with fail
 clear c1
 go_loopw [5,11] (fun u5 u11 wr=>∃ k:Nat,k≤m∧u11=.int .i64 k∧NxAt w1 wr u5 ((fs.take k).map (stm s))∧New w1 wr) (fun _ u _=>m - (intOf u).toNat)
 case atStart=>exact ⟨0,qr _,rfl,nx_nil2 w1,Chg.refl _ _⟩
 case round=>
  obtain ⟨k,hk,rfl,hx,hN⟩:=hrel
  have HX:=qq hx
  have HNr:=qq hN
  clear hx hN
  by_cases hlt:k < m
  ·obtain ⟨f,hf⟩:∃ f,fs[k]? =some f:=⟨_,qz (by rw [Hm.out];exact hlt)⟩
   obtain ⟨cs,hcs⟩:∃ cs,csf[k]? =some cs:=⟨_,qz (by rw [HFc.out.len,Hm.out];exact hlt)⟩
   obtain ⟨ad,rfl,hrw⟩:=HFc.out.src (by rw [HFc.out.len,Hm.out];omega)
   obtain ⟨A',c',rfl,hra⟩:=(HFc.out.at_ k cs f hcs hf).stm s
   have HRa:=qq hra
   have Hat:=qq ((hrw k _ hcs).2.chg HNr.out id)
   have Htk:=qq (show (fs.take (k+1)).map (stm s)=(fs.take k).map (stm s)++[stm s f] by rw [vh hf,jw];rfl)
   have Hln:=qq (show ((fs.take k).map (stm s)).length+[stm s f].length≤100000000 by rw [qd,ql];simp;omega)
   obtain ⟨nf,hnf⟩:=qdp (f.args.length)
   obtain ⟨nm,hnm⟩:=qdp (f.name)
   rw [hnf,hnm] at Hat HRa
   have q0:(0:Int)≤(k:Int):=by omega
   have q1:(k:Int) < (m:Int):=by omega
   clear hrw hcs hf hra hnf hnm
   go_wp2_with first
    | ((with_reducible refine vq rfl (.tmp 13) 60 rfl cc (ad.add (k * 2)) [.string nm,.slice A' nf c'] ?_ rfl Hat.out ?_);exact rfl)
    | (with_reducible refine gz rfl 60 rfl zTuple ?_;intro w3 cur hc3 hb3 hsz hs3;have HC3:=qq hc3;have HB4:=qq hb3;have Hsz:=qq hsz;clear hc3 hb3 hsz hs3)
    | ((with_reducible refine xq rfl (.tmp 7) (.tmp 14) 60 rfl rfl cc wr.heap.size 60 _ [.string nm,.slice A' nf c'] ?_ ?_ HB4.out rfl Hsz.out (rk rfl rfl) ?_);exact rfl;exact rfl;intro w4 hc4 hb4 hs4;have HC4:=qq (HC3.out.put hc4 (qh _));have e0:=hb4.cell 0;have e1:=hb4.cell 1;simp only [qx,qj,qw] at e0 e1;have hn5:New w4 (w4.alloc (.cells #[.string nm,.slice A' nf c',.int .i64 s] 42)):=(Chg.refl _ _).alloc _;have hn6:=(HNr.out.trans HC4.out qdr).trans hn5 qdr;obtain ⟨v7,w7,hr7,hx7,hn7⟩:=qan ((HX.out.chg HC4.out).chg hn5) hn6 (row_sl1 (Blk.new w4 _ _) (HRa.out.chg hn6)) Hln.out 31;have HR7:=qq hr7;have HX7:=qq hx7;have HN7:=qq hn7;clear hc4 hb4 hs4 hn5 hn6 hr7 hx7 hn7)
    | ((with_reducible refine xu rfl (.tmp 15) (.tmp 22) 31 31 rfl ?_ ?_ HR7.out ?_);exact rfl;exact rfl)
   go_roundw
   case rel=>exact ⟨k+1,by omega,by go_num,by rw [Htk.out];exact HX7.out,HN7.out⟩
   case measure=>simp [intOf];omega
  ·have HXe:=qq (show RowSl wr u5 (fs.map (stm s)) by
    have h:=HX.out
    rw [qc (l:=fs) (by rw [Hm.out];omega)] at h
    exact h.sl2 (by rw [qd,Hm.out];omega))
   have HN:=qq (HN1.out.trans HNr.out qdr)
   go_wp2_with (go_at_call 22;refine (db _ _ _ HXe.out).mono ?_;rintro e w10 ⟨v10,out,rfl,hm10,hs10,hn10⟩;obtain rfl:=ge HCan.out.can hm10;have HV10:=qq hs10;have HN10:=qq (HN.out.trans hn10 qdr);clear hm10 hs10 hn10)
   go_ret
   exact ⟨v10,rfl,HV10.out,HN10.out⟩
end Go.Proofs.YtbpgfnbhihklnaaGreat
namespace Go.Proofs.YtbpgfnbhihklnaaGreat
open Go.RowKit Go.Shelf
theorem FcG.ok {f:Rw} (h:FcG f):fcP f:=by
 obtain ⟨p,hp⟩:=h.rel
 exact ⟨rh ⟨p,hp⟩,fun v hv=>(h.raw v hv).okP,h.fst⟩
theorem base_find {fs:List Rw} {s:Int} {f:Rw} (hf:f∈fs) (z:Int):findS (mergeF (fs.map (stm s))) (stm z f)=s:=by
 have hm:=xm (fs.map (stm s))
 obtain ⟨t,ht,h0,-⟩:=hm.all (stm s f) (zi.2 ⟨f,hf,rfl⟩)
 obtain ⟨g,hg,rfl⟩:=zi.1 (hm.sub t ht)
 rw [oo hm.up ht (show cmpR (stm s g) (stm z f)=0 from h0)]
 rfl
theorem base_st {fs:List Rw} {s:Int}:∀ r∈mergeF (fs.map (stm s)),r.stamp=s:=fun r hr=>by
 obtain ⟨g,hg,rfl⟩:=zi.1 ((xm _).sub r hr)
 rfl
theorem field_at' {W:World} {a:Addr} {cs:List Value} (h:At W a cs) (n:Nat) {u:Value} (hu:cs[n+1]? =some u):W.cell? ⟨a.block,a.off+(n+1),none⟩=some u:=(congrArg W.cell? (gk a n)).symm.trans (h (n+1) u hu)
theorem up_get {l:List Rw} (h:l.Pairwise (fun x y=>cmpR x y < 0)) {i:Nat} {r s:Rw} (hr:l[i]? =some r) (hs:l[i+1]? =some s):cmpR r s < 0:=by
 obtain ⟨h1,rfl⟩:=qv.1 hr
 obtain ⟨h2,rfl⟩:=qv.1 hs
 exact List.pairwise_iff_getElem.1 h i (i+1) h1 h2 (by omega)
theorem ints_take {W:World} {A:Option Addr} {n c k q:Nat} {X:Nat→Int} (h:IntsAt W (.slice A n c) k n X) (hq:q≤n):IntsAt W (.slice A q c) k q X:=by
 obtain ⟨⟨A',c',h1,h2,h3,h4⟩,h5⟩:=h
 injection h1 with h1 _ h6
 subst h1 h6
 exact ⟨⟨A,c,rfl,by omega,h3,fun hp=>by
  obtain ⟨a,ha,hc⟩:=h4 (by omega)
  exact ⟨a,ha,fun i hi=>hc i (zd hi (yy k hq))⟩⟩,h5⟩
theorem walk_FixBase (w:World) (v0:Value) (n0:Nat) (hx0:IntsAts w v0 n0) (v1:Value) (n1:Nat) (X1:Nat→Int) (hx1:IntsAt w v1 6 n1 X1) (c2:Int) (h2:-9223372036854775808≤c2) (h3:c2≤9223372036854775807):Calls Tryz.prog 9 #[v0,v1,.int .i64 c2] w fun e w'=>e=.returned (.bool true)∧New w w':=by
 have HX0:=qq hx0
 obtain ⟨A1,c1,rfl,hc1⟩:∃ A c,v1=.slice A n1 c∧n1≤c:=by
  obtain ⟨⟨A,c,h1,h2,-⟩,-⟩:=hx1
  exact ⟨A,c,h1,h2⟩
 have HX1:=qq hx1
 have hm1:n1≤9223372036854775807:=by
  obtain ⟨⟨A,c,h1,h2,h3,-⟩,-⟩:=hx1
  unfold maxLen at h3
  omega
 clear hx0 hx1
 go_enter Tryz.func9,Tryz.ntmps9
 go_upto_region 2 with (go_at_call 14;refine (ni _).mono ?_;rintro e w1 ⟨rfl,hN1⟩;have HN1:=qq hN1;clear hN1)
 have hc8:(n1:Int)≤(c1:Int):=by omega
 obtain ⟨q,hq⟩:=qdq (min n1 8)
 have hq1:q≤n1:=by omega
 have hq8:q≤8:=by omega
 have HPr:=qq (program06G w1 v0 n0 (HX0.out.chg HN1.out) _ q X1 ((ints_take HX1.out hq1).chg HN1.out) (by omega))
 have hp0:=km c2 1000 (by omega)
 have hp1:=kn c2 1000 (by omega)
 obtain ⟨st,hst⟩:=qdp (pk c2 1000)
 have hpk:=fun W=>pick12 W c2 1000 h2 h3 (by omega) (by omega)
 rw [hst] at hpk hp0 hp1
 have HPk:=qq hpk
 clear hpk hst
 have hcase:(¬ ((8:Int) < (n1:Int))∧q=n1)∨((8:Int) < (n1:Int)∧q=8):=by omega
 clear hq
 rcases hcase with ⟨l8,rfl⟩| ⟨l8,rfl⟩
 all_goals
  go_upto_region 3 with (go_at_call 15;refine HPr.out.mono ?_;rintro e w2 ⟨d,B,Ar,Af,cr,cf,cso,csf,rs,fs,rfl,hraw,hl6,hfn,hfg,hbd,hdB,hwB,hor,hsr,hfc,hn2⟩;have HN2:=qq (HN1.out.trans hn2 qdr);have HRaw:=qq hraw;have HFg:=qq hfg;have HFc:=qq hfc;have HPg:=qq (show PgSl w2 _ rs from ⟨d,Ar,Af,cr,cf,cso,csf,fs,rfl,hbd,⟨hsr.now.len,(hor.rows rfl).2,hsr.now.at_⟩,hl6,hfc,by omega,fun f hf=>(hfg f hf).ok⟩);obtain ⟨nr,hnr⟩:=qdp (rs.length);obtain ⟨m,hm⟩:=qdp (fs.length);have Hm:=qq hm;have hm8:m≤8:=(by omega);have HBs:=qq (fun W (hW:New w2 W)=>base_is W d Ar Af nr cr cf csf fs (hfc.chg hW) (by omega) hfg st);rw [hnr,hm] at HPg⊢;rw [hm] at HBs;clear hraw hl6 hfn hfg hbd hdB hwB hor hsr hfc hn2 hnr hm HPr)
  obtain ⟨w3,hw3⟩:=qdq (w2.alloc (.cells #[.slice (some ⟨d,0,none⟩) 6 6,.slice Af m cf,.slice Ar nr cr] 29))
  have hn3:New w2 w3:=by rw [hw3];exact (Chg.refl _ _).alloc _
  have HN3:=qq hn3
  have HBP:=qq (show Blk w3 w2.heap.size 29 #[.slice (some ⟨d,0,none⟩) 6 6,.slice Af m cf,.slice Ar nr cr] by rw [hw3];exact Blk.new w2 _ _)
  rw [←hw3]
  obtain ⟨b6,hb6⟩:=qdp (w2.heap.size)
  rw [hb6] at HBP⊢
  clear hw3 hn3 hb6
  go_upto_region 5 with first
   | ((with_reducible refine vq rfl (.tmp 8) 29 rfl xp ⟨b6,0,none⟩ [.slice (some ⟨d,0,none⟩) 6 6,.slice Af m cf,.slice Ar nr cr] ?_ rfl HBP.out.at_ ?_);exact rfl)
   | (go_at_call 24;refine (HPk.out _).mono ?_;rintro e w' ⟨rfl,rfl⟩)
   | (go_at_call 26;refine (HBs.out _ HN3.out).mono ?_;rintro e w4 ⟨vb,rfl,hsb,hn4⟩;have HN4:=qq (HN3.out.trans hn4 qdr);have HSb:=qq hsb;have HBP:=qq (HBP.out.chg hn4 id);clear hsb hn4)
  obtain ⟨b,hb⟩:=qdp (mergeF (fs.map (stm st)))
  have HFb:=qq (fun f (hf:f∈fs) z=>(hb▸base_find hf z:findS b (stm z f)=st))
  have HSt:=qq (show ∀ r∈b,r.stamp=st from hb▸base_st)
  have HUp:=qq (show b.Pairwise (fun x y=>cmpR x y < 0) from hb▸(xm _).up)
  have HOb:=qq (show OkR b∧StR b from ⟨hb▸OkR.merge (fun r hr=>by
   obtain ⟨f,hf,rfl⟩:=zi.1 hr
   exact fun u hu=>((HFg.out f hf).raw u hu).ok),fun r hr=>by
   rw [HSt.out r hr]
   unfold forever
   omega⟩)
  have hbl:b.length≤m:=by
   rw [←hb, ←Hm.out]
   have:=kx (fs.map (stm st))
   rwa [qd] at this
  rw [hb] at HSb
  clear hb
  obtain ⟨Ab,cb,rfl,-⟩:=HSb.out.form
  obtain ⟨nb,hnb⟩:=qdp (b.length)
  rw [hnb] at HSb hbl⊢
  have Hnb:=qq hnb
  clear hnb
  have HeF:=qq (show ∀ (args:Array Value) (w:World),(callFunc 19 args).run Tryz.prog w=.ok (.enter 19 args) w from enters_of Tryz.func19 (by kernel_rfl) rfl)
  have HeC:=qq (show ∀ (args:Array Value) (w:World),(callFunc 25 args).run Tryz.prog w=.ok (.enter 25 args) w from enters_of Tryz.func25 (by kernel_rfl) rfl)
  go_wp2_with fail
  go_loopw [11] (fun u11 wr=>∃ i:Nat,i≤m∧u11=.int .i64 i∧New w4 wr) (fun u _=>m - (intOf u).toNat)
  case atStart=>exact ⟨0,qr _,rfl,Chg.refl _ _⟩
  case round=>
   obtain ⟨i,hi,rfl,hN⟩:=hrel
   have HNr:=qq hN
   have e1:=(HBP.out.chg hN id).cell 1
   simp only [qx,qj,qw] at e1
   clear hN
   by_cases hlt:i < m
   ·obtain ⟨f,hf⟩:∃ f,fs[i]? =some f:=⟨_,qz (by rw [Hm.out];exact hlt)⟩
    obtain ⟨cs,hcs⟩:∃ cs,csf[i]? =some cs:=⟨_,qz (by rw [HFc.out.len,Hm.out];exact hlt)⟩
    obtain ⟨ad,rfl,hrw⟩:=HFc.out.src (by rw [HFc.out.len,Hm.out];omega)
    obtain ⟨A',c',rfl,hra⟩:=(HFc.out.at_ i cs f hcs hf).stm 0
    have hww:New w2 wr:=HN4.out.trans HNr.out qdr
    have hat:=(hrw i _ hcs).2.chg hww id
    have hq:=HFb.out f (qf hf) 0
    have hfd:=fun W (hW:New wr W)=>rx W _ b ((HSb.out.chg HNr.out).chg hW) _ (stm 0 f) ((hra.chg hww).chg hW)
    obtain ⟨nf,hnf⟩:=qdp (f.args.length)
    obtain ⟨nm,hnm⟩:=qdp (f.name)
    rw [hq,hnf,hnm] at hfd
    rw [hnf,hnm] at hat
    have HFd:=qq hfd
    have Hat:=qq hat
    have q0:(0:Int)≤(i:Int):=by omega
    have q1:(i:Int) < (m:Int):=by omega
    clear hrw hcs hf hra hww hat hq hfd hnf hnm
    go_upto_region 8 with fail
    refine vj (by kernel_rfl) ?_
    have hnd:New wr wr.drew:=(Chg.refl _ _).drew
    have DA:=qq (Hat.out.chg hnd id)
    have DB:=qq ((HBP.out.chg HNr.out id).chg hnd id)
    have DN:=qq hnd
    clear hnd e1
    generalize wr.drew=wd at DA DB DN⊢
    refine AtN.segN2 0 17 [36,37,38,39,40,41,42,43,44,45,46,47,48,49,50,51,52] (fun
     |0=>fun vv _=>vv=.slice Ab nb cb
     |1=>fun vv _=>vv=.pointer (some ⟨b6,1,none⟩)
     |2=>fun vv _=>vv=.slice (some ad) m cf
     |3=>fun vv _=>vv=.int .i64 i
     |4=>fun vv _=>vv=.pointer (some (ad.add (i * 2)))
     |5=>fun vv _=>vv=.pointer (some (ad.add (i * 2)))
     |6=>fun vv _=>vv=.string nm
     |7=>fun vv _=>vv=.pointer (some ⟨b6,1,none⟩)
     |8=>fun vv _=>vv=.slice (some ad) m cf
     |9=>fun vv _=>vv=.int .i64 i
     |10=>fun vv _=>vv=.pointer (some (ad.add (i * 2)))
     |11=>fun vv _=>vv=.pointer (some ⟨(ad.add (i * 2)).block,(ad.add (i * 2)).off+1,none⟩)
     |12=>fun vv _=>vv=.slice A' nf c'
     |13=>fun vv _=>vv=.agg #[.string nm,.slice A' nf c',.int .i64 0]
     |14=>fun vv _=>vv=.int .i64 st
     |15=>fun vv _=>vv=.int .i64 st
     |16=>fun vv _=>vv=.bool false
     |_=>fun _ _=>True) (by kernel_rfl) (by kernel_rfl) (by kernel_rfl) (by kernel_rfl) (fun j v w1 w2 hc h=>?_) (fun i hn hi o ho A0 W hN hin hk=>?_) (fun l W7 hN hl hΦ=>?_)
    ·match j with
     |0|1|2|3|4|5|6|7|8|9|10|11|12|13|14|15|16=>exact h
     |_+17=>trivial
    ·rcases (show i=0∨i=1∨i=2∨i=3∨i=4∨i=5∨i=6∨i=7∨i=8∨i=9∨i=10∨i=11∨i=12∨i=13∨i=14∨i=15∨i=16 by omega) with rfl|rfl|rfl|rfl|rfl|rfl|rfl|rfl|rfl|rfl|rfl|rfl|rfl|rfl|rfl|rfl|rfl
     ·cases ho
      exact .same (uo 10 _ rfl (hk 10)) rfl
     ·cases ho
      have h8:A0.tmps[8]?.getD undef=.pointer (some ⟨b6,0,none⟩):=hk 8
      exact .same (by simp [go_sem,h8]) rfl
     ·cases ho
      have h37:A0.tmps[37]?.getD undef=.pointer (some ⟨b6,1,none⟩):=hin 1 37
      have hcx:W.cell? ⟨b6,1,none⟩=some (.slice (some ad) m cf):=(DB.out.chg hN id).cell 1
      exact .same (v:=.slice (some ad) m cf) (by simp [go_sem,h37,hcx]) rfl
     ·cases ho
      exact .same (uo 11 _ rfl (hk 11)) rfl
     ·cases ho
      have h38:A0.tmps[38]?.getD undef=.slice (some ad) m cf:=hin 2 38
      have h39:A0.tmps[39]?.getD undef=.int .i64 i:=hin 3 39
      exact .same (by simp [go_sem,h38,h39,q0,q1,hlt]) rfl
     ·cases ho
      have h40:A0.tmps[40]?.getD undef=.pointer (some (ad.add (i * 2))):=hin 4 40
      exact .same (by simp [go_sem,h40]) rfl
     ·cases ho
      have h41:A0.tmps[41]?.getD undef=.pointer (some (ad.add (i * 2))):=hin 5 41
      have hcx:W.cell? (ad.add (i * 2))=some (.string nm):=(DA.out.chg hN id) 0 _ rfl
      exact .same (v:=.string nm) (by simp [go_sem,h41,hcx]) rfl
     ·cases ho
      have h8:A0.tmps[8]?.getD undef=.pointer (some ⟨b6,0,none⟩):=hk 8
      exact .same (by simp [go_sem,h8]) rfl
     ·cases ho
      have h43:A0.tmps[43]?.getD undef=.pointer (some ⟨b6,1,none⟩):=hin 7 43
      have hcx:W.cell? ⟨b6,1,none⟩=some (.slice (some ad) m cf):=(DB.out.chg hN id).cell 1
      exact .same (v:=.slice (some ad) m cf) (by simp [go_sem,h43,hcx]) rfl
     ·cases ho
      exact .same (uo 11 _ rfl (hk 11)) rfl
     ·cases ho
      have h44:A0.tmps[44]?.getD undef=.slice (some ad) m cf:=hin 8 44
      have h45:A0.tmps[45]?.getD undef=.int .i64 i:=hin 9 45
      exact .same (by simp [go_sem,h44,h45,q0,q1,hlt]) rfl
     ·cases ho
      have h46:A0.tmps[46]?.getD undef=.pointer (some (ad.add (i * 2))):=hin 10 46
      exact .same (by simp [go_sem,h46]) rfl
     ·cases ho
      have h47:A0.tmps[47]?.getD undef=.pointer (some ⟨(ad.add (i * 2)).block,(ad.add (i * 2)).off+1,none⟩):=hin 11 47
      have hcx:W.cell? ⟨(ad.add (i * 2)).block,(ad.add (i * 2)).off+1,none⟩=some (.slice A' nf c'):=field_at' (DA.out.chg hN id) 0 rfl
      exact .same (v:=.slice A' nf c') (by simp [go_sem,h47,hcx]) rfl
     ·cases ho
      have h42:A0.tmps[42]?.getD undef=.string nm:=hin 6 42
      have h48:A0.tmps[48]?.getD undef=.slice A' nf c':=hin 12 48
      exact .same (by simp [go_sem,h42,h48]) rfl
     ·cases ho
      have h36:A0.tmps[36]?.getD undef=.slice Ab nb cb:=hin 0 36
      have h49:A0.tmps[49]?.getD undef=.agg #[.string nm,.slice A' nf c',.int .i64 0]:=hin 13 49
      refine .call (f:=19) (args:=#[.slice Ab nb cb,.agg #[.string nm,.slice A' nf c',.int .i64 0]]) (W':=W) ?_ ((HFd.out W (DN.out.trans hN qdr)).mono ?_)
      ·simp [go_sem,h36,h49,HeF.out]
      ·rintro e w' ⟨rfl,hc⟩
       exact ⟨_,rfl,hc,rfl⟩
     ·cases ho
      exact .same (uo 9 _ rfl (hk 9)) rfl
     ·cases ho
      have h50:A0.tmps[50]?.getD undef=.int .i64 st:=hin 14 50
      have h51:A0.tmps[51]?.getD undef=.int .i64 st:=hin 15 51
      exact .same (by simp [go_sem,h50,h51]) rfl
    obtain ⟨x36,x37,x38,x39,x40,x41,x42,x43,x44,x45,x46,x47,x48,x49,x50,x51,x52,rfl⟩:∃ x36 x37 x38 x39 x40 x41 x42 x43 x44 x45 x46 x47 x48 x49 x50 x51 x52,l=[x36,x37,x38,x39,x40,x41,x42,x43,x44,x45,x46,x47,x48,x49,x50,x51,x52]:=by
     match l,hl with
     | [x36,x37,x38,x39,x40,x41,x42,x43,x44,x45,x46,x47,x48,x49,x50,x51,x52],_=>exact ⟨_,_,_,_,_,_,_,_,_,_,_,_,_,_,_,_,_,rfl⟩
    obtain rfl:x36=.slice Ab nb cb:=hΦ 0 (by decide)
    obtain rfl:x37=.pointer (some ⟨b6,1,none⟩):=hΦ 1 (by decide)
    obtain rfl:x38=.slice (some ad) m cf:=hΦ 2 (by decide)
    obtain rfl:x39=.int .i64 i:=hΦ 3 (by decide)
    obtain rfl:x40=.pointer (some (ad.add (i * 2))):=hΦ 4 (by decide)
    obtain rfl:x41=.pointer (some (ad.add (i * 2))):=hΦ 5 (by decide)
    obtain rfl:x42=.string nm:=hΦ 6 (by decide)
    obtain rfl:x43=.pointer (some ⟨b6,1,none⟩):=hΦ 7 (by decide)
    obtain rfl:x44=.slice (some ad) m cf:=hΦ 8 (by decide)
    obtain rfl:x45=.int .i64 i:=hΦ 9 (by decide)
    obtain rfl:x46=.pointer (some (ad.add (i * 2))):=hΦ 10 (by decide)
    obtain rfl:x47=.pointer (some ⟨(ad.add (i * 2)).block,(ad.add (i * 2)).off+1,none⟩):=hΦ 11 (by decide)
    obtain rfl:x48=.slice A' nf c':=hΦ 12 (by decide)
    obtain rfl:x49=.agg #[.string nm,.slice A' nf c',.int .i64 0]:=hΦ 13 (by decide)
    obtain rfl:x50=.int .i64 st:=hΦ 14 (by decide)
    obtain rfl:x51=.int .i64 st:=hΦ 15 (by decide)
    obtain rfl:x52=.bool false:=hΦ 16 (by decide)
    simp only [putsL,zq,zj,zz,List.zip,List.zipWith,Act.put,qk,qu,qy]
    clear hΦ hl
    refine AtN.done rfl ?_
    go_wp2_with fail
    go_roundw
    case rel=>exact ⟨i+1,by omega,by go_num,HNr.out.trans (DN.out.trans hN qdr) qdr⟩
    case measure=>simp [intOf];omega
   ·obtain ⟨wo,hwo⟩:=qdq (wr)
    subst hwo
    have HB5:=qq (HBP.out.chg HNr.out id)
    have HN5:=qq (HN4.out.trans HNr.out qdr)
    have HSb5:=qq (HSb.out.chg HNr.out)
    go_wp2_with fail
    clear e1 hlt
    go_loopw [12] (fun u12 wr=>∃ k:Nat,k≤nb∧u12=.int .i64 k∧New wo wr) (fun u _=>nb - (intOf u).toNat)
    case atStart=>exact ⟨0,qr _,rfl,Chg.refl _ _⟩
    case round=>
     obtain ⟨k,hk,rfl,hN⟩:=hrel
     have HNq:=qq hN
     clear hN
     by_cases hlt:k < nb
     ·obtain ⟨r,hr⟩:∃ r,b[k]? =some r:=⟨_,qz (by rw [Hnb.out];exact hlt)⟩
      obtain ⟨ax,cs,rfl,hat,-,hra⟩:=(HSb5.out.chg HNq.out).row hr
      have hst:=HSt.out r (qf hr)
      have hat2:=field_at' hat 1 (u:=.int .i64 r.stamp) (by obtain ⟨A,c,rfl,-⟩:=hra;rfl)
      rw [hst] at hat2
      have q0:(0:Int)≤(k:Int):=by omega
      have q1:(k:Int) < (nb:Int):=by omega
      by_cases hk0:k=0
      ·have hz:decide ((0:Int) < (k:Int))=false:=by simp;omega
       have hz':decide (0 < k)=false:=by simp;omega
       have Hat2:=qq hat2
       clear hk0 hr hat hra hst hat2
       go_upto_region 13 with fail
       refine vj (by kernel_rfl) ?_
       have hnd:New wr wr.drew:=(Chg.refl _ _).drew
       have D2:=qq (hnd.cellS Hat2.out id)
       have DN:=qq hnd
       clear hnd
       generalize wr.drew=wd at D2 DN⊢
       refine AtN.segN2 0 8 [59,60,61,62,63,64,65,66] (fun
        |0=>fun vv _=>vv=.slice (some ax) nb cb
        |1=>fun vv _=>vv=.int .i64 k
        |2=>fun vv _=>vv=.pointer (some (ax.add (k * 3)))
        |3=>fun vv _=>vv=.pointer (some ⟨(ax.add (k * 3)).block,(ax.add (k * 3)).off+2,none⟩)
        |4=>fun vv _=>vv=.int .i64 st
        |5=>fun vv _=>vv=.int .i64 st
        |6=>fun vv _=>vv=.bool false
        |7=>fun vv _=>vv=.bool false
        |_=>fun _ _=>True) (by kernel_rfl) (by kernel_rfl) (by kernel_rfl) (by kernel_rfl) (fun j v w1 w2 hc h=>?_) (fun i hn hi o ho A0 W hN hin hk=>?_) (fun l Wa hN hl hΦ=>?_)
       ·match j with
        |0|1|2|3|4|5|6|7=>exact h
        |_+8=>trivial
       ·rcases (show i=0∨i=1∨i=2∨i=3∨i=4∨i=5∨i=6∨i=7 by omega) with rfl|rfl|rfl|rfl|rfl|rfl|rfl|rfl
        ·cases ho
         exact .same (uo 10 _ rfl (hk 10)) rfl
        ·cases ho
         exact .same (uo 12 _ rfl (hk 12)) rfl
        ·cases ho
         have h59:A0.tmps[59]?.getD undef=.slice (some ax) nb cb:=hin 0 59
         have h60:A0.tmps[60]?.getD undef=.int .i64 k:=hin 1 60
         exact .same (by simp [go_sem,h59,h60,q0,q1,hlt]) rfl
        ·cases ho
         have h61:A0.tmps[61]?.getD undef=.pointer (some (ax.add (k * 3))):=hin 2 61
         exact .same (by simp [go_sem,h61]) rfl
        ·cases ho
         have h62:A0.tmps[62]?.getD undef=.pointer (some ⟨(ax.add (k * 3)).block,(ax.add (k * 3)).off+2,none⟩):=hin 3 62
         have hcx:W.cell? ⟨(ax.add (k * 3)).block,(ax.add (k * 3)).off+2,none⟩=some (.int .i64 st):=hN.cellS D2.out id
         exact .same (v:=.int .i64 st) (by simp [go_sem,h62,hcx]) rfl
        ·cases ho
         exact .same (uo 9 _ rfl (hk 9)) rfl
        ·cases ho
         have h63:A0.tmps[63]?.getD undef=.int .i64 st:=hin 4 63
         have h64:A0.tmps[64]?.getD undef=.int .i64 st:=hin 5 64
         exact .same (by simp [go_sem,h63,h64]) rfl
        ·cases ho
         exact .same (uo 65 _ rfl (hin 6 65)) rfl
       obtain ⟨x59,x60,x61,x62,x63,x64,x65,x66,rfl⟩:∃ x59 x60 x61 x62 x63 x64 x65 x66,l=[x59,x60,x61,x62,x63,x64,x65,x66]:=by
        match l,hl with
        | [x59,x60,x61,x62,x63,x64,x65,x66],_=>exact ⟨_,_,_,_,_,_,_,_,rfl⟩
       obtain rfl:x59=.slice (some ax) nb cb:=hΦ 0 (by decide)
       obtain rfl:x60=.int .i64 k:=hΦ 1 (by decide)
       obtain rfl:x61=.pointer (some (ax.add (k * 3))):=hΦ 2 (by decide)
       obtain rfl:x62=.pointer (some ⟨(ax.add (k * 3)).block,(ax.add (k * 3)).off+2,none⟩):=hΦ 3 (by decide)
       obtain rfl:x63=.int .i64 st:=hΦ 4 (by decide)
       obtain rfl:x64=.int .i64 st:=hΦ 5 (by decide)
       obtain rfl:x65=.bool false:=hΦ 6 (by decide)
       obtain rfl:x66=.bool false:=hΦ 7 (by decide)
       simp only [putsL,zq,zj,zz,List.zip,List.zipWith,Act.put,qk,qu,qy]
       clear hΦ hl
       have HNe1:=qq hN
       clear hN
       refine AtN.segN2 8 11 [67,68,69] (fun
        |8=>fun vv _=>vv=.int .i64 k
        |9=>fun vv _=>vv=.bool false
        |10=>fun vv _=>vv=.bool false
        |_=>fun _ _=>True) (by kernel_rfl) (by kernel_rfl) (by kernel_rfl) (by kernel_rfl) (fun j v w1 w2 hc h=>?_) (fun i hn hi o ho A0 W hN hin hk=>?_) (fun l Wb hN hl hΦ=>?_)
       ·match j with
        |8|9|10=>exact h
        |0|1|2|3|4|5|6|7=>trivial
        |_+11=>trivial
       ·rcases (show i=8∨i=9∨i=10 by omega) with rfl|rfl|rfl
        ·cases ho
         exact .same (uo 12 _ rfl (hk 12)) rfl
        ·cases ho
         have h67:A0.tmps[67]?.getD undef=.int .i64 k:=hin 8 67
         exact .same (by simp [go_sem,h67,hz,hz']) rfl
        ·cases ho
         exact .same (uo 68 _ rfl (hin 9 68)) rfl
       obtain ⟨x67,x68,x69,rfl⟩:∃ x67 x68 x69,l=[x67,x68,x69]:=by
        match l,hl with
        | [x67,x68,x69],_=>exact ⟨_,_,_,rfl⟩
       obtain rfl:x67=.int .i64 k:=hΦ 0 (by decide)
       obtain rfl:x68=.bool false:=hΦ 1 (by decide)
       obtain rfl:x69=.bool false:=hΦ 2 (by decide)
       simp only [putsL,zq,zj,zz,List.zip,List.zipWith,Act.put,qk,qu,qy]
       clear hΦ hl
       have HNe2:=qq (HNe1.out.trans hN qdr)
       clear hN
       refine AtN.segS2 11 22 [(70,undef),(71,undef),(72,undef),(73,undef),(74,undef),(75,undef),(76,undef),(77,undef),(78,undef),(79,undef),(80,undef)] (by kernel_rfl) (by kernel_rfl) (by kernel_rfl) (by kernel_rfl) rfl ?_
       simp only [putsL,Act.put,qk,qu,qy]
       have HNe3:=HNe2
       refine AtN.segN2 22 24 [81,82] (fun
        |22=>fun vv _=>vv=.bool false
        |23=>fun vv _=>vv=.bool false
        |_=>fun _ _=>True) (by kernel_rfl) (by kernel_rfl) (by kernel_rfl) (by kernel_rfl) (fun j v w1 w2 hc h=>?_) (fun i hn hi o ho A0 W hN hin hk=>?_) (fun l Wd hN hl hΦ=>?_)
       ·match j with
        |22|23=>exact h
        |0|1|2|3|4|5|6|7|8|9|10|11|12|13|14|15|16|17|18|19|20|21=>trivial
        |_+24=>trivial
       ·rcases (show i=22∨i=23 by omega) with rfl|rfl
        ·cases ho
         have h69:A0.tmps[69]?.getD undef=.bool false:=hk 69
         have h80:A0.tmps[80]?.getD undef=undef:=hk 80
         exact .same (by simp [go_sem,h69,h80]) rfl
        ·cases ho
         have h66:A0.tmps[66]?.getD undef=.bool false:=hk 66
         have h81:A0.tmps[81]?.getD undef=.bool false:=hin 22 81
         exact .same (by simp [go_sem,h66,h81]) rfl
       obtain ⟨x81,x82,rfl⟩:∃ x81 x82,l=[x81,x82]:=by
        match l,hl with
        | [x81,x82],_=>exact ⟨_,_,rfl⟩
       obtain rfl:x81=.bool false:=hΦ 0 (by decide)
       obtain rfl:x82=.bool false:=hΦ 1 (by decide)
       simp only [putsL,zq,zj,zz,List.zip,List.zipWith,Act.put,qk,qu,qy]
       clear hΦ hl
       have HNe:=HNe3.out.trans hN qdr
       refine AtN.done rfl ?_
       go_wp2_with fail
       go_roundw
       case rel=>exact ⟨k+1,by omega,by go_num,HNq.out.trans (DN.out.trans HNe qdr) qdr⟩
       case measure=>simp [intOf];omega
      ·obtain ⟨j,rfl⟩:∃ j,k=j+1:=⟨k - 1,by omega⟩
       obtain ⟨s,hs⟩:∃ s,b[j]? =some s:=⟨_,qz (by rw [Hnb.out];omega)⟩
       obtain ⟨ay,css,hay,haty,-,hrs⟩:=(HSb5.out.chg HNq.out).row hs
       obtain rfl:ax=ay:=by simpa using hay
       have hcm:=up_get HUp.out hs hr
       obtain ⟨cq,hcq⟩:=qdp (cmpR s r)
       have hcp:=fun W (hW:New wr W)=>nd W css cs s r (hrs.chg hW) (hra.chg hW)
       rw [hcq] at hcp hcm
       have HCp:=qq hcp
       obtain ⟨A2,c2',hcs2,-⟩:=id hra
       obtain ⟨A3,c3',hcs3,-⟩:=id hrs
       subst hcs2 hcs3
       have Hat2:=qq hat2
       have Hat:=qq hat
       have Haty:=qq haty
       obtain ⟨s1,hs1⟩:=qdp (r.stamp)
       obtain ⟨s2,hs2⟩:=qdp (s.stamp)
       obtain ⟨a1,ha1⟩:=qdp (r.args.length)
       obtain ⟨a2,ha2⟩:=qdp (s.args.length)
       rw [hs1,hs2,ha1,ha2] at HCp
       rw [hs1,ha1] at Hat
       rw [hs2,ha2] at Haty
       have hz:decide ((0:Int) < ((j+1:Nat):Int))=true:=decide_eq_true (by omega)
       have hz2:¬ (0≤cq):=by omega
       have hj1:((j+1:Nat):Int) - 1=(j:Int):=by omega
       have hj2:IntKind.i64.wrap (j:Int)=(j:Int):=by rw [IntKind.wrap_i64];omega
       have hj3:¬ ((nb:Int)≤(j:Int)+1):=by omega
       have hj4:(0:Int)≤(j:Int)+1:=by omega
       have r0:(0:Int)≤(j:Int):=by omega
       have r1:(j:Int) < (nb:Int):=by omega
       have hltj:j < nb:=by omega
       clear hk0 hr hs hat haty hra hrs hst hat2 hcp hcq hs1 hs2 ha1 ha2
       go_upto_region 13 with fail
       refine vj (by kernel_rfl) ?_
       have hnd:New wr wr.drew:=(Chg.refl _ _).drew
       have D2:=qq (hnd.cellS Hat2.out id)
       have DA:=qq (Hat.out.chg hnd id)
       have DY:=qq (Haty.out.chg hnd id)
       have DN:=qq hnd
       clear hnd
       generalize wr.drew=wd at D2 DA DY DN⊢
       refine AtN.segN2 0 8 [59,60,61,62,63,64,65,66] (fun
        |0=>fun vv _=>vv=.slice (some ax) nb cb
        |1=>fun vv _=>vv=.int .i64 ((j+1:Nat):Int)
        |2=>fun vv _=>vv=.pointer (some (ax.add ((j+1) * 3)))
        |3=>fun vv _=>vv=.pointer (some ⟨(ax.add ((j+1) * 3)).block,(ax.add ((j+1) * 3)).off+2,none⟩)
        |4=>fun vv _=>vv=.int .i64 st
        |5=>fun vv _=>vv=.int .i64 st
        |6=>fun vv _=>vv=.bool false
        |7=>fun vv _=>vv=.bool false
        |_=>fun _ _=>True) (by kernel_rfl) (by kernel_rfl) (by kernel_rfl) (by kernel_rfl) (fun j v w1 w2 hc h=>?_) (fun i hn hi o ho A0 W hN hin hk=>?_) (fun l Wa hN hl hΦ=>?_)
       ·match j with
        |0|1|2|3|4|5|6|7=>exact h
        |_+8=>trivial
       ·rcases (show i=0∨i=1∨i=2∨i=3∨i=4∨i=5∨i=6∨i=7 by omega) with rfl|rfl|rfl|rfl|rfl|rfl|rfl|rfl
        ·cases ho
         exact .same (uo 10 _ rfl (hk 10)) rfl
        ·cases ho
         exact .same (uo 12 _ rfl (hk 12)) rfl
        ·cases ho
         have h59:A0.tmps[59]?.getD undef=.slice (some ax) nb cb:=hin 0 59
         have h60:A0.tmps[60]?.getD undef=.int .i64 ((j+1:Nat):Int):=hin 1 60
         exact .same (by simp [go_sem,h59,h60,hj3,hj4]) rfl
        ·cases ho
         have h61:A0.tmps[61]?.getD undef=.pointer (some (ax.add ((j+1) * 3))):=hin 2 61
         exact .same (by simp [go_sem,h61]) rfl
        ·cases ho
         have h62:A0.tmps[62]?.getD undef=.pointer (some ⟨(ax.add ((j+1) * 3)).block,(ax.add ((j+1) * 3)).off+2,none⟩):=hin 3 62
         have hcx:W.cell? ⟨(ax.add ((j+1) * 3)).block,(ax.add ((j+1) * 3)).off+2,none⟩=some (.int .i64 st):=hN.cellS D2.out id
         exact .same (v:=.int .i64 st) (by simp [go_sem,h62,hcx]) rfl
        ·cases ho
         exact .same (uo 9 _ rfl (hk 9)) rfl
        ·cases ho
         have h63:A0.tmps[63]?.getD undef=.int .i64 st:=hin 4 63
         have h64:A0.tmps[64]?.getD undef=.int .i64 st:=hin 5 64
         exact .same (by simp [go_sem,h63,h64]) rfl
        ·cases ho
         exact .same (uo 65 _ rfl (hin 6 65)) rfl
       obtain ⟨x59,x60,x61,x62,x63,x64,x65,x66,rfl⟩:∃ x59 x60 x61 x62 x63 x64 x65 x66,l=[x59,x60,x61,x62,x63,x64,x65,x66]:=by
        match l,hl with
        | [x59,x60,x61,x62,x63,x64,x65,x66],_=>exact ⟨_,_,_,_,_,_,_,_,rfl⟩
       obtain rfl:x59=.slice (some ax) nb cb:=hΦ 0 (by decide)
       obtain rfl:x60=.int .i64 ((j+1:Nat):Int):=hΦ 1 (by decide)
       obtain rfl:x61=.pointer (some (ax.add ((j+1) * 3))):=hΦ 2 (by decide)
       obtain rfl:x62=.pointer (some ⟨(ax.add ((j+1) * 3)).block,(ax.add ((j+1) * 3)).off+2,none⟩):=hΦ 3 (by decide)
       obtain rfl:x63=.int .i64 st:=hΦ 4 (by decide)
       obtain rfl:x64=.int .i64 st:=hΦ 5 (by decide)
       obtain rfl:x65=.bool false:=hΦ 6 (by decide)
       obtain rfl:x66=.bool false:=hΦ 7 (by decide)
       simp only [putsL,zq,zj,zz,List.zip,List.zipWith,Act.put,qk,qu,qy]
       clear hΦ hl
       have HNe1:=qq hN
       clear hN
       refine AtN.segN2 8 11 [67,68,69] (fun
        |8=>fun vv _=>vv=.int .i64 ((j+1:Nat):Int)
        |9=>fun vv _=>vv=.bool true
        |10=>fun vv _=>vv=.bool true
        |_=>fun _ _=>True) (by kernel_rfl) (by kernel_rfl) (by kernel_rfl) (by kernel_rfl) (fun j v w1 w2 hc h=>?_) (fun i hn hi o ho A0 W hN hin hk=>?_) (fun l Wb hN hl hΦ=>?_)
       ·match j with
        |8|9|10=>exact h
        |0|1|2|3|4|5|6|7=>trivial
        |_+11=>trivial
       ·rcases (show i=8∨i=9∨i=10 by omega) with rfl|rfl|rfl
        ·cases ho
         exact .same (uo 12 _ rfl (hk 12)) rfl
        ·cases ho
         have h67:A0.tmps[67]?.getD undef=.int .i64 ((j+1:Nat):Int):=hin 8 67
         exact .same (by simp [go_sem,h67,hz]) rfl
        ·cases ho
         exact .same (uo 68 _ rfl (hin 9 68)) rfl
       obtain ⟨x67,x68,x69,rfl⟩:∃ x67 x68 x69,l=[x67,x68,x69]:=by
        match l,hl with
        | [x67,x68,x69],_=>exact ⟨_,_,_,rfl⟩
       obtain rfl:x67=.int .i64 ((j+1:Nat):Int):=hΦ 0 (by decide)
       obtain rfl:x68=.bool true:=hΦ 1 (by decide)
       obtain rfl:x69=.bool true:=hΦ 2 (by decide)
       simp only [putsL,zq,zj,zz,List.zip,List.zipWith,Act.put,qk,qu,qy]
       clear hΦ hl
       have HNe2:=qq (HNe1.out.trans hN qdr)
       clear hN
       refine AtN.segN2 11 22 [70,71,72,73,74,75,76,77,78,79,80] (fun
        |11=>fun vv _=>vv=.slice (some ax) nb cb
        |12=>fun vv _=>vv=.int .i64 ((j+1:Nat):Int)
        |13=>fun vv _=>vv=.int .i64 j
        |14=>fun vv _=>vv=.pointer (some (ax.add (j * 3)))
        |15=>fun vv _=>vv=.agg #[.string s.name,.slice A3 a2 c3',.int .i64 s2]
        |16=>fun vv _=>vv=.slice (some ax) nb cb
        |17=>fun vv _=>vv=.int .i64 ((j+1:Nat):Int)
        |18=>fun vv _=>vv=.pointer (some (ax.add ((j+1) * 3)))
        |19=>fun vv _=>vv=.agg #[.string r.name,.slice A2 a1 c2',.int .i64 s1]
        |20=>fun vv _=>vv=.int .i64 cq
        |21=>fun vv _=>vv=.bool false
        |_=>fun _ _=>True) (by kernel_rfl) (by kernel_rfl) (by kernel_rfl) (by kernel_rfl) (fun j v w1 w2 hc h=>?_) (fun i hn hi o ho A0 W hN hin hk=>?_) (fun l Wc hN hl hΦ=>?_)
       ·match j with
        |11|12|13|14|15|16|17|18|19|20|21=>exact h
        |0|1|2|3|4|5|6|7|8|9|10=>trivial
        |_+22=>trivial
       ·rcases (show i=11∨i=12∨i=13∨i=14∨i=15∨i=16∨i=17∨i=18∨i=19∨i=20∨i=21 by omega) with rfl|rfl|rfl|rfl|rfl|rfl|rfl|rfl|rfl|rfl|rfl
        ·cases ho
         exact .same (uo 10 _ rfl (hk 10)) rfl
        ·cases ho
         exact .same (uo 12 _ rfl (hk 12)) rfl
        ·cases ho
         have h71:A0.tmps[71]?.getD undef=.int .i64 ((j+1:Nat):Int):=hin 12 71
         exact .same (by simp [go_sem,h71,hj1,hj2]) rfl
        ·cases ho
         have h70:A0.tmps[70]?.getD undef=.slice (some ax) nb cb:=hin 11 70
         have h72:A0.tmps[72]?.getD undef=.int .i64 j:=hin 13 72
         exact .same (by simp [go_sem,h70,h72,r0,r1,hltj]) rfl
        ·cases ho
         have h73:A0.tmps[73]?.getD undef=.pointer (some (ax.add (j * 3))):=hin 14 73
         exact .same (vu 73 _ rfl vd (ax.add (j * 3)) [.string s.name,.slice A3 a2 c3',.int .i64 s2] h73 rfl ((DY.out.chg HNe2.out id).chg hN id)) rfl
        ·cases ho
         exact .same (uo 10 _ rfl (hk 10)) rfl
        ·cases ho
         exact .same (uo 12 _ rfl (hk 12)) rfl
        ·cases ho
         have h75:A0.tmps[75]?.getD undef=.slice (some ax) nb cb:=hin 16 75
         have h76:A0.tmps[76]?.getD undef=.int .i64 ((j+1:Nat):Int):=hin 17 76
         exact .same (by simp [go_sem,h75,h76,hj3,hj4]) rfl
        ·cases ho
         have h77:A0.tmps[77]?.getD undef=.pointer (some (ax.add ((j+1) * 3))):=hin 18 77
         exact .same (vu 77 _ rfl vd (ax.add ((j+1) * 3)) [.string r.name,.slice A2 a1 c2',.int .i64 s1] h77 rfl ((DA.out.chg HNe2.out id).chg hN id)) rfl
        ·cases ho
         have h74:A0.tmps[74]?.getD undef=.agg #[.string s.name,.slice A3 a2 c3',.int .i64 s2]:=hin 15 74
         have h78:A0.tmps[78]?.getD undef=.agg #[.string r.name,.slice A2 a1 c2',.int .i64 s1]:=hin 19 78
         refine .call (f:=25) (args:=#[.agg #[.string s.name,.slice A3 a2 c3',.int .i64 s2],.agg #[.string r.name,.slice A2 a1 c2',.int .i64 s1]]) (W':=W) ?_ ((HCp.out W (DN.out.trans (HNe2.out.trans hN qdr) qdr)).mono ?_)
         ·simp [go_sem,h74,h78,HeC.out]
         ·rintro e w' ⟨rfl,hc⟩
          exact ⟨_,rfl,hc,rfl⟩
        ·cases ho
         have h79:A0.tmps[79]?.getD undef=.int .i64 cq:=hin 20 79
         exact .same (by simp [go_sem,h79,hz2]) rfl
       obtain ⟨x70,x71,x72,x73,x74,x75,x76,x77,x78,x79,x80,rfl⟩:∃ x70 x71 x72 x73 x74 x75 x76 x77 x78 x79 x80,l=[x70,x71,x72,x73,x74,x75,x76,x77,x78,x79,x80]:=by
        match l,hl with
        | [x70,x71,x72,x73,x74,x75,x76,x77,x78,x79,x80],_=>exact ⟨_,_,_,_,_,_,_,_,_,_,_,rfl⟩
       obtain rfl:x70=.slice (some ax) nb cb:=hΦ 0 (by decide)
       obtain rfl:x71=.int .i64 ((j+1:Nat):Int):=hΦ 1 (by decide)
       obtain rfl:x72=.int .i64 j:=hΦ 2 (by decide)
       obtain rfl:x73=.pointer (some (ax.add (j * 3))):=hΦ 3 (by decide)
       obtain rfl:x74=.agg #[.string s.name,.slice A3 a2 c3',.int .i64 s2]:=hΦ 4 (by decide)
       obtain rfl:x75=.slice (some ax) nb cb:=hΦ 5 (by decide)
       obtain rfl:x76=.int .i64 ((j+1:Nat):Int):=hΦ 6 (by decide)
       obtain rfl:x77=.pointer (some (ax.add ((j+1) * 3))):=hΦ 7 (by decide)
       obtain rfl:x78=.agg #[.string r.name,.slice A2 a1 c2',.int .i64 s1]:=hΦ 8 (by decide)
       obtain rfl:x79=.int .i64 cq:=hΦ 9 (by decide)
       obtain rfl:x80=.bool false:=hΦ 10 (by decide)
       simp only [putsL,zq,zj,zz,List.zip,List.zipWith,Act.put,qk,qu,qy]
       clear hΦ hl
       have HNe3:=qq (HNe2.out.trans hN qdr)
       clear hN
       refine AtN.segN2 22 24 [81,82] (fun
        |22=>fun vv _=>vv=.bool false
        |23=>fun vv _=>vv=.bool false
        |_=>fun _ _=>True) (by kernel_rfl) (by kernel_rfl) (by kernel_rfl) (by kernel_rfl) (fun j v w1 w2 hc h=>?_) (fun i hn hi o ho A0 W hN hin hk=>?_) (fun l Wd hN hl hΦ=>?_)
       ·match j with
        |22|23=>exact h
        |0|1|2|3|4|5|6|7|8|9|10|11|12|13|14|15|16|17|18|19|20|21=>trivial
        |_+24=>trivial
       ·rcases (show i=22∨i=23 by omega) with rfl|rfl
        ·cases ho
         have h69:A0.tmps[69]?.getD undef=.bool true:=hk 69
         have h80:A0.tmps[80]?.getD undef=.bool false:=hk 80
         exact .same (by simp [go_sem,h69,h80]) rfl
        ·cases ho
         have h66:A0.tmps[66]?.getD undef=.bool false:=hk 66
         have h81:A0.tmps[81]?.getD undef=.bool false:=hin 22 81
         exact .same (by simp [go_sem,h66,h81]) rfl
       obtain ⟨x81,x82,rfl⟩:∃ x81 x82,l=[x81,x82]:=by
        match l,hl with
        | [x81,x82],_=>exact ⟨_,_,rfl⟩
       obtain rfl:x81=.bool false:=hΦ 0 (by decide)
       obtain rfl:x82=.bool false:=hΦ 1 (by decide)
       simp only [putsL,zq,zj,zz,List.zip,List.zipWith,Act.put,qk,qu,qy]
       clear hΦ hl
       have HNe:=HNe3.out.trans hN qdr
       refine AtN.done rfl ?_
       go_wp2_with fail
       go_roundw
       case rel=>exact ⟨j+1+1,by omega,by go_num,HNq.out.trans (DN.out.trans HNe qdr) qdr⟩
       case measure=>simp [intOf];omega
     ·have HBP:=qq (HB5.out.chg HNq.out id)
      have HN6:=qq (HN5.out.trans HNq.out qdr)
      have HSb6:=qq (HSb5.out.chg HNq.out)
      have HF1:=qq (show Calls Tryz.prog 17 #[.agg #[.slice (some ⟨d,0,none⟩) 6 6,.slice Af m cf,.slice Ar nr cr],.slice Ab nb cb,.int .i64 48] wr (FixPost wr rs 48 b) from rm wr _ rs (HPg.out.chg HN6.out) (nu HRaw.out) (lv HRaw.out) (pd HRaw.out) _ b HSb6.out HOb.out.1 HOb.out.2 48 (by omega))
      go_upto_region 16 with first
       | ((with_reducible refine vq rfl (.tmp 8) 29 rfl xp ⟨b6,0,none⟩ [.slice (some ⟨d,0,none⟩) 6 6,.slice Af m cf,.slice Ar nr cr] ?_ rfl HBP.out.at_ ?_);exact rfl)
       | (go_at_call 17;refine HF1.out.mono ?_;rintro e w7 ⟨vl,ml,wh,rfl,hsl,hfx,hn5⟩;have HN7:=qq (HN6.out.trans hn5 qdr);have HSl:=qq hsl;have HF:=qq hfx;have HBP:=qq (HBP.out.chg hn5 id);have HSb7:=qq (HSb6.out.chg hn5);clear hsl hfx hn5)
      obtain ⟨Al,cl,rfl,-⟩:=HSl.out.form
      obtain ⟨nl,hnl⟩:=qdp ((ml.take 48).length)
      rw [hnl] at HSl⊢
      have Hnl:=qq hnl
      clear HF1 hnl hlt
      cases wh with
      |false=>
       have hbm:(nb:Int)≤(m:Int):=by omega
       go_wp2_with fail
       go_loopw [15] (fun u15 wr=>u15=.int .i64 0∧New w7 wr) (fun u _=>0)
       case atStart=>exact ⟨rfl,Chg.refl _ _⟩
       case round=>
        obtain ⟨rfl,hN⟩:=hrel
        have HN9:=qq (HN7.out.trans hN qdr)
        have e1:=(HBP.out.chg hN id).cell 1
        simp only [qx,qj,qw] at e1
        clear hN
        by_cases hz:0 < nb
        ·have q1:(0:Int) < (nb:Int):=by omega
         have q3:decide ((0:Int) < (nb:Int))=true:=by simpa using q1
         go_wp2_with fail
         go_ret
         exact ⟨rfl,HN2.out.trans HN9.out qdr⟩
        ·have q1:¬ ((0:Int) < (nb:Int)):=by omega
         have q3:decide ((0:Int) < (nb:Int))=false:=by simpa using q1
         go_wp2_with fail
         go_ret
         exact ⟨rfl,HN2.out.trans HN9.out qdr⟩
      |true=>
       obtain ⟨-,-,hml,hfm,hux,-⟩:=pc (pd HRaw.out) (by omega) HOb.out.1 HOb.out.2 HF.out
       have HFi:=qq (fo hux hfm)
       rw [qc hml] at HSl
       have hbm:(nb:Int)≤(m:Int):=by omega
       clear hml hfm hux
       go_wp2_with fail
       go_loopw [15] (fun u15 wr=>∃ k:Nat,k≤nb∧u15=.int .i64 k∧New w7 wr) (fun u _=>nb - (intOf u).toNat)
       case atStart=>exact ⟨0,qr _,rfl,Chg.refl _ _⟩
       case round=>
        clear hk hi
        obtain ⟨k,hk,rfl,hN⟩:=hrel
        have HNz:=qq hN
        have e1:=(HBP.out.chg hN id).cell 1
        simp only [qx,qj,qw] at e1
        clear hN
        by_cases hlt:k < nb
        ·obtain ⟨r,hr⟩:∃ r,b[k]? =some r:=⟨_,qz (by rw [Hnb.out];exact hlt)⟩
         obtain ⟨ax,cs,rfl,hat,-,hra⟩:=(HSb7.out.chg HNz.out).row hr
         have hle:=HFi.out r (qf hr)
         rw [HSt.out r (qf hr)] at hle
         obtain ⟨q,hq⟩:=qdp (findS ml r)
         have hfd:=fun W (hW:New wr W)=>rx W _ ml ((HSl.out.chg HNz.out).chg hW) _ r (hra.chg hW)
         rw [hq] at hfd hle
         obtain ⟨A2,c2',rfl,-⟩:=id hra
         have HFd:=qq hfd
         have Hat:=qq hat
         have hqs:¬ q < st:=by omega
         have q0:(0:Int)≤(k:Int):=by omega
         have q1:(k:Int) < (nb:Int):=by omega
         have q3:decide ((k:Int) < (nb:Int))=true:=by simpa using q1
         clear hr hat hra hq hfd hle
         go_wp2_with first
          | ((with_reducible refine vq rfl (.tmp 101) 42 rfl vd (ax.add (k * 3)) _ ?_ rfl Hat.out ?_);exact rfl)
          | (go_at_call 19;refine (HFd.out _ (Chg.refl _ _)).mono ?_;rintro e w9 ⟨rfl,hn9⟩;have HN9:=qq (HNz.out.trans hn9 qdr);clear hn9)
         go_roundw
         case rel=>exact ⟨k+1,by omega,by go_num,HN9.out⟩
         case measure=>simp [intOf];omega
        ·have q1:¬ ((k:Int) < (nb:Int)):=by omega
         have q3:decide ((k:Int) < (nb:Int))=false:=by simpa using q1
         have HN9:=qq (HN7.out.trans HNz.out qdr)
         go_wp2_with fail
         go_ret
         exact ⟨rfl,HN2.out.trans HN9.out qdr⟩
end Go.Proofs.YtbpgfnbhihklnaaGreat
namespace Go.Proofs.YtbpgfnbhihklnaaGreat.FixBase
open Go.ChangeShapes Go.WideShapes Go.ChangeAt Go.RowKit
theorem own:ownKnob Tryz.prog.godebug=none:=by kernel_rfl
theorem laid:laidOutB Tryz.prog=true:=by kernel_rfl
theorem fm (os:Os) (started:os.Started) (H:Type) (enc:TypeId×Value→H):
  ReturnsInHanded {} Tryz.checked os 9 .any (Rows.fixBaseSpec.pre6 enc Tryz.prog Tryz.f9 Rows.fixBaseRow.domain false) (Rows.fixBaseSpec.post enc Tryz.prog Tryz.f9 false true false false):=by
 refine returnsInHanded_of_change (C:=Tryz.checked) own started (by kernel_rfl) Tryz.func9
  (ChangeSpec.witness6 (enc:=enc) (C:=Tryz.checked) false ⟨#[],#[.slice none 0 0,.slice none 0 0,.int .i64 0],[]⟩ 8 (by kernel_rfl) (by kernel_rfl) (by kernel_rfl) (by kernel_rfl)) ?_
 intro W base args ds gs before hval0 hW hcnd _
 have hval:∀ (j:Nat) t v,Tryz.f9.params[j]? =some t→args[j]? =some v→Value.okWide Tryz.prog W .any base t v:=hval0
 have hW':=hW
 obtain ⟨p,q,hA0,hV,rfl,hfz,hnd⟩:=hW
 have hA:DataW.TrodAll enc Tryz.prog W 0 (fun _=>true) true Tryz.f9.params.toList args.toList ds p:=hA0
 rw [Tryz.params9] at hA hval
 obtain ⟨v0,vs0,d0,ds0,p0,q0,hargs,rfl,rfl,h0,r0⟩:=trodAll_cons hA
 obtain ⟨v1,vs1,d1,ds1,p1,q1,rfl,rfl,rfl,h1,r1⟩:=trodAll_cons r0
 obtain ⟨v2,vs2,d2,ds2,p2,q2,rfl,rfl,rfl,h2,r2⟩:=trodAll_cons r1
 obtain ⟨rfl,rfl,rfl⟩:=trodAll_nil r2
 obtain rfl:args=#[v0,v1,v2]:=by cases args;simp_all
 obtain ⟨rfl,rfl⟩:=trodVars_none hV
 obtain ⟨n0,hx0⟩:=ks Tryz.underlying22 (by kernel_rfl) Tryz.underlying23 (by kernel_rfl) (hval 0 22 v0 rfl rfl) h0 (gw Tryz.underlying75 Tryz.underlying3 Tryz.underlying3 ⟨rfl,rfl,rfl⟩ ⟨by kernel_rfl,by kernel_rfl,by kernel_rfl⟩ (xi (C:=4) Tryz.underlying73 Tryz.underlying3 (by kernel_rfl)))
 obtain ⟨n1,X1,hx1⟩:=kh Tryz.underlying23 (by kernel_rfl) (by decide) (hval 1 23 v1 rfl rfl) h1 (gw Tryz.underlying75 Tryz.underlying3 Tryz.underlying3 ⟨rfl,rfl,rfl⟩ ⟨by kernel_rfl,by kernel_rfl,by kernel_rfl⟩ (xi (C:=4) Tryz.underlying73 Tryz.underlying3 (by kernel_rfl)))
 obtain ⟨a2,rfl,rfl,rfl,w2⟩:=open_int Tryz.underlying3 (hval 2 3 v2 rfl rfl) h2
 simp only [Lit.wf,qt,decide_eq_true_eq] at w2
 refine (walk_FixBase W v0 n0 hx0 v1 n1 X1 hx1 a2 w2.1 w2.2).mono fun e W' ⟨he,hg⟩=>?_
 subst he
 exact ⟨_,rfl,mw laid rfl hW' (by kernel_rfl) hg (tb:=4) rfl Tryz.underlying4 ⟨rfl,rfl,rfl⟩⟩
theorem over:Rows.fixBaseRow.holds Tryz.pinned (OpenSpec.ofChange Rows.fixBaseSpec):=
 OpenClaim.holds_of_wide 9 Tryz.f9 rfl rfl rfl rfl rfl rfl rfl ⟨rfl,rfl,rfl,rfl,rfl⟩ rfl rfl rfl rfl rfl (by kernel_rfl) Tryz.func9 (by kernel_rfl)
  (of_decide_eq_true (by kernel_rfl)) (by unfold Func.isWrapper;first| (rw [if_pos (by decide+kernel)];kernel_rfl)| (rw [if_neg (by decide+kernel)];exact ⟨rfl,rfl⟩))
  (fun os started H enc _=>fm os started H enc)
theorem proved:Rows.FixBaseSaid:=
 over
#print axioms proved
end Go.Proofs.YtbpgfnbhihklnaaGreat.FixBase
