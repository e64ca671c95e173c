/- FixClosed: the walk and the statement. -/
import Derived.Test.YtbpgfnbhihklnaaGreatF12
set_option maxHeartbeats 8000000
set_option maxRecDepth 100000
set_option linter.all false
namespace Go.Proofs.YtbpgfnbhihklnaaGreat
open Go.RowKit Go.Shelf
theorem walk_FixClosed (w:World) (v0:Value) (n0:Nat) (hx0:IntsAts w v0 n0) (v1:Value) (n1:Nat) (X1:Nat→Int) (hx1:IntsAt w v1 6 n1 X1):Calls Tryz.prog 3 #[v0,v1] w fun e w'=>e=.returned (.bool true)∧New w w':=by
 have HX0:=qq hx0
 have HX1:=qq hx1
 clear hx0 hx1
 go_enter Tryz.func3,Tryz.ntmps3
 go_upto_region 2 with (go_at_call 14;refine (ni _).mono ?_;rintro e w1 ⟨rfl,hN1⟩;have HN1:=qq hN1;clear hN1)
 go_upto_region 3 with (go_at_call 15;refine (fq _ _ _ (HX0.out.chg HN1.out)).mono ?_;rintro e w2 ⟨vp,rs,rfl,hpg,hraw,hn2⟩;have HN2:=qq (HN1.out.trans hn2 qdr);have HPg:=qq hpg;have HRaw:=qq hraw;obtain ⟨d,Af,nf,cf,Ar,cr,css,rfl,hru,hl6⟩:=hpg.form;have HRu:=qq hru;obtain ⟨nr,hnr⟩:=qdp (rs.length);have Hnr:=qq hnr;rw [hnr] at HPg hl6⊢;clear hpg hraw hn2 hru hnr)
 obtain ⟨w3,hw3⟩:=qdq (w2.alloc (.cells #[.slice (some ⟨d,0,none⟩) 6 6,.slice Af nf cf,.slice Ar nr cr] 29))
 have hn3:New w2 w3:=by rw [hw3];exact (Chg.refl _ _).alloc _
 have HN3:=qq (HN2.out.trans hn3 qdr)
 have HPg:=qq (HPg.out.chg hn3)
 have HRu:=qq (HRu.out.chg hn3)
 have HBP:=qq (show Blk w3 w2.heap.size 29 #[.slice (some ⟨d,0,none⟩) 6 6,.slice Af nf cf,.slice Ar nr cr] by rw [hw3];exact Blk.new w2 _ _)
 rw [←hw3]
 obtain ⟨b6,hb6⟩:=qdp (w2.heap.size)
 rw [hb6] at HBP⊢
 clear hw3 hn3 hb6
 go_upto_region 4 with (go_at_call 16;refine (tq _ _ _ _ (HX1.out.chg HN3.out) 10 (by omega)).mono ?_;rintro e w4 ⟨vx,x,rfl,hsx,hlx,hgx,hn4⟩;have HN4:=qq (HN3.out.trans hn4 qdr);have HG:=qq hgx;have HSx:=qq hsx;have HPg:=qq (HPg.out.chg hn4);have HRu:=qq (HRu.out.chg hn4);have HBP:=qq (HBP.out.chg hn4 id);have Hlx:=qq hlx;clear hsx hgx hn4 hlx)
 obtain ⟨Ax,cx,rfl,-⟩:=HSx.out.form
 obtain ⟨nx,hnx⟩:=qdp (x.length)
 rw [hnx] at HSx Hlx⊢
 have Hnx:=qq hnx
 have hlx:=Hlx.out
 clear hnx
 have HGo:=qq (ln HG.out)
 have Hok:=qq (pd HRaw.out)
 have HFx:=qq (show Calls Tryz.prog 17 #[.agg #[.slice (some ⟨d,0,none⟩) 6 6,.slice Af nf cf,.slice Ar nr cr],.slice Ax nx cx,.int .i64 48] w4 (FixPost w4 rs 48 x) from rm w4 _ rs HPg.out (nu HRaw.out) (lv HRaw.out) (pd HRaw.out) _ x HSx.out HGo.out.1 HGo.out.2 48 (by omega))
 go_upto_region 5 with first
  | ((with_reducible refine vq rfl (.tmp 6) 29 rfl xp ⟨b6,0,none⟩ [.slice (some ⟨d,0,none⟩) 6 6,.slice Af nf cf,.slice Ar nr cr] ?_ rfl HBP.out.at_ ?_);exact rfl)
  | (go_at_call 17;refine HFx.out.mono ?_;rintro e w5 ⟨vl,m,b,rfl,hsl,hfx,hn5⟩;have HN5:=qq (HN4.out.trans hn5 qdr);have HSl:=qq hsl;have HF:=qq hfx;have HPg:=qq (HPg.out.chg hn5);have HRu:=qq (HRu.out.chg hn5);have HBP:=qq (HBP.out.chg hn5 id);have HSx:=qq (HSx.out.chg hn5);clear hsl hfx hn5)
 have hst:=fx w5 _ rs HPg.out (nu HRaw.out) (lv HRaw.out)
 obtain ⟨Al,cl,rfl,-⟩:=HSl.out.form
 clear HFx
 cases b with
 |false=>
  rcases fix_no Hok.out (by omega) HGo.out.1 HGo.out.2 HF.out with ⟨hs,hm⟩| ⟨s,hs,hm⟩
  ·rw [hs] at hst
   subst hm
   have HSt:=qq hst
   clear hst hs
   go_wp2_with first
    | ((with_reducible refine vq rfl (.tmp 6) 29 rfl xp ⟨b6,0,none⟩ [.slice (some ⟨d,0,none⟩) 6 6,.slice Af nf cf,.slice Ar nr cr] ?_ rfl HBP.out.at_ ?_);exact rfl)
    | (go_at_call 18;refine HSt.out.mono ?_;rintro e w6 ⟨⟨k,hk,rfl⟩,hn6⟩;have HN6:=qq (HN5.out.trans hn6 qdr);have hkb:(k != 0)=true:=(by simpa using hk);clear hn6)
   go_ret
   exact ⟨rfl,HN6.out⟩
  ·rw [hs] at hst
   have HSt:=qq hst
   have Hl48:=qq (show (m.take 48).length=48 by rw [ql];omega)
   rw [Hl48.out] at HSl⊢
   clear hst hs hm
   go_wp2_with first
    | ((with_reducible refine vq rfl (.tmp 6) 29 rfl xp ⟨b6,0,none⟩ [.slice (some ⟨d,0,none⟩) 6 6,.slice Af nf cf,.slice Ar nr cr] ?_ rfl HBP.out.at_ ?_);exact rfl)
    | (go_at_call 18;refine HSt.out.mono ?_;rintro e w6 ⟨bs,rfl,hb6,hbl,hn6⟩;have HN6:=qq (HN5.out.trans hn6 qdr);clear hn6 hb6 hbl)
   go_ret
   exact ⟨rfl,HN6.out⟩
 |true=>
  obtain ⟨s,hs,hm,hfm,hux,hcl⟩:=pc Hok.out (by omega) HGo.out.1 HGo.out.2 HF.out
  rw [hs] at hst
  rw [qc hm] at HSl⊢
  have HSt:=qq hst
  have HFm:=qq hfm
  have HFi:=qq (fo hux hfm)
  have HFr:=qq (fun r hr=>fo (hcl r hr) hfm)
  obtain ⟨nl,hnl⟩:=qdp (m.length)
  rw [hnl] at HSl hm⊢
  have Hnl:=qq hnl
  clear hst hs hfm hux hcl hnl
  go_wp2_with first
   | ((with_reducible refine vq rfl (.tmp 6) 29 rfl xp ⟨b6,0,none⟩ [.slice (some ⟨d,0,none⟩) 6 6,.slice Af nf cf,.slice Ar nr cr] ?_ rfl HBP.out.at_ ?_);exact rfl)
   | (go_at_call 18;refine HSt.out.mono ?_;rintro e w6 ⟨bs,rfl,hb6,hbl,hn6⟩;have HN6:=qq (HN5.out.trans hn6 qdr);have HSl:=qq (HSl.out.chg hn6);have HRu:=qq (HRu.out.chg hn6);have HBP:=qq (HBP.out.chg hn6 id);have HSx:=qq (HSx.out.chg hn6);clear hn6 hb6 hbl)
  have HeF:=qq (show ∀ (args:Array Value) (w:World),(callFunc 19 args).run Tryz.prog w=.ok (.enter 19 args) w from enters_of Tryz.func19 (by kernel_rfl) rfl)
  go_loopw [12] (fun u12 wr=>∃ i:Nat,i≤nx∧u12=.int .i64 i∧New w6 wr) (fun u _=>nx - (intOf u).toNat)
  case atStart=>exact ⟨0,qr _,rfl,Chg.refl _ _⟩
  case round=>
   obtain ⟨i,hi,rfl,hN⟩:=hrel
   have HNr:=qq hN
   clear hN
   by_cases hlt:i < nx
   ·obtain ⟨r,hr⟩:∃ r,x[i]? =some r:=⟨_,qz (by rw [Hnx.out];exact hlt)⟩
    have HQ:=qq (HFi.out r (qf hr))
    obtain ⟨ax,cs,rfl,hat,-,hra⟩:=(HSx.out.chg HNr.out).row hr
    obtain ⟨A1,c1,rfl,-⟩:=id hra
    obtain ⟨st,hst⟩:=qdp (r.stamp)
    obtain ⟨n1,hn1⟩:=qdp (r.args.length)
    obtain ⟨q,hq⟩:=qdp (findS m r)
    have hfd:=fun W (hW:New wr W)=>rx W _ m ((HSl.out.chg HNr.out).chg hW) _ r (hra.chg hW)
    rw [hst,hn1,hq] at hfd
    rw [hst,hn1] at hat
    rw [hst,hq] at HQ
    have HFd:=qq hfd
    have Hat:=qq hat
    have hqs:¬ q < st:=by have:=HQ.out;omega
    have q0:(0:Int)≤(i:Int):=by omega
    have q1:(i:Int) < (nx:Int):=by omega
    clear hr hat hra hst hn1 hq hfd
    go_upto_region 11 with fail
    refine vj (by kernel_rfl) ?_
    have hnd:New wr wr.drew:=(Chg.refl _ _).drew
    have DA:=qq (Hat.out.chg hnd id)
    have DN:=qq hnd
    clear hnd
    generalize wr.drew=wd at DA DN⊢
    refine AtN.segN2 0 12 [55,56,57,58,59,60,61,62,63,64,65,66] (fun
     |0=>fun vv _=>vv=.slice Al nl cl
     |1=>fun vv _=>vv=.slice (some ax) nx cx
     |2=>fun vv _=>vv=.int .i64 i
     |3=>fun vv _=>vv=.pointer (some (ax.add (i * 3)))
     |4=>fun vv _=>vv=.agg #[.string r.name,.slice A1 n1 c1,.int .i64 st]
     |5=>fun vv _=>vv=.int .i64 q
     |6=>fun vv _=>vv=.slice (some ax) nx cx
     |7=>fun vv _=>vv=.int .i64 i
     |8=>fun vv _=>vv=.pointer (some (ax.add (i * 3)))
     |9=>fun vv _=>vv=.pointer (some ⟨(ax.add (i * 3)).block,(ax.add (i * 3)).off+2,none⟩)
     |10=>fun vv _=>vv=.int .i64 st
     |11=>fun vv _=>vv=.bool false
     |_=>fun _ _=>True) (by kernel_rfl) (by kernel_rfl) (by kernel_rfl) (by kernel_rfl) (fun j v w1 w2 hc h=>?_) (fun i hn hi o ho A0 W hN hin hk=>?_) (fun l W7 hN hl hΦ=>?_)
    ·match j with
     |0|1|2|3|4|5|6|7|8|9|10|11=>exact h
     |_+12=>trivial
    ·rcases (show i=0∨i=1∨i=2∨i=3∨i=4∨i=5∨i=6∨i=7∨i=8∨i=9∨i=10∨i=11 by omega) with rfl|rfl|rfl|rfl|rfl|rfl|rfl|rfl|rfl|rfl|rfl|rfl
     ·cases ho
      exact .same (uo 8 _ rfl (hk 8)) rfl
     ·cases ho
      exact .same (uo 7 _ rfl (hk 7)) rfl
     ·cases ho
      exact .same (uo 12 _ rfl (hk 12)) rfl
     ·cases ho
      have h56:A0.tmps[56]?.getD undef=.slice (some ax) nx cx:=hin 1 56
      have h57:A0.tmps[57]?.getD undef=.int .i64 i:=hin 2 57
      exact .same (by simp [go_sem,h56,h57,q0,q1,hlt]) rfl
     ·cases ho
      have h58:A0.tmps[58]?.getD undef=.pointer (some (ax.add (i * 3))):=hin 3 58
      exact .same (vu 58 _ rfl vd (ax.add (i * 3)) [.string r.name,.slice A1 n1 c1,.int .i64 st] h58 rfl (DA.out.chg hN id)) rfl
     ·cases ho
      have h55:A0.tmps[55]?.getD undef=.slice Al nl cl:=hin 0 55
      have h59:A0.tmps[59]?.getD undef=.agg #[.string r.name,.slice A1 n1 c1,.int .i64 st]:=hin 4 59
      refine .call (f:=19) (args:=#[.slice Al nl cl,.agg #[.string r.name,.slice A1 n1 c1,.int .i64 st]]) (W':=W) ?_ ((HFd.out W (DN.out.trans hN qdr)).mono ?_)
      ·simp [go_sem,h55,h59,HeF.out]
      ·rintro e w' ⟨rfl,hc⟩
       exact ⟨_,rfl,hc,rfl⟩
     ·cases ho
      exact .same (uo 7 _ rfl (hk 7)) rfl
     ·cases ho
      exact .same (uo 12 _ rfl (hk 12)) rfl
     ·cases ho
      have h61:A0.tmps[61]?.getD undef=.slice (some ax) nx cx:=hin 6 61
      have h62:A0.tmps[62]?.getD undef=.int .i64 i:=hin 7 62
      exact .same (by simp [go_sem,h61,h62,q0,q1,hlt]) rfl
     ·cases ho
      have h63:A0.tmps[63]?.getD undef=.pointer (some (ax.add (i * 3))):=hin 8 63
      exact .same (by simp [go_sem,h63]) rfl
     ·cases ho
      have h64:A0.tmps[64]?.getD undef=.pointer (some ⟨(ax.add (i * 3)).block,(ax.add (i * 3)).off+2,none⟩):=hin 9 64
      have hcx:W.cell? ⟨(ax.add (i * 3)).block,(ax.add (i * 3)).off+2,none⟩=some (.int .i64 st):=(congrArg W.cell? (gk (ax.add (i * 3)) 1)).symm.trans ((DA.out.chg hN id) 2 _ rfl)
      exact .same (v:=.int .i64 st) (by simp [go_sem,h64,hcx]) rfl
     ·cases ho
      have h60:A0.tmps[60]?.getD undef=.int .i64 q:=hin 5 60
      have h65:A0.tmps[65]?.getD undef=.int .i64 st:=hin 10 65
      exact .same (by simp [go_sem,h60,h65,hqs]) rfl
    obtain ⟨x55,x56,x57,x58,x59,x60,x61,x62,x63,x64,x65,x66,rfl⟩:∃ x55 x56 x57 x58 x59 x60 x61 x62 x63 x64 x65 x66,l=[x55,x56,x57,x58,x59,x60,x61,x62,x63,x64,x65,x66]:=by
     match l,hl with
     | [x55,x56,x57,x58,x59,x60,x61,x62,x63,x64,x65,x66],_=>exact ⟨_,_,_,_,_,_,_,_,_,_,_,_,rfl⟩
    obtain rfl:x55=.slice Al nl cl:=hΦ 0 (by decide)
    obtain rfl:x56=.slice (some ax) nx cx:=hΦ 1 (by decide)
    obtain rfl:x57=.int .i64 i:=hΦ 2 (by decide)
    obtain rfl:x58=.pointer (some (ax.add (i * 3))):=hΦ 3 (by decide)
    obtain rfl:x59=.agg #[.string r.name,.slice A1 n1 c1,.int .i64 st]:=hΦ 4 (by decide)
    obtain rfl:x60=.int .i64 q:=hΦ 5 (by decide)
    obtain rfl:x61=.slice (some ax) nx cx:=hΦ 6 (by decide)
    obtain rfl:x62=.int .i64 i:=hΦ 7 (by decide)
    obtain rfl:x63=.pointer (some (ax.add (i * 3))):=hΦ 8 (by decide)
    obtain rfl:x64=.pointer (some ⟨(ax.add (i * 3)).block,(ax.add (i * 3)).off+2,none⟩):=hΦ 9 (by decide)
    obtain rfl:x65=.int .i64 st:=hΦ 10 (by decide)
    obtain rfl:x66=.bool false:=hΦ 11 (by decide)
    simp only [putsL,zq,zj,zz,List.zip,List.zipWith,Act.put,qk,qu,qy]
    clear hΦ hl
    refine AtN.done rfl ?_
    go_wp2_with fail
    go_roundw
    case rel=>exact ⟨i+1,by omega,by go_num,HNr.out.trans (DN.out.trans hN qdr) qdr⟩
    case measure=>simp [intOf];omega
   ·have HN7:=qq (HN6.out.trans HNr.out qdr)
    have HBr:=qq (HBP.out.chg HNr.out id)
    go_wp2_with fail
    go_loopw [13] (fun u13 wr=>∃ i:Nat,i≤nr∧u13=.int .i64 i∧New w6 wr) (fun u _=>nr - (intOf u).toNat)
    case atStart=>exact ⟨0,qr _,rfl,HNr.out⟩
    case round=>
     clear HNr HN7 HBr hlt
     obtain ⟨k,hk,rfl,hN⟩:=hrel
     have HNk:=qq hN
     have e2:=(HBP.out.chg hN id).cell 2
     simp only [qx,qj,qw] at e2
     clear hN
     by_cases hlt:k < nr
     ·obtain ⟨r,hr⟩:∃ r,rs[k]? =some r:=⟨_,qz (by rw [Hnr.out];exact hlt)⟩
      obtain ⟨cs,hcs⟩:∃ cs,css[k]? =some cs:=⟨_,qz (by rw [HRu.out.len,Hnr.out];exact hlt)⟩
      obtain ⟨ad,rfl,hrw⟩:=HRu.out.src (by rw [HRu.out.len,Hnr.out];omega)
      have hru:=HRu.out.at_ k cs r hcs hr
      obtain ⟨lab,Aa,ca,Ab,cb,he⟩:=hru.form
      obtain rfl:cs=[.string lab,.string r.h,.slice Aa r.ts.length ca,.string r.agg,.int .i64 r.at',.slice Ab r.Ls.length cb]:=by
       injection he with he
       simpa using congrArg Array.toList he
      have Hat:=qq ((hrw k _ hcs).2.chg HNk.out id)
      have hgr:=gruleV wr _ (.slice Al nl cl) r (hru.chg HNk.out) (Hok.out r (qf hr)) m (HSl.out.chg HNk.out) HFm.out.ok (qb (kx m) (by have:=Hnl.out;omega))
      have HFy:=qq (HFr.out r (qf hr))
      obtain ⟨n1,hn1⟩:=qdp (r.ts.length)
      obtain ⟨nb,hnb⟩:=qdp (r.Ls.length)
      rw [hn1,hnb] at Hat hgr
      have HGr:=qq hgr
      have q0:(0:Int)≤(k:Int):=by omega
      have q1:(k:Int) < (nr:Int):=by omega
      clear hrw hcs hr he hru hn1 hnb hgr
      go_wp2_with first
       | ((with_reducible refine vq rfl (.tmp 77) 47 rfl xt (ad.add (k * 6)) [.string lab,.string r.h,.slice Aa n1 ca,.string r.agg,.int .i64 r.at',.slice Ab nb cb] ?_ rfl Hat.out ?_);exact rfl)
       | (go_at_call 20;refine HGr.out.mono ?_;rintro e w8 ⟨vy,rfl,hsy,hn8⟩;have HN8:=qq (HNk.out.trans hn8 qdr);have HSy:=qq hsy;obtain ⟨Ay,cy,rfl,-⟩:=hsy.form;clear hsy hn8)
      obtain ⟨y,hy⟩:=qdp (ruleV r m)
      rw [hy] at HSy HFy⊢
      obtain ⟨ny,hny⟩:=qdp (y.length)
      have hyb:ny≤100000000:=by
       obtain ⟨_,_,_,-,h2,-⟩:=HSy.out
       omega
      rw [hny] at HSy⊢
      have Hny:=qq hny
      clear hy hny HGr e2
      go_loopw [15] (fun u15 wr=>∃ i:Nat,i≤ny∧u15=.int .i64 i∧New w8 wr) (fun u _=>ny - (intOf u).toNat)
      case atStart=>exact ⟨0,qr _,rfl,Chg.refl _ _⟩
      case round=>
       obtain ⟨j,hj,rfl,hN⟩:=hrel
       have HNj:=qq hN
       have HNr:=qq (HN8.out.trans hN qdr)
       clear hN
       by_cases hltj:j < ny
       ·obtain ⟨r,hr⟩:∃ r,y[j]? =some r:=⟨_,qz (by rw [Hny.out];exact hltj)⟩
        have HQ:=qq (HFy.out r (qf hr))
        obtain ⟨ax,cs,rfl,hat,-,hra⟩:=(HSy.out.chg HNj.out).row hr
        obtain ⟨A1,c1,rfl,-⟩:=id hra
        obtain ⟨st,hst⟩:=qdp (r.stamp)
        obtain ⟨n1,hn1⟩:=qdp (r.args.length)
        obtain ⟨q,hq⟩:=qdp (findS m r)
        have hfd:=fun W (hW:New wr W)=>rx W _ m ((HSl.out.chg HNr.out).chg hW) _ r (hra.chg hW)
        rw [hst,hn1,hq] at hfd
        rw [hst,hn1] at hat
        rw [hst,hq] at HQ
        have HFd:=qq hfd
        have Hat:=qq hat
        have hqs:¬ q < st:=by have:=HQ.out;omega
        have q0:(0:Int)≤(j:Int):=by omega
        have q1:(j:Int) < (ny:Int):=by omega
        clear hr hat hra hst hn1 hq hfd
        go_upto_region 20 with fail
        refine vj (by kernel_rfl) ?_
        have hnd:New wr wr.drew:=(Chg.refl _ _).drew
        have DA:=qq (Hat.out.chg hnd id)
        have DN:=qq hnd
        clear hnd
        generalize wr.drew=wd at DA DN⊢
        refine AtN.segN2 0 12 [87,88,89,90,91,92,93,94,95,96,97,98] (fun
         |0=>fun vv _=>vv=.slice Al nl cl
         |1=>fun vv _=>vv=.slice (some ax) ny cy
         |2=>fun vv _=>vv=.int .i64 j
         |3=>fun vv _=>vv=.pointer (some (ax.add (j * 3)))
         |4=>fun vv _=>vv=.agg #[.string r.name,.slice A1 n1 c1,.int .i64 st]
         |5=>fun vv _=>vv=.int .i64 q
         |6=>fun vv _=>vv=.slice (some ax) ny cy
         |7=>fun vv _=>vv=.int .i64 j
         |8=>fun vv _=>vv=.pointer (some (ax.add (j * 3)))
         |9=>fun vv _=>vv=.pointer (some ⟨(ax.add (j * 3)).block,(ax.add (j * 3)).off+2,none⟩)
         |10=>fun vv _=>vv=.int .i64 st
         |11=>fun vv _=>vv=.bool false
         |_=>fun _ _=>True) (by kernel_rfl) (by kernel_rfl) (by kernel_rfl) (by kernel_rfl) (fun j v w1 w2 hc h=>?_) (fun i hn hi o ho A0 W hN hin hk=>?_) (fun l W7 hN hl hΦ=>?_)
        ·match j with
         |0|1|2|3|4|5|6|7|8|9|10|11=>exact h
         |_+12=>trivial
        ·rcases (show i=0∨i=1∨i=2∨i=3∨i=4∨i=5∨i=6∨i=7∨i=8∨i=9∨i=10∨i=11 by omega) with rfl|rfl|rfl|rfl|rfl|rfl|rfl|rfl|rfl|rfl|rfl|rfl
         ·cases ho
          exact .same (uo 8 _ rfl (hk 8)) rfl
         ·cases ho
          exact .same (uo 14 _ rfl (hk 14)) rfl
         ·cases ho
          exact .same (uo 15 _ rfl (hk 15)) rfl
         ·cases ho
          have h88:A0.tmps[88]?.getD undef=.slice (some ax) ny cy:=hin 1 88
          have h89:A0.tmps[89]?.getD undef=.int .i64 j:=hin 2 89
          exact .same (by simp [go_sem,h88,h89,q0,q1,hltj]) rfl
         ·cases ho
          have h90:A0.tmps[90]?.getD undef=.pointer (some (ax.add (j * 3))):=hin 3 90
          exact .same (vu 90 _ rfl vd (ax.add (j * 3)) [.string r.name,.slice A1 n1 c1,.int .i64 st] h90 rfl (DA.out.chg hN id)) rfl
         ·cases ho
          have h87:A0.tmps[87]?.getD undef=.slice Al nl cl:=hin 0 87
          have h91:A0.tmps[91]?.getD undef=.agg #[.string r.name,.slice A1 n1 c1,.int .i64 st]:=hin 4 91
          refine .call (f:=19) (args:=#[.slice Al nl cl,.agg #[.string r.name,.slice A1 n1 c1,.int .i64 st]]) (W':=W) ?_ ((HFd.out W (DN.out.trans hN qdr)).mono ?_)
          ·simp [go_sem,h87,h91,HeF.out]
          ·rintro e w' ⟨rfl,hc⟩
           exact ⟨_,rfl,hc,rfl⟩
         ·cases ho
          exact .same (uo 14 _ rfl (hk 14)) rfl
         ·cases ho
          exact .same (uo 15 _ rfl (hk 15)) rfl
         ·cases ho
          have h93:A0.tmps[93]?.getD undef=.slice (some ax) ny cy:=hin 6 93
          have h94:A0.tmps[94]?.getD undef=.int .i64 j:=hin 7 94
          exact .same (by simp [go_sem,h93,h94,q0,q1,hltj]) rfl
         ·cases ho
          have h95:A0.tmps[95]?.getD undef=.pointer (some (ax.add (j * 3))):=hin 8 95
          exact .same (by simp [go_sem,h95]) rfl
         ·cases ho
          have h96:A0.tmps[96]?.getD undef=.pointer (some ⟨(ax.add (j * 3)).block,(ax.add (j * 3)).off+2,none⟩):=hin 9 96
          have hcx:W.cell? ⟨(ax.add (j * 3)).block,(ax.add (j * 3)).off+2,none⟩=some (.int .i64 st):=(congrArg W.cell? (gk (ax.add (j * 3)) 1)).symm.trans ((DA.out.chg hN id) 2 _ rfl)
          exact .same (v:=.int .i64 st) (by simp [go_sem,h96,hcx]) rfl
         ·cases ho
          have h92:A0.tmps[92]?.getD undef=.int .i64 q:=hin 5 92
          have h97:A0.tmps[97]?.getD undef=.int .i64 st:=hin 10 97
          exact .same (by simp [go_sem,h92,h97,hqs]) rfl
        obtain ⟨x87,x88,x89,x90,x91,x92,x93,x94,x95,x96,x97,x98,rfl⟩:∃ x87 x88 x89 x90 x91 x92 x93 x94 x95 x96 x97 x98,l=[x87,x88,x89,x90,x91,x92,x93,x94,x95,x96,x97,x98]:=by
         match l,hl with
         | [x87,x88,x89,x90,x91,x92,x93,x94,x95,x96,x97,x98],_=>exact ⟨_,_,_,_,_,_,_,_,_,_,_,_,rfl⟩
        obtain rfl:x87=.slice Al nl cl:=hΦ 0 (by decide)
        obtain rfl:x88=.slice (some ax) ny cy:=hΦ 1 (by decide)
        obtain rfl:x89=.int .i64 j:=hΦ 2 (by decide)
        obtain rfl:x90=.pointer (some (ax.add (j * 3))):=hΦ 3 (by decide)
        obtain rfl:x91=.agg #[.string r.name,.slice A1 n1 c1,.int .i64 st]:=hΦ 4 (by decide)
        obtain rfl:x92=.int .i64 q:=hΦ 5 (by decide)
        obtain rfl:x93=.slice (some ax) ny cy:=hΦ 6 (by decide)
        obtain rfl:x94=.int .i64 j:=hΦ 7 (by decide)
        obtain rfl:x95=.pointer (some (ax.add (j * 3))):=hΦ 8 (by decide)
        obtain rfl:x96=.pointer (some ⟨(ax.add (j * 3)).block,(ax.add (j * 3)).off+2,none⟩):=hΦ 9 (by decide)
        obtain rfl:x97=.int .i64 st:=hΦ 10 (by decide)
        obtain rfl:x98=.bool false:=hΦ 11 (by decide)
        simp only [putsL,zq,zj,zz,List.zip,List.zipWith,Act.put,qk,qu,qy]
        clear hΦ hl
        refine AtN.done rfl ?_
        go_wp2_with fail
        go_roundw
        case rel=>exact ⟨j+1,by omega,by go_num,HNj.out.trans (DN.out.trans hN qdr) qdr⟩
        case measure=>simp [intOf];omega
       ·go_wp2_with fail
        go_roundw
        case rel=>exact ⟨k+1,by omega,by go_num,HNr.out⟩
        case measure=>simp [intOf];omega
     ·have hm':(nl:Int)≤48:=by omega
      have HNf:=qq (HN6.out.trans HNk.out qdr)
      go_wp2_with fail
      go_ret
      exact ⟨rfl,HNf.out⟩
end Go.Proofs.YtbpgfnbhihklnaaGreat
namespace Go.Proofs.YtbpgfnbhihklnaaGreat.FixClosed
open Go.ChangeShapes Go.WideShapes Go.ChangeAt Go.RowKit
theorem own:ownKnob Tryz.prog.godebug=none:=by kernel_rfl
theorem laid:laidOutB Tryz.prog=true:=by kernel_rfl
theorem fm (os:Os) (started:os.Started) (H:Type) (enc:TypeId×Value→H):
  ReturnsInHanded {} Tryz.checked os 3 .any (Rows.fixClosedSpec.pre6 enc Tryz.prog Tryz.f3 Rows.fixClosedRow.domain false) (Rows.fixClosedSpec.post enc Tryz.prog Tryz.f3 false true false false):=by
 refine returnsInHanded_of_change (C:=Tryz.checked) own started (by kernel_rfl) Tryz.func3
  (ChangeSpec.witness6 (enc:=enc) (C:=Tryz.checked) false ⟨#[],#[.slice none 0 0,.slice none 0 0],[]⟩ 8 (by kernel_rfl) (by kernel_rfl) (by kernel_rfl) (by kernel_rfl)) ?_
 intro W base args ds gs before hval0 hW hcnd _
 have hval:∀ (j:Nat) t v,Tryz.f3.params[j]? =some t→args[j]? =some v→Value.okWide Tryz.prog W .any base t v:=hval0
 have hW':=hW
 obtain ⟨p,q,hA0,hV,rfl,hfz,hnd⟩:=hW
 have hA:DataW.TrodAll enc Tryz.prog W 0 (fun _=>true) true Tryz.f3.params.toList args.toList ds p:=hA0
 rw [Tryz.params3] at hA hval
 obtain ⟨v0,vs0,d0,ds0,p0,q0,hargs,rfl,rfl,h0,r0⟩:=trodAll_cons hA
 obtain ⟨v1,vs1,d1,ds1,p1,q1,rfl,rfl,rfl,h1,r1⟩:=trodAll_cons r0
 obtain ⟨rfl,rfl,rfl⟩:=trodAll_nil r1
 obtain rfl:args=#[v0,v1]:=by cases args;simp_all
 obtain ⟨rfl,rfl⟩:=trodVars_none hV
 obtain ⟨n0,hx0⟩:=ks Tryz.underlying22 (by kernel_rfl) Tryz.underlying23 (by kernel_rfl) (hval 0 22 v0 rfl rfl) h0 (gw Tryz.underlying75 Tryz.underlying3 Tryz.underlying3 ⟨rfl,rfl,rfl⟩ ⟨by kernel_rfl,by kernel_rfl,by kernel_rfl⟩ (xi (C:=4) Tryz.underlying73 Tryz.underlying3 (by kernel_rfl)))
 obtain ⟨n1,X1,hx1⟩:=kh Tryz.underlying23 (by kernel_rfl) (by decide) (hval 1 23 v1 rfl rfl) h1 (gw Tryz.underlying75 Tryz.underlying3 Tryz.underlying3 ⟨rfl,rfl,rfl⟩ ⟨by kernel_rfl,by kernel_rfl,by kernel_rfl⟩ (xi (C:=4) Tryz.underlying73 Tryz.underlying3 (by kernel_rfl)))
 refine (walk_FixClosed W v0 n0 hx0 v1 n1 X1 hx1).mono fun e W' ⟨he,hg⟩=>?_
 subst he
 exact ⟨_,rfl,mw laid rfl hW' (by kernel_rfl) hg (tb:=4) rfl Tryz.underlying4 ⟨rfl,rfl,rfl⟩⟩
theorem over:Rows.fixClosedRow.holds Tryz.pinned (OpenSpec.ofChange Rows.fixClosedSpec):=
 OpenClaim.holds_of_wide 3 Tryz.f3 rfl rfl rfl rfl rfl rfl rfl ⟨rfl,rfl,rfl,rfl,rfl⟩ rfl rfl rfl rfl rfl (by kernel_rfl) Tryz.func3 (by kernel_rfl)
  (of_decide_eq_true (by kernel_rfl)) (by unfold Func.isWrapper;first| (rw [if_pos (by decide+kernel)];kernel_rfl)| (rw [if_neg (by decide+kernel)];exact ⟨rfl,rfl⟩))
  (fun os started H enc _=>fm os started H enc)
theorem proved:Rows.FixClosedSaid:=
 over
#print axioms proved
end Go.Proofs.YtbpgfnbhihklnaaGreat.FixClosed
