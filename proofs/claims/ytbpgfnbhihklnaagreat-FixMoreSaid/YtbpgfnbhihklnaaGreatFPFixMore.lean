/- FixMore: the walk and the statement. -/
import Derived.Test.YtbpgfnbhihklnaaGreatF12
set_option maxHeartbeats 8000000
set_option maxRecDepth 100000
set_option linter.all false
namespace Go.Proofs.YtbpgfnbhihklnaaGreat
open Go.RowKit Go.Shelf
theorem nx_nil (w:World):NxAt w w (.slice none 0 0) []:=⟨[],Own.nil w w.heap.size 42 3,⟨rfl,fun i cs h=>by simp at h⟩⟩
theorem NxAt.sl {wc W:World} {v:Value} {qs:List Rw} (h:NxAt wc W v qs) (hl:qs.length≤100000000):RowSl W v qs:=by
 obtain ⟨cso,h1,h2⟩:=h
 exact h1.rowSl h2 hl
theorem walk_FixMore (w:World) (v0:Value) (n0:Nat) (hx0:IntsAts w v0 n0) (v1:Value) (n1:Nat) (X1:Nat→Int) (hx1:IntsAt w v1 6 n1 X1) (v2:Value) (n2:Nat) (X2:Nat→Int) (hx2:IntsAt w v2 6 n2 X2):Calls Tryz.prog 5 #[v0,v1,v2] w fun e w'=>e=.returned (.bool true)∧New w w':=by
 have HX0:=qq hx0
 have HX1:=qq hx1
 have HX2:=qq hx2
 clear hx0 hx1 hx2
 go_enter Tryz.func5,Tryz.ntmps5
 go_upto_region 2 with (go_at_call 14;refine (ni _).mono ?_;rintro e w1 ⟨rfl,hN1⟩;have HN1:=qq hN1;clear hN1)
 go_upto_region 3 with (go_at_call 15;refine (fq _ _ _ (HX0.out.chg HN1.out)).mono ?_;rintro e w2 ⟨vp,rs,rfl,hpg,hraw,hn2⟩;have HN2:=qq (HN1.out.trans hn2 qdr);have HPg:=qq hpg;have HRaw:=qq hraw;obtain ⟨d,Af,nf,cf,Ar,cr,css,rfl,hru,hl6⟩:=hpg.form;have HRu:=qq hru;obtain ⟨nr,hnr⟩:=qdp (rs.length);have Hnr:=qq hnr;rw [hnr] at HPg hl6⊢;clear hpg hraw hn2 hru hnr)
 obtain ⟨w3,hw3⟩:=qdq (w2.alloc (.cells #[.slice (some ⟨d,0,none⟩) 6 6,.slice Af nf cf,.slice Ar nr cr] 29))
 have hn3:New w2 w3:=by rw [hw3];exact (Chg.refl _ _).alloc _
 have HN3:=qq (HN2.out.trans hn3 qdr)
 have HPg:=qq (HPg.out.chg hn3)
 have HRu:=qq (HRu.out.chg hn3)
 have HBP:=qq (show Blk w3 w2.heap.size 29 #[.slice (some ⟨d,0,none⟩) 6 6,.slice Af nf cf,.slice Ar nr cr] by rw [hw3];exact Blk.new w2 _ _)
 rw [←hw3]
 obtain ⟨b6,hb6⟩:=qdp (w2.heap.size)
 rw [hb6] at HBP⊢
 clear hw3 hn3 hb6
 have hpl:=iv w3 (.agg #[.slice (some ⟨d,0,none⟩) 6 6,.slice Af nf cf,.slice Ar nr cr]) rs HPg.out (nu HRaw.out)
 obtain ⟨R,hR⟩:=qdp (plB rs)
 rw [hR] at hpl
 have HPl:=qq hpl
 have HR:=qq hR
 clear hpl hR
 cases R with
 |false=>
  go_wp2_with first
   | ((with_reducible refine vq rfl (.tmp 8) 29 rfl xp ⟨b6,0,none⟩ [.slice (some ⟨d,0,none⟩) 6 6,.slice Af nf cf,.slice Ar nr cr] ?_ rfl HBP.out.at_ ?_);exact rfl)
   | (go_at_call 23;refine HPl.out.mono ?_;rintro e w3p ⟨rfl,hn6⟩;have HN3:=qq (HN3.out.trans hn6 qdr);have HPg:=qq (HPg.out.chg hn6);have HRu:=qq (HRu.out.chg hn6);have HBP:=qq (HBP.out.chg hn6 id);clear hn6)
  go_ret
  exact ⟨rfl,HN3.out⟩
 |true=>
  have HPr:=qq (we HR.out)
  go_upto_region 5 with first
   | ((with_reducible refine vq rfl (.tmp 8) 29 rfl xp ⟨b6,0,none⟩ [.slice (some ⟨d,0,none⟩) 6 6,.slice Af nf cf,.slice Ar nr cr] ?_ rfl HBP.out.at_ ?_);exact rfl)
   | (go_at_call 23;refine HPl.out.mono ?_;rintro e w3p ⟨rfl,hn6⟩;have HN3:=qq (HN3.out.trans hn6 qdr);have HPg:=qq (HPg.out.chg hn6);have HRu:=qq (HRu.out.chg hn6);have HBP:=qq (HBP.out.chg hn6 id);clear hn6)
  clear HPl HR
  go_upto_region 6 with (go_at_call 16;refine (tq _ _ _ _ (HX1.out.chg HN3.out) 8 (by omega)).mono ?_;rintro e w4 ⟨vx,x,rfl,hsx,hlx,hgx,hn4⟩;have HN4:=qq (HN3.out.trans hn4 qdr);have HG:=qq hgx;have HSx:=qq hsx;have HPg:=qq (HPg.out.chg hn4);have HRu:=qq (HRu.out.chg hn4);have HBP:=qq (HBP.out.chg hn4 id);have Hlx:=qq hlx;clear hsx hgx hn4 hlx)
  obtain ⟨Ax,cx,rfl,-⟩:=HSx.out.form
  obtain ⟨nx,hnx⟩:=qdp (x.length)
  rw [hnx] at HSx Hlx⊢
  have Hnx:=qq hnx
  have hlx:=Hlx.out
  clear hnx
  have HGo:=qq (ln HG.out)
  have Hok:=qq (pd HRaw.out)
  have HFix:=qq (fun W (hW:New w4 W) u y (hu:RowSl W u y) (ho:OkR y) (hs:StR y) q (hq:q≤48)=>rm W _ rs (HPg.out.chg hW) (nu HRaw.out) (lv HRaw.out) (pd HRaw.out) u y hu ho hs q hq)
  obtain ⟨v1',W1,hr1,hx1,hN1⟩:=qan (nx_nil w4) (Chg.refl _ _) HSx.out (by rw [Hnx.out];simp;omega) 31
  rw [jq] at hx1
  have Hr1:=qq hr1
  have HX1':=qq hx1
  have HNa:=qq hN1
  clear hr1 hx1 hN1
  go_upto_region 7 with first
   | ((with_reducible refine xu rfl (.const (.slice none 0 0)) (.tmp 32) 31 31 rfl ?_ ?_ Hr1.out ?_);exact rfl;exact rfl)
   | ((with_reducible refine xu rfl (.tmp 33) (.tmp 35) 31 31 rfl ?_ ?_ Hr3.out ?_);exact rfl;exact rfl)
   | (go_at_call 16;refine (tq _ _ _ _ (HX2.out.chg (HN4.out.trans HNa.out qdr)) 8 (by omega)).mono ?_;rintro e w5 ⟨vy,y,rfl,hsy,hly,hgy,hn5⟩;obtain ⟨v3,W3,hr3,hx3,hn3⟩:=qan (HX1'.out.chg hn5) (HNa.out.trans hn5 qdr) hsy (by rw [Hnx.out];omega) 31;have Hr3:=qq hr3;have HX3:=qq hx3;have HNz:=qq hn3;have HGy:=qq hgy;have Hly:=qq hly;clear hsy hly hgy hn5 hr3 hx3 hn3)
  have HGz:=qq (ln (x:=x++y) fun r hr=>(zk.1 hr).elim (HG.out r) (HGy.out r))
  have hzl:(x++y).length≤16:=by
   rw [qg]
   have h1:=Hnx.out
   have h2:=Hly.out
   omega
  have HSz:=qq (HX3.out.sl (by omega))
  have HXz:=qq (Under.sub fun r hr=>zk.2 (.inl hr):Under x (x++y))
  obtain ⟨z,hz⟩:=qdp (x++y)
  rw [hz] at hzl HSz HGz HXz
  obtain ⟨Az,cz,rfl,-⟩:=HSz.out.form
  obtain ⟨nz,hnz⟩:=qdp (z.length)
  rw [hnz] at HSz hzl⊢
  have Hnz:=qq hnz
  clear HX3 HX1' Hr1 Hr3 hz hnz HGy Hly
  have HBP:=qq (HBP.out.chg HNz.out id)
  have HF1:=qq (HFix.out W3 HNz.out _ x (HSx.out.chg HNz.out) HGo.out.1 HGo.out.2 48 (by omega))
  go_upto_region 8 with first
   | ((with_reducible refine vq rfl (.tmp 8) 29 rfl xp ⟨b6,0,none⟩ [.slice (some ⟨d,0,none⟩) 6 6,.slice Af nf cf,.slice Ar nr cr] ?_ rfl HBP.out.at_ ?_);exact rfl)
   | (go_at_call 17;refine HF1.out.mono ?_;rintro e w7 ⟨va,ma,b,rfl,hsl,hfx,hn5⟩;have HN7:=qq (HNz.out.trans hn5 qdr);have HSa:=qq hsl;have HF:=qq hfx;have HBP:=qq (HBP.out.chg hn5 id);have HN7':=hn5;clear hsl hfx hn5)
  obtain ⟨Aa,ca,rfl,-⟩:=HSa.out.form
  obtain ⟨na,hla⟩:=qdp ((ma.take 48).length)
  rw [hla] at HSa⊢
  have Hla:=qq hla
  clear hla
  have HF2:=qq (HFix.out w7 HN7.out _ z (HSz.out.chg HN7') HGz.out.1 HGz.out.2 48 (by omega))
  go_upto_region 9 with first
   | ((with_reducible refine vq rfl (.tmp 8) 29 rfl xp ⟨b6,0,none⟩ [.slice (some ⟨d,0,none⟩) 6 6,.slice Af nf cf,.slice Ar nr cr] ?_ rfl HBP.out.at_ ?_);exact rfl)
   | (go_at_call 17;refine HF2.out.mono ?_;rintro e w8 ⟨vl,m,b2,rfl,hsl,hfx,hn5⟩;have HN8:=qq (HN7.out.trans hn5 qdr);have HSl:=qq hsl;have HFb:=qq hfx;have HBP:=qq (HBP.out.chg hn5 id);have HSa:=qq (HSa.out.chg hn5);have HN8':=qq hn5;clear hsl hfx hn5)
  obtain ⟨Al,cl,rfl,-⟩:=HSl.out.form
  clear HF1 HF2
  cases b2 with
  |false=>
   go_wp2_with fail
   go_ret
   exact ⟨rfl,HN4.out.trans HN8.out qdr⟩
  |true=>
   obtain ⟨rfl,hab⟩:=fix_mono HPr.out Hok.out HGo.out HGz.out HXz.out HF.out HFb.out
   obtain ⟨s,hs,hm,hfm,hux,hcl⟩:=pc Hok.out (by omega) HGz.out.1 HGz.out.2 HFb.out
   obtain ⟨-,-,hma,hfa,-,-⟩:=pc Hok.out (by omega) HGo.out.1 HGo.out.2 HF.out
   have HFi:=qq (fo hab hfm)
   have HFz:=qq hfm
   have HFa:=qq hfa
   rw [qc hm] at HSl⊢
   rw [qc hma] at HSa
   have hna:ma.length=na:=by rw [←Hla.out,qc hma]
   obtain ⟨nl,hnl⟩:=qdp (m.length)
   rw [hnl] at HSl hm⊢
   rw [hna] at hma
   have Hnl:=qq hnl
   have Hna:=qq hna
   have HSz:=qq (HSz.out.chg (HN7'.trans HN8'.out qdr))
   have HRu:=qq (HRu.out.chg (HNz.out.trans (HN7'.trans HN8'.out qdr) qdr))
   have HNN:=qq (HN4.out.trans HN8.out qdr)
   have hN7:=HN7'
   clear hs hab hfm hfa hux hcl hnl hna HN7' hN7 HN8' HN7 HNz HN4 HFix
   have HeF:=qq (show ∀ (args:Array Value) (w:World),(callFunc 19 args).run Tryz.prog w=.ok (.enter 19 args) w from enters_of Tryz.func19 (by kernel_rfl) rfl)
   go_wp2_with fail
   go_loopw [15] (fun u15 wr=>∃ i:Nat,i≤na∧u15=.int .i64 i∧New w8 wr) (fun u _=>na - (intOf u).toNat)
   case atStart=>exact ⟨0,qr _,rfl,Chg.refl _ _⟩
   case round=>
    obtain ⟨i,hi,rfl,hN⟩:=hrel
    have HNr:=qq hN
    clear hN
    by_cases hlt:i < na
    ·obtain ⟨r,hr⟩:∃ r,ma[i]? =some r:=⟨_,qz (by rw [Hna.out];exact hlt)⟩
     have HQ:=qq (HFi.out r (qf hr))
     obtain ⟨ax,cs,rfl,hat,-,hra⟩:=(HSa.out.chg HNr.out).row hr
     obtain ⟨A1,c1,rfl,-⟩:=id hra
     obtain ⟨st,hst⟩:=qdp (r.stamp)
     obtain ⟨n1,hn1⟩:=qdp (r.args.length)
     obtain ⟨q,hq⟩:=qdp (findS m r)
     have hfd:=fun W (hW:New wr W)=>rx W _ m ((HSl.out.chg HNr.out).chg hW) _ r (hra.chg hW)
     rw [hst,hn1,hq] at hfd
     rw [hst,hn1] at hat
     rw [hst,hq] at HQ
     have HFd:=qq hfd
     have Hat:=qq hat
     have hqs:¬ q < st:=by have:=HQ.out;omega
     have q0:(0:Int)≤(i:Int):=by omega
     have q1:(i:Int) < (na:Int):=by omega
     clear hr hat hra hst hn1 hq hfd
     go_upto_region 14 with fail
     refine vj (by kernel_rfl) ?_
     have hnd:New wr wr.drew:=(Chg.refl _ _).drew
     have DA:=qq (Hat.out.chg hnd id)
     have DN:=qq hnd
     clear hnd
     generalize wr.drew=wd at DA DN⊢
     refine AtN.segN2 0 12 [58,59,60,61,62,63,64,65,66,67,68,69] (fun
      |0=>fun vv _=>vv=.slice Al nl cl
      |1=>fun vv _=>vv=.slice (some ax) na ca
      |2=>fun vv _=>vv=.int .i64 i
      |3=>fun vv _=>vv=.pointer (some (ax.add (i * 3)))
      |4=>fun vv _=>vv=.agg #[.string r.name,.slice A1 n1 c1,.int .i64 st]
      |5=>fun vv _=>vv=.int .i64 q
      |6=>fun vv _=>vv=.slice (some ax) na ca
      |7=>fun vv _=>vv=.int .i64 i
      |8=>fun vv _=>vv=.pointer (some (ax.add (i * 3)))
      |9=>fun vv _=>vv=.pointer (some ⟨(ax.add (i * 3)).block,(ax.add (i * 3)).off+2,none⟩)
      |10=>fun vv _=>vv=.int .i64 st
      |11=>fun vv _=>vv=.bool false
      |_=>fun _ _=>True) (by kernel_rfl) (by kernel_rfl) (by kernel_rfl) (by kernel_rfl) (fun j v w1 w2 hc h=>?_) (fun i hn hi o ho A0 W hN hin hk=>?_) (fun l W7 hN hl hΦ=>?_)
     ·match j with
      |0|1|2|3|4|5|6|7|8|9|10|11=>exact h
      |_+12=>trivial
     ·rcases (show i=0∨i=1∨i=2∨i=3∨i=4∨i=5∨i=6∨i=7∨i=8∨i=9∨i=10∨i=11 by omega) with rfl|rfl|rfl|rfl|rfl|rfl|rfl|rfl|rfl|rfl|rfl|rfl
      ·cases ho
       exact .same (uo 13 _ rfl (hk 13)) rfl
      ·cases ho
       exact .same (uo 11 _ rfl (hk 11)) rfl
      ·cases ho
       exact .same (uo 15 _ rfl (hk 15)) rfl
      ·cases ho
       have h59:A0.tmps[59]?.getD undef=.slice (some ax) na ca:=hin 1 59
       have h60:A0.tmps[60]?.getD undef=.int .i64 i:=hin 2 60
       exact .same (by simp [go_sem,h59,h60,q0,q1,hlt]) rfl
      ·cases ho
       have h61:A0.tmps[61]?.getD undef=.pointer (some (ax.add (i * 3))):=hin 3 61
       exact .same (vu 61 _ rfl vd (ax.add (i * 3)) [.string r.name,.slice A1 n1 c1,.int .i64 st] h61 rfl (DA.out.chg hN id)) rfl
      ·cases ho
       have h58:A0.tmps[58]?.getD undef=.slice Al nl cl:=hin 0 58
       have h62:A0.tmps[62]?.getD undef=.agg #[.string r.name,.slice A1 n1 c1,.int .i64 st]:=hin 4 62
       refine .call (f:=19) (args:=#[.slice Al nl cl,.agg #[.string r.name,.slice A1 n1 c1,.int .i64 st]]) (W':=W) ?_ ((HFd.out W (DN.out.trans hN qdr)).mono ?_)
       ·simp [go_sem,h58,h62,HeF.out]
       ·rintro e w' ⟨rfl,hc⟩
        exact ⟨_,rfl,hc,rfl⟩
      ·cases ho
       exact .same (uo 11 _ rfl (hk 11)) rfl
      ·cases ho
       exact .same (uo 15 _ rfl (hk 15)) rfl
      ·cases ho
       have h64:A0.tmps[64]?.getD undef=.slice (some ax) na ca:=hin 6 64
       have h65:A0.tmps[65]?.getD undef=.int .i64 i:=hin 7 65
       exact .same (by simp [go_sem,h64,h65,q0,q1,hlt]) rfl
      ·cases ho
       have h66:A0.tmps[66]?.getD undef=.pointer (some (ax.add (i * 3))):=hin 8 66
       exact .same (by simp [go_sem,h66]) rfl
      ·cases ho
       have h67:A0.tmps[67]?.getD undef=.pointer (some ⟨(ax.add (i * 3)).block,(ax.add (i * 3)).off+2,none⟩):=hin 9 67
       have hcx:W.cell? ⟨(ax.add (i * 3)).block,(ax.add (i * 3)).off+2,none⟩=some (.int .i64 st):=(congrArg W.cell? (gk (ax.add (i * 3)) 1)).symm.trans ((DA.out.chg hN id) 2 _ rfl)
       exact .same (v:=.int .i64 st) (by simp [go_sem,h67,hcx]) rfl
      ·cases ho
       have h63:A0.tmps[63]?.getD undef=.int .i64 q:=hin 5 63
       have h68:A0.tmps[68]?.getD undef=.int .i64 st:=hin 10 68
       exact .same (by simp [go_sem,h63,h68,hqs]) rfl
     obtain ⟨x58,x59,x60,x61,x62,x63,x64,x65,x66,x67,x68,x69,rfl⟩:∃ x58 x59 x60 x61 x62 x63 x64 x65 x66 x67 x68 x69,l=[x58,x59,x60,x61,x62,x63,x64,x65,x66,x67,x68,x69]:=by
      match l,hl with
      | [x58,x59,x60,x61,x62,x63,x64,x65,x66,x67,x68,x69],_=>exact ⟨_,_,_,_,_,_,_,_,_,_,_,_,rfl⟩
     obtain rfl:x58=.slice Al nl cl:=hΦ 0 (by decide)
     obtain rfl:x59=.slice (some ax) na ca:=hΦ 1 (by decide)
     obtain rfl:x60=.int .i64 i:=hΦ 2 (by decide)
     obtain rfl:x61=.pointer (some (ax.add (i * 3))):=hΦ 3 (by decide)
     obtain rfl:x62=.agg #[.string r.name,.slice A1 n1 c1,.int .i64 st]:=hΦ 4 (by decide)
     obtain rfl:x63=.int .i64 q:=hΦ 5 (by decide)
     obtain rfl:x64=.slice (some ax) na ca:=hΦ 6 (by decide)
     obtain rfl:x65=.int .i64 i:=hΦ 7 (by decide)
     obtain rfl:x66=.pointer (some (ax.add (i * 3))):=hΦ 8 (by decide)
     obtain rfl:x67=.pointer (some ⟨(ax.add (i * 3)).block,(ax.add (i * 3)).off+2,none⟩):=hΦ 9 (by decide)
     obtain rfl:x68=.int .i64 st:=hΦ 10 (by decide)
     obtain rfl:x69=.bool false:=hΦ 11 (by decide)
     simp only [putsL,zq,zj,zz,List.zip,List.zipWith,Act.put,qk,qu,qy]
     clear hΦ hl
     refine AtN.done rfl ?_
     go_wp2_with fail
     go_roundw
     case rel=>exact ⟨i+1,by omega,by go_num,HNr.out.trans (DN.out.trans hN qdr) qdr⟩
     case measure=>simp [intOf];omega
    ·have HBr:=qq (HBP.out.chg HNr.out id)
     have HNs:=qq (HNN.out.trans HNr.out qdr)
     go_wp2_with fail
     go_loopw [16,17] (fun u16 u17 wr=>∃ (i:Nat) (k:Int),i≤nz∧u17=.int .i64 i∧u16=.int .i64 k∧0≤k∧k≤forever∧(∀ r∈z.take i,r.stamp≤k)∧New w8 wr) (fun _ u _=>nz - (intOf u).toNat)
     case atStart=>exact ⟨0,0,qr _,rfl,rfl,yk _,by decide,fun r hr=>(by cases hr),HNr.out⟩
     case round=>
      clear HBr HNs HNr hlt
      obtain ⟨i,k,hi,rfl,rfl,hk0,hk1,hks,hN⟩:=hrel
      have HNr:=qq hN
      have HKs:=qq hks
      clear hN hks
      by_cases hlt:i < nz
      ·obtain ⟨r,hr⟩:∃ r,z[i]? =some r:=⟨_,qz (by rw [Hnz.out];exact hlt)⟩
       obtain ⟨az,cs,rfl,hat,-,hra⟩:=(HSz.out.chg HNr.out).row hr
       obtain ⟨A1,c1,rfl,-⟩:=id hra
       have hst:=HGz.out.2 r (qf hr)
       have hat2:=dm hat 1 (u:=.int .i64 r.stamp) rfl
       obtain ⟨st,hs⟩:=qdp (r.stamp)
       have HKn:=qq (fun (k':Int) (h1:k≤k') (h2:st≤k')=>show ∀ x∈z.take (i+1),x.stamp≤k' from fun x hx=>by
        rw [vh hr] at hx
        rcases zk.1 hx with hx|hx
        ·exact Int.le_trans (HKs.out x hx) h1
        ·rw [qn.1 hx,hs];exact h2)
       rw [hs] at hst hat2
       have hst0:=hst.1
       have hst1:=hst.2
       have hf9:forever≤1099511627776:=by decide
       have q0:(0:Int)≤(i:Int):=by omega
       have q1:(i:Int) < (nz:Int):=by omega
       clear hr hat hra hs hst
       go_wp2_with fail
       go_roundw
       case rel=>exact ⟨i+1,if k < st then st else k,by omega,by go_num,by first|rfl|go_num,by split <;> omega,by split <;> omega,HKn.out _ (by split <;> omega) (by split <;> omega),HNr.out⟩
       case measure=>simp [intOf];omega
      ·have HBr:=qq (HBP.out.chg HNr.out id)
       have HKz:=qq (show StLe k z by
        have h:=HKs.out
        rwa [qc (by rw [Hnz.out];omega)] at h)
       clear HKs
       go_wp2_with fail
       go_loopw [18,19,20,21] (fun u18 u19 u20 u21 wr=>∃ (i:Nat) (b:Bool),i≤nr∧u19=.int .i64 i∧u18=.bool b∧(b=true→∀ r∈rs.take i,∃ L∈r.Ls,L.kind=1)∧New w8 wr) (fun _ u _ _ _=>nr - (intOf u).toNat)
       case atStart=>exact ⟨0,true,qr _,rfl,rfl,fun _ r hr=>(by cases hr),HNr.out⟩
       case round=>
        clear HBr HNr hlt hi
        obtain ⟨i,at',hi,rfl,rfl,hat',hN⟩:=hrel
        have HNr:=qq hN
        have HAt:=qq hat'
        have e2:=(HBP.out.chg hN id).cell 2
        simp only [qx,qj,qw] at e2
        clear hN hat'
        by_cases hlt:i < nr
        ·obtain ⟨r,hr⟩:∃ r,rs[i]? =some r:=⟨_,qz (by rw [Hnr.out];exact hlt)⟩
         obtain ⟨cs,hcs⟩:∃ cs,css[i]? =some cs:=⟨_,qz (by rw [HRu.out.len,Hnr.out];exact hlt)⟩
         obtain ⟨ad,rfl,hrw⟩:=HRu.out.src (by rw [HRu.out.len,Hnr.out];omega)
         obtain ⟨lab,A,Ab,c,cb,cs1,cssb,he,hT,hL,-,-,-⟩:=HRu.out.at_ i cs r hcs hr
         obtain rfl:cs=[.string lab,.string r.h,.slice A r.ts.length c,.string r.agg,.int .i64 r.at',.slice Ab r.Ls.length cb]:=by
          injection he with he
          simpa using congrArg Array.toList he
         have Hat:=qq ((hrw i _ hcs).2)
         have q0:(0:Int)≤(i:Int):=by omega
         have q1:(i:Int) < (nr:Int):=by omega
         have HL4:=qq (nu HRaw.out r (qf hr)).l4
         have HLs:=qq hL
         have Hnext:=qq (fun (h:at'=true∧∃ L∈r.Ls,L.kind=1)=>show ∀ x∈rs.take (i+1),∃ L∈x.Ls,L.kind=1 from fun x hx=>by
          rw [vh hr] at hx
          rcases zk.1 hx with hx|hx
          ·exact HAt.out h.1 x hx
          ·rw [qn.1 hx];exact h.2)
         obtain ⟨nb,hnb⟩:=qdp (r.Ls.length)
         have hl4:=HL4.out
         rw [hnb] at hl4
         have Hnb:=qq hnb
         have Hat5:=qq (fun W (h:New w8 W)=>show W.cell? ⟨(ad.add (i * 6)).block,(ad.add (i * 6)).off+5,none⟩=some (.slice Ab nb cb) from dm (Hat.out.chg h id) 4 (by rw [←hnb];rfl))
         clear hrw hcs hr he hT hL hnb Hat
         go_wp2_with fail
         go_loopw [20,21] (fun u20 u21 wr=>∃ (j:Nat) (h:Bool),j≤nb∧u21=.int .i64 j∧u20=.bool h∧(h=true→∃ L∈r.Ls,L.kind=1)∧New w8 wr) (fun _ u _=>nb - (intOf u).toNat)
         case atStart=>exact ⟨0,false,qr _,rfl,rfl,fun h=>(by cases h),HNr.out⟩
         case round=>
          clear e2
          obtain ⟨j,hs,hj,rfl,rfl,hhs,hN⟩:=hrel
          have HHs:=qq hhs
          have HNj:=qq hN
          have e2:=(HBP.out.chg hN id).cell 2
          have e5:=Hat5.out _ hN
          simp only [qx,qj,qw] at e2
          by_cases hltj:j < nb
          ·obtain ⟨L,hLj⟩:∃ L,r.Ls[j]? =some L:=⟨_,qz (by rw [Hnb.out];exact hltj)⟩
           obtain ⟨cs,hcs⟩:∃ cs,cssb[j]? =some cs:=⟨_,qz (by rw [HLs.out.len,Hnb.out];exact hltj)⟩
           obtain ⟨ab,rfl,hrw⟩:=HLs.out.src (by rw [HLs.out.len,Hnb.out];omega)
           obtain ⟨A',c',css',rfl,-⟩:=HLs.out.at_ j cs L hcs hLj
           have e0:wr.cell? (ab.add (j * 3))=some (.int .i64 L.kind):=((hrw j _ hcs).2.chg hN id) 0 _ rfl
           obtain ⟨kk,hkk⟩:=qdp (L.kind)
           rw [hkk] at e0
           have Hyes:=qq (fun (h:kk=1)=>show ∃ L∈r.Ls,L.kind=1 from ⟨L,qf hLj,by rw [hkk,h]⟩)
           have p0:(0:Int)≤(j:Int):=by omega
           have p1:(j:Int) < (nb:Int):=by omega
           clear hN hhs hLj hcs hrw hkk
           cases hs with
           |true=>
            go_wp2_with fail
            go_roundw
            case rel=>exact ⟨j+1,true,by omega,by go_num,rfl,HHs.out,HNj.out⟩
            case measure=>simp [intOf];omega
           |false=>
            by_cases h1:kk=1
            ·have HY:=qq (Hyes.out h1)
             subst h1
             go_wp2_with fail
             go_roundw
             case rel=>exact ⟨j+1,true,by omega,by go_num,rfl,fun _=>HY.out,HNj.out⟩
             case measure=>simp [intOf];omega
            ·have hkb:(kk == 1)=false:=by simpa using h1
             go_wp2_with fail
             go_roundw
             case rel=>exact ⟨j+1,false,by omega,by go_num,rfl,fun h=>(by cases h),HNj.out⟩
             case measure=>simp [intOf];omega
          ·clear hN hhs
           cases at' with
           |true=>
            go_wp2_with fail
            go_roundw
            case rel=>exact ⟨i+1,hs,by omega,by go_num,rfl,fun h=>Hnext.out ⟨rfl,HHs.out h⟩,HNj.out⟩
            case measure=>simp [intOf];omega
           |false=>
            go_wp2_with fail
            go_roundw
            case rel=>exact ⟨i+1,false,by omega,by go_num,rfl,fun h=>(by cases h),HNj.out⟩
            case measure=>simp [intOf];omega
        ·have HSt:=qq (fun (h:at'=true)=>show StLe k m from fix_le HPr.out (by
          have h1:=HAt.out h
          rwa [qc (by rw [Hnr.out];omega)] at h1) HFb.out HKz.out)
         have HBr:=qq (HBP.out.chg HNr.out id)
         go_wp2_with fail
         clear e2
         go_loopw [22] (fun u22 wr=>∃ i:Nat,i≤nl∧u22=.int .i64 i∧New w8 wr) (fun u _=>nl - (intOf u).toNat)
         case atStart=>exact ⟨0,qr _,rfl,HNr.out⟩
         case round=>
          clear HBr HNr hlt hi
          obtain ⟨i,hi,rfl,hN⟩:=hrel
          have HNr:=qq hN
          clear hN
          have HNe:=qq (HNN.out.trans HNr.out qdr)
          by_cases hlt:i < nl
          ·cases at' with
           |false=>
            go_wp2_with fail
            go_ret
            exact ⟨rfl,HNe.out⟩
           |true=>
            obtain ⟨r,hr⟩:∃ r,m[i]? =some r:=⟨_,qz (by rw [Hnl.out];exact hlt)⟩
            obtain ⟨az,cs,rfl,hat,-,hra⟩:=(HSl.out.chg HNr.out).row hr
            obtain ⟨A1,c1,rfl,-⟩:=id hra
            have hst:=HSt.out rfl r (qf hr)
            have hat2:=dm hat 1 (u:=.int .i64 r.stamp) rfl
            obtain ⟨st,hs⟩:=qdp (r.stamp)
            rw [hs] at hst hat2
            have hng:¬ k < st:=by omega
            have q0:(0:Int)≤(i:Int):=by omega
            have q1:(i:Int) < (nl:Int):=by omega
            clear hr hat hra hs
            go_wp2_with fail
            go_roundw
            case rel=>exact ⟨i+1,by omega,by go_num,HNr.out⟩
            case measure=>simp [intOf];omega
          ·go_wp2_with fail
           go_ret
           exact ⟨rfl,HNe.out⟩
end Go.Proofs.YtbpgfnbhihklnaaGreat
namespace Go.Proofs.YtbpgfnbhihklnaaGreat.FixMore
open Go.ChangeShapes Go.WideShapes Go.ChangeAt Go.RowKit
theorem own:ownKnob Tryz.prog.godebug=none:=by kernel_rfl
theorem laid:laidOutB Tryz.prog=true:=by kernel_rfl
theorem fm (os:Os) (started:os.Started) (H:Type) (enc:TypeId×Value→H):
  ReturnsInHanded {} Tryz.checked os 5 .any (Rows.fixMoreSpec.pre6 enc Tryz.prog Tryz.f5 Rows.fixMoreRow.domain false) (Rows.fixMoreSpec.post enc Tryz.prog Tryz.f5 false true false false):=by
 refine returnsInHanded_of_change (C:=Tryz.checked) own started (by kernel_rfl) Tryz.func5
  (ChangeSpec.witness6 (enc:=enc) (C:=Tryz.checked) false ⟨#[],#[.slice none 0 0,.slice none 0 0,.slice none 0 0],[]⟩ 8 (by kernel_rfl) (by kernel_rfl) (by kernel_rfl) (by kernel_rfl)) ?_
 intro W base args ds gs before hval0 hW hcnd _
 have hval:∀ (j:Nat) t v,Tryz.f5.params[j]? =some t→args[j]? =some v→Value.okWide Tryz.prog W .any base t v:=hval0
 have hW':=hW
 obtain ⟨p,q,hA0,hV,rfl,hfz,hnd⟩:=hW
 have hA:DataW.TrodAll enc Tryz.prog W 0 (fun _=>true) true Tryz.f5.params.toList args.toList ds p:=hA0
 rw [Tryz.params5] at hA hval
 obtain ⟨v0,vs0,d0,ds0,p0,q0,hargs,rfl,rfl,h0,r0⟩:=trodAll_cons hA
 obtain ⟨v1,vs1,d1,ds1,p1,q1,rfl,rfl,rfl,h1,r1⟩:=trodAll_cons r0
 obtain ⟨v2,vs2,d2,ds2,p2,q2,rfl,rfl,rfl,h2,r2⟩:=trodAll_cons r1
 obtain ⟨rfl,rfl,rfl⟩:=trodAll_nil r2
 obtain rfl:args=#[v0,v1,v2]:=by cases args;simp_all
 obtain ⟨rfl,rfl⟩:=trodVars_none hV
 obtain ⟨n0,hx0⟩:=ks Tryz.underlying22 (by kernel_rfl) Tryz.underlying23 (by kernel_rfl) (hval 0 22 v0 rfl rfl) h0 (gw Tryz.underlying75 Tryz.underlying3 Tryz.underlying3 ⟨rfl,rfl,rfl⟩ ⟨by kernel_rfl,by kernel_rfl,by kernel_rfl⟩ (xi (C:=4) Tryz.underlying73 Tryz.underlying3 (by kernel_rfl)))
 obtain ⟨n1,X1,hx1⟩:=kh Tryz.underlying23 (by kernel_rfl) (by decide) (hval 1 23 v1 rfl rfl) h1 (gw Tryz.underlying75 Tryz.underlying3 Tryz.underlying3 ⟨rfl,rfl,rfl⟩ ⟨by kernel_rfl,by kernel_rfl,by kernel_rfl⟩ (xi (C:=4) Tryz.underlying73 Tryz.underlying3 (by kernel_rfl)))
 obtain ⟨n2,X2,hx2⟩:=kh Tryz.underlying23 (by kernel_rfl) (by decide) (hval 2 23 v2 rfl rfl) h2 (gw Tryz.underlying75 Tryz.underlying3 Tryz.underlying3 ⟨rfl,rfl,rfl⟩ ⟨by kernel_rfl,by kernel_rfl,by kernel_rfl⟩ (xi (C:=4) Tryz.underlying73 Tryz.underlying3 (by kernel_rfl)))
 refine (walk_FixMore W v0 n0 hx0 v1 n1 X1 hx1 v2 n2 X2 hx2).mono fun e W' ⟨he,hg⟩=>?_
 subst he
 exact ⟨_,rfl,mw laid rfl hW' (by kernel_rfl) hg (tb:=4) rfl Tryz.underlying4 ⟨rfl,rfl,rfl⟩⟩
theorem over:Rows.fixMoreRow.holds Tryz.pinned (OpenSpec.ofChange Rows.fixMoreSpec):=
 OpenClaim.holds_of_wide 5 Tryz.f5 rfl rfl rfl rfl rfl rfl rfl ⟨rfl,rfl,rfl,rfl,rfl⟩ rfl rfl rfl rfl rfl (by kernel_rfl) Tryz.func5 (by kernel_rfl)
  (of_decide_eq_true (by kernel_rfl)) (by unfold Func.isWrapper;first| (rw [if_pos (by decide+kernel)];kernel_rfl)| (rw [if_neg (by decide+kernel)];exact ⟨rfl,rfl⟩))
  (fun os started H enc _=>fm os started H enc)
theorem proved:Rows.FixMoreSaid:=
 over
#print axioms proved
end Go.Proofs.YtbpgfnbhihklnaaGreat.FixMore
