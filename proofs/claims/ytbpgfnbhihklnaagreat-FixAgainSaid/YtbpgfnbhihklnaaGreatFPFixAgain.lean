/- FixAgain: the walk and the statement. -/
import Derived.Test.YtbpgfnbhihklnaaGreatF12
set_option maxHeartbeats 8000000
set_option maxRecDepth 100000
set_option linter.all false
namespace Go.Proofs.YtbpgfnbhihklnaaGreat
open Go.RowKit Go.Shelf
theorem walk_FixAgain (w:World) (v0:Value) (n0:Nat) (hx0:IntsAts w v0 n0) (v1:Value) (n1:Nat) (X1:Nat→Int) (hx1:IntsAt w v1 6 n1 X1) (c2:Int) (h2:-9223372036854775808≤c2) (h3:c2≤9223372036854775807):Calls Tryz.prog 6 #[v0,v1,.int .i64 c2] w fun e w'=>e=.returned (.bool true)∧New w w':=by
 have HX0:=qq hx0
 have HX1:=qq hx1
 clear hx0 hx1
 go_enter Tryz.func6,Tryz.ntmps6
 go_upto_region 2 with (go_at_call 14;refine (ni _).mono ?_;rintro e w1 ⟨rfl,hN1⟩;have HN1:=qq hN1;clear hN1)
 go_upto_region 3 with (go_at_call 15;refine (fq _ _ _ (HX0.out.chg HN1.out)).mono ?_;rintro e w2 ⟨vp,rs,rfl,hpg,hraw,hn2⟩;have HN2:=qq (HN1.out.trans hn2 qdr);have HPg:=qq hpg;have HRaw:=qq hraw;obtain ⟨d,Af,nf,cf,Ar,cr,css,rfl,hru,hl6⟩:=hpg.form;have HRu:=qq hru;obtain ⟨nr,hnr⟩:=qdp (rs.length);have Hnr:=qq hnr;rw [hnr] at HPg hl6⊢;clear hpg hraw hn2 hru hnr)
 obtain ⟨w3,hw3⟩:=qdq (w2.alloc (.cells #[.slice (some ⟨d,0,none⟩) 6 6,.slice Af nf cf,.slice Ar nr cr] 29))
 have hn3:New w2 w3:=by rw [hw3];exact (Chg.refl _ _).alloc _
 have HN3:=qq (HN2.out.trans hn3 qdr)
 have HPg:=qq (HPg.out.chg hn3)
 have HRu:=qq (HRu.out.chg hn3)
 have HBP:=qq (show Blk w3 w2.heap.size 29 #[.slice (some ⟨d,0,none⟩) 6 6,.slice Af nf cf,.slice Ar nr cr] by rw [hw3];exact Blk.new w2 _ _)
 rw [←hw3]
 obtain ⟨b6,hb6⟩:=qdp (w2.heap.size)
 rw [hb6] at HBP⊢
 clear hw3 hn3 hb6
 go_upto_region 4 with (go_at_call 16;refine (tq _ _ _ _ (HX1.out.chg HN3.out) 10 (by omega)).mono ?_;rintro e w4 ⟨vx,x,rfl,hsx,hlx,hgx,hn4⟩;have HN4:=qq (HN3.out.trans hn4 qdr);have HG:=qq hgx;have HSx:=qq hsx;have HPg:=qq (HPg.out.chg hn4);have HRu:=qq (HRu.out.chg hn4);have HBP:=qq (HBP.out.chg hn4 id);have Hlx:=qq hlx;clear hsx hgx hn4 hlx)
 obtain ⟨Ax,cx,rfl,-⟩:=HSx.out.form
 obtain ⟨nx,hnx⟩:=qdp (x.length)
 rw [hnx] at HSx Hlx⊢
 have Hnx:=qq hnx
 have hlx:=Hlx.out
 clear hnx
 have HGo:=qq (ln HG.out)
 have Hok:=qq (pd HRaw.out)
 have HFix:=qq (fun W (hW:New w4 W) u y (hu:RowSl W u y) (ho:OkR y) (hs:StR y) q (hq:q≤48)=>rm W _ rs (HPg.out.chg hW) (nu HRaw.out) (lv HRaw.out) (pd HRaw.out) u y hu ho hs q hq)
 have HF1:=qq (show Calls Tryz.prog 17 #[.agg #[.slice (some ⟨d,0,none⟩) 6 6,.slice Af nf cf,.slice Ar nr cr],.slice Ax nx cx,.int .i64 48] w4 (FixPost w4 rs 48 x) from HFix.out w4 (Chg.refl _ _) _ x HSx.out HGo.out.1 HGo.out.2 48 (by omega))
 have HN:=qq (show New w4 w4 from Chg.refl _ _)
 go_upto_region 5 with first
  | ((with_reducible refine vq rfl (.tmp 8) 29 rfl xp ⟨b6,0,none⟩ [.slice (some ⟨d,0,none⟩) 6 6,.slice Af nf cf,.slice Ar nr cr] ?_ rfl HBP.out.at_ ?_);exact rfl)
  | (go_at_call 17;refine HF1.out.mono ?_;rintro e w5 ⟨vl,m,b,rfl,hsl,hfx,hn5⟩;have HN5:=qq (HN.out.trans hn5 qdr);have HSl:=qq hsl;have HF:=qq hfx;have HBP:=qq (HBP.out.chg hn5 id);clear hsl hfx hn5)
 obtain ⟨Al,cl,rfl,-⟩:=HSl.out.form
 clear HF1
 cases b with
 |false=>
  go_wp2_with fail
  go_ret
  exact ⟨rfl,HN4.out.trans HN5.out qdr⟩
 |true=>
  have hpl:=iv w5 (.agg #[.slice (some ⟨d,0,none⟩) 6 6,.slice Af nf cf,.slice Ar nr cr]) rs (HPg.out.chg HN5.out) (nu HRaw.out)
  obtain ⟨R,hR⟩:=qdp (plB rs)
  rw [hR] at hpl
  have HPl:=qq hpl
  have HR:=qq hR
  have HNN:=qq (HN4.out.trans HN5.out qdr)
  clear hpl hR
  cases R with
  |false=>
   go_wp2_with first
    | ((with_reducible refine xe ?_ (.tmp 8) 29 rfl xp ⟨b6,0,none⟩ [.slice (some ⟨d,0,none⟩) 6 6,.slice Af nf cf,.slice Ar nr cr] ?_ rfl HBP.out.at_ ?_);rfl;exact rfl)
    | (go_at_call 23;refine HPl.out.mono ?_;rintro e w6 ⟨rfl,hn6⟩;have HN6:=qq hn6;have HBP:=qq (HBP.out.chg hn6 id);clear hn6)
   go_ret
   exact ⟨rfl,HNN.out.trans HN6.out qdr⟩
  |true=>
   obtain ⟨s,hs,hm,hfm,hux,hcl⟩:=pc Hok.out (by omega) HGo.out.1 HGo.out.2 HF.out
   rw [qc hm] at HSl⊢
   obtain ⟨nl,hnl⟩:=qdp (m.length)
   rw [hnl] at HSl hm⊢
   have Hnl:=qq hnl
   have HFm:=qq hfm
   have HU:=qq hux
   have HPr:=qq (we HR.out)
   clear hs hfm hux hcl hnl
   go_upto_region 7 with first
    | ((with_reducible refine xe ?_ (.tmp 8) 29 rfl xp ⟨b6,0,none⟩ [.slice (some ⟨d,0,none⟩) 6 6,.slice Af nf cf,.slice Ar nr cr] ?_ rfl HBP.out.at_ ?_);rfl;exact rfl)
    | (go_at_call 23;refine HPl.out.mono ?_;rintro e w6 ⟨rfl,hn6⟩;have HN6:=qq hn6;have HBP:=qq (HBP.out.chg hn6 id);clear hn6)
   have HF2:=qq (HFix.out w6 (HN5.out.trans HN6.out qdr) _ m (HSl.out.chg HN6.out) HFm.out.ok HFm.out.st 48 (by omega))
   have HN56:=qq (HN5.out.trans HN6.out qdr)
   go_upto_region 8 with first
    | ((with_reducible refine vq rfl (.tmp 8) 29 rfl xp ⟨b6,0,none⟩ [.slice (some ⟨d,0,none⟩) 6 6,.slice Af nf cf,.slice Ar nr cr] ?_ rfl HBP.out.at_ ?_);exact rfl)
    | (go_at_call 17;refine HF2.out.mono ?_;rintro e w7 ⟨vm,m2,b2,rfl,hsl,hfx,hn5⟩;have HN7:=qq (HN56.out.trans hn5 qdr);have HSm:=qq hsl;have HFb:=qq hfx;have HBP:=qq (HBP.out.chg hn5 id);have HN7':=qq hn5;clear hsl hfx hn5)
   obtain ⟨rfl,e2⟩:=bw HPr.out Hok.out HGo.out ⟨HFm.out.ok,HFm.out.st⟩ HF.out HU.out (Under.refl _) HFb.out
   rw [e2] at HSm
   rw [qc (by rw [Hnl.out];exact hm)] at HSm
   obtain ⟨Am,cm,rfl,-⟩:=HSm.out.form
   rw [Hnl.out] at HSm⊢
   have hp0:=km c2 (nl+1) (by omega)
   have hp1:=kn c2 (nl+1) (by omega)
   obtain ⟨q,hq⟩:∃ q:Nat,pk c2 (nl+1)=(q:Int):=⟨(pk c2 (nl+1)).toNat,by omega⟩
   have hql:q≤nl:=by omega
   have hpk:=fun W=>pick12 W c2 (nl+1) h2 h3 (by omega) (by omega)
   rw [hq] at hpk
   have HPk:=qq hpk
   have hsl:=HSl.out.chg (HN6.out.trans HN7'.out qdr)
   have hsx:=HSx.out.chg HN7.out
   have hcl:nl≤cl:=by
    obtain ⟨A',c',_,e,_,h3',_⟩:=hsl
    simp only [Value.slice.injEq] at e
    omega
   clear hpk hp0 hp1 hq HF2 HPl
   have hnd:New w7 w7.drew:=(Chg.refl _ _).drew
   refine vj (by kernel_rfl) ?_
   obtain ⟨cs1,hc1⟩:=((hsl.chg hnd).takes q hql).cells
   obtain ⟨cs2,hc2⟩:=(hsx.chg hnd).cells
   have HC1:=qq hc1
   have HC2:=qq hc2
   have HBd:=qq (HBP.out.chg hnd id)
   have HSl7:=qq (hsl.chg hnd)
   have HSm7:=qq (HSm.out.chg hnd)
   have HNd:=qq (HN7.out.trans hnd qdr)
   clear hnd hc1 hc2 hsl hsx HBP
   generalize w7.drew=wd at HC1 HC2 HBd HSl7 HSm7 HNd⊢
   have kw:IntKind.i64.wrap ((nl:Int)+1)=(nl:Int)+1:=by rw [IntKind.wrap_i64];omega
   have p0:(0:Int)≤(q:Int):=by omega
   have p1:(q:Int)≤(nl:Int):=by omega
   have p2:(q:Int)≤(cl:Int):=by omega
   have p3:q≤nl:=by omega
   have p6:q≤cl:=by omega
   refine AtN.segF 0 11 0 [42,43,44,45,46,47,48,49,50,51,52] (fun _=>False) (fun
     |8=>true
     |10=>true
     |_=>false) (fun
     |8=>10
     |_=>999) (fun
     |0=>fun vv _=>vv=.agg #[.slice (some ⟨d,0,none⟩) 6 6,.slice Af nf cf,.slice Ar nr cr]
     |1=>fun vv _=>vv=.slice Al nl cl
     |2=>fun vv _=>vv=.int .i64 c2
     |3=>fun vv _=>vv=.slice Al nl cl
     |4=>fun vv _=>vv=.int .i64 nl
     |5=>fun vv _=>vv=.int .i64 (nl+1)
     |6=>fun vv _=>vv=.int .i64 q
     |7=>fun vv _=>vv=.slice Al q cl
     |8=>fun u W=>Own W wd.heap.size 42 3 u cs1
     |9=>fun vv _=>vv=.slice Ax nx cx
     |10=>fun u W=>Own W wd.heap.size 42 3 u (cs1++cs2)
     |_=>fun _ _=>True:Nat→Value→World→Prop) (by kernel_rfl) (by kernel_rfl) (by kernel_rfl) (by kernel_rfl) (by kernel_rfl) (fun g hg=>hg.elim) (fun k u W1 W2 T' h hc ht hT=>?_) (fun i hn hi o ho A0 W b hJ hμ hin hkp hcn=>?_) (fun l W8 hN hl hΦ hap=>?_)
   ·match k with
    |8=>exact h.chg hc (fun g hg=>ht rfl g (gd hg))
    |10=>exact h.chg hc (fun g hg=>ht rfl g (gd hg))
    |0|1|2|3|4|5|6|7|9=>exact h
    |_+11=>trivial
   ·rcases (show i=0∨i=1∨i=2∨i=3∨i=4∨i=5∨i=6∨i=7∨i=8∨i=9∨i=10 by omega) with rfl|rfl|rfl|rfl|rfl|rfl|rfl|rfl|rfl|rfl|rfl
    ·cases ho
     have h8:A0.tmps[8]?.getD undef=.pointer (some ⟨b6,0,none⟩):=hkp 8 (by kernel_rfl)
     refine .new rfl ?_
     exact .same (vu 8 _ rfl xp ⟨b6,0,none⟩ [.slice (some ⟨d,0,none⟩) 6 6,.slice Af nf cf,.slice Ar nr cr] (hkp 8 (by kernel_rfl)) rfl (HBd.out.chg hJ.1 id).at_) rfl
    ·cases ho
     refine .new rfl ?_
     exact .same (uo 10 (.slice Al nl cl) rfl (hkp 10 (by kernel_rfl))) rfl
    ·cases ho
     refine .new rfl ?_
     exact .same (uo 2 (.int .i64 c2) rfl (hkp 2 (by kernel_rfl))) rfl
    ·cases ho
     refine .new rfl ?_
     exact .same (uo 10 (.slice Al nl cl) rfl (hkp 10 (by kernel_rfl))) rfl
    ·cases ho
     have h45:A0.tmps[45]?.getD undef=.slice Al nl cl:=hin 3 45
     refine .new rfl ?_
     exact .same (v:=.int .i64 nl) (by simp [go_sem,h45]) rfl
    ·cases ho
     have h46:A0.tmps[46]?.getD undef=.int .i64 nl:=hin 4 46
     refine .new rfl ?_
     exact .same (v:=.int .i64 (nl+1)) (by simp [go_sem,h46,kw]) rfl
    ·cases ho
     have h44:A0.tmps[44]?.getD undef=.int .i64 c2:=hin 2 44
     have h47:A0.tmps[47]?.getD undef=.int .i64 (nl+1):=hin 5 47
     refine .new rfl ?_
     refine .call (f:=24) (args:=#[.int .i64 c2,.int .i64 (nl+1)]) (W':=W) ?_ ((HPk.out W).mono ?_)
     ·simp [go_sem,h44,h47]
     ·rintro e w' ⟨rfl,rfl⟩
      exact ⟨_,rfl,Chg.refl _ _,rfl⟩
    ·cases ho
     have h43:A0.tmps[43]?.getD undef=.slice Al nl cl:=hin 1 43
     have h48:A0.tmps[48]?.getD undef=.int .i64 q:=hin 6 48
     refine .new rfl ?_
     exact .same (v:=.slice Al q cl) (by simp [go_sem,h43,h48,p0,p1,p2,p3,p6]) rfl
    ·cases ho
     have h49:A0.tmps[49]?.getD undef=.slice Al q cl:=hin 7 49
     obtain ⟨v1,W',hrun,hown,hchg,hblk⟩:=mf (Own.nil W wd.heap.size 42 3) hJ.1.size (HC1.out.chg hJ.1) (by simp) 31
     rw [jq] at hown
     refine GivesF.value _ (gj _ _ _ _ rfl (by simp [Act.eval]) (by simpa [Act.eval] using h49) hrun) hown hchg (fun g _ hg=>by cases hg) (fun g hg=>?_)
     rw [hown.fpv] at hg
     exact ⟨(hown.lt hg).2,(hblk g hg).elim (fun h=>by cases h) (fun h=>.inr (.inl h))⟩
    ·cases ho
     refine .new rfl ?_
     exact .same (uo 9 (.slice Ax nx cx) rfl (hkp 9 (by kernel_rfl))) rfl
    ·cases ho
     have h50:(fun u W=>Own W wd.heap.size 42 3 u cs1:Value→World→Prop) (A0.tmps[50]?.getD undef) W:=hin 8 50
     have h51:A0.tmps[51]?.getD undef=.slice Ax nx cx:=hin 9 51
     obtain ⟨v1,W',hrun,hown,hchg,hblk⟩:=mf h50 hJ.1.size (HC2.out.chg hJ.1) (by
      have h9:=HC1.out.cs.1
      rw [ql] at h9
      omega) 31
     refine GivesF.value _ (gj _ _ _ _ rfl (by simp [Act.eval]) (by simpa [Act.eval] using h51) hrun) hown hchg (fun g _ hg=>.inl ⟨8,50,by kernel_rfl,gd hg⟩) (fun g hg=>?_)
     rw [hown.fpv] at hg
     exact ⟨(hown.lt hg).2,(hblk g hg).elim (fun h=>.inl ⟨8,50,by kernel_rfl,gd h⟩) (fun h=>.inr (.inl h))⟩
   obtain ⟨x42,x43,x44,x45,x46,x47,x48,x49,x50,x51,x52,rfl⟩:∃ x42 x43 x44 x45 x46 x47 x48 x49 x50 x51 x52,l=[x42,x43,x44,x45,x46,x47,x48,x49,x50,x51,x52]:=by
    match l,hl with
    | [x42,x43,x44,x45,x46,x47,x48,x49,x50,x51,x52],_=>exact ⟨_,_,_,_,_,_,_,_,_,_,_,rfl⟩
   obtain rfl:x42=.agg #[.slice (some ⟨d,0,none⟩) 6 6,.slice Af nf cf,.slice Ar nr cr]:=hΦ 0 (by decide) (by decide)
   obtain rfl:x43=.slice Al nl cl:=hΦ 1 (by decide) (by decide)
   obtain rfl:x44=.int .i64 c2:=hΦ 2 (by decide) (by decide)
   obtain rfl:x45=.slice Al nl cl:=hΦ 3 (by decide) (by decide)
   obtain rfl:x46=.int .i64 nl:=hΦ 4 (by decide) (by decide)
   obtain rfl:x47=.int .i64 (nl+1):=hΦ 5 (by decide) (by decide)
   obtain rfl:x48=.int .i64 q:=hΦ 6 (by decide) (by decide)
   obtain rfl:x49=.slice Al q cl:=hΦ 7 (by decide) (by decide)
   obtain rfl:x51=.slice Ax nx cx:=hΦ 9 (by decide) (by decide)
   have hx52:(fun u W=>Own W wd.heap.size 42 3 u (cs1++cs2):Value→World→Prop) x52 W8:=hΦ 10 (by decide) (by decide)
   simp only [putsL,zq,zj,zz,List.zip,List.zipWith,Act.put,qk,qu,qy]
   clear hΦ hl
   have hz:RowSl W8 x52 (m.take q++x):=hx52.rowSl ((HC1.out.cs.app HC2.out.cs).chg hN) (by
    rw [qg,ql]
    have h8:=Hnl.out
    have h9:=Hnx.out
    have h7:=Hlx.out
    omega)
   have hoz:OkR (m.take q++x)∧StR (m.take q++x):=⟨fun r hr=>(zk.1 hr).elim (fun h=>HFm.out.ok r (je h)) (HGo.out.1 r),fun r hr=>(zk.1 hr).elim (fun h=>HFm.out.st r (je h)) (HGo.out.2 r)⟩
   have huz:Under (m.take q++x) m:=fun r hr=>(zk.1 hr).elim (fun h=>Under.refl m r (je h)) (HU.out r)
   have hxz:Under x (m.take q++x):=Under.sub fun r hr=>zk.2 (.inr hr)
   have HOz:=qq hoz
   have HUz:=qq huz
   have HXz:=qq hxz
   have HN8:=qq (HNd.out.trans hN qdr)
   have HBP:=qq (HBd.out.chg hN id)
   have HSl8:=qq (HSl7.out.chg hN)
   have HSm8:=qq (HSm7.out.chg hN)
   obtain ⟨Az,cz,hvz,-⟩:=hz.form
   subst hvz
   obtain ⟨nz,hnz⟩:=qdp ((m.take q++x).length)
   rw [hnz] at hz⊢
   have HF3:=qq (fun W (hW:New W8 W)=>(HFix.out W (HN8.out.trans hW qdr) _ _ (hz.chg hW) HOz.out.1 HOz.out.2 48 (by omega)))
   clear hz hoz huz hxz hN hx52 HNd HBd HSl7 HSm7 HC1 HC2 p0 p1 p2 p3 p6 HPk hnz kw
   refine AtN.segN2 11 12 [53] (fun
    |11=>fun u W=>∃ vn mn bn,u=.tuple #[vn,.bool bn]∧RowSl W vn (mn.take 48)∧Fixes rs id 48 (m.take q++x) mn bn
    |_=>fun _ _=>True) (by kernel_rfl) (by kernel_rfl) (by kernel_rfl) (by kernel_rfl) (fun j v w1 w2 hc h=>?_) (fun i hn hi o ho A0 W hN hin hk=>?_) (fun l w9 hN hl hΦ=>?_)
   ·match j with
    |11=>exact h.elim fun vn h=>h.elim fun mn h=>h.elim fun bn h=>⟨vn,mn,bn,h.1,h.2.1.chg hc,h.2.2⟩
    |0|1|2|3|4|5|6|7|8|9|10=>trivial
    |_+12=>trivial
   ·rcases (show i=11 by omega) with rfl
    ·cases ho
     have h42:A0.tmps[42]?.getD undef=.agg #[.slice (some ⟨d,0,none⟩) 6 6,.slice Af nf cf,.slice Ar nr cr]:=hk 42
     have h52:A0.tmps[52]?.getD undef=.slice Az nz cz:=hk 52
     refine .call (f:=17) (args:=#[.agg #[.slice (some ⟨d,0,none⟩) 6 6,.slice Af nf cf,.slice Ar nr cr],.slice Az nz cz,.int .i64 48]) (W':=W) ?_ ((HF3.out W hN).mono ?_)
     ·simp [go_sem,h42,h52]
     ·rintro e w' ⟨vn,mn,bn,rfl,h1,h2,h3⟩
      exact ⟨_,rfl,h3,vn,mn,bn,rfl,h1,h2⟩
   obtain ⟨x53,rfl⟩:∃ x53,l=[x53]:=by
    match l,hl with
    | [x53],_=>exact ⟨_,rfl⟩
   have hx53:=hΦ 0 (by decide)
   simp only [putsL,zq,zj,zz,List.zip,List.zipWith,Act.put,qk,qu,qy]
   clear hΦ hl
   obtain ⟨vk,mk,b3,rfl,hsl,hfx⟩:=hx53
   have HN9:=qq (HN8.out.trans hN qdr)
   have HN89:=qq hN
   have HSk:=qq hsl
   have HFc:=qq hfx
   clear hsl hfx hN HF3
   refine AtN.segQ2 12 17 (fun
    |12=>.tuple #[vk,.bool b3]
    |13=>vk
    |14=>.bool b3
    |15=>vk
    |_=>.bool b3)
    [(41,.tuple #[vk,.bool b3]),(54,vk),(55,.bool b3),(14,vk),(15,.bool b3)] (by kernel_rfl) (by kernel_rfl) (by kernel_rfl) (by kernel_rfl) rfl (fun i hn hi o ho A0 hin hk=>?_) ?_
   ·rcases (show i=12∨i=13∨i=14∨i=15∨i=16 by omega) with rfl|rfl|rfl|rfl|rfl
    ·cases ho
     exact uo 53 _ rfl (hk 53)
    ·cases ho
     have h41:A0.tmps[41]?.getD undef=.tuple #[vk,.bool b3]:=hin 12 41
     exact by simp [go_sem,h41]
    ·cases ho
     have h41:A0.tmps[41]?.getD undef=.tuple #[vk,.bool b3]:=hin 12 41
     exact by simp [go_sem,h41]
    ·cases ho
     have h54:A0.tmps[54]?.getD undef=vk:=hin 13 54
     exact by simp [go_sem,h54]
    ·cases ho
     have h55:A0.tmps[55]?.getD undef=.bool b3:=hin 14 55
     exact by simp [go_sem,h55]
   simp only [putsL,Act.put,qk,qu,qy]
   refine AtN.done rfl ?_
   obtain ⟨rfl,e3⟩:=bw HPr.out Hok.out HGo.out HOz.out HF.out HXz.out HUz.out HFc.out
   rw [e3] at HSk
   rw [qc (by rw [Hnl.out];exact hm)] at HSk
   obtain ⟨Ak,ck,rfl,-⟩:=HSk.out.form
   rw [Hnl.out] at HSk⊢
   have HSame1:=qq (fun W (hW:New w9 W)=>ez W _ _ _ (HSl8.out.chg (HN89.out.trans hW qdr)) (HSm8.out.chg (HN89.out.trans hW qdr)))
   have HSame2:=qq (fun W (hW:New w9 W)=>ez W _ _ _ (HSl8.out.chg (HN89.out.trans hW qdr)) (HSk.out.chg hW))
   have HR9:=qq (show New w9 w9 from Chg.refl _ _)
   go_wp2_with first
    | (go_at_call 21;(with_reducible refine (HSame1.out _ HR9.out).mono ?_);rintro e w10 ⟨rfl,hn8⟩;have HR10:=qq hn8;clear hn8)
    | (go_at_call 21;(with_reducible refine (HSame2.out _ HR10.out).mono ?_);rintro e w11 ⟨rfl,hn8⟩;have HR11:=qq (HR10.out.trans hn8 qdr);clear hn8)
   go_ret
   exact ⟨rfl,HN4.out.trans (HN9.out.trans HR11.out qdr) qdr⟩
end Go.Proofs.YtbpgfnbhihklnaaGreat
namespace Go.Proofs.YtbpgfnbhihklnaaGreat.FixAgain
open Go.ChangeShapes Go.WideShapes Go.ChangeAt Go.RowKit
theorem own:ownKnob Tryz.prog.godebug=none:=by kernel_rfl
theorem laid:laidOutB Tryz.prog=true:=by kernel_rfl
theorem fm (os:Os) (started:os.Started) (H:Type) (enc:TypeId×Value→H):
  ReturnsInHanded {} Tryz.checked os 6 .any (Rows.fixAgainSpec.pre6 enc Tryz.prog Tryz.f6 Rows.fixAgainRow.domain false) (Rows.fixAgainSpec.post enc Tryz.prog Tryz.f6 false true false false):=by
 refine returnsInHanded_of_change (C:=Tryz.checked) own started (by kernel_rfl) Tryz.func6
  (ChangeSpec.witness6 (enc:=enc) (C:=Tryz.checked) false ⟨#[],#[.slice none 0 0,.slice none 0 0,.int .i64 0],[]⟩ 8 (by kernel_rfl) (by kernel_rfl) (by kernel_rfl) (by kernel_rfl)) ?_
 intro W base args ds gs before hval0 hW hcnd _
 have hval:∀ (j:Nat) t v,Tryz.f6.params[j]? =some t→args[j]? =some v→Value.okWide Tryz.prog W .any base t v:=hval0
 have hW':=hW
 obtain ⟨p,q,hA0,hV,rfl,hfz,hnd⟩:=hW
 have hA:DataW.TrodAll enc Tryz.prog W 0 (fun _=>true) true Tryz.f6.params.toList args.toList ds p:=hA0
 rw [Tryz.params6] at hA hval
 obtain ⟨v0,vs0,d0,ds0,p0,q0,hargs,rfl,rfl,h0,r0⟩:=trodAll_cons hA
 obtain ⟨v1,vs1,d1,ds1,p1,q1,rfl,rfl,rfl,h1,r1⟩:=trodAll_cons r0
 obtain ⟨v2,vs2,d2,ds2,p2,q2,rfl,rfl,rfl,h2,r2⟩:=trodAll_cons r1
 obtain ⟨rfl,rfl,rfl⟩:=trodAll_nil r2
 obtain rfl:args=#[v0,v1,v2]:=by cases args;simp_all
 obtain ⟨rfl,rfl⟩:=trodVars_none hV
 obtain ⟨n0,hx0⟩:=ks Tryz.underlying22 (by kernel_rfl) Tryz.underlying23 (by kernel_rfl) (hval 0 22 v0 rfl rfl) h0 (gw Tryz.underlying75 Tryz.underlying3 Tryz.underlying3 ⟨rfl,rfl,rfl⟩ ⟨by kernel_rfl,by kernel_rfl,by kernel_rfl⟩ (xi (C:=4) Tryz.underlying73 Tryz.underlying3 (by kernel_rfl)))
 obtain ⟨n1,X1,hx1⟩:=kh Tryz.underlying23 (by kernel_rfl) (by decide) (hval 1 23 v1 rfl rfl) h1 (gw Tryz.underlying75 Tryz.underlying3 Tryz.underlying3 ⟨rfl,rfl,rfl⟩ ⟨by kernel_rfl,by kernel_rfl,by kernel_rfl⟩ (xi (C:=4) Tryz.underlying73 Tryz.underlying3 (by kernel_rfl)))
 obtain ⟨a2,rfl,rfl,rfl,w2⟩:=open_int Tryz.underlying3 (hval 2 3 v2 rfl rfl) h2
 simp only [Lit.wf,qt,decide_eq_true_eq] at w2
 refine (walk_FixAgain W v0 n0 hx0 v1 n1 X1 hx1 a2 w2.1 w2.2).mono fun e W' ⟨he,hg⟩=>?_
 subst he
 exact ⟨_,rfl,mw laid rfl hW' (by kernel_rfl) hg (tb:=4) rfl Tryz.underlying4 ⟨rfl,rfl,rfl⟩⟩
theorem over:Rows.fixAgainRow.holds Tryz.pinned (OpenSpec.ofChange Rows.fixAgainSpec):=
 OpenClaim.holds_of_wide 6 Tryz.f6 rfl rfl rfl rfl rfl rfl rfl ⟨rfl,rfl,rfl,rfl,rfl⟩ rfl rfl rfl rfl rfl (by kernel_rfl) Tryz.func6 (by kernel_rfl)
  (of_decide_eq_true (by kernel_rfl)) (by unfold Func.isWrapper;first| (rw [if_pos (by decide+kernel)];kernel_rfl)| (rw [if_neg (by decide+kernel)];exact ⟨rfl,rfl⟩))
  (fun os started H enc _=>fm os started H enc)
theorem proved:Rows.FixAgainSaid:=
 over
#print axioms proved
end Go.Proofs.YtbpgfnbhihklnaaGreat.FixAgain
