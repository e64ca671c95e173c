/- FixSound: the walk and the statement. -/
import Derived.Test.YtbpgfnbhihklnaaGreatF12
set_option maxHeartbeats 8000000
set_option maxRecDepth 100000
set_option linter.all false
namespace Go.Proofs.YtbpgfnbhihklnaaGreat
open Go.RowKit Go.Shelf
theorem nx_nil2 (w:World):NxAt w w (.slice none 0 0) []:=⟨[],Own.nil w w.heap.size 42 3,⟨rfl,fun i cs h=>by simp at h⟩⟩
theorem NxAt.sl2 {wc W:World} {v:Value} {qs:List Rw} (h:NxAt wc W v qs) (hl:qs.length≤100000000):RowSl W v qs:=by
 obtain ⟨cso,h1,h2⟩:=h
 exact h1.rowSl h2 hl
end Go.Proofs.YtbpgfnbhihklnaaGreat
namespace Go.Proofs.YtbpgfnbhihklnaaGreat
open Go.RowKit Go.Shelf
def Grows (m n:List Rw) (L:Lt):Prop:=L.kind≠2∨named m L.name=named n L.name
theorem grow_under {m n:List Rw} (h:Under m n) {L:Lt} (hk:Grows m n L) {s s' x:Sta} (he:s'.1=s.1) (hs:s.2≤s'.2) (hx:x∈nextV m L s):∃ x'∈nextV n L s',x'.1=x.1∧x.2≤x'.2:=by
 by_cases h2:L.kind=2
 ·have hn:named m L.name=named n L.name:=hk.resolve_left (fun e=>e h2)
  cases L with
  |atom b nm ts=>
   cases b
   ·exact absurd (show (1:Int)=2 from h2) (by decide)
   ·have g:∀ rows (s:Sta),goesV rows (.atom true nm ts) s=if (atomsV rows nm ts s).isEmpty then some s else none:=fun _ _=>rfl
    have hx':goesV m (.atom true nm ts) s=some x:=Option.mem_toList.1 hx
    rw [g] at hx'
    split at hx'
    ·rename_i h0
     cases hx'
     refine ⟨s',Option.mem_toList.2 ?_,he,hs⟩
     rw [g,if_pos ?_]
     rw [List.isEmpty_iff] at h0⊢
     unfold atomsV at h0⊢
     rw [←show named m nm=named n nm from hn,List.filterMap_eq_nil_iff]
     intro r hr
     have h1:=List.filterMap_eq_nil_iff.1 h0 r hr
     unfold atomS at h1⊢
     rw [he]
     cases hm:matchV ts r.args s.1 with
     |none=>rfl
     |some e=>rw [hm] at h1;cases h1
    ·cases hx'
  |test j a b=>exact absurd (show (3:Int)=2 from h2) (by decide)
  |assign nm t=>exact absurd (show (4:Int)=2 from h2) (by decide)
 ·exact ox h h2 he hs hx
theorem growW_under {m n:List Rw} (h:Under m n):∀ {Ls:List Lt},(∀ L∈Ls,Grows m n L)→∀ {s s' x:Sta},s'.1=s.1→s.2≤s'.2→x∈waysV m Ls s→∃ x'∈waysV n Ls s',x'.1=x.1∧x.2≤x'.2
 | [],_,s,s',x,he,hs,hx=>by
  rw [qn.1 (show x∈[s] from hx)]
  exact ⟨s',qn.2 rfl,he,hs⟩
 |L::Ls,hL,s,s',x,he,hs,hx=>by
  obtain ⟨t,ht,hx⟩:=ju.1 (show x∈(nextV m L s).flatMap (waysV m Ls) from hx)
  obtain ⟨t',ht',e1,e2⟩:=grow_under h (hL L (zb ..)) he hs ht
  obtain ⟨x',hx',e3,e4⟩:=growW_under h (fun L' hl=>hL L' (zh _ hl)) e1 e2 hx
  exact ⟨x',ju.2 ⟨t',ht',hx'⟩,e3,e4⟩
theorem growF_under {m n:List Rw} (h:Under m n) {hd:ByteArray} {ts:List Tm} {Ls:List Lt} (hL:∀ L∈Ls,Grows m n L):Under (fireV hd ts Ls m) (fireV hd ts Ls n):=by
 intro r hr
 obtain ⟨s,hs,he⟩:=zr.1 hr
 obtain ⟨s',hs',e1,e2⟩:=growW_under h hL (s':=([],forever)) rfl (yk _) hs
 unfold headV at he
 cases ha:allO (ts.map (evalT s.1)) with
 |none=>rw [ha] at he;cases he
 |some us=>
  rw [ha] at he
  cases he
  refine ⟨⟨hd,us,s'.2⟩,zr.2 ⟨s',hs',?_⟩,rfl,rfl,e2⟩
  unfold headV
  rw [e1,ha]
  rfl
theorem Fine.self {l:List Rw} (h:Fine l):mergeF l=l:=cg h.ok.can (xm l) (ct h.up)
theorem ruleV_mono {rs:List Ru} {s:List Nat} {k:Nat} (he:∀ e∈edP rs,s.getD e.on 0+e.up≤s.getD e.head 0) {r:Ru} (hr:r∈rs) (hok:r.Ok) (hk:s.getD (relI r.h) 0≤k)
  {l n:List Rw} (hl:Fine l) (hn:Fine n) (h:Under l n) (hnm:∀ nm,s.getD (relI nm) 0 < k→named l nm=named n nm):Under (ruleV r l) (ruleV r n):=by
 by_cases ha:r.agg=⟨#[]⟩
 ·unfold ruleV
  rw [ha,show agName? ⟨#[]⟩=none by decide]
  simp only
  rw [hl.self,hn.self]
  refine Under.merge (growF_under h fun L hL=>?_) (pl hok hn.ok).can
  by_cases h2:L.kind=2
  ·have:=(body_le he hr hL (by omega)).2.1 h2
   exact .inr (hnm _ (by omega))
  ·exact .inl h2
 ·rw [qdl hl hn fun L hL h2=>by
   have:=(body_le he hr hL h2).2.2 ha
   exact hnm _ (by omega)]
  exact Under.refl _
def Snd (rs:List Ru) (s:List Nat) (x:List Rw) (k:Nat) (l:List Rw):Prop:=Under l (x++(rs.filter fun r=>decide (s.getD (relI r.h) 0 < k)).flatMap fun r=>ruleV r l)
theorem flat_under {rs:List Ru} {f g:Ru→List Rw} (h:∀ r∈rs,Under (f r) (g r)):Under (rs.flatMap f) (rs.flatMap g):=fun x hx=>by
 obtain ⟨r,hr,hx⟩:=ju.1 hx
 obtain ⟨y,hy,hh⟩:=h r hr x hx
 exact ⟨y,ju.2 ⟨r,hr,hy⟩,hh⟩
theorem Strm.snd {rs:List Ru} {s:List Nat} {most k:Nat} {x:List Rw} (hok:∀ r∈rs,r.Ok) (he:∀ e∈edP rs,s.getD e.on 0+e.up≤s.getD e.head 0) (hm:most≤48) {l m:List Rw} {b:Bool} (h:Strm (ofS rs s k) id most l m b) (hl:Fine l) (hs:Snd rs s x (k+1) l):Snd rs s x (k+1) m:=by
 induction h with
 |over=>exact hs
 |done=>exact hs
 | @go l m b h hne _ ih=>
  have h48:(id l).length≤48:=by show l.length≤48;omega
  have hn:=pr (fb (s:=s) hok k) hl hl h48
  refine ih hn ?_
  have hu:=nw (fb (s:=s) hok k) hl hl h48
  have hmono:∀ r∈rs,s.getD (relI r.h) 0≤k→Under (ruleV r l) (ruleV r (nextF (ofS rs s k) (id l) l)):=fun r hr hk=>
   ruleV_mono he hr (hok r hr) hk hl hn hu fun nm hlt=>(qas (fb (s:=s) hok k) hl hl h48 fun r hr e=>by
    have h6:=of_decide_eq_true (zc.1 hr).2
    rw [e] at h6
    omega).symm
  refine (lf _).trans fun y hy=>?_
  rcases zk.1 hy with hy|hy
  ·exact (hs.trans (Under.app (Under.refl x) (flat_under fun r hr=>hmono r (zc.1 hr).1 (by have:=of_decide_eq_true (zc.1 hr).2;omega)))) y hy
  ·obtain ⟨r,hr,hy⟩:=ju.1 hy
   obtain ⟨hr1,hr2⟩:=zc.1 hr
   have hr2:=of_decide_eq_true hr2
   obtain ⟨z,hz,hh⟩:=hmono r hr1 (by omega) y hy
   exact ⟨z,List.mem_append_right _ (ju.2 ⟨r,zc.2 ⟨hr1,decide_eq_true (by omega)⟩,hz⟩),hh⟩
theorem Rnds.snd {rs:List Ru} {s:List Nat} {most:Nat} {x:List Rw} (hok:∀ r∈rs,r.Ok) (he:∀ e∈edP rs,s.getD e.on 0+e.up≤s.getD e.head 0) (hm:most≤48) {k j:Nat} {l m:List Rw} {b:Bool} (h:Rnds rs s id most k j l m b) (hb:b=true) (hl:Fine l) (hc:Snd rs s x k l):Snd rs s x (k+j) m:=by
 have hsub:∀ l:List Rw,(id l).Sublist l:=fun l=>List.Sublist.refl l
 induction h with
 |last=>exact hc
 |over=>cases hb
 | @next k j l m r b h _ ih=>
  obtain ⟨h1,-⟩:=h.keeps (fb hok k) hsub hm hl
  have h2:Snd rs s x (k+1) l:=hc.trans (Under.sub fun y hy=>by
   rcases zk.1 hy with hy|hy
   ·exact ux _ hy
   ·obtain ⟨r,hr,hy⟩:=ju.1 hy
    obtain ⟨hr1,hr2⟩:=zc.1 hr
    have hr2:=of_decide_eq_true hr2
    exact List.mem_append_right _ (ju.2 ⟨r,zc.2 ⟨hr1,decide_eq_true (by omega)⟩,hy⟩))
  have:=ih hb h1 (h.snd hok he hm hl h2)
  rwa [show k+1+j=k+(j+1) by omega] at this
theorem fix_sound {rs:List Ru} {most:Nat} {x m:List Rw} (hok:∀ r∈rs,r.Ok) (hm:most≤48) (hx:OkR x) (hs:StR x) (h:Fixes rs id most x m true):mergeF (x++rs.flatMap fun r=>ruleV r m)=m:=by
 obtain ⟨s,hst,hlm,hfm,hux,hcl⟩:=pc hok hm hx hs h
 have hmo:OkR (rs.flatMap fun r=>ruleV r m):=(ky hok hfm.ok (by omega)).1
 have h1:Under (mergeF (x++rs.flatMap fun r=>ruleV r m)) m:=(lf _).trans fun y hy=>by
  rcases zk.1 hy with hy|hy
  ·exact hux y hy
  ·obtain ⟨r,hr,hy⟩:=ju.1 hy
   exact hcl r hr y hy
 refine tu (xm _).up hfm.up h1 ?_
 unfold Fixes at h
 rw [hst] at h
 obtain ⟨-,h6,-,he⟩:=ba hst
 have h2:=Rnds.snd hok he hm h rfl (gq hx hs) ((lf x).trans (Under.sub fun y hy=>ux _ hy))
 refine (h2.trans (Under.sub fun y hy=>?_)).trans (pu (hx.app hmo).can)
 rcases zk.1 hy with hy|hy
 ·exact ux _ hy
 ·obtain ⟨r,hr,hy⟩:=ju.1 hy
  exact List.mem_append_right _ (ju.2 ⟨r,(zc.1 hr).1,hy⟩)
end Go.Proofs.YtbpgfnbhihklnaaGreat
namespace Go.Proofs.YtbpgfnbhihklnaaGreat
open Go.RowKit Go.Shelf
theorem walk_FixSound (w:World) (v0:Value) (n0:Nat) (hx0:IntsAts w v0 n0) (v1:Value) (n1:Nat) (X1:Nat→Int) (hx1:IntsAt w v1 6 n1 X1):Calls Tryz.prog 4 #[v0,v1] w fun e w'=>e=.returned (.bool true)∧New w w':=by
 have HX0:=qq hx0
 have HX1:=qq hx1
 clear hx0 hx1
 go_enter Tryz.func4,Tryz.ntmps4
 go_upto_region 2 with (go_at_call 14;refine (ni _).mono ?_;rintro e w1 ⟨rfl,hN1⟩;have HN1:=qq hN1;clear hN1)
 go_upto_region 3 with (go_at_call 15;refine (fq _ _ _ (HX0.out.chg HN1.out)).mono ?_;rintro e w2 ⟨vp,rs,rfl,hpg,hraw,hn2⟩;have HN2:=qq (HN1.out.trans hn2 qdr);have HPg:=qq hpg;have HRaw:=qq hraw;obtain ⟨d,Af,nf,cf,Ar,cr,css,rfl,hru,hl6⟩:=hpg.form;have HRu:=qq hru;obtain ⟨nr,hnr⟩:=qdp (rs.length);have Hnr:=qq hnr;rw [hnr] at HPg hl6⊢;clear hpg hraw hn2 hru hnr)
 obtain ⟨w3,hw3⟩:=qdq (w2.alloc (.cells #[.slice (some ⟨d,0,none⟩) 6 6,.slice Af nf cf,.slice Ar nr cr] 29))
 have hn3:New w2 w3:=by rw [hw3];exact (Chg.refl _ _).alloc _
 have HN3:=qq (HN2.out.trans hn3 qdr)
 have HPg:=qq (HPg.out.chg hn3)
 have HRu:=qq (HRu.out.chg hn3)
 have HBP:=qq (show Blk w3 w2.heap.size 29 #[.slice (some ⟨d,0,none⟩) 6 6,.slice Af nf cf,.slice Ar nr cr] by rw [hw3];exact Blk.new w2 _ _)
 rw [←hw3]
 obtain ⟨b6,hb6⟩:=qdp (w2.heap.size)
 rw [hb6] at HBP⊢
 clear hw3 hn3 hb6
 go_upto_region 4 with (go_at_call 16;refine (tq _ _ _ _ (HX1.out.chg HN3.out) 10 (by omega)).mono ?_;rintro e w4 ⟨vx,x,rfl,hsx,hlx,hgx,hn4⟩;have HN4:=qq (HN3.out.trans hn4 qdr);have HG:=qq hgx;have HSx:=qq hsx;have HPg:=qq (HPg.out.chg hn4);have HRu:=qq (HRu.out.chg hn4);have HBP:=qq (HBP.out.chg hn4 id);have Hlx:=qq hlx;clear hsx hgx hn4 hlx)
 obtain ⟨Ax,cx,rfl,-⟩:=HSx.out.form
 obtain ⟨nx,hnx⟩:=qdp (x.length)
 rw [hnx] at HSx Hlx⊢
 have Hnx:=qq hnx
 have hlx:=Hlx.out
 clear hnx
 have HGo:=qq (ln HG.out)
 have Hok:=qq (pd HRaw.out)
 have HFix:=qq (fun W (hW:New w4 W) u y (hu:RowSl W u y) (ho:OkR y) (hs:StR y) q (hq:q≤48)=>rm W _ rs (HPg.out.chg hW) (nu HRaw.out) (lv HRaw.out) (pd HRaw.out) u y hu ho hs q hq)
 have HF1:=qq (show Calls Tryz.prog 17 #[.agg #[.slice (some ⟨d,0,none⟩) 6 6,.slice Af nf cf,.slice Ar nr cr],.slice Ax nx cx,.int .i64 48] w4 (FixPost w4 rs 48 x) from HFix.out w4 (Chg.refl _ _) _ x HSx.out HGo.out.1 HGo.out.2 48 (by omega))
 clear HFix
 go_upto_region 5 with first
  | ((with_reducible refine vq rfl (.tmp 6) 29 rfl xp ⟨b6,0,none⟩ [.slice (some ⟨d,0,none⟩) 6 6,.slice Af nf cf,.slice Ar nr cr] ?_ rfl HBP.out.at_ ?_);exact rfl)
  | (go_at_call 17;refine HF1.out.mono ?_;rintro e w5 ⟨vl,m,b,rfl,hsl,hfx,hn5⟩;have HN5:=qq (HN4.out.trans hn5 qdr);have HSl:=qq hsl;have HF:=qq hfx;have HRu:=qq (HRu.out.chg hn5);have HBP:=qq (HBP.out.chg hn5 id);have HSx:=qq (HSx.out.chg hn5);clear hsl hfx hn5)
 obtain ⟨Al,cl,rfl,-⟩:=HSl.out.form
 clear HF1
 cases b with
 |false=>
  go_wp2_with fail
  go_ret
  exact ⟨rfl,HN5.out⟩
 |true=>
  obtain ⟨s,hs,hm,hfm,hux,hcl⟩:=pc Hok.out (by omega) HGo.out.1 HGo.out.2 HF.out
  have HSo:=qq (fix_sound Hok.out (by omega) HGo.out.1 HGo.out.2 HF.out)
  rw [qc hm] at HSl⊢
  have HFm:=qq hfm
  obtain ⟨nl,hnl⟩:=qdp (m.length)
  rw [hnl] at HSl hm⊢
  have Hnl:=qq hnl
  clear hs hfm hux hcl hnl
  obtain ⟨v1',W1,hr1,hx1,hN1⟩:=qan (nx_nil2 w5) (Chg.refl _ _) HSx.out (by rw [Hnx.out];simp;omega) 31
  rw [jq] at hx1
  have Hr1:=qq hr1
  have HX1':=qq hx1
  have HNa:=qq hN1
  have HMk:=qq (fun (qs:List Ru) (hq:∀ r∈qs,r∈rs)=>ky (rs:=qs) (fun r hr=>Hok.out r (hq r hr)) HFm.out.ok (by have:=Hnl.out;omega))
  have Hl6:=qq hl6
  clear hr1 hx1 hN1
  go_wp2_with ((with_reducible refine xu rfl (.const (.slice none 0 0)) (.tmp 26) 31 31 rfl ?_ ?_ Hr1.out ?_);exact rfl;exact rfl)
  go_loopw [10,11] (fun u10 u11 wr=>∃ i:Nat,i≤nr∧u11=.int .i64 i∧NxAt w5 wr u10 (x++(rs.take i).flatMap fun r=>ruleV r m)∧New w5 wr) (fun _ u _=>nr - (intOf u).toNat)
  case atStart=>exact ⟨0,qr _,rfl,by simpa using HX1'.out,HNa.out⟩
  case round=>
   obtain ⟨k,hk,rfl,hxk,hN⟩:=hrel
   have HXk:=qq hxk
   have HNk:=qq hN
   have e2:=(HBP.out.chg hN id).cell 2
   simp only [qx,qj,qw] at e2
   clear hN hxk
   by_cases hlt:k < nr
   ·obtain ⟨r,hr⟩:∃ r,rs[k]? =some r:=⟨_,qz (by rw [Hnr.out];exact hlt)⟩
    obtain ⟨cs,hcs⟩:∃ cs,css[k]? =some cs:=⟨_,qz (by rw [HRu.out.len,Hnr.out];exact hlt)⟩
    obtain ⟨ad,rfl,hrw⟩:=HRu.out.src (by rw [HRu.out.len,Hnr.out];omega)
    have hru:=HRu.out.at_ k cs r hcs hr
    obtain ⟨lab,Aa,ca,Ab,cb,he⟩:=hru.form
    obtain rfl:cs=[.string lab,.string r.h,.slice Aa r.ts.length ca,.string r.agg,.int .i64 r.at',.slice Ab r.Ls.length cb]:=by
     injection he with he
     simpa using congrArg Array.toList he
    have Hat:=qq ((hrw k _ hcs).2.chg HNk.out id)
    have hgr:=gruleV wr _ (.slice Al nl cl) r (hru.chg HNk.out) (Hok.out r (qf hr)) m (HSl.out.chg HNk.out) HFm.out.ok (qb (kx m) (by have:=Hnl.out;omega))
    have Htk:=qq (show (rs.take (k+1)).flatMap (fun r=>ruleV r m)=(rs.take k).flatMap (fun r=>ruleV r m)++ruleV r m by
     rw [vh hr,zp,List.flatMap_singleton])
    have Hlen:=qq (show (x++(rs.take k).flatMap fun r=>ruleV r m).length+(ruleV r m).length≤100000000 by
     have h1:=(HMk.out (rs.take k) (fun y hy=>je hy)).2.2
     have h2:=(fk (Hok.out r (qf hr)) HFm.out.ok (by have:=Hnl.out;omega)).2.2
     have h3:(rs.take k).length≤6:=by have:=Hl6.out;rw [ql];omega
     have:=Hnx.out
     rw [qg]
     have h4:=yy 5308416 h3
     omega)
    obtain ⟨n1,hn1⟩:=qdp (r.ts.length)
    obtain ⟨nb,hnb⟩:=qdp (r.Ls.length)
    rw [hn1,hnb] at Hat hgr
    have HGr:=qq hgr
    have q0:(0:Int)≤(k:Int):=by omega
    have q1:(k:Int) < (nr:Int):=by omega
    clear hrw hcs hr he hru hn1 hnb hgr
    go_wp2_with first
     | ((with_reducible refine vq rfl (.tmp 39) 47 rfl xt (ad.add (k * 6)) [.string lab,.string r.h,.slice Aa n1 ca,.string r.agg,.int .i64 r.at',.slice Ab nb cb] ?_ rfl Hat.out ?_);exact rfl)
     | (go_at_call 20;refine HGr.out.mono ?_;rintro e w8 ⟨vy,rfl,hsy,hn8⟩;obtain ⟨v11,w11,hr11,hx11,hn11⟩:=qan (HXk.out.chg hn8) (HNk.out.trans hn8 qdr) hsy Hlen.out 31;have HR11:=qq hr11;have HX11:=qq hx11;have HN11:=qq hn11;clear hsy hn8 hr11 hx11 hn11)
     | ((with_reducible refine xu rfl (.tmp 35) (.tmp 42) 31 31 rfl ?_ ?_ HR11.out ?_);exact rfl;exact rfl)
    go_roundw
    case rel=>exact ⟨k+1,by omega,by go_num,by rw [Htk.out, ←qo];exact HX11.out,HN11.out⟩
    case measure=>simp [intOf];omega
   ·have hmk:=HMk.out rs (fun r hr=>hr)
    have HXe:=qq (show RowSl wr u10 (x++rs.flatMap fun r=>ruleV r m) by
     have h:=HXk.out
     rw [qc (l:=rs) (by rw [Hnr.out];omega)] at h
     refine h.sl2 ?_
     have h3:=hmk.2.2
     have h5:=Hnx.out
     have h6:=Hl6.out
     have h7:=Hnr.out
     have h4:=yy 5308416 (show rs.length≤6 by omega)
     rw [qg]
     omega)
    have Hcan:=qq (HGo.out.1.app hmk.1)
    have HSl:=qq (HSl.out.chg HNk.out)
    have HN:=qq (HN5.out.trans HNk.out qdr)
    clear hmk HXk
    go_wp2_with first
     | (go_at_call 22;refine (db _ _ _ HXe.out).mono ?_;rintro e w10 ⟨v10,out,rfl,hm10,hs10,hn10⟩;obtain rfl:=ge Hcan.out.can hm10;rw [HSo.out] at hs10;have HV10:=qq hs10;have HN10:=qq (HN.out.trans hn10 qdr);have HL10:=qq (HSl.out.chg hn10);clear hm10 hs10 hn10)
     | (go_at_call 21;refine (ez _ _ _ m HV10.out HL10.out).mono ?_;rintro e w11 ⟨rfl,hn11⟩;have HN11:=qq (HN10.out.trans hn11 qdr);clear hn11)
    go_ret
    exact ⟨rfl,HN11.out⟩
end Go.Proofs.YtbpgfnbhihklnaaGreat
namespace Go.Proofs.YtbpgfnbhihklnaaGreat.FixSound
open Go.ChangeShapes Go.WideShapes Go.ChangeAt Go.RowKit
theorem own:ownKnob Tryz.prog.godebug=none:=by kernel_rfl
theorem laid:laidOutB Tryz.prog=true:=by kernel_rfl
theorem fm (os:Os) (started:os.Started) (H:Type) (enc:TypeId×Value→H):
  ReturnsInHanded {} Tryz.checked os 4 .any (Rows.fixSoundSpec.pre6 enc Tryz.prog Tryz.f4 Rows.fixSoundRow.domain false) (Rows.fixSoundSpec.post enc Tryz.prog Tryz.f4 false true false false):=by
 refine returnsInHanded_of_change (C:=Tryz.checked) own started (by kernel_rfl) Tryz.func4
  (ChangeSpec.witness6 (enc:=enc) (C:=Tryz.checked) false ⟨#[],#[.slice none 0 0,.slice none 0 0],[]⟩ 8 (by kernel_rfl) (by kernel_rfl) (by kernel_rfl) (by kernel_rfl)) ?_
 intro W base args ds gs before hval0 hW hcnd _
 have hval:∀ (j:Nat) t v,Tryz.f4.params[j]? =some t→args[j]? =some v→Value.okWide Tryz.prog W .any base t v:=hval0
 have hW':=hW
 obtain ⟨p,q,hA0,hV,rfl,hfz,hnd⟩:=hW
 have hA:DataW.TrodAll enc Tryz.prog W 0 (fun _=>true) true Tryz.f4.params.toList args.toList ds p:=hA0
 rw [Tryz.params4] at hA hval
 obtain ⟨v0,vs0,d0,ds0,p0,q0,hargs,rfl,rfl,h0,r0⟩:=trodAll_cons hA
 obtain ⟨v1,vs1,d1,ds1,p1,q1,rfl,rfl,rfl,h1,r1⟩:=trodAll_cons r0
 obtain ⟨rfl,rfl,rfl⟩:=trodAll_nil r1
 obtain rfl:args=#[v0,v1]:=by cases args;simp_all
 obtain ⟨rfl,rfl⟩:=trodVars_none hV
 obtain ⟨n0,hx0⟩:=ks Tryz.underlying22 (by kernel_rfl) Tryz.underlying23 (by kernel_rfl) (hval 0 22 v0 rfl rfl) h0 (gw Tryz.underlying75 Tryz.underlying3 Tryz.underlying3 ⟨rfl,rfl,rfl⟩ ⟨by kernel_rfl,by kernel_rfl,by kernel_rfl⟩ (xi (C:=4) Tryz.underlying73 Tryz.underlying3 (by kernel_rfl)))
 obtain ⟨n1,X1,hx1⟩:=kh Tryz.underlying23 (by kernel_rfl) (by decide) (hval 1 23 v1 rfl rfl) h1 (gw Tryz.underlying75 Tryz.underlying3 Tryz.underlying3 ⟨rfl,rfl,rfl⟩ ⟨by kernel_rfl,by kernel_rfl,by kernel_rfl⟩ (xi (C:=4) Tryz.underlying73 Tryz.underlying3 (by kernel_rfl)))
 refine (walk_FixSound W v0 n0 hx0 v1 n1 X1 hx1).mono fun e W' ⟨he,hg⟩=>?_
 subst he
 exact ⟨_,rfl,mw laid rfl hW' (by kernel_rfl) hg (tb:=4) rfl Tryz.underlying4 ⟨rfl,rfl,rfl⟩⟩
theorem over:Rows.fixSoundRow.holds Tryz.pinned (OpenSpec.ofChange Rows.fixSoundSpec):=
 OpenClaim.holds_of_wide 4 Tryz.f4 rfl rfl rfl rfl rfl rfl rfl ⟨rfl,rfl,rfl,rfl,rfl⟩ rfl rfl rfl rfl rfl (by kernel_rfl) Tryz.func4 (by kernel_rfl)
  (of_decide_eq_true (by kernel_rfl)) (by unfold Func.isWrapper;first| (rw [if_pos (by decide+kernel)];kernel_rfl)| (rw [if_neg (by decide+kernel)];exact ⟨rfl,rfl⟩))
  (fun os started H enc _=>fm os started H enc)
theorem proved:Rows.FixSoundSaid:=
 over
#print axioms proved
end Go.Proofs.YtbpgfnbhihklnaaGreat.FixSound
