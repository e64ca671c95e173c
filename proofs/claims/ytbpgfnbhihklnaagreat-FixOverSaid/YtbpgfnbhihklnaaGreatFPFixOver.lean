/- FixOver: the walk and the statement. -/
import Derived.Test.YtbpgfnbhihklnaaGreatF12
set_option maxHeartbeats 8000000
set_option maxRecDepth 100000
set_option linter.all false
namespace Go.Proofs.YtbpgfnbhihklnaaGreat
open Go.RowKit Go.Shelf
theorem walk_FixOver (w:World) (v0:Value) (n0:Nat) (hx0:IntsAts w v0 n0) (v1:Value) (n1:Nat) (X1:Nat→Int) (hx1:IntsAt w v1 6 n1 X1) (c2:Int) (h2:-9223372036854775808≤c2) (h3:c2≤9223372036854775807):Calls Tryz.prog 8 #[v0,v1,.int .i64 c2] w fun e w'=>e=.returned (.bool true)∧New w w':=by
 have HX0:=qq hx0
 have HX1:=qq hx1
 clear hx0 hx1
 go_enter Tryz.func8,Tryz.ntmps8
 go_upto_region 2 with (go_at_call 14;refine (ni _).mono ?_;rintro e w1 ⟨rfl,hN1⟩;have HN1:=qq hN1;clear hN1)
 go_upto_region 3 with (go_at_call 15;refine (fq _ _ _ (HX0.out.chg HN1.out)).mono ?_;rintro e w2 ⟨vp,rs,rfl,hpg,hraw,hn2⟩;have HN2:=qq (HN1.out.trans hn2 qdr);have HPg:=qq hpg;have HRaw:=qq hraw;obtain ⟨d,Af,nf,cf,Ar,cr,css,rfl,hru,hl6⟩:=hpg.form;have HRu:=qq hru;obtain ⟨nr,hnr⟩:=qdp (rs.length);have Hnr:=qq hnr;rw [hnr] at HPg hl6⊢;clear hpg hraw hn2 hru hnr)
 obtain ⟨w3,hw3⟩:=qdq (w2.alloc (.cells #[.slice (some ⟨d,0,none⟩) 6 6,.slice Af nf cf,.slice Ar nr cr] 29))
 have hn3:New w2 w3:=by rw [hw3];exact (Chg.refl _ _).alloc _
 have HN3:=qq (HN2.out.trans hn3 qdr)
 have HPg:=qq (HPg.out.chg hn3)
 have HRu:=qq (HRu.out.chg hn3)
 have HBP:=qq (show Blk w3 w2.heap.size 29 #[.slice (some ⟨d,0,none⟩) 6 6,.slice Af nf cf,.slice Ar nr cr] by rw [hw3];exact Blk.new w2 _ _)
 rw [←hw3]
 obtain ⟨b6,hb6⟩:=qdp (w2.heap.size)
 rw [hb6] at HBP⊢
 clear hw3 hn3 hb6
 go_upto_region 4 with (go_at_call 16;refine (tq _ _ _ _ (HX1.out.chg HN3.out) 8 (by omega)).mono ?_;rintro e w4 ⟨vx,x,rfl,hsx,hlx,hgx,hn4⟩;have HN4:=qq (HN3.out.trans hn4 qdr);have HG:=qq hgx;have HSx:=qq hsx;have HPg:=qq (HPg.out.chg hn4);have HRu:=qq (HRu.out.chg hn4);have HBP:=qq (HBP.out.chg hn4 id);have Hlx:=qq hlx;clear hsx hgx hn4 hlx)
 obtain ⟨Ax,cx,rfl,-⟩:=HSx.out.form
 obtain ⟨nx,hnx⟩:=qdp (x.length)
 rw [hnx] at HSx Hlx⊢
 have Hnx:=qq hnx
 have hlx:=Hlx.out
 clear hnx
 have HGo:=qq (ln HG.out)
 have Hok:=qq (pd HRaw.out)
 have HFix:=qq (fun W (hW:New w4 W) u y (hu:RowSl W u y) (ho:OkR y) (hs:StR y) q (hq:q≤48)=>rm W _ rs (HPg.out.chg hW) (nu HRaw.out) (lv HRaw.out) (pd HRaw.out) u y hu ho hs q hq)
 have HF1:=qq (show Calls Tryz.prog 17 #[.agg #[.slice (some ⟨d,0,none⟩) 6 6,.slice Af nf cf,.slice Ar nr cr],.slice Ax nx cx,.int .i64 48] w4 (FixPost w4 rs 48 x) from HFix.out w4 (Chg.refl _ _) _ x HSx.out HGo.out.1 HGo.out.2 48 (by omega))
 have HN:=qq (show New w4 w4 from Chg.refl _ _)
 go_upto_region 5 with first
  | ((with_reducible refine vq rfl (.tmp 8) 29 rfl xp ⟨b6,0,none⟩ [.slice (some ⟨d,0,none⟩) 6 6,.slice Af nf cf,.slice Ar nr cr] ?_ rfl HBP.out.at_ ?_);exact rfl)
  | (go_at_call 17;refine HF1.out.mono ?_;rintro e w5 ⟨vl,m,b,rfl,hsl,hfx,hn5⟩;have HN5:=qq (HN.out.trans hn5 qdr);have HSl:=qq hsl;have HF:=qq hfx;have HBP:=qq (HBP.out.chg hn5 id);clear hsl hfx hn5)
 obtain ⟨Al,cl,rfl,-⟩:=HSl.out.form
 clear HF1
 cases b with
 |false=>
  go_wp2_with fail
  go_ret
  exact ⟨rfl,HN4.out.trans HN5.out qdr⟩
 |true=>
  obtain ⟨s,hs,hm,hfm,hux,hcl⟩:=pc Hok.out (by omega) HGo.out.1 HGo.out.2 HF.out
  rw [qc hm] at HSl⊢
  obtain ⟨nl,hnl⟩:=qdp (m.length)
  rw [hnl] at HSl hm⊢
  have Hnl:=qq hnl
  clear hs hfm hux hcl hnl
  by_cases hz:nl=0
  ·have hzb:((nl:Int) == 0)=true:=by rw [hz];rfl
   have hzn:(nl == 0)=true:=by rw [hz];rfl
   go_wp2_with fail
   go_ret
   exact ⟨rfl,HN4.out.trans HN5.out qdr⟩
  ·have hzb:((nl:Int) == 0)=false:=by
    rw [beq_eq_false_iff_ne]
    omega
   have hzn:(nl == 0)=false:=by simpa using hz
   have HF2:=qq (HFix.out w5 HN5.out _ x (HSx.out.chg HN5.out) HGo.out.1 HGo.out.2 nl (by omega))
   go_upto_region 8 with first
    | ((with_reducible refine vq rfl (.tmp 8) 29 rfl xp ⟨b6,0,none⟩ [.slice (some ⟨d,0,none⟩) 6 6,.slice Af nf cf,.slice Ar nr cr] ?_ rfl HBP.out.at_ ?_);exact rfl)
    | (go_at_call 17;refine HF2.out.mono ?_;rintro e w6 ⟨vm,m2,b2,rfl,hsl,hfx,hn5⟩;have HN6:=qq (HN5.out.trans hn5 qdr);have HSm:=qq hsl;have HFb:=qq hfx;have HBP:=qq (HBP.out.chg hn5 id);have HN56:=qq hn5;clear hsl hfx hn5)
   obtain ⟨hm2,rfl⟩:=(el Hok.out HGo.out.1 HGo.out.2 HF.out (by omega) HFb.out).1 (by rw [Hnl.out];omega)
   rw [hm2] at HSm
   rw [qc (by rw [Hnl.out];omega)] at HSm
   have hp0:=km c2 nl (by omega)
   have hp1:=kn c2 nl (by omega)
   obtain ⟨q,hq⟩:∃ q:Nat,pk c2 nl=(q:Int):=⟨(pk c2 nl).toNat,by omega⟩
   have hql:q < nl:=by omega
   have hpk:=fun W=>pick12 W c2 nl h2 h3 (by omega) (by omega)
   rw [hq] at hpk
   have HPk:=qq hpk
   have HF3:=qq (HFix.out w6 HN6.out _ x (HSx.out.chg HN6.out) HGo.out.1 HGo.out.2 q (by omega))
   clear hpk hp0 hp1 hq HF2
   go_upto_region 10 with first
    | ((with_reducible refine vq rfl (.tmp 8) 29 rfl xp ⟨b6,0,none⟩ [.slice (some ⟨d,0,none⟩) 6 6,.slice Af nf cf,.slice Ar nr cr] ?_ rfl HBP.out.at_ ?_);exact rfl)
    | (go_at_call 24;refine (HPk.out _).mono ?_;rintro e w' ⟨rfl,rfl⟩)
    | (go_at_call 17;refine HF3.out.mono ?_;rintro e w7 ⟨vk,mk,b3,rfl,hsl,hfx,hn5⟩;have HN7:=qq (HN6.out.trans hn5 qdr);have HSk:=qq hsl;have HFc:=qq hfx;have HBP:=qq (HBP.out.chg hn5 id);have HN67:=qq hn5;have HN57:=qq (HN56.out.trans hn5 qdr);clear hsl hfx hn5)
   obtain ⟨rfl,hk⟩:=(el Hok.out HGo.out.1 HGo.out.2 HF.out (by omega) HFc.out).2 (by rw [Hnl.out];exact hql)
   obtain ⟨Ak,ck,rfl,-⟩:=HSk.out.form
   have hkl:(mk.take q).length=q:=by rw [ql];omega
   rw [hkl] at HSk⊢
   have HSa:=qq (HSl.out.chg HN56.out)
   have HSame:=qq (ez w7 _ _ m (HSl.out.chg HN57.out) (HSm.out.chg HN67.out))
   have hqq:((q:Int) == (q:Int))=true:=by simp
   clear hkl hk HF3
   go_wp2_with (go_at_call 21;refine HSame.out.mono ?_;rintro e w8 ⟨rfl,hn8⟩;have HN8:=qq (HN7.out.trans hn8 qdr);clear hn8)
   go_ret
   exact ⟨rfl,HN4.out.trans HN8.out qdr⟩
end Go.Proofs.YtbpgfnbhihklnaaGreat
namespace Go.Proofs.YtbpgfnbhihklnaaGreat.FixOver
open Go.ChangeShapes Go.WideShapes Go.ChangeAt Go.RowKit
theorem own:ownKnob Tryz.prog.godebug=none:=by kernel_rfl
theorem laid:laidOutB Tryz.prog=true:=by kernel_rfl
theorem fm (os:Os) (started:os.Started) (H:Type) (enc:TypeId×Value→H):
  ReturnsInHanded {} Tryz.checked os 8 .any (Rows.fixOverSpec.pre6 enc Tryz.prog Tryz.f8 Rows.fixOverRow.domain false) (Rows.fixOverSpec.post enc Tryz.prog Tryz.f8 false true false false):=by
 refine returnsInHanded_of_change (C:=Tryz.checked) own started (by kernel_rfl) Tryz.func8
  (ChangeSpec.witness6 (enc:=enc) (C:=Tryz.checked) false ⟨#[],#[.slice none 0 0,.slice none 0 0,.int .i64 0],[]⟩ 8 (by kernel_rfl) (by kernel_rfl) (by kernel_rfl) (by kernel_rfl)) ?_
 intro W base args ds gs before hval0 hW hcnd _
 have hval:∀ (j:Nat) t v,Tryz.f8.params[j]? =some t→args[j]? =some v→Value.okWide Tryz.prog W .any base t v:=hval0
 have hW':=hW
 obtain ⟨p,q,hA0,hV,rfl,hfz,hnd⟩:=hW
 have hA:DataW.TrodAll enc Tryz.prog W 0 (fun _=>true) true Tryz.f8.params.toList args.toList ds p:=hA0
 rw [Tryz.params8] at hA hval
 obtain ⟨v0,vs0,d0,ds0,p0,q0,hargs,rfl,rfl,h0,r0⟩:=trodAll_cons hA
 obtain ⟨v1,vs1,d1,ds1,p1,q1,rfl,rfl,rfl,h1,r1⟩:=trodAll_cons r0
 obtain ⟨v2,vs2,d2,ds2,p2,q2,rfl,rfl,rfl,h2,r2⟩:=trodAll_cons r1
 obtain ⟨rfl,rfl,rfl⟩:=trodAll_nil r2
 obtain rfl:args=#[v0,v1,v2]:=by cases args;simp_all
 obtain ⟨rfl,rfl⟩:=trodVars_none hV
 obtain ⟨n0,hx0⟩:=ks Tryz.underlying22 (by kernel_rfl) Tryz.underlying23 (by kernel_rfl) (hval 0 22 v0 rfl rfl) h0 (gw Tryz.underlying75 Tryz.underlying3 Tryz.underlying3 ⟨rfl,rfl,rfl⟩ ⟨by kernel_rfl,by kernel_rfl,by kernel_rfl⟩ (xi (C:=4) Tryz.underlying73 Tryz.underlying3 (by kernel_rfl)))
 obtain ⟨n1,X1,hx1⟩:=kh Tryz.underlying23 (by kernel_rfl) (by decide) (hval 1 23 v1 rfl rfl) h1 (gw Tryz.underlying75 Tryz.underlying3 Tryz.underlying3 ⟨rfl,rfl,rfl⟩ ⟨by kernel_rfl,by kernel_rfl,by kernel_rfl⟩ (xi (C:=4) Tryz.underlying73 Tryz.underlying3 (by kernel_rfl)))
 obtain ⟨a2,rfl,rfl,rfl,w2⟩:=open_int Tryz.underlying3 (hval 2 3 v2 rfl rfl) h2
 simp only [Lit.wf,qt,decide_eq_true_eq] at w2
 refine (walk_FixOver W v0 n0 hx0 v1 n1 X1 hx1 a2 w2.1 w2.2).mono fun e W' ⟨he,hg⟩=>?_
 subst he
 exact ⟨_,rfl,mw laid rfl hW' (by kernel_rfl) hg (tb:=4) rfl Tryz.underlying4 ⟨rfl,rfl,rfl⟩⟩
theorem over:Rows.fixOverRow.holds Tryz.pinned (OpenSpec.ofChange Rows.fixOverSpec):=
 OpenClaim.holds_of_wide 8 Tryz.f8 rfl rfl rfl rfl rfl rfl rfl ⟨rfl,rfl,rfl,rfl,rfl⟩ rfl rfl rfl rfl rfl (by kernel_rfl) Tryz.func8 (by kernel_rfl)
  (of_decide_eq_true (by kernel_rfl)) (by unfold Func.isWrapper;first| (rw [if_pos (by decide+kernel)];kernel_rfl)| (rw [if_neg (by decide+kernel)];exact ⟨rfl,rfl⟩))
  (fun os started H enc _=>fm os started H enc)
theorem proved:Rows.FixOverSaid:=
 over
#print axioms proved
end Go.Proofs.YtbpgfnbhihklnaaGreat.FixOver
