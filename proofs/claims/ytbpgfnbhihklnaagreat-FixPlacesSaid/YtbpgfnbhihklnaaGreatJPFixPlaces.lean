/- FixPlaces: the walk and the statement. -/
import Derived.Test.YtbpgfnbhihklnaaGreatJ12
set_option maxHeartbeats 8000000
set_option maxRecDepth 100000
set_option linter.all false
namespace Go.Proofs.YtbpgfnbhihklnaaGreat
open Go.RowKit Go.Shelf
def nx_nil2 (w:World):NxAt w w (.slice none 0 0) []:=⟨[],Own.nil w w.heap.size 42 3,⟨rfl,fun i cs h=>by simp at h⟩⟩
def NxAt.sl2 {wc W:World} {v:Value} {qs:List Rw} (h:NxAt wc W v qs) (hl:qs.length≤100000000):RowSl W v qs:=by
 obtain ⟨cso,h1,h2⟩:=h
 exact h1.rowSl h2 hl
def atB (plc:ByteArray) (r:Rw):Bool:=match r.args with
 | []=>false
 |v::_=>decide (v.k=3)&&decide (v.t=plc)
def hereP (plc:ByteArray) (l:List Rw):List Rw:=l.filter (atB plc)
def othersP (plc:ByteArray) (l:List Rw):List Rw:=l.filter fun r=>!atB plc r
def nx_app2 {wc W:World} {v u:Value} {qs ss:List Rw} (h:NxAt wc W v qs) (hw:New wc W) (hu:RowSl W u ss) (hl:qs.length+ss.length≤100000000) (ty:TypeId):
  ∃ v' W',(Builtin.append_ #[31,31] ty #[v,u]).run Tryz.prog W=.ok v' W'∧NxAt wc W' v' (qs++ss)∧New wc W'∧Chg W W' (fun k=>v.ownBlock=some k)∧∀ k,v'.ownBlock=some k→v.ownBlock=some k∨W.heap.size≤k:=by
 obtain ⟨cso,h1,h2⟩:=h
 obtain ⟨css,hs⟩:=hu.cells
 obtain ⟨v',W',hr,ho,hc,hb⟩:=mf h1 hw.size hs (by rw [h2.1];omega) ty
 have hn:=fun k hk=>qct h1 k hk
 exact ⟨v',W',hr,⟨_,ho,(h2.stay hc hn).app (hs.cs.stay hc hn)⟩,hw.trans hc (fun k hk e=>by have:=(h1.lt e).1;omega),hc,hb⟩
def NxAt.other {wc W W':World} {v u:Value} {qs ss:List Rw} (h:NxAt wc W v qs) (hu:NxAt wc W u ss) (hc:Chg W W' (fun k=>u.ownBlock=some k)) (hne:∀ k,v.ownBlock=some k→u.ownBlock≠some k):NxAt wc W' v qs:=by
 obtain ⟨cso,h1,h2⟩:=h
 obtain ⟨dso,g1,g2⟩:=hu
 exact ⟨cso,h1.chg hc (fun k hk e=>hne k hk e),h2.stay hc (fun k hk=>qct g1 k hk)⟩
def NxAt.lt {wc W:World} {v:Value} {qs:List Rw} (h:NxAt wc W v qs) {k:Nat} (hk:v.ownBlock=some k):k < W.heap.size:=by
 obtain ⟨cso,h1,h2⟩:=h
 exact (h1.lt hk).2
def row_sl2 {W:World} {g:Nat} {cs:List Value} {r:Rw} (hb:Blk W g 42 cs.toArray) (hr:RowAt W cs r):RowSl W (.slice (some ⟨g,0,none⟩) 1 1) [r]:=by
 refine ⟨some ⟨g,0,none⟩,1,[cs],rfl,by simp,qh _,by unfold maxLen;omega,kj hb.at_ hr.cs.1,⟨rfl,fun i c hi=>?_⟩,fun a ha=>by cases ha;exact hb.lt⟩
 match i,hi with
 |0,hi=>cases hi;exact ⟨r,rfl,hr⟩
 |i+1,hi=>simp at hi
def PartPost (w:World) (l:List Rw) (plc:ByteArray) (e:Ending) (w':World):Prop:=∃ v1 v2,e=.returned (.tuple #[v1,v2])∧RowSl w' v1 (hereP plc l)∧RowSl w' v2 (othersP plc l)∧New w w'
def parted_is (w:World) (v:Value) (l:List Rw) (h:RowSl w v l) (plc:ByteArray):Calls Tryz.prog 53 #[v,.string plc] w (PartPost w l plc):=by
 have HL:=qq h
 obtain ⟨A,c,rfl,-⟩:=h.form
 have hlb:l.length≤100000000:=by
  obtain ⟨_,_,_,-,h2,-⟩:=h
  exact h2
 obtain ⟨n,hn⟩:=qdp (l.length)
 rw [hn] at hlb HL⊢
 have Hn:=qq hn
 clear h hn
 go_enter Tryz.func53,Tryz.ntmps53
 go_wp2_with fail
 go_loopw [4,5,10] (fun u4 u5 u10 wr=>∃ k:Nat,k≤n∧u10=.int .i64 k∧NxAt w wr u4 (hereP plc (l.take k))∧NxAt w wr u5 (othersP plc (l.take k))∧(∀ g,u4.ownBlock=some g→u5.ownBlock≠some g)∧New w wr) (fun _ _ u _=>n - (intOf u).toNat)
 case atStart=>exact ⟨0,qr _,rfl,nx_nil2 w,nx_nil2 w,fun g hg=>(by cases hg),Chg.refl _ _⟩
 case round=>
  obtain ⟨k,hk,rfl,hx4,hx5,hne,hN⟩:=hrel
  have HX4:=qq hx4
  have HX5:=qq hx5
  have HNe:=qq hne
  have HNr:=qq hN
  clear hx4 hx5 hne hN
  by_cases hlt:k < n
  ·obtain ⟨r,hr⟩:∃ r,l[k]? =some r:=⟨_,qz (by rw [Hn.out];exact hlt)⟩
   obtain ⟨ax,cs,rfl,hat,-,hra⟩:=(HL.out.chg HNr.out).row hr
   have HRa:=qq hra
   obtain ⟨A1,c1,rfl,hl1,-,-,hsr,-⟩:=hra
   have Htk:=qq (vh hr)
   have Hhl:=qq (show (hereP plc (l.take k)).length+[r].length≤100000000 by
    have:=jc (atB plc) (l.take k)
    rw [ql] at this
    unfold hereP
    simp only [zf,yj]
    omega)
   have Hol:=qq (show (othersP plc (l.take k)).length+[r].length≤100000000 by
    have:=jc (fun r=>!atB plc r) (l.take k)
    rw [ql] at this
    unfold othersP
    simp only [zf,yj]
    omega)
   have Hat:=qq hat
   have q0:(0:Int)≤(k:Int):=by omega
   have q1:(k:Int) < (n:Int):=by omega
   have HC:=qq (show (r.args.length=0∧atB plc r=false)∨(∃ (v0:Vl) (a:Addr),0 < r.args.length∧A1=some a∧wr.cell? a=some (.int .i64 v0.k)∧wr.cell? ⟨a.block,a.off+2,none⟩=some (.string v0.t)∧((v0.k≠3∧atB plc r=false)∨(v0.k=3∧v0.t≠plc∧atB plc r=false)∨(v0.k=3∧v0.t=plc∧atB plc r=true))) by
    cases har:r.args with
    |nil=>exact .inl ⟨rfl,by unfold atB;rw [har]⟩
    |cons v0 vs=>
     rw [har] at hsr
     obtain ⟨a,rfl,hrw⟩:=hsr (by simp)
     have hv:=(hrw 0 (vcs v0) rfl).2
     refine .inr ⟨v0,a,by simp,rfl,hv 0 (.int .i64 v0.k) rfl,(congrArg wr.cell? (gk a 1)).symm.trans (hv 2 (.string v0.t) rfl),?_⟩
     by_cases hk:v0.k=3
     ·by_cases ht:v0.t=plc
      ·exact .inr (.inr ⟨hk,ht,by unfold atB;rw [har];simp [hk,ht]⟩)
      ·exact .inr (.inl ⟨hk,ht,by unfold atB;rw [har];simp [hk,ht]⟩)
     ·exact .inl ⟨hk,by unfold atB;rw [har];simp [hk]⟩)
   obtain ⟨nm,hnm⟩:=qdp (r.name)
   obtain ⟨st,hst⟩:=qdp (r.stamp)
   obtain ⟨na,hna⟩:=qdp (r.args.length)
   rw [hnm,hst,hna] at Hat HRa
   rw [hna] at HC hl1
   clear hr hat hsr hnm hst hna
   obtain ⟨q,hq⟩:=qdp (atB plc r)
   have Hq:=qq hq
   rw [hq] at HC
   clear hq
   have HH:=qq (show hereP plc (l.take (k+1))=hereP plc (l.take k)++(if q then [r] else []) by
    rw [Htk.out]
    unfold hereP
    rw [uf,List.filter_cons,Hq.out]
    cases q <;> rfl)
   have HO:=qq (show othersP plc (l.take (k+1))=othersP plc (l.take k)++(if q then [] else [r]) by
    rw [Htk.out]
    unfold othersP
    rw [uf,List.filter_cons,Hq.out]
    cases q <;> rfl)
   have hc:=HC.out
   clear HC
   rcases hc with ⟨h0,rfl⟩| ⟨v0,a,h0,hA,hck,hct,⟨hk3,rfl⟩| ⟨hk3,ht,rfl⟩| ⟨hk3,ht,rfl⟩⟩
   rotate_left 3
   ·rw [hk3] at hck
    rw [ht] at hct
    have HA:=qq hA
    have Hck:=qq hck
    have Hct:=qq hct
    have p0:(0:Int) < (na:Int):=by omega
    have p3:decide ((0:Int) < (na:Int))=true:=decide_eq_true p0
    clear hck hct hk3 ht hA
    go_wp2_with first
     | ((with_reducible refine vq rfl (.tmp 12) 42 rfl vd (ax.add (k * 3)) [.string nm,.slice A1 na c1,.int .i64 st] ?_ rfl Hat.out ?_);exact rfl)
     | (with_reducible refine gz rfl 42 rfl zRow ?_;intro w3 cur hc3 hb3 hsz hs3;have HC3:=qq hc3;have HB3:=qq hb3;have Hsz:=qq hsz;clear hc3 hb3 hsz hs3)
     | ((with_reducible refine xq rfl (.tmp 7) (.tmp 13) 42 rfl rfl vd wr.heap.size 42 _ [.string nm,.slice A1 na c1,.int .i64 st] ?_ ?_ HB3.out rfl Hsz.out (gt rfl rfl rfl) ?_);exact rfl;exact rfl;intro w4 hc4 hb4 hs4;have HC4:=qq (HC3.out.put hc4 (qh _));have HB4:=qq hb4;have e1:=hb4.cell 1;simp only [qx,qj,qw] at e1;(first| (rw [HA.out] at e1;have f0:=HC4.out.cellS Hck.out id;have f2:=HC4.out.cellS Hct.out id)|skip);have hn5:New w4 (w4.alloc (.cells #[.string nm,.slice A1 na c1,.int .i64 st] 42)):=(Chg.refl _ _).alloc _;have hn6:=HC4.out.trans hn5 qdr;obtain ⟨v7,w7,hr7,hx7,hn7,hc7,hb7⟩:=nx_app2 (HX4.out.chg hn6) (HNr.out.trans hn6 qdr) (row_sl2 (Blk.new w4 _ _) (HRa.out.chg hn6)) Hhl.out 31;have HY7:=qq ((HX5.out.chg hn6).other (HX4.out.chg hn6) hc7 (fun g hg e=>HNe.out g e hg));have HNe7:=qq (show ∀ g,v7.ownBlock=some g→u5.ownBlock≠some g from fun g hg e=>(hb7 g hg).elim (fun h=>HNe.out g h e) (fun h=>absurd ((HX5.out.chg hn6).lt e) (Nat.not_lt.2 h)));have HR7:=qq hr7;have HX7:=qq hx7;have HN7:=qq hn7;clear hr7 hx7 hn7 hc7 hb7;clear hc4 hb4 hs4 hn5 hn6)
     | ((with_reducible refine vq rfl (.tmp 7) 42 rfl vd ⟨wr.heap.size,0,none⟩ [.string nm,.slice A1 na c1,.int .i64 st] ?_ rfl HB4.out.at_ ?_);exact rfl)
     | ((with_reducible refine xu rfl (.tmp 35) (.tmp 37) 31 31 rfl ?_ ?_ HR7.out ?_);exact rfl;exact rfl)
    go_roundw
    case rel=>exact ⟨k+1,by omega,by go_num,by rw [HH.out];exact HX7.out,by rw [HO.out,if_pos rfl,jr];exact HY7.out,HNe7.out,HN7.out⟩
    case measure=>simp [intOf];omega
   all_goals
    first
     | (
       have p0:¬ ((0:Int) < (na:Int)):=by omega
       have p3:decide ((0:Int) < (na:Int))=false:=decide_eq_false p0
       clear h0)
     | (
       have hkb:(v0.k == 3)=false:=by simpa using hk3
       obtain ⟨kk,hkk⟩:=qdp (v0.k)
       rw [hkk] at hck hk3 hkb
       have HA:=qq hA
       have Hck:=qq hck
       have Hct:=qq hct
       have p0:(0:Int) < (na:Int):=by omega
       have p3:decide ((0:Int) < (na:Int))=true:=decide_eq_true p0
       clear hck hct hkk hA)
     | (
       rw [hk3] at hck
       obtain ⟨tt,htt⟩:=qdp (v0.t)
       rw [htt] at hct ht
       have htb:(tt.toList == plc.toList)=false:=by
        rw [qap]
        exact decide_eq_false ht
       have htd:(tt.data.toList == plc.data.toList)=false:=by
        rw [←ByteArray.toList_eq, ←ByteArray.toList_eq]
        exact htb
       have HA:=qq hA
       have Hck:=qq hck
       have Hct:=qq hct
       have p0:(0:Int) < (na:Int):=by omega
       have p3:decide ((0:Int) < (na:Int))=true:=decide_eq_true p0
       clear hck hct hk3 htt hA)
    go_wp2_with first
     | ((with_reducible refine vq rfl (.tmp 12) 42 rfl vd (ax.add (k * 3)) [.string nm,.slice A1 na c1,.int .i64 st] ?_ rfl Hat.out ?_);exact rfl)
     | (with_reducible refine gz rfl 42 rfl zRow ?_;intro w3 cur hc3 hb3 hsz hs3;have HC3:=qq hc3;have HB3:=qq hb3;have Hsz:=qq hsz;clear hc3 hb3 hsz hs3)
     | ((with_reducible refine xq rfl (.tmp 7) (.tmp 13) 42 rfl rfl vd wr.heap.size 42 _ [.string nm,.slice A1 na c1,.int .i64 st] ?_ ?_ HB3.out rfl Hsz.out (gt rfl rfl rfl) ?_);exact rfl;exact rfl;intro w4 hc4 hb4 hs4;have HC4:=qq (HC3.out.put hc4 (qh _));have HB4:=qq hb4;have e1:=hb4.cell 1;simp only [qx,qj,qw] at e1;(first| (rw [HA.out] at e1;have f0:=HC4.out.cellS Hck.out id;have f2:=HC4.out.cellS Hct.out id)|skip);have hn5:New w4 (w4.alloc (.cells #[.string nm,.slice A1 na c1,.int .i64 st] 42)):=(Chg.refl _ _).alloc _;have hn6:=HC4.out.trans hn5 qdr;obtain ⟨v7,w7,hr7,hx7,hn7,hc7,hb7⟩:=nx_app2 (HX5.out.chg hn6) (HNr.out.trans hn6 qdr) (row_sl2 (Blk.new w4 _ _) (HRa.out.chg hn6)) Hol.out 31;have HY7:=qq ((HX4.out.chg hn6).other (HX5.out.chg hn6) hc7 (fun g hg e=>HNe.out g hg e));have HNe7:=qq (show ∀ g,u4.ownBlock=some g→v7.ownBlock≠some g from fun g hg e=>(hb7 g e).elim (fun h=>HNe.out g hg h) (fun h=>absurd ((HX4.out.chg hn6).lt hg) (Nat.not_lt.2 h)));have HR7:=qq hr7;have HX7:=qq hx7;have HN7:=qq hn7;clear hr7 hx7 hn7 hc7 hb7;clear hc4 hb4 hs4 hn5 hn6)
     | ((with_reducible refine vq rfl (.tmp 7) 42 rfl vd ⟨wr.heap.size,0,none⟩ [.string nm,.slice A1 na c1,.int .i64 st] ?_ rfl HB4.out.at_ ?_);exact rfl)
     | ((with_reducible refine xu rfl (.tmp 39) (.tmp 41) 31 31 rfl ?_ ?_ HR7.out ?_);exact rfl;exact rfl)
    go_roundw
    case rel=>exact ⟨k+1,by omega,by go_num,by rw [HH.out,if_neg (by decide),jr];exact HY7.out,by rw [HO.out];exact HX7.out,HNe7.out,HN7.out⟩
    case measure=>simp [intOf];omega
  ·have HS4:=qq (HX4.out.sl2 (by
    have:=jc (atB plc) (l.take k)
    rw [ql] at this
    unfold hereP
    omega))
   have HS5:=qq (HX5.out.sl2 (by
    have:=jc (fun r=>!atB plc r) (l.take k)
    rw [ql] at this
    unfold othersP
    omega))
   rw [qc (by rw [Hn.out];omega)] at HS4 HS5
   go_wp2_with fail
   go_ret2
   exact ⟨u4,u5,rfl,HS4.out,HS5.out,HNr.out⟩
def at_read (w:World) (v:Value) (l:List Rw) (h:RowSl w v l) (g:Nat) (plc:ByteArray) (hb:Blk w g 9 #[.string plc]):Calls Tryz.prog 52 (#[v]++#[.pointer (some ⟨g,0,none⟩)]) w fun e w'=>∃ v',e=.returned v'∧RowSl w' v' (hereP plc l)∧New w w':=by
 have H:=qq (parted_is w v l h plc)
 have e0:=hb.cell 0
 simp only [qx,qj,qw] at e0
 clear h hb
 go_enter Tryz.func52,Tryz.ntmps52
 go_wp2_with (go_at_call 53;refine H.out.mono ?_;rintro e w2 ⟨v1,v2,rfl,h1,h2,hn⟩;have H1:=qq h1;have HN:=qq hn;clear h1 h2 hn)
 go_ret
 exact ⟨v1,rfl,H1.out,HN.out⟩
def AtPost (w:World) (rs:List Ru) (plc:ByteArray) (most:Nat) (base:List Rw) (e:Ending) (w':World):Prop:=∃ v1 v2 m b,e=.returned (.tuple #[v1,v2,.bool b])∧Fixes rs (hereP plc) most base m b∧RowSl w' v1 (if b=true then hereP plc m else (hereP plc m).take most)∧RowSl w' v2 (if b=true then othersP plc m else [])∧New w w'
def at_is (w:World) (vp:Value) (rs:List Ru) (hv:PgSl w vp rs) (hp:∀ r∈rs,ruP r) (hrel:∀ r∈rs,ruRel r) (hok:∀ r∈rs,r.Ok) (vl:Value) (base:List Rw) (hl:RowSl w vl base) (ho:OkR base) (hs:StR base) (plc:ByteArray) (most:Nat) (hm:most≤48):
  Calls Tryz.prog 27 #[vp,vl,.string plc,.int .i64 most] w (AtPost w rs plc most base):=by
 obtain ⟨st,hst⟩:=qdp (strV rs)
 have HSt:=qq (fun W (hW:New w W)=>by
  have:=fx W vp rs (hv.chg hW) hp hrel
  rw [hst] at this
  exact this)
 have eg:=enters_of Tryz.func52 (by kernel_rfl) rfl
 have hv0:=hv
 have HCan:=qq ho.can
 have HL:=qq hl
 have Hst:=qq hst
 have eg0:=eg
 unfold Enters at eg
 obtain ⟨d,Ar,Af,cr,cf,css,csf,fs,rfl,-⟩:=hv
 obtain ⟨n,hn⟩:=qdp (rs.length)
 obtain ⟨m,hmf⟩:=qdp (fs.length)
 rw [hn,hmf] at HSt hv0⊢
 clear hn hmf hst
 obtain ⟨w1,hw1⟩:=qdq ((w.alloc (.cells #[.slice (some ⟨d,0,none⟩) 6 6,.slice Af m cf,.slice Ar n cr] 29)).alloc (.cells #[.string plc] 9))
 have hn1:New w w1:=by rw [hw1];exact ((Chg.refl _ _).alloc _).alloc _
 have HN1:=qq hn1
 have HB1:=qq (show Blk w1 w.heap.size 29 #[.slice (some ⟨d,0,none⟩) 6 6,.slice Af m cf,.slice Ar n cr] by rw [hw1];exact (Blk.new w _ _).alloc _)
 have hbs:Blk w1 (w.heap.size+1) 9 #[.string plc]:=by
  have h:=Blk.new (w.alloc (.cells #[.slice (some ⟨d,0,none⟩) 6 6,.slice Af m cf,.slice Ar n cr] 29)) 9 #[.string plc]
  rw [hw1]
  simpa using h
 have HBs:=qq hbs
 have HRn:=qq (fun s (h:strV rs=some s) W (hW:New w1 W) u (hu:RowSl W u (mergeF base))=>qca W _ rs ((hv0.chg hn1).chg hW) hp hrel hok s h u _ hu (gq ho hs) most hm 52 #[.pointer (some ⟨w.heap.size+1,0,none⟩)] eg0 (hereP plc) (fun W2 hW2 v l h=>at_read W2 v l h _ plc ((hbs.chg hW id).chg hW2 id)) (fun l=>List.filter_sublist))
 have HW1:=qq hw1
 clear hw1 hn1 hbs hv0 hp hrel hok hl ho hs eg0
 cases st with
 |none=>
  go_enter Tryz.func27,Tryz.ntmps27
  go_upto_region 1 with fail
  rw [←HW1.out]
  clear HW1
  go_upto_region 2 with first
   | ((with_reducible refine vq rfl (.tmp 4) 29 rfl xp ⟨w.heap.size,0,none⟩ [.slice (some ⟨d,0,none⟩) 6 6,.slice Af m cf,.slice Ar n cr] ?_ rfl HB1.out.at_ ?_);exact rfl)
   | (go_at_call 18;refine (HSt.out _ HN1.out).mono ?_;rintro e w2 ⟨⟨k,hk,rfl⟩,hn2⟩;have HN2:=qq (HN1.out.trans hn2 qdr);have hkb:(k != 0)=true:=(by simpa using hk);clear hn2)
  go_wp2_with fail
  go_ret3
  exact ⟨.slice none 0 0,.slice none 0 0,[],false,rfl,by unfold Fixes;rw [Hst.out];exact ⟨rfl,rfl⟩,by rw [if_neg (by decide)];show RowSl _ _ (List.take most []);rw [List.take_nil];exact RowSl.nil _,RowSl.nil _,HN2.out⟩
 |some s=>
  have HRs:=qq (HRn.out s Hst.out)
  clear HRn
  go_enter Tryz.func27,Tryz.ntmps27
  go_upto_region 1 with fail
  rw [←HW1.out]
  clear HW1
  have h0:¬ ((most:Int) < 0):=by omega
  go_upto_region 5 with first
   | ((with_reducible refine vq rfl (.tmp 4) 29 rfl xp ⟨w.heap.size,0,none⟩ [.slice (some ⟨d,0,none⟩) 6 6,.slice Af m cf,.slice Ar n cr] ?_ rfl HB1.out.at_ ?_);exact rfl)
   | (go_at_call 18;refine (HSt.out _ HN1.out).mono ?_;rintro e w2 ⟨bs,rfl,hb2,hbl,hn2⟩;have HN12:=qq hn2;have HN2:=qq (HN1.out.trans hn2 qdr);have HB2:=qq (HB1.out.chg hn2 id);have HBs2:=qq (HBs.out.chg hn2 id);clear hn2 hb2 hbl)
  refine vj (by kernel_rfl) ?_
  have hnd:New w2 w2.drew:=(Chg.refl _ _).drew
  have D1:=qq (HB2.out.chg hnd id)
  have DS:=qq (HBs2.out.chg hnd id)
  have DW:=qq (HN12.out.trans hnd qdr)
  have DN:=qq (HN2.out.trans hnd qdr)
  have DL:=qq ((HL.out.chg HN2.out).chg hnd)
  clear hnd
  generalize w2.drew=wd at D1 DN DL DS DW⊢
  have eg1:∀ (args:Array Value) (w:World),(callFunc 22 args).run Tryz.prog w=.ok (.enter 22 args) w:=enters_of Tryz.func22 (by kernel_rfl) rfl
  have eg2:∀ (args:Array Value) (w:World),(callFunc 39 args).run Tryz.prog w=.ok (.enter 39 args) w:=enters_of Tryz.func39 (by kernel_rfl) rfl
  refine AtN.segN2 0 6 [25,26,27,28,29,30] (fun
   |0=>fun vv _=>vv=.agg #[.slice (some ⟨d,0,none⟩) 6 6,.slice Af m cf,.slice Ar n cr]
   |1=>fun vv _=>vv=vl
   |2=>fun vv W=>RowSl W vv (mergeF base)
   |3=>fun vv _=>vv=.int .i64 most
   |4=>fun vv _=>vv=.func (.func 52) #[] #[.pointer (some ⟨w.heap.size+1,0,none⟩)]
   |5=>fun vv W=>∃ v m b,vv=.tuple #[v,.bool b]∧RowSl W v m∧Rnds rs s (hereP plc) most 0 (topN s) (mergeF base) m b
   |_=>fun _ _=>True) (by kernel_rfl) (by kernel_rfl) (by kernel_rfl) (by kernel_rfl) (fun j v w1 w2 hc h=>?_) (fun i hn hi o ho A0 W hN hin hk=>?_) (fun l W5 hN hl hΦ=>?_)
  ·match j with
   |2=>exact h.chg hc
   |5=>exact (by obtain ⟨v,m,b,h1,h2,h3⟩:=h;exact ⟨v,m,b,h1,h2.chg hc,h3⟩)
   |0|1|3|4=>exact h
   |_+6=>trivial
  ·rcases (show i=0∨i=1∨i=2∨i=3∨i=4∨i=5 by omega) with rfl|rfl|rfl|rfl|rfl|rfl<;>cases ho
   ·have h4:A0.tmps[4]?.getD undef=.pointer (some ⟨w.heap.size,0,none⟩):=hk 4
    exact .same (vu 4 _ rfl xp ⟨w.heap.size,0,none⟩ [.slice (some ⟨d,0,none⟩) 6 6,.slice Af m cf,.slice Ar n cr] h4 rfl (D1.out.chg hN id).at_) rfl
   ·exact .same (uo 1 _ rfl (hk 1)) rfl
   ·have h26:A0.tmps[26]?.getD undef=vl:=hin 1 26
    refine .call (f:=22) (args:=#[vl]) (W':=W) ?_ ((db W vl base (DL.out.chg hN)).mono ?_)
    ·simp [go_sem,h26,eg1]
    ·rintro e w' ⟨v',out,rfl,hm',hs',hc⟩
     obtain rfl:=ge HCan.out hm'
     exact ⟨_,rfl,hc,hs'⟩
   ·exact .same (uo 3 _ rfl (hk 3)) rfl
   ·have h6:A0.tmps[6]?.getD undef=.pointer (some ⟨w.heap.size+1,0,none⟩):=hk 6
    exact .same (by simp [go_sem,h6]) rfl
   ·have h25:A0.tmps[25]?.getD undef=.agg #[.slice (some ⟨d,0,none⟩) 6 6,.slice Af m cf,.slice Ar n cr]:=hin 0 25
    have h27:=hin 2 27
    have h28:A0.tmps[28]?.getD undef=.int .i64 most:=hin 3 28
    have h29:A0.tmps[29]?.getD undef=.func (.func 52) #[] #[.pointer (some ⟨w.heap.size+1,0,none⟩)]:=hin 4 29
    obtain ⟨x27,hx27⟩:=qdp (A0.tmps[27]?.getD undef)
    rw [hx27] at h27
    refine .call (f:=39) (args:=#[.agg #[.slice (some ⟨d,0,none⟩) 6 6,.slice Af m cf,.slice Ar n cr],x27,.int .i64 most,.func (.func 52) #[] #[.pointer (some ⟨w.heap.size+1,0,none⟩)]]) (W':=W) ?_ ((HRs.out W (DW.out.trans hN qdr) x27 h27).mono ?_)
    ·simp [go_sem,h25,hx27,h28,h29,eg2]
    ·rintro e w' ⟨v',m',b',rfl,hs',hr',hc⟩
     exact ⟨_,rfl,hc,v',m',b',rfl,hs',hr'⟩
  obtain ⟨x25,x26,x27,x28,x29,x30,rfl⟩:∃ x25 x26 x27 x28 x29 x30,l=[x25,x26,x27,x28,x29,x30]:=by
   match l,hl with
   | [x25,x26,x27,x28,x29,x30],_=>exact ⟨_,_,_,_,_,_,rfl⟩
  obtain rfl:x25=.agg #[.slice (some ⟨d,0,none⟩) 6 6,.slice Af m cf,.slice Ar n cr]:=hΦ 0 (by decide)
  obtain rfl:x26=vl:=hΦ 1 (by decide)
  have hx27:=hΦ 2 (by decide)
  obtain rfl:x28=.int .i64 most:=hΦ 3 (by decide)
  obtain rfl:x29=.func (.func 52) #[] #[.pointer (some ⟨w.heap.size+1,0,none⟩)]:=hΦ 4 (by decide)
  have hx30:=hΦ 5 (by decide)
  simp only [putsL,zq,zj,zz,List.zip,List.zipWith,Act.put,qk,qu,qy]
  clear hΦ hl
  obtain ⟨v,ml,b,rfl,hsl,hrn⟩:=hx30
  have HSl:=qq hsl
  have HRr:=qq hrn
  have EN:=qq (DN.out.trans hN qdr)
  have ES:=qq (DS.out.chg hN id)
  clear hsl hrn hN hx27
  obtain ⟨A,c,rfl,hlm⟩:=HSl.out.form
  obtain ⟨nl,hnl⟩:=qdp (ml.length)
  rw [hnl] at HSl hlm⊢
  have Hnl:=qq hnl
  have HPt:=qq (parted_is W5 _ ml HSl.out plc)
  clear hnl
  refine AtN.segQ2 6 11 (fun
   |6=>.tuple #[.slice A nl c,.bool b]
   |7=>.slice A nl c
   |8=>.bool b
   |9=>.slice A nl c
   |_=>.bool b)
   [(24,.tuple #[.slice A nl c,.bool b]),(31,.slice A nl c),(32,.bool b),(13,.slice A nl c),(14,.bool b)] (by kernel_rfl) (by kernel_rfl) (by kernel_rfl) (by kernel_rfl) rfl (fun i hn hi o ho A0 hin hk=>?_) ?_
  ·rcases (show i=6∨i=7∨i=8∨i=9∨i=10 by omega) with rfl|rfl|rfl|rfl|rfl<;>cases ho
   ·exact uo 30 _ rfl (hk 30)
   ·have h24:A0.tmps[24]?.getD undef=.tuple #[.slice A nl c,.bool b]:=hin 6 24
    exact by simp [go_sem,h24]
   ·have h24:A0.tmps[24]?.getD undef=.tuple #[.slice A nl c,.bool b]:=hin 6 24
    exact by simp [go_sem,h24]
   ·have h31:A0.tmps[31]?.getD undef=.slice A nl c:=hin 7 31
    exact by simp [go_sem,h31]
   ·have h32:A0.tmps[32]?.getD undef=.bool b:=hin 8 32
    exact by simp [go_sem,h32]
  simp only [putsL,Act.put,qk,qu,qy]
  refine AtN.done rfl ?_
  have e0:=ES.out.cell 0
  simp only [qx,qj,qw] at e0
  go_upto_region 7 with (go_at_call 53;refine HPt.out.mono ?_;rintro e w6 ⟨v1,v2,rfl,h1,h2,hn6⟩;have H1:=qq h1;have H2:=qq h2;have HN6:=qq (EN.out.trans hn6 qdr);clear h1 h2 hn6)
  have HFx:=qq (show Fixes rs (hereP plc) most base ml b by unfold Fixes;rw [Hst.out];exact HRr.out)
  obtain ⟨A1,c1,rfl,-⟩:=H1.out.form
  obtain ⟨n1,hn1⟩:=qdp ((hereP plc ml).length)
  rw [hn1] at H1⊢
  have Hn1:=qq hn1
  have hnc:(n1:Int)≤(c1:Int):=by
   obtain ⟨A',c',css',h1,-,h2,-⟩:=H1.out
   injection h1 with h1 h3 h4
   subst h4
   omega
  clear hn1
  cases b with
  |true=>
   go_wp2_with fail
   go_ret3
   exact ⟨.slice A1 n1 c1,v2,ml,true,rfl,HFx.out,H1.out,H2.out,HN6.out⟩
  |false=>
   by_cases hle:n1≤most
   ·have q1:¬ ((most:Int) < (n1:Int)):=by omega
    have HF:=qq (show RowSl w6 (.slice A1 n1 c1) ((hereP plc ml).take most) by
     rw [qc (by rw [Hn1.out];exact hle)]
     exact H1.out)
    go_wp2_with fail
    go_ret3
    exact ⟨.slice A1 n1 c1,.slice none 0 0,ml,false,rfl,HFx.out,HF.out,RowSl.nil _,HN6.out⟩
   ·have q1:(most:Int) < (n1:Int):=by omega
    have q2:(0:Int)≤(most:Int):=by omega
    have q3:(most:Int)≤(c1:Int):=by omega
    have HF:=qq (H1.out.takes most (by omega))
    go_wp2_with fail
    go_ret3
    exact ⟨.slice A1 most c1,.slice none 0 0,ml,false,rfl,HFx.out,HF.out,RowSl.nil _,HN6.out⟩
def adV (plc:ByteArray):Vl:=⟨3,0,plc⟩
def FstAt (plc:ByteArray) (r:Rw):Prop:=∃ us,r.args=adV plc::us
def AllA (plc:ByteArray) (l:List Rw):Prop:=∀ r∈l,FstAt plc r
def HeadAt (plc:ByteArray) (r:Ru):Prop:=∃ ts,r.ts=.val (adV plc)::ts
def FstAt.at_ {plc:ByteArray} {r:Rw} (h:FstAt plc r):atB plc r=true:=by
 obtain ⟨us,h⟩:=h
 unfold atB
 rw [h]
 simp [adV]
def FstAt.not {plc plc':ByteArray} {r:Rw} (h:FstAt plc r) (hn:plc≠plc'):atB plc' r=false:=by
 obtain ⟨us,h⟩:=h
 unfold atB
 rw [h]
 simp [adV,hn]
def AllA.here {plc:ByteArray} {l:List Rw} (h:AllA plc l):hereP plc l=l:=List.filter_eq_self.2 fun r hr=>(h r hr).at_
def AllA.others {plc:ByteArray} {l:List Rw} (h:AllA plc l):othersP plc l=[]:=ub.2 fun r hr=>by rw [(h r hr).at_];decide
def AllA.nowhere {plc plc':ByteArray} {l:List Rw} (h:AllA plc l) (hn:plc≠plc'):hereP plc' l=[]∧othersP plc' l=l:=
 ⟨ub.2 fun r hr=>by rw [(h r hr).not hn];decide,List.filter_eq_self.2 fun r hr=>by rw [(h r hr).not hn];rfl⟩
def AllA.merge {plc:ByteArray} {l:List Rw} (h:AllA plc l):AllA plc (mergeF l):=fun r hr=>h r ((xm l).sub r hr)
def fire_at {plc:ByteArray} {r:Ru} (hh:HeadAt plc r) (m:List Rw):AllA plc (fireR r m):=fun x hx=>by
 obtain ⟨t,-,ht⟩:=zr.1 hx
 obtain ⟨ts,hts⟩:=hh
 unfold headV at ht
 rw [hts] at ht
 cases ha:allO ((Tm.val (adV plc)::ts).map (evalT t.1)) with
 |none=>rw [ha] at ht;cases ht
 |some us=>
  rw [ha] at ht
  cases ht
  have ha':allO (some (adV plc)::ts.map (evalT t.1))=some us:=ha
  unfold allO at ha'
  cases hb:allO (ts.map (evalT t.1)) with
  |none=>rw [hb] at ha';cases ha'
  |some vs=>
   rw [hb] at ha'
   cases ha'
   exact ⟨vs,rfl⟩
def rule_at {plc:ByteArray} {r:Ru} (hok:r.Ok) {l:List Rw} (ho:OkR l) (hh:HeadAt plc r):AllA plc (ruleV r l):=by
 have hfo:=pl hok ho.merge
 unfold ruleV
 split
 ·exact (fire_at hh _).merge
 ·refine AllA.merge fun x hx=>?_
  obtain ⟨y,hy,rfl⟩:=zi.1 hx
  obtain ⟨z,hz,hk,-⟩:=(an (trn_ok hfo.merge 1).merge.can (fun x hx=>(qal x ((xm _).sub x hx)).1)).st2 y hy
  obtain ⟨u,hu,v,hv,rfl⟩:=mz.1 ((xm _).sub z hz)
  obtain ⟨us,hus⟩:=(fire_at hh _).merge u hu
  have h1:(ahd u 1 v).args.dropLast=y.args.dropLast:=congrArg Prod.snd hk
  rw [hus] at hv
  cases us with
  |nil=>cases hv
  |cons b us=>
   have h2:y.args.dropLast=adV plc::us:=by
    rw [←h1]
    show (u.args.eraseIdx 1++[v]).dropLast=_
    rw [List.dropLast_concat,hus]
    rfl
   refine ⟨lastV y::us,?_⟩
   show y.args.dropLast.take 1++lastV y::y.args.dropLast.drop 1=_
   rw [h2]
   rfl
def next_at {plc:ByteArray} {qs:List Ru} (hok:∀ r∈qs,r.Ok) (hh:∀ r∈qs,HeadAt plc r) {seen l:List Rw} (hs:OkR seen) (hl:AllA plc l):AllA plc (nextF qs seen l):=by
 refine AllA.merge fun x hx=>?_
 rcases zk.1 hx with hx|hx
 ·exact hl x hx
 ·obtain ⟨r,hr,hx⟩:=ju.1 hx
  exact rule_at (hok r hr) hs (hh r hr) x hx
def Strm.place {plc:ByteArray} {qs:List Ru} {most:Nat} (hm:most≤48) (hok:∀ r∈qs,r.Ok) (hh:∀ r∈qs,HeadAt plc r) {l m:List Rw} {b:Bool} (h:Strm qs (hereP plc) most l m b) (hl:Fine l) (ha:AllA plc l):Strm qs id most l m b∧AllA plc m:=by
 induction h with
 |over h=>exact ⟨.over h,ha⟩
 |done h e=>
  rw [ha.here] at e
  exact ⟨.done h e,ha⟩
 | @go l m b h hne _ ih=>
  rw [ha.here] at ih hne
  obtain ⟨h1,h2⟩:=ih (pr hok hl hl (by omega)) (next_at hok hh hl.ok ha)
  exact ⟨.go h hne h1,h2⟩
def Rnds.place {plc:ByteArray} {rs:List Ru} {s:List Nat} {most:Nat} (hm:most≤48) (hok:∀ r∈rs,r.Ok) (hh:∀ r∈rs,HeadAt plc r) {k j:Nat} {l m:List Rw} {b:Bool} (h:Rnds rs s (hereP plc) most k j l m b) (hl:Fine l) (ha:AllA plc l):Rnds rs s id most k j l m b∧AllA plc m:=by
 have hhk:∀ k,∀ r∈ofS rs s k,HeadAt plc r:=fun k r hr=>hh r (zc.1 hr).1
 induction h with
 |last=>exact ⟨.last,ha⟩
 |over h=>
  obtain ⟨h1,h2⟩:=h.place hm (fb hok _) (hhk _) hl ha
  exact ⟨.over h1,h2⟩
 |next h _ ih=>
  obtain ⟨h1,h2⟩:=h.place hm (fb hok _) (hhk _) hl ha
  obtain ⟨h3,h4⟩:=ih (h1.keeps (fb hok _) (fun l=>List.Sublist.refl l) hm hl).1 h2
  exact ⟨.next h1 h3,h4⟩
def fix_place {plc:ByteArray} {rs:List Ru} {most:Nat} (hm:most≤48) (hok:∀ r∈rs,r.Ok) (hh:∀ r∈rs,HeadAt plc r) {x m m':List Rw} {b b':Bool} (hx:OkR x∧StR x) (ha:AllA plc x) (h:Fixes rs id most x m b) (h':Fixes rs (hereP plc) most x m' b'):m=m'∧b=b'∧AllA plc m:=by
 unfold Fixes at h h'
 cases hst:strV rs with
 |none=>
  rw [hst] at h h'
  obtain ⟨rfl,rfl⟩:=h
  obtain ⟨rfl,rfl⟩:=h'
  exact ⟨rfl,rfl,fun r hr=>by cases hr⟩
 |some s=>
  rw [hst] at h h'
  obtain ⟨h1,h2⟩:=Rnds.place hm hok hh h' (gq hx.1 hx.2) ha.merge
  obtain ⟨rfl,rfl⟩:=Rnds.one h h1
  exact ⟨rfl,rfl,h2⟩
def Strm.nil_end {rd:List Rw→List Rw} {most:Nat} {l m:List Rw} {b:Bool} (h:Strm [] rd most l m b) (hl:Fine l) (hle:l.length≤most):m=l∧b=true:=by
 have hn:nextF [] (rd l) l=l:=by
  show mergeF (l++[])=l
  rw [jr]
  exact cg hl.ok.can (xm l) (ct hl.up)
 cases h with
 |over h=>omega
 |done=>exact ⟨rfl,rfl⟩
 |go _ hne=>exact absurd hn.symm hne
def Rnds.nil_end {rd:List Rw→List Rw} {s:List Nat} {most k j:Nat} {l m:List Rw} {b:Bool} (h:Rnds [] s rd most k j l m b) (hl:Fine l) (hle:l.length≤most):m=l∧b=true:=by
 induction h with
 |last=>exact ⟨rfl,decide_eq_true hle⟩
 |over h=>exact absurd (h.nil_end hl hle).2 (by decide)
 |next h _ ih=>
  obtain ⟨rfl,-⟩:=h.nil_end hl hle
  exact ih hl hle
def fix_nil {rd:List Rw→List Rw} {most:Nat} {x m:List Rw} {b:Bool} (hx:OkR x∧StR x) (hle:x.length≤most) (h:Fixes [] rd most x m b):m=mergeF x∧b=true:=by
 unfold Fixes at h
 rw [bu (rs:=[]) (fun r hr=>by cases hr) rfl] at h
 exact Rnds.nil_end h (gq hx.1 hx.2) (qb (kx x) hle)
def CapOk (cso:List (List Value)):Prop:=∀ cs∈cso,∀ (A:Option Addr) (n c:Nat),cs[2]? =some (.slice A n c)→n≤c
def CapOk.snoc {cso:List (List Value)} {x0 x1 x3 x4 x5:Value} {A:Option Addr} {n c:Nat} (h:CapOk cso) (hn:n≤c):CapOk (cso++[[x0,x1,.slice A n c,x3,x4,x5]]):=fun cs hc B m d he=>by
 rcases zk.1 hc with hc|hc
 ·exact h cs hc B m d he
 ·rw [qn.1 hc] at he
  cases he
  exact hn
def CapOk.set {cso:List (List Value)} {x0 x1 x3 x4 x5:Value} {A:Option Addr} {i n c:Nat} (h:CapOk cso) (hn:n≤c):CapOk (cso.set i [x0,x1,.slice A n c,x3,x4,x5]):=fun cs hc B m d he=>by
 rcases yr hc with hc|hc
 ·exact h cs hc B m d he
 ·rw [hc] at he
  cases he
  exact hn
def rule_st2 (w:World) (v:Value) (n:Nat) (X:Nat→Int) (hx:IntsAt w v 6 n X) (k:Int) (hk:B64 k):
  Calls Tryz.prog 36 #[v,.int .i64 k] w fun e w'=>∃ lab r A' c' Ab' cb',e=.returned (.agg #[.string lab,.string r.h,.slice A' r.ts.length c',.string r.agg,.int .i64 r.at',.slice Ab' r.Ls.length cb'])∧r.Raw∧(r.aggOk∧r.ts.length≤c')∧Stays w' (fun k=>k < w.heap.size) (fun W=>RuSl W (.agg #[.string lab,.string r.h,.slice A' r.ts.length c',.string r.agg,.int .i64 r.at',.slice Ab' r.Ls.length cb']) r)∧New w w':=by
 refine (rule06 w v n X hx k hk).mono ?_
 rintro e w' ⟨lab,h,agg,at',ts,Ls,A,Ab,c,cb,css,cssb,rfl,⟨h0,h00⟩,h1,h2,h3,h4,h5,h6,h7,h8,h9,h10,h11,h12,hN⟩
 exact ⟨lab,⟨h,ts,Ls,agg,at'⟩,A,c,Ab,cb,rfl,⟨h1,h2,h3,h4,h5,h6,h7,h8⟩,⟨h11,h00⟩,fun W hW=>⟨lab,A,Ab,c,cb,css,cssb,rfl,(h12 W hW).1,(h12 W hW).2,h9,h10,h0⟩,hN⟩
def PrgO (w:World) (e:Ending) (w':World):Prop:=∃ (d B:Nat) (Ar:Option Addr) (cr:Nat) (cso:List (List Value)) (rs:List Ru),e=.returned (.agg #[.slice (some ⟨d,0,none⟩) 6 6,.slice none 0 0,.slice Ar rs.length cr])∧(∀ r∈rs,r.Raw∧r.aggOk)∧CapOk cso∧rs.length≤6∧Blk w' d 106 relCells∧d < B∧w.heap.size≤B∧B≤w'.heap.size∧Own w' B 47 6 (.slice Ar rs.length cr) cso∧Stays w' (fun k=>k < B∨(Value.slice Ar rs.length cr).ownBlock=some k) (fun W=>RuL W cso rs)∧New w w'
def program06O (w:World) (v:Value) (n:Nat) (hx:IntsAts w v n):Calls Tryz.prog 15 #[v,.slice none 0 0] w (PrgO w):=by
 obtain ⟨A,c,rfl,hnc,hcm,hat⟩:=hx
 have hm:=hcm
 unfold maxLen at hm
 have HAt:=qq hat
 obtain ⟨w1,hw1⟩:=qdq (w.alloc (.cells #[.slice none 0 0,.slice none 0 0,.slice none 0 0] 29))
 have HN1:=qq (show New w w1 by rw [hw1];exact (Chg.refl _ _).alloc _)
 have HB1:=qq (show Blk w1 w.heap.size 29 #[.slice none 0 0,.slice none 0 0,.slice none 0 0] by rw [hw1];exact Blk.new w _ _)
 have Hs1:=qq (show w1.heap.size=w.heap.size+1 by rw [hw1];simp)
 have HW1:=qq hw1
 have eg1:∀ (args:Array Value) (w:World),(callFunc 36 args).run Tryz.prog w=.ok (.enter 36 args) w:=enters_of Tryz.func36 (by kernel_rfl) rfl
 have Heg:=qq eg1
 have sz27:(Tryz.prog.info? 27).map (·.size)=some 1:=by kernel_rfl
 clear hat hw1 eg1
 go_enter Tryz.func15,Tryz.ntmps15
 go_upto_region 1 with fail
 rw [←HW1.out]
 clear HW1
 go_upto_region 2 with (go_at_call 35;refine (pf _).mono ?_;rintro e w2 ⟨rfl,hd2,hn2⟩;have HN2:=qq hn2;have HD2:=qq hd2;clear hd2 hn2)
 obtain ⟨d,hd⟩:=qdp (w1.heap.size)
 rw [hd] at HD2⊢
 obtain ⟨w3,hw3⟩:=qdq (w2.alloc (.cells #[.slice (some ⟨d,0,none⟩) 6 6,.slice none 0 0,.slice none 0 0] 29))
 have hn3:New w2 w3:=by rw [hw3];exact (Chg.refl _ _).alloc _
 have HN3:=qq ((HN1.out.trans HN2.out qdr).trans hn3 qdr)
 have HB3:=qq ((HB1.out.chg HN2.out id).chg hn3 id)
 have HD3:=qq (HD2.out.chg hn3 id)
 have HP3:=qq (show Blk w3 w2.heap.size 29 #[.slice (some ⟨d,0,none⟩) 6 6,.slice none 0 0,.slice none 0 0] by rw [hw3];exact Blk.new w2 _ _)
 have Hb3:=qq (show w3.heap.size=w2.heap.size+1 by rw [hw3];simp)
 have Hdb:=qq (show w.heap.size < d∧d < w2.heap.size from ⟨by rw [←hd,Hs1.out];omega,HD2.out.lt⟩)
 rw [←hw3]
 obtain ⟨b5,hb5⟩:=qdp (w2.heap.size)
 rw [hb5] at HP3 Hb3 Hdb⊢
 clear hd hw3 hn3 hb5 HB1 HN1 HD2 HN2 Hs1
 go_wp2_with fail
 go_loopw [6] (fun u6 wr=>∃ (i:Nat) (rs:List Ru) (cso:List (List Value)) (Ab:Option Addr) (cb:Nat),i≤n∧i≤6∧u6=.int .i64 i∧rs.length=i∧((∀ r∈rs,r.Raw∧r.aggOk)∧CapOk cso)∧Own wr w3.heap.size 47 6 (.slice Ab i cb) cso∧Stays wr (fun k=>k < w3.heap.size∨(Value.slice Ab i cb).ownBlock=some k) (fun W=>RuL W cso rs)∧Blk wr b5 29 #[.slice (some ⟨d,0,none⟩) 6 6,.slice none 0 0,.slice Ab i cb]∧Chg w3 wr (fun k=>k=b5)) (fun u _=>n - (intOf u).toNat)
 case atStart=>exact ⟨0,[],[],none,0,qr _,qr _,rfl,rfl,⟨fun r h=>(by cases h),fun cs h=>(by cases h)⟩,Own.nil _ _ _ _,fun W _=>⟨rfl,fun j cs r h=>(by cases h)⟩,HP3.out,Chg.refl _ _⟩
 case round=>
  obtain ⟨i,rs,cso,Ab,cb,hin,hi6,rfl,hrl,hraw,hov,hst,hbp,hc⟩:=hrel
  have HRl:=qq hrl
  have HRaw:=qq hraw
  have HOv:=qq hov
  have HSt:=qq hst
  have HBp:=qq hbp
  have HC:=qq hc
  have HNw:=qq (show New w wr from HN3.out.trans hc (fun k hk e=>by have:=Hdb.out;omega))
  have Hcl:=qq (show cso.length=i by rw [hst.now.len,hrl])
  clear hrl hraw hov hst hbp hc
  by_cases hlt:i < n∧i < 6
  ·obtain ⟨hlt,hlt6⟩:=hlt
   obtain ⟨a,rfl,hq⟩:=HAt.out (by omega)
   obtain ⟨u,m,X,hcu,hxu⟩:=hq i hlt
   have Hcu:=qq (HNw.out.cellS hcu id)
   have Hxu:=qq (hxu.chg HNw.out)
   have q0:(0:Int)≤(i:Int):=by omega
   have q1:(i:Int) < (n:Int):=by omega
   have q2:(i:Int) < 6:=by omega
   have q3:decide ((i:Int) < (n:Int))=true:=by simpa using q1
   clear hq hcu hxu
   go_upto_region 5 with fail
   refine vj (by kernel_rfl) ?_
   have hnd:New wr wr.drew:=(Chg.refl _ _).drew
   have DP:=qq (HBp.out.chg hnd id)
   have DU:=qq (hnd.cellS Hcu.out id)
   have DX:=qq (Hxu.out.chg hnd)
   have DC:=qq (HC.out.trans hnd (fun _ _ h=>h.elim))
   have DO:=qq (HOv.out.chg hnd qdr)
   have DS:=qq (HSt.out.chg hnd (fun _ _ x=>x.elim) (fun _ _ e=>e))
   clear hnd
   generalize wr.drew=wd at DP DU DX DC DO DS⊢
   refine AtN.segN2 0 9 [20,21,22,23,24,25,26,27,28] (fun
    |0=>fun vv _=>vv=.pointer (some ⟨b5,2,none⟩)
    |1=>fun vv _=>vv=.slice Ab i cb
    |2=>fun vv _=>vv=.slice (some a) n c
    |3=>fun vv _=>vv=.int .i64 i
    |4=>fun vv _=>vv=.pointer (some (a.add i))
    |5=>fun vv _=>vv=u
    |6=>fun vv _=>vv=.int .i64 i
    |7=>fun v W=>∃ lab r A' c' Ab' cb',v=.agg #[.string lab,.string r.h,.slice A' r.ts.length c',.string r.agg,.int .i64 r.at',.slice Ab' r.Ls.length cb']∧r.Raw∧(r.aggOk∧r.ts.length≤c')∧Stays W (fun k=>k < wd.heap.size) (fun W=>RuSl W (.agg #[.string lab,.string r.h,.slice A' r.ts.length c',.string r.agg,.int .i64 r.at',.slice Ab' r.Ls.length cb']) r)
    |8=>fun v W=>∃ rb lab r A' c' Ab' cb',v=.slice (some ⟨rb,0,none⟩) 1 1∧Blk W rb 47 #[.string lab,.string r.h,.slice A' r.ts.length c',.string r.agg,.int .i64 r.at',.slice Ab' r.Ls.length cb']∧r.Raw∧(r.aggOk∧r.ts.length≤c')∧Stays W (fun k=>k < wd.heap.size) (fun W=>RuSl W (.agg #[.string lab,.string r.h,.slice A' r.ts.length c',.string r.agg,.int .i64 r.at',.slice Ab' r.Ls.length cb']) r)
    |_=>fun _ _=>True) (by kernel_rfl) (by kernel_rfl) (by kernel_rfl) (by kernel_rfl) (fun j v w1 w2 hc h=>?_) (fun i hn hi o ho A0 W hN hin hk=>?_) (fun l W5 hN hl hΦ=>?_)
   ·match j with
    |7=>exact (by obtain ⟨lab,r,A',c',Ab',cb',e,h1,h2,h3⟩:=h;exact ⟨lab,r,A',c',Ab',cb',e,h1,h2,h3.chg hc (fun _ _ x=>x.elim) (fun k _ e=>e)⟩)
    |8=>exact (by obtain ⟨rb,lab,r,A',c',Ab',cb',e,hb,h1,h2,h3⟩:=h;exact ⟨rb,lab,r,A',c',Ab',cb',e,hb.chg hc id,h1,h2,h3.chg hc (fun _ _ x=>x.elim) (fun k _ e=>e)⟩)
    |0|1|2|3|4|5|6=>exact h
    |_+9=>trivial
   ·rcases (show i=0∨i=1∨i=2∨i=3∨i=4∨i=5∨i=6∨i=7∨i=8 by omega) with rfl|rfl|rfl|rfl|rfl|rfl|rfl|rfl|rfl<;>cases ho
    ·have h5:A0.tmps[5]?.getD undef=.pointer (some ⟨b5,0,none⟩):=hk 5
     exact .same (by simp [go_sem,h5]) rfl
    ·have h20:A0.tmps[20]?.getD undef=.pointer (some ⟨b5,2,none⟩):=hin 0 20
     have hcx:W.cell? ⟨b5,2,none⟩=some (.slice Ab i cb):=(DP.out.chg hN id).cell 2
     exact .same (v:=.slice Ab i cb) (by simp [go_sem,h20,hcx]) rfl
    ·exact .same (uo 0 _ rfl (hk 0)) rfl
    ·exact .same (uo 6 _ rfl (hk 6)) rfl
    ·have h22:A0.tmps[22]?.getD undef=.slice (some a) n c:=hin 2 22
     have h23:A0.tmps[23]?.getD undef=.int .i64 i:=hin 3 23
     exact .same (by simp [go_sem,h22,h23,q0,q1,hlt]) rfl
    ·have h24:A0.tmps[24]?.getD undef=.pointer (some (a.add i)):=hin 4 24
     have hcx:W.cell? (a.add i)=some u:=hN.cellS DU.out id
     exact .same (v:=u) (by simp [go_sem,h24,hcx]) rfl
    ·exact .same (uo 6 _ rfl (hk 6)) rfl
    ·have h25:A0.tmps[25]?.getD undef=u:=hin 5 25
     have h26:A0.tmps[26]?.getD undef=.int .i64 i:=hin 6 26
     refine .call (f:=36) (args:=#[u,.int .i64 i]) (W':=W) ?_ ((rule_st2 W u m X (DX.out.chg hN) i (by unfold B64;omega)).mono ?_)
     ·simp [go_sem,h25,h26,Heg.out]
     ·rintro e w' ⟨lab,r,A',c',Ab',cb',rfl,h1,h2,h3,hc⟩
      have hsz:=hN.size
      exact ⟨_,rfl,hc,lab,r,A',c',Ab',cb',rfl,h1,h2,h3.chg (Chg.refl _ (fun _=>False)) (fun _ _ x=>x.elim) (fun k _ e=>zd e hsz)⟩
    ·have h27:=hin 7 27
     obtain ⟨lab,r,A',c',Ab',cb',e,h1,h2,h3⟩:=h27
     have hn1:New W (W.alloc (.cells #[.string lab,.string r.h,.slice A' r.ts.length c',.string r.agg,.int .i64 r.at',.slice Ab' r.Ls.length cb'] 47)):=(Chg.refl _ _).alloc _
     exact .value (W':=W.alloc (.cells #[.string lab,.string r.h,.slice A' r.ts.length c',.string r.agg,.int .i64 r.at',.slice Ab' r.Ls.length cb'] 47)) (v:=.slice (some ⟨W.heap.size,0,none⟩) 1 1) (by simp [go_sem,e]) ⟨hn1,_,lab,r,A',c',Ab',cb',rfl,Blk.new _ _ _,h1,h2,h3.chg hn1 (fun _ _ x=>x.elim) (fun k _ e=>e)⟩
   obtain ⟨x20,x21,x22,x23,x24,x25,x26,x27,x28,rfl⟩:∃ x20 x21 x22 x23 x24 x25 x26 x27 x28,l=[x20,x21,x22,x23,x24,x25,x26,x27,x28]:=by
    match l,hl with
    | [x20,x21,x22,x23,x24,x25,x26,x27,x28],_=>exact ⟨_,_,_,_,_,_,_,_,_,rfl⟩
   obtain rfl:x20=.pointer (some ⟨b5,2,none⟩):=hΦ 0 (by decide)
   obtain rfl:x21=.slice Ab i cb:=hΦ 1 (by decide)
   obtain rfl:x22=.slice (some a) n c:=hΦ 2 (by decide)
   obtain rfl:x23=.int .i64 i:=hΦ 3 (by decide)
   obtain rfl:x24=.pointer (some (a.add i)):=hΦ 4 (by decide)
   obtain rfl:x25=u:=hΦ 5 (by decide)
   obtain rfl:x26=.int .i64 i:=hΦ 6 (by decide)
   have hx27:=hΦ 7 (by decide)
   have hx28:=hΦ 8 (by decide)
   simp only [putsL,zq,zj,zz,List.zip,List.zipWith,Act.put,qk,qu,qy]
   clear hΦ hl
   obtain ⟨rb,lab,r,A',c',Ab',cb',rfl,hb,h1,h2,h3⟩:=hx28
   have hsz:w3.heap.size≤W5.heap.size:=qb DC.out.size hN.size
   have hown:=DO.out.chg hN qdr
   obtain ⟨v1,W6,hrun,ho1,hc1,hblk⟩:=elRu.appendS hown hsz (some ⟨rb,0,none⟩) 1 1 [[.string lab,.string r.h,.slice A' r.ts.length c',.string r.agg,.int .i64 r.at',.slice Ab' r.Ls.length cb']] rfl (fun cs hc=>by simp only [qp,qm,or_false] at hc;subst hc;rfl) (fun cs hc=>by rw [qn.1 hc];exact gi rfl rfl rfl) (kj hb.at_ rfl) (by rw [Hcl.out];omega) (by rw [Hcl.out];unfold maxLen;omega) 27
   obtain ⟨An,cn,hvn,hcn1,hcn2⟩:=ho1.form
   rw [qg,Hcl.out,yp] at hvn
   subst hvn
   have hne5:∀ k,(Value.slice Ab i cb).ownBlock=some k→b5 < k:=fun k e=>by
    have:=(DO.out.lt e).1
    have:=Hb3.out
    omega
   have HP6:=qq ((DP.out.chg hN id).chg hc1 (fun e=>by have:=hne5 _ e;omega))
   have HC6:=qq ((DC.out.trans hN (fun _ _ h=>h.elim)).trans hc1 (fun k hk e=>by have:=(DO.out.lt e).1;omega))
   have HG:=qq (RuL.grow (B:=w3.heap.size) (by have:=DC.out.size;omega) (fun k e=>(DO.out.lt e).2) DS.out hN h3 hc1 hblk)
   have HO6:=qq ho1
   have HRn:=qq hrun
   have HRw2:=qq (And.intro (show ∀ x∈rs++[r],x.Raw∧x.aggOk from fun x hx=>(zk.1 hx).elim (HRaw.out.1 x) (fun h=>by rw [qn.1 h];exact ⟨h1,h2.1⟩)) (show CapOk (cso++[[.string lab,.string r.h,.slice A' r.ts.length c',.string r.agg,.int .i64 r.at',.slice Ab' r.Ls.length cb']]) from HRaw.out.2.snoc h2.2))
   have HRl2:=qq (show (rs++[r]).length=i+1 by rw [qg,HRl.out,yp])
   clear hown hrun ho1 hc1 hblk hcn1 hcn2 hb h1 h2 h3 hN hsz hne5 hx27
   refine AtN.list 9 12 (by kernel_rfl) ?_
   change wpList _ _ _ [_,_,_] _ _
   go_wp2_with first
    | ((with_reducible refine xu rfl (.tmp 21) (.tmp 28) 27 27 rfl ?_ ?_ HRn.out ?_);exact rfl;exact rfl)
    | ((with_reducible refine kf rfl (.tmp 30) (.tmp 29) 27 rfl rfl sz27 b5 2 29 _ (.slice An (i+1) cn) #[.slice (some ⟨d,0,none⟩) 6 6,.slice none 0 0,.slice An (i+1) cn] ?_ ?_ HP6.out ?_ ?_ ?_ ?_);exact rfl;exact rfl;exact (by decide:2 < 3);exact rfl;exact rfl;intro w9 hc9 hb9 hs9;have HC9:=qq hc9;have HB9:=qq hb9;clear hc9 hb9 hs9)
   change AtN _ _ _ 12 _ _
   refine AtN.done rfl ?_
   go_wp2_with fail
   go_roundw
   case rel=>
    have hlb:=Hb3.out
    have h9:∀ k,(Value.slice An (i+1) cn).ownBlock=some k→¬ k=b5:=fun k e he=>by have:=(HO6.out.lt e).1;omega
    exact ⟨i+1,rs++[r],_,An,cn,by omega,by omega,by go_num,HRl2.out,HRw2.out,HO6.out.chg HC9.out h9,HG.out.chg HC9.out (fun k _ e=>.inl (by omega)) (fun k _ e=>e),HB9.out,HC6.out.trans HC9.out (fun k _ e=>e)⟩
   case measure=>simp [intOf];omega
  ·have HB4:=qq (HB3.out.chg HC.out (fun e=>by have:=Hdb.out;omega))
   have HFin:=qq (fun W (hc:Chg wr W (fun k=>k=w.heap.size)) (hw:New wr W→New w W)=>show PrgO w (.returned (.agg #[.slice (some ⟨d,0,none⟩) 6 6,.slice none 0 0,.slice Ab i cb])) W from by
    have hdb:=Hdb.out
    have hlb:=Hb3.out
    exact ⟨d,w3.heap.size,Ab,cb,cso,rs,by rw [HRl.out],HRaw.out.1,HRaw.out.2,by rw [HRl.out];exact hi6,(HD3.out.chg HC.out (fun e=>by omega)).chg hc (fun e=>by omega),by omega,by omega,qb HC.out.size hc.size,by rw [HRl.out];exact HOv.out.chg hc (fun g hg e=>by have:=(HOv.out.lt hg).1;omega),by rw [HRl.out];exact HSt.out.chg hc (fun k _ e=>.inl (by omega)) (fun k _ e=>e),HNw.out.trans hc (fun k hk e=>by omega)⟩)
   by_cases hn:i < n
   ·have q0:(i:Int) < (n:Int):=by omega
    have q3:decide ((i:Int) < (n:Int))=true:=by simpa using q0
    have q4:¬ ((i:Int) < 6):=by omega
    go_wp2_with fail
    refine wp_loop_rounds 1 ?_
    rw [rounds_succ]
    go_wp2_with first
     | ((with_reducible refine vq rfl (.tmp 5) 29 rfl xp ⟨b5,0,none⟩ [.slice (some ⟨d,0,none⟩) 6 6,.slice none 0 0,.slice Ab i cb] ?_ rfl HBp.out.at_ ?_);exact rfl)
     | ((with_reducible refine xq rfl (.tmp 4) (.tmp 51) 29 rfl rfl xp w.heap.size 29 _ [.slice (some ⟨d,0,none⟩) 6 6,.slice none 0 0,.slice Ab i cb] ?_ ?_ HB4.out rfl rfl (gt rfl rfl rfl) ?_);exact rfl;exact rfl;intro w6 hc6 hb6 hs6;have HC6:=qq hc6;have HB6:=qq hb6;clear hc6 hb6 hs6)
    exact bodyPost_ret (v:=.agg #[.slice (some ⟨d,0,none⟩) 6 6,.slice none 0 0,.slice Ab i cb]) (xh xp rfl _ _ ⟨w.heap.size,0,none⟩ [.slice (some ⟨d,0,none⟩) 6 6,.slice none 0 0,.slice Ab i cb] rfl HB6.out.at_ rfl) rfl (HFin.out _ HC6.out (fun h=>HNw.out.trans h qdr))
   ·have q0:¬ ((i:Int) < (n:Int)):=by omega
    have q3:decide ((i:Int) < (n:Int))=false:=by simpa using q0
    go_wp2_with fail
    refine wp_loop_rounds 1 ?_
    rw [rounds_succ]
    go_wp2_with first
     | ((with_reducible refine vq rfl (.tmp 5) 29 rfl xp ⟨b5,0,none⟩ [.slice (some ⟨d,0,none⟩) 6 6,.slice none 0 0,.slice Ab i cb] ?_ rfl HBp.out.at_ ?_);exact rfl)
     | ((with_reducible refine xq rfl (.tmp 4) (.tmp 51) 29 rfl rfl xp w.heap.size 29 _ [.slice (some ⟨d,0,none⟩) 6 6,.slice none 0 0,.slice Ab i cb] ?_ ?_ HB4.out rfl rfl (gt rfl rfl rfl) ?_);exact rfl;exact rfl;intro w6 hc6 hb6 hs6;have HC6:=qq hc6;have HB6:=qq hb6;clear hc6 hb6 hs6)
    exact bodyPost_ret (v:=.agg #[.slice (some ⟨d,0,none⟩) 6 6,.slice none 0 0,.slice Ab i cb]) (xh xp rfl _ _ ⟨w.heap.size,0,none⟩ [.slice (some ⟨d,0,none⟩) 6 6,.slice none 0 0,.slice Ab i cb] rfl HB6.out.at_ rfl) rfl (HFin.out _ HC6.out (fun h=>HNw.out.trans h qdr))
def hdA (plc:ByteArray) (r:Ru):Ru:=⟨r.h,.val (adV plc)::r.ts.tail,r.Ls,r.agg,r.at'⟩
def rwA (plc:ByteArray) (r:Rw):Rw:=⟨r.name,adV plc::r.args.tail,r.stamp⟩
def mkR {α:Type} (f:α→α) (x:List α) (i:Nat):List α:=(x.take i).map f++x.drop i
def mkR_get {α:Type} {f:α→α} {x:List α} {i:Nat} {r:α} (h:x[i]? =some r):(mkR f x i)[i]? =some r:=by
 have hi:=(qv.1 h).1
 unfold mkR
 rw [qi (by rw [qd,ql];omega),qd,ql,show i - min i x.length=0 by omega,jb]
 exact h
def mkR_set {α:Type} {f:α→α} {x:List α} {i:Nat} {r:α} (h:x[i]? =some r):(mkR f x i).set i (f r)=mkR f x (i+1):=by
 have hi:=(qv.1 h).1
 have hl:((x.take i).map f).length=i:=by rw [qd,ql];omega
 have hx:x.take (i+1)=x.take i++[r]:=by
  rw [List.take_succ,h]
  rfl
 unfold mkR
 rw [List.set_append_right _ _ (by omega),hl,yh,hx,jw,qo,jg hi,qy]
 rfl
def mkR_all {α:Type} {f:α→α} {x:List α} {i:Nat} (h:x.length≤i):mkR f x i=x.map f:=by
 unfold mkR
 rw [qc h,List.drop_eq_nil_of_le h,jr]
def mkR_len {α:Type} {f:α→α} {x:List α} {i:Nat} (h:i≤x.length):(mkR f x i).length=x.length:=by
 unfold mkR
 rw [qg,qd,ql,zw]
 omega
def tms_out {W:World} {S:Nat→Prop} {a:Addr} {ts:List Tm} (h:Stays W S (fun W=>∃ css,TmsAt W (some a) css ts)) (hp:0 < ts.length):¬ S a.block:=fun hS=>by
 have first:∀ W',(∃ css,TmsAt W' (some a) css ts)→∃ k:Int,W'.cell? a=some (.int .i64 k):=fun W' ⟨css,ht⟩=>by
  obtain ⟨a',ha,hr⟩:=ht.src (by rw [ht.len];exact hp)
  obtain rfl:=Option.some.inj ha
  obtain ⟨cs,hcs⟩:∃ cs,css[0]? =some cs:=⟨_,qz (by rw [ht.len];exact hp)⟩
  obtain ⟨t,htt⟩:∃ t,ts[0]? =some t:=⟨_,qz hp⟩
  have h1:=(hr 0 cs hcs).2
  have h2:=ht.at_ 0 cs t hcs htt
  cases t with
  |var s=>
   rw [show cs=_ from h2] at h1
   exact ⟨1,h1 0 _ rfl⟩
  |val v=>
   rw [show cs=_ from h2] at h1
   exact ⟨2,h1 0 _ rfl⟩
  |op m x y=>
   obtain ⟨ad,c,ca,cb,h3,-⟩:=h2
   rw [h3] at h1
   exact ⟨4,h1 0 _ rfl⟩
 obtain ⟨k,hk⟩:=first W h.now
 obtain ⟨k',hk'⟩:=first _ (h (W.setCell a (.bool true)) ((Chg.refl W _).setCell a (.bool true) (fun _=>hS)))
 rw [World.cell?_setCell_same W a (.bool true) hk] at hk'
 cases hk'
def src_same {w:World} {A:Option Addr} {k:Nat} {css dss:List (List Value)} (hl:css.length=dss.length) (h:SrcAt w A k css) (h':SrcAt w A k dss):css=dss:=by
 apply List.ext_getElem hl
 intro i h1 h2
 obtain ⟨a,rfl,hr⟩:=h (by omega)
 obtain ⟨a',ha,hr'⟩:=h' (by omega)
 obtain rfl:=Option.some.inj ha
 have g1:=hr i _ (qz h1)
 have g2:=hr' i _ (qz h2)
 refine List.ext_getElem (g1.1.trans g2.1.symm) fun j j1 j2=>?_
 have e1:=g1.2 j _ (qz j1)
 have e2:=g2.2 j _ (qz j2)
 exact Option.some.inj (e1.symm.trans e2)
def RuO (W:World) (B:Nat) (v:Value) (cso:List (List Value)) (qs:List Ru):Prop:=Own W B 47 6 v cso∧Stays W (fun k=>k < B∨v.ownBlock=some k) (fun W=>RuL W cso qs)
def RuO.chg {W W':World} {B:Nat} {v:Value} {cso:List (List Value)} {qs:List Ru} (h:RuO W B v cso qs) (hc:New W W'):RuO W' B v cso qs:=⟨h.1.chg hc qdr,h.2.chg hc (fun _ _ x=>x.elim) (fun _ _ e=>e)⟩
def RuO.row {W:World} {B:Nat} {v:Value} {cso:List (List Value)} {qs:List Ru} (h:RuO W B v cso qs) {i:Nat} {r:Ru} (hr:qs[i]? =some r) (hp:0 < r.ts.length):
  ∃ g cap lab a c Ab cb css,v=.slice (some ⟨g,0,none⟩) qs.length cap∧cso[i]? =some [.string lab,.string r.h,.slice (some a) r.ts.length c,.string r.agg,.int .i64 r.at',.slice Ab r.Ls.length cb]∧TmsAt W (some a) css r.ts∧¬ (a.block < B∨v.ownBlock=some a.block)∧At W ⟨g,i * 6,none⟩ [.string lab,.string r.h,.slice (some a) r.ts.length c,.string r.agg,.int .i64 r.at',.slice Ab r.Ls.length cb]∧∃ cur,Blk W g 47 cur:=by
 obtain ⟨h1,h2⟩:=h
 have hn:=h2.now
 obtain ⟨cs,hcs⟩:∃ cs,cso[i]? =some cs:=⟨_,qz (by rw [hn.len];exact (qv.1 hr).1)⟩
 obtain ⟨lab,A,Ab,c,cb,css,cssb,he,ht,-⟩:=hn.at_ i cs r hcs hr
 obtain rfl:cs=[.string lab,.string r.h,.slice A r.ts.length c,.string r.agg,.int .i64 r.at',.slice Ab r.Ls.length cb]:=by
  injection he with he
  simpa using congrArg Array.toList he
 obtain ⟨a,rfl,-⟩:=ht.src (by rw [ht.len];exact hp)
 obtain ⟨g,cap,rest,hv,hb,hblk,hat,hfit,-⟩:=h1.get hcs
 refine ⟨g,cap,lab,a,c,Ab,cb,css,by rw [hv,hn.len],hcs,ht,tms_out (W:=W) (S:=fun k=>k < B∨v.ownBlock=some k) (ts:=r.ts) (fun W2 h3=>?_) hp,hat,_,hblk⟩
 obtain ⟨lab2,A2,Ab2,c2,cb2,css2,cssb2,he2,ht2,-⟩:=(h2 W2 h3).at_ i _ r hcs hr
 injection he2 with he2
 simp at he2
 exact ⟨css2,by rw [he2.2.1.1];exact ht2⟩
def own_one1 {w:World} {base g k:Nat} {e:TypeId} {cs:List Value} (hb:Blk w g e cs.toArray) (hB:base≤g) (hl:cs.length=k):Own w base e k (.slice (some ⟨g,0,none⟩) 1 1) [cs]:=
 ⟨⟨by simp [hl],.inr ⟨g,1,cs.toArray,rfl,hB,hb,qh _,by decide,by simp [hl],by simp [←hl]⟩⟩,by simp [hl]⟩
def rows_tail {w:World} {a:Addr} {k:Nat} {css:List (List Value)} {a7:Addr} {c:Nat} (h:RowsAt w a k css) (ha:a7=if c=1 then a else ⟨a.block,a.off+k,none⟩) (hk:0 < k) (hc:css.length≤c):SrcAt w (some a7) k css.tail:=fun hp=>by
 have h1:c≠1:=fun e=>by rw [List.length_tail] at hp;omega
 rw [if_neg h1] at ha
 refine ⟨a7,rfl,fun i cs hi=>?_⟩
 rw [List.getElem?_tail] at hi
 obtain ⟨h2,h3⟩:=h (i+1) cs hi
 refine ⟨h2,?_⟩
 have e1:a7=a.add k:=by
  obtain ⟨q,rfl⟩:∃ q,k=q+1:=⟨k - 1,by omega⟩
  rw [ha,gk]
 rw [e1,add_add,show k+i * k=(i+1) * k by rw [Nat.succ_mul];omega]
 exact h3
def tms_cells {w:World} {A:Option Addr} {css:List (List Value)} {ts:List Tm} (h:TmsAt w A css ts):(∀ cs∈css,cs.length=7)∧∀ cs∈css,∀ u∈cs,u.oneCell'=true:=by
 have key:∀ cs∈css,∃ t,TmAt w cs t:=fun cs hc=>by
  obtain ⟨i,hi⟩:=jz hc
  obtain ⟨t,ht⟩:∃ t,ts[i]? =some t:=⟨_,qz (by rw [←h.len];exact (qv.1 hi).1)⟩
  exact ⟨t,h.at_ i cs t hi ht⟩
 refine ⟨fun cs hc=>(key cs hc).elim fun t ht=>ht.len,fun cs hc u hu=>?_⟩
 obtain ⟨t,ht⟩:=key cs hc
 cases t with
 |var s=>
  rw [show cs=_ from ht] at hu
  simp [vcs,zV] at hu
  rcases hu with rfl|rfl|rfl|rfl|rfl|rfl <;> rfl
 |val v=>
  rw [show cs=_ from ht] at hu
  simp [vcs] at hu
  rcases hu with rfl|rfl|rfl|rfl|rfl|rfl <;> rfl
 |op m x y=>
  obtain ⟨ad,c,ca,cb,h3,-⟩:=ht
  rw [h3] at hu
  simp [vcs,zV] at hu
  rcases hu with rfl|rfl|rfl|rfl|rfl|rfl <;> rfl
def termA (plc:ByteArray):List Value:=[.int .i64 2,.string ⟨#[]⟩]++vcs (adV plc)++[.slice none 0 0]
def RuO.put {W:World} {B g nq cap:Nat} {v:Value} {cso:List (List Value)} {qs:List Ru} (h:RuO W B v cso qs) (hv0:v=.slice (some ⟨g,0,none⟩) nq cap) (hB:B≤W.heap.size) {i:Nat} {r:Ru} (hr:qs[i]? =some r) {lab:ByteArray} {a:Addr} {c cb:Nat} {Ab:Option Addr} {css:List (List Value)}
  (hcs:cso[i]? =some [.string lab,.string r.h,.slice (some a) r.ts.length c,.string r.agg,.int .i64 r.at',.slice Ab r.Ls.length cb]) (ht:TmsAt W (some a) css r.ts) (hp:0 < r.ts.length) (hout:¬ (a.block < B∨v.ownBlock=some a.block)) (plc:ByteArray)
  {W6:World} (hW:New W W6) {An:Option Addr} {cn:Nat} (ho:Own W6 W.heap.size 64 7 (.slice An r.ts.length cn) (termA plc::css.tail)):
  RuO (W6.setCell ⟨g,i * 6+2,none⟩ (.slice An r.ts.length cn)) B v (cso.set i [.string lab,.string r.h,.slice An r.ts.length cn,.string r.agg,.int .i64 r.at',.slice Ab r.Ls.length cb]) (qs.set i (hdA plc r))∧Chg W (W6.setCell ⟨g,i * 6+2,none⟩ (.slice An r.ts.length cn)) (fun k=>k=g):=by
 subst hv0
 obtain ⟨h1,h2⟩:=h
 have hg:g < W.heap.size:=(h1.lt (g:=g) rfl).2
 have h16:=h1.chg hW qdr
 obtain ⟨g',cap',rest,hv,hb,hblk,hat,hfit,-,hset⟩:=h16.get hcs
 injection hv with hv
 injection hv with hv
 injection hv with hv
 subst hv
 have hs:=hset 2 (.slice An r.ts.length cn) (by omega)
 have hc:Chg W6 (W6.setCell ⟨g,i * 6+2,none⟩ (.slice An r.ts.length cn)) (fun k=>k=g):=(Chg.refl _ _).setCell _ _ (fun _=>rfl)
 have hcW:Chg W (W6.setCell ⟨g,i * 6+2,none⟩ (.slice An r.ts.length cn)) (fun k=>k=g):=(hW.mono fun _ _ x=>x.elim).trans hc (fun _ _ e=>e)
 refine ⟨⟨hs,fun W2 h3=>?_⟩,hcW⟩
 have hall:Chg W W2 (fun k=>k < B∨(Value.slice (some ⟨g,0,none⟩) nq cap).ownBlock=some k):=(hcW.mono fun k _ e=>.inr (by have e:k=g:=e;rw [e];rfl)).trans h3 (fun _ _ e=>e)
 have hl:=h2 W2 hall
 refine ⟨by rw [jk,jk];exact hl.len,fun j cs' q hj hq=>?_⟩
 by_cases hij:i=j
 ·subst hij
  rw [jx,if_pos rfl,if_pos (qv.1 hcs).1] at hj
  rw [jx,if_pos rfl,if_pos (qv.1 hr).1] at hq
  cases hj
  cases hq
  obtain ⟨lab2,A2,Ab2,c2,cb2,css2,cssb2,he2,ht2,g1,g2,g3,g4⟩:=hl.at_ i _ r hcs hr
  injection he2 with he2
  simp at he2
  obtain ⟨rfl,⟨rfl,-⟩,rfl,rfl⟩:=he2
  obtain rfl:css2=css:=src_same (by rw [ht2.len,ht.len]) ht2.src (ht.src.chg hall (fun a' ha=>by cases ha;exact hout))
  have hlen:(hdA plc r).ts.length=r.ts.length:=by
   show r.ts.tail.length+1=_
   rw [List.length_tail]
   omega
  have hoW:=(ho.chg hc (fun k hk e=>by have:=(ho.lt hk).1;have e:k=g:=e;omega)).chg h3 (fun k hk e=>by
   have:=(ho.lt hk).1
   rcases e with e|e
   ·omega
   ·have e:g=k:=Option.some.inj e
    omega)
  refine ⟨lab,An,Ab,cn,cb,termA plc::css2.tail,cssb2,by rw [hlen];rfl,⟨?_,(hoW.rows rfl).2,fun j cs t hj ht'=>?_⟩,g1,g2,g3,g4⟩
  ·rw [hlen,zf,List.length_tail,ht2.len]
   omega
  ·cases j with
   |zero=>cases hj;cases ht';rfl
   |succ j=>
    rw [qw,List.getElem?_tail] at hj
    have ht':r.ts.tail[j]? =some t:=ht'
    rw [List.getElem?_tail] at ht'
    exact ht2.at_ (j+1) cs t hj ht'
 ·rw [jx,if_neg hij] at hj hq
  exact hl.at_ j cs' q hj hq
def nx_row {wc W:World} {v:Value} {qs:List Rw} (h:NxAt wc W v qs) {i:Nat} {r:Rw} (hr:qs[i]? =some r) (hp:0 < r.args.length) (plc:ByteArray):
  ∃ g cap a c,v=.slice (some ⟨g,0,none⟩) qs.length cap∧At W ⟨g,i * 3,none⟩ [.string r.name,.slice (some a) r.args.length c,.int .i64 r.stamp]∧RowsAt W a 4 (r.args.map vcs)∧a.block < W.heap.size∧r.args.length≤c∧c≤maxLen∧r.args.length≤1000∧(∃ cur,Blk W g 42 cur)∧g < W.heap.size∧
   ∀ W6 An cn,New W W6→Own W6 W.heap.size 62 4 (.slice An r.args.length cn) ((rwA plc r).args.map vcs)→
    NxAt wc (W6.setCell ⟨g,i * 3+1,none⟩ (.slice An r.args.length cn)) v (qs.set i (rwA plc r))∧(New wc W→New wc (W6.setCell ⟨g,i * 3+1,none⟩ (.slice An r.args.length cn))):=by
 obtain ⟨cso,h1,h2⟩:=h
 have hi:i < cso.length:=by rw [h2.1];exact (qv.1 hr).1
 obtain ⟨cs,hcs⟩:∃ cs,cso[i]? =some cs:=⟨_,qz hi⟩
 obtain ⟨r',e1,e2⟩:=h2.2 i cs hcs
 obtain rfl:r=r':=Option.some.inj (hr.symm.trans e1)
 obtain ⟨A,c,rfl,g1,g2,g3,g4,g5⟩:=e2
 obtain ⟨a,rfl,hra⟩:=g4 (by rw [qd];exact hp)
 obtain ⟨g,cap,rest,hv,hb,hblk,hat,hfit,-,-⟩:=h1.get hcs
 have hgl:g < W.heap.size:=hblk.lt
 refine ⟨g,cap,a,c,by rw [hv,h2.1],hat,hra,(g5 a rfl).lt,g2,g3,g1,⟨_,hblk⟩,hgl,fun W6 An cn hW ho=>?_⟩
 have h16:=h1.chg hW qdr
 obtain ⟨g',cap',rest',hv',hb',hblk',hat',hfit',-,hset⟩:=h16.get hcs
 rw [hv] at hv'
 injection hv' with hv'
 injection hv' with hv'
 injection hv' with hv'
 subst hv'
 have hs:=hset 1 (.slice An r.args.length cn) (by omega)
 have hc:Chg W6 (W6.setCell ⟨g,i * 3+1,none⟩ (.slice An r.args.length cn)) (fun k=>k=g):=(Chg.refl _ _).setCell _ _ (fun _=>rfl)
 have hn:∀ k,k=g→¬ VlB W6 k:=fun k hk=>qct h16 k (by rw [hv,hk];rfl)
 have hlen:(rwA plc r).args.length=r.args.length:=by
  show r.args.tail.length+1=_
  rw [List.length_tail]
  omega
 refine ⟨⟨_,hs,by rw [jk,jk];exact h2.1,fun j cs' hj=>?_⟩,fun hN=>(hN.trans hW qdr).trans hc (fun k hk e=>by have e:k=g:=e;have:=hN.size;omega)⟩
 by_cases hij:i=j
 ·subst hij
  rw [jx,if_pos rfl,if_pos hi] at hj
  cases hj
  refine ⟨rwA plc r,by rw [jx,if_pos rfl,if_pos (qv.1 hr).1],?_⟩
  exact OwnRow.row (B:=W.heap.size) (v:=.slice An r.args.length cn) ⟨rfl,by rw [hlen];exact g1,ho.chg hc (fun k hk e=>by have:=(ho.lt hk).1;have e:k=g:=e;omega)⟩
 ·rw [jx,if_neg hij] at hj
  obtain ⟨q,hq,hqr⟩:=h2.2 j cs' hj
  exact ⟨q,by rw [jx,if_neg hij];exact hq,(hqr.chg hW).stay hc hn⟩
def NxAt.take {wc W:World} {A:Option Addr} {n c:Nat} {l:List Rw} (h:NxAt wc W (.slice A n c) l) {q:Nat} (hq:q≤n):NxAt wc W (.slice A q c) (l.take q):=by
 obtain ⟨cso,h1,h2⟩:=h
 have hn:=(h1.rows rfl).1
 refine ⟨cso.take q,⟨⟨?_,?_⟩,fun cs hc=>h1.2 cs (je hc)⟩,?_,fun i cs hi=>?_⟩
 ·rw [←cj q h1.2,ql,h1.1.1,ql, ←hn,Nat.min_eq_left (yy 3 hq),Nat.min_eq_left hq]
 ·rcases h1.1.2 with ⟨e1,e2⟩| ⟨g,cap,cur,e1,e2,e3,e4,e5,e6,e7⟩
  ·injection e1 with e1 e8 e9
   subst e1 e9
   obtain rfl:q=0:=by omega
   exact .inl ⟨rfl,by simp⟩
  ·injection e1 with e1 e8 e9
   subst e1 e9
   refine .inr ⟨g,c,cur,by rw [ql, ←hn,Nat.min_eq_left hq],e2,e3,?_,e5,e6,?_⟩
   ·rw [ql, ←hn,Nat.min_eq_left hq]
    omega
   ·rw [←cj q h1.2, ←e7,List.take_take,ql, ←hn,Nat.min_eq_left hq,Nat.min_eq_left (yy 3 hq)]
 ·rw [ql,ql,h2.1]
 ·rw [yq] at hi
  split at hi
  ·rename_i hlt
   obtain ⟨r,hr,hra⟩:=h2.2 i cs hi
   exact ⟨r,by rw [yq,if_pos hlt];exact hr,hra⟩
  ·cases hi
def RwO (w:World) (q:Nat) (e:Ending) (w':World):Prop:=∃ v' rs,e=.returned v'∧NxAt w w' v' rs∧rs.length≤q∧(∀ r∈rs,Good r)∧New w w'
def rows12O (w:World) (v:Value) (n:Nat) (X:Nat→Int) (hx:IntsAt w v 6 n X) (q:Nat) (hq:q≤40):
  Calls Tryz.prog 16 #[v,.int .i64 q] w (RwO w q):=by
 have HX:=qq (show Calls Tryz.prog 38 #[v] w (fun e w'=>∃ v' rs,e=.returned v'∧NxAt w w' v' rs∧rs.length≤40∧(∀ r∈rs,Good r)∧New w w') from (rows10 w v n X hx).mono fun e w' h=>by
  obtain ⟨v',cso,rs,h1,h2,h3,h4,h5,h6⟩:=h
  exact ⟨v',rs,h1,⟨cso,h2,h3.cs⟩,h4,h5,h6⟩)
 clear hx
 go_enter Tryz.func16,Tryz.ntmps16
 go_upto_region 2 with (go_at_call 38;refine HX.out.mono ?_;rintro e w2 ⟨v',rs,rfl,hs,hl,hg,hn⟩;have HS:=qq hs;have HG:=qq hg;have HN:=qq hn;clear hs hg hn)
 obtain ⟨A,c,rfl,-⟩:=(HS.out.sl2 (by omega)).form
 obtain ⟨m,hm⟩:=qdp (rs.length)
 rw [hm] at hl HS⊢
 have hmc:(m:Int)≤(c:Int):=by
  obtain ⟨A',c',css',h1,-,h2,-⟩:=HS.out.sl2 (by rw [hm];omega)
  injection h1 with h1 h3 h4
  subst h4
  omega
 have Hm:=qq hm
 clear hm
 by_cases hle:m≤q
 ·have q1:¬ ((q:Int) < (m:Int)):=by omega
  go_wp2_with fail
  go_ret
  exact ⟨.slice A m c,rs,rfl,HS.out,by rw [Hm.out];exact hle,HG.out,HN.out⟩
 ·have q1:(q:Int) < (m:Int):=by omega
  have q2:(0:Int)≤(q:Int):=by omega
  have q3:(q:Int)≤(c:Int):=by omega
  have HF:=qq (HS.out.take (q:=q) (by omega))
  have Hlt:=qq (show (rs.take q).length≤q by rw [ql];omega)
  go_wp2_with fail
  go_ret
  exact ⟨.slice A q c,rs.take q,rfl,HF.out,Hlt.out,fun r hr=>HG.out r (je hr),HN.out⟩
def hdA_ok {plc:ByteArray} {r:Ru} (h:r.Raw∧r.aggOk) (hpl:∃ b:UInt8,plc=⟨#[b]⟩∧97≤b.toNat∧b.toNat≤122):ruP (hdA plc r)∧ruRel (hdA plc r)∧(hdA plc r).Ok∧HeadAt plc (hdA plc r):=by
 obtain ⟨h,ha⟩:=h
 obtain ⟨b,rfl,hb1,hb2⟩:=hpl
 have hlen:(hdA ⟨#[b]⟩ r).ts.length=r.ts.length:=by
  show r.ts.tail.length+1=_
  have:=h.lo
  rw [List.length_tail]
  omega
 have hv:okP (adV ⟨#[b]⟩):=.inr ⟨rfl,rfl,b,rfl,hb1,hb2⟩
 have ha:(hdA ⟨#[b]⟩ r).aggOk:=by
  rcases ha with ha| ⟨h1,h2,h3,s,h4⟩
  ·exact .inl ha
  ·exact .inr ⟨h1,h2,by rw [hlen];exact h3,s,show r.ts.tail[0]? =some (.var s) by rw [List.getElem?_tail];exact h4⟩
 refine ⟨⟨(lh (rh h.rel)).1,⟨by rw [hlen];exact h.lo,by rw [hlen];exact h.hi,⟨_,rfl,.inr ⟨_,rfl,rfl⟩⟩,fun t ht=>?_⟩,h.l1,h.l4,fun L hL=>(h.ls L hL).p,ha⟩,⟨by rw [hlen];exact rh h.rel,fun L hL=>(h.ls L hL).rel⟩,⟨by rw [hlen];have:=h.hi;omega,fun t ht=>?_,h.l4,fun L hL=>(h.ls L hL).ok,ha⟩,⟨_,rfl⟩⟩
 ·rcases qp.1 ht with rfl|ht
  ·exact .inl (.inr ⟨_,rfl,hv⟩)
  ·exact (h.ts t (List.mem_of_mem_tail ht)).p
 ·rcases qp.1 ht with rfl|ht
  ·exact hv.ok.1
  ·exact (h.ts t (List.mem_of_mem_tail ht)).ok
def rwA_ok {plc:ByteArray} {r:Rw} (h:Good r) (hpl:∃ b:UInt8,plc=⟨#[b]⟩∧97≤b.toNat∧b.toNat≤122):(∀ u∈(rwA plc r).args,okW u)∧0≤r.stamp∧r.stamp≤forever:=by
 obtain ⟨b,rfl,hb1,hb2⟩:=hpl
 have hv:okP (adV ⟨#[b]⟩):=.inr ⟨rfl,rfl,b,rfl,hb1,hb2⟩
 refine ⟨fun u hu=>?_,h.st0,by have:=h.st9;unfold forever;omega⟩
 rcases qp.1 hu with rfl|hu
 ·exact hv.ok.1
 ·exact (h.raw u (List.mem_of_mem_tail hu)).ok
theorem walk_FixPlaces (w:World) (v0:Value) (n0:Nat) (hx0:IntsAts w v0 n0) (v1:Value) (n1:Nat) (X1:Nat→Int) (hx1:IntsAt w v1 6 n1 X1):Calls Tryz.prog 10 #[v0,v1] w fun e w'=>e=.returned (.bool true)∧New w w':=by
 have HX0:=qq hx0
 have HX1:=qq hx1
 clear hx0 hx1
 go_enter Tryz.func10,Tryz.ntmps10
 go_upto_region 2 with (go_at_call 14;refine (ni _).mono ?_;rintro e w1 ⟨rfl,hN1⟩;have HN1:=qq hN1;clear hN1)
 go_upto_region 3 with (go_at_call 15;refine (program06O _ _ _ (HX0.out.chg HN1.out)).mono ?_;rintro e w2 ⟨d,B,Ar,cr,cso,rs,rfl,hraw,hcap,hl6,hbd,hdB,hwB,hB2,hor,hsr,hn2⟩;have HN2:=qq (HN1.out.trans hn2 qdr);have HRaw:=qq hraw;have HCap:=qq hcap;have HBd:=qq hbd;have HRu:=qq (show RuO w2 B (.slice Ar rs.length cr) cso rs from ⟨hor,hsr⟩);have HOl:=qq (fun k (hk:(Value.slice Ar rs.length cr).ownBlock=some k)=>(hor.lt hk).2);have HdB:=qq (show d < B∧w.heap.size≤B from ⟨hdB,qb HN1.out.size hwB⟩);obtain ⟨nr,hnr⟩:=qdp (rs.length);have Hnr:=qq hnr;rw [hnr] at HRu HOl hl6⊢;clear hraw hcap hbd hdB hwB hor hsr hn2 hnr)
 obtain ⟨w3,hw3⟩:=qdq (w2.alloc (.cells #[.slice (some ⟨d,0,none⟩) 6 6,.slice none 0 0,.slice Ar nr cr] 29))
 have hn3:New w2 w3:=by rw [hw3];exact (Chg.refl _ _).alloc _
 have HN3:=qq hn3
 have HBP:=qq (show Blk w3 w2.heap.size 29 #[.slice (some ⟨d,0,none⟩) 6 6,.slice none 0 0,.slice Ar nr cr] by rw [hw3];exact Blk.new w2 _ _)
 have Hs3:=qq (show w3.heap.size=w2.heap.size+1 by rw [hw3];simp)
 rw [←hw3]
 obtain ⟨b6,hb6⟩:=qdp (w2.heap.size)
 rw [hb6] at HBP hB2 Hs3 HOl⊢
 clear hw3 hn3
 go_upto_region 4 with fail
 obtain ⟨w4,hw4⟩:=qdq (w3.alloc (.cells #[.int .i64 3,.int .i64 0,.string ⟨#[97]⟩,.slice none 0 0] 62))
 have hn4:New w3 w4:=by rw [hw4];exact (Chg.refl _ _).alloc _
 have HN4:=qq (HN3.out.trans hn4 qdr)
 have HBP:=qq (HBP.out.chg hn4 id)
 have HBV:=qq (show Blk w4 w3.heap.size 62 #[.int .i64 3,.int .i64 0,.string ⟨#[97]⟩,.slice none 0 0] by rw [hw4];exact Blk.new w3 _ _)
 have HRu:=qq (HRu.out.chg HN4.out)
 have HBd:=qq (HBd.out.chg HN4.out id)
 rw [←hw4]
 obtain ⟨b7,hb7⟩:=qdp (w3.heap.size)
 rw [hb7] at HBV Hs3⊢
 have H67:=qq (show b7=b6+1 from Hs3.out)
 have Hb4:=qq (show b7 < w4.heap.size from HBV.out.lt)
 clear hw4 hn4 hb7 hb6
 go_wp2_with fail
 go_loopw [8] (fun u8 wr=>∃ (i:Nat) (cso:List (List Value)),i≤nr∧u8=.int .i64 i∧RuO wr B (.slice Ar nr cr) cso (mkR (hdA ⟨#[97]⟩) rs i)∧CapOk cso∧Chg w4 wr (fun k=>(Value.slice Ar nr cr).ownBlock=some k)) (fun u _=>nr - (intOf u).toNat)
 case atStart=>exact ⟨0,cso,qr _,rfl,HRu.out,HCap.out,Chg.refl _ _⟩
 case round=>
  obtain ⟨i,csi,hi,rfl,hro,hcp,hN⟩:=hrel
  have HRo:=qq hro
  have HNr:=qq hN
  have hob:∀ k,(Value.slice Ar nr cr).ownBlock=some k→B≤k∧k < b6:=fun k hk=>⟨(HRu.out.1.lt hk).1,by have:=HOl.out k hk;omega⟩
  have HP1:=qq (HBP.out.chg hN (fun e=>by have:=(hob _ e).2;omega))
  have HV1:=qq (HBV.out.chg hN (fun e=>by have:=(hob _ e).2;have:=H67.out;omega))
  have e2:=HP1.out.cell 2
  simp only [qx,qj,qw] at e2
  clear hro hN
  by_cases hlt:i < nr
  ·obtain ⟨r,hr⟩:∃ r,rs[i]? =some r:=⟨_,qz (by rw [Hnr.out];exact hlt)⟩
   have HRr:=qq (HRaw.out r (qf hr))
   have hp:=HRr.out.1.lo
   obtain ⟨g,cap,lab,a,c,Ab,cb,css,hv,hcs,hts,hout,hat,cur,hbk⟩:=HRo.out.row (mkR_get hr) (by omega)
   rw [mkR_len (by rw [Hnr.out];omega),Hnr.out] at hv
   injection hv with hv1 _ hv2
   subst hv1 hv2
   have Htr:=qq (show RowsAt wr a 7 css by
    obtain ⟨a',ha',hr'⟩:=hts.src (by rw [hts.len];omega)
    rw [Option.some.inj ha']
    exact hr')
   have DTk:=qq (show (∀ cs∈css,cs.length=7)∧∀ cs∈css,∀ u∈cs,u.oneCell'=true from tms_cells hts)
   have hnt3:=HRr.out.1.hi
   have Hat:=qq hat
   obtain ⟨nt,hnt⟩:=qdp (r.ts.length)
   obtain ⟨nb,hnb⟩:=qdp (r.Ls.length)
   have hcl:css.length=nt:=by rw [hts.len,hnt]
   rw [hnt] at hp hnt3
   have hput:=fun W6 An cn (hW:New wr W6) ho=>HRo.out.put (B:=B) rfl (by have:=HNr.out.size;have:=Hb4.out;have:=H67.out;omega) (mkR_get hr) hcs hts (by rw [hnt];exact hp) hout ⟨#[97]⟩ (W6:=W6) hW (An:=An) (cn:=cn) ho
   rw [mkR_set hr,hnt,hnb] at hput
   rw [hnt,hnb] at Hat
   have HPut:=qq hput
   have Hcl:=qq hcl
   have HBk:=qq hbk
   have hnc0:nt≤c:=hcp _ (qf hcs) (some a) nt c (by rw [hnt];rfl)
   have hnc:(nt:Int)≤(c:Int):=by omega
   obtain ⟨a7,ha7⟩:=qdq ((if c=1 then a else ⟨a.block,a.off+7,none⟩))
   have HA7:=qq ha7
   clear ha7
   have HCp:=qq hcp
   have q0:(0:Int)≤(i:Int):=by omega
   have q1:(i:Int) < (nr:Int):=by omega
   have q2:(1:Int)≤(nt:Int):=by omega
   clear hcp hr hcs hts hout hat hbk hnt hnb hcl hput hob
   go_upto_region 7 with fail
   refine vj (by kernel_rfl) ?_
   have hnd:New wr wr.drew:=(Chg.refl _ _).drew
   have DP:=qq (HP1.out.chg hnd id)
   have DV:=qq (HV1.out.chg hnd id)
   have DA:=qq (Hat.out.chg hnd id)
   have DTr:=qq (Htr.out.chg hnd id)
   have DK:=qq (HBk.out.chg hnd id)
   have DN:=qq hnd
   clear hnd e2
   generalize wr.drew=wd at DP DV DA DTr DK DN⊢
   refine AtN.segF 0 14 0 [32,33,34,35,36,37,38,39,40,41,42,43,44,45] (fun _=>False) (fun
     |5=>true
     |13=>true
     |_=>false) (fun
     |5=>13
     |_=>999) (fun
     |0=>fun vv _=>vv=.pointer (some ⟨b6,2,none⟩)
     |1=>fun vv _=>vv=.slice (some ⟨g,0,none⟩) nr cr
     |2=>fun vv _=>vv=.int .i64 i
     |3=>fun vv _=>vv=.agg #[.int .i64 3,.int .i64 0,.string ⟨#[97]⟩,.slice none 0 0]
     |4=>fun vv _=>vv=.agg #[.int .i64 2,.string ⟨#[]⟩,.int .i64 3,.int .i64 0,.string ⟨#[97]⟩,.slice none 0 0,.slice none 0 0]
     |5=>fun u W=>Own W wd.heap.size 64 7 u [[.int .i64 2,.string ⟨#[]⟩,.int .i64 3,.int .i64 0,.string ⟨#[97]⟩,.slice none 0 0,.slice none 0 0]]
     |6=>fun vv _=>vv=.pointer (some ⟨b6,2,none⟩)
     |7=>fun vv _=>vv=.slice (some ⟨g,0,none⟩) nr cr
     |8=>fun vv _=>vv=.int .i64 i
     |9=>fun vv _=>vv=.pointer (some ⟨g,i * 6,none⟩)
     |10=>fun vv _=>vv=.pointer (some ⟨g,i * 6+2,none⟩)
     |11=>fun vv _=>vv=.slice (some a) nt c
     |12=>fun vv _=>vv=.slice (some a7) (nt - 1) (c - 1)
     |13=>fun u W=>Own W wd.heap.size 64 7 u ([.int .i64 2,.string ⟨#[]⟩,.int .i64 3,.int .i64 0,.string ⟨#[97]⟩,.slice none 0 0,.slice none 0 0]::css.tail)
     |_=>fun _ _=>True:Nat→Value→World→Prop) (by kernel_rfl) (by kernel_rfl) (by kernel_rfl) (by kernel_rfl) (by kernel_rfl) (fun g hg=>hg.elim) (fun k u W1 W2 T' h hc ht hT=>?_) (fun i hn hi o ho A0 W b hJ hμ hin hkp hcn=>?_) (fun l W5 hN hl hΦ hap=>?_)
   ·match k with
    |5=>exact h.chg hc (fun g hg=>ht rfl g (gd hg))
    |13=>exact h.chg hc (fun g hg=>ht rfl g (gd hg))
    |0|1|2|3|4|6|7|8|9|10|11|12=>exact h
    |_+14=>trivial
   ·rcases (show i=0∨i=1∨i=2∨i=3∨i=4∨i=5∨i=6∨i=7∨i=8∨i=9∨i=10∨i=11∨i=12∨i=13 by omega) with rfl|rfl|rfl|rfl|rfl|rfl|rfl|rfl|rfl|rfl|rfl|rfl|rfl|rfl<;>cases ho
    ·have h6:A0.tmps[6]?.getD undef=.pointer (some ⟨b6,0,none⟩):=hkp 6 (by kernel_rfl)
     refine .new rfl ?_
     exact .same (v:=.pointer (some ⟨b6,2,none⟩)) (by simp [go_sem,h6]) rfl
    ·have h32:A0.tmps[32]?.getD undef=.pointer (some ⟨b6,2,none⟩):=hin 0 32
     refine .new rfl ?_
     have hcx:W.cell? ⟨b6,2,none⟩=some (.slice (some ⟨g,0,none⟩) nr cr):=(DP.out.chg hJ.1 id).cell 2
     exact .same (v:=.slice (some ⟨g,0,none⟩) nr cr) (by simp [go_sem,h32,hcx]) rfl
    ·refine .new rfl ?_
     exact .same (uo 8 (.int .i64 i) rfl (hkp 8 (by kernel_rfl))) rfl
    ·have h7:A0.tmps[7]?.getD undef=.pointer (some ⟨b7,0,none⟩):=hkp 7 (by kernel_rfl)
     refine .new rfl ?_
     exact .same (vu 7 _ rfl vz ⟨b7,0,none⟩ [.int .i64 3,.int .i64 0,.string ⟨#[97]⟩,.slice none 0 0] h7 rfl (DV.out.chg hJ.1 id).at_) rfl
    ·have h35:A0.tmps[35]?.getD undef=.agg #[.int .i64 3,.int .i64 0,.string ⟨#[97]⟩,.slice none 0 0]:=hin 3 35
     refine .new rfl ?_
     exact .same (v:=.agg #[.int .i64 2,.string ⟨#[]⟩,.int .i64 3,.int .i64 0,.string ⟨#[97]⟩,.slice none 0 0,.slice none 0 0]) (by simp [go_sem,h35]) rfl
    ·have h36:A0.tmps[36]?.getD undef=.agg #[.int .i64 2,.string ⟨#[]⟩,.int .i64 3,.int .i64 0,.string ⟨#[97]⟩,.slice none 0 0,.slice none 0 0]:=hin 4 36
     have hn1:New W (W.alloc (.cells #[.int .i64 2,.string ⟨#[]⟩,.int .i64 3,.int .i64 0,.string ⟨#[97]⟩,.slice none 0 0,.slice none 0 0] 64)):=(Chg.refl _ _).alloc _
     refine GivesF.make ?_
     exact .value (W':=W.alloc (.cells #[.int .i64 2,.string ⟨#[]⟩,.int .i64 3,.int .i64 0,.string ⟨#[97]⟩,.slice none 0 0,.slice none 0 0] 64)) (v:=.slice (some ⟨W.heap.size,0,none⟩) 1 1) (by simp [go_sem,h36]) ⟨hn1,own_one1 (Blk.new _ _ _) hJ.1.size rfl,fun g hg=>by cases hg;exact ⟨qh _,by simp⟩⟩
    ·have h6:A0.tmps[6]?.getD undef=.pointer (some ⟨b6,0,none⟩):=hkp 6 (by kernel_rfl)
     refine .new rfl ?_
     exact .same (v:=.pointer (some ⟨b6,2,none⟩)) (by simp [go_sem,h6]) rfl
    ·have h38:A0.tmps[38]?.getD undef=.pointer (some ⟨b6,2,none⟩):=hin 6 38
     refine .new rfl ?_
     have hcx:W.cell? ⟨b6,2,none⟩=some (.slice (some ⟨g,0,none⟩) nr cr):=(DP.out.chg hJ.1 id).cell 2
     exact .same (v:=.slice (some ⟨g,0,none⟩) nr cr) (by simp [go_sem,h38,hcx]) rfl
    ·refine .new rfl ?_
     exact .same (uo 8 (.int .i64 i) rfl (hkp 8 (by kernel_rfl))) rfl
    ·have h39:A0.tmps[39]?.getD undef=.slice (some ⟨g,0,none⟩) nr cr:=hin 7 39
     have h40:A0.tmps[40]?.getD undef=.int .i64 i:=hin 8 40
     refine .new rfl ?_
     exact .same (by simp [go_sem,h39,h40,q0,q1,hlt]) rfl
    ·have h41:A0.tmps[41]?.getD undef=.pointer (some ⟨g,i * 6,none⟩):=hin 9 41
     refine .new rfl ?_
     exact .same (v:=.pointer (some ⟨g,i * 6+2,none⟩)) (by simp [go_sem,h41]) rfl
    ·have h42:A0.tmps[42]?.getD undef=.pointer (some ⟨g,i * 6+2,none⟩):=hin 10 42
     refine .new rfl ?_
     have hcx:W.cell? ⟨g,i * 6+2,none⟩=some (.slice (some a) nt c):=by
      have:=(DA.out.chg hJ.1 id) 2 _ rfl
      rwa [Addr.add_lit] at this
     exact .same (v:=.slice (some a) nt c) (by simp [go_sem,h42,hcx]) rfl
    ·have h43:A0.tmps[43]?.getD undef=.slice (some a) nt c:=hin 11 43
     refine .new rfl ?_
     have ha7:=HA7.out
     exact .same (by by_cases hc1:c=1 <;> simp [go_sem,h43,q2,hnc,hp,ha7,hc1]) rfl
    ·have h37:(fun u W=>Own W wd.heap.size 64 7 u [[.int .i64 2,.string ⟨#[]⟩,.int .i64 3,.int .i64 0,.string ⟨#[97]⟩,.slice none 0 0,.slice none 0 0]]:Value→World→Prop) (A0.tmps[37]?.getD undef) W:=hin 5 37
     have h44:A0.tmps[44]?.getD undef=.slice (some a7) (nt - 1) (c - 1):=hin 12 44
     obtain ⟨v1,W',hrun,hown,hchg,hblk⟩:=elTerm.appendS h37 hJ.1.size (some a7) (nt - 1) (c - 1) css.tail (by rw [List.length_tail,Hcl.out]) (fun cs hc=>DTk.out.1 cs (List.mem_of_mem_tail hc)) (fun cs hc=>DTk.out.2 cs (List.mem_of_mem_tail hc)) (rows_tail (DTr.out.chg hJ.1 id) HA7.out (by omega) (by rw [Hcl.out];exact hnc0)) (by simp only [zf,yj];omega) (by simp only [zf,yj];unfold maxLen;omega) 44
     refine GivesF.value _ (gj _ _ _ _ rfl (by simp [Act.eval]) (by simpa [Act.eval] using h44) hrun) hown hchg (fun g _ hg=>.inl ⟨5,37,by kernel_rfl,gd hg⟩) (fun g hg=>?_)
     rw [hown.fpv] at hg
     exact ⟨(hown.lt hg).2,(hblk g hg).elim (fun h=>.inl ⟨5,37,by kernel_rfl,gd h⟩) (fun h=>.inr (.inl h))⟩
   obtain ⟨x32,x33,x34,x35,x36,x37,x38,x39,x40,x41,x42,x43,x44,x45,rfl⟩:∃ x32 x33 x34 x35 x36 x37 x38 x39 x40 x41 x42 x43 x44 x45,l=[x32,x33,x34,x35,x36,x37,x38,x39,x40,x41,x42,x43,x44,x45]:=by
    match l,hl with
    | [x32,x33,x34,x35,x36,x37,x38,x39,x40,x41,x42,x43,x44,x45],_=>exact ⟨_,_,_,_,_,_,_,_,_,_,_,_,_,_,rfl⟩
   obtain rfl:x32=.pointer (some ⟨b6,2,none⟩):=hΦ 0 (by decide) (by decide)
   obtain rfl:x33=.slice (some ⟨g,0,none⟩) nr cr:=hΦ 1 (by decide) (by decide)
   obtain rfl:x34=.int .i64 i:=hΦ 2 (by decide) (by decide)
   obtain rfl:x35=.agg #[.int .i64 3,.int .i64 0,.string ⟨#[97]⟩,.slice none 0 0]:=hΦ 3 (by decide) (by decide)
   obtain rfl:x36=.agg #[.int .i64 2,.string ⟨#[]⟩,.int .i64 3,.int .i64 0,.string ⟨#[97]⟩,.slice none 0 0,.slice none 0 0]:=hΦ 4 (by decide) (by decide)
   obtain rfl:x38=.pointer (some ⟨b6,2,none⟩):=hΦ 6 (by decide) (by decide)
   obtain rfl:x39=.slice (some ⟨g,0,none⟩) nr cr:=hΦ 7 (by decide) (by decide)
   obtain rfl:x40=.int .i64 i:=hΦ 8 (by decide) (by decide)
   obtain rfl:x41=.pointer (some ⟨g,i * 6,none⟩):=hΦ 9 (by decide) (by decide)
   obtain rfl:x42=.pointer (some ⟨g,i * 6+2,none⟩):=hΦ 10 (by decide) (by decide)
   obtain rfl:x43=.slice (some a) nt c:=hΦ 11 (by decide) (by decide)
   obtain rfl:x44=.slice (some a7) (nt - 1) (c - 1):=hΦ 12 (by decide) (by decide)
   have hx45:(fun u W=>Own W wd.heap.size 64 7 u ([.int .i64 2,.string ⟨#[]⟩,.int .i64 3,.int .i64 0,.string ⟨#[97]⟩,.slice none 0 0,.slice none 0 0]::css.tail):Value→World→Prop) x45 W5:=hΦ 13 (by decide) (by decide)
   simp only [putsL,zq,zj,zz,List.zip,List.zipWith,Act.put,qk,qu,qy]
   clear hΦ hl
   have HW5:=qq (DN.out.trans hN qdr)
   have hcell:W5.cell? ⟨g,i * 6+2,none⟩=some (.slice (some a) nt c):=by
    have:=(DA.out.chg hN id) 2 _ rfl
    rwa [Addr.add_lit] at this
   have hfrz:=(DK.out.chg hN id).frozen (i * 6+2)
   obtain ⟨An,cn,hvn,hcn,-⟩:=hx45.form
   have hln:([.int .i64 2,.string ⟨#[]⟩,.int .i64 3,.int .i64 0,.string ⟨#[97]⟩,.slice none 0 0,.slice none 0 0]::css.tail).length=nt:=by
    rw [zf,List.length_tail,Hcl.out]
    omega
   rw [hln] at hvn hcn
   subst hvn
   have hpt:=HPut.out W5 An cn HW5.out (by
    obtain ⟨⟨o1,o2⟩,o3⟩:=hx45
    refine ⟨⟨o1,o2.imp id fun ⟨g',cap',cur',p1,p2,p3⟩=>⟨g',cap',cur',p1,qb DN.out.size p2,p3⟩⟩,o3⟩)
   have HPt:=qq hpt
   have HCn:=qq (HCp.out.set (i:=i) (x0:=.string lab) (x1:=.string r.h) (x3:=.string r.agg) (x4:=.int .i64 r.at') (x5:=.slice Ab nb cb) (A:=An) hcn)
   clear hap hN hx45 hpt hcn hln
   refine AtN.list 14 17 (by kernel_rfl) ?_
   change wpList _ _ _ [_,_,_] _ _
   go_wp2_with fail
   change AtN _ _ _ 17 _ _
   refine AtN.done rfl ?_
   go_wp2_with fail
   go_roundw
   case rel=>
    exact ⟨i+1,_,by omega,by go_num,HPt.out.1,HCn.out,HNr.out.trans HPt.out.2 (fun k _ e=>by have e:k=g:=e;rw [e];rfl)⟩
   case measure=>simp [intOf];omega
  ·obtain ⟨wo,hwo⟩:=qdq (wr)
   subst hwo
   have hro:=HRo.out
   rw [mkR_all (by rw [Hnr.out];omega)] at hro
   have HQa:=qq (show ∀ q∈rs.map (hdA ⟨#[97]⟩),ruP q∧ruRel q∧q.Ok∧HeadAt ⟨#[97]⟩ q from fun q hq=>by
    obtain ⟨r,hr,rfl⟩:=zi.1 hq
    exact hdA_ok (HRaw.out r hr) ⟨97,rfl,by decide,by decide⟩)
   have hql:(rs.map (hdA ⟨#[97]⟩)).length=nr:=by rw [qd,Hnr.out]
   obtain ⟨qs,hqs⟩:=qdp (rs.map (hdA ⟨#[97]⟩))
   rw [hqs] at hro HQa hql
   have HNo:=qq (show New w wo from (HN2.out.trans HN4.out qdr).trans HNr.out (fun k hk e=>by have:=(hob k e).1;have:=HdB.out.2;omega))
   have HBd:=qq (HBd.out.chg HNr.out (fun e=>by have:=(hob _ e).1;have:=HdB.out.1;omega))
   have HPg:=qq (show PgSl wo (.agg #[.slice (some ⟨d,0,none⟩) 6 6,.slice none 0 0,.slice Ar nr cr]) qs from ⟨d,Ar,none,cr,0,csi,[],[],by rw [hql];rfl,HBd.out,⟨hro.2.now.len,(hro.1.rows rfl).2,hro.2.now.at_⟩,by rw [hql];exact hl6,⟨rfl,fun h=>absurd h (by simp),fun j cs f h=>(by cases h)⟩,qr _,fun f h=>(by cases h)⟩)
   have HP0:=qq (show PgSl wo (.agg #[.slice (some ⟨d,0,none⟩) 6 6,.slice none 0 0,.slice none 0 0]) [] from ⟨d,none,none,0,0,[],[],[],rfl,HBd.out,⟨rfl,fun h=>absurd h (by simp),fun j cs r h=>(by cases h)⟩,qr _,⟨rfl,fun h=>absurd h (by simp),fun j cs f h=>(by cases h)⟩,qr _,fun f h=>(by cases h)⟩)
   clear hro hqs hob hcp
   go_upto_region 9 with (go_at_call 16;refine (rows12O _ _ _ _ (HX1.out.chg HNo.out) 10 (by omega)).mono ?_;rintro e w5 ⟨vx,x,rfl,hnx,hlx,hgx,hn5⟩;have HN5:=qq hn5;have HG:=qq hgx;have HX:=qq hnx;have HP2:=qq (HP1.out.chg hn5 id);have HV2:=qq (HV1.out.chg hn5 id);clear hnx hgx hn5)
   clear hlt e2
   obtain ⟨Ax,cx,rfl,-⟩:=(HX.out.sl2 (by omega)).form
   obtain ⟨nx,hnx⟩:=qdp (x.length)
   rw [hnx] at HX hlx⊢
   have Hnx:=qq hnx
   clear hnx
   go_wp2_with fail
   go_loopw [10] (fun u10 wr=>∃ i:Nat,i≤nx∧u10=.int .i64 i∧NxAt wo wr (.slice Ax nx cx) (mkR (rwA ⟨#[97]⟩) x i)∧New wo wr) (fun u _=>nx - (intOf u).toNat)
   case atStart=>exact ⟨0,qr _,rfl,HX.out,HN5.out⟩
   case round=>
    clear hi
    obtain ⟨i,hi,rfl,hxi,hN⟩:=hrel
    have HXi:=qq hxi
    have HNq:=qq hN
    have HP3:=qq (HP1.out.chg hN id)
    have HV3:=qq (HV1.out.chg hN id)
    clear hxi hN
    by_cases hlt:i < nx
    ·obtain ⟨r,hr⟩:∃ r,x[i]? =some r:=⟨_,qz (by rw [Hnx.out];exact hlt)⟩
     have hp:=(HG.out r (qf hr)).lo
     have hna3:=(HG.out r (qf hr)).hi
     obtain ⟨g,cap,a,c,hv,hat,hra,hab,hnc0,hcm,hl1,⟨cur,hbk⟩,hgl,hput⟩:=nx_row HXi.out (mkR_get hr) (by omega) ⟨#[97]⟩
     rw [mkR_len (by rw [Hnx.out];omega),Hnx.out] at hv
     injection hv with hv1 _ hv2
     subst hv1 hv2
     obtain ⟨na,hna⟩:=qdp (r.args.length)
     rw [mkR_set hr] at hput
     have htl:(rwA ⟨#[97]⟩ r).args.map vcs=[.int .i64 3,.int .i64 0,.string ⟨#[97]⟩,.slice none 0 0]::(r.args.map vcs).tail:=by
      show vcs (adV ⟨#[97]⟩)::r.args.tail.map vcs=_
      cases r.args <;> rfl
     rw [htl] at hput
     obtain ⟨css,hcss⟩:=qdp (r.args.map vcs)
     have hcl:css.length=na:=by rw [←hcss,qd,hna]
     have DTk:=qq (show (∀ cs∈css,cs.length=4)∧∀ cs∈css,∀ u∈cs,u.oneCell'=true from by
      rw [←hcss]
      refine ⟨fun cs hc=>?_,fun cs hc=>?_⟩
      ·obtain ⟨v,-,rfl⟩:=zi.1 hc
       exact vg v
      ·obtain ⟨v,-,rfl⟩:=zi.1 hc
       exact xw v)
     rw [hcss] at hput hra
     rw [hna] at hput hat hp hna3 hnc0
     obtain ⟨a7,ha7⟩:=qdq ((if c=1 then a else ⟨a.block,a.off+4,none⟩))
     have HA7:=qq ha7
     have HPut:=qq hput
     have Hcl:=qq hcl
     have Hat:=qq hat
     have Htr:=qq hra
     have HBk:=qq hbk
     have hnc:(na:Int)≤(c:Int):=by omega
     have q0:(0:Int)≤(i:Int):=by omega
     have q1:(i:Int) < (nx:Int):=by omega
     have q2:(1:Int)≤(na:Int):=by omega
     clear hr hat hra hab hbk hput htl hcss hcl ha7 hna
     go_upto_region 12 with fail
     refine vj (by kernel_rfl) ?_
     have hnd:New wr wr.drew:=(Chg.refl _ _).drew
     have DV:=qq (HV3.out.chg hnd id)
     have DA:=qq (Hat.out.chg hnd id)
     have DTr:=qq (Htr.out.chg hnd id)
     have DK:=qq (HBk.out.chg hnd id)
     have DN:=qq hnd
     clear hnd
     generalize wr.drew=wd at DV DA DTr DK DN⊢
     refine AtN.segF 0 11 0 [56,57,58,59,60,61,62,63,64,65,66] (fun _=>False) (fun
       |3=>true
       |10=>true
       |_=>false) (fun
       |3=>10
       |_=>999) (fun
       |0=>fun vv _=>vv=.slice (some ⟨g,0,none⟩) nx cx
       |1=>fun vv _=>vv=.int .i64 i
       |2=>fun vv _=>vv=.agg #[.int .i64 3,.int .i64 0,.string ⟨#[97]⟩,.slice none 0 0]
       |3=>fun u W=>Own W wd.heap.size 62 4 u [[.int .i64 3,.int .i64 0,.string ⟨#[97]⟩,.slice none 0 0]]
       |4=>fun vv _=>vv=.slice (some ⟨g,0,none⟩) nx cx
       |5=>fun vv _=>vv=.int .i64 i
       |6=>fun vv _=>vv=.pointer (some ⟨g,i * 3,none⟩)
       |7=>fun vv _=>vv=.pointer (some ⟨g,i * 3+1,none⟩)
       |8=>fun vv _=>vv=.slice (some a) na c
       |9=>fun vv _=>vv=.slice (some a7) (na - 1) (c - 1)
       |10=>fun u W=>Own W wd.heap.size 62 4 u ([.int .i64 3,.int .i64 0,.string ⟨#[97]⟩,.slice none 0 0]::css.tail)
       |_=>fun _ _=>True:Nat→Value→World→Prop) (by kernel_rfl) (by kernel_rfl) (by kernel_rfl) (by kernel_rfl) (by kernel_rfl) (fun g hg=>hg.elim) (fun k u W1 W2 T' h hc ht hT=>?_) (fun i hn hi o ho A0 W b hJ hμ hin hkp hcn=>?_) (fun l W5 hN hl hΦ hap=>?_)
     ·match k with
      |3=>exact h.chg hc (fun g hg=>ht rfl g (gd hg))
      |10=>exact h.chg hc (fun g hg=>ht rfl g (gd hg))
      |0|1|2|4|5|6|7|8|9=>exact h
      |_+11=>trivial
     ·rcases (show i=0∨i=1∨i=2∨i=3∨i=4∨i=5∨i=6∨i=7∨i=8∨i=9∨i=10 by omega) with rfl|rfl|rfl|rfl|rfl|rfl|rfl|rfl|rfl|rfl|rfl<;>cases ho
      ·refine .new rfl ?_
       exact .same (uo 9 (.slice (some ⟨g,0,none⟩) nx cx) rfl (hkp 9 (by kernel_rfl))) rfl
      ·refine .new rfl ?_
       exact .same (uo 10 (.int .i64 i) rfl (hkp 10 (by kernel_rfl))) rfl
      ·have h7:A0.tmps[7]?.getD undef=.pointer (some ⟨b7,0,none⟩):=hkp 7 (by kernel_rfl)
       refine .new rfl ?_
       exact .same (vu 7 _ rfl vz ⟨b7,0,none⟩ [.int .i64 3,.int .i64 0,.string ⟨#[97]⟩,.slice none 0 0] h7 rfl (DV.out.chg hJ.1 id).at_) rfl
      ·have h58:A0.tmps[58]?.getD undef=.agg #[.int .i64 3,.int .i64 0,.string ⟨#[97]⟩,.slice none 0 0]:=hin 2 58
       have hn1:New W (W.alloc (.cells #[.int .i64 3,.int .i64 0,.string ⟨#[97]⟩,.slice none 0 0] 62)):=(Chg.refl _ _).alloc _
       refine GivesF.make ?_
       exact .value (W':=W.alloc (.cells #[.int .i64 3,.int .i64 0,.string ⟨#[97]⟩,.slice none 0 0] 62)) (v:=.slice (some ⟨W.heap.size,0,none⟩) 1 1) (by simp [go_sem,h58]) ⟨hn1,own_one1 (Blk.new _ _ _) hJ.1.size rfl,fun g hg=>by cases hg;exact ⟨qh _,by simp⟩⟩
      ·refine .new rfl ?_
       exact .same (uo 9 (.slice (some ⟨g,0,none⟩) nx cx) rfl (hkp 9 (by kernel_rfl))) rfl
      ·refine .new rfl ?_
       exact .same (uo 10 (.int .i64 i) rfl (hkp 10 (by kernel_rfl))) rfl
      ·have h60:A0.tmps[60]?.getD undef=.slice (some ⟨g,0,none⟩) nx cx:=hin 4 60
       have h61:A0.tmps[61]?.getD undef=.int .i64 i:=hin 5 61
       refine .new rfl ?_
       exact .same (by simp [go_sem,h60,h61,q0,q1,hlt]) rfl
      ·have h62:A0.tmps[62]?.getD undef=.pointer (some ⟨g,i * 3,none⟩):=hin 6 62
       refine .new rfl ?_
       exact .same (v:=.pointer (some ⟨g,i * 3+1,none⟩)) (by simp [go_sem,h62]) rfl
      ·have h63:A0.tmps[63]?.getD undef=.pointer (some ⟨g,i * 3+1,none⟩):=hin 7 63
       refine .new rfl ?_
       have hcx:W.cell? ⟨g,i * 3+1,none⟩=some (.slice (some a) na c):=by
        have:=(DA.out.chg hJ.1 id) 1 _ rfl
        rwa [Addr.add_lit] at this
       exact .same (v:=.slice (some a) na c) (by simp [go_sem,h63,hcx]) rfl
      ·have h64:A0.tmps[64]?.getD undef=.slice (some a) na c:=hin 8 64
       refine .new rfl ?_
       have ha7:=HA7.out
       exact .same (by by_cases hc1:c=1 <;> simp [go_sem,h64,q2,hnc,hp,ha7,hc1]) rfl
      ·have h59:(fun u W=>Own W wd.heap.size 62 4 u [[.int .i64 3,.int .i64 0,.string ⟨#[97]⟩,.slice none 0 0]]:Value→World→Prop) (A0.tmps[59]?.getD undef) W:=hin 3 59
       have h65:A0.tmps[65]?.getD undef=.slice (some a7) (na - 1) (c - 1):=hin 9 65
       obtain ⟨v1,W',hrun,hown,hchg,hblk⟩:=fz.appendS h59 hJ.1.size (some a7) (na - 1) (c - 1) css.tail (by rw [List.length_tail,Hcl.out]) (fun cs hc=>DTk.out.1 cs (List.mem_of_mem_tail hc)) (fun cs hc=>DTk.out.2 cs (List.mem_of_mem_tail hc)) (rows_tail (DTr.out.chg hJ.1 id) HA7.out (by omega) (by rw [Hcl.out];exact hnc0)) (by simp only [zf,yj];omega) (by simp only [zf,yj];unfold maxLen;omega) 40
       refine GivesF.value _ (gj _ _ _ _ rfl (by simp [Act.eval]) (by simpa [Act.eval] using h65) hrun) hown hchg (fun g _ hg=>.inl ⟨3,59,by kernel_rfl,gd hg⟩) (fun g hg=>?_)
       rw [hown.fpv] at hg
       exact ⟨(hown.lt hg).2,(hblk g hg).elim (fun h=>.inl ⟨3,59,by kernel_rfl,gd h⟩) (fun h=>.inr (.inl h))⟩
     obtain ⟨x56,x57,x58,x59,x60,x61,x62,x63,x64,x65,x66,rfl⟩:∃ x56 x57 x58 x59 x60 x61 x62 x63 x64 x65 x66,l=[x56,x57,x58,x59,x60,x61,x62,x63,x64,x65,x66]:=by
      match l,hl with
      | [x56,x57,x58,x59,x60,x61,x62,x63,x64,x65,x66],_=>exact ⟨_,_,_,_,_,_,_,_,_,_,_,rfl⟩
     obtain rfl:x56=.slice (some ⟨g,0,none⟩) nx cx:=hΦ 0 (by decide) (by decide)
     obtain rfl:x57=.int .i64 i:=hΦ 1 (by decide) (by decide)
     obtain rfl:x58=.agg #[.int .i64 3,.int .i64 0,.string ⟨#[97]⟩,.slice none 0 0]:=hΦ 2 (by decide) (by decide)
     obtain rfl:x60=.slice (some ⟨g,0,none⟩) nx cx:=hΦ 4 (by decide) (by decide)
     obtain rfl:x61=.int .i64 i:=hΦ 5 (by decide) (by decide)
     obtain rfl:x62=.pointer (some ⟨g,i * 3,none⟩):=hΦ 6 (by decide) (by decide)
     obtain rfl:x63=.pointer (some ⟨g,i * 3+1,none⟩):=hΦ 7 (by decide) (by decide)
     obtain rfl:x64=.slice (some a) na c:=hΦ 8 (by decide) (by decide)
     obtain rfl:x65=.slice (some a7) (na - 1) (c - 1):=hΦ 9 (by decide) (by decide)
     have hx66:(fun u W=>Own W wd.heap.size 62 4 u ([.int .i64 3,.int .i64 0,.string ⟨#[97]⟩,.slice none 0 0]::css.tail):Value→World→Prop) x66 W5:=hΦ 10 (by decide) (by decide)
     simp only [putsL,zq,zj,zz,List.zip,List.zipWith,Act.put,qk,qu,qy]
     clear hΦ hl
     have HW5:=qq (DN.out.trans hN qdr)
     have hcell:W5.cell? ⟨g,i * 3+1,none⟩=some (.slice (some a) na c):=by
      have:=(DA.out.chg hN id) 1 _ rfl
      rwa [Addr.add_lit] at this
     have hfrz:=(DK.out.chg hN id).frozen (i * 3+1)
     obtain ⟨An,cn,hvn,hcn,-⟩:=hx66.form
     have hln:([.int .i64 3,.int .i64 0,.string ⟨#[97]⟩,.slice none 0 0]::css.tail).length=na:=by
      rw [zf,List.length_tail,Hcl.out]
      omega
     rw [hln] at hvn hcn
     subst hvn
     have hpt:=HPut.out W5 An cn HW5.out (by
      obtain ⟨⟨o1,o2⟩,o3⟩:=hx66
      refine ⟨⟨o1,o2.imp id fun ⟨g',cap',cur',p1,p2,p3⟩=>⟨g',cap',cur',p1,qb DN.out.size p2,p3⟩⟩,o3⟩)
     have HPt:=qq hpt
     clear hap hN hx66 hpt hcn hln
     refine AtN.list 11 14 (by kernel_rfl) ?_
     change wpList _ _ _ [_,_,_] _ _
     go_wp2_with fail
     change AtN _ _ _ 14 _ _
     refine AtN.done rfl ?_
     go_wp2_with fail
     go_roundw
     case rel=>exact ⟨i+1,by omega,by go_num,HPt.out.1,HPt.out.2 HNq.out⟩
     case measure=>simp [intOf];omega
    ·have hxi:=HXi.out
     rw [mkR_all (by rw [Hnx.out];omega)] at hxi
     have HSx:=qq (hxi.sl2 (by rw [qd,Hnx.out];omega))
     have HGy:=qq (show OkR (x.map (rwA ⟨#[97]⟩))∧StR (x.map (rwA ⟨#[97]⟩)) from ⟨fun q hq=>by
      obtain ⟨r,hr,rfl⟩:=zi.1 hq
      exact (rwA_ok (HG.out r hr) ⟨97,rfl,by decide,by decide⟩).1,fun q hq=>by
      obtain ⟨r,hr,rfl⟩:=zi.1 hq
      exact (rwA_ok (HG.out r hr) ⟨97,rfl,by decide,by decide⟩).2⟩)
     have HAy:=qq (show AllA ⟨#[97]⟩ (x.map (rwA ⟨#[97]⟩)) from fun q hq=>by
      obtain ⟨r,hr,rfl⟩:=zi.1 hq
      exact ⟨_,rfl⟩)
     obtain ⟨y,hy⟩:=qdp (x.map (rwA ⟨#[97]⟩))
     have hyl:y.length=nx:=by rw [←hy,qd,Hnx.out]
     rw [hy] at HSx HGy HAy
     have Hyl:=qq hyl
     have HBP:=HP3
     have e0:=HBP.out.cell 0
     simp only [qx,qj,qw] at e0
     have HN0:=qq (Chg.refl wr (fun _=>False))
     have HPq:=qq (HPg.out.chg HNq.out)
     have HPz:=qq (HP0.out.chg HNq.out)
     have hq1:∀ q∈qs,ruP q:=fun q hq=>(HQa.out q hq).1
     have hq2:∀ q∈qs,ruRel q:=fun q hq=>(HQa.out q hq).2.1
     have hq3:∀ q∈qs,q.Ok:=fun q hq=>(HQa.out q hq).2.2.1
     have HK1:=qq (fun W (hW:New wr W)=>show Calls Tryz.prog 17 #[.agg #[.slice (some ⟨d,0,none⟩) 6 6,.slice none 0 0,.slice Ar nr cr],.slice Ax nx cx,.int .i64 48] W (FixPost W qs 48 y) from rm W _ qs (HPq.out.chg hW) hq1 hq2 hq3 _ y (HSx.out.chg hW) HGy.out.1 HGy.out.2 48 (by omega))
     have HK2:=qq (fun W (hW:New wr W)=>show Calls Tryz.prog 27 #[.agg #[.slice (some ⟨d,0,none⟩) 6 6,.slice none 0 0,.slice Ar nr cr],.slice Ax nx cx,.string ⟨#[97]⟩,.int .i64 48] W (AtPost W qs ⟨#[97]⟩ 48 y) from at_is W _ qs (HPq.out.chg hW) hq1 hq2 hq3 _ y (HSx.out.chg hW) HGy.out.1 HGy.out.2 ⟨#[97]⟩ 48 (by omega))
     have HK3:=qq (fun W (hW:New wr W)=>show Calls Tryz.prog 17 #[.agg #[.slice (some ⟨d,0,none⟩) 6 6,.slice none 0 0,.slice none 0 0],.slice Ax nx cx,.int .i64 48] W (FixPost W [] 48 y) from rm W _ [] (HPz.out.chg hW) (fun r hr=>by cases hr) (fun r hr=>by cases hr) (fun r hr=>by cases hr) _ y (HSx.out.chg hW) HGy.out.1 HGy.out.2 48 (by omega))
     have HK4:=qq (fun W (hW:New wr W)=>show Calls Tryz.prog 27 #[.agg #[.slice (some ⟨d,0,none⟩) 6 6,.slice none 0 0,.slice none 0 0],.slice Ax nx cx,.string ⟨#[98]⟩,.int .i64 48] W (AtPost W [] ⟨#[98]⟩ 48 y) from at_is W _ [] (HPz.out.chg hW) (fun r hr=>by cases hr) (fun r hr=>by cases hr) (fun r hr=>by cases hr) _ y (HSx.out.chg hW) HGy.out.1 HGy.out.2 ⟨#[98]⟩ 48 (by omega))
     have HQ3:=qq (And.intro hq3 (fun q hq=>(HQa.out q hq).2.2.2:∀ q∈qs,HeadAt ⟨#[97]⟩ q))
     clear hxi hy hyl hq1 hq2 hq3
     go_upto_region 14 with first
      | ((with_reducible refine vq rfl (.tmp 6) 29 rfl xp ⟨b6,0,none⟩ [.slice (some ⟨d,0,none⟩) 6 6,.slice none 0 0,.slice Ar nr cr] ?_ rfl HBP.out.at_ ?_);exact rfl)
      | (go_at_call 17;(with_reducible refine (HK1.out _ HN0.out).mono ?_);rintro e w6 ⟨vl,ml,b1,rfl,hsl,hfx,hn5⟩;have HN6:=qq (HN0.out.trans hn5 qdr);have HSl:=qq hsl;have HF1:=qq hfx;have HBP:=qq (HBP.out.chg hn5 id);have e0:=HBP.out.cell 0;simp only [qx,qj,qw] at e0;clear hsl hfx hn5)
     obtain ⟨Al,cl,rfl,-⟩:=HSl.out.form
     obtain ⟨nl,hll⟩:=qdp ((ml.take 48).length)
     rw [hll] at HSl⊢
     clear hll
     go_upto_region 15 with first
      | ((with_reducible refine vq rfl (.tmp 6) 29 rfl xp ⟨b6,0,none⟩ [.slice (some ⟨d,0,none⟩) 6 6,.slice none 0 0,.slice Ar nr cr] ?_ rfl HBP.out.at_ ?_);exact rfl)
      | (go_at_call 27;(with_reducible refine (HK2.out _ HN6.out).mono ?_);rintro e w7 ⟨vh,vo,m2,b2,rfl,hfx,h1,h2,hn5⟩;have HN7:=qq (HN6.out.trans hn5 qdr);have N67:=qq hn5;have HSh:=qq h1;have HSo:=qq h2;have HF2:=qq hfx;have HBP:=qq (HBP.out.chg hn5 id);have e0:=HBP.out.cell 0;simp only [qx,qj,qw] at e0;clear hfx h1 h2 hn5)
     obtain ⟨rfl,rfl,hal⟩:=fix_place (by omega) HQ3.out.1 HQ3.out.2 HGy.out HAy.out HF1.out HF2.out
     have hml:b1=true→ml.length≤48:=fun e=>by
      subst e
      obtain ⟨-,-,h,-⟩:=pc HQ3.out.1 (by omega) HGy.out.1 HGy.out.2 HF1.out
      exact h
     have hh:(if b1=true then hereP ⟨#[97]⟩ ml else (hereP ⟨#[97]⟩ ml).take 48)=ml.take 48:=by
      rw [hal.here]
      split
      ·rename_i e
       rw [qc (hml e)]
      ·rfl
     have hoo:(if b1=true then othersP ⟨#[97]⟩ ml else [])=[]:=by
      rw [hal.others]
      split <;> rfl
     rw [hh] at HSh
     rw [hoo] at HSo
     obtain ⟨Ao,co,hvo,-⟩:=HSo.out.form
     rw [yj] at hvo
     subst hvo
     obtain ⟨Ah,ch,hvh,-⟩:=HSh.out.form
     obtain ⟨nh,hnh⟩:=qdp ((ml.take 48).length)
     rw [hnh] at hvh
     subst hvh
     clear hal hml hh hoo hnh HF2
     go_upto_region 16 with (go_at_call 17;(with_reducible refine (HK3.out _ HN7.out).mono ?_);rintro e w8 ⟨ve,m3,b3,rfl,hsl,hfx,hn5⟩;have HN8:=qq (HN7.out.trans hn5 qdr);have N78:=qq hn5;have HSe:=qq hsl;have HF3:=qq hfx;have HBP:=qq (HBP.out.chg hn5 id);have e0:=HBP.out.cell 0;simp only [qx,qj,qw] at e0;clear hsl hfx hn5)
     obtain ⟨rfl,rfl⟩:=fix_nil HGy.out (by rw [Hyl.out];omega) HF3.out
     rw [qc (qb (kx y) (by rw [Hyl.out];omega))] at HSe
     obtain ⟨Ae,ce,rfl,-⟩:=HSe.out.form
     obtain ⟨ne,hne⟩:=qdp ((mergeF y).length)
     rw [hne] at HSe⊢
     clear hne HF3
     go_upto_region 17 with (go_at_call 27;(with_reducible refine (HK4.out _ HN8.out).mono ?_);rintro e w9 ⟨vf,vg,m4,b4,rfl,hfx,h1,h2,hn5⟩;have HN9:=qq (HN8.out.trans hn5 qdr);have N89:=qq hn5;have HSf:=qq h1;have HSg:=qq h2;have HF4:=qq hfx;have HBP:=qq (HBP.out.chg hn5 id);have e0:=HBP.out.cell 0;simp only [qx,qj,qw] at e0;clear hfx h1 h2 hn5)
     obtain ⟨rfl,rfl⟩:=fix_nil HGy.out (by rw [Hyl.out];omega) HF4.out
     have hnw:=HAy.out.merge.nowhere (plc':=⟨#[98]⟩) (by decide)
     rw [if_pos rfl,hnw.1] at HSf
     rw [if_pos rfl,hnw.2] at HSg
     obtain ⟨Af,cf,hvf,-⟩:=HSf.out.form
     rw [yj] at hvf
     subst hvf
     obtain ⟨Ag,cg,rfl,-⟩:=HSg.out.form
     obtain ⟨ng,hng⟩:=qdp ((mergeF y).length)
     rw [hng] at HSg⊢
     have HSl:=qq (((HSl.out.chg N67.out).chg N78.out).chg N89.out)
     have HSh:=qq ((HSh.out.chg N78.out).chg N89.out)
     have HSe:=qq (HSe.out.chg N89.out)
     have HM1:=qq (fun W (hW:New w9 W)=>ez W _ _ _ (HSl.out.chg hW) (HSh.out.chg hW))
     have HM2:=qq (fun W (hW:New w9 W)=>db W _ y ((HSx.out.chg HN9.out).chg hW))
     have HM3:=qq (fun W (hW:New w9 W) u (hu:RowSl W u (mergeF y))=>ez W _ _ _ (HSe.out.chg hW) hu)
     have HM4:=qq (fun W (hW:New w9 W)=>ez W _ _ _ (HSg.out.chg hW) (HSe.out.chg hW))
     have HZ0:=qq (Chg.refl w9 (fun _=>False))
     have hbb:(b1 == b1)=true:=by simp
     clear hng hnw HF4 e0
     go_wp2_with first
      | (go_at_call 21;(with_reducible refine (HM1.out _ HZ0.out).mono ?_);rintro e wa ⟨rfl,hna⟩;have HZ1:=qq hna;clear hna)
      | (go_at_call 22;(with_reducible refine (HM2.out _ HZ1.out).mono ?_);rintro e wb ⟨vb,out,rfl,hmb,hsb,hnb⟩;obtain rfl:=ge HGy.out.1.can hmb;have HSb:=qq hsb;have HZ2:=qq (HZ1.out.trans hnb qdr);clear hmb hsb hnb)
      | (go_at_call 21;(with_reducible refine (HM3.out _ HZ2.out _ HSb.out).mono ?_);rintro e wc ⟨rfl,hnc⟩;have HZ3:=qq (HZ2.out.trans hnc qdr);clear hnc)
      | (go_at_call 21;(with_reducible refine (HM4.out _ HZ3.out).mono ?_);rintro e wd ⟨rfl,hnd⟩;have HZ4:=qq (HZ3.out.trans hnd qdr);clear hnd)
     go_ret
     exact ⟨rfl,(HNo.out.trans HNq.out qdr).trans (HN9.out.trans HZ4.out qdr) qdr⟩
end Go.Proofs.YtbpgfnbhihklnaaGreat
namespace Go.Proofs.YtbpgfnbhihklnaaGreat.FixPlaces
open Go.ChangeShapes Go.WideShapes Go.ChangeAt Go.RowKit
def own:ownKnob Tryz.prog.godebug=none:=by kernel_rfl
def laid:laidOutB Tryz.prog=true:=by kernel_rfl
def fm (os:Os) (started:os.Started) (H:Type) (enc:TypeId×Value→H):
  ReturnsInHanded {} Tryz.checked os 10 .any (Rows.fixPlacesSpec.pre6 enc Tryz.prog Tryz.f10 Rows.fixPlacesRow.domain false) (Rows.fixPlacesSpec.post enc Tryz.prog Tryz.f10 false true false false):=by
 refine returnsInHanded_of_change (C:=Tryz.checked) own started (by kernel_rfl) Tryz.func10
  (ChangeSpec.witness6 (enc:=enc) (C:=Tryz.checked) false ⟨#[],#[.slice none 0 0,.slice none 0 0],[]⟩ 8 (by kernel_rfl) (by kernel_rfl) (by kernel_rfl) (by kernel_rfl)) ?_
 intro W base args ds gs before hval0 hW hcnd _
 have hval:∀ (j:Nat) t v,Tryz.f10.params[j]? =some t→args[j]? =some v→Value.okWide Tryz.prog W .any base t v:=hval0
 have hW':=hW
 obtain ⟨p,q,hA0,hV,rfl,hfz,hnd⟩:=hW
 have hA:DataW.TrodAll enc Tryz.prog W 0 (fun _=>true) true Tryz.f10.params.toList args.toList ds p:=hA0
 rw [Tryz.params10] at hA hval
 obtain ⟨v0,vs0,d0,ds0,p0,q0,hargs,rfl,rfl,h0,r0⟩:=trodAll_cons hA
 obtain ⟨v1,vs1,d1,ds1,p1,q1,rfl,rfl,rfl,h1,r1⟩:=trodAll_cons r0
 obtain ⟨rfl,rfl,rfl⟩:=trodAll_nil r1
 obtain rfl:args=#[v0,v1]:=by cases args;simp_all
 obtain ⟨rfl,rfl⟩:=trodVars_none hV
 obtain ⟨n0,hx0⟩:=ks Tryz.underlying22 (by kernel_rfl) Tryz.underlying23 (by kernel_rfl) (hval 0 22 v0 rfl rfl) h0 (gw Tryz.underlying75 Tryz.underlying3 Tryz.underlying3 ⟨rfl,rfl,rfl⟩ ⟨by kernel_rfl,by kernel_rfl,by kernel_rfl⟩ (xi (C:=4) Tryz.underlying73 Tryz.underlying3 (by kernel_rfl)))
 obtain ⟨n1,X1,hx1⟩:=kh Tryz.underlying23 (by kernel_rfl) (by decide) (hval 1 23 v1 rfl rfl) h1 (gw Tryz.underlying75 Tryz.underlying3 Tryz.underlying3 ⟨rfl,rfl,rfl⟩ ⟨by kernel_rfl,by kernel_rfl,by kernel_rfl⟩ (xi (C:=4) Tryz.underlying73 Tryz.underlying3 (by kernel_rfl)))
 refine (walk_FixPlaces W v0 n0 hx0 v1 n1 X1 hx1).mono fun e W' ⟨he,hg⟩=>?_
 subst he
 exact ⟨_,rfl,mw laid rfl hW' (by kernel_rfl) hg (tb:=4) rfl Tryz.underlying4 ⟨rfl,rfl,rfl⟩⟩
def over:Rows.fixPlacesRow.holds Tryz.pinned (OpenSpec.ofChange Rows.fixPlacesSpec):=
 OpenClaim.holds_of_wide 10 Tryz.f10 rfl rfl rfl rfl rfl rfl rfl ⟨rfl,rfl,rfl,rfl,rfl⟩ rfl rfl rfl rfl rfl (by kernel_rfl) Tryz.func10 (by kernel_rfl)
  (of_decide_eq_true (by kernel_rfl)) (by unfold Func.isWrapper;first| (rw [if_pos (by decide+kernel)];kernel_rfl)| (rw [if_neg (by decide+kernel)];exact ⟨rfl,rfl⟩))
  (fun os started H enc _=>fm os started H enc)
theorem proved:Rows.FixPlacesSaid:=
 over
#print axioms proved
end Go.Proofs.YtbpgfnbhihklnaaGreat.FixPlaces
