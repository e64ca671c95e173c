/- Part 12 of what stands beneath. -/
import Derived.Test.YtbpgfnbhihklnaaGreatJ11
set_option maxHeartbeats 8000000
set_option maxRecDepth 100000
set_option linter.all false
namespace Go.Proofs.YtbpgfnbhihklnaaGreat
open Go.RowKit Go.Shelf
def RowsCs.take {w:World} {css:List (List Value)} {rs:List Rw} (h:RowsCs w css rs) (q:Nat):RowsCs w (css.take q) (rs.take q):=⟨by rw [ql,ql,h.1],fun i cs hi=>by
 rw [yq] at hi
 split at hi
 ·rename_i hlt
  obtain ⟨r,h1,h2⟩:=h.2 i cs hi
  exact ⟨r,by rw [yq,if_pos hlt];exact h1,h2⟩
 ·cases hi⟩
def RowSlC.take {W:World} {A:Option Addr} {n c:Nat} {css:List (List Value)} {rs:List Rw} (h:RowSlC W (.slice A n c) css rs) {q:Nat} (hq:q≤n):RowSlC W (.slice A q c) (css.take q) (rs.take q):=by
 obtain ⟨A',c',e,h2,h3,h4,h5,h6,h7⟩:=h
 simp only [Value.slice.injEq] at e
 obtain ⟨rfl,e2,rfl⟩:=e
 have hl:(rs.take q).length=q:=by rw [ql];omega
 exact ⟨A,c,by rw [hl],by omega,by omega,h4,h5.take q,h6.take q,h7⟩
def FixesI (rs:List Ru) (rd:List Rw→List Rw) (most:Nat) (base:List Rw) (m:List Rw) (b:Bool):Option (List Nat)→Prop
 |none=>m=[]∧b=false
 |some s=>Rnds rs s rd most 0 (topN s) (mergeF base) m b
def Fixes (rs:List Ru) (rd:List Rw→List Rw) (most:Nat) (base:List Rw) (m:List Rw) (b:Bool):Prop:=FixesI rs rd most base m b (strV rs)
def FixPost (w:World) (rs:List Ru) (most:Nat) (base:List Rw) (e:Ending) (w':World):Prop:=∃ v m b,e=.returned (.tuple #[v,.bool b])∧RowSl w' v (m.take most)∧Fixes rs id most base m b∧New w w'
def fix_id (w:World) (v:Value) (l:List Rw) (h:RowSl w v l):Calls Tryz.prog 40 (#[v]++#[]) w fun e w'=>∃ v',e=.returned v'∧RowSl w' v' (id l)∧New w w':=by
 have H:=qq h
 clear h
 go_enter Tryz.func40,Tryz.ntmps40
 go_wp2_with fail
 go_ret
 exact ⟨v,rfl,H.out,Chg.refl _ _⟩
def RowSl.takes {w:World} {A:Option Addr} {n c:Nat} {l:List Rw} (h:RowSl w (.slice A n c) l) (q:Nat) (hq:q≤n):RowSl w (.slice A q c) (l.take q):=by
 obtain ⟨css,h⟩:=h.cells
 exact (h.take hq).sl
def rm (w:World) (vp:Value) (rs:List Ru) (hv:PgSl w vp rs) (hp:∀ r∈rs,ruP r) (hrel:∀ r∈rs,ruRel r) (hok:∀ r∈rs,r.Ok) (vl:Value) (base:List Rw) (hl:RowSl w vl base) (ho:OkR base) (hs:StR base) (most:Nat) (hm:most≤48):
  Calls Tryz.prog 17 #[vp,vl,.int .i64 most] w (FixPost w rs most base):=by
 obtain ⟨st,hst⟩:=qdp (strV rs)
 have HSt:=qq (fun W (hW:New w W)=>by
  have:=fx W vp rs (hv.chg hW) hp hrel
  rw [hst] at this
  exact this)
 have eg:=enters_of Tryz.func40 (by kernel_rfl) rfl
 have HRn:=qq (fun s (h:strV rs=some s) W (hW:New w W) u (hu:RowSl W u (mergeF base))=>qca W vp rs (hv.chg hW) hp hrel hok s h u _ hu (gq ho hs) most hm 40 #[] eg id (fun W2 _ v l h=>fix_id W2 v l h) (fun l=>List.Sublist.refl l))
 have HCan:=qq ho.can
 have HL:=qq hl
 have Hst:=qq hst
 unfold Enters at eg
 obtain ⟨d,Ar,Af,cr,cf,css,csf,fs,rfl,-⟩:=hv
 obtain ⟨n,hn⟩:=qdp (rs.length)
 obtain ⟨m,hmf⟩:=qdp (fs.length)
 rw [hn,hmf] at HSt HRn⊢
 clear hn hmf hp hrel hok hl ho hs hst
 obtain ⟨w1,hw1⟩:=qdq (w.alloc (.cells #[.slice (some ⟨d,0,none⟩) 6 6,.slice Af m cf,.slice Ar n cr] 29))
 have HN1:=qq (show New w w1 by rw [hw1];exact (Chg.refl _ _).alloc _)
 have HB1:=qq (show Blk w1 w.heap.size 29 #[.slice (some ⟨d,0,none⟩) 6 6,.slice Af m cf,.slice Ar n cr] by rw [hw1];exact Blk.new w _ _)
 have HW1:=qq hw1
 clear hw1
 cases st with
 |none=>
  go_enter Tryz.func17,Tryz.ntmps17
  go_upto_region 1 with fail
  rw [←HW1.out]
  clear HW1
  go_upto_region 2 with first
   | ((with_reducible refine vq rfl (.tmp 3) 29 rfl xp ⟨w.heap.size,0,none⟩ [.slice (some ⟨d,0,none⟩) 6 6,.slice Af m cf,.slice Ar n cr] ?_ rfl HB1.out.at_ ?_);exact rfl)
   | (go_at_call 18;refine (HSt.out _ HN1.out).mono ?_;rintro e w2 ⟨⟨k,hk,rfl⟩,hn2⟩;have HN2:=qq (HN1.out.trans hn2 qdr);have hkb:(k != 0)=true:=(by simpa using hk);clear hn2)
  go_wp2_with fail
  go_ret2
  exact ⟨.slice none 0 0,[],false,rfl,by rw [List.take_nil];exact RowSl.nil _,by unfold Fixes;rw [Hst.out];exact ⟨rfl,rfl⟩,HN2.out⟩
 |some s=>
  have HRs:=qq (HRn.out s Hst.out)
  clear HRn
  go_enter Tryz.func17,Tryz.ntmps17
  go_upto_region 1 with fail
  rw [←HW1.out]
  clear HW1
  have h0:¬ ((most:Int) < 0):=by omega
  go_upto_region 5 with first
   | ((with_reducible refine vq rfl (.tmp 3) 29 rfl xp ⟨w.heap.size,0,none⟩ [.slice (some ⟨d,0,none⟩) 6 6,.slice Af m cf,.slice Ar n cr] ?_ rfl HB1.out.at_ ?_);exact rfl)
   | (go_at_call 18;refine (HSt.out _ HN1.out).mono ?_;rintro e w2 ⟨bs,rfl,hb2,hbl,hn2⟩;have HN2:=qq (HN1.out.trans hn2 qdr);have HB2:=qq (HB1.out.chg hn2 id);clear hn2 hb2 hbl)
  refine vj (by kernel_rfl) ?_
  have hnd:New w2 w2.drew:=(Chg.refl _ _).drew
  have D1:=qq (HB2.out.chg hnd id)
  have DN:=qq (HN2.out.trans hnd qdr)
  have DL:=qq ((HL.out.chg HN2.out).chg hnd)
  clear hnd
  generalize w2.drew=wd at D1 DN DL⊢
  have eg1:∀ (args:Array Value) (w:World),(callFunc 22 args).run Tryz.prog w=.ok (.enter 22 args) w:=enters_of Tryz.func22 (by kernel_rfl) rfl
  have eg2:∀ (args:Array Value) (w:World),(callFunc 39 args).run Tryz.prog w=.ok (.enter 39 args) w:=enters_of Tryz.func39 (by kernel_rfl) rfl
  refine AtN.segN2 0 5 [22,23,24,25,26] (fun
   |0=>fun vv _=>vv=.agg #[.slice (some ⟨d,0,none⟩) 6 6,.slice Af m cf,.slice Ar n cr]
   |1=>fun vv _=>vv=vl
   |2=>fun vv W=>RowSl W vv (mergeF base)
   |3=>fun vv _=>vv=.int .i64 most
   |4=>fun vv W=>∃ v m b,vv=.tuple #[v,.bool b]∧RowSl W v m∧Rnds rs s id most 0 (topN s) (mergeF base) m b
   |_=>fun _ _=>True) (by kernel_rfl) (by kernel_rfl) (by kernel_rfl) (by kernel_rfl) (fun j v w1 w2 hc h=>?_) (fun i hn hi o ho A0 W hN hin hk=>?_) (fun l W5 hN hl hΦ=>?_)
  ·match j with
   |2=>exact h.chg hc
   |4=>exact (by obtain ⟨v,m,b,h1,h2,h3⟩:=h;exact ⟨v,m,b,h1,h2.chg hc,h3⟩)
   |0|1|3=>exact h
   |_+5=>trivial
  ·rcases (show i=0∨i=1∨i=2∨i=3∨i=4 by omega) with rfl|rfl|rfl|rfl|rfl<;>cases ho
   ·have h3:A0.tmps[3]?.getD undef=.pointer (some ⟨w.heap.size,0,none⟩):=hk 3
    exact .same (vu 3 _ rfl xp ⟨w.heap.size,0,none⟩ [.slice (some ⟨d,0,none⟩) 6 6,.slice Af m cf,.slice Ar n cr] h3 rfl (D1.out.chg hN id).at_) rfl
   ·exact .same (uo 1 _ rfl (hk 1)) rfl
   ·have h23:A0.tmps[23]?.getD undef=vl:=hin 1 23
    refine .call (f:=22) (args:=#[vl]) (W':=W) ?_ ((db W vl base (DL.out.chg hN)).mono ?_)
    ·simp [go_sem,h23,eg1]
    ·rintro e w' ⟨v',out,rfl,hm',hs',hc⟩
     obtain rfl:=ge HCan.out hm'
     exact ⟨_,rfl,hc,hs'⟩
   ·exact .same (uo 2 _ rfl (hk 2)) rfl
   ·have h22:A0.tmps[22]?.getD undef=.agg #[.slice (some ⟨d,0,none⟩) 6 6,.slice Af m cf,.slice Ar n cr]:=hin 0 22
    have h24:=hin 2 24
    have h25:A0.tmps[25]?.getD undef=.int .i64 most:=hin 3 25
    obtain ⟨x24,hx24⟩:=qdp (A0.tmps[24]?.getD undef)
    rw [hx24] at h24
    refine .call (f:=39) (args:=#[.agg #[.slice (some ⟨d,0,none⟩) 6 6,.slice Af m cf,.slice Ar n cr],x24,.int .i64 most,.func (.func 40) #[] #[]]) (W':=W) ?_ ((HRs.out W (DN.out.trans hN qdr) x24 h24).mono ?_)
    ·simp [go_sem,h22,hx24,h25,eg2]
    ·rintro e w' ⟨v',m',b',rfl,hs',hr',hc⟩
     exact ⟨_,rfl,hc,v',m',b',rfl,hs',hr'⟩
  obtain ⟨x22,x23,x24,x25,x26,rfl⟩:∃ x22 x23 x24 x25 x26,l=[x22,x23,x24,x25,x26]:=by
   match l,hl with
   | [x22,x23,x24,x25,x26],_=>exact ⟨_,_,_,_,_,rfl⟩
  obtain rfl:x22=.agg #[.slice (some ⟨d,0,none⟩) 6 6,.slice Af m cf,.slice Ar n cr]:=hΦ 0 (by decide)
  obtain rfl:x23=vl:=hΦ 1 (by decide)
  have hx24:=hΦ 2 (by decide)
  obtain rfl:x25=.int .i64 most:=hΦ 3 (by decide)
  have hx26:=hΦ 4 (by decide)
  simp only [putsL,zq,zj,zz,List.zip,List.zipWith,Act.put,qk,qu,qy]
  clear hΦ hl
  obtain ⟨v,ml,b,rfl,hsl,hrn⟩:=hx26
  have HSl:=qq hsl
  have HRr:=qq hrn
  have EN:=qq (DN.out.trans hN qdr)
  clear hsl hrn hN hx24
  obtain ⟨A,c,rfl,hlm⟩:=HSl.out.form
  obtain ⟨nl,hnl⟩:=qdp (ml.length)
  rw [hnl] at HSl hlm⊢
  have Hnl:=qq hnl
  have hnc:(nl:Int)≤(c:Int):=by
   obtain ⟨A',c',css',h1,-,h2,-⟩:=HSl.out
   injection h1 with h1 h3 h4
   subst h4
   omega
  clear hnl
  refine AtN.segQ2 5 10 (fun
   |5=>.tuple #[.slice A nl c,.bool b]
   |6=>.slice A nl c
   |7=>.bool b
   |8=>.slice A nl c
   |_=>.bool b)
   [(21,.tuple #[.slice A nl c,.bool b]),(27,.slice A nl c),(28,.bool b),(10,.slice A nl c),(11,.bool b)] (by kernel_rfl) (by kernel_rfl) (by kernel_rfl) (by kernel_rfl) rfl (fun i hn hi o ho A0 hin hk=>?_) ?_
  ·rcases (show i=5∨i=6∨i=7∨i=8∨i=9 by omega) with rfl|rfl|rfl|rfl|rfl<;>cases ho
   ·exact uo 26 _ rfl (hk 26)
   ·have h21:A0.tmps[21]?.getD undef=.tuple #[.slice A nl c,.bool b]:=hin 5 21
    exact by simp [go_sem,h21]
   ·have h21:A0.tmps[21]?.getD undef=.tuple #[.slice A nl c,.bool b]:=hin 5 21
    exact by simp [go_sem,h21]
   ·have h27:A0.tmps[27]?.getD undef=.slice A nl c:=hin 6 27
    exact by simp [go_sem,h27]
   ·have h28:A0.tmps[28]?.getD undef=.bool b:=hin 7 28
    exact by simp [go_sem,h28]
  simp only [putsL,Act.put,qk,qu,qy]
  refine AtN.done rfl ?_
  by_cases hle:nl≤most
  ·have q1:¬ ((most:Int) < (nl:Int)):=by omega
   have HF:=qq (show RowSl W5 (.slice A nl c) (ml.take most) by
    rw [qc (by rw [Hnl.out];exact hle)]
    exact HSl.out)
   go_wp2_with fail
   go_ret2
   exact ⟨.slice A nl c,ml,b,rfl,HF.out,by unfold Fixes;rw [Hst.out];exact HRr.out,EN.out⟩
  ·have q1:(most:Int) < (nl:Int):=by omega
   have q2:(0:Int)≤(most:Int):=by omega
   have q3:(most:Int)≤(c:Int):=by omega
   have HF:=qq (HSl.out.takes most (by omega))
   go_wp2_with fail
   go_ret2
   exact ⟨.slice A most c,ml,b,rfl,HF.out,by unfold Fixes;rw [Hst.out];exact HRr.out,EN.out⟩
def IntsAts (W:World) (v:Value) (n:Nat):Prop:=∃ A c,v=.slice A n c∧n≤c∧c≤maxLen∧(0 < n→∃ a,A=some a∧∀ q,q < n→∃ u m X,W.cell? (a.add q)=some u∧IntsAt W u 6 m X)
def IntsAts.chg {W W':World} {v:Value} {n:Nat} (h:IntsAts W v n) (hc:New W W'):IntsAts W' v n:=by
 obtain ⟨A,c,h1,h2,h3,h4⟩:=h
 refine ⟨A,c,h1,h2,h3,fun hp=>?_⟩
 obtain ⟨a,ha,hq⟩:=h4 hp
 refine ⟨a,ha,fun q hq'=>?_⟩
 obtain ⟨u,m,X,h5,h6⟩:=hq q hq'
 exact ⟨u,m,X,hc.cellS h5 id,h6.chg hc⟩
structure RuL (w:World) (css:List (List Value)) (rs:List Ru):Prop where
 len:css.length=rs.length
 at_:∀ (j:Nat) (cs:List Value) (r:Ru),css[j]? =some cs→rs[j]? =some r→RuSl w (.agg cs.toArray) r
def RuL.snoc {w:World} {css:List (List Value)} {ts:List Ru} {cs:List Value} {t:Ru} (h:RuL w css ts) (ht:RuSl w (.agg cs.toArray) t):RuL w (css++[cs]) (ts++[t]):=by
 refine ⟨by simp [h.len],fun j c u h1 h2=>?_⟩
 rcases Nat.lt_trichotomy j css.length with hj|hj|hj
 ·rw [qe hj] at h1
  rw [qe (by rw [←h.len];exact hj)] at h2
  exact h.at_ j c u h1 h2
 ·subst hj
  rw [qi (qh _)] at h1
  rw [h.len,qi (qh _)] at h2
  simp at h1 h2
  rw [←h1, ←h2]
  exact ht
 ·rw [jm (by simp;omega)] at h1
  cases h1
def RuL.grow {wr W W':World} {B:Nat} {v v':Value} {css:List (List Value)} {ts:List Ru} {cs:List Value} {t:Ru} (hB:B≤wr.heap.size) (hv:∀ k,v.ownBlock=some k→k < wr.heap.size)
  (h:Stays wr (fun k=>k < B∨v.ownBlock=some k) (fun W=>RuL W css ts)) (hW:New wr W) (ht:Stays W (fun k=>k < wr.heap.size) (fun W=>RuSl W (.agg cs.toArray) t))
  (hc:Chg W W' (fun k=>v.ownBlock=some k)) (ho:∀ k,v'.ownBlock=some k→v.ownBlock=some k∨W.heap.size≤k):
  Stays W' (fun k=>k < B∨v'.ownBlock=some k) (fun W=>RuL W (css++[cs]) (ts++[t])):=by
 intro W2 h2
 have hWz:=hW.size
 have hc1:Chg W W2 (fun k=>k < B∨v.ownBlock=some k):=(hc.mono (fun k _ hk=>.inr hk)).trans h2 (fun k hk e=>e.imp id (fun e=>(ho k e).elim id (fun h=>absurd hk (Nat.not_lt.2 h))))
 have h1:RuL W2 css ts:=h W2 ((hW.mono (fun _ _ x=>x.elim)).trans hc1 (fun k _ e=>e))
 exact h1.snoc (ht W2 (hc1.mono (fun k _ e=>e.elim (fun e=>by omega) (fun e=>hv k e))))
end Go.Proofs.YtbpgfnbhihklnaaGreat
namespace Go.Proofs.YtbpgfnbhihklnaaGreat
open Go.ChangeShapes Go.WideShapes Go.ChangeAt Go.RowKit Go.Deep
section
variable {H:Type} {enc:TypeId×Value→H} {P:Program} {w:World} {base:Nat} {spare:Nat→Bool} {held:Bool}
def oz {t e:TypeId} {C fuel:Nat} {cs:List Value} {x:DataW H×List MemPlace} (ht:P.underlying t=some (.slice e)) (hC:P.cellsOf e=C) (hp:0 < C) (hf:DataW.trod enc P w base spare held fuel t cs=some x) (hE:AllInts H enc P w base spare held e C):
  ∃ v n X,cs=[v]∧IntsAt w v C n X:=by
 rcases open_slice ht hf with ⟨hcs,hx⟩| ⟨a,len,cap,m,n,D,Pl,hcs,hb,hl,hm,hmm,hx,hi⟩
 ·exact ⟨_,0,fun _=>0,hcs,⟨none,0,rfl,qh _,by unfold maxLen;omega,fun h=>absurd h (by omega)⟩,fun _=>by dsimp only;omega⟩
 ·have hlm:len≤m:=by rw [hmm];split <;> omega
  have hcell:∀ q,q < len * C→∃ x:Int,w.cell? (a.add q)=some (.int .i64 x)∧-9223372036854775808≤x∧x≤9223372036854775807:=by
   intro q hq
   have hqi:q / C < len:=by rw [Nat.div_lt_iff_lt_mul hp];exact hq
   have hqj:q % C < C:=Nat.mod_lt _ hp
   obtain ⟨cs',hc,ht'⟩:=hi (q / C) (by omega)
   rw [hC] at hc
   obtain ⟨_,hcl,hat⟩:=World.cells?_some hc
   obtain ⟨x,hx1,hx2⟩:=hE n cs' _ hcl ht' (q % C) hqj
   refine ⟨x,?_,hx2⟩
   have h2:=hat (q % C) hqj
   rw [hx1,Go.Deep.add_add,show q / C * C+q % C=q by rw [jf];exact un q C] at h2
   exact h2
  refine ⟨_,len,fun q=>if h:q < len * C then Classical.choose (hcell q h) else 0,hcs,⟨some a,cap,rfl,hl,hm,fun _=>⟨a,rfl,fun q hq=>?_⟩⟩,fun q=>?_⟩
  ·simp only [dif_pos hq]
   exact (ye (hcell q hq)).1
  ·by_cases hq:q < len * C
   ·simp only [dif_pos hq]
    exact (ye (hcell q hq)).2
   ·simp only [dif_neg hq]
    omega
def ks {r:Reach} {b0:Nat} {t e f:TypeId} {v:Value} {d:DataW H} {p:List MemPlace} (ht:P.underlying t=some (.slice e)) (h1:P.cellsOf e=1) (he:P.underlying e=some (.slice f)) (hC:P.cellsOf f=6) (hv:Value.okWide P w r b0 t v) (h:DataW.Trod enc P w base spare held t v d p) (hE:AllInts H enc P w base spare held f 6):
  ∃ n,IntsAts w v n:=by
 obtain ⟨a0,len0,cap0,rfl⟩:=okWide_slice ht hv
 obtain ⟨fuel,hf⟩:=h
 rcases open_slice ht hf with ⟨hcs,hx⟩| ⟨a,len,cap,m,n,D,Pl,hcs,hb,hl,hm,hmm,hx,hi⟩
 ·simp only [Value.cells,List.cons.injEq,and_true] at hcs
  rw [hcs]
  exact ⟨0,none,0,rfl,qh _,by unfold maxLen;omega,fun h=>absurd h (by omega)⟩
 ·simp only [Value.cells,List.cons.injEq,and_true] at hcs
  rw [hcs]
  have hlm:len≤m:=by rw [hmm];split <;> omega
  refine ⟨len,some a,cap,rfl,hl,hm,fun _=>⟨a,rfl,fun q hq=>?_⟩⟩
  obtain ⟨cs',hc,ht'⟩:=hi q (by omega)
  rw [h1] at hc
  obtain ⟨_,hcl,hat⟩:=World.cells?_some hc
  obtain ⟨u,k,X,rfl,hx⟩:=oz he hC (by omega) ht' hE
  have:=hat 0 (by omega)
  rw [Go.Deep.add_add,Nat.mul_one,Nat.add_zero] at this
  exact ⟨u,k,X,this,hx⟩
end
end Go.Proofs.YtbpgfnbhihklnaaGreat
namespace Go.Proofs.YtbpgfnbhihklnaaGreat
open Go.RowKit Go.Shelf
section
variable {rs qs:List Ru} {s:List Nat} {rd:List Rw→List Rw} {most:Nat}
def Strm.keeps (hok:∀ r∈qs,r.Ok) (hsub:∀ l,(rd l).Sublist l) (hm:most≤48) {l m:List Rw} {b:Bool} (h:Strm qs rd most l m b) (hl:Fine l):
  Fine m∧Under l m∧(b=true→m.length≤most∧m=nextF qs (rd m) m)∧(b=false→most < m.length):=by
 induction h with
 |over h=>exact ⟨hl,Under.refl _,fun e=>(by cases e),fun _=>h⟩
 |done h e=>exact ⟨hl,Under.refl _,fun _=>⟨h,e⟩,fun e=>(by cases e)⟩
 | @go l m b h hne _ ih=>
  have h48:(rd l).length≤48:=by have:=(hsub l).length_le;omega
  obtain ⟨h1,h2,h3⟩:=ih (pr hok hl (hl.sub (hsub l)) h48)
  exact ⟨h1,(nw hok hl (hl.sub (hsub l)) h48).trans h2,h3⟩
def Strm.one {l m m':List Rw} {b b':Bool} (h:Strm qs rd most l m b) (h':Strm qs rd most l m' b'):m=m'∧b=b':=by
 induction h with
 |over h=>
  cases h' with
  |over=>exact ⟨rfl,rfl⟩
  |done h2=>omega
  |go h2=>omega
 |done h e=>
  cases h' with
  |over h2=>omega
  |done=>exact ⟨rfl,rfl⟩
  |go _ h2=>exact absurd e h2
 |go h hne _ ih=>
  cases h' with
  |over h2=>omega
  |done _ e=>exact absurd e hne
  |go _ _ h2=>exact ih h2
def fb (hok:∀ r∈rs,r.Ok) (k:Nat):∀ r∈ofS rs s k,r.Ok:=fun r hr=>hok r (zc.1 hr).1
def Rnds.keeps (hok:∀ r∈rs,r.Ok) (hsub:∀ l,(rd l).Sublist l) (hm:most≤48) {k j:Nat} {l m:List Rw} {b:Bool} (h:Rnds rs s rd most k j l m b) (hl:Fine l):
  Fine m∧Under l m∧(b=true→m.length≤most)∧(b=false→most < m.length):=by
 induction h with
 |last=>exact ⟨hl,Under.refl _,fun e=>of_decide_eq_true e,fun e=>Nat.lt_of_not_le (of_decide_eq_false e)⟩
 |over h=>
  obtain ⟨h1,h2,-,h4⟩:=h.keeps (fb hok _) hsub hm hl
  exact ⟨h1,h2,fun e=>(by cases e),h4⟩
 |next h _ ih=>
  obtain ⟨h1,h2,-⟩:=h.keeps (fb hok _) hsub hm hl
  obtain ⟨g1,g2,g3⟩:=ih h1
  exact ⟨g1,h2.trans g2,g3⟩
def Rnds.one {k j:Nat} {l m m':List Rw} {b b':Bool} (h:Rnds rs s rd most k j l m b) (h':Rnds rs s rd most k j l m' b'):m=m'∧b=b':=by
 induction h generalizing m' b' with
 |last=>cases h';exact ⟨rfl,rfl⟩
 |over h=>
  cases h' with
  |over h2=>exact h.one h2
  |next h2=>exact absurd (h.one h2).2 (by decide)
 |next h _ ih=>
  cases h' with
  |over h2=>exact absurd (h.one h2).2 (by decide)
  |next h2 h3=>
   obtain rfl:=(h.one h2).1
   exact ih h3
def qcp {r:Ru} {l:List Rw}:∀ x∈ruleV r l,OkR l→r.Ok→l.length≤48→x.name=r.h:=fun x hx ho hok hl=>by
 have hf:∀ {m:List Rw},∀ y∈fireR r m,y.name=r.h:=fun y hy=>by
  obtain ⟨t,_,ht⟩:=zr.1 hy
  unfold headV at ht
  cases ha:allO (r.ts.map (evalT t.1)) with
  |none=>rw [ha] at ht;cases ht
  |some us=>rw [ha] at ht;cases ht;rfl
 have hfo:=pl hok ho.merge
 unfold ruleV at hx
 split at hx
 ·exact hf x ((xm _).sub x hx)
 ·obtain ⟨y,hy,rfl⟩:=zi.1 ((xm _).sub x hx)
  obtain ⟨z,hz,hk,-⟩:=(an (trn_ok hfo.merge 1).merge.can (fun x hx=>(qal x ((xm _).sub x hx)).1)).st2 y hy
  obtain ⟨u,hu,v,hv,rfl⟩:=mz.1 ((xm _).sub z hz)
  have h1:u.name=y.name:=congrArg Prod.fst hk
  exact h1.symm.trans (hf u ((xm _).sub u hu))
def qas {seen l:List Rw} (hok:∀ r∈qs,r.Ok) (hl:Fine l) (hs:Fine seen) (h48:seen.length≤48) {nm:ByteArray} (hn:∀ r∈qs,r.h≠nm):named (nextF qs seen l) nm=named l nm:=by
 have hc:=hl.ok.app (ky hok hs.ok h48).1
 have h1:=ap hc.can (fun n=>decide (n=nm)) (xm (l++qs.flatMap fun r=>ruleV r seen))
 have h2:(l++qs.flatMap fun r=>ruleV r seen).filter (fun r=>decide (r.name=nm))=named l nm:=by
  rw [uf]
  have:(qs.flatMap fun r=>ruleV r seen).filter (fun r=>decide (r.name=nm))=[]:=ub.2 fun x hx=>by
   obtain ⟨r,hr,hx⟩:=ju.1 hx
   rw [qcp x hx hs.ok (hok r hr) h48]
   simpa using hn r hr
  rw [this,jr]
  rfl
 rw [h2] at h1
 exact cg (fun x hx=>hl.ok.can x (zc.1 hx).1) h1 (ct (hl.up.sublist List.filter_sublist))
def Strm.named (hok:∀ r∈qs,r.Ok) (hsub:∀ l,(rd l).Sublist l) (hm:most≤48) {l m:List Rw} {b:Bool} (h:Strm qs rd most l m b) (hl:Fine l) {nm:ByteArray} (hn:∀ r∈qs,r.h≠nm):named m nm=named l nm:=by
 induction h with
 |over=>rfl
 |done=>rfl
 | @go l m b h hne _ ih=>
  have h48:(rd l).length≤48:=by have:=(hsub l).length_le;omega
  exact (ih (pr hok hl (hl.sub (hsub l)) h48)).trans (qas hok hl (hl.sub (hsub l)) h48 hn)
def qdl {r:Ru} {l m:List Rw} (hl:Fine l) (hm:Fine m) (h:∀ L∈r.Ls,L.kind≤2→Go.Proofs.YtbpgfnbhihklnaaGreat.named l L.name=Go.Proofs.YtbpgfnbhihklnaaGreat.named m L.name):ruleV r l=ruleV r m:=by
 have e1:mergeF l=l:=cg hl.ok.can (xm l) (ct hl.up)
 have e2:mergeF m=m:=cg hm.ok.can (xm m) (ct hm.up)
 have hf:fireR r (mergeF l)=fireR r (mergeF m):=by
  rw [e1,e2]
  show (waysV l r.Ls ([],forever)).filterMap _=(waysV m r.Ls ([],forever)).filterMap _
  rw [sb h]
 unfold ruleV
 rw [hf]
end
def body_le {rs:List Ru} {s:List Nat} (he:∀ e∈edP rs,s.getD e.on 0+e.up≤s.getD e.head 0) {r:Ru} (hr:r∈rs) {L:Lt} (hL:L∈r.Ls) (hk:L.kind≤2):s.getD (relI L.name) 0≤s.getD (relI r.h) 0∧(L.kind=2→s.getD (relI L.name) 0 < s.getD (relI r.h) 0)∧(r.agg≠⟨#[]⟩→s.getD (relI L.name) 0 < s.getD (relI r.h) 0):=by
 have hk0:L.kind=1∨L.kind=2:=by
  cases L with
  |atom b nm ts=>cases b;exact .inl rfl;exact .inr rfl
  |test j a b=>exact absurd (show (3:Int)≤2 from hk) (by decide)
  |assign nm t=>exact absurd (show (4:Int)≤2 from hk) (by decide)
 have hin:∀ e,edL r L=some e→e∈edP rs:=fun e h=>ju.2 ⟨r,hr,zr.2 ⟨L,hL,h⟩⟩
 rcases hk0 with h1|h2
 ·have h:=he _ (hin _ (by unfold edL;rw [if_neg (by omega),if_pos h1]))
  dsimp only at h
  refine ⟨by omega,fun e=>by omega,fun hne=>?_⟩
  rw [if_neg hne] at h
  omega
 ·have h:=he _ (hin _ (by unfold edL;rw [if_pos h2]))
  dsimp only at h
  exact ⟨by omega,fun _=>by omega,fun _=>by omega⟩
def Closed (rs:List Ru) (s:List Nat) (k:Nat) (l:List Rw):Prop:=∀ r∈rs,s.getD (relI r.h) 0 < k→Under (ruleV r l) l
def Rnds.closed {rs:List Ru} {s:List Nat} {most:Nat} (hok:∀ r∈rs,r.Ok) (he:∀ e∈edP rs,s.getD e.on 0+e.up≤s.getD e.head 0) (hm:most≤48) {k j:Nat} {l m:List Rw} {b:Bool} (h:Rnds rs s id most k j l m b) (hb:b=true) (hl:Fine l) (hc:Closed rs s k l):Closed rs s (k+j) m:=by
 have hsub:∀ l:List Rw,(id l).Sublist l:=fun l=>List.Sublist.refl l
 induction h with
 |last=>exact hc
 |over=>cases hb
 | @next k j l m r b h _ ih=>
  obtain ⟨h1,h2,h3,-⟩:=h.keeps (fb hok k) hsub hm hl
  have h4:=h3 rfl
  have:=ih hb h1 (fun q hq hk=>?_)
  ·rwa [show k+1+j=k+(j+1) by omega] at this
  ·rcases jl (s.getD (relI q.h) 0) k with hlt|hge
   ·have hsame:ruleV q l=ruleV q m:=qdl hl h1 fun L hL hk2=>by
     have h5:=(body_le he hq hL hk2).1
     refine (h.named (fb hok k) hsub hm hl fun x hx e=>?_).symm
     have h6:=of_decide_eq_true (zc.1 hx).2
     rw [e] at h6
     omega
    rw [←hsame]
    exact (hc q hq hlt).trans h2
   ·have hqk:q∈ofS rs s k:=zc.2 ⟨hq,decide_eq_true (by omega)⟩
    rw [h4.2]
    conv=>lhs;rw [←h4.2]
    have hmf:=ky (fb (s:=s) hok k) h1.ok (show (id m).length≤48 from by have:=h4.1;show m.length≤48;omega)
    exact (Under.sub fun x hx=>List.mem_append_right _ (ju.2 ⟨q,hqk,hx⟩)).trans (pu (h1.ok.app hmf.1).can)
def ow {rs:List Rw} {x s:Rw} {k:Nat} (h:∀ j,j < k→∀ s,rs[j]? =some s→cmpR s x≠0) (hs:rs[k]? =some s) (he:cmpR s x=0):findS rs x=s.stamp:=by
 unfold findS
 have:rs.find? (fun s=>decide (cmpR s x=0))=some s:=by
  rw [List.find?_eq_some_iff_getElem]
  obtain ⟨hlt,hg⟩:=qv.1 hs
  refine ⟨by simpa using he,k,hlt,hg,fun j hj=>?_⟩
  have:=h j hj rs[j] (qz (by omega))
  simpa using this
 rw [this]
def ep {rs:List Rw} {x:Rw} {k:Nat} (h:∀ j,j < k→∀ s,rs[j]? =some s→cmpR s x≠0) (hk:rs.length≤k):findS rs x=-1:=qaq fun s hs=>by
 obtain ⟨j,hj,rfl⟩:=zt hs
 exact h j (by omega) _ (qz hj)
def en (w:World) (A:Option Addr) (n c:Nat) (css:List (List Value)) (rs:List Rw) (hn:n=rs.length) (hnb:n≤100000000) (hA:SrcAt w A 3 css) (hra:RowsCs w css rs) (xc:List Value) (r:Rw) (hx:RowAt w xc r):
  Calls Tryz.prog 19 #[.slice A n c,.agg xc.toArray] w fun e w'=>e=.returned (.int .i64 (findS rs r))∧New w w':=by
 obtain ⟨w1,hw1⟩:=qdq (w.alloc (.cells xc.toArray 42))
 have hN1:New w w1:=by rw [hw1];exact (Chg.refl _ _).alloc _
 have hB1:Blk w1 w.heap.size 42 xc.toArray:=by rw [hw1];exact Blk.new w _ _
 have hrx:=hx.chg hN1
 obtain ⟨X1,xd,rfl,_⟩:=hx
 have HA:=qq (hA.chg hN1 qdr)
 have HRa:=qq (hra.chg hN1)
 have HRx:=qq hrx
 have HN:=qq hn
 have HN1:=qq hN1
 have HB1:=qq hB1
 have HW1:=qq hw1
 clear hA hra hrx hn hN1 hB1 hw1
 go_enter Tryz.func19,Tryz.ntmps19
 go_wp2_with fail
 rw [←HW1.out]
 go_loopw [5] (fun u5 wr=>∃ k:Nat,k≤n∧u5=.int .i64 k∧(∀ j,j < k→∀ s,rs[j]? =some s→cmpR s r≠0)∧New w1 wr) (fun u _=>n - (intOf u).toNat)
 case atStart=>exact ⟨0,qr _,rfl,fun j hj=>absurd hj (by omega),Chg.refl _ _⟩
 case round=>
  obtain ⟨k,hkn,rfl,hno,hN⟩:=hrel
  have HNo:=qq hno
  have HNw:=qq hN
  clear hno hN
  by_cases hlt:k < n
  ·obtain ⟨cs,hcs⟩:∃ cs,css[k]? =some cs:=⟨_,qz (by rw [HRa.out.1, ←HN.out];exact hlt)⟩
   obtain ⟨s,hs1,hrow⟩:=HRa.out.2 k cs hcs
   obtain ⟨ad,rfl,hrA⟩:=HA.out (by rw [HRa.out.1, ←HN.out];omega)
   have hnd:New wr wr.drew:=(Chg.refl _ _).drew
   have hNd:=HNw.out.drew
   have hat:=(hrA k cs hcs).2.chg hNd id
   have hrs:=hrow.chg hNd
   have hrr:=HRx.out.chg hNd
   have hbb:=HB1.out.chg hNd id
   have hk3:=hrow.cs.1
   have Hs1:=qq hs1
   have Hat:=qq hat
   have Hrs:=qq hrs
   have Hrr:=qq hrr
   have Hbb:=qq hbb
   have HNd:=qq hNd
   obtain ⟨q,hq⟩:=qdp (cmpR s r)
   have Hq:=qq hq
   have hst:wr.drew.cell? ⟨(ad.add (k * 3)).block,(ad.add (k * 3)).off+2,none⟩=some (.int .i64 s.stamp):=by
    obtain ⟨X2,x2,rfl,_⟩:=hrow
    have:=hat 2 _ rfl
    rwa [gk] at this
   have Hst:=qq hst
   clear hs1 hrow hrA hcs hnd hNd hat hrs hrr hbb hq hst
   have q0:(0:Int)≤(k:Int):=by omega
   have q1:(k:Int) < (n:Int):=by omega
   have eg2:=enters_of Tryz.func25 (by kernel_rfl) rfl
   unfold Enters at eg2
   obtain ⟨bq,hbq⟩:∃ b:Bool,(q == 0)=b:=⟨_,rfl⟩
   go_upto_region 4 with fail
   refine vj (by kernel_rfl) ?_
   generalize wr.drew=wd at Hat Hrs Hrr Hbb HNd Hst⊢
   refine AtN.segN2 0 7 [12,13,14,15,16,17,18] (fun
    |0=>fun v _=>v=.slice (some ad) n c
    |1=>fun v _=>v=.int .i64 k
    |2=>fun v _=>v=.pointer (some (ad.add (k * 3)))
    |3=>fun v _=>v=.agg cs.toArray
    |4=>fun v _=>v=.agg #[.string r.name,.slice X1 r.args.length xd,.int .i64 r.stamp]
    |5=>fun v _=>v=.int .i64 q
    |6=>fun v _=>v=.bool bq
    |_=>fun _ _=>True) (by kernel_rfl) (by kernel_rfl) (by kernel_rfl) (by kernel_rfl) (fun j v w1 w2 hc h=>?_) (fun i hn hi o ho A0 W hN hin hk=>?_) (fun l W2 hN hl hΦ=>?_)
   ·match j with
    |0|1|2|3|4|5|6=>exact h
    |_+7=>trivial
   ·rcases (show i=0∨i=1∨i=2∨i=3∨i=4∨i=5∨i=6 by omega) with rfl|rfl|rfl|rfl|rfl|rfl|rfl<;>cases ho
    ·exact .same (uo 0 _ rfl (hk 0)) rfl
    ·exact .same (uo 5 _ rfl (hk 5)) rfl
    ·have h12:A0.tmps[12]?.getD undef=.slice (some ad) n c:=hin 0 12
     have h13:A0.tmps[13]?.getD undef=.int .i64 k:=hin 1 13
     exact .same (by simp [go_sem,h12,h13,q0,q1,hlt]) rfl
    ·have h14:A0.tmps[14]?.getD undef=.pointer (some (ad.add (k * 3))):=hin 2 14
     exact .same (vu 14 _ rfl vd (ad.add (k * 3)) cs h14 hk3 (Hat.out.chg hN id)) rfl
    ·have h3:A0.tmps[3]?.getD undef=.pointer (some ⟨w.heap.size,0,none⟩):=hk 3
     exact .same (vu 3 _ rfl vd ⟨w.heap.size,0,none⟩ [.string r.name,.slice X1 r.args.length xd,.int .i64 r.stamp] h3 rfl (Hbb.out.chg hN id).at_) rfl
    ·have h15:A0.tmps[15]?.getD undef=.agg cs.toArray:=hin 3 15
     have h16:A0.tmps[16]?.getD undef=.agg #[.string r.name,.slice X1 r.args.length xd,.int .i64 r.stamp]:=hin 4 16
     refine .call (f:=25) (args:=#[.agg cs.toArray,.agg #[.string r.name,.slice X1 r.args.length xd,.int .i64 r.stamp]]) (W':=W) ?_ ((nd W cs [.string r.name,.slice X1 r.args.length xd,.int .i64 r.stamp] s r (Hrs.out.chg hN) (Hrr.out.chg hN)).mono ?_)
     ·simp [go_sem,h15,h16,eg2]
     ·rintro e w' ⟨rfl,hc⟩
      exact ⟨_,rfl,hc,by rw [Hq.out];rfl⟩
    ·have h17:A0.tmps[17]?.getD undef=.int .i64 q:=hin 5 17
     exact .same (by simp [go_sem,h17,hbq]) rfl
   obtain ⟨x12,x13,x14,x15,x16,x17,x18,rfl⟩:∃ x12 x13 x14 x15 x16 x17 x18,l=[x12,x13,x14,x15,x16,x17,x18]:=by
    match l,hl with
    | [x12,x13,x14,x15,x16,x17,x18],_=>exact ⟨_,_,_,_,_,_,_,rfl⟩
   obtain rfl:x12=.slice (some ad) n c:=hΦ 0 (by decide)
   obtain rfl:x13=.int .i64 k:=hΦ 1 (by decide)
   obtain rfl:x14=.pointer (some (ad.add (k * 3))):=hΦ 2 (by decide)
   obtain rfl:x15=.agg cs.toArray:=hΦ 3 (by decide)
   obtain rfl:x16=.agg #[.string r.name,.slice X1 r.args.length xd,.int .i64 r.stamp]:=hΦ 4 (by decide)
   obtain rfl:x17=.int .i64 q:=hΦ 5 (by decide)
   obtain rfl:x18=.bool bq:=hΦ 6 (by decide)
   simp only [putsL,zq,zj,zz,List.zip,List.zipWith,Act.put,qk,qu,qy]
   clear hΦ hl
   refine AtN.done rfl ?_
   have HN2:=qq (HNd.out.trans hN qdr)
   have Hst2:=qq (show W2.cell? ⟨(ad.add (k * 3)).block,(ad.add (k * 3)).off+2,none⟩=some (.int .i64 s.stamp) from hN.cellS Hst.out id)
   clear hN
   cases bq with
   |true=>
    have hq0:q=0:=by simpa using hbq
    have HR:=qq (ow HNo.out Hs1.out (by rw [Hq.out,hq0]))
    have e5:=Hst2.out
    clear hbq hq0
    go_wp2_with fail
    go_ret
    exact ⟨congrArg (fun z=>Ending.returned (.int .i64 z)) HR.out.symm,HN1.out.trans HN2.out qdr⟩
   |false=>
    have hq0:q≠0:=by simpa using hbq
    have HNo2:=qq (show ∀ j,j < k+1→∀ s,rs[j]? =some s→cmpR s r≠0 from fun j hj s' hs'=>by
     by_cases hjk:j=k
     ·subst hjk
      have:=Hs1.out
      rw [hs'] at this
      rw [Option.some.inj this,Hq.out]
      exact hq0
     ·exact HNo.out j (by omega) s' hs')
    clear hbq hq0
    go_wp2_with fail
    go_roundw
    case rel=>exact ⟨k+1,by omega,by go_num,HNo2.out,HN2.out⟩
    case measure=>simp only [intOf];omega
  ·have HR:=qq (ep HNo.out (by rw [←HN.out];omega))
   go_wp2_with fail
   go_ret
   exact ⟨congrArg (fun z=>Ending.returned (.int .i64 z)) HR.out.symm,HN1.out.trans HNw.out qdr⟩
def rx (w:World) (v:Value) (rs:List Rw) (h:RowSl w v rs) (xc:List Value) (r:Rw) (hx:RowAt w xc r):
  Calls Tryz.prog 19 #[v,.agg xc.toArray] w fun e w'=>e=.returned (.int .i64 (findS rs r))∧New w w':=by
 obtain ⟨A,c,css,rfl,h2,h3,h4,h5,h6,h7⟩:=h
 exact en w A rs.length c css rs rfl (by omega) h5 h6 xc r hx
def cu (w:World) (s:ByteArray):Calls Tryz.prog 33 #[.string s] w fun e w'=>e=.returned (.agg #[.int .i64 1,.string s,.int .i64 0,.int .i64 0,.string ⟨#[]⟩,.slice none 0 0,.slice none 0 0])∧New w w':=by
 go_enter Tryz.func33,Tryz.ntmps33
 go_wp2_with fail
 exact bodyPost_ret (v:=.agg #[.int .i64 1,.string s,.int .i64 0,.int .i64 0,.string ⟨#[]⟩,.slice none 0 0,.slice none 0 0]) (xh xy rfl _ _ ⟨w.heap.size,0,none⟩ [.int .i64 1,.string s,.int .i64 0,.int .i64 0,.string ⟨#[]⟩,.slice none 0 0,.slice none 0 0] rfl (Blk.new w _ _).at_ rfl) rfl ⟨rfl,(Chg.refl _ _).alloc _⟩
def du (w:World) (s:ByteArray):Calls Tryz.prog 34 #[.string s] w fun e w'=>e=.returned (.agg #[.int .i64 3,.int .i64 0,.string s,.slice none 0 0])∧New w w':=by
 go_enter Tryz.func34,Tryz.ntmps34
 go_wp2_with fail
 exact bodyPost_ret (v:=.agg #[.int .i64 3,.int .i64 0,.string s,.slice none 0 0]) (xh vz rfl _ _ ⟨w.heap.size,0,none⟩ [.int .i64 3,.int .i64 0,.string s,.slice none 0 0] rfl (Blk.new w _ _).at_ rfl) rfl ⟨rfl,(Chg.refl _ _).alloc _⟩
def lj {W:World} {g k:Nat} {t:TypeId} {css:List (List Value)} (hb:Blk W g t css.flatten.toArray) (hk:∀ cs∈css,cs.length=k):RowsAt W ⟨g,0,none⟩ k css:=fun i cs hi=>⟨hk cs (qf hi),fun j u hj=>by
 rw [Addr.add_lit,jn,Addr.add_lit,hb.cell]
 have:=xl hk hi hj
 simpa using this⟩
def tv (b:UInt8):Tm:=.var ⟨#[b]⟩
def rg {W:World} {g:Nat} (bs:List UInt8) (hb:Blk W g 64 ((bs.map fun b=>varC ⟨#[b]⟩).flatten).toArray):TmsAt W (some ⟨g,0,none⟩) (bs.map fun b=>varC ⟨#[b]⟩) (bs.map tv):=
 ⟨by simp,fun _=>⟨_,rfl,lj hb (fun cs hc=>by obtain ⟨b,_,rfl⟩:=zi.1 hc;rfl)⟩,fun j cs t h1 h2=>by
  rw [qa] at h1 h2
  cases hb:bs[j]? with
  |none=>rw [hb] at h1;cases h1
  |some b=>
   rw [hb] at h1 h2
   cases h1
   cases h2
   rfl⟩
def ew {W:World} {g:Nat} (nm:ByteArray) (vs:List Vl) (st:Int) (hl:vs.length≤1000) (hb:Blk W g 62 (vs.map vcs).flatten.toArray):RowAt W [.string nm,.slice (some ⟨g,0,none⟩) vs.length vs.length,.int .i64 st] ⟨nm,vs,st⟩:=
 ⟨_,vs.length,rfl,hl,qh _,by unfold maxLen;show vs.length≤_;omega,fun _=>⟨_,rfl,lj hb (rv vs)⟩,fun a ha=>by cases ha;exact ⟨_,_,hb⟩⟩
def adr (b:UInt8):Vl:=⟨3,0,⟨#[b]⟩⟩
def oneV:Vl:=⟨1,1,⟨#[]⟩⟩
def lkL:Lt:=.atom false ⟨#[108,105,110,107]⟩ [tv 83,tv 68,tv 67]
def rA:Ru:=⟨⟨#[112]⟩,[tv 83,tv 68],[lkL],⟨#[]⟩,0⟩
def rB:Ru:=⟨⟨#[112]⟩,[tv 83,tv 69],[lkL,.atom false ⟨#[112]⟩ [tv 68,tv 69]],⟨#[]⟩,0⟩
def lnk (x y:UInt8) (st:Int):Rw:=⟨⟨#[108,105,110,107]⟩,[adr x,adr y,oneV],st⟩
def prw (x y:UInt8) (st:Int):Rw:=⟨⟨#[112]⟩,[adr x,adr y],st⟩
def rj (bs:List UInt8) (h1:1≤bs.length) (h3:bs.length≤3) (h:∀ b∈bs,65≤b.toNat∧b.toNat≤90):argsP (bs.map tv):=by
 refine ⟨by simpa using h1,by simpa using h3,?_,fun t ht=>?_⟩
 ·cases bs with
  |nil=>simp at h1
  |cons b bs=>exact ⟨tv b,rfl,.inl ⟨_,rfl⟩⟩
 ·obtain ⟨b,hb,rfl⟩:=zi.1 ht
  exact .inl (.inl ⟨_,rfl,b,rfl,h b hb⟩)
def mt (i:Nat) {p:ByteArray×Int} (h:relCs[i]? =some p):p∈relCs:=qf h
def lk_p:litP lkL:=⟨(lh (n:=3) (mt 0 rfl)).1,rj [83,68,67] (by decide) (by decide) (by decide)⟩
def pp_p:litP (.atom false ⟨#[112]⟩ [tv 68,tv 69]):=⟨pw (by decide),rj [68,69] (by decide) (by decide) (by decide)⟩
def ex_ruP:∀ r∈[rA,rB],ruP r:=by
 intro r hr
 simp only [qp,qm,or_false] at hr
 rcases hr with rfl|rfl
 ·exact ⟨pw (by decide),rj [83,68] (by decide) (by decide) (by decide),by decide,by decide,fun L hL=>by rw [qn.1 hL];exact lk_p,.inl ⟨rfl,rfl⟩⟩
 ·exact ⟨pw (by decide),rj [83,69] (by decide) (by decide) (by decide),by decide,by decide,fun L hL=>by
   rcases qp.1 hL with rfl|hL
   ·exact lk_p
   ·rw [qn.1 hL];exact pp_p,.inl ⟨rfl,rfl⟩⟩
def ex_rel:∀ r∈[rA,rB],ruRel r:=by
 intro r hr
 simp only [qp,qm,or_false] at hr
 rcases hr with rfl|rfl
 ·exact ⟨mt 1 rfl,fun L hL=>by rw [qn.1 hL];exact mt 0 rfl⟩
 ·exact ⟨mt 1 rfl,fun L hL=>by
   rcases qp.1 hL with rfl|hL
   ·exact mt 0 rfl
   ·rw [qn.1 hL];exact mt 1 rfl⟩
def er (bs:List UInt8):∀ t∈bs.map tv,okTm t:=fun t ht=>by
 obtain ⟨b,_,rfl⟩:=zi.1 ht
 trivial
def ex_okk:∀ r∈[rA,rB],r.Ok:=by
 intro r hr
 simp only [qp,qm,or_false] at hr
 rcases hr with rfl|rfl
 ·exact ⟨by decide,er [83,68],by decide,fun L hL=>by rw [qn.1 hL];exact ⟨er [83,68,67],by decide⟩,.inl ⟨rfl,rfl⟩⟩
 ·exact ⟨by decide,er [83,69],by decide,fun L hL=>by
   rcases qp.1 hL with rfl|hL
   ·exact ⟨er [83,68,67],by decide⟩
   ·rw [qn.1 hL];exact ⟨er [68,69],by decide⟩,.inl ⟨rfl,rfl⟩⟩
def bs12:List Rw:=[lnk 120 121 5,lnk 121 122 3]
def bs_ok:OkR bs12∧StR bs12:=by
 refine ⟨fun r hr u hu=>?_,fun r hr=>?_⟩
 ·have h:∀ u∈[adr 120,adr 121,adr 122,oneV],okW u:=by
   intro u hu
   simp only [qp,qm,or_false] at hu
   rcases hu with rfl|rfl|rfl|rfl
   ·exact ⟨.inr ⟨rfl,rfl,120,rfl,by decide,by decide⟩,by decide,by decide⟩
   ·exact ⟨.inr ⟨rfl,rfl,121,rfl,by decide,by decide⟩,by decide,by decide⟩
   ·exact ⟨.inr ⟨rfl,rfl,122,rfl,by decide,by decide⟩,by decide,by decide⟩
   ·exact ⟨.inl ⟨rfl,rfl⟩,by decide,by decide⟩
  refine h u ?_
  simp only [bs12,qp,qm,or_false] at hr
  rcases hr with rfl|rfl <;> simp only [lnk,qp,qm,or_false] at hu <;> rcases hu with rfl|rfl|rfl <;> simp
 ·simp only [bs12,qp,qm,or_false] at hr
  rcases hr with rfl|rfl <;> exact ⟨by decide,by decide⟩
def out12:List Rw:=[lnk 120 121 5,lnk 121 122 3,prw 120 121 5,prw 120 122 3,prw 121 122 3]
def Strm.inv {rs:List Ru} {rd:List Rw→List Rw} {most:Nat} {l m:List Rw} {b:Bool} (h:Strm rs rd most l m b) (hl:l.length≤most):(l=nextF rs (rd l) l∧m=l∧b=true)∨(l≠nextF rs (rd l) l∧Strm rs rd most (nextF rs (rd l) l) m b):=by
 cases h with
 |over h=>omega
 |done _ h=>exact .inl ⟨h,rfl,rfl⟩
 |go _ h h'=>exact .inr ⟨h,h'⟩
def ex_fix {m:List Rw} {b:Bool} (h:Fixes [rA,rB] id 9 bs12 m b):m.take 9=out12∧b=true:=by
 unfold Fixes at h
 rw [bu (by
  intro r hr
  simp only [qp,qm,or_false] at hr
  rcases hr with rfl|rfl <;> exact ⟨rfl,by decide⟩) (by decide+kernel)] at h
 replace h:Rnds [rA,rB] zero6 id 9 0 1 (mergeF bs12) m b:=h
 have hm:mergeF bs12=[lnk 120 121 5,lnk 121 122 3]:=by decide+kernel
 have hr:ofS [rA,rB] zero6 0=[rA,rB]:=by kernel_rfl
 have h1:nextF [rA,rB] (id [lnk 120 121 5,lnk 121 122 3]) [lnk 120 121 5,lnk 121 122 3]=[lnk 120 121 5,lnk 121 122 3,prw 120 121 5,prw 121 122 3]:=by decide+kernel
 have h2:nextF [rA,rB] (id [lnk 120 121 5,lnk 121 122 3,prw 120 121 5,prw 121 122 3]) [lnk 120 121 5,lnk 121 122 3,prw 120 121 5,prw 121 122 3]=out12:=by decide+kernel
 have h3:nextF [rA,rB] (id out12) out12=out12:=by decide+kernel
 rw [hm] at h
 have key:∀ {m:List Rw} {b:Bool},Strm [rA,rB] id 9 [lnk 120 121 5,lnk 121 122 3] m b→m=out12∧b=true:=by
  intro m b hs
  rcases hs.inv (by decide) with ⟨e,_⟩| ⟨_,hs⟩
  ·rw [h1] at e;exact absurd e (by decide+kernel)
  rw [h1] at hs
  rcases hs.inv (by decide) with ⟨e,_⟩| ⟨_,hs⟩
  ·rw [h2] at e;exact absurd e (by decide+kernel)
  rw [h2] at hs
  rcases hs.inv (by decide) with ⟨_,e1,e2⟩| ⟨e,_⟩
  ·exact ⟨e1,e2⟩
  ·exact absurd h3.symm e
 cases h with
 |over h=>rw [hr] at h;exact absurd (key h).2 (by decide)
 |next h h'=>
  rw [hr] at h
  obtain ⟨rfl,-⟩:=key h
  cases h'
  exact ⟨rfl,rfl⟩
def qaw {W:World} {g:Nat} {css:List (List Value)} {Ls:List Lt} (hb:Blk W g 53 css.flatten.toArray) (hl:css.length=Ls.length) (h:∀ (j:Nat) (cs:List Value) (L:Lt),css[j]? =some cs→Ls[j]? =some L→LtAt W cs L):LtsAt W (some ⟨g,0,none⟩) css Ls:=
 ⟨hl,fun _=>⟨_,rfl,lj hb (fun cs hc=>by
  obtain ⟨j,hj⟩:=jz hc
  have hlt:=(qv.1 hj).1
  obtain ⟨A,c,css',h1,-⟩:=h j cs _ hj (qz (by rw [←hl];exact hlt))
  rw [h1]
  rfl)⟩,h⟩
def lkC (bt:Nat):List Value:=[.int .i64 1,.string ⟨#[108,105,110,107]⟩,.slice (some ⟨bt,0,none⟩) 3 3]
def ppC (b:Nat):List Value:=[.int .i64 1,.string ⟨#[112]⟩,.slice (some ⟨b,0,none⟩) 2 2]
def lk_at {W:World} {bt:Nat} (h:Blk W bt 64 #[.int .i64 1,.string ⟨#[83]⟩,.int .i64 0,.int .i64 0,.string ⟨#[]⟩,.slice none 0 0,.slice none 0 0,.int .i64 1,.string ⟨#[68]⟩,.int .i64 0,.int .i64 0,.string ⟨#[]⟩,.slice none 0 0,.slice none 0 0,.int .i64 1,.string ⟨#[67]⟩,.int .i64 0,.int .i64 0,.string ⟨#[]⟩,.slice none 0 0,.slice none 0 0]):LtAt W (lkC bt) lkL:=⟨_,3,_,rfl,rg [83,68,67] h⟩
def pp_at {W:World} {b:Nat} (h:Blk W b 64 #[.int .i64 1,.string ⟨#[68]⟩,.int .i64 0,.int .i64 0,.string ⟨#[]⟩,.slice none 0 0,.slice none 0 0,.int .i64 1,.string ⟨#[69]⟩,.int .i64 0,.int .i64 0,.string ⟨#[]⟩,.slice none 0 0,.slice none 0 0]):LtAt W (ppC b) (.atom false ⟨#[112]⟩ [tv 68,tv 69]):=⟨_,2,_,rfl,rg [68,69] h⟩
def ruA_at {W:World} {b c bt:Nat} (hb:Blk W b 64 #[.int .i64 1,.string ⟨#[83]⟩,.int .i64 0,.int .i64 0,.string ⟨#[]⟩,.slice none 0 0,.slice none 0 0,.int .i64 1,.string ⟨#[68]⟩,.int .i64 0,.int .i64 0,.string ⟨#[]⟩,.slice none 0 0,.slice none 0 0]) (hc:Blk W c 53 (lkC bt).toArray) (ht:Blk W bt 64 #[.int .i64 1,.string ⟨#[83]⟩,.int .i64 0,.int .i64 0,.string ⟨#[]⟩,.slice none 0 0,.slice none 0 0,.int .i64 1,.string ⟨#[68]⟩,.int .i64 0,.int .i64 0,.string ⟨#[]⟩,.slice none 0 0,.slice none 0 0,.int .i64 1,.string ⟨#[67]⟩,.int .i64 0,.int .i64 0,.string ⟨#[]⟩,.slice none 0 0,.slice none 0 0]):RuSl W (.agg #[.string ⟨#[97]⟩,.string ⟨#[112]⟩,.slice (some ⟨b,0,none⟩) 2 2,.string ⟨#[]⟩,.int .i64 0,.slice (some ⟨c,0,none⟩) 1 1]) rA:=
 ⟨_,_,_,2,1,_,[lkC bt],rfl,rg [83,68] hb,qaw (by simpa using hc) rfl (fun j cs L h1 h2=>by
  match j,h1,h2 with
  |0,h1,h2=>cases h1;cases h2;exact lk_at ht),qh _,by unfold maxLen;omega,pw (by decide)⟩
def ruB_at {W:World} {b c bt e:Nat} (hb:Blk W b 64 #[.int .i64 1,.string ⟨#[83]⟩,.int .i64 0,.int .i64 0,.string ⟨#[]⟩,.slice none 0 0,.slice none 0 0,.int .i64 1,.string ⟨#[69]⟩,.int .i64 0,.int .i64 0,.string ⟨#[]⟩,.slice none 0 0,.slice none 0 0]) (hc:Blk W c 53 (lkC bt++ppC e).toArray) (ht:Blk W bt 64 #[.int .i64 1,.string ⟨#[83]⟩,.int .i64 0,.int .i64 0,.string ⟨#[]⟩,.slice none 0 0,.slice none 0 0,.int .i64 1,.string ⟨#[68]⟩,.int .i64 0,.int .i64 0,.string ⟨#[]⟩,.slice none 0 0,.slice none 0 0,.int .i64 1,.string ⟨#[67]⟩,.int .i64 0,.int .i64 0,.string ⟨#[]⟩,.slice none 0 0,.slice none 0 0]) (he:Blk W e 64 #[.int .i64 1,.string ⟨#[68]⟩,.int .i64 0,.int .i64 0,.string ⟨#[]⟩,.slice none 0 0,.slice none 0 0,.int .i64 1,.string ⟨#[69]⟩,.int .i64 0,.int .i64 0,.string ⟨#[]⟩,.slice none 0 0,.slice none 0 0]):RuSl W (.agg #[.string ⟨#[98]⟩,.string ⟨#[112]⟩,.slice (some ⟨b,0,none⟩) 2 2,.string ⟨#[]⟩,.int .i64 0,.slice (some ⟨c,0,none⟩) 2 2]) rB:=
 ⟨_,_,_,2,2,_,[lkC bt,ppC e],rfl,rg [83,69] hb,qaw (by simpa using hc) rfl (fun j cs L h1 h2=>by
  match j,h1,h2 with
  |0,h1,h2=>cases h1;cases h2;exact lk_at ht
  |1,h1,h2=>cases h1;cases h2;exact pp_at he),qh _,by unfold maxLen;omega,pw (by decide)⟩
def raC (b c:Nat):List Value:=[.string ⟨#[97]⟩,.string ⟨#[112]⟩,.slice (some ⟨b,0,none⟩) 2 2,.string ⟨#[]⟩,.int .i64 0,.slice (some ⟨c,0,none⟩) 1 1]
def rbC (b c:Nat):List Value:=[.string ⟨#[98]⟩,.string ⟨#[112]⟩,.slice (some ⟨b,0,none⟩) 2 2,.string ⟨#[]⟩,.int .i64 0,.slice (some ⟨c,0,none⟩) 2 2]
structure ExRu (W:World) (bt g b c b' c' e:Nat):Prop where
 g:Blk W g 47 (raC b c++rbC b' c').toArray
 b:Blk W b 64 #[.int .i64 1,.string ⟨#[83]⟩,.int .i64 0,.int .i64 0,.string ⟨#[]⟩,.slice none 0 0,.slice none 0 0,.int .i64 1,.string ⟨#[68]⟩,.int .i64 0,.int .i64 0,.string ⟨#[]⟩,.slice none 0 0,.slice none 0 0]
 c:Blk W c 53 (lkC bt).toArray
 b':Blk W b' 64 #[.int .i64 1,.string ⟨#[83]⟩,.int .i64 0,.int .i64 0,.string ⟨#[]⟩,.slice none 0 0,.slice none 0 0,.int .i64 1,.string ⟨#[69]⟩,.int .i64 0,.int .i64 0,.string ⟨#[]⟩,.slice none 0 0,.slice none 0 0]
 c':Blk W c' 53 (lkC bt++ppC e).toArray
 e:Blk W e 64 #[.int .i64 1,.string ⟨#[68]⟩,.int .i64 0,.int .i64 0,.string ⟨#[]⟩,.slice none 0 0,.slice none 0 0,.int .i64 1,.string ⟨#[69]⟩,.int .i64 0,.int .i64 0,.string ⟨#[]⟩,.slice none 0 0,.slice none 0 0]
 t:Blk W bt 64 #[.int .i64 1,.string ⟨#[83]⟩,.int .i64 0,.int .i64 0,.string ⟨#[]⟩,.slice none 0 0,.slice none 0 0,.int .i64 1,.string ⟨#[68]⟩,.int .i64 0,.int .i64 0,.string ⟨#[]⟩,.slice none 0 0,.slice none 0 0,.int .i64 1,.string ⟨#[67]⟩,.int .i64 0,.int .i64 0,.string ⟨#[]⟩,.slice none 0 0,.slice none 0 0]
def ExRu.chg {W W':World} {bt g b c b' c' e:Nat} {S:Nat→Prop} (h:ExRu W bt g b c b' c' e) (hc:Chg W W' S) (hS:∀ k,S k→∃ cur,Blk W k 29 cur):ExRu W' bt g b c b' c' e:=by
 have key:∀ {g t cs},Blk W g t cs→t≠29→Blk W' g t cs:=fun hb hn=>hb.chg hc fun hs=>by
  obtain ⟨cur,h2⟩:=hS _ hs
  exact Blk.ne hb h2 hn rfl
 exact ⟨key h.g (by decide),key h.b (by decide),key h.c (by decide),key h.b' (by decide),key h.c' (by decide),key h.e (by decide),key h.t (by decide)⟩
def ExRu.new {W W':World} {bt g b c b' c' e:Nat} (h:ExRu W bt g b c b' c' e) (hc:New W W'):ExRu W' bt g b c b' c' e:=h.chg hc (fun k hk=>hk.elim)
def ExRu.pg {W:World} {bt d g b c b' c' e:Nat} (h:ExRu W bt g b c b' c' e) (hd:Blk W d 106 relCells):PgSl W (.agg #[.slice (some ⟨d,0,none⟩) 6 6,.slice none 0 0,.slice (some ⟨g,0,none⟩) 2 2]) [rA,rB]:=
 ⟨d,_,none,2,0,[raC b c,rbC b' c'],[],[],rfl,hd,⟨rfl,fun _=>⟨_,rfl,lj (css:=[raC b c,rbC b' c']) (by simpa using h.g) (fun cs hc=>by
  simp only [qp,qm,or_false] at hc
  rcases hc with rfl|rfl <;> rfl)⟩,fun j cs r h1 h2=>by
  match j,h1,h2 with
  |0,h1,h2=>cases h1;cases h2;exact ruA_at h.b h.c h.t
  |1,h1,h2=>cases h1;cases h2;exact ruB_at h.b' h.c' h.t h.e⟩,by decide,⟨rfl,fun h=>absurd h (by simp),fun j cs f h=>(by cases h)⟩,qr _,fun f h=>(by cases h)⟩
def ni (w:World):Calls Tryz.prog 14 #[] w fun e w'=>e=.returned (.bool true)∧New w w':=by
 obtain ⟨w1,hw1⟩:=qdq (w.alloc (.cells #[.int .i64 1,.int .i64 1,.string ⟨#[]⟩,.slice none 0 0] 62))
 have HN1:=qq (show New w w1 by rw [hw1];exact (Chg.refl _ _).alloc _)
 have HB3:=qq (show Blk w1 w.heap.size 62 #[.int .i64 1,.int .i64 1,.string ⟨#[]⟩,.slice none 0 0] by rw [hw1];exact Blk.new w _ _)
 have HW1:=qq hw1
 have HN:=qq (show New w1 w1 from Chg.refl _ _)
 clear hw1
 have egR:∀ (args:Array Value) (w:World),(callFunc 35 args).run Tryz.prog w=.ok (.enter 35 args) w:=enters_of Tryz.func35 (by kernel_rfl) rfl
 have egV:∀ (args:Array Value) (w:World),(callFunc 33 args).run Tryz.prog w=.ok (.enter 33 args) w:=enters_of Tryz.func33 (by kernel_rfl) rfl
 have egA:∀ (args:Array Value) (w:World),(callFunc 34 args).run Tryz.prog w=.ok (.enter 34 args) w:=enters_of Tryz.func34 (by kernel_rfl) rfl
 have egF:∀ (args:Array Value) (w:World),(callFunc 17 args).run Tryz.prog w=.ok (.enter 17 args) w:=enters_of Tryz.func17 (by kernel_rfl) rfl
 have HeR:=qq egR
 have HeV:=qq egV
 have HeA:=qq egA
 have HeF:=qq egF
 clear egR egV egA egF
 go_enter Tryz.func14,Tryz.ntmps14
 go_upto_region 4 with fail
 rw [←HW1.out]
 clear HW1
 obtain ⟨b3,hb3⟩:=qdp (w.heap.size)
 rw [hb3] at HB3⊢
 clear hb3
 go_upto_region 5 with (go_at_call 33;refine (cu _ _).mono ?_;rintro e wn ⟨rfl,hn⟩;have HN:=qq (HN.out.trans hn qdr);clear hn)
 obtain ⟨w4,hw4⟩:=qdq ((wn.alloc (.cells #[.int .i64 1,.string ⟨#[83]⟩,.int .i64 0,.int .i64 0,.string ⟨#[]⟩,.slice none 0 0,.slice none 0 0,.int .i64 1,.string ⟨#[68]⟩,.int .i64 0,.int .i64 0,.string ⟨#[]⟩,.slice none 0 0,.slice none 0 0,.int .i64 1,.string ⟨#[67]⟩,.int .i64 0,.int .i64 0,.string ⟨#[]⟩,.slice none 0 0,.slice none 0 0] 64)).alloc (.cells #[.int .i64 1,.string ⟨#[108,105,110,107]⟩,.slice (some ⟨wn.heap.size,0,none⟩) 3 3] 53))
 have hn4:New wn w4:=by rw [hw4];exact ((Chg.refl _ _).alloc _).alloc _
 have hbt:Blk w4 wn.heap.size 64 #[.int .i64 1,.string ⟨#[83]⟩,.int .i64 0,.int .i64 0,.string ⟨#[]⟩,.slice none 0 0,.slice none 0 0,.int .i64 1,.string ⟨#[68]⟩,.int .i64 0,.int .i64 0,.string ⟨#[]⟩,.slice none 0 0,.slice none 0 0,.int .i64 1,.string ⟨#[67]⟩,.int .i64 0,.int .i64 0,.string ⟨#[]⟩,.slice none 0 0,.slice none 0 0]:=by rw [hw4];exact (Blk.new wn _ _).alloc _
 have hb4:Blk w4 (wn.heap.size+1) 53 (lkC wn.heap.size).toArray:=by
  have:=Blk.new (wn.alloc (.cells #[.int .i64 1,.string ⟨#[83]⟩,.int .i64 0,.int .i64 0,.string ⟨#[]⟩,.slice none 0 0,.slice none 0 0,.int .i64 1,.string ⟨#[68]⟩,.int .i64 0,.int .i64 0,.string ⟨#[]⟩,.slice none 0 0,.slice none 0 0,.int .i64 1,.string ⟨#[67]⟩,.int .i64 0,.int .i64 0,.string ⟨#[]⟩,.slice none 0 0,.slice none 0 0] 64)) 53 (lkC wn.heap.size).toArray
  rw [World.size_alloc] at this
  rw [hw4]
  exact this
 rw [←hw4]
 obtain ⟨bt,hbte⟩:=qdp (wn.heap.size)
 rw [hbte] at hbt hb4⊢
 refine vj (by kernel_rfl) ?_
 have hnd:New w4 w4.drew:=(Chg.refl _ _).drew
 have D3:=qq ((((HB3.out.chg HN.out id).chg hn4 id)).chg hnd id)
 have D4:=qq (hb4.chg hnd id)
 have DT:=qq (hbt.chg hnd id)
 have DN:=qq (((HN1.out.trans HN.out qdr).trans hn4 qdr).trans hnd qdr)
 clear hnd hn4 hbt hb4 hw4 hbte
 generalize w4.drew=wd at D3 D4 DT DN⊢
 refine AtN.segN2 0 26 [17,18,19,20,21,22,23,24,25,26,27,28,29,30,31,32,33,34,35,36,37,38,39,40,41,5] (fun
  |0=>fun v W=>∃ d,v=.slice (some ⟨d,0,none⟩) 6 6∧Blk W d 106 relCells
  |1=>fun vv _=>vv=.func (.func 33) #[] #[]
  |2=>fun vv _=>vv=.agg #[.int .i64 1,.string ⟨#[83]⟩,.int .i64 0,.int .i64 0,.string ⟨#[]⟩,.slice none 0 0,.slice none 0 0]
  |3=>fun vv _=>vv=.func (.func 33) #[] #[]
  |4=>fun vv _=>vv=.agg #[.int .i64 1,.string ⟨#[68]⟩,.int .i64 0,.int .i64 0,.string ⟨#[]⟩,.slice none 0 0,.slice none 0 0]
  |5=>fun v W=>∃ b,v=.slice (some ⟨b,0,none⟩) 2 2∧Blk W b 64 #[.int .i64 1,.string ⟨#[83]⟩,.int .i64 0,.int .i64 0,.string ⟨#[]⟩,.slice none 0 0,.slice none 0 0,.int .i64 1,.string ⟨#[68]⟩,.int .i64 0,.int .i64 0,.string ⟨#[]⟩,.slice none 0 0,.slice none 0 0]
  |6=>fun vv _=>vv=.agg #[.int .i64 1,.string ⟨#[108,105,110,107]⟩,.slice (some ⟨bt,0,none⟩) 3 3]
  |7=>fun v W=>∃ b,v=.slice (some ⟨b,0,none⟩) 1 1∧Blk W b 53 (lkC bt).toArray
  |8=>fun v W=>∃ b c,v=.agg (raC b c).toArray∧Blk W b 64 #[.int .i64 1,.string ⟨#[83]⟩,.int .i64 0,.int .i64 0,.string ⟨#[]⟩,.slice none 0 0,.slice none 0 0,.int .i64 1,.string ⟨#[68]⟩,.int .i64 0,.int .i64 0,.string ⟨#[]⟩,.slice none 0 0,.slice none 0 0]∧Blk W c 53 (lkC bt).toArray
  |9=>fun vv _=>vv=.func (.func 33) #[] #[]
  |10=>fun vv _=>vv=.agg #[.int .i64 1,.string ⟨#[83]⟩,.int .i64 0,.int .i64 0,.string ⟨#[]⟩,.slice none 0 0,.slice none 0 0]
  |11=>fun vv _=>vv=.func (.func 33) #[] #[]
  |12=>fun vv _=>vv=.agg #[.int .i64 1,.string ⟨#[69]⟩,.int .i64 0,.int .i64 0,.string ⟨#[]⟩,.slice none 0 0,.slice none 0 0]
  |13=>fun v W=>∃ b,v=.slice (some ⟨b,0,none⟩) 2 2∧Blk W b 64 #[.int .i64 1,.string ⟨#[83]⟩,.int .i64 0,.int .i64 0,.string ⟨#[]⟩,.slice none 0 0,.slice none 0 0,.int .i64 1,.string ⟨#[69]⟩,.int .i64 0,.int .i64 0,.string ⟨#[]⟩,.slice none 0 0,.slice none 0 0]
  |14=>fun vv _=>vv=.agg #[.int .i64 1,.string ⟨#[108,105,110,107]⟩,.slice (some ⟨bt,0,none⟩) 3 3]
  |15=>fun vv _=>vv=.func (.func 33) #[] #[]
  |16=>fun vv _=>vv=.agg #[.int .i64 1,.string ⟨#[68]⟩,.int .i64 0,.int .i64 0,.string ⟨#[]⟩,.slice none 0 0,.slice none 0 0]
  |17=>fun vv _=>vv=.func (.func 33) #[] #[]
  |18=>fun vv _=>vv=.agg #[.int .i64 1,.string ⟨#[69]⟩,.int .i64 0,.int .i64 0,.string ⟨#[]⟩,.slice none 0 0,.slice none 0 0]
  |19=>fun v W=>∃ b,v=.slice (some ⟨b,0,none⟩) 2 2∧Blk W b 64 #[.int .i64 1,.string ⟨#[68]⟩,.int .i64 0,.int .i64 0,.string ⟨#[]⟩,.slice none 0 0,.slice none 0 0,.int .i64 1,.string ⟨#[69]⟩,.int .i64 0,.int .i64 0,.string ⟨#[]⟩,.slice none 0 0,.slice none 0 0]
  |20=>fun v W=>∃ b,v=.agg (ppC b).toArray∧Blk W b 64 #[.int .i64 1,.string ⟨#[68]⟩,.int .i64 0,.int .i64 0,.string ⟨#[]⟩,.slice none 0 0,.slice none 0 0,.int .i64 1,.string ⟨#[69]⟩,.int .i64 0,.int .i64 0,.string ⟨#[]⟩,.slice none 0 0,.slice none 0 0]
  |21=>fun v W=>∃ g b,v=.slice (some ⟨g,0,none⟩) 2 2∧Blk W g 53 (lkC bt++ppC b).toArray∧Blk W b 64 #[.int .i64 1,.string ⟨#[68]⟩,.int .i64 0,.int .i64 0,.string ⟨#[]⟩,.slice none 0 0,.slice none 0 0,.int .i64 1,.string ⟨#[69]⟩,.int .i64 0,.int .i64 0,.string ⟨#[]⟩,.slice none 0 0,.slice none 0 0]
  |22=>fun v W=>∃ b c e,v=.agg (rbC b c).toArray∧Blk W b 64 #[.int .i64 1,.string ⟨#[83]⟩,.int .i64 0,.int .i64 0,.string ⟨#[]⟩,.slice none 0 0,.slice none 0 0,.int .i64 1,.string ⟨#[69]⟩,.int .i64 0,.int .i64 0,.string ⟨#[]⟩,.slice none 0 0,.slice none 0 0]∧Blk W c 53 (lkC bt++ppC e).toArray∧Blk W e 64 #[.int .i64 1,.string ⟨#[68]⟩,.int .i64 0,.int .i64 0,.string ⟨#[]⟩,.slice none 0 0,.slice none 0 0,.int .i64 1,.string ⟨#[69]⟩,.int .i64 0,.int .i64 0,.string ⟨#[]⟩,.slice none 0 0,.slice none 0 0]
  |23=>fun v W=>∃ g b c b' c' e,v=.slice (some ⟨g,0,none⟩) 2 2∧ExRu W bt g b c b' c' e
  |24=>fun v W=>∃ d g b c b' c' e,v=.agg #[.slice (some ⟨d,0,none⟩) 6 6,.slice none 0 0,.slice (some ⟨g,0,none⟩) 2 2]∧Blk W d 106 relCells∧ExRu W bt g b c b' c' e
  |25=>fun v W=>∃ b cur,v=.pointer (some ⟨b,0,none⟩)∧Blk W b 29 cur∧cur.size=3∧w.heap.size≤b
  |_=>fun _ _=>True) (by kernel_rfl) (by kernel_rfl) (by kernel_rfl) (by kernel_rfl) (fun j v w1 w2 hc h=>?_) (fun i hn hi o ho A0 W hN hin hk=>?_) (fun l W5 hN hl hΦ=>?_)
 ·match j with
  |0=>exact h.imp fun b h=>⟨h.1,h.2.chg hc id⟩
  |5=>exact h.imp fun b h=>⟨h.1,h.2.chg hc id⟩
  |7=>exact h.imp fun b h=>⟨h.1,h.2.chg hc id⟩
  |8=>exact h.imp fun b h=>h.imp fun c h=>⟨h.1,h.2.1.chg hc id,h.2.2.chg hc id⟩
  |13=>exact h.imp fun b h=>⟨h.1,h.2.chg hc id⟩
  |19=>exact h.imp fun b h=>⟨h.1,h.2.chg hc id⟩
  |20=>exact h.imp fun b h=>⟨h.1,h.2.chg hc id⟩
  |21=>exact h.imp fun g h=>h.imp fun b h=>⟨h.1,h.2.1.chg hc id,h.2.2.chg hc id⟩
  |22=>exact h.imp fun b h=>h.imp fun c h=>h.imp fun e h=>⟨h.1,h.2.1.chg hc id,h.2.2.1.chg hc id,h.2.2.2.chg hc id⟩
  |23=>exact (by obtain ⟨g,b,c,b',c',e,h1,h2⟩:=h;exact ⟨g,b,c,b',c',e,h1,h2.new hc⟩)
  |24=>exact (by obtain ⟨d,g,b,c,b',c',e,h1,h2,h3⟩:=h;exact ⟨d,g,b,c,b',c',e,h1,h2.chg hc id,h3.new hc⟩)
  |25=>exact h.imp fun b h=>h.imp fun cur h=>⟨h.1,h.2.1.chg hc id,h.2.2⟩
  |1|2|3|4|6|9|10|11|12|14|15|16|17|18=>exact h
  |_+26=>trivial
 ·rcases (show i=0∨i=1∨i=2∨i=3∨i=4∨i=5∨i=6∨i=7∨i=8∨i=9∨i=10∨i=11∨i=12∨i=13∨i=14∨i=15∨i=16∨i=17∨i=18∨i=19∨i=20∨i=21∨i=22∨i=23∨i=24∨i=25 by omega) with rfl|rfl|rfl|rfl|rfl|rfl|rfl|rfl|rfl|rfl|rfl|rfl|rfl|rfl|rfl|rfl|rfl|rfl|rfl|rfl|rfl|rfl|rfl|rfl|rfl|rfl<;>cases ho
  ·refine .call (f:=35) (args:=#[]) (W':=W) ?_ ((pf W).mono ?_)
   ·simp [go_sem,HeR.out]
   ·rintro e w' ⟨rfl,hd,hc⟩
    exact ⟨_,rfl,hc,_,rfl,hd⟩
  ·exact .same (uo 1 _ rfl (hk 1)) rfl
  ·have h18:A0.tmps[18]?.getD undef=.func (.func 33) #[] #[]:=hin 1 18
   refine .call (f:=33) (args:=#[.string ⟨#[83]⟩]) (W':=W) ?_ ((cu W ⟨#[83]⟩).mono ?_)
   ·simp [go_sem,h18,HeV.out]
   ·rintro e w' ⟨rfl,hc⟩
    exact ⟨_,rfl,hc,rfl⟩
  ·exact .same (uo 1 _ rfl (hk 1)) rfl
  ·have h20:A0.tmps[20]?.getD undef=.func (.func 33) #[] #[]:=hin 3 20
   refine .call (f:=33) (args:=#[.string ⟨#[68]⟩]) (W':=W) ?_ ((cu W ⟨#[68]⟩).mono ?_)
   ·simp [go_sem,h20,HeV.out]
   ·rintro e w' ⟨rfl,hc⟩
    exact ⟨_,rfl,hc,rfl⟩
  ·have h19:A0.tmps[19]?.getD undef=.agg #[.int .i64 1,.string ⟨#[83]⟩,.int .i64 0,.int .i64 0,.string ⟨#[]⟩,.slice none 0 0,.slice none 0 0]:=hin 2 19
   have h21:A0.tmps[21]?.getD undef=.agg #[.int .i64 1,.string ⟨#[68]⟩,.int .i64 0,.int .i64 0,.string ⟨#[]⟩,.slice none 0 0,.slice none 0 0]:=hin 4 21
   exact .value (W':=W.alloc (.cells #[.int .i64 1,.string ⟨#[83]⟩,.int .i64 0,.int .i64 0,.string ⟨#[]⟩,.slice none 0 0,.slice none 0 0,.int .i64 1,.string ⟨#[68]⟩,.int .i64 0,.int .i64 0,.string ⟨#[]⟩,.slice none 0 0,.slice none 0 0] 64)) (v:=.slice (some ⟨W.heap.size,0,none⟩) 2 2) (by simp [go_sem,h19,h21]) ⟨(Chg.refl _ _).alloc _,_,rfl,Blk.new _ _ _⟩
  ·have h4:A0.tmps[4]?.getD undef=.pointer (some ⟨bt+1,0,none⟩):=hk 4
   exact .same (vu 4 _ rfl gn ⟨bt+1,0,none⟩ (lkC bt) h4 rfl (D4.out.chg hN id).at_) rfl
  ·have h23:A0.tmps[23]?.getD undef=.agg #[.int .i64 1,.string ⟨#[108,105,110,107]⟩,.slice (some ⟨bt,0,none⟩) 3 3]:=hin 6 23
   exact .value (W':=W.alloc (.cells #[.int .i64 1,.string ⟨#[108,105,110,107]⟩,.slice (some ⟨bt,0,none⟩) 3 3] 53)) (v:=.slice (some ⟨W.heap.size,0,none⟩) 1 1) (by simp [go_sem,h23]) ⟨(Chg.refl _ _).alloc _,_,rfl,Blk.new _ _ _⟩
  ·have h22:=hin 5 22
   have h24:=hin 7 24
   obtain ⟨b,e22,hb⟩:=h22
   obtain ⟨c,e24,hc⟩:=h24
   exact .same (v:=.agg (raC b c).toArray) (by simp [go_sem,e22,e24,raC]) ⟨b,c,rfl,hb,hc⟩
  ·exact .same (uo 1 _ rfl (hk 1)) rfl
  ·have h26:A0.tmps[26]?.getD undef=.func (.func 33) #[] #[]:=hin 9 26
   refine .call (f:=33) (args:=#[.string ⟨#[83]⟩]) (W':=W) ?_ ((cu W ⟨#[83]⟩).mono ?_)
   ·simp [go_sem,h26,HeV.out]
   ·rintro e w' ⟨rfl,hc⟩
    exact ⟨_,rfl,hc,rfl⟩
  ·exact .same (uo 1 _ rfl (hk 1)) rfl
  ·have h28:A0.tmps[28]?.getD undef=.func (.func 33) #[] #[]:=hin 11 28
   refine .call (f:=33) (args:=#[.string ⟨#[69]⟩]) (W':=W) ?_ ((cu W ⟨#[69]⟩).mono ?_)
   ·simp [go_sem,h28,HeV.out]
   ·rintro e w' ⟨rfl,hc⟩
    exact ⟨_,rfl,hc,rfl⟩
  ·have h27:A0.tmps[27]?.getD undef=.agg #[.int .i64 1,.string ⟨#[83]⟩,.int .i64 0,.int .i64 0,.string ⟨#[]⟩,.slice none 0 0,.slice none 0 0]:=hin 10 27
   have h29:A0.tmps[29]?.getD undef=.agg #[.int .i64 1,.string ⟨#[69]⟩,.int .i64 0,.int .i64 0,.string ⟨#[]⟩,.slice none 0 0,.slice none 0 0]:=hin 12 29
   exact .value (W':=W.alloc (.cells #[.int .i64 1,.string ⟨#[83]⟩,.int .i64 0,.int .i64 0,.string ⟨#[]⟩,.slice none 0 0,.slice none 0 0,.int .i64 1,.string ⟨#[69]⟩,.int .i64 0,.int .i64 0,.string ⟨#[]⟩,.slice none 0 0,.slice none 0 0] 64)) (v:=.slice (some ⟨W.heap.size,0,none⟩) 2 2) (by simp [go_sem,h27,h29]) ⟨(Chg.refl _ _).alloc _,_,rfl,Blk.new _ _ _⟩
  ·have h4:A0.tmps[4]?.getD undef=.pointer (some ⟨bt+1,0,none⟩):=hk 4
   exact .same (vu 4 _ rfl gn ⟨bt+1,0,none⟩ (lkC bt) h4 rfl (D4.out.chg hN id).at_) rfl
  ·exact .same (uo 1 _ rfl (hk 1)) rfl
  ·have h32:A0.tmps[32]?.getD undef=.func (.func 33) #[] #[]:=hin 15 32
   refine .call (f:=33) (args:=#[.string ⟨#[68]⟩]) (W':=W) ?_ ((cu W ⟨#[68]⟩).mono ?_)
   ·simp [go_sem,h32,HeV.out]
   ·rintro e w' ⟨rfl,hc⟩
    exact ⟨_,rfl,hc,rfl⟩
  ·exact .same (uo 1 _ rfl (hk 1)) rfl
  ·have h34:A0.tmps[34]?.getD undef=.func (.func 33) #[] #[]:=hin 17 34
   refine .call (f:=33) (args:=#[.string ⟨#[69]⟩]) (W':=W) ?_ ((cu W ⟨#[69]⟩).mono ?_)
   ·simp [go_sem,h34,HeV.out]
   ·rintro e w' ⟨rfl,hc⟩
    exact ⟨_,rfl,hc,rfl⟩
  ·have h33:A0.tmps[33]?.getD undef=.agg #[.int .i64 1,.string ⟨#[68]⟩,.int .i64 0,.int .i64 0,.string ⟨#[]⟩,.slice none 0 0,.slice none 0 0]:=hin 16 33
   have h35:A0.tmps[35]?.getD undef=.agg #[.int .i64 1,.string ⟨#[69]⟩,.int .i64 0,.int .i64 0,.string ⟨#[]⟩,.slice none 0 0,.slice none 0 0]:=hin 18 35
   exact .value (W':=W.alloc (.cells #[.int .i64 1,.string ⟨#[68]⟩,.int .i64 0,.int .i64 0,.string ⟨#[]⟩,.slice none 0 0,.slice none 0 0,.int .i64 1,.string ⟨#[69]⟩,.int .i64 0,.int .i64 0,.string ⟨#[]⟩,.slice none 0 0,.slice none 0 0] 64)) (v:=.slice (some ⟨W.heap.size,0,none⟩) 2 2) (by simp [go_sem,h33,h35]) ⟨(Chg.refl _ _).alloc _,_,rfl,Blk.new _ _ _⟩
  ·have h36:=hin 19 36
   obtain ⟨b,e36,hb⟩:=h36
   exact .same (v:=.agg (ppC b).toArray) (by simp [go_sem,e36,ppC]) ⟨b,rfl,hb⟩
  ·have h31:A0.tmps[31]?.getD undef=.agg #[.int .i64 1,.string ⟨#[108,105,110,107]⟩,.slice (some ⟨bt,0,none⟩) 3 3]:=hin 14 31
   have h37:=hin 20 37
   obtain ⟨b,e37,hb⟩:=h37
   exact .value (W':=W.alloc (.cells (lkC bt++ppC b).toArray 53)) (v:=.slice (some ⟨W.heap.size,0,none⟩) 2 2) (by simp [go_sem,h31,e37,ppC,lkC]) ⟨(Chg.refl _ _).alloc _,_,b,rfl,Blk.new _ _ _,hb.alloc _⟩
  ·have h30:=hin 13 30
   have h38:=hin 21 38
   obtain ⟨b,e30,hb⟩:=h30
   obtain ⟨c,e,e38,hc,he⟩:=h38
   exact .same (v:=.agg (rbC b c).toArray) (by simp [go_sem,e30,e38,rbC]) ⟨b,c,e,rfl,hb,hc,he⟩
  ·have h25:=hin 8 25
   have h39:=hin 22 39
   obtain ⟨b,c,e25,hb,hc⟩:=h25
   obtain ⟨b',c',e,e39,hb',hc',he⟩:=h39
   exact .value (W':=W.alloc (.cells (raC b c++rbC b' c').toArray 47)) (v:=.slice (some ⟨W.heap.size,0,none⟩) 2 2) (by simp [go_sem,e25,e39,raC,rbC]) ⟨(Chg.refl _ _).alloc _,_,b,c,b',c',e,rfl,Blk.new _ _ _,hb.alloc _,hc.alloc _,hb'.alloc _,hc'.alloc _,he.alloc _,(DT.out.chg hN id).alloc _⟩
  ·have h17:=hin 0 17
   have h40:=hin 23 40
   obtain ⟨d,e17,hd⟩:=h17
   obtain ⟨g,b,c,b',c',e,e40,hr⟩:=h40
   exact .same (v:=.agg #[.slice (some ⟨d,0,none⟩) 6 6,.slice none 0 0,.slice (some ⟨g,0,none⟩) 2 2]) (by simp [go_sem,e17,e40]) ⟨d,g,b,c,b',c',e,rfl,hd,hr⟩
  ·exact .value (W':=W.alloc (.cells #[.slice none 0 0,.slice none 0 0,.slice none 0 0] 29)) (v:=.pointer (some ⟨W.heap.size,0,none⟩)) (by simp [go_sem]) ⟨(Chg.refl _ _).alloc _,_,_,rfl,Blk.new _ _ _,rfl,qb DN.out.size hN.size⟩
 have hlq0:l.length=26:=hl
 obtain ⟨x17,lq1,rfl,hlq1⟩:=vw hlq0
 obtain ⟨x18,lq2,rfl,hlq2⟩:=vw hlq1
 obtain ⟨x19,lq3,rfl,hlq3⟩:=vw hlq2
 obtain ⟨x20,lq4,rfl,hlq4⟩:=vw hlq3
 obtain ⟨x21,lq5,rfl,hlq5⟩:=vw hlq4
 obtain ⟨x22,lq6,rfl,hlq6⟩:=vw hlq5
 obtain ⟨x23,lq7,rfl,hlq7⟩:=vw hlq6
 obtain ⟨x24,lq8,rfl,hlq8⟩:=vw hlq7
 obtain ⟨x25,lq9,rfl,hlq9⟩:=vw hlq8
 obtain ⟨x26,lq10,rfl,hlq10⟩:=vw hlq9
 obtain ⟨x27,lq11,rfl,hlq11⟩:=vw hlq10
 obtain ⟨x28,lq12,rfl,hlq12⟩:=vw hlq11
 obtain ⟨x29,lq13,rfl,hlq13⟩:=vw hlq12
 obtain ⟨x30,lq14,rfl,hlq14⟩:=vw hlq13
 obtain ⟨x31,lq15,rfl,hlq15⟩:=vw hlq14
 obtain ⟨x32,lq16,rfl,hlq16⟩:=vw hlq15
 obtain ⟨x33,lq17,rfl,hlq17⟩:=vw hlq16
 obtain ⟨x34,lq18,rfl,hlq18⟩:=vw hlq17
 obtain ⟨x35,lq19,rfl,hlq19⟩:=vw hlq18
 obtain ⟨x36,lq20,rfl,hlq20⟩:=vw hlq19
 obtain ⟨x37,lq21,rfl,hlq21⟩:=vw hlq20
 obtain ⟨x38,lq22,rfl,hlq22⟩:=vw hlq21
 obtain ⟨x39,lq23,rfl,hlq23⟩:=vw hlq22
 obtain ⟨x40,lq24,rfl,hlq24⟩:=vw hlq23
 obtain ⟨x41,lq25,rfl,hlq25⟩:=vw hlq24
 obtain ⟨x5,lq26,rfl,hlq26⟩:=vw hlq25
 obtain rfl:=ze hlq26
 clear hlq0 hlq1 hlq2 hlq3 hlq4 hlq5 hlq6 hlq7 hlq8 hlq9 hlq10 hlq11 hlq12 hlq13 hlq14 hlq15 hlq16 hlq17 hlq18 hlq19 hlq20 hlq21 hlq22 hlq23 hlq24 hlq25 hlq26
 have hx17:=hΦ 0 (by decide)
 obtain rfl:x18=.func (.func 33) #[] #[]:=hΦ 1 (by decide)
 obtain rfl:x19=.agg #[.int .i64 1,.string ⟨#[83]⟩,.int .i64 0,.int .i64 0,.string ⟨#[]⟩,.slice none 0 0,.slice none 0 0]:=hΦ 2 (by decide)
 obtain rfl:x20=.func (.func 33) #[] #[]:=hΦ 3 (by decide)
 obtain rfl:x21=.agg #[.int .i64 1,.string ⟨#[68]⟩,.int .i64 0,.int .i64 0,.string ⟨#[]⟩,.slice none 0 0,.slice none 0 0]:=hΦ 4 (by decide)
 have hx22:=hΦ 5 (by decide)
 obtain rfl:x23=.agg #[.int .i64 1,.string ⟨#[108,105,110,107]⟩,.slice (some ⟨bt,0,none⟩) 3 3]:=hΦ 6 (by decide)
 have hx24:=hΦ 7 (by decide)
 have hx25:=hΦ 8 (by decide)
 obtain rfl:x26=.func (.func 33) #[] #[]:=hΦ 9 (by decide)
 obtain rfl:x27=.agg #[.int .i64 1,.string ⟨#[83]⟩,.int .i64 0,.int .i64 0,.string ⟨#[]⟩,.slice none 0 0,.slice none 0 0]:=hΦ 10 (by decide)
 obtain rfl:x28=.func (.func 33) #[] #[]:=hΦ 11 (by decide)
 obtain rfl:x29=.agg #[.int .i64 1,.string ⟨#[69]⟩,.int .i64 0,.int .i64 0,.string ⟨#[]⟩,.slice none 0 0,.slice none 0 0]:=hΦ 12 (by decide)
 have hx30:=hΦ 13 (by decide)
 obtain rfl:x31=.agg #[.int .i64 1,.string ⟨#[108,105,110,107]⟩,.slice (some ⟨bt,0,none⟩) 3 3]:=hΦ 14 (by decide)
 obtain rfl:x32=.func (.func 33) #[] #[]:=hΦ 15 (by decide)
 obtain rfl:x33=.agg #[.int .i64 1,.string ⟨#[68]⟩,.int .i64 0,.int .i64 0,.string ⟨#[]⟩,.slice none 0 0,.slice none 0 0]:=hΦ 16 (by decide)
 obtain rfl:x34=.func (.func 33) #[] #[]:=hΦ 17 (by decide)
 obtain rfl:x35=.agg #[.int .i64 1,.string ⟨#[69]⟩,.int .i64 0,.int .i64 0,.string ⟨#[]⟩,.slice none 0 0,.slice none 0 0]:=hΦ 18 (by decide)
 have hx36:=hΦ 19 (by decide)
 have hx37:=hΦ 20 (by decide)
 have hx38:=hΦ 21 (by decide)
 have hx39:=hΦ 22 (by decide)
 have hx40:=hΦ 23 (by decide)
 have hx41:=hΦ 24 (by decide)
 have hx5:=hΦ 25 (by decide)
 simp only [putsL,zq,zj,zz,List.zip,List.zipWith,Act.put,qk,qu,qy]
 clear hΦ hl
 obtain ⟨dd,gg,b,c,b',c',e,rfl,hdd,hex⟩:=hx41
 obtain ⟨b5,cur,rfl,hb5,hcs,hbl⟩:=hx5
 have ED:=qq hdd
 have EX:=qq hex
 have E5:=qq hb5
 have Ecs:=qq hcs
 have Ebl:=qq hbl
 have E3:=qq (D3.out.chg hN id)
 have EN:=qq (DN.out.trans hN qdr)
 clear hdd hex hb5 hcs hbl hN hx17 hx22 hx24 hx25 hx30 hx36 hx37 hx38 hx39 hx40 D3 D4 DT DN
 refine AtN.list 26 27 (by kernel_rfl) ?_
 change wpList _ _ _ [_] _ _
 go_wp2_with ((with_reducible refine xq rfl (.tmp 5) (.tmp 41) 29 rfl rfl xp b5 29 _ [.slice (some ⟨dd,0,none⟩) 6 6,.slice none 0 0,.slice (some ⟨gg,0,none⟩) 2 2] ?_ ?_ E5.out rfl Ecs.out (gt rfl rfl rfl) ?_);exact rfl;exact rfl;intro w6 hc6 hb6 hs6;have HP6:=qq hb6;have HC6:=qq hc6;clear hc6 hb6 hs6)
 change AtN _ _ _ 27 _ _
 refine AtN.done rfl ?_
 have hne3:b3≠b5:=Blk.ne E3.out E5.out (by decide)
 have H3:=qq (E3.out.chg HC6.out hne3)
 have hD6:=ED.out.chg HC6.out (Blk.ne ED.out E5.out (by decide))
 have HPg:=qq ((EX.out.chg HC6.out (fun k hk=>⟨cur,by rw [show k=b5 from hk];exact E5.out⟩)).pg hD6)
 have HN6:=qq (show New w w6 from EN.out.trans HC6.out (fun k hk h=>by have:=Ebl.out;omega))
 clear hne3 hD6 ED EX E5 Ecs Ebl E3 EN HC6
 go_upto_region 6 with fail
 refine vj (by kernel_rfl) ?_
 have hnd:New w6 w6.drew:=(Chg.refl _ _).drew
 have D3:=qq (H3.out.chg hnd id)
 have DP:=qq (HP6.out.chg hnd id)
 have DG:=qq (HPg.out.chg hnd)
 have DN:=qq (HN6.out.trans hnd qdr)
 clear hnd
 generalize w6.drew=wd at D3 DP DG DN⊢
 refine AtN.segN2 0 18 [43,44,45,46,47,48,49,50,51,52,53,54,55,56,57,58,59,42] (fun
  |0=>fun vv _=>vv=.agg #[.slice (some ⟨dd,0,none⟩) 6 6,.slice none 0 0,.slice (some ⟨gg,0,none⟩) 2 2]
  |1=>fun vv _=>vv=.func (.func 34) #[] #[]
  |2=>fun vv _=>vv=.agg #[.int .i64 3,.int .i64 0,.string ⟨#[120]⟩,.slice none 0 0]
  |3=>fun vv _=>vv=.func (.func 34) #[] #[]
  |4=>fun vv _=>vv=.agg #[.int .i64 3,.int .i64 0,.string ⟨#[121]⟩,.slice none 0 0]
  |5=>fun vv _=>vv=.agg #[.int .i64 1,.int .i64 1,.string ⟨#[]⟩,.slice none 0 0]
  |6=>fun v W=>∃ b,v=.slice (some ⟨b,0,none⟩) 3 3∧Blk W b 62 #[.int .i64 3,.int .i64 0,.string ⟨#[120]⟩,.slice none 0 0,.int .i64 3,.int .i64 0,.string ⟨#[121]⟩,.slice none 0 0,.int .i64 1,.int .i64 1,.string ⟨#[]⟩,.slice none 0 0]
  |7=>fun v W=>∃ b,v=.agg #[.string ⟨#[108,105,110,107]⟩,.slice (some ⟨b,0,none⟩) 3 3,.int .i64 5]∧Blk W b 62 #[.int .i64 3,.int .i64 0,.string ⟨#[120]⟩,.slice none 0 0,.int .i64 3,.int .i64 0,.string ⟨#[121]⟩,.slice none 0 0,.int .i64 1,.int .i64 1,.string ⟨#[]⟩,.slice none 0 0]
  |8=>fun vv _=>vv=.func (.func 34) #[] #[]
  |9=>fun vv _=>vv=.agg #[.int .i64 3,.int .i64 0,.string ⟨#[121]⟩,.slice none 0 0]
  |10=>fun vv _=>vv=.func (.func 34) #[] #[]
  |11=>fun vv _=>vv=.agg #[.int .i64 3,.int .i64 0,.string ⟨#[122]⟩,.slice none 0 0]
  |12=>fun vv _=>vv=.agg #[.int .i64 1,.int .i64 1,.string ⟨#[]⟩,.slice none 0 0]
  |13=>fun v W=>∃ b,v=.slice (some ⟨b,0,none⟩) 3 3∧Blk W b 62 #[.int .i64 3,.int .i64 0,.string ⟨#[121]⟩,.slice none 0 0,.int .i64 3,.int .i64 0,.string ⟨#[122]⟩,.slice none 0 0,.int .i64 1,.int .i64 1,.string ⟨#[]⟩,.slice none 0 0]
  |14=>fun v W=>∃ b,v=.agg #[.string ⟨#[108,105,110,107]⟩,.slice (some ⟨b,0,none⟩) 3 3,.int .i64 3]∧Blk W b 62 #[.int .i64 3,.int .i64 0,.string ⟨#[121]⟩,.slice none 0 0,.int .i64 3,.int .i64 0,.string ⟨#[122]⟩,.slice none 0 0,.int .i64 1,.int .i64 1,.string ⟨#[]⟩,.slice none 0 0]
  |15=>fun v W=>RowSl W v bs12
  |16=>fun v W=>∃ A c m,v=.tuple #[.slice A 5 c,.bool true]∧RowSl W (.slice A 5 c) m∧m=out12
  |17=>fun v W=>∃ A c m,v=.tuple #[.slice A 5 c,.bool true]∧RowSl W (.slice A 5 c) m∧m=out12
  |_=>fun _ _=>True) (by kernel_rfl) (by kernel_rfl) (by kernel_rfl) (by kernel_rfl) (fun j v w1 w2 hc h=>?_) (fun i hn hi o ho A0 W hN hin hk=>?_) (fun l W7 hN hl hΦ=>?_)
 ·match j with
  |6=>exact h.imp fun b h=>⟨h.1,h.2.chg hc id⟩
  |7=>exact h.imp fun b h=>⟨h.1,h.2.chg hc id⟩
  |13=>exact h.imp fun b h=>⟨h.1,h.2.chg hc id⟩
  |14=>exact h.imp fun b h=>⟨h.1,h.2.chg hc id⟩
  |15=>exact h.chg hc
  |16=>exact (by obtain ⟨A,c,m,h1,h2,h3⟩:=h;exact ⟨A,c,m,h1,h2.chg hc,h3⟩)
  |17=>exact (by obtain ⟨A,c,m,h1,h2,h3⟩:=h;exact ⟨A,c,m,h1,h2.chg hc,h3⟩)
  |0|1|2|3|4|5|8|9|10|11|12=>exact h
  |_+18=>trivial
 ·rcases (show i=0∨i=1∨i=2∨i=3∨i=4∨i=5∨i=6∨i=7∨i=8∨i=9∨i=10∨i=11∨i=12∨i=13∨i=14∨i=15∨i=16∨i=17 by omega) with rfl|rfl|rfl|rfl|rfl|rfl|rfl|rfl|rfl|rfl|rfl|rfl|rfl|rfl|rfl|rfl|rfl|rfl<;>cases ho
  ·have h5:A0.tmps[5]?.getD undef=.pointer (some ⟨b5,0,none⟩):=hk 5
   exact .same (vu 5 _ rfl xp ⟨b5,0,none⟩ [.slice (some ⟨dd,0,none⟩) 6 6,.slice none 0 0,.slice (some ⟨gg,0,none⟩) 2 2] h5 rfl (DP.out.chg hN id).at_) rfl
  ·exact .same (uo 2 _ rfl (hk 2)) rfl
  ·have h44:A0.tmps[44]?.getD undef=.func (.func 34) #[] #[]:=hin 1 44
   refine .call (f:=34) (args:=#[.string ⟨#[120]⟩]) (W':=W) ?_ ((du W ⟨#[120]⟩).mono ?_)
   ·simp [go_sem,h44,HeA.out]
   ·rintro e w' ⟨rfl,hc⟩
    exact ⟨_,rfl,hc,rfl⟩
  ·exact .same (uo 2 _ rfl (hk 2)) rfl
  ·have h46:A0.tmps[46]?.getD undef=.func (.func 34) #[] #[]:=hin 3 46
   refine .call (f:=34) (args:=#[.string ⟨#[121]⟩]) (W':=W) ?_ ((du W ⟨#[121]⟩).mono ?_)
   ·simp [go_sem,h46,HeA.out]
   ·rintro e w' ⟨rfl,hc⟩
    exact ⟨_,rfl,hc,rfl⟩
  ·have h3:A0.tmps[3]?.getD undef=.pointer (some ⟨b3,0,none⟩):=hk 3
   exact .same (vu 3 _ rfl vz ⟨b3,0,none⟩ [.int .i64 1,.int .i64 1,.string ⟨#[]⟩,.slice none 0 0] h3 rfl (D3.out.chg hN id).at_) rfl
  ·have h45:A0.tmps[45]?.getD undef=.agg #[.int .i64 3,.int .i64 0,.string ⟨#[120]⟩,.slice none 0 0]:=hin 2 45
   have h47:A0.tmps[47]?.getD undef=.agg #[.int .i64 3,.int .i64 0,.string ⟨#[121]⟩,.slice none 0 0]:=hin 4 47
   have h48:A0.tmps[48]?.getD undef=.agg #[.int .i64 1,.int .i64 1,.string ⟨#[]⟩,.slice none 0 0]:=hin 5 48
   exact .value (W':=W.alloc (.cells #[.int .i64 3,.int .i64 0,.string ⟨#[120]⟩,.slice none 0 0,.int .i64 3,.int .i64 0,.string ⟨#[121]⟩,.slice none 0 0,.int .i64 1,.int .i64 1,.string ⟨#[]⟩,.slice none 0 0] 62)) (v:=.slice (some ⟨W.heap.size,0,none⟩) 3 3) (by simp [go_sem,h45,h47,h48]) ⟨(Chg.refl _ _).alloc _,_,rfl,Blk.new _ _ _⟩
  ·have h49:=hin 6 49
   obtain ⟨b,e49,hb⟩:=h49
   exact .same (v:=.agg #[.string ⟨#[108,105,110,107]⟩,.slice (some ⟨b,0,none⟩) 3 3,.int .i64 5]) (by simp [go_sem,e49]) ⟨b,rfl,hb⟩
  ·exact .same (uo 2 _ rfl (hk 2)) rfl
  ·have h51:A0.tmps[51]?.getD undef=.func (.func 34) #[] #[]:=hin 8 51
   refine .call (f:=34) (args:=#[.string ⟨#[121]⟩]) (W':=W) ?_ ((du W ⟨#[121]⟩).mono ?_)
   ·simp [go_sem,h51,HeA.out]
   ·rintro e w' ⟨rfl,hc⟩
    exact ⟨_,rfl,hc,rfl⟩
  ·exact .same (uo 2 _ rfl (hk 2)) rfl
  ·have h53:A0.tmps[53]?.getD undef=.func (.func 34) #[] #[]:=hin 10 53
   refine .call (f:=34) (args:=#[.string ⟨#[122]⟩]) (W':=W) ?_ ((du W ⟨#[122]⟩).mono ?_)
   ·simp [go_sem,h53,HeA.out]
   ·rintro e w' ⟨rfl,hc⟩
    exact ⟨_,rfl,hc,rfl⟩
  ·have h3:A0.tmps[3]?.getD undef=.pointer (some ⟨b3,0,none⟩):=hk 3
   exact .same (vu 3 _ rfl vz ⟨b3,0,none⟩ [.int .i64 1,.int .i64 1,.string ⟨#[]⟩,.slice none 0 0] h3 rfl (D3.out.chg hN id).at_) rfl
  ·have h52:A0.tmps[52]?.getD undef=.agg #[.int .i64 3,.int .i64 0,.string ⟨#[121]⟩,.slice none 0 0]:=hin 9 52
   have h54:A0.tmps[54]?.getD undef=.agg #[.int .i64 3,.int .i64 0,.string ⟨#[122]⟩,.slice none 0 0]:=hin 11 54
   have h55:A0.tmps[55]?.getD undef=.agg #[.int .i64 1,.int .i64 1,.string ⟨#[]⟩,.slice none 0 0]:=hin 12 55
   exact .value (W':=W.alloc (.cells #[.int .i64 3,.int .i64 0,.string ⟨#[121]⟩,.slice none 0 0,.int .i64 3,.int .i64 0,.string ⟨#[122]⟩,.slice none 0 0,.int .i64 1,.int .i64 1,.string ⟨#[]⟩,.slice none 0 0] 62)) (v:=.slice (some ⟨W.heap.size,0,none⟩) 3 3) (by simp [go_sem,h52,h54,h55]) ⟨(Chg.refl _ _).alloc _,_,rfl,Blk.new _ _ _⟩
  ·have h56:=hin 13 56
   obtain ⟨b,e56,hb⟩:=h56
   exact .same (v:=.agg #[.string ⟨#[108,105,110,107]⟩,.slice (some ⟨b,0,none⟩) 3 3,.int .i64 3]) (by simp [go_sem,e56]) ⟨b,rfl,hb⟩
  ·have h50:=hin 7 50
   have h57:=hin 14 57
   obtain ⟨b,e50,hb⟩:=h50
   obtain ⟨b',e57,hb'⟩:=h57
   have hn1:New W (W.alloc (.cells #[.string ⟨#[108,105,110,107]⟩,.slice (some ⟨b,0,none⟩) 3 3,.int .i64 5,.string ⟨#[108,105,110,107]⟩,.slice (some ⟨b',0,none⟩) 3 3,.int .i64 3] 42)):=(Chg.refl _ _).alloc _
   exact .value (W':=W.alloc (.cells #[.string ⟨#[108,105,110,107]⟩,.slice (some ⟨b,0,none⟩) 3 3,.int .i64 5,.string ⟨#[108,105,110,107]⟩,.slice (some ⟨b',0,none⟩) 3 3,.int .i64 3] 42)) (v:=.slice (some ⟨W.heap.size,0,none⟩) 2 2) (by simp [go_sem,e50,e57]) ⟨hn1,qdn (css:=[[.string ⟨#[108,105,110,107]⟩,.slice (some ⟨b,0,none⟩) 3 3,.int .i64 5],[.string ⟨#[108,105,110,107]⟩,.slice (some ⟨b',0,none⟩) 3 3,.int .i64 3]]) (Blk.new _ _ _) (qaa (ew ⟨#[108,105,110,107]⟩ [adr 120,adr 121,oneV] 5 (by decide) (hb.chg hn1 id)) (ew ⟨#[108,105,110,107]⟩ [adr 121,adr 122,oneV] 3 (by decide) (hb'.chg hn1 id))) (by decide)⟩
  ·have h43:A0.tmps[43]?.getD undef=.agg #[.slice (some ⟨dd,0,none⟩) 6 6,.slice none 0 0,.slice (some ⟨gg,0,none⟩) 2 2]:=hin 0 43
   have h58:=hin 15 58
   obtain ⟨x58,hx58⟩:=qdp (A0.tmps[58]?.getD undef)
   rw [hx58] at h58
   refine .call (f:=17) (args:=#[(.agg #[.slice (some ⟨dd,0,none⟩) 6 6,.slice none 0 0,.slice (some ⟨gg,0,none⟩) 2 2]),x58,.int .i64 9]) (W':=W) ?_ ((rm W (.agg #[.slice (some ⟨dd,0,none⟩) 6 6,.slice none 0 0,.slice (some ⟨gg,0,none⟩) 2 2]) [rA,rB] (DG.out.chg hN) ex_ruP ex_rel ex_okk x58 bs12 h58 bs_ok.1 bs_ok.2 9 (by omega)).mono ?_)
   ·simp [go_sem,h43,hx58,HeF.out]
   ·rintro e w' ⟨v',m',b',rfl,hs',hf',hc⟩
    obtain ⟨e1,rfl⟩:=ex_fix hf'
    rw [e1] at hs'
    obtain ⟨A,c,rfl,-⟩:=hs'.form
    exact ⟨_,rfl,hc,A,c,out12,rfl,hs',rfl⟩
  ·have h59:=hin 16 59
   obtain ⟨A,c,m,e59,h1,h2⟩:=h59
   exact .same (v:=.tuple #[.slice A 5 c,.bool true]) (by simp [go_sem,e59]) ⟨A,c,m,rfl,h1,h2⟩
 obtain ⟨y43,y44,y45,y46,y47,y48,y49,y50,y51,y52,y53,y54,y55,y56,y57,y58,y59,y42,rfl⟩:∃ y43 y44 y45 y46 y47 y48 y49 y50 y51 y52 y53 y54 y55 y56 y57 y58 y59 y42,l=[y43,y44,y45,y46,y47,y48,y49,y50,y51,y52,y53,y54,y55,y56,y57,y58,y59,y42]:=by
  match l,hl with
  | [y43,y44,y45,y46,y47,y48,y49,y50,y51,y52,y53,y54,y55,y56,y57,y58,y59,y42],_=>exact ⟨_,_,_,_,_,_,_,_,_,_,_,_,_,_,_,_,_,_,rfl⟩
 obtain rfl:y43=.agg #[.slice (some ⟨dd,0,none⟩) 6 6,.slice none 0 0,.slice (some ⟨gg,0,none⟩) 2 2]:=hΦ 0 (by decide)
 obtain rfl:y44=.func (.func 34) #[] #[]:=hΦ 1 (by decide)
 obtain rfl:y45=.agg #[.int .i64 3,.int .i64 0,.string ⟨#[120]⟩,.slice none 0 0]:=hΦ 2 (by decide)
 obtain rfl:y46=.func (.func 34) #[] #[]:=hΦ 3 (by decide)
 obtain rfl:y47=.agg #[.int .i64 3,.int .i64 0,.string ⟨#[121]⟩,.slice none 0 0]:=hΦ 4 (by decide)
 obtain rfl:y48=.agg #[.int .i64 1,.int .i64 1,.string ⟨#[]⟩,.slice none 0 0]:=hΦ 5 (by decide)
 have hy49:=hΦ 6 (by decide)
 have hy50:=hΦ 7 (by decide)
 obtain rfl:y51=.func (.func 34) #[] #[]:=hΦ 8 (by decide)
 obtain rfl:y52=.agg #[.int .i64 3,.int .i64 0,.string ⟨#[121]⟩,.slice none 0 0]:=hΦ 9 (by decide)
 obtain rfl:y53=.func (.func 34) #[] #[]:=hΦ 10 (by decide)
 obtain rfl:y54=.agg #[.int .i64 3,.int .i64 0,.string ⟨#[122]⟩,.slice none 0 0]:=hΦ 11 (by decide)
 obtain rfl:y55=.agg #[.int .i64 1,.int .i64 1,.string ⟨#[]⟩,.slice none 0 0]:=hΦ 12 (by decide)
 have hy56:=hΦ 13 (by decide)
 have hy57:=hΦ 14 (by decide)
 have hy58:=hΦ 15 (by decide)
 have hy59:=hΦ 16 (by decide)
 have hy42:=hΦ 17 (by decide)
 simp only [putsL,zq,zj,zz,List.zip,List.zipWith,Act.put,qk,qu,qy]
 clear hΦ hl
 obtain ⟨A5,c5,m5,rfl,hs5,hm5⟩:=hy42
 subst hm5
 have HV:=qq hs5
 have HN:=qq (DN.out.trans hN qdr)
 clear hs5 hN hy49 hy50 hy56 hy57 hy58 hy59 D3 DP DG DN
 refine AtN.segQ2 18 22 (fun
  |18=>.slice A5 5 c5
  |19=>.bool true
  |20=>.slice A5 5 c5
  |_=>.bool true)
  [(60,.slice A5 5 c5),(61,.bool true),(6,.slice A5 5 c5),(7,.bool true)] (by kernel_rfl) (by kernel_rfl) (by kernel_rfl) (by kernel_rfl) rfl (fun i hn hi o ho A0 hin hk=>?_) ?_
 ·rcases (show i=18∨i=19∨i=20∨i=21 by omega) with rfl|rfl|rfl|rfl<;>cases ho
  ·have h42:A0.tmps[42]?.getD undef=.tuple #[.slice A5 5 c5,.bool true]:=hk 42
   exact by simp [go_sem,h42]
  ·have h42:A0.tmps[42]?.getD undef=.tuple #[.slice A5 5 c5,.bool true]:=hk 42
   exact by simp [go_sem,h42]
  ·have h60:A0.tmps[60]?.getD undef=.slice A5 5 c5:=hin 18 60
   exact by simp [go_sem,h60]
  ·have h61:A0.tmps[61]?.getD undef=.bool true:=hin 19 61
   exact by simp [go_sem,h61]
 simp only [putsL,Act.put,qk,qu,qy]
 refine AtN.done rfl ?_
 have HF1:=qq (show findS out12 (prw 120 121 0)=5 by decide+kernel)
 have HF2:=qq (show findS out12 (prw 120 122 0)=3 by decide+kernel)
 have HF3:=qq (show findS out12 (prw 121 122 0)=3 by decide+kernel)
 have HFd:=qq (fun W (hW:RowSl W (.slice A5 5 c5) out12) g x y (hb:Blk W g 62 ((([adr x,adr y]:List Vl).map vcs).flatten).toArray)=>rx W _ out12 hW _ (prw x y 0) (ew ⟨#[112]⟩ [adr x,adr y] 0 (by show 2≤1000;omega) hb))
 go_wp2_with (go_at_call 34;refine (du _ _).mono ?_;rintro e wn ⟨rfl,hn⟩;have HN:=qq (HN.out.trans hn qdr);have HV:=qq (HV.out.chg hn);clear hn)
 refine (HFd.out _ (HV.out.chg ((Chg.refl _ _).alloc _)) _ 120 121 (Blk.new _ _ _)).mono ?_
 rintro e wf ⟨rfl,hn⟩
 rw [HF1.out]
 have HN:=qq ((HN.out.alloc _).trans hn qdr)
 have HV:=qq ((HV.out.chg ((Chg.refl _ _).alloc _)).chg hn)
 clear hn
 go_wp2_with (go_at_call 34;refine (du _ _).mono ?_;rintro e wn ⟨rfl,hn⟩;have HN:=qq (HN.out.trans hn qdr);have HV:=qq (HV.out.chg hn);clear hn)
 refine (HFd.out _ (HV.out.chg ((Chg.refl _ _).alloc _)) _ 120 122 (Blk.new _ _ _)).mono ?_
 rintro e wf ⟨rfl,hn⟩
 rw [HF2.out]
 have HN:=qq ((HN.out.alloc _).trans hn qdr)
 have HV:=qq ((HV.out.chg ((Chg.refl _ _).alloc _)).chg hn)
 clear hn
 go_wp2_with (go_at_call 34;refine (du _ _).mono ?_;rintro e wn ⟨rfl,hn⟩;have HN:=qq (HN.out.trans hn qdr);have HV:=qq (HV.out.chg hn);clear hn)
 refine (HFd.out _ (HV.out.chg ((Chg.refl _ _).alloc _)) _ 121 122 (Blk.new _ _ _)).mono ?_
 rintro e wf ⟨rfl,hn⟩
 rw [HF3.out]
 have HN:=qq ((HN.out.alloc _).trans hn qdr)
 have HV:=qq ((HV.out.chg ((Chg.refl _ _).alloc _)).chg hn)
 clear hn
 go_wp2_with fail
 go_ret
 exact ⟨rfl,HN.out⟩
def tp (c:Int):upN (vNm c):=by
 unfold vNm
 split <;> exact ⟨_,rfl,by decide,by decide⟩
def rawV.okP {v:Vl} (h:rawV v):okP v:=by
 rcases h with ⟨i,h0,h1,rfl⟩| ⟨b,h0,h1,rfl⟩
 ·exact .inl ⟨rfl,rfl,by show -2147483647≤i;omega,by show i≤2147483647;omega⟩
 ·exact .inr ⟨rfl,rfl,b,rfl,h0,by omega⟩
def flatT.p {t:Tm} (h:flatT t):flatP t:=by
 rcases h with ⟨c,rfl⟩| ⟨v,rfl,hv⟩
 ·exact .inl ⟨_,rfl,tp c⟩
 ·exact .inr ⟨v,rfl,hv.okP⟩
def rawT.p:∀ {t:Tm},rawT t→prT t
 | .var s,⟨c,h⟩=>.inl (.inl ⟨s,rfl,h▸tp c⟩)
 | .val v,h=>.inl (.inr ⟨v,rfl,rawV.okP h⟩)
 | .op m a b,⟨⟨c,h⟩,h2⟩=>.inr ⟨m,a,b,rfl,.inl ⟨_,h,tp c⟩,h2.p⟩
def rh {nm:ByteArray} {n:Int} (h:∃ p:Nat,relCs[p]? =some (nm,n)):(nm,n)∈relCs:=by
 obtain ⟨p,h⟩:=h
 exact qf h
def rawL.p {L:Lt} (h:rawL L):litP L:=by
 cases L with
 |atom b nm ts=>
  obtain ⟨h1,h2,h3,⟨c,h4⟩,h5⟩:=h
  exact ⟨(lh (rh h1)).1,h2,h3,⟨_,h4,.inl ⟨_,rfl⟩⟩,fun t ht=>(h5 t ht).p⟩
 |test j a b=>
  obtain ⟨h1,⟨c,rfl⟩,h3⟩:=h
  exact ⟨h1,.inl (.inl ⟨_,rfl,tp c⟩),rawT.p h3⟩
 |assign nm t=>
  obtain ⟨⟨c,rfl⟩,h2⟩:=h
  exact ⟨tp c,rawT.p h2⟩
def rawL.rel {L:Lt} (h:rawL L):relL L:=by
 cases L with
 |atom b nm ts=>exact rh h.1
 |test j a b=>trivial
 |assign nm t=>trivial
section
variable {rs:List Ru} (hraw:∀ r∈rs,r.Raw∧r.aggOk)
include hraw
end
def pc {rs:List Ru} {most:Nat} {x m:List Rw} (hok:∀ r∈rs,r.Ok) (hm:most≤48) (hx:OkR x) (hs:StR x) (h:Fixes rs id most x m true):
  ∃ s,strV rs=some s∧m.length≤most∧Fine m∧Under x m∧∀ r∈rs,Under (ruleV r m) m:=by
 unfold Fixes at h
 cases hst:strV rs with
 |none=>rw [hst] at h;exact absurd h.2 (by decide)
 |some s=>
  rw [hst] at h
  obtain ⟨h1,h2,h3,-⟩:=Rnds.keeps hok (fun l=>List.Sublist.refl l) hm h (gq hx hs)
  obtain ⟨-,h6,-,he⟩:=ba hst
  have hc:=Rnds.closed hok he hm h rfl (gq hx hs) (fun r _ hk=>absurd hk (by omega))
  refine ⟨s,rfl,h3 rfl,h1,(pu hx.can).trans h2,fun r hr=>hc r hr ?_⟩
  rw [jn]
  have hi:relI r.h < s.length:=by rw [h6];exact dz _
  rw [yx,qz hi]
  exact topN_gt _ (List.getElem_mem hi)
section
variable {rs qs:List Ru} {s:List Nat} {most q:Nat}
end
end Go.Proofs.YtbpgfnbhihklnaaGreat
