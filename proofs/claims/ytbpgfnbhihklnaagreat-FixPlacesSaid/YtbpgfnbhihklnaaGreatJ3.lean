/- Part 3 of what stands beneath. -/
import Derived.Test.YtbpgfnbhihklnaaGreatJ2
set_option maxHeartbeats 8000000
set_option maxRecDepth 100000
set_option linter.all false
namespace Go.Proofs.YtbpgfnbhihklnaaGreat
open Go.RowKit Go.Shelf
def RowsCs (w:World) (css:List (List Value)) (rs:List Rw):Prop:=css.length=rs.length∧∀ (i:Nat) (cs:List Value),css[i]? =some cs→∃ r,rs[i]? =some r∧RowAt w cs r
def RowsCs.chg {w w':World} {css:List (List Value)} {rs:List Rw} (h:RowsCs w css rs) (hc:New w w'):RowsCs w' css rs:=⟨h.1,fun i cs hi=>by
 obtain ⟨r,h1,h2⟩:=h.2 i cs hi
 exact ⟨r,h1,h2.chg hc⟩⟩
def RowsCs.at_ {w:World} {css:List (List Value)} {rs:List Rw} (h:RowsCs w css rs) {cs:List Value} (hc:cs∈css):RowAt w cs (rowOf w cs):=by
 obtain ⟨i,hi,rfl⟩:=zt hc
 obtain ⟨r,_,h2⟩:=h.2 i _ (qz hi)
 rw [h2.of]
 exact h2
def RowsCs.map {w:World} {css:List (List Value)} {rs:List Rw} (h:RowsCs w css rs):css.map (rowOf w)=rs:=by
 apply uv
 intro i
 rw [qa]
 cases hc:css[i]? with
 |none=>
  have h1:=yg.1 hc
  rw [jm (by rw [←h.1];exact h1)]
  rfl
 |some cs=>
  obtain ⟨r,h1,h2⟩:=h.2 i cs hc
  rw [h1,Option.map_some,h2.of]
def RowsCs.mk' {w:World} {css:List (List Value)} (h:∀ cs∈css,RowAt w cs (rowOf w cs)):RowsCs w css (css.map (rowOf w)):=⟨by rw [qd],fun i cs hi=>⟨_,by rw [qa,hi];rfl,h cs (qf hi)⟩⟩
def RowsCs.k3 {w:World} {css:List (List Value)} {rs:List Rw} (h:RowsCs w css rs):∀ cs∈css,cs.length=3:=fun cs hc=>(h.at_ hc).cs.1
def RowsCs.one {w:World} {css:List (List Value)} {rs:List Rw} (h:RowsCs w css rs):∀ cs∈css,∀ u∈cs,u.oneCell'=true:=fun cs hc=>(h.at_ hc).cs.2
def RowSl (w:World) (v:Value) (rs:List Rw):Prop:=∃ A c css,v=.slice A rs.length c∧rs.length≤100000000∧rs.length≤c∧c≤maxLen∧SrcAt w A 3 css∧RowsCs w css rs∧∀ a,A=some a→a.block < w.heap.size
def RowSl.chg {w w':World} {v:Value} {rs:List Rw} (h:RowSl w v rs) (hc:New w w'):RowSl w' v rs:=by
 obtain ⟨A,c,css,h1,h2,h3,h4,h5,h6,h7⟩:=h
 exact ⟨A,c,css,h1,h2,h3,h4,h5.chg hc qdr,h6.chg hc,fun a ha=>zd (h7 a ha) hc.size⟩
noncomputable def cfM (w:World) (x y:List Value):Int:=cmpM (rowOf w x) (rowOf w y)
noncomputable def qM (w:World) (y x:List Value):Bool:=eqR (rowOf w y) (rowOf w x)
def cfM_ordr (w:World):Ordr (cfM w):=(tri_merge.pull (rowOf w)).ordr
def MrgTab (w:World) (rs:List Rw) (e:Ending) (w':World):Prop:=
 ∃ g c css rest,e=.returned (.slice (some ⟨g,0,none⟩) css.length c)∧css.length≤c∧c≤maxLen∧css.length≤rs.length∧w.heap.size≤g∧Tab w' g css.length css rest∧(∃ out,RowsCs w css out∧IsMerge rs out)∧New w w'
def MrgPost (w:World) (rs:List Rw) (e:Ending) (w':World):Prop:=(rs=[]∧e=.returned (.slice none 0 0)∧New w w')∨MrgTab w rs e w'
def ins_nil (w:World) (v:Value):Calls Tryz.prog 155 #[.slice none 0 0,.int .i64 0,.int .i64 0,v] w fun e w'=>e=.returned (.tuple #[])∧New w w':=by
 go_enter Tryz.func155,Tryz.ntmps155
 go_wp2
 refine wp_loop_rounds 1 ?_
 rw [rounds_succ]
 go_wp2
 go_end0
 exact ⟨rfl,Chg.refl _ _⟩
def qah (w:World) (v:Value):Calls Tryz.prog 124 #[.slice none 0 0,.int .i64 0,v] w fun e w'=>e=.returned (.tuple #[])∧New w w':=by
 have hins:=ins_nil w v
 have Hins:=qq hins
 clear hins
 go_enter Tryz.func124,Tryz.ntmps124
 go_wp2
 refine wp_loop_rounds 1 ?_
 rw [rounds_succ]
 go_wp2_with fail
 refine Hins.out.mono ?_
 rintro e w' ⟨rfl,hc⟩
 have Hc:=qq hc
 clear hc Hins
 go_wp2_with fail
 refine wp_loop_rounds 1 ?_
 rw [rounds_succ]
 go_wp2_with fail
 go_end0
 exact ⟨rfl,Hc.out⟩
def sort_nil (w:World) (v:Value):Calls Tryz.prog 83 #[.slice none 0 0,v] w fun e w'=>e=.returned (.tuple #[])∧New w w':=by
 have hs:=qq (qah w v)
 go_enter Tryz.func83,Tryz.ntmps83
 go_wp2_with fail
 refine hs.out.mono ?_
 rintro e W ⟨rfl,h⟩
 have H:=qq h
 clear h
 go_wp2_with fail
 go_end0
 exact ⟨rfl,H.out⟩
def cpt_nil (w:World) (v:Value):Calls Tryz.prog 86 #[.slice none 0 0,v] w fun e w'=>e=.returned (.slice none 0 0)∧w=w':=by
 go_enter Tryz.func86,Tryz.ntmps86
 go_wp2
 go_ret
 exact ⟨rfl,rfl⟩
def dl (w:World) (A:Option Addr) (c:Nat) (css:List (List Value)) (rs:List Rw) (hl:rs.length≤100000000) (hlc:rs.length≤c) (hcm:c≤maxLen) (hs:SrcAt w A 3 css) (hr:RowsCs w css rs) (ha:∀ a,A=some a→a.block < w.heap.size):
  Calls Tryz.prog 46 #[.slice A rs.length c] w (MrgPost w rs):=by
 have hcl:=im w A rs.length c css hr.1.symm hs ha hr.one (by omega)
 have Hcl:=qq hcl
 have HR:=qq hr
 clear hcl hr hs ha
 have eg1:=enters_of Tryz.func84 (by kernel_rfl) rfl
 have eg2:=enters_of Tryz.func87 (by kernel_rfl) rfl
 have EG1:=qq eg1
 have EG2:=qq eg2
 clear eg1 eg2
 go_enter Tryz.func46,Tryz.ntmps46
 go_wp2_with fail
 refine Hcl.out.mono ?_
 rintro e w1 ⟨v,rfl,ho,hN1⟩
 rcases ho.1.2 with ⟨rfl,h0⟩| ⟨g,cap,cur,rfl,hg0,hg,hnc,hcm2,hcs,ht⟩
 ·have hn0:rs=[]:=by
   have h1:=ho.1.1
   obtain ⟨A',c',hv,_⟩:=ho.form
   simp only [Value.slice.injEq] at hv
   have h2:=HR.out.1
   exact ze (by omega)
  have HN1:=qq hN1
  have Hn0:=qq hn0
  have Hs:=qq (fun v=>sort_nil w1 v)
  clear ho h0 hN1 hn0 Hcl
  go_wp2_with fail
  refine (Hs.out _).mono ?_
  rintro e w2 ⟨rfl,hN2⟩
  have HN2:=qq (HN1.out.trans hN2 qdr)
  have Hc:=qq (fun v=>cpt_nil w2 v)
  clear hN2
  go_wp2_with fail
  refine (Hc.out _).mono ?_
  rintro e w3 ⟨rfl,rfl⟩
  go_wp2_with fail
  go_ret
  exact .inl ⟨Hn0.out,rfl,HN2.out⟩
 ·have hn:css.length=rs.length:=HR.out.1
  have hflat:=xz HR.out.k3
  have hT:Tab w1 g css.length css (cur.toList.drop (css.length * 3)):=by
   refine ⟨?_,rfl,fun cs hc=>(HR.out.at_ hc).cs⟩
   rw [←ht,zm]
   exact hg
  have hcmp:CmpAt w1 g 84 #[] (cfM w) css:=fun x hx y hy W hW=>by
   have hNW:New w W:=hN1.trans hW (fun k hk h=>by omega)
   exact cmp_mrg W x y _ _ ((HR.out.at_ hx).chg hNW) ((HR.out.at_ hy).chg hNW)
  have hsort:=sortRows w1 g css.length cap css _ hT (by omega) hnc 84 #[] EG1.out (cfM w) (cfM_ordr w) hcmp
  rw [hn] at hsort
  have Hsort:=qq hsort
  have HN1:=qq hN1
  have Hg0:=qq hg0
  have hnc':rs.length≤cap:=by omega
  clear hsort hcmp hT ho hg hcs ht hflat Hcl hN1 hnc
  go_wp2_with fail
  refine Hsort.out.mono ?_
  rintro e w2 ⟨rfl,d2,hp2,hm2,hs2,hT2,hc2⟩
  have hNw:New w w2:=HN1.out.trans hc2 (fun k hk h=>by have:=Hg0.out;omega)
  have hat:∀ x∈d2,RowAt w x (rowOf w x):=fun x hx=>HR.out.at_ (hp2.mem_iff.1 hx)
  have heq:EqAt w2 g 87 #[] (qM w) d2:=fun x hx y hy W hW=>by
   have hNW:New w W:=hNw.trans hW (fun k hk h=>by have:=Hg0.out;omega)
   exact eq_mrg W x y _ _ ((hat x hx).chg hNW) ((hat y hy).chg hNW)
  have hcpt:=cptRows w2 g rs.length cap d2 _ hT2 (by omega) hnc' 87 #[] EG2.out (qM w) heq
  have hlen2:d2.length=rs.length:=hT2.len
  have hout:(cptN (qM w) d2 rs.length).map (rowOf w)=cptN eqR (d2.map (rowOf w)) rs.length:=cptN_map (q:=qM w) (q':=eqR) (f:=rowOf w) (fun x y=>rfl) _
  have him:IsMerge rs ((cptN (qM w) d2 rs.length).map (rowOf w)):=by
   rw [hout,show rs.length=(d2.map (rowOf w)).length by rw [qd,hlen2]]
   have hp3:(d2.map (rowOf w)).Perm rs:=by
    have:=hp2.map (rowOf w)
    rw [HR.out.map] at this
    exact this
   refine IsMerge.perm (qdi fun p q x y hpq hx hy=>?_) hp3
   rw [qa] at hx hy
   obtain ⟨u,hu,rfl⟩:=Option.map_eq_some_iff.1 hx
   obtain ⟨z,hz,rfl⟩:=Option.map_eq_some_iff.1 hy
   have h3:=hs2 p q u z (qr _) hpq (by rw [←hlen2];exact (qv.1 hz).1) hu hz
   have h4:¬ cmpM (rowOf w z) (rowOf w u) < 0:=h3
   have:=tri_merge.anti (rowOf w u) (rowOf w z)
   omega
  have hrc:RowsCs w (cptN (qM w) d2 rs.length) ((cptN (qM w) d2 rs.length).map (rowOf w)):=RowsCs.mk' (fun cs hc=>hat cs (ii hc))
  have hle:=cptN_le (q:=qM w) (d:=d2) rs.length
  have Hcpt:=qq hcpt
  have Him:=qq him
  have Hrc:=qq hrc
  have HNw:=qq hNw
  clear hcpt him hrc hNw heq hout hat hp2 hm2 hs2 hT2 hc2
  go_wp2_with fail
  refine Hcpt.out.mono ?_
  rintro e w3 ⟨rfl,⟨rest',hT3⟩,hc3⟩
  have HT3:=qq hT3
  have HC3:=qq (HNw.out.trans hc3 (fun k hk h=>by have:=Hg0.out;omega))
  clear hT3 hc3
  go_wp2_with fail
  go_ret
  exact .inr ⟨g,cap,_,rest',rfl,by omega,hcm2,hle,Hg0.out,HT3.out,⟨_,Hrc.out,Him.out⟩,HC3.out⟩
def qce (W:World) (tmps:Array Value) (N:Nat) (v:Vl) (h2:tmps.getD 2 undef=.pointer (some ⟨N,0,none⟩)) (hc:At W ⟨N,0,none⟩ (vcs v)):
  (results Tryz.f48 tmps).run Tryz.prog W=.ok (.agg (vcs v).toArray) W:=by
 have hl:=kg (P:=Tryz.prog) (w:=W) qbc ⟨N,0,none⟩ (vcs v) rfl hc
 rw [ga (p:=2) (ty:=62) (by rfl),h2]
 have ha:(asAddr (.pointer (some ⟨N,0,none⟩))).run Tryz.prog W=.ok ⟨N,0,none⟩ W:=rfl
 rw [ha]
 simp only [Result.andThen_ok,hl]
def qde (w:World) (v:Vl):Calls Tryz.prog 48 #[.agg #[.int .i64 v.k,.int .i64 v.i,.string v.t,.slice none 0 0]] w fun e w'=>e=.returned (.agg #[.int .i64 v.k,.int .i64 v.i,.string v.t,.slice none 0 0])∧New w w':=by
 go_enter Tryz.func48,Tryz.ntmps48
 go_wp2_with fail
 refine bodyPost_ret (v:=.agg (vcs v).toArray) (qce _ _ (w.heap.size+1) v rfl ?_) rfl ⟨rfl,((Chg.refl w _).alloc _).alloc _⟩
 have:=Blk.new (w.alloc (.cells #[.int .i64 v.k,.int .i64 v.i,.string v.t,.slice none 0 0] 62)) 62 #[.int .i64 v.k,.int .i64 v.i,.string v.t,.slice none 0 0]
 rw [World.size_alloc] at this
 exact this.at_
def OwnRow (W:World) (B:Nat) (cs:List Value) (r:Rw) (v:Value):Prop:=cs=[.string r.name,v,.int .i64 r.stamp]∧r.args.length≤1000∧Own W B 62 4 v (r.args.map vcs)
def OwnRow.chg {W W':World} {B:Nat} {cs:List Value} {r:Rw} {v:Value} {T:Nat→Prop} (h:OwnRow W B cs r v) (hc:Chg W W' T) (hn:∀ g,v.ownBlock=some g→¬ T g):OwnRow W' B cs r v:=⟨h.1,h.2.1,h.2.2.chg hc hn⟩
def OwnRow.row {W:World} {B:Nat} {cs:List Value} {r:Rw} {v:Value} (h:OwnRow W B cs r v):RowAt W cs r:=by
 obtain ⟨h1,h2,h3⟩:=h
 obtain ⟨A,c,hv,h4,h5⟩:=h3.form
 have hr:=(h3.rows hv).2
 rw [qd] at hv h4
 exact ⟨A,c,by rw [h1,hv],h2,h4,h5,hr,fun a ha=>h3.vlB (g:=a.block) (by rw [hv,ha];rfl)⟩
structure OwnTab (W:World) (B g m:Nat) (css:List (List Value)) (rest:List Value) (out:List Rw) (vs:List Value):Prop where
 tab:Tab W g m css rest
 gB:g < B
 len:vs.length≤m
 own:∀ (i:Nat) (v:Value),vs[i]? =some v→∃ cs r,css[i]? =some cs∧out[i]? =some r∧OwnRow W B cs r v
 up:∀ (i j:Nat) (u v:Value) (a b:Nat),i < j→vs[i]? =some u→vs[j]? =some v→u.ownBlock=some a→v.ownBlock=some b→a < b
def Own.base {w:World} {b b':Nat} {e:TypeId} {k:Nat} {v:Value} {css:List (List Value)} (h:Own w b' e k v css) (hb:b≤b'):Own w b e k v css:=by
 obtain ⟨⟨h1,h2⟩,h3⟩:=h
 refine ⟨⟨h1,?_⟩,h3⟩
 rcases h2 with h2| ⟨g,cap,cur,g1,g2,g3⟩
 ·exact .inl h2
 ·exact .inr ⟨g,cap,cur,g1,qb hb g2,g3⟩
def iz {cur:Array Value} {o:Nat} {cs:List Value} (h:∀ j u,cs[j]? =some u→cur[o+j]? =some u):layA cur o cs=cur:=by
 unfold layA lay
 apply Array.ext'
 have he:(cur.toList.drop o).take cs.length=cs:=by
  apply uv
  intro j
  rw [yq]
  by_cases hj:j < cs.length
  ·rw [if_pos hj,jb]
   have:=h j cs[j] (qz hj)
   rw [qz hj]
   simpa using this
  ·rw [if_neg hj,jm (by omega)]
 simp only []
 rw [show o+cs.length=cs.length+o by omega, ←List.drop_drop,qo]
 conv=>lhs;rw [←he]
 rw [List.drop_drop] at *
 have h2:(cur.toList.drop o).take cs.length++(cur.toList.drop o).drop cs.length=cur.toList.drop o:=zm _ _
 rw [List.drop_drop] at h2
 simp only [he] at h2⊢
 first
  | (rw [show cs.length+o=o+cs.length by omega,h2,zm])
  | (rw [h2,zm])
def Tab.field {W:World} {g n:Nat} {e:List (List Value)} {rest:List Value} (h:Tab W g n e rest) {i:Nat} {a b c v:Value} (hi:e[i]? =some [a,b,c]) (hv:v.oneCell'=true):Tab (W.setCell ⟨g,i * 3+1,none⟩ v) g n (e.set i [a,v,c]) rest:=by
 have hlt:=(qv.1 hi).1
 have hr:=h.row _ (qf hi)
 have hb:=h.blk.setCell (i * 3+1) v
 have hl:=ig (rest:=rest) (cs:=[a,v,c]) h.k3 hlt rfl
 have he:(e.flatten++rest).toArray.setIfInBounds (i * 3+1) v=((e.set i [a,v,c]).flatten++rest).toArray:=by
  rw [←hl]
  unfold layA lay
  have hfl:=xz h.k3
  have g0:(e.flatten++rest)[i * 3]? =some a:=by
   have:=xl h.k3 hi (j:=0) rfl
   rw [qe (by rw [hfl];omega)];exact this
  have g2:(e.flatten++rest)[i * 3+2]? =some c:=by
   have:=xl h.k3 hi (j:=2) rfl
   rw [qe (by rw [hfl];omega)];exact this
  have hln:i * 3+3≤(e.flatten++rest).length:=by rw [qg,hfl];omega
  generalize e.flatten++rest=L at g0 g2 hln
  apply Array.ext'
  simp only [Array.toList_setIfInBounds]
  apply uv
  intro p
  rw [jx]
  simp only [List.getElem?_append,qg,ql,zf,yj,yq,jb,Nat.min_eq_left (show i * 3≤L.length by omega)]
  by_cases c1:p < i * 3
  ·rw [if_neg (by omega),if_pos (by omega),if_pos c1,if_pos c1]
  ·by_cases c2:p < i * 3+3
   ·rw [if_pos (show p < i * 3+(0+1+1+1) by omega),if_neg c1]
    rcases (show p=i * 3∨p=i * 3+1∨p=i * 3+2 by omega) with rfl|rfl|rfl
    ·rw [if_neg (by omega),yh,g0];rfl
    ·rw [if_pos rfl,if_pos (by omega),show i * 3+1 - i * 3=1 by omega];rfl
    ·rw [if_neg (by omega),show i * 3+2 - i * 3=2 by omega,g2];rfl
   ·rw [if_neg (by omega),if_neg (by omega)]
    congr 1
    omega
 rw [he] at hb
 refine ⟨hb,by rw [jk,h.len],fun cs hc=>?_⟩
 rcases yr hc with h1|h1
 ·exact h.row cs h1
 ·rw [h1]
  refine ⟨rfl,fun u hu=>?_⟩
  simp only [qp,qm,or_false] at hu
  rcases hu with rfl|rfl|rfl
  ·exact hr.2 _ (by simp)
  ·exact hv
  ·exact hr.2 _ (by simp)
def MergePost (w:World) (rs:List Rw) (e:Ending) (w':World):Prop:=
 ∃ out,IsMerge rs out∧New w w'∧((out=[]∧e=.returned (.slice none 0 0))∨∃ g c css rest vs B,e=.returned (.slice (some ⟨g,0,none⟩) out.length c)∧out.length≤c∧c≤maxLen∧w.heap.size≤g∧vs.length=out.length∧OwnTab w' B g out.length css rest out vs)
def rl (w:World) (A:Option Addr) (c:Nat) (css:List (List Value)) (rs:List Rw) (hl:rs.length≤100000000) (hlc:rs.length≤c) (hcm:c≤maxLen) (hs:SrcAt w A 3 css) (hr:RowsCs w css rs) (ha:∀ a,A=some a→a.block < w.heap.size):
  Calls Tryz.prog 22 #[.slice A rs.length c] w (MergePost w rs):=by
 have Hm:=qq (dl w A c css rs hl hlc hcm hs hr ha)
 clear hs hr ha
 go_enter Tryz.func22,Tryz.ntmps22
 go_wp2_with fail
 refine Hm.out.mono ?_
 rintro e w1 (⟨hn,rfl,hN⟩| ⟨g,cap,cs0,rest,rfl,hlc2,hcm2,hmr0,hg,hT,⟨out,hrc,him⟩,hN⟩)
 ·have Hn:=qq hn
  have HN:=qq hN
  clear hn hN Hm
  go_wp2_with fail
  refine wp_loop_rounds 1 ?_
  rw [rounds_succ]
  go_wp2_with fail
  go_ret
  exact ⟨[],⟨List.Pairwise.nil,fun r h=>(by cases h),fun r h=>(by rw [Hn.out] at h;cases h)⟩,HN.out,.inl ⟨rfl,rfl⟩⟩
 ·obtain ⟨m,hm⟩:=qdp (cs0.length)
  rw [hm] at hT hlc2
  have hom:out.length=m:=by rw [←hrc.1,hm]
  obtain ⟨B,hB⟩:=qdq (w1.heap.size)
  have hgB:g < B:=by rw [hB];exact hT.blk.lt
  have hmr:m≤100000000:=by omega
  have HT:=qq hT
  have Hrc:=qq hrc
  have Him:=qq him
  have HN:=qq hN
  have HB:=qq hB
  have Hg:=qq hg
  rw [hm]
  have Hom:=qq hom
  clear hm hT hrc him hN hB hg Hm hom
  go_wp2_with fail
  go_loopw [11] (fun u11 wr=>∃ (k:Nat) (css:List (List Value)) (vs:List Value),k≤m∧u11=.int .i64 k∧vs.length=k∧(∀ i,k≤i→css[i]? =cs0[i]?)∧OwnTab wr B g m css rest out vs∧Chg w1 wr (fun q=>q=g)) (fun u _=>m - (intOf u).toNat)
  case atStart=>exact ⟨0,cs0,[],qr _,rfl,rfl,fun i _=>rfl,⟨HT.out,hgB,qr _,fun i v h=>by simp at h,fun i j u v a b _ h=>by simp at h⟩,Chg.refl _ _⟩
  case round=>
   obtain ⟨k,css,vs,hk,rfl,hvl,hsame,hot,hch⟩:=hrel
   have HS:=qq hsame
   have HO:=qq hot
   have HC:=qq hch
   have Hvl2:=qq hvl
   clear hsame hot hch hvl
   by_cases hlt:k < m
   ·have hNw:New w wr:=HN.out.trans HC.out (fun q hq h=>by have:=Hg.out;omega)
    obtain ⟨cs,hcs0⟩:∃ cs,cs0[k]? =some cs:=⟨_,qz (by rw [Hrc.out.1,Hom.out];exact hlt)⟩
    obtain ⟨r,hro,hrow⟩:=Hrc.out.2 k cs hcs0
    obtain ⟨A3,c3,rfl,a1,a2,a3,a4,a5⟩:=hrow.chg hNw
    have hcs:css[k]? =some [.string r.name,.slice A3 r.args.length c3,.int .i64 r.stamp]:=by rw [HS.out k (qh _)];exact hcs0
    have hcl:=fa wr A3 r.args.length c3 (r.args.map vcs) (by rw [qd]) a4 (fun a ha=>(a5 a ha).lt) (gc _) (by omega)
    obtain ⟨nv,hnv⟩:=qdp (r.args.length)
    have c1:=HO.out.tab.get hcs 1 (.slice A3 r.args.length c3) rfl
    rw [Addr.add_lit] at c1
    rw [hnv] at hcl c1 a1
    have hfr:wr.frozen? ⟨g,k * 3+1,none⟩=false:=HO.out.tab.blk.frozen _
    have Hcl:=qq hcl
    have Hcs:=qq hcs
    have Hro:=qq hro
    have Hnv:=qq hnv
    have Hfr:=qq hfr
    have HBw:=qq (show B≤wr.heap.size from by rw [HB.out];exact HC.out.size)
    clear hNw hcs0 hro hrow a4 a5 hcs hcl hnv hfr
    have k0:(0:Int)≤(k:Int):=by omega
    have k1:(k:Int) < (m:Int):=by omega
    go_wp2_with fail
    refine Hcl.out.mono ?_
    rintro e w2 ⟨v,rfl,hov,hN2⟩
    obtain ⟨A4,c4,hv,hvl,hvc⟩:=hov.form
    rw [qd,Hnv.out] at hv hvl
    have hT2:=(HO.out.tab.chg hN2 id).field Hcs.out (v:=v) (by rw [hv];rfl)
    have e1:w2.cell? ⟨g,k * 3+1,none⟩=some (.slice A3 nv c3):=hN2.cellS c1 id
    have e2:w2.frozen? ⟨g,k * 3+1,none⟩=false:=(HO.out.tab.chg hN2 id).blk.frozen _
    obtain ⟨w3,hw3⟩:=qdq (w2.setCell ⟨g,k * 3+1,none⟩ v)
    have hC3:Chg wr w3 (fun q=>q=g):=by rw [hw3];exact (hN2.mono (fun _ _ x=>x.elim)).setCell _ _ (fun _=>rfl)
    have hC23:Chg w2 w3 (fun q=>q=g):=by rw [hw3];exact (Chg.refl _ _).setCell _ _ (fun _=>rfl)
    rw [←hw3] at hT2
    have hgw:g < wr.heap.size:=zd hgB HBw.out
    have hvg:v.ownBlock≠some g:=fun e=>by have:=(hov.lt e).1;omega
    have hO3:Own w3 wr.heap.size 62 4 v (r.args.map vcs):=hov.chg hC23 (fun q hq e=>hvg (by rw [hq,e]))
    have f1:w3.cell? ⟨g,k * 3+1,none⟩=some v:=by
     have:=hT2.get (i:=k) (cs:=[.string r.name,v,.int .i64 r.stamp]) (by rw [List.getElem?_set_self];exact (qv.1 Hcs.out).1) 1 v rfl
     rw [Addr.add_lit] at this
     exact this
    have HT3:=qq hT2
    have HO3:=qq hO3
    have HC3:=qq hC3
    have HW3:=qq hw3
    have Hv:=qq hv
    rw [hv]
    rw [hv] at f1 hw3
    have HW3b:=qq hw3
    clear hT2 hO3 hC3 hw3 hov hN2 hC23 hvg Hcl hv
    go_upto_region 6 with fail
    rw [←HW3b.out]
    clear e1 e2 c1
    go_wp2_with fail
    go_loopw [30] (fun u30 wx=>∃ kk:Nat,kk≤nv∧u30=.int .i64 kk∧New w3 wx) (fun u _=>nv - (intOf u).toNat)
    case atStart=>exact ⟨0,qr _,rfl,Chg.refl _ _⟩
    case round=>
     obtain ⟨kk,hkk,rfl,hNx⟩:=hrel
     have HNx:=qq hNx
     clear hNx
     by_cases hlt2:kk < nv
     ·obtain ⟨gv,hA4,hcv⟩:∃ gv,A4=some ⟨gv,0,none⟩∧∃ cur,Blk w3 gv 62 cur∧nv * 4≤cur.size∧v.ownBlock=some gv:=by
       rcases HO3.out.1.2 with ⟨h1,h2⟩| ⟨gv,cap2,cur,h1,_,h3,h4,_,h6,_⟩
       ·exfalso
        rw [Hv.out] at h1
        simp only [Value.slice.injEq] at h1
        omega
       ·have h1':=h1
        rw [Hv.out] at h1
        simp only [Value.slice.injEq] at h1
        refine ⟨gv,h1.1,cur,h3,?_,by rw [h1'];rfl⟩
        rw [h6]
        have:=h1.2.1
        omega
      obtain ⟨cur,hBv,hsz,hvb⟩:=hcv
      subst hA4
      obtain ⟨x,hx⟩:∃ x,r.args[kk]? =some x:=⟨_,qz (by rw [Hnv.out];exact hlt2)⟩
      obtain ⟨a,ha,hra⟩:=(HO3.out.rows Hv.out).2 (by rw [qd,Hnv.out];omega)
      obtain rfl:=Option.some.inj ha
      have hat3:=(hra kk (vcs x) (by rw [qa,hx];rfl)).2
      rw [Addr.add_lit,jn] at hat3
      have hat:=hat3.chg HNx.out id
      change At _ _ [.int .i64 x.k,.int .i64 x.i,.string x.t,.slice none 0 0] at hat
      obtain ⟨w4,hw4⟩:=qdq (wr.alloc (.cells #[.int .i64 x.k,.int .i64 x.i,.string x.t,.slice none 0 0] 62))
      have hN4:New wr w4:=by rw [hw4];exact (Chg.refl _ _).alloc _
      have hB4:Blk w4 wr.heap.size 62 (vcs x).toArray:=by rw [hw4];exact Blk.new wr _ _
      have hN3d:New w3 w4.drew:=(HNx.out.trans hN4 qdr).drew
      have HNd:=qq hN3d
      have HBd:=qq (hB4.chg ((Chg.refl w4 (fun _=>False)).drew) id)
      have Hat:=qq hat
      have Hat3:=qq hat3
      have HBv:=qq hBv
      have HW4:=qq hw4
      have Hf1:=qq f1
      have hfv:=qq (fun W=>qde W x)
      obtain ⟨bx,hbx⟩:=qdp (wr.heap.size)
      rw [hbx] at HBd
      have Hbx:=qq hbx
      have k2:(0:Int)≤(kk:Int):=by omega
      have k3:(kk:Int) < (nv:Int):=by omega
      clear hx hra ha hat3 hat hw4 hN4 hB4 hN3d hBv f1 hbx
      go_upto_region 9 with ((with_reducible refine vq rfl (.tmp 33) 62 rfl vz ⟨gv,kk * 4,none⟩ [.int .i64 x.k,.int .i64 x.i,.string x.t,.slice none 0 0] ?_ rfl Hat.out ?_);exact rfl)
      rw [←HW4.out,Hbx.out]
      have eg:=enters_of Tryz.func48 (by kernel_rfl) rfl
      unfold Enters at eg
      refine vj (by kernel_rfl) ?_
      generalize w4.drew=wd at HNd HBd⊢
      clear HW4 Hbx
      refine AtN.segN2 0 8 [35,36,37,38,39,40,41,42] (fun
       |0=>fun v _=>v=.slice (some ⟨g,0,none⟩) m cap
       |1=>fun v _=>v=.int .i64 k
       |2=>fun v _=>v=.pointer (some ⟨g,k * 3,none⟩)
       |3=>fun v _=>v=.pointer (some ⟨g,k * 3+1,none⟩)
       |4=>fun v _=>v=.slice (some ⟨gv,0,none⟩) nv c4
       |5=>fun v _=>v=.int .i64 kk
       |6=>fun v _=>v=.agg #[.int .i64 x.k,.int .i64 x.i,.string x.t,.slice none 0 0]
       |7=>fun v _=>v=.agg #[.int .i64 x.k,.int .i64 x.i,.string x.t,.slice none 0 0]
       |_=>fun _ _=>True) (by kernel_rfl) (by kernel_rfl) (by kernel_rfl) (by kernel_rfl) (fun j v w1 w2 hc h=>?_) (fun i hn hi o ho A0 W hN hin hk=>?_) (fun l W5 hN hl hΦ=>?_)
      ·match j with
       |0|1|2|3|4|5|6|7=>exact h
       |_+8=>trivial
      ·rcases (show i=0∨i=1∨i=2∨i=3∨i=4∨i=5∨i=6∨i=7 by omega) with rfl|rfl|rfl|rfl|rfl|rfl|rfl|rfl<;>cases ho
       ·exact .same (uo 3 _ rfl (hk 3)) rfl
       ·exact .same (uo 4 _ rfl (hk 4)) rfl
       ·have h35:A0.tmps[35]?.getD undef=.slice (some ⟨g,0,none⟩) m cap:=hin 0 35
        have h36:A0.tmps[36]?.getD undef=.int .i64 k:=hin 1 36
        exact .same (by simp [go_sem,h35,h36,k0,k1,hlt]) rfl
       ·have h37:A0.tmps[37]?.getD undef=.pointer (some ⟨g,k * 3,none⟩):=hin 2 37
        exact .same (by simp [go_sem,h37]) rfl
       ·have h38:A0.tmps[38]?.getD undef=.pointer (some ⟨g,k * 3+1,none⟩):=hin 3 38
        have hc:W.cell? ⟨g,k * 3+1,none⟩=some (.slice (some ⟨gv,0,none⟩) nv c4):=(HNd.out.trans hN qdr).cellS Hf1.out id
        exact .same (by simp [go_sem,h38,hc]) rfl
       ·exact .same (uo 5 _ rfl (hk 5)) rfl
       ·have h6:A0.tmps[6]?.getD undef=.pointer (some ⟨bx,0,none⟩):=hk 6
        exact .same (vu 6 _ rfl vz ⟨bx,0,none⟩ (vcs x) h6 rfl ((HBd.out.chg hN id).at_)) rfl
       ·have h41:A0.tmps[41]?.getD undef=.agg #[.int .i64 x.k,.int .i64 x.i,.string x.t,.slice none 0 0]:=hin 6 41
        refine .enter (f:=48) (args:=#[.agg #[.int .i64 x.k,.int .i64 x.i,.string x.t,.slice none 0 0]]) (v:=.agg #[.int .i64 x.k,.int .i64 x.i,.string x.t,.slice none 0 0]) ?_ ((hfv.out W).mono ?_)
        ·simp [go_sem,h41,eg]
        ·rintro e w' ⟨rfl,hc⟩
         exact ⟨rfl,hc,rfl⟩
      obtain ⟨x35,x36,x37,x38,x39,x40,x41,x42,rfl⟩:∃ x35 x36 x37 x38 x39 x40 x41 x42,l=[x35,x36,x37,x38,x39,x40,x41,x42]:=by
       match l,hl with
       | [x35,x36,x37,x38,x39,x40,x41,x42],_=>exact ⟨_,_,_,_,_,_,_,_,rfl⟩
      obtain rfl:x35=.slice (some ⟨g,0,none⟩) m cap:=hΦ 0 (by decide)
      obtain rfl:x36=.int .i64 k:=hΦ 1 (by decide)
      obtain rfl:x37=.pointer (some ⟨g,k * 3,none⟩):=hΦ 2 (by decide)
      obtain rfl:x38=.pointer (some ⟨g,k * 3+1,none⟩):=hΦ 3 (by decide)
      obtain rfl:x39=.slice (some ⟨gv,0,none⟩) nv c4:=hΦ 4 (by decide)
      obtain rfl:x40=.int .i64 kk:=hΦ 5 (by decide)
      obtain rfl:x41=.agg #[.int .i64 x.k,.int .i64 x.i,.string x.t,.slice none 0 0]:=hΦ 6 (by decide)
      obtain rfl:x42=.agg #[.int .i64 x.k,.int .i64 x.i,.string x.t,.slice none 0 0]:=hΦ 7 (by decide)
      simp only [putsL,zq,zj,zz,List.zip,List.zipWith,Act.put,qk,qu,qy]
      clear hΦ hl
      refine AtN.list 8 9 (by kernel_rfl) ?_
      change wpList _ _ _ [_] _ _
      go_wp2_with fail
      change AtN _ _ _ 9 _ _
      refine AtN.list 9 10 (by kernel_rfl) ?_
      change wpList _ _ _ [_] _ _
      have hNW:=HNd.out.trans hN qdr
      have hbl:=HBv.out.chg hNW id
      have hlay:layA cur (kk * 4) (vcs x)=cur:=iz (fun j u hj=>by
       have h1:=Hat3.out j u hj
       rw [Addr.add_lit] at h1
       rw [←HBv.out.cell]
       exact h1)
      have hself:W5.setRow gv (layA cur (kk * 4) (vcs x))=W5:=by rw [hlay];exact setRow_self W5 gv cur _ (0,0) hbl
      refine vf rfl (.tmp 43) (.tmp 42) 62 rfl vz gv (kk * 4) 62 cur (vcs x) rfl rfl hbl rfl (by omega) (fun u hu=>by
       simp only [vcs,qp,qm,or_false] at hu
       rcases hu with rfl|rfl|rfl|rfl <;> rfl) ?_
      rw [hself]
      have HNf:=qq hNW
      clear hNW hbl hlay hself hN
      refine AtN.done rfl ?_
      simp only [Act.put]
      go_wp2_with fail
      go_roundw
      case rel=>exact ⟨kk+1,by omega,by go_num,HNf.out⟩
      case measure=>simp only [intOf];omega
     ·have hlen:k < css.length:=(qv.1 Hcs.out).1
      have hot:OwnTab wr B g m (css.set k [.string r.name,v,.int .i64 r.stamp]) rest out (vs++[v]):=by
       refine ⟨HT3.out.chg HNx.out id,hgB,by rw [qg,Hvl2.out];simp;omega,fun i u hi=>?_,fun i j u z p q hij hu hz hp hq=>?_⟩
       ·by_cases hik:i < k
        ·rw [qe (by rw [Hvl2.out];exact hik)] at hi
         obtain ⟨cs,r',h1,h2,h3⟩:=HO.out.own i u hi
         refine ⟨cs,r',by rw [List.getElem?_set_ne (by omega)];exact h1,h2,(h3.chg HC3.out (fun q hq e=>?_)).chg HNx.out qdr⟩
         have:=(h3.2.2.lt hq).1
         omega
        ·rw [qi (by rw [Hvl2.out];omega),Hvl2.out] at hi
         have hik2:i=k:=by
          have:=(qv.1 hi).1
          simp at this
          omega
         subst hik2
         rw [yh] at hi
         obtain rfl:v=u:=by simpa using hi
         exact ⟨_,r,by rw [List.getElem?_set_self hlen],Hro.out,rfl,by rw [Hnv.out];exact a1,((HO3.out.base HBw.out).chg HNx.out qdr)⟩
       ·by_cases hjk:j < k
        ·rw [qe (by rw [Hvl2.out];omega)] at hu
         rw [qe (by rw [Hvl2.out];exact hjk)] at hz
         exact HO.out.up i j u z p q hij hu hz hp hq
        ·rw [qi (by rw [Hvl2.out];omega),Hvl2.out] at hz
         have hjk2:j=k:=by
          have:=(qv.1 hz).1
          simp at this
          omega
         subst hjk2
         rw [yh] at hz
         obtain rfl:v=z:=by simpa using hz
         rw [qe (by rw [Hvl2.out];exact hij)] at hu
         obtain ⟨cs,r',h1,h2,h3⟩:=HO.out.own i u hu
         have e1:=(h3.2.2.lt hp).2
         have e2:=(HO3.out.lt hq).1
         omega
      have HOt:=qq hot
      have HCt:=qq ((HC.out.trans HC3.out (fun _ _ h=>h)).trans HNx.out (fun _ _ x=>x.elim))
      have HSt:=qq (show ∀ i,k+1≤i→(css.set k [.string r.name,v,.int .i64 r.stamp])[i]? =cs0[i]? from fun i hi=>by rw [List.getElem?_set_ne (by omega)];exact HS.out i (by omega))
      have Hll:=qq (show (vs++[v]).length=k+1 by rw [qg,Hvl2.out];rfl)
      clear hot hlen
      go_wp2_with fail
      go_roundw
      case rel=>exact ⟨k+1,_,_,by omega,by go_num,Hll.out,HSt.out,HOt.out,HCt.out⟩
      case measure=>simp only [intOf];omega
   ·obtain rfl:k=m:=by omega
    go_wp2_with fail
    go_ret
    refine ⟨out,Him.out,HN.out.trans HC.out (fun q hq h=>by have:=Hg.out;omega),.inr ⟨g,cap,css,rest,vs,B,?_,by rw [Hom.out];exact hlc2,hcm2,Hg.out,by rw [Hvl2.out,Hom.out],by rw [Hom.out];exact HO.out⟩⟩
    exact congrArg (fun z=>Ending.returned (.slice (some ⟨g,0,none⟩) z cap)) Hom.out.symm
def pk (c n:Int):Int:=(if c < 0 then -(c+1) else c) % n
def km (c n:Int) (h:0 < n):0≤pk c n:=by unfold pk;exact Int.emod_nonneg _ (by omega)
def kn (c n:Int) (h:0 < n):pk c n < n:=by unfold pk;exact Int.emod_lt_of_pos _ h
def gm (w:World) (c n:Int) (h0:-9223372036854775808≤c) (h1:c≤9223372036854775807) (hn:0 < n) (hn2:n≤9223372036854775807):
  Calls Tryz.prog 64 #[.int .i64 c,.int .i64 n] w fun e w'=>e=.returned (.int .i64 (pk c n))∧w=w':=by
 by_cases hc:c < 0
 ·have hp:-((c+1).tmod n)=pk c n:=by unfold pk;rw [if_pos hc, ←Int.neg_tmod,Int.tmod_eq_emod_of_nonneg (by omega)]
  have Hp:=qq hp
  clear hp
  go_enter Tryz.func64,Tryz.ntmps64
  go_wp2_with fail
  go_ret
  exact ⟨congrArg (fun z=>Ending.returned (.int .i64 z)) Hp.out,rfl⟩
 ·have hp:pk c n=c % n:=by unfold pk;rw [if_neg hc]
  have Hp:=qq hp
  clear hp
  go_enter Tryz.func64,Tryz.ntmps64
  go_wp2_with fail
  go_ret
  exact ⟨by rw [Hp.out];rfl,rfl⟩
def pick10 (w:World) (c n:Int) (h0:-9223372036854775808≤c) (h1:c≤9223372036854775807) (hn:0 < n) (hn2:n≤9223372036854775807):
  Calls Tryz.prog 67 #[.int .i64 c,.int .i64 n] w fun e w'=>e=.returned (.int .i64 (pk c n))∧w=w':=by
 by_cases hc:c < 0
 ·have hp:-((c+1).tmod n)=pk c n:=by unfold pk;rw [if_pos hc, ←Int.neg_tmod,Int.tmod_eq_emod_of_nonneg (by omega)]
  have Hp:=qq hp
  clear hp
  go_enter Tryz.func67,Tryz.ntmps67
  go_wp2_with fail
  go_ret
  exact ⟨congrArg (fun z=>Ending.returned (.int .i64 z)) Hp.out,rfl⟩
 ·have hp:pk c n=c % n:=by unfold pk;rw [if_neg hc]
  have Hp:=qq hp
  clear hp
  go_enter Tryz.func67,Tryz.ntmps67
  go_wp2_with fail
  go_ret
  exact ⟨by rw [Hp.out];rfl,rfl⟩
def xg {w:World} {B:Nat} {e t:TypeId} {k:Nat} {v:Value} {css:List (List Value)} {g:Nat} {cs:Array Value} (h:Own w B e k v css) (hb:Blk w g t cs) (hne:t≠e):v.ownBlock≠some g:=by
 intro he
 rcases h.1.2 with ⟨h1,_⟩| ⟨g',cap,cur,h1,_,hg,_⟩
 ·rw [h1] at he;cases he
 ·rw [h1] at he
  simp only [Value.ownBlock,Option.some.injEq] at he
  subst he
  exact Blk.ne hb (show Blk w g' _ cur from hg) hne rfl
def relCs:List (ByteArray×Int):=[(⟨#[108,105,110,107]⟩,3),(⟨#[112]⟩,2),(⟨#[113]⟩,2),(⟨#[114]⟩,1),(⟨#[115]⟩,3),(⟨#[116]⟩,2)]
def relCells:Array Value:=#[.string ⟨#[108,105,110,107]⟩,.int .i64 3,.string ⟨#[112]⟩,.int .i64 2,.string ⟨#[113]⟩,.int .i64 2,.string ⟨#[114]⟩,.int .i64 1,.string ⟨#[115]⟩,.int .i64 3,.string ⟨#[116]⟩,.int .i64 2]
def pf (w:World):Calls Tryz.prog 35 #[] w fun e w'=>e=.returned (.slice (some ⟨w.heap.size,0,none⟩) 6 6)∧Blk w' w.heap.size 106 relCells∧New w w':=by
 have hB:Blk (w.alloc (.cells relCells 106)) w.heap.size 106 relCells:=Blk.new w _ _
 have hN:New w (w.alloc (.cells relCells 106)):=(Chg.refl _ _).alloc _
 have HB:=qq hB
 have HN:=qq hN
 clear hB hN
 go_enter Tryz.func35,Tryz.ntmps35
 go_wp2
 go_ret
 exact ⟨rfl,HB.out,HN.out⟩
def pj:StT Tryz.prog 106 2:=⟨⟨_,Tryz.underlying106⟩,by kernel_rfl⟩
def cc:StT Tryz.prog 60 2:=⟨⟨_,Tryz.underlying60⟩,by kernel_rfl⟩
def fact_res (W:World) (tmps:Array Value) (N:Nat) (cs:List Value) (h2:tmps.getD 2 undef=.pointer (some ⟨N,0,none⟩)) (hc:At W ⟨N,0,none⟩ cs) (hl:cs.length=2):
  (results Tryz.f37 tmps).run Tryz.prog W=.ok (.agg cs.toArray) W:=by
 have hl:=kg (P:=Tryz.prog) (w:=W) cc ⟨N,0,none⟩ cs hl hc
 have hr:Tryz.f37.results=#[.cell 2 60]:=by rfl
 have ha:(asAddr (.pointer (some ⟨N,0,none⟩))).run Tryz.prog W=.ok ⟨N,0,none⟩ W:=rfl
 rw [ga hr,h2,ha]
 simp only [Result.andThen_ok,hl]
def ev {y:Int} (h0:-9223372036854775808≤y) (h1:y≤9223372036854775807):-9223372036854775808≤y.tdiv 2∧y.tdiv 2≤9223372036854775807:=by
 rcases Int.le_total 0 y with h|h
 ·rw [uc h];omega
 ·have e:y.tdiv 2=-((-y).tdiv 2):=by rw [Int.neg_tdiv];omega
  rw [e,uc (by omega)];omega
def rawV (v:Vl):Prop:=(∃ i:Int,0≤i∧i≤4∧v=⟨1,i,⟨#[]⟩⟩)∨(∃ b:UInt8,97≤b.toNat∧b.toNat≤100∧v=⟨3,0,⟨#[b]⟩⟩)
def rawV.can {v:Vl} (h:rawV v):canon v:=by
 rcases h with ⟨i,h0,h1,rfl⟩| ⟨b,h0,h1,rfl⟩
 ·exact .inr ⟨rfl,rfl⟩
 ·exact .inl ⟨rfl,rfl⟩
def FactPost (w:World) (e:Ending) (w':World):Prop:=∃ (nm:ByteArray) (v:Value) (us:List Vl),e=.returned (.agg #[.string nm,v])∧1≤us.length∧us.length≤3∧(∀ u∈us,rawV u)∧(∃ p:Nat,relCs[p]? =some (nm,(us.length:Int)))∧Own w' w.heap.size 62 4 v (us.map vcs)∧New w w'
def fact06 (w:World) (y0 y1 y2 y3 y4 y5:Int) (h1:-9223372036854775808≤y1∧y1≤9223372036854775807) (h2:-9223372036854775808≤y2∧y2≤9223372036854775807) (h3':-9223372036854775808≤y3∧y3≤9223372036854775807) (h4:-9223372036854775808≤y4∧y4≤9223372036854775807) (h5:-9223372036854775808≤y5∧y5≤9223372036854775807):
  Calls Tryz.prog 37 #[.agg #[.int .i64 y0,.int .i64 y1,.int .i64 y2,.int .i64 y3,.int .i64 y4,.int .i64 y5]] w (FactPost w):=by
 obtain ⟨w1,hw1⟩:=qdq ((w.alloc (.cells #[.int .i64 y0,.int .i64 y1,.int .i64 y2,.int .i64 y3,.int .i64 y4,.int .i64 y5] 75)).alloc (.cells #[.string ⟨#[]⟩,.slice none 0 0] 60))
 have hN1:New w w1:=by rw [hw1];exact ((Chg.refl _ _).alloc _).alloc _
 have hB1:Blk w1 w.heap.size 75 #[.int .i64 y0,.int .i64 y1,.int .i64 y2,.int .i64 y3,.int .i64 y4,.int .i64 y5]:=by rw [hw1];exact (Blk.new w _ _).alloc _
 have hQ1:Blk w1 (w.heap.size+1) 60 #[.string ⟨#[]⟩,.slice none 0 0]:=by
  have:=Blk.new (w.alloc (.cells #[.int .i64 y0,.int .i64 y1,.int .i64 y2,.int .i64 y3,.int .i64 y4,.int .i64 y5] 75)) 60 #[.string ⟨#[]⟩,.slice none 0 0]
  rw [World.size_alloc] at this
  rw [hw1]
  exact this
 obtain ⟨p,hp⟩:∃ p:Nat,pk y1 6=p:=⟨(pk y1 6).toNat,by have:=km y1 6 (by omega);omega⟩
 have hp6:p < 6:=by have:=kn y1 6 (by omega);omega
 have hpick:=fun W=>gm W y1 6 h1.1 h1.2 (by omega) (by omega)
 rw [hp] at hpick
 have HP:=qq hpick
 have HN1:=qq hN1
 have HB1:=qq hB1
 have HQ1:=qq hQ1
 have HW1:=qq hw1
 have hbx:w.heap.size < w1.heap.size:=hB1.lt
 clear hpick hp hN1 hB1 hw1 hQ1
 go_enter Tryz.func37,Tryz.ntmps37
 go_upto_region 1 with fail
 rw [←HW1.out]
 obtain ⟨nm,ar,hpr⟩:∃ nm ar,relCs[p]? =some (nm,ar):=by
  have:p < relCs.length:=hp6
  exact ⟨_,_,qz this⟩
 have har:1≤ar∧ar≤3:=by
  rcases (show p=0∨p=1∨p=2∨p=3∨p=4∨p=5 by omega) with rfl|rfl|rfl|rfl|rfl|rfl <;> (simp only [relCs,qj,qw,Option.some.injEq,Prod.mk.injEq] at hpr;omega)
 have hcell:∀ W b,Blk W b 106 relCells→At W ⟨b,p * 2,none⟩ [.string nm,.int .i64 ar]:=fun W b hb j u hj=>by
  rw [Addr.add_lit,hb.cell]
  rcases (show p=0∨p=1∨p=2∨p=3∨p=4∨p=5 by omega) with rfl|rfl|rfl|rfl|rfl|rfl <;> (simp only [relCs,qj,qw,Option.some.injEq,Prod.mk.injEq] at hpr;obtain ⟨rfl,rfl⟩:=hpr;match j,hj with|0,hj=>(cases hj;rfl)|1,hj=>(cases hj;rfl)|j+2,hj=>simp at hj)
 have Hcell:=qq hcell
 have Har:=qq har
 have HPr:=qq hpr
 clear hcell har hpr
 have eg1:=enters_of Tryz.func35 (by kernel_rfl) rfl
 have eg2:=enters_of Tryz.func64 (by kernel_rfl) rfl
 unfold Enters at eg1 eg2
 have HBd:=qq (HB1.out.chg ((Chg.refl w1 (fun _=>False)).drew) id)
 have HQd:=qq (HQ1.out.chg ((Chg.refl w1 (fun _=>False)).drew) id)
 have HNd:=qq (HN1.out.drew)
 refine vj (by kernel_rfl) ?_
 generalize w1.drew=wd at HBd HNd HQd⊢
 have q0:(0:Int)≤(p:Int):=by omega
 have q1:(p:Int) < 6:=by omega
 refine AtN.segN2 0 7 [6,7,8,9,10,11,3] (fun
  |0=>fun v W=>∃ rb,v=.slice (some ⟨rb,0,none⟩) 6 6∧Blk W rb 106 relCells
  |1=>fun v _=>v=.pointer (some ⟨w.heap.size,1,none⟩)
  |2=>fun v _=>v=.int .i64 y1
  |3=>fun v _=>v=.int .i64 p
  |4=>fun v W=>∃ rb,v=.pointer (some ⟨rb,p * 2,none⟩)∧Blk W rb 106 relCells
  |5=>fun v _=>v=.agg #[.string nm,.int .i64 ar]
  |6=>fun v W=>∃ b,v=.pointer (some ⟨b,0,none⟩)∧Blk W b 106 #[.string ⟨#[]⟩,.int .i64 0]∧wd.heap.size≤b
  |_=>fun _ _=>True) (by kernel_rfl) (by kernel_rfl) (by kernel_rfl) (by kernel_rfl) (fun j v w1 w2 hc h=>?_) (fun i hn hi o ho A0 W hN hin hk=>?_) (fun l W2 hN hl hΦ=>?_)
 ·match j with
  |0=>exact h.imp fun b h=>⟨h.1,h.2.chg hc id⟩
  |4=>exact h.imp fun b h=>⟨h.1,h.2.chg hc id⟩
  |6=>exact h.imp fun b h=>⟨h.1,h.2.1.chg hc id,h.2.2⟩
  |1|2|3|5=>exact h
  |_+7=>trivial
 ·rcases (show i=0∨i=1∨i=2∨i=3∨i=4∨i=5∨i=6 by omega) with rfl|rfl|rfl|rfl|rfl|rfl|rfl<;>cases ho
  ·refine .call (f:=35) (args:=#[]) (W':=W) ?_ ((pf W).mono ?_)
   ·simp [go_sem,eg1]
   ·rintro e w' ⟨rfl,hb,hc⟩
    exact ⟨_,rfl,hc,_,rfl,hb⟩
  ·have h1:A0.tmps[1]?.getD undef=.pointer (some ⟨w.heap.size,0,none⟩):=hk 1
   exact .same (by simp [go_sem,h1]) rfl
  ·have h7:A0.tmps[7]?.getD undef=.pointer (some ⟨w.heap.size,1,none⟩):=hin 1 7
   have hc:W.cell? ⟨w.heap.size,1,none⟩=some (.int .i64 y1):=(HBd.out.chg hN id).cell 1
   exact .same (by simp [go_sem,h7,hc]) rfl
  ·have h8:A0.tmps[8]?.getD undef=.int .i64 y1:=hin 2 8
   refine .enter (f:=64) (args:=#[.int .i64 y1,.int .i64 6]) (v:=.int .i64 p) ?_ ((HP.out W).mono ?_)
   ·simp [go_sem,h8,eg2]
   ·rintro e w' ⟨rfl,rfl⟩
    exact ⟨rfl,Chg.refl _ _,rfl⟩
  ·have h6:=hin 0 6
   have h9:A0.tmps[9]?.getD undef=.int .i64 p:=hin 3 9
   obtain ⟨rb,e6,hb⟩:=h6
   exact .same (v:=.pointer (some ⟨rb,p * 2,none⟩)) (by simp [go_sem,e6,h9,q0,q1,hp6]) ⟨rb,rfl,hb⟩
  ·have h10:=hin 4 10
   obtain ⟨rb,e10,hb⟩:=h10
   exact .same (vu 10 _ rfl pj ⟨rb,p * 2,none⟩ [.string nm,.int .i64 ar] e10 rfl (Hcell.out _ _ hb)) rfl
  ·exact .value (W':=W.alloc (.cells #[.string ⟨#[]⟩,.int .i64 0] 106)) (v:=.pointer (some ⟨W.heap.size,0,none⟩)) (by simp [go_sem]) ⟨(Chg.refl _ _).alloc _,_,rfl,Blk.new _ _ _,hN.size⟩
 obtain ⟨x6,x7,x8,x9,x10,x11,x3,rfl⟩:∃ x6 x7 x8 x9 x10 x11 x3,l=[x6,x7,x8,x9,x10,x11,x3]:=by
  match l,hl with
  | [x6,x7,x8,x9,x10,x11,x3],_=>exact ⟨_,_,_,_,_,_,_,rfl⟩
 have hx6:=hΦ 0 (by decide)
 obtain rfl:x7=.pointer (some ⟨w.heap.size,1,none⟩):=hΦ 1 (by decide)
 obtain rfl:x8=.int .i64 y1:=hΦ 2 (by decide)
 obtain rfl:x9=.int .i64 p:=hΦ 3 (by decide)
 have hx10:=hΦ 4 (by decide)
 obtain rfl:x11=.agg #[.string nm,.int .i64 ar]:=hΦ 5 (by decide)
 have hx3:=hΦ 6 (by decide)
 simp only [putsL,zq,zj,zz,List.zip,List.zipWith,Act.put,qk,qu,qy]
 clear hΦ hl
 obtain ⟨b3,rfl,hb3,hb3l⟩:=hx3
 have HR2:=qq (HBd.out.chg hN id)
 have HQ2:=qq (HQd.out.chg hN id)
 have hql:=HQd.out.lt
 have HN2:=qq (HNd.out.trans hN qdr)
 clear hx6 hx10
 refine AtN.list 7 8 (by kernel_rfl) ?_
 change wpList _ _ _ [_] _ _
 have hlay:layA #[.string ⟨#[]⟩,.int .i64 0] 0 [.string nm,.int .i64 ar]=#[.string nm,.int .i64 ar]:=rfl
 refine vf rfl (.tmp 3) (.tmp 11) 106 rfl pj b3 0 106 #[.string ⟨#[]⟩,.int .i64 0] [.string nm,.int .i64 ar] rfl rfl hb3 rfl (by decide) (fun u hu=>by
  simp only [qp,qm,or_false] at hu
  rcases hu with rfl|rfl <;> rfl) ?_
 rw [hlay]
 obtain ⟨W3,hW3⟩:=qdq (W2.setRow b3 #[.string nm,.int .i64 ar])
 rw [←hW3]
 have hwd:=HNd.out.size
 have hbl:=HBd.out.lt
 have HB3:=qq (show Blk W3 b3 106 #[.string nm,.int .i64 ar] by rw [hW3];exact hb3.set _)
 have HN3:=qq (show New w W3 by rw [hW3];exact HN2.out.setRow _ _ (fun h=>by omega))
 have HR3:=qq (show Blk W3 w.heap.size 75 #[.int .i64 y0,.int .i64 y1,.int .i64 y2,.int .i64 y3,.int .i64 y4,.int .i64 y5] by rw [hW3];exact HR2.out.other (by omega) _)
 have HQ3:=qq (show Blk W3 (w.heap.size+1) 60 #[.string ⟨#[]⟩,.slice none 0 0] by rw [hW3];exact HQ2.out.other (by omega) _)
 have hb30:w.heap.size+1 < b3:=by omega
 clear hW3 hb3 hN HN2 HR2 hlay HBd HNd HQ2 HQd
 refine AtN.done rfl ?_
 simp only [Act.put]
 have e3:=HB3.out.cell 0
 have e4:=HB3.out.cell 1
 simp only [qx,qj,qw] at e3 e4
 obtain ⟨W4,hW4⟩:=qdq (W3.alloc (.cells #[.string nm,.slice none 0 0] 60))
 have hN4:New W3 W4:=by rw [hW4];exact (Chg.refl _ _).alloc _
 have hB4:Blk W4 W3.heap.size 60 #[.string nm,.slice none 0 0]:=by rw [hW4];exact Blk.new W3 _ _
 have HB4:=qq hB4
 have HN4:=qq (HN3.out.trans hN4 qdr)
 have HB34:=qq (HB3.out.chg hN4 id)
 have HR4:=qq (HR3.out.chg hN4 id)
 have HQ4:=qq (HQ3.out.chg hN4 id)
 have hb43:b3 < W3.heap.size:=HB3.out.lt
 have HW4:=qq hW4
 obtain ⟨b4,hb4⟩:=qdp (W3.heap.size)
 rw [hb4] at HB4 hb43
 have Hb4:=qq hb4
 clear hN4 hB4 hW4 hb4
 have har:=Har.out
 go_upto_region 3 with fail
 rw [←HW4.out,Hb4.out]
 clear HB3 HN3 HR3 HQ3 e3 e4 HW4 Hb4 W3
 go_wp2_with fail
 go_loopw [5] (fun u5 wr=>∃ (i:Nat) (us:List Vl) (vv:Value),(i:Int)≤ar∧u5=.int .i64 i∧us.length=i∧(∀ u∈us,rawV u)∧Blk wr b4 60 #[.string nm,vv]∧Own wr w.heap.size 62 4 vv (us.map vcs)∧Blk wr b3 106 #[.string nm,.int .i64 ar]∧Blk wr w.heap.size 75 #[.int .i64 y0,.int .i64 y1,.int .i64 y2,.int .i64 y3,.int .i64 y4,.int .i64 y5]∧Blk wr (w.heap.size+1) 60 #[.string ⟨#[]⟩,.slice none 0 0]∧New w wr) (fun u _=>ar.toNat - (intOf u).toNat)
 case atStart=>exact ⟨0,[],_,by omega,rfl,rfl,fun u h=>(by cases h),HB4.out,Own.nil _ _ _ _,HB34.out,HR4.out,HQ4.out,HN4.out⟩
 case round=>
  obtain ⟨i,us,vv,hia,rfl,hul,hcan,hb4,hov,hb3,hrw,hq,hN⟩:=hrel
  by_cases hlt:(i:Int) < ar
  ·have h3:i < 3:=by omega
   obtain ⟨y,hy,hyl,hyh⟩:∃ y,(∀ W,Blk W w.heap.size 75 #[.int .i64 y0,.int .i64 y1,.int .i64 y2,.int .i64 y3,.int .i64 y4,.int .i64 y5]→W.cell? ⟨w.heap.size,2+i,none⟩=some (.int .i64 y))∧-9223372036854775808≤y∧y≤9223372036854775807:=by
    rcases (show i=0∨i=1∨i=2 by omega) with rfl|rfl|rfl
    ·exact ⟨y2,fun W h=>h.cell 2,h2⟩
    ·exact ⟨y3,fun W h=>h.cell 3,h3'⟩
    ·exact ⟨y4,fun W h=>h.cell 4,h4⟩
   have e0:=hb3.cell 0
   have e1:=hb3.cell 1
   simp only [qx,qj,qw] at e0 e1
   have hd:decide ((i:Int) < ar)=true:=decide_eq_true hlt
   have ey:=hy wr hrw
   have Hy:=qq hy
   have HB4:=qq hb4
   have HOv:=qq hov
   have HB3:=qq hb3
   have HRw:=qq hrw
   have HQ:=qq hq
   have HNw:=qq hN
   have HCn:=qq hcan
   have HUl:=qq hul
   clear hy hb4 hov hb3 hrw hq hN hcan hul
   go_upto_region 6 with fail
   go_cut [39] from 21 to 39 (fun c wx=>∃ b,c=.bool b∧wx=wr)
   case first=>
    have hp2:=fun W=>gm W y 2 hyl hyh (by omega) (by omega)
    obtain ⟨p2,hpe⟩:=qdp (pk y 2)
    rw [hpe] at hp2
    have HP2:=qq hp2
    clear hp2 hpe
    have hz0:decide ((i:Int)=0)=decide (i=0):=by congr 1;apply propext;omega
    by_cases hi0:i=0
    ·subst hi0
     go_wp2_with fail
     go_meet
     exact ⟨true,rfl,rfl⟩
    ·have q0:decide ((i:Int)=0)=false:=decide_eq_false (by omega)
     have r0:((i:Int) == 0)=false:=by simpa using hi0
     by_cases hi1:i=1
     ·subst hi1
      by_cases hnm:nm=⟨#[108,105,110,107]⟩
      ·subst hnm
       go_wp2_with (go_at_call 64;refine (HP2.out _).mono ?_;rintro e w' ⟨rfl,rfl⟩)
       all_goals go_meet
       all_goals exact ⟨_,rfl,rfl⟩
      ·go_wp2_with (go_at_call 64;refine (HP2.out _).mono ?_;rintro e w' ⟨rfl,rfl⟩)
       all_goals go_meet
       all_goals exact ⟨_,rfl,rfl⟩
     ·have q1:decide ((i:Int)=1)=false:=decide_eq_false (by omega)
      have r1:((i:Int) == 1)=false:=by simp;omega
      go_wp2_with fail
      go_meet
      exact ⟨false,rfl,rfl⟩
   case rest=>
    obtain ⟨b,rfl,rfl⟩:=hcut
    cases b with
    |true=>
     go_upto_region 7 with fail
     obtain ⟨q,hqe⟩:∃ q:Nat,pk (y.tdiv 2) 4=q:=⟨(pk (y.tdiv 2) 4).toNat,by have:=km (y.tdiv 2) 4 (by omega);omega⟩
     have hqlt:q < 4:=by have:=kn (y.tdiv 2) 4 (by omega);omega
     have hyb:=ev hyl hyh
     have hpq:=fun W=>gm W (y.tdiv 2) 4 hyb.1 hyb.2 (by omega) (by omega)
     rw [hqe] at hpq
     have HPq:=qq hpq
     have kq:IntKind.i64.wrap (y.tdiv 2)=y.tdiv 2:=by rw [IntKind.wrap_i64];omega
     obtain ⟨Av,cv,hvv,_,_⟩:=HOv.out.form
     rw [qd,HUl.out] at hvv
     subst hvv
     have hne4:∀ g,(Value.slice Av i cv).ownBlock=some g→g≠b4:=fun g hg e=>xg HOv.out HB4.out (by decide) (by rw [hg,e])
     have hneR:∀ g,(Value.slice Av i cv).ownBlock=some g→g≠w.heap.size:=fun g hg e=>xg HOv.out HRw.out (by decide) (by rw [hg,e])
     have hne3:∀ g,(Value.slice Av i cv).ownBlock=some g→g≠b3:=fun g hg e=>xg HOv.out HB3.out (by decide) (by rw [hg,e])
     have hneQ:∀ g,(Value.slice Av i cv).ownBlock=some g→g≠w.heap.size+1:=fun g hg e=>xg HOv.out HQ.out (by decide) (by rw [hg,e])
     have hlw:=HNw.out.size
     clear hqe hpq
     obtain ⟨tx,htx,htb⟩:∃ tx:ByteArray,(#[.string ⟨#[97]⟩,.string ⟨#[98]⟩,.string ⟨#[99]⟩,.string ⟨#[100]⟩]:Array Value)[q]? =some (.string tx)∧∃ b:UInt8,97≤b.toNat∧b.toNat≤100∧tx=⟨#[b]⟩:=by
      rcases (show q=0∨q=1∨q=2∨q=3 by omega) with rfl|rfl|rfl|rfl
      ·exact ⟨_,rfl,97,by decide,by decide,rfl⟩
      ·exact ⟨_,rfl,98,by decide,by decide,rfl⟩
      ·exact ⟨_,rfl,99,by decide,by decide,rfl⟩
      ·exact ⟨_,rfl,100,by decide,by decide,rfl⟩
     obtain ⟨nv,hnv⟩:∃ nv:Vl,nv=⟨3,0,tx⟩:=⟨_,rfl⟩
     have hnc:rawV nv:=by
      obtain ⟨b,hb1,hb2,hb3⟩:=htb
      rw [hnv,hb3]
      exact .inr ⟨b,hb1,hb2,rfl⟩
     clear htb
     have hcs:vcs nv=[.int .i64 3,.int .i64 0,.string tx,.slice none 0 0]:=by rw [hnv];rfl
     have Hnc:=qq hnc
     have Hcs:=qq hcs
     clear hnv hnc hcs
     refine vj (by kernel_rfl) ?_
     have hnd:New wc wc.drew:=(Chg.refl _ _).drew
     have HB4d:=qq (HB4.out.chg hnd id)
     have HOvd:=qq (HOv.out.chg hnd qdr)
     have HB3d:=qq (HB3.out.chg hnd id)
     have HRwd:=qq (HRw.out.chg hnd id)
     have HQd:=qq (HQ.out.chg hnd id)
     have HNd:=qq (HNw.out.trans hnd qdr)
     have hb4l:=HB4d.out.lt
     clear hnd HB4 HOv HB3 HRw HQ HNw ey e0 e1 hd
     generalize wc.drew=wd at HB4d HOvd HB3d HRwd HQd HNd hb4l⊢
     have hlwd:=HNd.out.size
     have q0:(0:Int)≤(i:Int):=by omega
     have q1:(i:Int) < 4:=by omega
     have q2:i < 4:=by omega
     have q3:(0:Int)≤(q:Int):=by omega
     have q4:(q:Int) < 4:=by omega
     have HNrr:=qq HNd.out
     have hst:∀ jj uu w1 w2,New w1 w2→(fun
       |0=>fun v _=>v=.pointer (some ⟨b4,1,none⟩)
       |1=>fun v _=>v=.slice Av i cv
       |2=>fun v W=>∃ rb,v=.slice (some ⟨rb,0,none⟩) 4 4∧Blk W rb 9 #[.string ⟨#[97]⟩,.string ⟨#[98]⟩,.string ⟨#[99]⟩,.string ⟨#[100]⟩]
       |3=>fun v _=>v=.int .i64 i
       |4=>fun v _=>v=.pointer (some ⟨w.heap.size,2,none⟩)
       |5=>fun v _=>v=.pointer (some ⟨w.heap.size,2+i,none⟩)
       |6=>fun v _=>v=.int .i64 y
       |7=>fun v _=>v=.int .i64 (y.tdiv 2)
       |8=>fun v _=>v=.int .i64 q
       |9=>fun v W=>∃ rb,v=.pointer (some ⟨rb,q,none⟩)∧Blk W rb 9 #[.string ⟨#[97]⟩,.string ⟨#[98]⟩,.string ⟨#[99]⟩,.string ⟨#[100]⟩]
       |10=>fun v _=>v=.string tx
       |11=>fun v _=>v=.agg #[.int .i64 3,.int .i64 0,.string tx,.slice none 0 0]
       |12=>fun v W=>∃ rb,v=.slice (some ⟨rb,0,none⟩) 1 1∧Blk W rb 62 #[.int .i64 3,.int .i64 0,.string tx,.slice none 0 0]
       |13=>fun v W=>Own W w.heap.size 62 4 v ((us++[nv]).map vcs)∧∀ k,v.ownBlock=some k→(Value.slice Av i cv).ownBlock=some k∨wd.heap.size≤k
       |14=>fun v _=>v=.pointer (some ⟨b4,1,none⟩)
       |_=>fun _ _=>True:Nat→Value→World→Prop) jj uu w1→(fun
       |0=>fun v _=>v=.pointer (some ⟨b4,1,none⟩)
       |1=>fun v _=>v=.slice Av i cv
       |2=>fun v W=>∃ rb,v=.slice (some ⟨rb,0,none⟩) 4 4∧Blk W rb 9 #[.string ⟨#[97]⟩,.string ⟨#[98]⟩,.string ⟨#[99]⟩,.string ⟨#[100]⟩]
       |3=>fun v _=>v=.int .i64 i
       |4=>fun v _=>v=.pointer (some ⟨w.heap.size,2,none⟩)
       |5=>fun v _=>v=.pointer (some ⟨w.heap.size,2+i,none⟩)
       |6=>fun v _=>v=.int .i64 y
       |7=>fun v _=>v=.int .i64 (y.tdiv 2)
       |8=>fun v _=>v=.int .i64 q
       |9=>fun v W=>∃ rb,v=.pointer (some ⟨rb,q,none⟩)∧Blk W rb 9 #[.string ⟨#[97]⟩,.string ⟨#[98]⟩,.string ⟨#[99]⟩,.string ⟨#[100]⟩]
       |10=>fun v _=>v=.string tx
       |11=>fun v _=>v=.agg #[.int .i64 3,.int .i64 0,.string tx,.slice none 0 0]
       |12=>fun v W=>∃ rb,v=.slice (some ⟨rb,0,none⟩) 1 1∧Blk W rb 62 #[.int .i64 3,.int .i64 0,.string tx,.slice none 0 0]
       |13=>fun v W=>Own W w.heap.size 62 4 v ((us++[nv]).map vcs)∧∀ k,v.ownBlock=some k→(Value.slice Av i cv).ownBlock=some k∨wd.heap.size≤k
       |14=>fun v _=>v=.pointer (some ⟨b4,1,none⟩)
       |_=>fun _ _=>True:Nat→Value→World→Prop) jj uu w2:=by
      intro j uu w1 w2 hc h
      match j with
      |2=>exact h.imp fun b h=>⟨h.1,h.2.chg hc id⟩
      |9=>exact h.imp fun b h=>⟨h.1,h.2.chg hc id⟩
      |12=>exact h.imp fun b h=>⟨h.1,h.2.chg hc id⟩
      |13=>exact ⟨h.1.chg hc qdr,h.2⟩
      |0|1|3|4|5|6|7|8|10|11|14=>exact h
      |_+15=>trivial
     refine AtN.segX2 0 15 13 [40,41,42,43,44,45,46,47,48,49,50,51,52,53,54] (fun k=>(Value.slice Av i cv).ownBlock=some k) (fun
       |2=>9
       |9=>10
       |12=>13
       |_=>999) (fun
       |0=>fun v _=>v=.pointer (some ⟨b4,1,none⟩)
       |1=>fun v _=>v=.slice Av i cv
       |2=>fun v W=>∃ rb,v=.slice (some ⟨rb,0,none⟩) 4 4∧Blk W rb 9 #[.string ⟨#[97]⟩,.string ⟨#[98]⟩,.string ⟨#[99]⟩,.string ⟨#[100]⟩]
       |3=>fun v _=>v=.int .i64 i
       |4=>fun v _=>v=.pointer (some ⟨w.heap.size,2,none⟩)
       |5=>fun v _=>v=.pointer (some ⟨w.heap.size,2+i,none⟩)
       |6=>fun v _=>v=.int .i64 y
       |7=>fun v _=>v=.int .i64 (y.tdiv 2)
       |8=>fun v _=>v=.int .i64 q
       |9=>fun v W=>∃ rb,v=.pointer (some ⟨rb,q,none⟩)∧Blk W rb 9 #[.string ⟨#[97]⟩,.string ⟨#[98]⟩,.string ⟨#[99]⟩,.string ⟨#[100]⟩]
       |10=>fun v _=>v=.string tx
       |11=>fun v _=>v=.agg #[.int .i64 3,.int .i64 0,.string tx,.slice none 0 0]
       |12=>fun v W=>∃ rb,v=.slice (some ⟨rb,0,none⟩) 1 1∧Blk W rb 62 #[.int .i64 3,.int .i64 0,.string tx,.slice none 0 0]
       |13=>fun v W=>Own W w.heap.size 62 4 v ((us++[nv]).map vcs)∧∀ k,v.ownBlock=some k→(Value.slice Av i cv).ownBlock=some k∨wd.heap.size≤k
       |14=>fun v _=>v=.pointer (some ⟨b4,1,none⟩)
       |_=>fun _ _=>True:Nat→Value→World→Prop) (by kernel_rfl) (by kernel_rfl) (by kernel_rfl) (by kernel_rfl) (fun i hn hi o ho A0 W b hJ hμ hin hk=>?_) (fun l W3 hJ hl hΦ=>?_)
     ·rcases (show i=0∨i=1∨i=2∨i=3∨i=4∨i=5∨i=6∨i=7∨i=8∨i=9∨i=10∨i=11∨i=12∨i=13∨i=14 by omega) with rfl|rfl|rfl|rfl|rfl|rfl|rfl|rfl|rfl|rfl|rfl|rfl|rfl|rfl|rfl<;>cases ho
      ·have h4:A0.tmps[4]?.getD undef=.pointer (some ⟨b4,0,none⟩):=hk 4
       refine .newX (i:=0) hJ hst ?_
       exact .same (v:=.pointer (some ⟨b4,1,none⟩)) (by simp [go_sem,h4]) rfl
      ·have h40:A0.tmps[40]?.getD undef=.pointer (some ⟨b4,1,none⟩):=hin 0 40
       refine .newX (i:=1) hJ hst ?_
       have hc:W.cell? ⟨b4,1,none⟩=some (.slice Av i cv):=(HB4d.out.chg hJ.1 (fun h=>hne4 _ h rfl)).cell 1
       exact .same (v:=.slice Av i cv) (by simp [go_sem,h40,hc]) rfl
      ·refine .newX (i:=2) hJ hst ?_
       exact .value (W':=W.alloc (.cells #[.string ⟨#[97]⟩,.string ⟨#[98]⟩,.string ⟨#[99]⟩,.string ⟨#[100]⟩] 9)) (v:=.slice (some ⟨W.heap.size,0,none⟩) 4 4) (by simp [go_sem]) ⟨(Chg.refl _ _).alloc _,_,rfl,Blk.new _ _ _⟩
      ·refine .newX (i:=3) hJ hst ?_
       exact .same (uo 5 (.int .i64 i) rfl (hk 5)) rfl
      ·have h1:A0.tmps[1]?.getD undef=.pointer (some ⟨w.heap.size,0,none⟩):=hk 1
       refine .newX (i:=4) hJ hst ?_
       exact .same (v:=.pointer (some ⟨w.heap.size,2,none⟩)) (by simp [go_sem,h1]) rfl
      ·have h43:A0.tmps[43]?.getD undef=.int .i64 i:=hin 3 43
       have h44:A0.tmps[44]?.getD undef=.pointer (some ⟨w.heap.size,2,none⟩):=hin 4 44
       refine .newX (i:=5) hJ hst ?_
       exact .same (v:=.pointer (some ⟨w.heap.size,2+i,none⟩)) (by simp [go_sem,h43,h44,q0,q1,q2]) rfl
      ·have h45:A0.tmps[45]?.getD undef=.pointer (some ⟨w.heap.size,2+i,none⟩):=hin 5 45
       refine .newX (i:=6) hJ hst ?_
       have hc:W.cell? ⟨w.heap.size,2+i,none⟩=some (.int .i64 y):=Hy.out W (HRwd.out.chg hJ.1 (fun h=>hneR _ h rfl))
       exact .same (v:=.int .i64 y) (by simp [go_sem,h45,hc]) rfl
      ·have h46:A0.tmps[46]?.getD undef=.int .i64 y:=hin 6 46
       refine .newX (i:=7) hJ hst ?_
       exact .same (v:=.int .i64 (y.tdiv 2)) (by simp [go_sem,h46,kq]) rfl
      ·have h47:A0.tmps[47]?.getD undef=.int .i64 (y.tdiv 2):=hin 7 47
       refine .newX (i:=8) hJ hst ?_
       refine .enter (f:=64) (args:=#[.int .i64 (y.tdiv 2),.int .i64 4]) (v:=.int .i64 q) ?_ ((HPq.out W).mono ?_)
       ·simp [go_sem,h47,eg2]
       ·rintro e w' ⟨rfl,rfl⟩
        exact ⟨rfl,Chg.refl _ _,rfl⟩
      ·have h42:=hin 2 42
       have h48:A0.tmps[48]?.getD undef=.int .i64 q:=hin 8 48
       refine .newX (i:=9) hJ hst ?_
       obtain ⟨rb,e42,hb⟩:=h42
       exact .same (v:=.pointer (some ⟨rb,q,none⟩)) (by simp [go_sem,e42,h48,q3,q4,hqlt]) ⟨rb,rfl,hb⟩
      ·have h49:=hin 9 49
       refine .newX (i:=10) hJ hst ?_
       obtain ⟨rb,e49,hb⟩:=h49
       have hc:W.cell? ⟨rb,q,none⟩=some (.string tx):=(hb.cell q).trans htx
       exact .same (v:=.string tx) (by simp [go_sem,e49,hc]) rfl
      ·have h50:A0.tmps[50]?.getD undef=.string tx:=hin 10 50
       refine .newX (i:=11) hJ hst ?_
       exact .same (v:=.agg #[.int .i64 3,.int .i64 0,.string tx,.slice none 0 0]) (by simp [go_sem,h50]) rfl
      ·have h51:A0.tmps[51]?.getD undef=.agg #[.int .i64 3,.int .i64 0,.string tx,.slice none 0 0]:=hin 11 51
       refine .newX (i:=12) hJ hst ?_
       exact .value (W':=W.alloc (.cells #[.int .i64 3,.int .i64 0,.string tx,.slice none 0 0] 62)) (v:=.slice (some ⟨W.heap.size,0,none⟩) 1 1) (by simp [go_sem,h51]) ⟨(Chg.refl _ _).alloc _,_,rfl,Blk.new _ _ _⟩
      ·have h41:A0.tmps[41]?.getD undef=.slice Av i cv:=hin 1 41
       have h52:=hin 12 52
       obtain ⟨ro,eo,hb⟩:=h52
       have hbf:b=false:=hμ rfl
       have hNn:New wd W:=hJ.2 hbf
       obtain ⟨v1,W',hrun,hown,hchg,hblk⟩:=fz.appendS (HOvd.out.chg hNn qdr) (qb hlwd hJ.1.size) (some ⟨ro,0,none⟩) 1 1 [vcs nv] rfl (fun cs hc=>by simp only [qp,qm,or_false] at hc;subst hc;rfl) (fun cs hc=>by simp only [qp,qm,or_false] at hc;subst hc;exact gc [nv] _ (by simp)) (fun _=>⟨_,rfl,fun j cs hj=>by
        match j,hj with
        |0,hj=>cases hj;exact ⟨rfl,by rw [yo,Hcs.out];exact hb.at_⟩
        |j+1,hj=>simp at hj⟩) (by rw [qd];have:=HUl.out;omega) (by rw [qd];have:=HUl.out;unfold maxLen;omega) 40
       refine .value (gj _ _ _ _ rfl (by simpa [Act.eval] using h41) (by simpa [Act.eval] using eo) hrun) ⟨hJ.turn hchg qdr,⟨by rw [jw];exact hown,fun k hk=>(hblk k hk).imp id (fun h=>qb hJ.1.size h)⟩,fun k u hki hkx hka hkb h=>?_⟩
       match k with
       |2=>exact hkb.elim (fun h=>absurd h (by decide)) (fun h=>my h (by kernel_rfl))
       |9=>exact hkb.elim (fun h=>absurd h (by decide)) (fun h=>my h (by kernel_rfl))
       |12=>exact absurd rfl hkx
       |13=>exact absurd rfl hki
       |0|1|3|4|5|6|7|8|10|11|14=>exact h
       |_+15=>trivial
      ·have h4:A0.tmps[4]?.getD undef=.pointer (some ⟨b4,0,none⟩):=hk 4
       refine .newX (i:=14) hJ hst ?_
       exact .same (v:=.pointer (some ⟨b4,1,none⟩)) (by simp [go_sem,h4]) rfl
     obtain ⟨x40,x41,x42,x43,x44,x45,x46,x47,x48,x49,x50,x51,x52,x53,x54,rfl⟩:∃ x40 x41 x42 x43 x44 x45 x46 x47 x48 x49 x50 x51 x52 x53 x54,l=[x40,x41,x42,x43,x44,x45,x46,x47,x48,x49,x50,x51,x52,x53,x54]:=by
      match l,hl with
      | [x40,x41,x42,x43,x44,x45,x46,x47,x48,x49,x50,x51,x52,x53,x54],_=>exact ⟨_,_,_,_,_,_,_,_,_,_,_,_,_,_,_,rfl⟩
     obtain rfl:x40=.pointer (some ⟨b4,1,none⟩):=hΦ 0 (by decide) (by decide)
     obtain rfl:x41=.slice Av i cv:=hΦ 1 (by decide) (by decide)
     obtain rfl:x43=.int .i64 i:=hΦ 3 (by decide) (by decide)
     obtain rfl:x44=.pointer (some ⟨w.heap.size,2,none⟩):=hΦ 4 (by decide) (by decide)
     obtain rfl:x45=.pointer (some ⟨w.heap.size,2+i,none⟩):=hΦ 5 (by decide) (by decide)
     obtain rfl:x46=.int .i64 y:=hΦ 6 (by decide) (by decide)
     obtain rfl:x47=.int .i64 (y.tdiv 2):=hΦ 7 (by decide) (by decide)
     obtain rfl:x48=.int .i64 q:=hΦ 8 (by decide) (by decide)
     obtain rfl:x50=.string tx:=hΦ 10 (by decide) (by decide)
     obtain rfl:x51=.agg #[.int .i64 3,.int .i64 0,.string tx,.slice none 0 0]:=hΦ 11 (by decide) (by decide)
     have hx53:(fun v W=>Own W w.heap.size 62 4 v ((us++[nv]).map vcs)∧∀ k,v.ownBlock=some k→(Value.slice Av i cv).ownBlock=some k∨wd.heap.size≤k:Value→World→Prop) x53 W3:=hΦ 13 (by decide) (by decide)
     obtain rfl:x54=.pointer (some ⟨b4,1,none⟩):=hΦ 14 (by decide) (by decide)
     simp only [putsL,zq,zj,zz,List.zip,List.zipWith,Act.put,qk,qu,qy]
     clear hΦ hl hst
     obtain ⟨hown,hblk⟩:=hx53
     obtain ⟨An,cn,hvn,_,_⟩:=hown.form
     obtain ⟨nn,hnn⟩:=qdp ((List.map vcs (us++[nv])).length)
     rw [hnn] at hvn
     clear hnn
     have hT:∀ g,g < wd.heap.size→¬ ((Value.slice Av i cv).ownBlock=some g)→True:=fun _ _ _=>trivial
     have hb4n:=HB4d.out.chg hJ.1 (fun h=>hne4 _ h rfl)
     have hb3n:=HB3d.out.chg hJ.1 (fun h=>hne3 _ h rfl)
     have hrwn:=HRwd.out.chg hJ.1 (fun h=>hneR _ h rfl)
     have hqn:=HQd.out.chg hJ.1 (fun h=>hneQ _ h rfl)
     have hNn:New w W3:=HNd.out.trans hJ.1 (fun k hk h=>absurd ((HOvd.out.lt h).1) (by omega))
     have hne:∀ g,x53.ownBlock=some g→g≠b4:=fun g hg e=>xg hown hb4n (by decide) (by rw [hg,e])
     have c1:=hb4n.cell 1
     have f1:=hb4n.frozen 1
     simp only [qx,qj,qw] at c1
     have HB4':=qq (show Blk (W3.setCell ⟨b4,1,none⟩ x53) b4 60 #[.string nm,x53] by simpa using hb4n.setCell 1 x53)
     have HOv':=qq (show Own (W3.setCell ⟨b4,1,none⟩ x53) w.heap.size 62 4 x53 ((us++[nv]).map vcs) from hown.chg (T:=fun k=>k=b4) ((Chg.refl _ _).setCell _ _ (fun _=>rfl)) (fun g hg e=>hne g hg e))
     have HB3':=qq (hb3n.far (p:=⟨b4,1,none⟩) (by simp;omega) x53)
     have HRw':=qq (hrwn.far (p:=⟨b4,1,none⟩) (by simp;omega) x53)
     have HQ':=qq (hqn.far (p:=⟨b4,1,none⟩) (by simp;omega) x53)
     have HN':=qq (hNn.setCell ⟨b4,1,none⟩ x53 (fun h=>absurd h (by simp;omega)))
     have HCn':=qq (show ∀ u∈us++[nv],rawV u from fun u hu=>(zk.1 hu).elim (HCn.out u) (fun h=>by rw [qn.1 h];exact Hnc.out))
     clear hown hblk hT hb4n hb3n hrwn hqn hNn hne hJ HB4d HOvd HB3d HRwd HQd HNd HNrr
     subst hvn
     refine AtN.list 15 16 (by kernel_rfl) ?_
     change wpList _ _ _ [_] _ _
     go_wp2_with fail
     change AtN _ _ _ 16 _ _
     refine AtN.done rfl ?_
     go_wp2_with fail
     go_roundw
     case rel=>exact ⟨i+1,us++[nv],_,by omega,by go_num,by rw [qg,HUl.out];rfl,HCn'.out,HB4'.out,HOv'.out,HB3'.out,HRw'.out,HQ'.out,HN'.out⟩
     case measure=>simp only [intOf];omega
    |false=>
     go_upto_region 8 with fail
     obtain ⟨q,hqe⟩:∃ q:Nat,pk (y.tdiv 2) 5=q:=⟨(pk (y.tdiv 2) 5).toNat,by have:=km (y.tdiv 2) 5 (by omega);omega⟩
     have hqlt:q < 5:=by have:=kn (y.tdiv 2) 5 (by omega);omega
     have hyb:=ev hyl hyh
     have hpq:=fun W=>gm W (y.tdiv 2) 5 hyb.1 hyb.2 (by omega) (by omega)
     rw [hqe] at hpq
     have HPq:=qq hpq
     have kq:IntKind.i64.wrap (y.tdiv 2)=y.tdiv 2:=by rw [IntKind.wrap_i64];omega
     obtain ⟨Av,cv,hvv,_,_⟩:=HOv.out.form
     rw [qd,HUl.out] at hvv
     subst hvv
     have hne4:∀ g,(Value.slice Av i cv).ownBlock=some g→g≠b4:=fun g hg e=>xg HOv.out HB4.out (by decide) (by rw [hg,e])
     have hneR:∀ g,(Value.slice Av i cv).ownBlock=some g→g≠w.heap.size:=fun g hg e=>xg HOv.out HRw.out (by decide) (by rw [hg,e])
     have hne3:∀ g,(Value.slice Av i cv).ownBlock=some g→g≠b3:=fun g hg e=>xg HOv.out HB3.out (by decide) (by rw [hg,e])
     have hneQ:∀ g,(Value.slice Av i cv).ownBlock=some g→g≠w.heap.size+1:=fun g hg e=>xg HOv.out HQ.out (by decide) (by rw [hg,e])
     have hlw:=HNw.out.size
     clear hqe hpq
     obtain ⟨nv,hnv⟩:∃ nv:Vl,nv=⟨1,q,⟨#[]⟩⟩:=⟨_,rfl⟩
     have hnc:rawV nv:=by rw [hnv];exact .inl ⟨q,by omega,by omega,rfl⟩
     have hcs:vcs nv=[.int .i64 1,.int .i64 q,.string ⟨#[]⟩,.slice none 0 0]:=by rw [hnv];rfl
     have Hnc:=qq hnc
     have Hcs:=qq hcs
     clear hnv hnc hcs
     refine vj (by kernel_rfl) ?_
     have hnd:New wc wc.drew:=(Chg.refl _ _).drew
     have HB4d:=qq (HB4.out.chg hnd id)
     have HOvd:=qq (HOv.out.chg hnd qdr)
     have HB3d:=qq (HB3.out.chg hnd id)
     have HRwd:=qq (HRw.out.chg hnd id)
     have HQd:=qq (HQ.out.chg hnd id)
     have HNd:=qq (HNw.out.trans hnd qdr)
     have hb4l:=HB4d.out.lt
     clear hnd HB4 HOv HB3 HRw HQ HNw ey e0 e1 hd
     generalize wc.drew=wd at HB4d HOvd HB3d HRwd HQd HNd hb4l⊢
     have hlwd:=HNd.out.size
     have q0:(0:Int)≤(i:Int):=by omega
     have q1:(i:Int) < 4:=by omega
     have q2:i < 4:=by omega
     have q3:(0:Int)≤(q:Int):=by omega
     have q4:(q:Int) < 5:=by omega
     have HNrr:=qq HNd.out
     have hst:∀ jj uu w1 w2,New w1 w2→(fun
       |0=>fun v _=>v=.pointer (some ⟨b4,1,none⟩)
       |1=>fun v _=>v=.slice Av i cv
       |2=>fun v _=>v=.int .i64 i
       |3=>fun v _=>v=.pointer (some ⟨w.heap.size,2,none⟩)
       |4=>fun v _=>v=.pointer (some ⟨w.heap.size,2+i,none⟩)
       |5=>fun v _=>v=.int .i64 y
       |6=>fun v _=>v=.int .i64 (y.tdiv 2)
       |7=>fun v _=>v=.int .i64 q
       |8=>fun v _=>v=.agg #[.int .i64 1,.int .i64 q,.string ⟨#[]⟩,.slice none 0 0]
       |9=>fun v W=>∃ rb,v=.slice (some ⟨rb,0,none⟩) 1 1∧Blk W rb 62 #[.int .i64 1,.int .i64 q,.string ⟨#[]⟩,.slice none 0 0]
       |10=>fun v W=>Own W w.heap.size 62 4 v ((us++[nv]).map vcs)∧∀ k,v.ownBlock=some k→(Value.slice Av i cv).ownBlock=some k∨wd.heap.size≤k
       |11=>fun v _=>v=.pointer (some ⟨b4,1,none⟩)
       |_=>fun _ _=>True:Nat→Value→World→Prop) jj uu w1→(fun
       |0=>fun v _=>v=.pointer (some ⟨b4,1,none⟩)
       |1=>fun v _=>v=.slice Av i cv
       |2=>fun v _=>v=.int .i64 i
       |3=>fun v _=>v=.pointer (some ⟨w.heap.size,2,none⟩)
       |4=>fun v _=>v=.pointer (some ⟨w.heap.size,2+i,none⟩)
       |5=>fun v _=>v=.int .i64 y
       |6=>fun v _=>v=.int .i64 (y.tdiv 2)
       |7=>fun v _=>v=.int .i64 q
       |8=>fun v _=>v=.agg #[.int .i64 1,.int .i64 q,.string ⟨#[]⟩,.slice none 0 0]
       |9=>fun v W=>∃ rb,v=.slice (some ⟨rb,0,none⟩) 1 1∧Blk W rb 62 #[.int .i64 1,.int .i64 q,.string ⟨#[]⟩,.slice none 0 0]
       |10=>fun v W=>Own W w.heap.size 62 4 v ((us++[nv]).map vcs)∧∀ k,v.ownBlock=some k→(Value.slice Av i cv).ownBlock=some k∨wd.heap.size≤k
       |11=>fun v _=>v=.pointer (some ⟨b4,1,none⟩)
       |_=>fun _ _=>True:Nat→Value→World→Prop) jj uu w2:=by
      intro j uu w1 w2 hc h
      match j with
      |9=>exact h.imp fun b h=>⟨h.1,h.2.chg hc id⟩
      |10=>exact ⟨h.1.chg hc qdr,h.2⟩
      |0|1|2|3|4|5|6|7|8|11=>exact h
      |_+12=>trivial
     refine AtN.segX2 0 12 10 [55,56,57,58,59,60,61,62,63,64,65,66] (fun k=>(Value.slice Av i cv).ownBlock=some k) (fun
       |9=>10
       |_=>999) (fun
       |0=>fun v _=>v=.pointer (some ⟨b4,1,none⟩)
       |1=>fun v _=>v=.slice Av i cv
       |2=>fun v _=>v=.int .i64 i
       |3=>fun v _=>v=.pointer (some ⟨w.heap.size,2,none⟩)
       |4=>fun v _=>v=.pointer (some ⟨w.heap.size,2+i,none⟩)
       |5=>fun v _=>v=.int .i64 y
       |6=>fun v _=>v=.int .i64 (y.tdiv 2)
       |7=>fun v _=>v=.int .i64 q
       |8=>fun v _=>v=.agg #[.int .i64 1,.int .i64 q,.string ⟨#[]⟩,.slice none 0 0]
       |9=>fun v W=>∃ rb,v=.slice (some ⟨rb,0,none⟩) 1 1∧Blk W rb 62 #[.int .i64 1,.int .i64 q,.string ⟨#[]⟩,.slice none 0 0]
       |10=>fun v W=>Own W w.heap.size 62 4 v ((us++[nv]).map vcs)∧∀ k,v.ownBlock=some k→(Value.slice Av i cv).ownBlock=some k∨wd.heap.size≤k
       |11=>fun v _=>v=.pointer (some ⟨b4,1,none⟩)
       |_=>fun _ _=>True:Nat→Value→World→Prop) (by kernel_rfl) (by kernel_rfl) (by kernel_rfl) (by kernel_rfl) (fun i hn hi o ho A0 W b hJ hμ hin hk=>?_) (fun l W3 hJ hl hΦ=>?_)
     ·rcases (show i=0∨i=1∨i=2∨i=3∨i=4∨i=5∨i=6∨i=7∨i=8∨i=9∨i=10∨i=11 by omega) with rfl|rfl|rfl|rfl|rfl|rfl|rfl|rfl|rfl|rfl|rfl|rfl<;>cases ho
      ·have h4:A0.tmps[4]?.getD undef=.pointer (some ⟨b4,0,none⟩):=hk 4
       refine .newX (i:=0) hJ hst ?_
       exact .same (v:=.pointer (some ⟨b4,1,none⟩)) (by simp [go_sem,h4]) rfl
      ·have h55:A0.tmps[55]?.getD undef=.pointer (some ⟨b4,1,none⟩):=hin 0 55
       refine .newX (i:=1) hJ hst ?_
       have hc:W.cell? ⟨b4,1,none⟩=some (.slice Av i cv):=(HB4d.out.chg hJ.1 (fun h=>hne4 _ h rfl)).cell 1
       exact .same (v:=.slice Av i cv) (by simp [go_sem,h55,hc]) rfl
      ·refine .newX (i:=2) hJ hst ?_
       exact .same (uo 5 (.int .i64 i) rfl (hk 5)) rfl
      ·have h1:A0.tmps[1]?.getD undef=.pointer (some ⟨w.heap.size,0,none⟩):=hk 1
       refine .newX (i:=3) hJ hst ?_
       exact .same (v:=.pointer (some ⟨w.heap.size,2,none⟩)) (by simp [go_sem,h1]) rfl
      ·have h57:A0.tmps[57]?.getD undef=.int .i64 i:=hin 2 57
       have h58:A0.tmps[58]?.getD undef=.pointer (some ⟨w.heap.size,2,none⟩):=hin 3 58
       refine .newX (i:=4) hJ hst ?_
       exact .same (v:=.pointer (some ⟨w.heap.size,2+i,none⟩)) (by simp [go_sem,h57,h58,q0,q1,q2]) rfl
      ·have h59:A0.tmps[59]?.getD undef=.pointer (some ⟨w.heap.size,2+i,none⟩):=hin 4 59
       refine .newX (i:=5) hJ hst ?_
       have hc:W.cell? ⟨w.heap.size,2+i,none⟩=some (.int .i64 y):=Hy.out W (HRwd.out.chg hJ.1 (fun h=>hneR _ h rfl))
       exact .same (v:=.int .i64 y) (by simp [go_sem,h59,hc]) rfl
      ·have h60:A0.tmps[60]?.getD undef=.int .i64 y:=hin 5 60
       refine .newX (i:=6) hJ hst ?_
       exact .same (v:=.int .i64 (y.tdiv 2)) (by simp [go_sem,h60,kq]) rfl
      ·have h61:A0.tmps[61]?.getD undef=.int .i64 (y.tdiv 2):=hin 6 61
       refine .newX (i:=7) hJ hst ?_
       refine .enter (f:=64) (args:=#[.int .i64 (y.tdiv 2),.int .i64 5]) (v:=.int .i64 q) ?_ ((HPq.out W).mono ?_)
       ·simp [go_sem,h61,eg2]
       ·rintro e w' ⟨rfl,rfl⟩
        exact ⟨rfl,Chg.refl _ _,rfl⟩
      ·have h62:A0.tmps[62]?.getD undef=.int .i64 q:=hin 7 62
       refine .newX (i:=8) hJ hst ?_
       exact .same (v:=.agg #[.int .i64 1,.int .i64 q,.string ⟨#[]⟩,.slice none 0 0]) (by simp [go_sem,h62]) rfl
      ·have h63:A0.tmps[63]?.getD undef=.agg #[.int .i64 1,.int .i64 q,.string ⟨#[]⟩,.slice none 0 0]:=hin 8 63
       refine .newX (i:=9) hJ hst ?_
       exact .value (W':=W.alloc (.cells #[.int .i64 1,.int .i64 q,.string ⟨#[]⟩,.slice none 0 0] 62)) (v:=.slice (some ⟨W.heap.size,0,none⟩) 1 1) (by simp [go_sem,h63]) ⟨(Chg.refl _ _).alloc _,_,rfl,Blk.new _ _ _⟩
      ·have h56:A0.tmps[56]?.getD undef=.slice Av i cv:=hin 1 56
       have h64:=hin 9 64
       obtain ⟨ro,eo,hb⟩:=h64
       have hbf:b=false:=hμ rfl
       have hNn:New wd W:=hJ.2 hbf
       obtain ⟨v1,W',hrun,hown,hchg,hblk⟩:=fz.appendS (HOvd.out.chg hNn qdr) (qb hlwd hJ.1.size) (some ⟨ro,0,none⟩) 1 1 [vcs nv] rfl (fun cs hc=>by simp only [qp,qm,or_false] at hc;subst hc;rfl) (fun cs hc=>by simp only [qp,qm,or_false] at hc;subst hc;exact gc [nv] _ (by simp)) (fun _=>⟨_,rfl,fun j cs hj=>by
        match j,hj with
        |0,hj=>cases hj;exact ⟨rfl,by rw [yo,Hcs.out];exact hb.at_⟩
        |j+1,hj=>simp at hj⟩) (by rw [qd];have:=HUl.out;omega) (by rw [qd];have:=HUl.out;unfold maxLen;omega) 40
       refine .value (gj _ _ _ _ rfl (by simpa [Act.eval] using h56) (by simpa [Act.eval] using eo) hrun) ⟨hJ.turn hchg qdr,⟨by rw [jw];exact hown,fun k hk=>(hblk k hk).imp id (fun h=>qb hJ.1.size h)⟩,fun k u hki hkx hka hkb h=>?_⟩
       match k with
       |9=>exact absurd rfl hkx
       |10=>exact absurd rfl hki
       |0|1|2|3|4|5|6|7|8|11=>exact h
       |_+12=>trivial
      ·have h4:A0.tmps[4]?.getD undef=.pointer (some ⟨b4,0,none⟩):=hk 4
       refine .newX (i:=11) hJ hst ?_
       exact .same (v:=.pointer (some ⟨b4,1,none⟩)) (by simp [go_sem,h4]) rfl
     obtain ⟨x55,x56,x57,x58,x59,x60,x61,x62,x63,x64,x65,x66,rfl⟩:∃ x55 x56 x57 x58 x59 x60 x61 x62 x63 x64 x65 x66,l=[x55,x56,x57,x58,x59,x60,x61,x62,x63,x64,x65,x66]:=by
      match l,hl with
      | [x55,x56,x57,x58,x59,x60,x61,x62,x63,x64,x65,x66],_=>exact ⟨_,_,_,_,_,_,_,_,_,_,_,_,rfl⟩
     obtain rfl:x55=.pointer (some ⟨b4,1,none⟩):=hΦ 0 (by decide) (by decide)
     obtain rfl:x56=.slice Av i cv:=hΦ 1 (by decide) (by decide)
     obtain rfl:x57=.int .i64 i:=hΦ 2 (by decide) (by decide)
     obtain rfl:x58=.pointer (some ⟨w.heap.size,2,none⟩):=hΦ 3 (by decide) (by decide)
     obtain rfl:x59=.pointer (some ⟨w.heap.size,2+i,none⟩):=hΦ 4 (by decide) (by decide)
     obtain rfl:x60=.int .i64 y:=hΦ 5 (by decide) (by decide)
     obtain rfl:x61=.int .i64 (y.tdiv 2):=hΦ 6 (by decide) (by decide)
     obtain rfl:x62=.int .i64 q:=hΦ 7 (by decide) (by decide)
     obtain rfl:x63=.agg #[.int .i64 1,.int .i64 q,.string ⟨#[]⟩,.slice none 0 0]:=hΦ 8 (by decide) (by decide)
     have hx65:(fun v W=>Own W w.heap.size 62 4 v ((us++[nv]).map vcs)∧∀ k,v.ownBlock=some k→(Value.slice Av i cv).ownBlock=some k∨wd.heap.size≤k:Value→World→Prop) x65 W3:=hΦ 10 (by decide) (by decide)
     obtain rfl:x66=.pointer (some ⟨b4,1,none⟩):=hΦ 11 (by decide) (by decide)
     simp only [putsL,zq,zj,zz,List.zip,List.zipWith,Act.put,qk,qu,qy]
     clear hΦ hl hst
     obtain ⟨hown,hblk⟩:=hx65
     obtain ⟨An,cn,hvn,_,_⟩:=hown.form
     obtain ⟨nn,hnn⟩:=qdp ((List.map vcs (us++[nv])).length)
     rw [hnn] at hvn
     clear hnn
     have hT:∀ g,g < wd.heap.size→¬ ((Value.slice Av i cv).ownBlock=some g)→True:=fun _ _ _=>trivial
     have hb4n:=HB4d.out.chg hJ.1 (fun h=>hne4 _ h rfl)
     have hb3n:=HB3d.out.chg hJ.1 (fun h=>hne3 _ h rfl)
     have hrwn:=HRwd.out.chg hJ.1 (fun h=>hneR _ h rfl)
     have hqn:=HQd.out.chg hJ.1 (fun h=>hneQ _ h rfl)
     have hNn:New w W3:=HNd.out.trans hJ.1 (fun k hk h=>absurd ((HOvd.out.lt h).1) (by omega))
     have hne:∀ g,x65.ownBlock=some g→g≠b4:=fun g hg e=>xg hown hb4n (by decide) (by rw [hg,e])
     have c1:=hb4n.cell 1
     have f1:=hb4n.frozen 1
     simp only [qx,qj,qw] at c1
     have HB4':=qq (show Blk (W3.setCell ⟨b4,1,none⟩ x65) b4 60 #[.string nm,x65] by simpa using hb4n.setCell 1 x65)
     have HOv':=qq (show Own (W3.setCell ⟨b4,1,none⟩ x65) w.heap.size 62 4 x65 ((us++[nv]).map vcs) from hown.chg (T:=fun k=>k=b4) ((Chg.refl _ _).setCell _ _ (fun _=>rfl)) (fun g hg e=>hne g hg e))
     have HB3':=qq (hb3n.far (p:=⟨b4,1,none⟩) (by simp;omega) x65)
     have HRw':=qq (hrwn.far (p:=⟨b4,1,none⟩) (by simp;omega) x65)
     have HQ':=qq (hqn.far (p:=⟨b4,1,none⟩) (by simp;omega) x65)
     have HN':=qq (hNn.setCell ⟨b4,1,none⟩ x65 (fun h=>absurd h (by simp;omega)))
     have HCn':=qq (show ∀ u∈us++[nv],rawV u from fun u hu=>(zk.1 hu).elim (HCn.out u) (fun h=>by rw [qn.1 h];exact Hnc.out))
     clear hown hblk hT hb4n hb3n hrwn hqn hNn hne hJ HB4d HOvd HB3d HRwd HQd HNd HNrr
     subst hvn
     refine AtN.list 12 13 (by kernel_rfl) ?_
     change wpList _ _ _ [_] _ _
     go_wp2_with fail
     change AtN _ _ _ 13 _ _
     refine AtN.done rfl ?_
     go_wp2_with fail
     go_roundw
     case rel=>exact ⟨i+1,us++[nv],_,by omega,by go_num,by rw [qg,HUl.out];rfl,HCn'.out,HB4'.out,HOv'.out,HB3'.out,HRw'.out,HQ'.out,HN'.out⟩
     case measure=>simp only [intOf];omega
  ·have hie:(i:Int)=ar:=by omega
   have hl1:1≤us.length:=by omega
   have hl3:us.length≤3:=by omega
   have hrl:∃ p:Nat,relCs[p]? =some (nm,(us.length:Int)):=⟨p,by rw [hul,hie];exact HPr.out⟩
   have HRl:=qq hrl
   clear hrl
   have HOv:=qq hov
   have HQq:=qq hq
   have HCn:=qq hcan
   have HNw:=qq hN
   have hd:decide ((i:Int) < ar)=false:=decide_eq_false hlt
   have e1:=hb3.cell 1
   simp only [qx,qj,qw] at e1
   have Hat:=qq (show At wr ⟨b4,0,none⟩ [.string nm,vv] from hb4.at_)
   have hvo:vv.oneCell'=true:=by
    obtain ⟨A,c,hv,_⟩:=hov.form
    rw [hv];rfl
   have hst:Blk (wr.setRow (w.heap.size+1) #[.string nm,vv]) (w.heap.size+1) 60 #[.string nm,vv]:=hq.set _
   have hne:vv.ownBlock≠some (w.heap.size+1):=xg hov hq (by decide)
   have HOf:=qq (show Own (wr.setRow (w.heap.size+1) #[.string nm,vv]) w.heap.size 62 4 vv (us.map vcs) from hov.chg (T:=fun k=>k=w.heap.size+1) ((Chg.refl _ _).setRow _ _ (fun _=>rfl)) (fun q hq e=>hne (by rw [hq,e])))
   have HNf:=qq (hN.setRow (w.heap.size+1) #[.string nm,vv] (fun h=>by omega))
   have Hst:=qq hst
   have Hone:=qq (show ∀ u∈[Value.string nm,vv],u.oneCell'=true from fun u hu=>by
    simp only [qp,qm,or_false] at hu
    rcases hu with rfl|rfl
    ·rfl
    ·exact hvo)
   clear hb4 hov hb3 hrw hq hN hcan hie hlt hst hne hul
   go_wp2_with (first| ((with_reducible refine vq rfl (.tmp 4) 60 rfl cc ⟨b4,0,none⟩ [.string nm,vv] ?_ rfl Hat.out ?_);exact rfl)| ((with_reducible refine vf rfl (.tmp 2) (.tmp 67) 60 rfl cc (w.heap.size+1) 0 60 #[.string ⟨#[]⟩,.slice none 0 0] [.string nm,vv] ?_ ?_ HQq.out rfl (by decide) Hone.out ?_);exact rfl;exact rfl))
   refine bodyPost_ret (v:=.agg #[.string nm,vv]) (fact_res _ _ (w.heap.size+1) [.string nm,vv] rfl Hst.out.at_ rfl) rfl ⟨nm,vv,us,rfl,hl1,hl3,HCn.out,HRl.out,HOf.out,HNf.out⟩
def dy {w:World} {b b':Nat} {e e':TypeId} {k k':Nat} {v v':Value} {css css':List (List Value)} (h:Own w b e k v css) (h':Own w b' e' k' v' css') (hne:e≠e') {g:Nat} (hg:v.ownBlock=some g):v'.ownBlock≠some g:=by
 intro hg'
 rcases h.1.2 with ⟨h1,h2⟩| ⟨g1,cap,cur,h1,hb,hg1,r⟩
 ·rw [h1] at hg;cases hg
 ·rcases h'.1.2 with ⟨h3,h4⟩| ⟨g2,cap',cur',h3,hb',hg2,r'⟩
  ·rw [h3] at hg';cases hg'
  ·rw [h1] at hg
   rw [h3] at hg'
   have e1:g1=g:=Option.some.inj hg
   have e2:g2=g:=Option.some.inj hg'
   subst e1 e2
   rw [hg1] at hg2
   cases hg2
   exact hne rfl
def RowsOwn (W:World) (B:Nat) (cso:List (List Value)) (rs:List Rw):Prop:=cso.length=rs.length∧∀ (i:Nat) (cs:List Value),cso[i]? =some cs→∃ r v,rs[i]? =some r∧OwnRow W B cs r v
def RowsOwn.cs {W:World} {B:Nat} {cso:List (List Value)} {rs:List Rw} (h:RowsOwn W B cso rs):RowsCs W cso rs:=⟨h.1,fun i cs hi=>by
 obtain ⟨r,v,h1,h2⟩:=h.2 i cs hi
 exact ⟨r,h1,h2.row⟩⟩
def RowsOwn.chg {W W':World} {B B' k:Nat} {e:TypeId} {cso css:List (List Value)} {rs:List Rw} {vo:Value} (h:RowsOwn W B cso rs) (ho:Own W B' e k vo css) (he:e≠62) (hc:Chg W W' (fun g=>vo.ownBlock=some g)):RowsOwn W' B cso rs:=⟨h.1,fun i cs hi=>by
 obtain ⟨r,v,h1,h2⟩:=h.2 i cs hi
 exact ⟨r,v,h1,h2.chg hc (fun g hg hg'=>dy ho h2.2.2 he hg' hg)⟩⟩
def RowsOwn.new {W W':World} {B:Nat} {cso:List (List Value)} {rs:List Rw} (h:RowsOwn W B cso rs) (hc:New W W'):RowsOwn W' B cso rs:=⟨h.1,fun i cs hi=>by
 obtain ⟨r,v,h1,h2⟩:=h.2 i cs hi
 exact ⟨r,v,h1,h2.chg hc (fun g hg hg'=>hg')⟩⟩
def RowsOwn.snoc {W:World} {B:Nat} {cso:List (List Value)} {rs:List Rw} {cs:List Value} {r:Rw} {v:Value} (h:RowsOwn W B cso rs) (hr:OwnRow W B cs r v):RowsOwn W B (cso++[cs]) (rs++[r]):=by
 refine ⟨by simp [h.1],fun i c hi=>?_⟩
 by_cases hl:i < cso.length
 ·rw [qe hl] at hi
  obtain ⟨r',v',h1,h2⟩:=h.2 i c hi
  exact ⟨r',v',by rw [qe (by rw [←h.1];exact hl)];exact h1,h2⟩
 ·rw [qi (by omega)] at hi
  have hz:i=cso.length:=by
   have:=(qv.1 hi).1
   simp at this
   omega
  subst hz
  rw [yh] at hi
  obtain rfl:cs=c:=by simpa using hi
  exact ⟨r,v,by rw [qi (by rw [h.1];exact qh _),h.1,yh];rfl,hr⟩
structure Good (r:Rw):Prop where
 can:canonR r
 lo:1≤r.args.length
 hi:r.args.length≤3
 st0:0≤r.stamp
 st9:r.stamp < 9
 raw:∀ v∈r.args,rawV v
 rel:∃ p:Nat,relCs[p]? =some (r.name,(r.args.length:Int))
def RowsPost (w:World) (e:Ending) (w':World):Prop:=∃ v cso rs,e=.returned v∧Own w' w.heap.size 42 3 v cso∧RowsOwn w' w.heap.size cso rs∧rs.length≤40∧(∀ r∈rs,Good r)∧New w w'
def Own.rowSl {w:World} {B:Nat} {v:Value} {cso:List (List Value)} {rs:List Rw} (ho:Own w B 42 3 v cso) (hr:RowsCs w cso rs) (hl:rs.length≤100000000):RowSl w v rs:=by
 obtain ⟨A,c,hv,h1,h2⟩:=ho.form
 have hrw:=(ho.rows hv).2
 rw [hr.1] at hv h1
 exact ⟨A,c,cso,hv,hl,h1,h2,hrw,hr,fun a ha=>(ho.lt (g:=a.block) (by rw [hv,ha];rfl)).2⟩
def wa:StT Tryz.prog 75 6:=⟨⟨_,Tryz.underlying75⟩,by kernel_rfl⟩
def rows10 (w:World) (v:Value) (n:Nat) (X:Nat→Int) (hx:IntsAt w v 6 n X):
  Calls Tryz.prog 38 #[v] w (RowsPost w):=by
 obtain ⟨⟨A,c,rfl,hnc,hcm,hat⟩,hbd⟩:=hx
 have hm:=hcm
 unfold maxLen at hm
 have Hat:=qq hat
 have Hbd:=qq hbd
 clear hat hbd
 go_enter Tryz.func38,Tryz.ntmps38
 go_wp2_with fail
 go_loopw [3,4] (fun u3 u4 wr=>∃ (i:Nat) (cso:List (List Value)) (rs:List Rw),i≤n∧i≤40∧u4=.int .i64 i∧rs.length=i∧Own wr w.heap.size 42 3 u3 cso∧RowsOwn wr w.heap.size cso rs∧(∀ r∈rs,Good r)∧New w wr) (fun _ u _=>40 - (intOf u).toNat)
 case atStart=>exact ⟨0,[],[],qr _,by omega,rfl,rfl,Own.nil _ _ _ _,⟨rfl,fun i cs h=>by simp at h⟩,fun r h=>(by cases h),Chg.refl _ _⟩
 case round=>
  obtain ⟨i,cso,rs,hin,hi40,rfl,hrl,hov,hro,hgd,hN⟩:=hrel
  obtain ⟨Ao,co,rfl,hc1,hc2⟩:=hov.form
  have hcl:cso.length=i:=by rw [hro.1,hrl]
  obtain ⟨m,hmm⟩:=qdp (cso.length)
  rw [hmm] at hov hc1 hcl⊢
  subst hcl
  have Hmm:=qq hmm
  have HOv:=qq hov
  have HRo:=qq hro
  have HGd:=qq hgd
  have HNw:=qq hN
  have HRl:=qq hrl
  clear hov hro hgd hN hrl hmm hc1 hc2
  by_cases hlt:m < n
  ·have l1:decide ((m:Int) < (n:Int))=true:=by simpa using hlt
   have l1':decide (m < n)=true:=by simpa using hlt
   by_cases h40:m < 40
   ·have l2:decide ((m:Int) < 40)=true:=by simp;omega
    obtain ⟨a,rfl,hcell⟩:=Hat.out (by omega)
    have hc:∀ j,j < 6→wr.cell? (a.add (m * 6+j))=some (.int .i64 (X (m * 6+j))):=fun j hj=>HNw.out.cellS (hcell (m * 6+j) (by omega)) id
    have hrow:At wr (a.add (m * 6)) [.int .i64 (X (m * 6)),.int .i64 (X (m * 6+1)),.int .i64 (X (m * 6+2)),.int .i64 (X (m * 6+3)),.int .i64 (X (m * 6+4)),.int .i64 (X (m * 6+5))]:=fun j u hj=>by
     rw [add_add]
     match j,hj with
     |0,hj=>cases hj;exact hc 0 (by omega)
     |1,hj=>cases hj;exact hc 1 (by omega)
     |2,hj=>cases hj;exact hc 2 (by omega)
     |3,hj=>cases hj;exact hc 3 (by omega)
     |4,hj=>cases hj;exact hc 4 (by omega)
     |5,hj=>cases hj;exact hc 5 (by omega)
     |j+6,hj=>simp at hj
    have Hrow:=qq hrow
    have Hc5:=qq (hc 5 (by omega))
    have Hf:=qq (fact06 wr (X (m * 6)) (X (m * 6+1)) (X (m * 6+2)) (X (m * 6+3)) (X (m * 6+4)) (X (m * 6+5)) (Hbd.out _) (Hbd.out _) (Hbd.out _) (Hbd.out _) (Hbd.out _))
    have hab:a.block < w.heap.size:=by
     have:=World.block_lt_of_cell? w _ (hcell (m * 6) (by omega))
     rwa [xr] at this
    clear hcell hc hrow
    have q0:(0:Int)≤(m:Int):=by omega
    have q1:(m:Int) < (n:Int):=by omega
    go_wp2_with (first| ((with_reducible refine vq rfl (.tmp 18) 75 rfl wa (a.add (m * 6)) _ ?_ rfl Hrow.out ?_);exact rfl))
    refine Hf.out.mono ?_
    rintro e w2 ⟨nm,va,us,rfl,hu1,hu3,huc,hurel,huo,hN2⟩
    obtain ⟨Aa,ca,rfl,_,_⟩:=huo.form
    rw [qd] at huo⊢
    obtain ⟨p9,hp9⟩:=qdp (pk (X (m * 6+5)) 9)
    have h90:0≤p9:=by have:=km (X (m * 6+5)) 9 (by omega);omega
    have h99:p9 < 9:=by have:=kn (X (m * 6+5)) 9 (by omega);omega
    have hpq:=fun W=>pick10 W (X (m * 6+5)) 9 (Hbd.out _).1 (Hbd.out _).2 (by omega) (by omega)
    rw [hp9] at hpq
    have HPq:=qq hpq
    have eg2:=enters_of Tryz.func67 (by kernel_rfl) rfl
    unfold Enters at eg2
    obtain ⟨w3,hw3⟩:=qdq (w2.alloc (.cells #[.string nm,.slice Aa us.length ca] 60))
    have hN3:New w2 w3:=by rw [hw3];exact (Chg.refl _ _).alloc _
    have hB3:Blk w3 w2.heap.size 60 #[.string nm,.slice Aa us.length ca]:=by rw [hw3];exact Blk.new w2 _ _
    have hN0:=hN2.trans hN3 qdr
    have hnd:New w3 w3.drew:=(Chg.refl _ _).drew
    have HN2:=qq (hN0.trans hnd qdr)
    have HB3:=qq (hB3.chg hnd id)
    have HUo:=qq ((huo.chg hN3 qdr).chg hnd qdr)
    have HW3:=qq hw3
    have HUc:=qq huc
    have HUrel:=qq hurel
    have hwr:=HNw.out.size
    obtain ⟨bt,hbt⟩:=qdp (w2.heap.size)
    rw [hbt] at HB3
    have Hbt:=qq hbt
    have HA5:=qq (show (a.add (m * 6)).block=a.block from xr _ _)
    have HA6:=qq (show (a.add (m * 6)).off=a.off+m * 6 from pm _ _)
    have HA7:=qq (show a.add (m * 6+5)=⟨a.block,a.off+(m * 6+5),none⟩ from gk _ _)
    clear hp9 hpq huc hurel huo hN2 hN3 hB3 hN0 hnd hw3 hbt Hf
    go_upto_region 6 with fail
    rw [←HW3.out,Hbt.out]
    refine vj (by kernel_rfl) ?_
    clear HW3 Hbt
    generalize w3.drew=wd at HN2 HB3 HUo⊢
    have hsz:=HN2.out.size
    have HNd:=qq (HNw.out.trans HN2.out qdr)
    have HOv2:=qq (HOv.out.chg HN2.out qdr)
    have HRo2:=qq (HRo.out.new HN2.out)
    have HC5:=qq (HN2.out.cellS Hc5.out id)
    have hne3:∀ g,(Value.slice Ao m co).ownBlock=some g→g≠bt:=fun g hg e=>xg HOv2.out HB3.out (by decide) (by rw [hg,e])
    have hlw:=HNd.out.size
    have hneA:∀ g,(Value.slice Ao m co).ownBlock=some g→g≠a.block:=fun g hg e=>by
     have:=(HOv2.out.lt hg).1
     omega
    have q2:m * 6+5=m * 6+2+3:=rfl
    have hst:∀ jj uu w1 w2,New w1 w2→(fun
      |0=>fun v _=>v=.slice Ao m co
      |1=>fun v _=>v=.pointer (some ⟨bt,0,none⟩)
      |2=>fun v _=>v=.string nm
      |3=>fun v _=>v=.pointer (some ⟨bt,1,none⟩)
      |4=>fun v _=>v=.slice Aa us.length ca
      |5=>fun v _=>v=.slice (some a) n c
      |6=>fun v _=>v=.int .i64 m
      |7=>fun v _=>v=.pointer (some (a.add (m * 6)))
      |8=>fun v _=>v=.pointer (some ⟨a.block,a.off+(m * 6+2),none⟩)
      |9=>fun v _=>v=.pointer (some ⟨a.block,a.off+(m * 6+5),none⟩)
      |10=>fun v _=>v=.int .i64 (X (m * 6+5))
      |11=>fun v _=>v=.int .i64 p9
      |12=>fun v _=>v=.agg #[.string nm,.slice Aa us.length ca,.int .i64 p9]
      |13=>fun v W=>∃ rb,v=.slice (some ⟨rb,0,none⟩) 1 1∧Blk W rb 42 #[.string nm,.slice Aa us.length ca,.int .i64 p9]
      |14=>fun v W=>Own W w.heap.size 42 3 v (cso++[[.string nm,.slice Aa us.length ca,.int .i64 p9]])∧∀ k,v.ownBlock=some k→(Value.slice Ao m co).ownBlock=some k∨wd.heap.size≤k
      |_=>fun _ _=>True:Nat→Value→World→Prop) jj uu w1→(fun
      |0=>fun v _=>v=.slice Ao m co
      |1=>fun v _=>v=.pointer (some ⟨bt,0,none⟩)
      |2=>fun v _=>v=.string nm
      |3=>fun v _=>v=.pointer (some ⟨bt,1,none⟩)
      |4=>fun v _=>v=.slice Aa us.length ca
      |5=>fun v _=>v=.slice (some a) n c
      |6=>fun v _=>v=.int .i64 m
      |7=>fun v _=>v=.pointer (some (a.add (m * 6)))
      |8=>fun v _=>v=.pointer (some ⟨a.block,a.off+(m * 6+2),none⟩)
      |9=>fun v _=>v=.pointer (some ⟨a.block,a.off+(m * 6+5),none⟩)
      |10=>fun v _=>v=.int .i64 (X (m * 6+5))
      |11=>fun v _=>v=.int .i64 p9
      |12=>fun v _=>v=.agg #[.string nm,.slice Aa us.length ca,.int .i64 p9]
      |13=>fun v W=>∃ rb,v=.slice (some ⟨rb,0,none⟩) 1 1∧Blk W rb 42 #[.string nm,.slice Aa us.length ca,.int .i64 p9]
      |14=>fun v W=>Own W w.heap.size 42 3 v (cso++[[.string nm,.slice Aa us.length ca,.int .i64 p9]])∧∀ k,v.ownBlock=some k→(Value.slice Ao m co).ownBlock=some k∨wd.heap.size≤k
      |_=>fun _ _=>True:Nat→Value→World→Prop) jj uu w2:=by
     intro j uu w1 w2 hc h
     match j with
     |13=>exact h.imp fun b h=>⟨h.1,h.2.chg hc id⟩
     |14=>exact ⟨h.1.chg hc qdr,h.2⟩
     |0|1|2|3|4|5|6|7|8|9|10|11|12=>exact h
     |_+15=>trivial
    refine AtN.segX2 0 15 14 [21,22,23,24,25,26,27,28,29,30,31,32,33,34,35] (fun k=>(Value.slice Ao m co).ownBlock=some k) (fun
      |13=>14
      |_=>999) (fun
      |0=>fun v _=>v=.slice Ao m co
      |1=>fun v _=>v=.pointer (some ⟨bt,0,none⟩)
      |2=>fun v _=>v=.string nm
      |3=>fun v _=>v=.pointer (some ⟨bt,1,none⟩)
      |4=>fun v _=>v=.slice Aa us.length ca
      |5=>fun v _=>v=.slice (some a) n c
      |6=>fun v _=>v=.int .i64 m
      |7=>fun v _=>v=.pointer (some (a.add (m * 6)))
      |8=>fun v _=>v=.pointer (some ⟨a.block,a.off+(m * 6+2),none⟩)
      |9=>fun v _=>v=.pointer (some ⟨a.block,a.off+(m * 6+5),none⟩)
      |10=>fun v _=>v=.int .i64 (X (m * 6+5))
      |11=>fun v _=>v=.int .i64 p9
      |12=>fun v _=>v=.agg #[.string nm,.slice Aa us.length ca,.int .i64 p9]
      |13=>fun v W=>∃ rb,v=.slice (some ⟨rb,0,none⟩) 1 1∧Blk W rb 42 #[.string nm,.slice Aa us.length ca,.int .i64 p9]
      |14=>fun v W=>Own W w.heap.size 42 3 v (cso++[[.string nm,.slice Aa us.length ca,.int .i64 p9]])∧∀ k,v.ownBlock=some k→(Value.slice Ao m co).ownBlock=some k∨wd.heap.size≤k
      |_=>fun _ _=>True:Nat→Value→World→Prop) (by kernel_rfl) (by kernel_rfl) (by kernel_rfl) (by kernel_rfl) (fun i hn hi o ho A0 W b hJ hμ hin hk=>?_) (fun l W3 hJ hl hΦ=>?_)
    ·rcases (show i=0∨i=1∨i=2∨i=3∨i=4∨i=5∨i=6∨i=7∨i=8∨i=9∨i=10∨i=11∨i=12∨i=13∨i=14 by omega) with rfl|rfl|rfl|rfl|rfl|rfl|rfl|rfl|rfl|rfl|rfl|rfl|rfl|rfl|rfl<;>cases ho
     ·refine .newX (i:=0) hJ hst ?_
      exact .same (uo 3 (.slice Ao m co) rfl (hk 3)) rfl
     ·have h5:A0.tmps[5]?.getD undef=.pointer (some ⟨bt,0,none⟩):=hk 5
      refine .newX (i:=1) hJ hst ?_
      exact .same (v:=.pointer (some ⟨bt,0,none⟩)) (by simp [go_sem,h5]) rfl
     ·have h22:A0.tmps[22]?.getD undef=.pointer (some ⟨bt,0,none⟩):=hin 1 22
      refine .newX (i:=2) hJ hst ?_
      have hc:W.cell? ⟨bt,0,none⟩=some (.string nm):=(HB3.out.chg hJ.1 (fun h=>hne3 _ h rfl)).cell 0
      exact .same (v:=.string nm) (by simp [go_sem,h22,hc]) rfl
     ·have h5:A0.tmps[5]?.getD undef=.pointer (some ⟨bt,0,none⟩):=hk 5
      refine .newX (i:=3) hJ hst ?_
      exact .same (v:=.pointer (some ⟨bt,1,none⟩)) (by simp [go_sem,h5]) rfl
     ·have h24:A0.tmps[24]?.getD undef=.pointer (some ⟨bt,1,none⟩):=hin 3 24
      refine .newX (i:=4) hJ hst ?_
      have hc:W.cell? ⟨bt,1,none⟩=some (.slice Aa us.length ca):=(HB3.out.chg hJ.1 (fun h=>hne3 _ h rfl)).cell 1
      exact .same (v:=.slice Aa us.length ca) (by simp [go_sem,h24,hc]) rfl
     ·refine .newX (i:=5) hJ hst ?_
      exact .same (uo 0 (.slice (some a) n c) rfl (hk 0)) rfl
     ·refine .newX (i:=6) hJ hst ?_
      exact .same (uo 4 (.int .i64 m) rfl (hk 4)) rfl
     ·have h26:A0.tmps[26]?.getD undef=.slice (some a) n c:=hin 5 26
      have h27:A0.tmps[27]?.getD undef=.int .i64 m:=hin 6 27
      refine .newX (i:=7) hJ hst ?_
      exact .same (v:=.pointer (some (a.add (m * 6)))) (by simp [go_sem,h26,h27,q0,q1,hlt]) rfl
     ·have h28:A0.tmps[28]?.getD undef=.pointer (some (a.add (m * 6))):=hin 7 28
      refine .newX (i:=8) hJ hst ?_
      exact .same (v:=.pointer (some ⟨a.block,a.off+(m * 6+2),none⟩)) (by simp [go_sem,h28,HA5.out,HA6.out,Nat.add_assoc]) rfl
     ·have h29:A0.tmps[29]?.getD undef=.pointer (some ⟨a.block,a.off+(m * 6+2),none⟩):=hin 8 29
      refine .newX (i:=9) hJ hst ?_
      exact .same (v:=.pointer (some ⟨a.block,a.off+(m * 6+5),none⟩)) (by simp [go_sem,h29,Nat.add_assoc]) rfl
     ·have h30:A0.tmps[30]?.getD undef=.pointer (some ⟨a.block,a.off+(m * 6+5),none⟩):=hin 9 30
      refine .newX (i:=10) hJ hst ?_
      have hc:W.cell? ⟨a.block,a.off+(m * 6+5),none⟩=some (.int .i64 (X (m * 6+5))):=by rw [←HA7.out];exact hJ.1.cellS HC5.out (fun h=>hneA _ h (by rw [HA7.out]))
      exact .same (v:=.int .i64 (X (m * 6+5))) (by simp [go_sem,h30,hc]) rfl
     ·have h31:A0.tmps[31]?.getD undef=.int .i64 (X (m * 6+5)):=hin 10 31
      refine .newX (i:=11) hJ hst ?_
      refine .enter (f:=67) (args:=#[.int .i64 (X (m * 6+5)),.int .i64 9]) (v:=.int .i64 p9) ?_ ((HPq.out W).mono ?_)
      ·simp [go_sem,h31,eg2]
      ·rintro e w' ⟨rfl,rfl⟩
       exact ⟨rfl,Chg.refl _ _,rfl⟩
     ·have h23:A0.tmps[23]?.getD undef=.string nm:=hin 2 23
      have h25:A0.tmps[25]?.getD undef=.slice Aa us.length ca:=hin 4 25
      have h32:A0.tmps[32]?.getD undef=.int .i64 p9:=hin 11 32
      refine .newX (i:=12) hJ hst ?_
      exact .same (v:=.agg #[.string nm,.slice Aa us.length ca,.int .i64 p9]) (by simp [go_sem,h23,h25,h32]) rfl
     ·have h33:A0.tmps[33]?.getD undef=.agg #[.string nm,.slice Aa us.length ca,.int .i64 p9]:=hin 12 33
      refine .newX (i:=13) hJ hst ?_
      exact .value (W':=W.alloc (.cells #[.string nm,.slice Aa us.length ca,.int .i64 p9] 42)) (v:=.slice (some ⟨W.heap.size,0,none⟩) 1 1) (by simp [go_sem,h33]) ⟨(Chg.refl _ _).alloc _,_,rfl,Blk.new _ _ _⟩
     ·have h21:A0.tmps[21]?.getD undef=.slice Ao m co:=hin 0 21
      have h34:=hin 13 34
      obtain ⟨ro,eo,hb⟩:=h34
      have hbf:b=false:=hμ rfl
      have hNn:New wd W:=hJ.2 hbf
      obtain ⟨v1,W',hrun,hown,hchg,hblk⟩:=elRow.appendS (HOv2.out.chg hNn qdr) (qb hlw hJ.1.size) (some ⟨ro,0,none⟩) 1 1 [[.string nm,.slice Aa us.length ca,.int .i64 p9]] rfl (fun cs hc=>by simp only [qp,qm,or_false] at hc;subst hc;rfl) (fun cs hc u hu=>by
       simp only [qp,qm,or_false] at hc
       subst hc
       simp only [qp,qm,or_false] at hu
       rcases hu with rfl|rfl|rfl <;> rfl) (fun _=>⟨_,rfl,fun j cs hj=>by
       match j,hj with
       |0,hj=>cases hj;exact ⟨rfl,by rw [yo];exact hb.at_⟩
       |j+1,hj=>simp at hj⟩) (by have:=Hmm.out;omega) (by have:=Hmm.out;unfold maxLen;omega) 31
      refine .value (gj _ _ _ _ rfl (by simpa [Act.eval] using h21) (by simpa [Act.eval] using eo) hrun) ⟨hJ.turn hchg qdr,⟨hown,fun k hk=>(hblk k hk).imp id (fun h=>qb hJ.1.size h)⟩,fun k u hki hkx hka hkb h=>?_⟩
      match k with
      |13=>exact absurd rfl hkx
      |14=>exact absurd rfl hki
      |0|1|2|3|4|5|6|7|8|9|10|11|12=>exact h
      |_+15=>trivial
    obtain ⟨x21,x22,x23,x24,x25,x26,x27,x28,x29,x30,x31,x32,x33,x34,x35,rfl⟩:∃ x21 x22 x23 x24 x25 x26 x27 x28 x29 x30 x31 x32 x33 x34 x35,l=[x21,x22,x23,x24,x25,x26,x27,x28,x29,x30,x31,x32,x33,x34,x35]:=by
     match l,hl with
     | [x21,x22,x23,x24,x25,x26,x27,x28,x29,x30,x31,x32,x33,x34,x35],_=>exact ⟨_,_,_,_,_,_,_,_,_,_,_,_,_,_,_,rfl⟩
    obtain rfl:x21=.slice Ao m co:=hΦ 0 (by decide) (by decide)
    obtain rfl:x22=.pointer (some ⟨bt,0,none⟩):=hΦ 1 (by decide) (by decide)
    obtain rfl:x23=.string nm:=hΦ 2 (by decide) (by decide)
    obtain rfl:x24=.pointer (some ⟨bt,1,none⟩):=hΦ 3 (by decide) (by decide)
    obtain rfl:x25=.slice Aa us.length ca:=hΦ 4 (by decide) (by decide)
    obtain rfl:x26=.slice (some a) n c:=hΦ 5 (by decide) (by decide)
    obtain rfl:x27=.int .i64 m:=hΦ 6 (by decide) (by decide)
    obtain rfl:x28=.pointer (some (a.add (m * 6))):=hΦ 7 (by decide) (by decide)
    obtain rfl:x29=.pointer (some ⟨a.block,a.off+(m * 6+2),none⟩):=hΦ 8 (by decide) (by decide)
    obtain rfl:x30=.pointer (some ⟨a.block,a.off+(m * 6+5),none⟩):=hΦ 9 (by decide) (by decide)
    obtain rfl:x31=.int .i64 (X (m * 6+5)):=hΦ 10 (by decide) (by decide)
    obtain rfl:x32=.int .i64 p9:=hΦ 11 (by decide) (by decide)
    obtain rfl:x33=.agg #[.string nm,.slice Aa us.length ca,.int .i64 p9]:=hΦ 12 (by decide) (by decide)
    have hx35:(fun v W=>Own W w.heap.size 42 3 v (cso++[[.string nm,.slice Aa us.length ca,.int .i64 p9]])∧∀ k,v.ownBlock=some k→(Value.slice Ao m co).ownBlock=some k∨wd.heap.size≤k:Value→World→Prop) x35 W3:=hΦ 14 (by decide) (by decide)
    simp only [putsL,zq,zj,zz,List.zip,List.zipWith,Act.put,qk,qu,qy]
    clear hΦ hl hst
    obtain ⟨hown,hblk⟩:=hx35
    have HOn:=qq hown
    have hown':OwnRow W3 w.heap.size [.string nm,.slice Aa us.length ca,.int .i64 p9] ⟨nm,us,p9⟩ (.slice Aa us.length ca):=⟨rfl,by show us.length≤1000;omega,((HUo.out.base hwr).chg hJ.1 (fun g hg hg'=>dy HOv2.out HUo.out (by decide) hg' hg))⟩
    have HRn:=qq ((HRo2.out.chg HOv2.out (by decide) hJ.1).snoc hown')
    have HNn:=qq (show New w W3 from HNd.out.trans hJ.1 (fun k hk h=>absurd ((HOv2.out.lt h).1) (by omega)))
    have HGn:=qq (show ∀ r∈rs++[⟨nm,us,p9⟩],Good r from fun r hr=>(zk.1 hr).elim (HGd.out r) (fun h=>by
     rw [qn.1 h]
     exact ⟨fun u hu=>(HUc.out u hu).can,hu1,hu3,h90,h99,HUc.out,HUrel.out⟩))
    clear hown hblk hown' hJ HOv2 HRo2 HNd HUo HC5
    refine AtN.list 15 16 (by kernel_rfl) ?_
    change wpList _ _ _ [_] _ _
    go_wp2_with fail
    change AtN _ _ _ 16 _ _
    refine AtN.done rfl ?_
    go_wp2_with fail
    go_roundw
    case rel=>exact ⟨m+1,_,_,by omega,by omega,by go_num,by rw [qg,HRl.out];rfl,HOn.out,HRn.out,HGn.out,HNn.out⟩
    case measure=>simp only [intOf];omega
   ·have l2:decide ((m:Int) < 40)=false:=by simp;omega
    go_wp2_with fail
    go_ret
    exact ⟨_,cso,rs,rfl,HOv.out,HRo.out,by have:=HRl.out;omega,HGd.out,HNw.out⟩
  ·have l1:decide ((m:Int) < (n:Int))=false:=by simp;omega
   have l1':decide (m < n)=false:=by simpa using hlt
   go_wp2_with fail
   go_ret
   exact ⟨_,cso,rs,rfl,HOv.out,HRo.out,by have:=HRl.out;omega,HGd.out,HNw.out⟩
def tl_eq' {a b:ByteArray}:a.toList=b.toList↔a=b:=by
 rw [ByteArray.toList_eq,ByteArray.toList_eq]
 exact ⟨fun h=>ByteArray.ext (Array.toList_inj.mp h),fun h=>by rw [h]⟩
def vals_nil (w:World):Calls Tryz.prog 45 #[.slice none 0 0,.slice none 0 0] w fun e w'=>e=.returned (.bool true)∧w=w':=by
 go_enter Tryz.func45,Tryz.ntmps45
 go_wp2
 refine wp_loop_rounds 1 ?_
 rw [rounds_succ]
 go_wp2
 go_ret
 exact ⟨rfl,rfl⟩
def same_val (a b:Vl) (w:World):Calls Tryz.prog 82 #[.agg #[.int .i64 a.k,.int .i64 a.i,.string a.t,.slice none 0 0],.agg #[.int .i64 b.k,.int .i64 b.i,.string b.t,.slice none 0 0]] w fun e w'=>e=.returned (.bool (decide (a=b)))∧New w w':=by
 have hN:New w ((w.alloc (.cells #[.int .i64 a.k,.int .i64 a.i,.string a.t,.slice none 0 0] 62)).alloc (.cells #[.int .i64 b.k,.int .i64 b.i,.string b.t,.slice none 0 0] 62)):=((Chg.refl w _).alloc _).alloc _
 obtain ⟨R,hR⟩:=qdp (decide (a=b))
 rw [hR]
 obtain ⟨f1,h1⟩:=qdp ((a.k == b.k))
 obtain ⟨f2,h2⟩:=qdp ((a.i == b.i))
 obtain ⟨f3,h3⟩:=qdp ((a.t.toList == b.t.toList))
 have hRf:R=(f1&&f2&&f3):=by
  rw [←hR, ←h1, ←h2, ←h3,Bool.eq_iff_iff]
  cases a;cases b
  simp [tl_eq',and_assoc]
 have hnil:=qq (fun W=>vals_nil W)
 have HN:=qq hN
 have HR:=qq hRf
 clear hN hR hRf
 cases f1 with
 |false=>
  have HR2:=qq (show false=R by rw [HR.out];rfl)
  clear HR
  go_enter Tryz.func82,Tryz.ntmps82
  go_wp2_with fail
  go_ret
  exact ⟨congrArg (fun z=>Ending.returned (.bool z)) HR2.out,HN.out⟩
 |true=>
  cases f2 with
  |false=>
   have HR2:=qq (show false=R by rw [HR.out];rfl)
   clear HR
   go_enter Tryz.func82,Tryz.ntmps82
   go_wp2_with fail
   go_ret
   exact ⟨congrArg (fun z=>Ending.returned (.bool z)) HR2.out,HN.out⟩
  |true=>
   cases f3 with
   |false=>
    have HR2:=qq (show false=R by rw [HR.out];rfl)
    clear HR
    go_enter Tryz.func82,Tryz.ntmps82
    go_wp2_with fail
    go_ret
    exact ⟨congrArg (fun z=>Ending.returned (.bool z)) HR2.out,HN.out⟩
   |true=>
    have HR2:=qq (show true=R by rw [HR.out];rfl)
    clear HR
    go_enter Tryz.func82,Tryz.ntmps82
    go_wp2_with (refine (hnil.out _).mono ?_;rintro e w' ⟨rfl,rfl⟩)
    go_ret
    exact ⟨congrArg (fun z=>Ending.returned (.bool z)) HR2.out,HN.out⟩
def qda (w:World) (A:Option Addr) (n c:Nat) (B:Option Addr) (m d:Nat) (us vs:List Vl) (hn:n=us.length) (hm:m=vs.length) (hnb:n≤100000000) (hmb:m≤100000000) (hA:SrcAt w A 4 (us.map vcs)) (hB:SrcAt w B 4 (vs.map vcs)):
  Calls Tryz.prog 45 #[.slice A n c,.slice B m d] w fun e w'=>e=.returned (.bool (decide (us=vs)))∧New w w':=by
 obtain ⟨R,hR⟩:=qdp (decide (us=vs))
 rw [hR]
 by_cases hnm:n=m
 ·subst hnm
  have hne:((n:Int) != (n:Int))=false:=by simp
  have HA:=qq hA
  have HB:=qq hB
  have HN:=qq hn
  have HM:=qq hm
  have HR:=qq hR
  clear hA hB hn hm hR
  go_enter Tryz.func45,Tryz.ntmps45
  go_wp2_with fail
  go_loopw [5] (fun u5 wr=>∃ k:Nat,k≤n∧u5=.int .i64 k∧New w wr∧us.take k=vs.take k) (fun u _=>n - (intOf u).toNat)
  case atStart=>exact ⟨0,qr _,rfl,Chg.refl _ _,rfl⟩
  case round=>
   obtain ⟨k,hkn,rfl,hN,ht⟩:=hrel
   have HNw:=qq hN
   have Ht:=qq ht
   clear hN ht
   by_cases hlt:k < n
   ·obtain ⟨x,hx⟩:∃ x,us[k]? =some x:=⟨_,qz (by rw [←HN.out];exact hlt)⟩
    obtain ⟨y,hy⟩:∃ y,vs[k]? =some y:=⟨_,qz (by rw [←HM.out];exact hlt)⟩
    obtain ⟨ad,rfl,hrA⟩:=HA.out (by rw [qd, ←HN.out];omega)
    obtain ⟨bd,rfl,hrB⟩:=HB.out (by rw [qd, ←HM.out];omega)
    have hat:=(hrA k (vcs x) (by rw [qa,hx];rfl)).2.chg HNw.out.drew id
    have hbt:=(hrB k (vcs y) (by rw [qa,hy];rfl)).2.chg HNw.out.drew id
    obtain ⟨b,hb⟩:=qdp (decide (x=y))
    have hcall:=same_val x y wr.drew
    rw [hb] at hcall
    have Hat:=qq hat
    have Hbt:=qq hbt
    have Hx:=qq hx
    have Hy:=qq hy
    have Hb:=qq hb
    have Hcall:=qq hcall
    have HNd:=qq HNw.out.drew
    clear hat hbt hx hy hrA hrB hb hcall
    have q0:(0:Int)≤(k:Int):=by omega
    have q1:(k:Int) < (n:Int):=by omega
    go_wp2_with fail
    refine vj (by kernel_rfl) ?_
    generalize wr.drew=wd at Hat Hbt Hcall HNd⊢
    refine AtN.segQ2 0 8 (fun
     |0=>.slice (some ad) n c
     |1=>.int .i64 k
     |2=>.pointer (some (ad.add (k * 4)))
     |3=>.agg #[.int .i64 x.k,.int .i64 x.i,.string x.t,.slice none 0 0]
     |4=>.slice (some bd) n d
     |5=>.int .i64 k
     |6=>.pointer (some (bd.add (k * 4)))
     |_=>.agg #[.int .i64 y.k,.int .i64 y.i,.string y.t,.slice none 0 0])
     [(18,.slice (some ad) n c),(19,.int .i64 k),(20,.pointer (some (ad.add (k * 4)))),(21,.agg #[.int .i64 x.k,.int .i64 x.i,.string x.t,.slice none 0 0]),(22,.slice (some bd) n d),(23,.int .i64 k),(24,.pointer (some (bd.add (k * 4)))),(25,.agg #[.int .i64 y.k,.int .i64 y.i,.string y.t,.slice none 0 0])] (by kernel_rfl) (by kernel_rfl) (by kernel_rfl) (by kernel_rfl) rfl (fun i hn hi o ho A0 hin hk=>?_) ?_
    ·rcases (show i=0∨i=1∨i=2∨i=3∨i=4∨i=5∨i=6∨i=7 by omega) with rfl|rfl|rfl|rfl|rfl|rfl|rfl|rfl<;>cases ho
     ·exact uo 0 _ rfl (hk 0)
     ·exact uo 5 _ rfl (hk 5)
     ·have h18:A0.tmps[18]?.getD undef=.slice (some ad) n c:=hin 0 18
      have h19:A0.tmps[19]?.getD undef=.int .i64 k:=hin 1 19
      exact by simp [go_sem,h18,h19,q0,q1,hlt]
     ·have h20:A0.tmps[20]?.getD undef=.pointer (some (ad.add (k * 4))):=hin 2 20
      exact vu 20 _ rfl vz (ad.add (k * 4)) (vcs x) h20 rfl Hat.out
     ·exact uo 1 _ rfl (hk 1)
     ·exact uo 5 _ rfl (hk 5)
     ·have h22:A0.tmps[22]?.getD undef=.slice (some bd) n d:=hin 4 22
      have h23:A0.tmps[23]?.getD undef=.int .i64 k:=hin 5 23
      exact by simp [go_sem,h22,h23,q0,q1,hlt]
     ·have h24:A0.tmps[24]?.getD undef=.pointer (some (bd.add (k * 4))):=hin 6 24
      exact vu 24 _ rfl vz (bd.add (k * 4)) (vcs y) h24 rfl Hbt.out
    simp only [putsL,Act.put,qk,qu,qy]
    refine AtN.list 8 10 (by kernel_rfl) ?_
    change wpList _ _ _ [_,_] _ _
    go_wp2_with fail
    refine Hcall.out.mono ?_
    rintro e3 W3 ⟨rfl,hN3⟩
    have HN3:=qq (HNd.out.trans hN3 qdr)
    clear hN3 Hcall HNd Hat Hbt
    cases b with
    |true=>
     have Ht2:=qq (show us.take (k+1)=vs.take (k+1) by rw [vh Hx.out,vh Hy.out,Ht.out,of_decide_eq_true Hb.out])
     go_wp2_with fail
     change AtN _ _ _ 10 _ _
     refine AtN.done rfl ?_
     go_wp2_with fail
     go_roundw
     case rel=>exact ⟨k+1,by omega,by go_num,HN3.out,Ht2.out⟩
     case measure=>simp only [intOf];omega
    |false=>
     have HR2:=qq (show false=R by
      rw [←HR.out]
      symm
      rw [decide_eq_false_iff_not]
      rintro rfl
      have h:=Hx.out
      rw [Hy.out] at h
      exact of_decide_eq_false Hb.out (Option.some.inj h).symm)
     go_wp2_with fail
     change AtN _ _ _ 10 _ _
     refine AtN.done rfl ?_
     go_wp2_with fail
     go_ret
     exact ⟨congrArg (fun z=>Ending.returned (.bool z)) HR2.out,HN3.out⟩
   ·have HR2:=qq (show true=R by
     have h:=Ht.out
     rw [show us.take k=us from qc (by rw [←HN.out];omega),show vs.take k=vs from qc (by rw [←HM.out];omega)] at h
     rw [←HR.out,h];simp)
    go_wp2_with fail
    go_ret
    exact ⟨congrArg (fun z=>Ending.returned (.bool z)) HR2.out,HNw.out⟩
 ·have hne:((n:Int) != (m:Int))=true:=by simp;omega
  have hne2:((n:Int) == (m:Int))=false:=by rw [beq_eq_false_iff_ne];omega
  have HR2:=qq (show false=R by
   rw [←hR]
   symm
   rw [decide_eq_false_iff_not]
   rintro rfl
   omega)
  clear hR hn hm hA hB hnm
  go_enter Tryz.func45,Tryz.ntmps45
  go_wp2_with fail
  go_ret
  exact ⟨congrArg (fun z=>Ending.returned (.bool z)) HR2.out,Chg.refl _ _⟩
def qcj (w:World) (A:Option Addr) (n c:Nat) (B:Option Addr) (d:Nat) (css dss:List (List Value)) (rs:List Rw) (hn:n=rs.length) (hnb:n≤100000000) (hA:SrcAt w A 3 css) (hB:SrcAt w B 3 dss) (hra:RowsCs w css rs) (hrb:RowsCs w dss rs):
  Calls Tryz.prog 21 #[.slice A n c,.slice B n d] w fun e w'=>e=.returned (.bool true)∧New w w':=by
 have hne:((n:Int) != (n:Int))=false:=by simp
 have HA:=qq hA
 have HB:=qq hB
 have HN:=qq hn
 have HRa:=qq hra
 have HRb:=qq hrb
 clear hA hB hn hra hrb
 go_enter Tryz.func21,Tryz.ntmps21
 go_wp2_with fail
 go_loopw [5] (fun u5 wr=>∃ k:Nat,k≤n∧u5=.int .i64 k∧New w wr) (fun u _=>n - (intOf u).toNat)
 case atStart=>exact ⟨0,qr _,rfl,Chg.refl _ _⟩
 case round=>
  obtain ⟨k,hkn,rfl,hN⟩:=hrel
  have HNw:=qq hN
  clear hN
  by_cases hlt:k < n
  ·obtain ⟨cs,hcs⟩:∃ cs,css[k]? =some cs:=⟨_,qz (by rw [HRa.out.1, ←HN.out];exact hlt)⟩
   obtain ⟨ds,hds⟩:∃ ds,dss[k]? =some ds:=⟨_,qz (by rw [HRb.out.1, ←HN.out];exact hlt)⟩
   obtain ⟨r,hr1,hrow⟩:=HRa.out.2 k cs hcs
   obtain ⟨r2,hr2,hrow2⟩:=HRb.out.2 k ds hds
   obtain rfl:r=r2:=by rw [hr1] at hr2;exact Option.some.inj hr2
   obtain ⟨ad,rfl,hrA⟩:=HA.out (by rw [HRa.out.1, ←HN.out];omega)
   obtain ⟨bd,rfl,hrB⟩:=HB.out (by rw [HRb.out.1, ←HN.out];omega)
   have hat:=(hrA k cs hcs).2.chg HNw.out.drew id
   have hbt:=(hrB k ds hds).2.chg HNw.out.drew id
   obtain ⟨A1,c1,rfl,a1,a2,a3,a4,a5⟩:=hrow.chg HNw.out.drew
   obtain ⟨B1,d1,rfl,b1,b2,b3,b4,b5⟩:=hrow2.chg HNw.out.drew
   have hcall:=qda wr.drew A1 r.args.length c1 B1 r.args.length d1 r.args r.args rfl rfl (by omega) (by omega) a4 b4
   rw [decide_eq_true (rfl:r.args=r.args)] at hcall
   have x0:=hat 0 _ rfl
   have x1:=hat 1 _ rfl
   have x2:=hat 2 _ rfl
   have y0:=hbt 0 _ rfl
   have y1:=hbt 1 _ rfl
   have y2:=hbt 2 _ rfl
   rw [add_add,Nat.add_zero] at x0 y0
   rw [add_add,gk] at x1 x2 y1 y2
   have hAb:(ad.add (k * 3)).block=ad.block:=xr _ _
   have hAo:(ad.add (k * 3)).off+1=ad.off+(k * 3+1):=by rw [pm];omega
   have hAp:(ad.add (k * 3)).off+2=ad.off+(k * 3+1+1):=by rw [pm];omega
   have hBb:(bd.add (k * 3)).block=bd.block:=xr _ _
   have hBo:(bd.add (k * 3)).off+1=bd.off+(k * 3+1):=by rw [pm];omega
   have hBp:(bd.add (k * 3)).off+2=bd.off+(k * 3+1+1):=by rw [pm];omega
   have X0:=qq x0
   have X1:=qq x1
   have X2:=qq x2
   have Y0:=qq y0
   have Y1:=qq y1
   have Y2:=qq y2
   have Hcall:=qq hcall
   have HNd:=qq HNw.out.drew
   have hss:(r.name.toList != r.name.toList)=false:=by simp
   have hii:(r.stamp != r.stamp)=false:=by simp
   clear x0 x1 x2 y0 y1 y2 hcall hat hbt hcs hds hr1 hr2 hrow hrow2 hrA hrB a4 a5 b4 b5 a2 b2 a3 b3
   have q0:(0:Int)≤(k:Int):=by omega
   have q1:(k:Int) < (n:Int):=by omega
   go_wp2_with fail
   refine vj (by kernel_rfl) ?_
   generalize wr.drew=wd at X0 X1 X2 Y0 Y1 Y2 Hcall HNd⊢
   refine AtN.segQ2 0 12 (fun
    |0=>.slice (some ad) n c
    |1=>.int .i64 k
    |2=>.pointer (some (ad.add (k * 3)))
    |3=>.pointer (some (ad.add (k * 3)))
    |4=>.string r.name
    |5=>.slice (some bd) n d
    |6=>.int .i64 k
    |7=>.pointer (some (bd.add (k * 3)))
    |8=>.pointer (some (bd.add (k * 3)))
    |9=>.string r.name
    |10=>.bool false
    |_=>.bool false)
    [(17,.slice (some ad) n c),(18,.int .i64 k),(19,.pointer (some (ad.add (k * 3)))),(20,.pointer (some (ad.add (k * 3)))),(21,.string r.name),(22,.slice (some bd) n d),(23,.int .i64 k),(24,.pointer (some (bd.add (k * 3)))),(25,.pointer (some (bd.add (k * 3)))),(26,.string r.name),(27,.bool false),(28,.bool false)] (by kernel_rfl) (by kernel_rfl) (by kernel_rfl) (by kernel_rfl) rfl (fun i hn hi o ho A0 hin hk=>?_) ?_
   ·rcases (show i=0∨i=1∨i=2∨i=3∨i=4∨i=5∨i=6∨i=7∨i=8∨i=9∨i=10∨i=11 by omega) with rfl|rfl|rfl|rfl|rfl|rfl|rfl|rfl|rfl|rfl|rfl|rfl<;>cases ho
    ·exact uo 0 _ rfl (hk 0)
    ·exact uo 5 _ rfl (hk 5)
    ·have h17:A0.tmps[17]?.getD undef=.slice (some ad) n c:=hin 0 17
     have h18:A0.tmps[18]?.getD undef=.int .i64 k:=hin 1 18
     exact by simp [go_sem,h17,h18,q0,q1,hlt]
    ·have h19:A0.tmps[19]?.getD undef=.pointer (some (ad.add (k * 3))):=hin 2 19
     exact by simp [go_sem,h19]
    ·have h20:A0.tmps[20]?.getD undef=.pointer (some (ad.add (k * 3))):=hin 3 20
     exact by simp [go_sem,h20,X0.out]
    ·exact uo 1 _ rfl (hk 1)
    ·exact uo 5 _ rfl (hk 5)
    ·have h22:A0.tmps[22]?.getD undef=.slice (some bd) n d:=hin 5 22
     have h23:A0.tmps[23]?.getD undef=.int .i64 k:=hin 6 23
     exact by simp [go_sem,h22,h23,q0,q1,hlt]
    ·have h24:A0.tmps[24]?.getD undef=.pointer (some (bd.add (k * 3))):=hin 7 24
     exact by simp [go_sem,h24]
    ·have h25:A0.tmps[25]?.getD undef=.pointer (some (bd.add (k * 3))):=hin 8 25
     exact by simp [go_sem,h25,Y0.out]
    ·have h21:A0.tmps[21]?.getD undef=.string r.name:=hin 4 21
     have h26:A0.tmps[26]?.getD undef=.string r.name:=hin 9 26
     exact by simp [go_sem,h21,h26]
    ·exact uo 27 _ rfl (hin 10 27)
   simp only [putsL,Act.put,qk,qu,qy]
   refine AtN.segQ2 12 25 (fun
    |12=>.slice (some ad) n c
    |13=>.int .i64 k
    |14=>.pointer (some (ad.add (k * 3)))
    |15=>.pointer (some ⟨ad.block,ad.off+(k * 3+1+1),none⟩)
    |16=>.int .i64 r.stamp
    |17=>.slice (some bd) n d
    |18=>.int .i64 k
    |19=>.pointer (some (bd.add (k * 3)))
    |20=>.pointer (some ⟨bd.block,bd.off+(k * 3+1+1),none⟩)
    |21=>.int .i64 r.stamp
    |22=>.bool false
    |23=>.bool false
    |_=>.bool false)
    [(29,.slice (some ad) n c),(30,.int .i64 k),(31,.pointer (some (ad.add (k * 3)))),(32,.pointer (some ⟨ad.block,ad.off+(k * 3+1+1),none⟩)),(33,.int .i64 r.stamp),(34,.slice (some bd) n d),(35,.int .i64 k),(36,.pointer (some (bd.add (k * 3)))),(37,.pointer (some ⟨bd.block,bd.off+(k * 3+1+1),none⟩)),(38,.int .i64 r.stamp),(39,.bool false),(40,.bool false),(41,.bool false)] (by kernel_rfl) (by kernel_rfl) (by kernel_rfl) (by kernel_rfl) rfl (fun i hn hi o ho A0 hin hk=>?_) ?_
   ·rcases (show i=12∨i=13∨i=14∨i=15∨i=16∨i=17∨i=18∨i=19∨i=20∨i=21∨i=22∨i=23∨i=24 by omega) with rfl|rfl|rfl|rfl|rfl|rfl|rfl|rfl|rfl|rfl|rfl|rfl|rfl<;>cases ho
    ·exact uo 0 _ rfl (hk 0)
    ·exact uo 5 _ rfl (hk 5)
    ·have h29:A0.tmps[29]?.getD undef=.slice (some ad) n c:=hin 12 29
     have h30:A0.tmps[30]?.getD undef=.int .i64 k:=hin 13 30
     exact by simp [go_sem,h29,h30,q0,q1,hlt]
    ·have h31:A0.tmps[31]?.getD undef=.pointer (some (ad.add (k * 3))):=hin 14 31
     exact by simp [go_sem,h31,hAb,hAp]
    ·have h32:A0.tmps[32]?.getD undef=.pointer (some ⟨ad.block,ad.off+(k * 3+1+1),none⟩):=hin 15 32
     exact by simp [go_sem,h32,X2.out]
    ·exact uo 1 _ rfl (hk 1)
    ·exact uo 5 _ rfl (hk 5)
    ·have h34:A0.tmps[34]?.getD undef=.slice (some bd) n d:=hin 17 34
     have h35:A0.tmps[35]?.getD undef=.int .i64 k:=hin 18 35
     exact by simp [go_sem,h34,h35,q0,q1,hlt]
    ·have h36:A0.tmps[36]?.getD undef=.pointer (some (bd.add (k * 3))):=hin 19 36
     exact by simp [go_sem,h36,hBb,hBp]
    ·have h37:A0.tmps[37]?.getD undef=.pointer (some ⟨bd.block,bd.off+(k * 3+1+1),none⟩):=hin 20 37
     exact by simp [go_sem,h37,Y2.out]
    ·have h33:A0.tmps[33]?.getD undef=.int .i64 r.stamp:=hin 16 33
     have h38:A0.tmps[38]?.getD undef=.int .i64 r.stamp:=hin 21 38
     exact by simp [go_sem,h33,h38]
    ·have h28:A0.tmps[28]?.getD undef=.bool false:=hk 28
     have h39:A0.tmps[39]?.getD undef=.bool false:=hin 22 39
     exact by simp [go_sem,h28,h39]
    ·exact uo 40 _ rfl (hin 23 40)
   simp only [putsL,Act.put,qk,qu,qy]
   refine AtN.segQ2 25 35 (fun
    |25=>.slice (some ad) n c
    |26=>.int .i64 k
    |27=>.pointer (some (ad.add (k * 3)))
    |28=>.pointer (some ⟨ad.block,ad.off+(k * 3+1),none⟩)
    |29=>.slice A1 r.args.length c1
    |30=>.slice (some bd) n d
    |31=>.int .i64 k
    |32=>.pointer (some (bd.add (k * 3)))
    |33=>.pointer (some ⟨bd.block,bd.off+(k * 3+1),none⟩)
    |_=>.slice B1 r.args.length d1)
    [(42,.slice (some ad) n c),(43,.int .i64 k),(44,.pointer (some (ad.add (k * 3)))),(45,.pointer (some ⟨ad.block,ad.off+(k * 3+1),none⟩)),(46,.slice A1 r.args.length c1),(47,.slice (some bd) n d),(48,.int .i64 k),(49,.pointer (some (bd.add (k * 3)))),(50,.pointer (some ⟨bd.block,bd.off+(k * 3+1),none⟩)),(51,.slice B1 r.args.length d1)] (by kernel_rfl) (by kernel_rfl) (by kernel_rfl) (by kernel_rfl) rfl (fun i hn hi o ho A0 hin hk=>?_) ?_
   ·rcases (show i=25∨i=26∨i=27∨i=28∨i=29∨i=30∨i=31∨i=32∨i=33∨i=34 by omega) with rfl|rfl|rfl|rfl|rfl|rfl|rfl|rfl|rfl|rfl<;>cases ho
    ·exact uo 0 _ rfl (hk 0)
    ·exact uo 5 _ rfl (hk 5)
    ·have h42:A0.tmps[42]?.getD undef=.slice (some ad) n c:=hin 25 42
     have h43:A0.tmps[43]?.getD undef=.int .i64 k:=hin 26 43
     exact by simp [go_sem,h42,h43,q0,q1,hlt]
    ·have h44:A0.tmps[44]?.getD undef=.pointer (some (ad.add (k * 3))):=hin 27 44
     exact by simp [go_sem,h44,hAb,hAo]
    ·have h45:A0.tmps[45]?.getD undef=.pointer (some ⟨ad.block,ad.off+(k * 3+1),none⟩):=hin 28 45
     exact by simp [go_sem,h45,X1.out]
    ·exact uo 1 _ rfl (hk 1)
    ·exact uo 5 _ rfl (hk 5)
    ·have h47:A0.tmps[47]?.getD undef=.slice (some bd) n d:=hin 30 47
     have h48:A0.tmps[48]?.getD undef=.int .i64 k:=hin 31 48
     exact by simp [go_sem,h47,h48,q0,q1,hlt]
    ·have h49:A0.tmps[49]?.getD undef=.pointer (some (bd.add (k * 3))):=hin 32 49
     exact by simp [go_sem,h49,hBb,hBo]
    ·have h50:A0.tmps[50]?.getD undef=.pointer (some ⟨bd.block,bd.off+(k * 3+1),none⟩):=hin 33 50
     exact by simp [go_sem,h50,Y1.out]
   simp only [putsL,Act.put,qk,qu,qy]
   refine AtN.list 35 38 (by kernel_rfl) ?_
   change wpList _ _ _ [_,_,_] _ _
   go_wp2_with fail
   refine Hcall.out.mono ?_
   rintro e3 W3 ⟨rfl,hN3⟩
   have HN3:=qq (HNd.out.trans hN3 qdr)
   clear hN3 Hcall HNd
   go_wp2_with fail
   change AtN _ _ _ 38 _ _
   refine AtN.done rfl ?_
   go_wp2_with fail
   go_roundw
   case rel=>exact ⟨k+1,by omega,by go_num,HN3.out⟩
   case measure=>simp only [intOf];omega
  ·go_wp2_with fail
   go_ret
   exact ⟨rfl,HNw.out⟩
end Go.Proofs.YtbpgfnbhihklnaaGreat
