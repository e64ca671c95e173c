/- FixStamps: the walk and the statement. -/
import Derived.Test.YtbpgfnbhihklnaaGreatF12
set_option maxHeartbeats 8000000
set_option maxRecDepth 100000
set_option linter.all false
namespace Go.Proofs.YtbpgfnbhihklnaaGreat
open Go.RowKit Go.Shelf
theorem nx_nil2 (w:World):NxAt w w (.slice none 0 0) []:=⟨[],Own.nil w w.heap.size 42 3,⟨rfl,fun i cs h=>by simp at h⟩⟩
theorem NxAt.sl2 {wc W:World} {v:Value} {qs:List Rw} (h:NxAt wc W v qs) (hl:qs.length≤100000000):RowSl W v qs:=by
 obtain ⟨cso,h1,h2⟩:=h
 exact h1.rowSl h2 hl
end Go.Proofs.YtbpgfnbhihklnaaGreat
namespace Go.Proofs.YtbpgfnbhihklnaaGreat
open Go.RowKit Go.Shelf
theorem nx_put {wc W:World} {v:Value} {qs:List Rw} (h:NxAt wc W v qs) {i:Nat} {r:Rw} (hr:qs[i]? =some r):
  ∃ g cap u,v=.slice (some ⟨g,0,none⟩) qs.length cap∧W.cell? ⟨g,i * 3+2,none⟩=some u∧W.frozen? ⟨g,i * 3+2,none⟩=false∧
   ∀ s,NxAt wc (W.setCell ⟨g,i * 3+2,none⟩ (.int .i64 s)) v (qs.set i ⟨r.name,r.args,s⟩)∧(New wc W→New wc (W.setCell ⟨g,i * 3+2,none⟩ (.int .i64 s))):=by
 obtain ⟨cso,h1,h2⟩:=h
 have hi:i < cso.length:=by rw [h2.1];exact (qv.1 hr).1
 obtain ⟨cs,hcs⟩:∃ cs,cso[i]? =some cs:=⟨_,qz hi⟩
 obtain ⟨r',e1,e2⟩:=h2.2 i cs hcs
 obtain rfl:r=r':=Option.some.inj (hr.symm.trans e1)
 obtain ⟨A,c,rfl,g2⟩:=e2
 obtain ⟨g,cap,rest,hv,hb,hblk,hat,hfit,-,hset⟩:=h1.get hcs
 have hcl:=hat 2 (.int .i64 r.stamp) rfl
 rw [Addr.add_lit] at hcl
 refine ⟨g,cap,_,by rw [hv,h2.1],hcl,hblk.frozen _,fun s=>?_⟩
 have hs:=hset 2 (.int .i64 s) (by omega)
 have hc:Chg W (W.setCell ⟨g,i * 3+2,none⟩ (.int .i64 s)) (fun k=>k=g):=(Chg.refl _ _).setCell _ _ (fun _=>rfl)
 have hn:∀ k,k=g→¬ VlB W k:=fun k hk=>qct h1 k (by rw [hv,hk];rfl)
 refine ⟨⟨_,hs,by rw [jk,jk];exact h2.1,fun j cs' hj=>?_⟩,fun hN=>hN.trans hc (fun k hk e=>by have e:k=g:=e;omega)⟩
 by_cases hij:i=j
 ·subst hij
  rw [jx,if_pos rfl,if_pos hi] at hj
  cases hj
  refine ⟨_,by rw [jx,if_pos rfl,if_pos (qv.1 hr).1],?_⟩
  have h3:RowAt W [.string r.name,.slice A r.args.length c,.int .i64 r.stamp] r:=⟨A,c,rfl,g2⟩
  obtain ⟨A',c',f1,f2⟩:=h3.stay hc hn
  injection f1 with _ f1
  injection f1 with f1 _
  injection f1 with f3 _ f4
  subst f3 f4
  exact ⟨A,c,rfl,f2⟩
 ·rw [jx,if_neg hij] at hj
  obtain ⟨q,hq,hqr⟩:=h2.2 j cs' hj
  exact ⟨q,by rw [jx,if_neg hij];exact hq,hqr.stay hc hn⟩
def s7 (r:Rw):Rw:=⟨r.name,r.args,7⟩
def mk7 (x:List Rw) (i:Nat):List Rw:=(x.take i).map s7++x.drop i
theorem mk7_get {x:List Rw} {i:Nat} {r:Rw} (h:x[i]? =some r):(mk7 x i)[i]? =some r:=by
 have hi:=(qv.1 h).1
 unfold mk7
 rw [qi (by rw [qd,ql];omega),qd,ql,show i - min i x.length=0 by omega,jb]
 exact h
theorem mk7_set {x:List Rw} {i:Nat} {r:Rw} (h:x[i]? =some r):(mk7 x i).set i ⟨r.name,r.args,7⟩=mk7 x (i+1):=by
 have hi:=(qv.1 h).1
 have hl:((x.take i).map s7).length=i:=by rw [qd,ql];omega
 unfold mk7
 rw [List.set_append_right _ _ (by omega),hl,yh,vh h,jw,qo]
 congr 1
 rw [jg hi,qy]
 have:x[i]=r:=by
  have:=qz hi
  rw [h] at this
  exact (Option.some.inj this).symm
 rfl
theorem mk7_all {x:List Rw} {i:Nat} (h:x.length≤i):mk7 x i=x.map s7:=by
 unfold mk7
 rw [qc h,List.drop_eq_nil_of_le h,jr]
theorem mk7_len {x:List Rw} {i:Nat} (h:i≤x.length):(mk7 x i).length=x.length:=by
 unfold mk7
 rw [qg,qd,ql,zw]
 omega
end Go.Proofs.YtbpgfnbhihklnaaGreat
namespace Go.Proofs.YtbpgfnbhihklnaaGreat
open Go.RowKit Go.Shelf
def nost (r:Rw):Rw:=⟨r.name,r.args,0⟩
def Ks (a b:List Rw):Prop:=a.map nost=b.map nost
theorem Ks.rfl' {a:List Rw}:Ks a a:=rfl
theorem Ks.sym {a b:List Rw} (h:Ks a b):Ks b a:=Eq.symm h
theorem Ks.tr {a b c:List Rw} (h:Ks a b) (h':Ks b c):Ks a c:=Eq.trans h h'
theorem Ks.len {a b:List Rw} (h:Ks a b):a.length=b.length:=by
 have:=congrArg List.length h
 simpa using this
theorem Ks.app {a b c d:List Rw} (h:Ks a b) (h':Ks c d):Ks (a++c) (b++d):=by
 show (a++c).map nost=(b++d).map nost
 rw [jw,jw,h,h']
theorem insR_sp {x:Rw} (hx:canonR x):∀ {l:List Rw},(∀ y∈l,canonR y)→(insR x l).map nost=insR (nost x) (l.map nost)
 | [],_=>rfl
 |y::ys,h=>by
  have hy:=h y (zb ..)
  have hc:cmpR (nost x) (nost y)=cmpR x y:=rfl
  show (insR x (y::ys)).map nost=insR (nost x) (nost y::ys.map nost)
  unfold insR
  rw [hc]
  split
  ·rfl
  ·split
   ·rename_i h1 h2
    obtain ⟨e1,e2⟩:=de hx hy h2
    have e3:nost y=nost x:=by
     unfold nost
     rw [e1,e2]
    rw [yi,if_pos (show (nost y).stamp≤(nost x).stamp from yk _)]
    split
    ·rfl
    ·rw [e3]
   ·rw [yi,insR_sp hx (fun z hz=>h z (zh _ hz))]
theorem mergeF_sp:∀ {l:List Rw},(∀ y∈l,canonR y)→(mergeF l).map nost=mergeF (l.map nost)
 | [],_=>rfl
 |x::l,h=>by
  have h2:=mergeF_sp (l:=l) (fun z hz=>h z (zh _ hz))
  show (insR x (mergeF l)).map nost=insR (nost x) (mergeF (l.map nost))
  rw [insR_sp (h x (zb ..)) (fun y hy=>h y (zh _ ((xm l).sub y hy))),h2]
theorem Ks.merge {a b:List Rw} (h:Ks a b) (ha:OkR a) (hb:OkR b):Ks (mergeF a) (mergeF b):=by
 show (mergeF a).map nost=(mergeF b).map nost
 rw [mergeF_sp ha.can,mergeF_sp hb.can,h]
theorem named_sp (l:List Rw) (nm:ByteArray):(named l nm).map nost=named (l.map nost) nm:=by
 unfold named
 rw [List.filter_map]
 rfl
theorem Ks.named {a b:List Rw} (h:Ks a b) (nm:ByteArray):Ks (named a nm) (named b nm):=by
 show (Go.Proofs.YtbpgfnbhihklnaaGreat.named a nm).map nost=(Go.Proofs.YtbpgfnbhihklnaaGreat.named b nm).map nost
 rw [named_sp,named_sp,h]
theorem atoms_sp (l:List Rw) (nm:ByteArray) (ts:List Tm) (s:Sta):(atomsV l nm ts s).map Prod.fst=(named (l.map nost) nm).filterMap fun r=>matchV ts r.args s.1:=by
 unfold atomsV
 rw [List.map_filterMap, ←named_sp,List.filterMap_map]
 refine congrArg (fun f=>List.filterMap f (named l nm)) (funext fun r=>?_)
 show (atomS ts s r).map Prod.fst=matchV ts r.args s.1
 unfold atomS
 cases matchV ts r.args s.1 <;> rfl
theorem next_sp {a b:List Rw} (h:Ks a b) (L:Lt) {s s':Sta} (he:s.1=s'.1):(nextV a L s).map Prod.fst=(nextV b L s').map Prod.fst:=by
 cases L with
 |atom c nm ts=>
  have h0:(atomsV a nm ts s).map Prod.fst=(atomsV b nm ts s').map Prod.fst:=by
   rw [atoms_sp,atoms_sp,h,he]
  cases c
  ·exact h0
  ·show (Option.toList (goesV a (.atom true nm ts) s)).map Prod.fst=(Option.toList (goesV b (.atom true nm ts) s')).map Prod.fst
   have g:∀ rows (s:Sta),goesV rows (.atom true nm ts) s=if (atomsV rows nm ts s).isEmpty then some s else none:=fun _ _=>rfl
   have h1:(atomsV a nm ts s).isEmpty=(atomsV b nm ts s').isEmpty:=by
    rw [Bool.eq_iff_iff,List.isEmpty_iff,List.isEmpty_iff, ←List.map_eq_nil_iff (f:=Prod.fst),h0,List.map_eq_nil_iff]
   rw [g,g,h1]
   split
   ·show [s.1]=[s'.1]
    rw [he]
   ·rfl
 |test j x y=>
  show (Option.toList (goesV a (.test j x y) s)).map Prod.fst=(Option.toList (goesV b (.test j x y) s')).map Prod.fst
  unfold goesV
  simp only [he]
  split
  ·split
   ·show [s.1]=[s'.1]
    rw [he]
   ·rfl
  ·rfl
 |assign nm t=>
  show (Option.toList (goesV a (.assign nm t) s)).map Prod.fst=(Option.toList (goesV b (.assign nm t) s')).map Prod.fst
  unfold goesV
  simp only [he]
  split
  ·split <;> rfl
  ·rfl
theorem flat_fst {A B:List Sta} {f g:Sta→List Sta} (h:A.map Prod.fst=B.map Prod.fst) (hf:∀ s s':Sta,s.1=s'.1→(f s).map Prod.fst=(g s').map Prod.fst):(A.flatMap f).map Prod.fst=(B.flatMap g).map Prod.fst:=by
 induction A generalizing B with
 |nil=>
  cases B with
  |nil=>rfl
  |cons b B=>cases h
 |cons a A ih=>
  cases B with
  |nil=>cases h
  |cons b B=>
   rw [yi,yi] at h
   injection h with h1 h2
   rw [ul,ul,jw,jw,hf a b h1,ih h2]
theorem ways_sp {a b:List Rw} (h:Ks a b):∀ (Ls:List Lt) {s s':Sta},s.1=s'.1→(waysV a Ls s).map Prod.fst=(waysV b Ls s').map Prod.fst
 | [],s,s',he=>by
  show [s.1]=[s'.1]
  rw [he]
 |L::Ls,s,s',he=>flat_fst (next_sp h L he) (fun t t' ht=>ways_sp h Ls ht)
theorem Ks.fire {a b:List Rw} (h:Ks a b) (r:Ru):Ks (fireR r a) (fireR r b):=by
 have key:∀ l:List Sta,(l.filterMap (headV r.h r.ts)).map nost=(l.map Prod.fst).filterMap fun e=>(allO (r.ts.map (evalT e))).map fun us=>(⟨r.h,us,0⟩:Rw):=fun l=>by
  rw [List.map_filterMap,List.filterMap_map]
  refine congrArg (fun f=>List.filterMap f l) (funext fun s=>?_)
  show (headV r.h r.ts s).map nost=(allO (r.ts.map (evalT s.1))).map fun us=>(⟨r.h,us,0⟩:Rw)
  unfold headV
  cases allO (r.ts.map (evalT s.1)) <;> rfl
 show ((waysV a r.Ls ([],forever)).filterMap (headV r.h r.ts)).map nost=((waysV b r.Ls ([],forever)).filterMap (headV r.h r.ts)).map nost
 rw [key,key,ways_sp h r.Ls rfl]
theorem Ks.trn {a b:List Rw} (h:Ks a b) (k:Nat):Ks (trn k a) (trn k b):=by
 have key:∀ l:List Rw,(Go.Proofs.YtbpgfnbhihklnaaGreat.trn k l).map nost=Go.Proofs.YtbpgfnbhihklnaaGreat.trn k (l.map nost):=fun l=>by
  unfold Go.Proofs.YtbpgfnbhihklnaaGreat.trn
  rw [List.map_filterMap,List.filterMap_map]
  refine congrArg (fun f=>List.filterMap f l) (funext fun r=>?_)
  show ((r.args[k]?).map (ahd r k)).map nost=(r.args[k]?).map (ahd (nost r) k)
  cases r.args[k]? <;> rfl
 show (Go.Proofs.YtbpgfnbhihklnaaGreat.trn k a).map nost=(Go.Proofs.YtbpgfnbhihklnaaGreat.trn k b).map nost
 rw [key,key,h]
theorem gstep_sp (ag:Ag) (gs:List Rw) (x:Rw):(gstep ag gs x).map nost=gstep ag (gs.map nost) (nost x):=by
 have h1:(gs.map nost).findIdx? (alikeB (nost x))=gs.findIdx? (alikeB x):=by
  rw [List.findIdx?_map]
  rfl
 unfold gstep
 rw [h1]
 cases gs.findIdx? (alikeB x) with
 |none=>simp [nost,gfirst,lastV]
 |some q=>
  simp only [qa]
  cases gs[q]? with
  |none=>rfl
  |some y=>simp [List.map_set,nost,gmerge,lastV]
theorem Ks.grp {a b:List Rw} (h:Ks a b) (ag:Ag):Ks (grp ag a) (grp ag b):=by
 have key:∀ (l gs:List Rw),(l.foldl (gstep ag) gs).map nost=(l.map nost).foldl (gstep ag) (gs.map nost):=by
  intro l
  induction l with
  |nil=>exact fun gs=>rfl
  |cons x l ih=>
   intro gs
   rw [List.foldl_cons,ih,gstep_sp]
   rfl
 show (a.foldl (gstep ag) []).map nost=(b.foldl (gstep ag) []).map nost
 rw [key,key,h]
theorem Ks.bck {a b:List Rw} (h:Ks a b) (k:Nat):Ks (a.map (bck k)) (b.map (bck k)):=by
 have key:∀ l:List Rw,(l.map (Go.Proofs.YtbpgfnbhihklnaaGreat.bck k)).map nost=(l.map nost).map (Go.Proofs.YtbpgfnbhihklnaaGreat.bck k):=fun l=>by
  rw [List.map_map,List.map_map]
  rfl
 show (a.map (Go.Proofs.YtbpgfnbhihklnaaGreat.bck k)).map nost=(b.map (Go.Proofs.YtbpgfnbhihklnaaGreat.bck k)).map nost
 rw [key,key,h]
theorem Ks.rule {a b:List Rw} (h:Ks a b) (ha:OkR a) (hb:OkR b) {r:Ru} (hok:r.Ok):Ks (ruleV r a) (ruleV r b):=by
 have h1:=(h.merge ha hb).fire r
 have fa:=pl hok ha.merge
 have fb:=pl hok hb.merge
 unfold ruleV
 split
 ·exact h1.merge fa fb
 ·rename_i ag _
  have h2:=(h1.merge fa fb).trn 1
  have ta:=trn_ok fa.merge 1
  have tb:=trn_ok fb.merge 1
  have h3:=((h2.merge ta tb).grp ag).bck 1
  show (mergeF _).map nost=(mergeF _).map nost
  rw [mergeF_sp (grp_can (rs:=mergeF (fireR r (mergeF a))) fa.merge.can (xm _)),mergeF_sp (grp_can (rs:=mergeF (fireR r (mergeF b))) fb.merge.can (xm _)),h3]
theorem Ks.flat {a b:List Rw} {qs:List Ru} (h:∀ r∈qs,Ks (ruleV r a) (ruleV r b)):Ks (qs.flatMap fun r=>ruleV r a) (qs.flatMap fun r=>ruleV r b):=by
 induction qs with
 |nil=>rfl
 |cons r qs ih=>
  rw [ul,ul]
  exact (h r (zb ..)).app (ih fun x hx=>h x (zh _ hx))
section
variable {qs:List Ru} (hok:∀ r∈qs,r.Ok)
include hok
theorem Ks.next {a b:List Rw} (h:Ks a b) (ha:Fine a) (hb:Fine b) (la:a.length≤48) (lb:b.length≤48):Ks (nextF qs a a) (nextF qs b b):=
 (h.app (Ks.flat fun r hr=>h.rule ha.ok hb.ok (hok r hr))).merge (ha.ok.app (ky hok ha.ok la).1) (hb.ok.app (ky hok hb.ok lb).1)
theorem Strm.still {most:Nat} (hm:most≤48) {l m:List Rw} {b:Bool} (h:Strm qs id most l m b) (hl:Fine l) (hlen:l.length≤most) (hs:Ks (nextF qs l l) l):b=true∧Ks m l:=by
 induction h with
 |over h=>omega
 |done h e=>exact ⟨rfl,rfl⟩
 | @go l m b h hne _ ih=>
  have h48:l.length≤48:=by omega
  have hn:=pr hok hl hl h48
  have h1:=ih hn (by rw [show (nextF qs (id l) l).length=l.length from hs.len];exact hlen) (Ks.next hok hs hn hl (qb (Nat.le_of_eq hs.len) h48) h48)
  exact ⟨h1.1,h1.2.trans hs⟩
theorem Strm.alike {most:Nat} (hm:most≤48) {l m l' m':List Rw} {b b':Bool} (h:Strm qs id most l m b) (h':Strm qs id most l' m' b') (hl:Fine l) (hl':Fine l') (hs:Ks l l'):b=b'∧Ks m m':=by
 induction h generalizing l' m' b' with
 |over h=>
  have:=hs.len
  cases h' with
  |over=>exact ⟨rfl,hs⟩
  |done h2=>omega
  |go h2=>omega
 | @done l h e=>
  have hn:=hs.len
  have h1:Ks (nextF qs l' l') l':=(Ks.next hok hs.symm hl' hl (by omega) (by omega)).trans ((show Ks (nextF qs l l) l from congrArg (List.map nost) e.symm).trans hs)
  obtain ⟨h2,h3⟩:=Strm.still hok hm h' hl' (by omega) h1
  exact ⟨h2.symm,hs.trans h3.symm⟩
 | @go l m b h hne hr ih=>
  have hn:=hs.len
  have hnx:=Ks.next hok hs hl hl' (by omega) (by omega)
  have hnf:=pr hok hl hl (show l.length≤48 by omega)
  cases h' with
  |over h2=>omega
  |done h2 e=>
   have h1:Ks (nextF qs l' l') l':=congrArg (List.map nost) e.symm
   have h3:Ks (nextF qs l l) l:=hnx.trans (h1.trans hs.symm)
   have h48:l.length≤48:=by omega
   obtain ⟨h4,h5⟩:=Strm.still hok hm hr hnf (by rw [show (nextF qs (id l) l).length=l.length from h3.len];exact h) (Ks.next hok h3 hnf hl (qb (Nat.le_of_eq h3.len) h48) h48)
   exact ⟨h4,h5.trans (h3.trans hs)⟩
  |go h2 hne2 hr2=>exact ih hr2 hnf (pr hok hl' hl' (show l'.length≤48 by omega)) hnx
end
theorem Rnds.alike {rs:List Ru} {s:List Nat} {most:Nat} (hok:∀ r∈rs,r.Ok) (hm:most≤48) {k j:Nat} {l m l' m':List Rw} {b b':Bool} (h:Rnds rs s id most k j l m b) (h':Rnds rs s id most k j l' m' b') (hl:Fine l) (hl':Fine l') (hs:Ks l l'):b=b'∧Ks m m':=by
 have hsub:∀ l:List Rw,(id l).Sublist l:=fun l=>List.Sublist.refl l
 induction h generalizing l' m' b' with
 |last=>
  cases h'
  exact ⟨by rw [hs.len],hs⟩
 | @over k j l m h=>
  cases h' with
  |over h2=>exact Strm.alike (fb hok k) hm h h2 hl hl' hs
  |next h2=>exact absurd (Strm.alike (fb hok k) hm h h2 hl hl' hs).1 (by decide)
 | @next k j l m r b h _ ih=>
  cases h' with
  |over h2=>exact absurd (Strm.alike (fb hok k) hm h h2 hl hl' hs).1 (by decide)
  |next h2 h3=>exact ih h3 (h.keeps (fb hok k) hsub hm hl).1 (h2.keeps (fb hok k) hsub hm hl').1 (Strm.alike (fb hok k) hm h h2 hl hl' hs).2
theorem fix_alike {rs:List Ru} {most:Nat} {x y a b:List Rw} {p q:Bool} (hok:∀ r∈rs,r.Ok) (hm:most≤48) (hx:OkR x∧StR x) (hy:OkR y∧StR y) (hs:Ks x y) (h:Fixes rs id most x a p) (h':Fixes rs id most y b q):p=q∧Ks a b:=by
 unfold Fixes at h h'
 cases hst:strV rs with
 |none=>
  rw [hst] at h h'
  obtain ⟨rfl,rfl⟩:=h
  obtain ⟨rfl,rfl⟩:=h'
  exact ⟨rfl,rfl⟩
 |some s=>
  rw [hst] at h h'
  exact Rnds.alike hok hm h h' (gq hx.1 hx.2) (gq hy.1 hy.2) (hs.merge hx.1 hy.1)
end Go.Proofs.YtbpgfnbhihklnaaGreat
namespace Go.Proofs.YtbpgfnbhihklnaaGreat
open Go.RowKit Go.Shelf
theorem ks7 (x:List Rw):Ks x (x.map s7):=by
 show x.map nost=(x.map s7).map nost
 rw [List.map_map]
 rfl
theorem ok7 {x:List Rw} (h:OkR x):OkR (x.map s7)∧StR (x.map s7):=⟨fun r hr=>by
 obtain ⟨y,hy,rfl⟩:=zi.1 hr
 exact h y hy,fun r hr=>by
 obtain ⟨y,hy,rfl⟩:=zi.1 hr
 exact ⟨show (0:Int)≤7 by decide,show (7:Int)≤forever by decide⟩⟩
theorem Ks.cmp {a b:List Rw} (h:Ks a b) {i:Nat} {r s:Rw} (hr:a[i]? =some r) (hs:b[i]? =some s):cmpR r s=0:=by
 have h1:(a.map nost)[i]? =(b.map nost)[i]? :=congrArg (fun l=>l[i]?) h
 rw [qa,qa,hr,hs] at h1
 have h2:nost r=nost s:=Option.some.inj h1
 have e1:(nost r).name=(nost s).name:=by rw [h2]
 have e2:(nost r).args=(nost s).args:=by rw [h2]
 exact tg e1 e2
theorem walk_FixStamps (w:World) (v0:Value) (n0:Nat) (hx0:IntsAts w v0 n0) (v1:Value) (n1:Nat) (X1:Nat→Int) (hx1:IntsAt w v1 6 n1 X1):Calls Tryz.prog 7 #[v0,v1] w fun e w'=>e=.returned (.bool true)∧New w w':=by
 have HX0:=qq hx0
 have HX1:=qq hx1
 clear hx0 hx1
 go_enter Tryz.func7,Tryz.ntmps7
 go_upto_region 2 with (go_at_call 14;refine (ni _).mono ?_;rintro e w1 ⟨rfl,hN1⟩;have HN1:=qq hN1;clear hN1)
 go_upto_region 3 with (go_at_call 15;refine (fq _ _ _ (HX0.out.chg HN1.out)).mono ?_;rintro e w2 ⟨vp,rs,rfl,hpg,hraw,hn2⟩;have HN2:=qq (HN1.out.trans hn2 qdr);have HPg:=qq hpg;have HRaw:=qq hraw;obtain ⟨d,Af,nf,cf,Ar,cr,css,rfl,hru,hl6⟩:=hpg.form;have HRu:=qq hru;obtain ⟨nr,hnr⟩:=qdp (rs.length);have Hnr:=qq hnr;rw [hnr] at HPg hl6⊢;clear hpg hraw hn2 hru hnr)
 obtain ⟨w3,hw3⟩:=qdq (w2.alloc (.cells #[.slice (some ⟨d,0,none⟩) 6 6,.slice Af nf cf,.slice Ar nr cr] 29))
 have hn3:New w2 w3:=by rw [hw3];exact (Chg.refl _ _).alloc _
 have HN3:=qq (HN2.out.trans hn3 qdr)
 have HPg:=qq (HPg.out.chg hn3)
 have HRu:=qq (HRu.out.chg hn3)
 have HBP:=qq (show Blk w3 w2.heap.size 29 #[.slice (some ⟨d,0,none⟩) 6 6,.slice Af nf cf,.slice Ar nr cr] by rw [hw3];exact Blk.new w2 _ _)
 rw [←hw3]
 obtain ⟨b6,hb6⟩:=qdp (w2.heap.size)
 rw [hb6] at HBP⊢
 clear hw3 hn3 hb6
 go_upto_region 4 with (go_at_call 16;refine (tq _ _ _ _ (HX1.out.chg HN3.out) 10 (by omega)).mono ?_;rintro e w4 ⟨vx,x,rfl,hsx,hlx,hgx,hn4⟩;have HN4:=qq (HN3.out.trans hn4 qdr);have HG:=qq hgx;have HSx:=qq hsx;have HPg:=qq (HPg.out.chg hn4);have HRu:=qq (HRu.out.chg hn4);have HBP:=qq (HBP.out.chg hn4 id);have Hlx:=qq hlx;clear hsx hgx hn4 hlx)
 obtain ⟨Ax,cx,rfl,-⟩:=HSx.out.form
 obtain ⟨nx,hnx⟩:=qdp (x.length)
 rw [hnx] at HSx Hlx⊢
 have Hnx:=qq hnx
 have hlx:=Hlx.out
 clear hnx
 have HGo:=qq (ln HG.out)
 have Hok:=qq (pd HRaw.out)
 have HFix:=qq (fun W (hW:New w4 W) u y (hu:RowSl W u y) (ho:OkR y) (hs:StR y) q (hq:q≤48)=>rm W _ rs (HPg.out.chg hW) (nu HRaw.out) (lv HRaw.out) (pd HRaw.out) u y hu ho hs q hq)
 obtain ⟨v1',W1,hr1,hx1,hN1⟩:=qan (nx_nil2 w4) (Chg.refl _ _) HSx.out (by rw [Hnx.out];simp;omega) 31
 rw [jq] at hx1
 obtain ⟨Ay,cy,rfl,-⟩:=(hx1.sl2 (by rw [Hnx.out];omega)).form
 rw [Hnx.out] at hx1 hr1
 have Hr1:=qq hr1
 have HX1':=qq hx1
 have HNa:=qq hN1
 clear hr1 hx1 hN1
 go_wp2_with ((with_reducible refine xu rfl (.const (.slice none 0 0)) (.tmp 20) 31 31 rfl ?_ ?_ Hr1.out ?_);exact rfl;exact rfl)
 go_loopw [9] (fun u9 wr=>∃ i:Nat,i≤nx∧u9=.int .i64 i∧NxAt w4 wr (.slice Ay nx cy) (mk7 x i)∧New w4 wr) (fun u _=>nx - (intOf u).toNat)
 case atStart=>exact ⟨0,qr _,rfl,HX1'.out,HNa.out⟩
 case round=>
  obtain ⟨i,hi,rfl,hxi,hN⟩:=hrel
  have HXi:=qq hxi
  have HNr:=qq hN
  clear hxi hN
  by_cases hlt:i < nx
  ·obtain ⟨r,hr⟩:∃ r,x[i]? =some r:=⟨_,qz (by rw [Hnx.out];exact hlt)⟩
   obtain ⟨g,cap,u,hv,hcl,hfr,hput⟩:=nx_put HXi.out (mk7_get hr)
   injection hv with hv1 _ hv2
   subst hv1 hv2
   have HP:=qq (hput 7)
   rw [mk7_set hr] at HP
   have q0:(0:Int)≤(i:Int):=by omega
   have q1:(i:Int) < (nx:Int):=by omega
   clear hr hput
   go_wp2_with fail
   go_roundw
   case rel=>exact ⟨i+1,by omega,by go_num,HP.out.1,HP.out.2 HNr.out⟩
   case measure=>simp [intOf];omega
  ·have HY:=qq (show RowSl wr (.slice Ay nx cy) (x.map s7) by
    have h:=HXi.out.sl2 (by rw [mk7_len (by rw [Hnx.out];omega),Hnx.out];omega)
    rwa [mk7_all (by rw [Hnx.out];omega)] at h)
   have HSx:=qq (HSx.out.chg HNr.out)
   have HBP:=qq (HBP.out.chg HNr.out id)
   have HN:=qq (HN4.out.trans HNr.out qdr)
   have HGy:=qq (ok7 HGo.out.1)
   have HF1:=qq (show Calls Tryz.prog 17 #[.agg #[.slice (some ⟨d,0,none⟩) 6 6,.slice Af nf cf,.slice Ar nr cr],.slice Ax nx cx,.int .i64 48] wr (FixPost wr rs 48 x) from HFix.out wr HNr.out _ x HSx.out HGo.out.1 HGo.out.2 48 (by omega))
   clear HXi HX1' Hr1 HNa
   go_upto_region 10 with first
    | ((with_reducible refine vq rfl (.tmp 6) 29 rfl xp ⟨b6,0,none⟩ [.slice (some ⟨d,0,none⟩) 6 6,.slice Af nf cf,.slice Ar nr cr] ?_ rfl HBP.out.at_ ?_);exact rfl)
    | (go_at_call 17;refine HF1.out.mono ?_;rintro e w7 ⟨va,ma,b,rfl,hsl,hfx,hn5⟩;have HN7:=qq (HN.out.trans hn5 qdr);have HSa:=qq hsl;have HF:=qq hfx;have HBP:=qq (HBP.out.chg hn5 id);have HN7':=id hn5;have HY:=qq (HY.out.chg hn5);clear hsl hfx hn5)
   obtain ⟨Aa,ca,rfl,-⟩:=HSa.out.form
   obtain ⟨na,hla⟩:=qdp ((ma.take 48).length)
   rw [hla] at HSa⊢
   have Hla:=qq hla
   clear hla HF1
   have HF2:=qq (show Calls Tryz.prog 17 #[.agg #[.slice (some ⟨d,0,none⟩) 6 6,.slice Af nf cf,.slice Ar nr cr],.slice Ay nx cy,.int .i64 48] w7 (FixPost w7 rs 48 (x.map s7)) from HFix.out w7 (HNr.out.trans HN7' qdr) _ _ HY.out HGy.out.1 HGy.out.2 48 (by omega))
   go_upto_region 11 with first
    | ((with_reducible refine vq rfl (.tmp 6) 29 rfl xp ⟨b6,0,none⟩ [.slice (some ⟨d,0,none⟩) 6 6,.slice Af nf cf,.slice Ar nr cr] ?_ rfl HBP.out.at_ ?_);exact rfl)
    | (go_at_call 17;refine HF2.out.mono ?_;rintro e w8 ⟨vl,m,b2,rfl,hsl,hfx,hn5⟩;have HN8:=qq (HN7.out.trans hn5 qdr);have HSl:=qq hsl;have HFb:=qq hfx;have HBP:=qq (HBP.out.chg hn5 id);have HSa:=qq (HSa.out.chg hn5);clear hsl hfx hn5)
   obtain ⟨Al,cl,rfl,-⟩:=HSl.out.form
   obtain ⟨nl,hll⟩:=qdp ((m.take 48).length)
   rw [hll] at HSl⊢
   have Hll:=qq hll
   clear hll HF2
   obtain ⟨rfl,hks⟩:=fix_alike Hok.out (by omega) HGo.out HGy.out (ks7 x) HF.out HFb.out
   have HKs:=qq hks
   clear hks
   cases b with
   |false=>
    go_wp2_with fail
    go_ret
    exact ⟨rfl,HN8.out⟩
   |true=>
    obtain ⟨-,-,hma,-,-,-⟩:=pc Hok.out (by omega) HGo.out.1 HGo.out.2 HF.out
    obtain ⟨-,-,hm,-,-,-⟩:=pc Hok.out (by omega) HGy.out.1 HGy.out.2 HFb.out
    rw [qc hm] at HSl
    rw [qc hma] at HSa
    have Hna:=qq (show ma.length=na by rw [←Hla.out,qc hma])
    have Hnl:=qq (show m.length=nl by rw [←Hll.out,qc hm])
    obtain rfl:na=nl:=by rw [←Hna.out, ←Hnl.out];exact HKs.out.len
    have hnn:((na:Int) != (na:Int))=false:=by simp
    have HeC:=qq (show ∀ (args:Array Value) (w:World),(callFunc 25 args).run Tryz.prog w=.ok (.enter 25 args) w from enters_of Tryz.func25 (by kernel_rfl) rfl)
    have hma':na≤48:=by rw [←Hna.out];exact hma
    clear hm hma Hla Hll
    go_wp2_with fail
    go_loopw [14] (fun u14 wr=>∃ i:Nat,i≤na∧u14=.int .i64 i∧New w8 wr) (fun u _=>na - (intOf u).toNat)
    case atStart=>exact ⟨0,qr _,rfl,Chg.refl _ _⟩
    case round=>
     clear hlt hi
     obtain ⟨i,hi,rfl,hN⟩:=hrel
     have HNq:=qq hN
     clear hN
     by_cases hlt:i < na
     ·obtain ⟨r,hr⟩:∃ r,ma[i]? =some r:=⟨_,qz (by rw [Hna.out];exact hlt)⟩
      obtain ⟨s,hs⟩:∃ s,m[i]? =some s:=⟨_,qz (by rw [Hnl.out];exact hlt)⟩
      have hrs:=HKs.out.cmp hr hs
      obtain ⟨aa,csa,rfl,hata,-,hra⟩:=(HSa.out.chg HNq.out).row hr
      obtain ⟨al,csl,rfl,hatl,-,hrl⟩:=(HSl.out.chg HNq.out).row hs
      have hcmp:=fun W (hW:New wr W)=>nd W csa csl r s (hra.chg hW) (hrl.chg hW)
      rw [hrs] at hcmp
      obtain ⟨A1,c1,rfl,-⟩:=id hra
      obtain ⟨A2,c2,rfl,-⟩:=id hrl
      have HCm:=qq hcmp
      obtain ⟨s1,hs1⟩:=qdp (r.stamp)
      obtain ⟨s2,hs2⟩:=qdp (s.stamp)
      obtain ⟨n1,hn1⟩:=qdp (r.args.length)
      obtain ⟨n2,hn2⟩:=qdp (s.args.length)
      rw [hs1,hs2,hn1,hn2] at HCm
      rw [hs1,hn1] at hata
      rw [hs2,hn2] at hatl
      have q0:(0:Int)≤(i:Int):=by omega
      have q1:(i:Int) < (na:Int):=by omega
      have Hata:=qq hata
      have Hatl:=qq hatl
      clear hr hs hata hatl hra hrl hs1 hs2 hn1 hn2 hcmp hrs
      go_upto_region 18 with fail
      refine vj (by kernel_rfl) ?_
      have hnd:New wr wr.drew:=(Chg.refl _ _).drew
      have DA:=qq (Hata.out.chg hnd id)
      have DL:=qq (Hatl.out.chg hnd id)
      have DN:=qq hnd
      clear hnd
      generalize wr.drew=wd at DA DL DN⊢
      refine AtN.segN2 0 10 [67,68,69,70,71,72,73,74,75,76] (fun
       |0=>fun vv _=>vv=.slice (some aa) na ca
       |1=>fun vv _=>vv=.int .i64 i
       |2=>fun vv _=>vv=.pointer (some (aa.add (i * 3)))
       |3=>fun vv _=>vv=.agg #[.string r.name,.slice A1 n1 c1,.int .i64 s1]
       |4=>fun vv _=>vv=.slice (some al) na cl
       |5=>fun vv _=>vv=.int .i64 i
       |6=>fun vv _=>vv=.pointer (some (al.add (i * 3)))
       |7=>fun vv _=>vv=.agg #[.string s.name,.slice A2 n2 c2,.int .i64 s2]
       |8=>fun vv _=>vv=.int .i64 0
       |9=>fun vv _=>vv=.bool false
       |_=>fun _ _=>True) (by kernel_rfl) (by kernel_rfl) (by kernel_rfl) (by kernel_rfl) (fun j v w1 w2 hc h=>?_) (fun i hn hi o ho A0 W hN hin hk=>?_) (fun l W7 hN hl hΦ=>?_)
      ·match j with
       |0|1|2|3|4|5|6|7|8|9=>exact h
       |_+10=>trivial
      ·rcases (show i=0∨i=1∨i=2∨i=3∨i=4∨i=5∨i=6∨i=7∨i=8∨i=9 by omega) with rfl|rfl|rfl|rfl|rfl|rfl|rfl|rfl|rfl|rfl
       ·cases ho
        exact .same (uo 10 _ rfl (hk 10)) rfl
       ·cases ho
        exact .same (uo 14 _ rfl (hk 14)) rfl
       ·cases ho
        have h67:A0.tmps[67]?.getD undef=.slice (some aa) na ca:=hin 0 67
        have h68:A0.tmps[68]?.getD undef=.int .i64 i:=hin 1 68
        exact .same (by simp [go_sem,h67,h68,q0,q1,hlt]) rfl
       ·cases ho
        have h69:A0.tmps[69]?.getD undef=.pointer (some (aa.add (i * 3))):=hin 2 69
        exact .same (vu 69 _ rfl vd (aa.add (i * 3)) [.string r.name,.slice A1 n1 c1,.int .i64 s1] h69 rfl (DA.out.chg hN id)) rfl
       ·cases ho
        exact .same (uo 12 _ rfl (hk 12)) rfl
       ·cases ho
        exact .same (uo 14 _ rfl (hk 14)) rfl
       ·cases ho
        have h71:A0.tmps[71]?.getD undef=.slice (some al) na cl:=hin 4 71
        have h72:A0.tmps[72]?.getD undef=.int .i64 i:=hin 5 72
        exact .same (by simp [go_sem,h71,h72,q0,q1,hlt]) rfl
       ·cases ho
        have h73:A0.tmps[73]?.getD undef=.pointer (some (al.add (i * 3))):=hin 6 73
        exact .same (vu 73 _ rfl vd (al.add (i * 3)) [.string s.name,.slice A2 n2 c2,.int .i64 s2] h73 rfl (DL.out.chg hN id)) rfl
       ·cases ho
        have h70:A0.tmps[70]?.getD undef=.agg #[.string r.name,.slice A1 n1 c1,.int .i64 s1]:=hin 3 70
        have h74:A0.tmps[74]?.getD undef=.agg #[.string s.name,.slice A2 n2 c2,.int .i64 s2]:=hin 7 74
        refine .call (f:=25) (args:=#[.agg #[.string r.name,.slice A1 n1 c1,.int .i64 s1],.agg #[.string s.name,.slice A2 n2 c2,.int .i64 s2]]) (W':=W) ?_ ((HCm.out W (DN.out.trans hN qdr)).mono ?_)
        ·simp [go_sem,h70,h74,HeC.out]
        ·rintro e w' ⟨rfl,hc⟩
         exact ⟨_,rfl,hc,rfl⟩
       ·cases ho
        have h75:A0.tmps[75]?.getD undef=.int .i64 0:=hin 8 75
        exact .same (by simp [go_sem,h75]) rfl
      obtain ⟨x67,x68,x69,x70,x71,x72,x73,x74,x75,x76,rfl⟩:∃ x67 x68 x69 x70 x71 x72 x73 x74 x75 x76,l=[x67,x68,x69,x70,x71,x72,x73,x74,x75,x76]:=by
       match l,hl with
       | [x67,x68,x69,x70,x71,x72,x73,x74,x75,x76],_=>exact ⟨_,_,_,_,_,_,_,_,_,_,rfl⟩
      obtain rfl:x67=.slice (some aa) na ca:=hΦ 0 (by decide)
      obtain rfl:x68=.int .i64 i:=hΦ 1 (by decide)
      obtain rfl:x69=.pointer (some (aa.add (i * 3))):=hΦ 2 (by decide)
      obtain rfl:x70=.agg #[.string r.name,.slice A1 n1 c1,.int .i64 s1]:=hΦ 3 (by decide)
      obtain rfl:x71=.slice (some al) na cl:=hΦ 4 (by decide)
      obtain rfl:x72=.int .i64 i:=hΦ 5 (by decide)
      obtain rfl:x73=.pointer (some (al.add (i * 3))):=hΦ 6 (by decide)
      obtain rfl:x74=.agg #[.string s.name,.slice A2 n2 c2,.int .i64 s2]:=hΦ 7 (by decide)
      obtain rfl:x75=.int .i64 0:=hΦ 8 (by decide)
      obtain rfl:x76=.bool false:=hΦ 9 (by decide)
      simp only [putsL,zq,zj,zz,List.zip,List.zipWith,Act.put,qk,qu,qy]
      clear hΦ hl
      refine AtN.done rfl ?_
      go_wp2_with fail
      go_roundw
      case rel=>exact ⟨i+1,by omega,by go_num,HNq.out.trans (DN.out.trans hN qdr) qdr⟩
      case measure=>simp [intOf];omega
     ·have HNe:=qq (HN8.out.trans HNq.out qdr)
      go_wp2_with fail
      go_ret
      exact ⟨rfl,HNe.out⟩
end Go.Proofs.YtbpgfnbhihklnaaGreat
namespace Go.Proofs.YtbpgfnbhihklnaaGreat.FixStamps
open Go.ChangeShapes Go.WideShapes Go.ChangeAt Go.RowKit
theorem own:ownKnob Tryz.prog.godebug=none:=by kernel_rfl
theorem laid:laidOutB Tryz.prog=true:=by kernel_rfl
theorem fm (os:Os) (started:os.Started) (H:Type) (enc:TypeId×Value→H):
  ReturnsInHanded {} Tryz.checked os 7 .any (Rows.fixStampsSpec.pre6 enc Tryz.prog Tryz.f7 Rows.fixStampsRow.domain false) (Rows.fixStampsSpec.post enc Tryz.prog Tryz.f7 false true false false):=by
 refine returnsInHanded_of_change (C:=Tryz.checked) own started (by kernel_rfl) Tryz.func7
  (ChangeSpec.witness6 (enc:=enc) (C:=Tryz.checked) false ⟨#[],#[.slice none 0 0,.slice none 0 0],[]⟩ 8 (by kernel_rfl) (by kernel_rfl) (by kernel_rfl) (by kernel_rfl)) ?_
 intro W base args ds gs before hval0 hW hcnd _
 have hval:∀ (j:Nat) t v,Tryz.f7.params[j]? =some t→args[j]? =some v→Value.okWide Tryz.prog W .any base t v:=hval0
 have hW':=hW
 obtain ⟨p,q,hA0,hV,rfl,hfz,hnd⟩:=hW
 have hA:DataW.TrodAll enc Tryz.prog W 0 (fun _=>true) true Tryz.f7.params.toList args.toList ds p:=hA0
 rw [Tryz.params7] at hA hval
 obtain ⟨v0,vs0,d0,ds0,p0,q0,hargs,rfl,rfl,h0,r0⟩:=trodAll_cons hA
 obtain ⟨v1,vs1,d1,ds1,p1,q1,rfl,rfl,rfl,h1,r1⟩:=trodAll_cons r0
 obtain ⟨rfl,rfl,rfl⟩:=trodAll_nil r1
 obtain rfl:args=#[v0,v1]:=by cases args;simp_all
 obtain ⟨rfl,rfl⟩:=trodVars_none hV
 obtain ⟨n0,hx0⟩:=ks Tryz.underlying22 (by kernel_rfl) Tryz.underlying23 (by kernel_rfl) (hval 0 22 v0 rfl rfl) h0 (gw Tryz.underlying75 Tryz.underlying3 Tryz.underlying3 ⟨rfl,rfl,rfl⟩ ⟨by kernel_rfl,by kernel_rfl,by kernel_rfl⟩ (xi (C:=4) Tryz.underlying73 Tryz.underlying3 (by kernel_rfl)))
 obtain ⟨n1,X1,hx1⟩:=kh Tryz.underlying23 (by kernel_rfl) (by decide) (hval 1 23 v1 rfl rfl) h1 (gw Tryz.underlying75 Tryz.underlying3 Tryz.underlying3 ⟨rfl,rfl,rfl⟩ ⟨by kernel_rfl,by kernel_rfl,by kernel_rfl⟩ (xi (C:=4) Tryz.underlying73 Tryz.underlying3 (by kernel_rfl)))
 refine (walk_FixStamps W v0 n0 hx0 v1 n1 X1 hx1).mono fun e W' ⟨he,hg⟩=>?_
 subst he
 exact ⟨_,rfl,mw laid rfl hW' (by kernel_rfl) hg (tb:=4) rfl Tryz.underlying4 ⟨rfl,rfl,rfl⟩⟩
theorem over:Rows.fixStampsRow.holds Tryz.pinned (OpenSpec.ofChange Rows.fixStampsSpec):=
 OpenClaim.holds_of_wide 7 Tryz.f7 rfl rfl rfl rfl rfl rfl rfl ⟨rfl,rfl,rfl,rfl,rfl⟩ rfl rfl rfl rfl rfl (by kernel_rfl) Tryz.func7 (by kernel_rfl)
  (of_decide_eq_true (by kernel_rfl)) (by unfold Func.isWrapper;first| (rw [if_pos (by decide+kernel)];kernel_rfl)| (rw [if_neg (by decide+kernel)];exact ⟨rfl,rfl⟩))
  (fun os started H enc _=>fm os started H enc)
theorem proved:Rows.FixStampsSaid:=
 over
#print axioms proved
end Go.Proofs.YtbpgfnbhihklnaaGreat.FixStamps
