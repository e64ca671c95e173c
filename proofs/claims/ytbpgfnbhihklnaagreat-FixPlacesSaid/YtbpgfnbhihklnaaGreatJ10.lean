/- Part 10 of what stands beneath. -/
import Derived.Test.YtbpgfnbhihklnaaGreatJ9
set_option maxHeartbeats 8000000
set_option maxRecDepth 100000
set_option linter.all false
namespace Go.Proofs.YtbpgfnbhihklnaaGreat
def kk (r:Rw):ByteArray×List Vl:=(r.name,r.args.dropLast)
def qdh (l:List Vl):cmpL cmpV l l=0:=(sd no).refl l
def sm {x y:Rw} (hx:canonR x) (hy:canonR y) (h1:x.args≠[]) (h2:y.args≠[]):alikeB x y=true↔kk x=kk y:=by
 unfold alikeB kk
 simp only [qt,decide_eq_true_eq,Prod.mk.injEq]
 constructor
 ·rintro ⟨a,_,c⟩
  exact ⟨a,mo (fun u hu=>hx u (uq _ hu)) (fun u hu=>hy u (uq _ hu)) c⟩
 ·rintro ⟨a,b⟩
  refine ⟨a,?_,by rw [b];exact qdh _⟩
  have:=congrArg List.length b
  rw [jv,jv] at this
  have l1:=List.length_pos_iff.2 h1
  have l2:=List.length_pos_iff.2 h2
  omega
def qbl (n:ByteArray) (l:List Vl) (z:Vl) (s:Int):kk ⟨n,l++[z],s⟩=(n,l):=by simp [kk]
def kk_merge (ag:Ag) (y x:Rw):kk (gmerge ag y x)=kk y:=by unfold gmerge;rw [qbl];rfl
def kk_first (ag:Ag) (x:Rw):kk (gfirst ag x)=kk x:=by unfold gfirst;rw [qbl];rfl
def qat (ag:Ag) (y x:Rw):lastV (gmerge ag y x)=foldV ag (lastV y) (lastV x) false:=dx _ _ _ _
def qac (ag:Ag) (x:Rw):lastV (gfirst ag x)=foldV ag zeroV (lastV x) true:=dx _ _ _ _
def pb {r:Rw} (h:r.args≠[]):lastV r∈r.args:=by
 have h9:=(ud h).symm
 rw [pq h9]
 exact List.getLast_mem h
def wb {ag:Ag} {a b:Vl} {f:Bool} (ha:f=false→canon a) (hb:canon b):canon (foldV ag a b f):=by
 cases ag <;> cases f <;> simp only [foldV,Bool.true_or,Bool.false_or,if_true,Bool.false_eq_true,if_false]
 ·split
  ·exact hb
  ·exact ha rfl
 ·exact hb
 ·split
  ·exact hb
  ·exact ha rfl
 ·exact hb
 ·exact .inr ⟨rfl,rfl⟩
 ·exact .inr ⟨rfl,rfl⟩
structure GInv (ag:Ag) (l gs:List Rw):Prop where
 all:∀ x∈l,∃ y∈gs,kk x=kk y
 dis:(gs.map kk).Nodup
 st1:∀ y∈gs,∀ x∈l,kk x=kk y→x.stamp≤y.stamp
 st2:∀ y∈gs,∃ x∈l,kk x=kk y∧x.stamp=y.stamp
 mn:ag=.min→∀ y∈gs,(∃ x∈l,kk x=kk y∧lastV x=lastV y)∧∀ x∈l,kk x=kk y→cmpV (lastV y) (lastV x)≤0
 mx:ag=.max→∀ y∈gs,(∃ x∈l,kk x=kk y∧lastV x=lastV y)∧∀ x∈l,kk x=kk y→cmpV (lastV x) (lastV y)≤0
 cnt:ag=.count→∀ y∈gs,lastV y=⟨1,((l.filter (fun x=>decide (kk x=kk y))).length:Nat),⟨#[]⟩⟩
 can:∀ y∈gs,canonR y
 ne:∀ y∈gs,y.args≠[]
def dg {gs:List Rw} {q:Nat} {y y' z:Rw} (hd:(gs.map kk).Nodup) (hq:gs[q]? =some y) (hz:z∈gs.set q y'):z=y'∨(z∈gs∧kk z≠kk y):=by
 obtain ⟨i,hi,rfl⟩:=zt hz
 rw [List.getElem_set]
 by_cases h:q=i
 ·rw [if_pos h];exact .inl rfl
 ·rw [if_neg h]
  rw [jk] at hi
  refine .inr ⟨List.getElem_mem _,fun e=>?_⟩
  obtain ⟨hlt,he⟩:=qv.1 hq
  rw [←he] at e
  have:=(List.pairwise_iff_getElem.1 hd)
  rcases Nat.lt_or_gt_of_ne h with h1|h1
  ·exact this q i (by rw [qd];exact hlt) (by rw [qd];exact hi) h1 (by rw [List.getElem_map,List.getElem_map];exact e.symm)
  ·exact this i q (by rw [qd];exact hi) (by rw [qd];exact hlt) h1 (by rw [List.getElem_map,List.getElem_map];exact e)
def wu {gs:List Rw} {q:Nat} {y y' z:Rw} (hq:gs[q]? =some y) (hz:z∈gs) (hk:kk z≠kk y):z∈gs.set q y':=by
 obtain ⟨i,hi,rfl⟩:=zt hz
 have h:q≠i:=by
  rintro rfl
  rw [qz hi] at hq
  exact hk (by rw [Option.some.inj hq])
 refine qf (i:=i) ?_
 rw [jx,if_neg h,qz hi]
def kz {l:List Rw} {x:Rw} {p:Rw→Bool}:((l++[x]).filter p).length=(l.filter p).length+if p x=true then 1 else 0:=by
 rw [uf,qg]
 congr 1
 by_cases h:p x=true <;> simp [h]
def GInv.step {ag:Ag} {l gs:List Rw} {x:Rw} (h:GInv ag l gs) (hx:canonR x) (hxn:x.args≠[]):GInv ag (l++[x]) (gstep ag gs x):=by
 have hxl:canon (lastV x):=hx _ (pb hxn)
 cases hf:gs.findIdx? (alikeB x) with
 |some q=>
  obtain ⟨y,hy,hal⟩:=nj hf
  have hym:=qf hy
  have hk:=(sm hx (h.can y hym) hxn (h.ne y hym)).1 hal
  have hg:gstep ag gs x=gs.set q (gmerge ag y x):=by unfold gstep;rw [hf];simp only [hy]
  rw [hg]
  have hql:=(qv.1 hy).1
  have hin:gmerge ag y x∈gs.set q (gmerge ag y x):=qf (i:=q) (by rw [jx,if_pos rfl,if_pos hql])
  have hkm:=kk_merge ag y x
  have hlm:=qat ag y x
  have hyl:=h.can y hym _ (pb (h.ne y hym))
  have hmem:∀ z,z∈l++[x]↔z∈l∨z=x:=fun z=>by simp
  refine ⟨fun z hz=>?_,?_,fun z hz w hw e=>?_,fun z hz=>?_,fun ea z hz=>?_,fun ea z hz=>?_,fun ea z hz=>?_,fun z hz=>?_,fun z hz=>?_⟩
  ·rcases (hmem z).1 hz with h1|rfl
   ·obtain ⟨u,hu,e⟩:=h.all z h1
    by_cases hky:kk u=kk y
    ·exact ⟨_,hin,by rw [hkm,e,hky]⟩
    ·exact ⟨u,wu hy hu hky,e⟩
   ·exact ⟨_,hin,by rw [hkm,hk]⟩
  ·have:(gs.set q (gmerge ag y x)).map kk=gs.map kk:=by
    rw [List.map_set,hkm]
    apply uv
    intro i
    rw [jx]
    by_cases hi:q=i
    ·subst hi
     rw [if_pos rfl,qa,hy,if_pos (by rw [qd];exact hql)]
     rfl
    ·rw [if_neg hi]
   rw [this];exact h.dis
  ·rcases dg h.dis hy hz with rfl| ⟨h1,h2⟩
   ·rw [hkm] at e
    show w.stamp≤(if y.stamp < x.stamp then x.stamp else y.stamp)
    rcases (hmem w).1 hw with h3|rfl
    ·have:=h.st1 y hym w h3 e
     split <;> omega
    ·split <;> omega
   ·rcases (hmem w).1 hw with h3|rfl
    ·exact h.st1 z h1 w h3 e
    ·exact absurd (e.symm.trans hk) h2
  ·rcases dg h.dis hy hz with rfl| ⟨h1,h2⟩
   ·by_cases hs:y.stamp < x.stamp
    ·exact ⟨x,by simp,by rw [hkm,hk],by show x.stamp=(if y.stamp < x.stamp then x.stamp else y.stamp);rw [if_pos hs]⟩
    ·obtain ⟨w,hw,e1,e2⟩:=h.st2 y hym
     exact ⟨w,by simp [hw],by rw [hkm,e1],by show w.stamp=(if y.stamp < x.stamp then x.stamp else y.stamp);rw [if_neg hs,e2]⟩
   ·obtain ⟨w,hw,e1,e2⟩:=h.st2 z h1
    exact ⟨w,by simp [hw],e1,e2⟩
  ·rcases dg h.dis hy hz with rfl| ⟨h1,h2⟩
   ·rw [hlm,hkm]
    subst ea
    obtain ⟨⟨u,hu,e1,e2⟩,hmin⟩:=h.mn rfl y hym
    simp only [foldV,Bool.false_or,decide_eq_true_eq]
    by_cases hc:cmpV (lastV x) (lastV y) < 0
    ·rw [if_pos hc]
     refine ⟨⟨x,by simp,hk,rfl⟩,fun w hw e=>?_⟩
     rcases (hmem w).1 hw with h3|rfl
     ·exact no.trans _ _ _ (by omega) (hmin w h3 e)
     ·rw [no.refl];omega
    ·rw [if_neg hc]
     refine ⟨⟨u,by simp [hu],e1,e2⟩,fun w hw e=>?_⟩
     rcases (hmem w).1 hw with h3|rfl
     ·exact hmin w h3 e
     ·have:=no.anti (lastV w) (lastV y);omega
   ·obtain ⟨⟨u,hu,e1,e2⟩,hmin⟩:=h.mn ea z h1
    refine ⟨⟨u,by simp [hu],e1,e2⟩,fun w hw e=>?_⟩
    rcases (hmem w).1 hw with h3|rfl
    ·exact hmin w h3 e
    ·exact absurd (e.symm.trans hk) h2
  ·rcases dg h.dis hy hz with rfl| ⟨h1,h2⟩
   ·rw [hlm,hkm]
    subst ea
    obtain ⟨⟨u,hu,e1,e2⟩,hmax⟩:=h.mx rfl y hym
    simp only [foldV,Bool.false_or,decide_eq_true_eq]
    by_cases hc:0 < cmpV (lastV x) (lastV y)
    ·rw [if_pos hc]
     refine ⟨⟨x,by simp,hk,rfl⟩,fun w hw e=>?_⟩
     rcases (hmem w).1 hw with h3|rfl
     ·exact no.trans _ _ _ (hmax w h3 e) (by have:=no.anti (lastV x) (lastV y);omega)
     ·rw [no.refl];omega
    ·rw [if_neg hc]
     refine ⟨⟨u,by simp [hu],e1,e2⟩,fun w hw e=>?_⟩
     rcases (hmem w).1 hw with h3|rfl
     ·exact hmax w h3 e
     ·omega
   ·obtain ⟨⟨u,hu,e1,e2⟩,hmax⟩:=h.mx ea z h1
    refine ⟨⟨u,by simp [hu],e1,e2⟩,fun w hw e=>?_⟩
    rcases (hmem w).1 hw with h3|rfl
    ·exact hmax w h3 e
    ·exact absurd (e.symm.trans hk) h2
  ·rcases dg h.dis hy hz with rfl| ⟨h1,h2⟩
   ·rw [hlm,kz]
    simp only [hkm]
    subst ea
    have hc:=h.cnt rfl y hym
    rw [if_pos (by simpa using hk)]
    simp only [foldV,Bool.false_eq_true,if_false,hc]
    simp
   ·rw [h.cnt ea z h1,kz,if_neg (by simp only [decide_eq_true_eq];exact fun e=>h2 (e.symm.trans hk))]
    simp
  ·rcases dg h.dis hy hz with rfl| ⟨h1,h2⟩
   ·intro u hu
    rcases zk.1 hu with h3|h3
    ·exact h.can y hym u (uq _ h3)
    ·rw [qn.1 h3]
     exact wb (fun _=>hyl) hxl
   ·exact h.can z h1
  ·rcases dg h.dis hy hz with rfl| ⟨h1,h2⟩
   ·unfold gmerge;simp
   ·exact h.ne z h1
 |none=>
  have hno:∀ y∈gs,kk x≠kk y:=fun y hy e=>by
   have:=uy.1 hf y hy
   rw [(sm hx (h.can y hy) hxn (h.ne y hy)).2 e] at this
   cases this
  have hg:gstep ag gs x=gs++[gfirst ag x]:=by unfold gstep;rw [hf]
  rw [hg]
  have hkf:=kk_first ag x
  have hlf:=qac ag x
  have hmem:∀ z,z∈l++[x]↔z∈l∨z=x:=fun z=>by simp
  have hmg:∀ z,z∈gs++[gfirst ag x]↔z∈gs∨z=gfirst ag x:=fun z=>by simp
  have hln:∀ w∈l,kk w≠kk x:=fun w hw e=>by
   obtain ⟨y,hy,e2⟩:=h.all w hw
   exact hno y hy (e.symm.trans e2)
  refine ⟨fun z hz=>?_,?_,fun z hz w hw e=>?_,fun z hz=>?_,fun ea z hz=>?_,fun ea z hz=>?_,fun ea z hz=>?_,fun z hz=>?_,fun z hz=>?_⟩
  ·rcases (hmem z).1 hz with h1|rfl
   ·obtain ⟨u,hu,e⟩:=h.all z h1
    exact ⟨u,by simp [hu],e⟩
   ·exact ⟨_,by simp,hkf.symm⟩
  ·rw [jw,List.nodup_append]
   refine ⟨h.dis,by simp,fun a ha b hb=>?_⟩
   obtain ⟨y,hy,rfl⟩:=zi.1 ha
   simp only [yi,List.map_nil,qn] at hb
   rw [hb,hkf]
   exact fun e=>hno y hy e.symm
  ·rcases (hmg z).1 hz with h1|rfl
   ·rcases (hmem w).1 hw with h3|rfl
    ·exact h.st1 z h1 w h3 e
    ·exact absurd e (hno z h1)
   ·rcases (hmem w).1 hw with h3|rfl
    ·rw [hkf] at e
     exact absurd e (hln w h3)
    ·exact yk _
  ·rcases (hmg z).1 hz with h1|rfl
   ·obtain ⟨w,hw,e1,e2⟩:=h.st2 z h1
    exact ⟨w,by simp [hw],e1,e2⟩
   ·exact ⟨x,by simp,hkf.symm,rfl⟩
  ·rcases (hmg z).1 hz with h1|rfl
   ·obtain ⟨⟨u,hu,e1,e2⟩,hmin⟩:=h.mn ea z h1
    refine ⟨⟨u,by simp [hu],e1,e2⟩,fun w hw e=>?_⟩
    rcases (hmem w).1 hw with h3|rfl
    ·exact hmin w h3 e
    ·exact absurd e (hno z h1)
   ·rw [hlf,hkf]
    subst ea
    simp only [foldV,Bool.true_or,if_true]
    refine ⟨⟨x,by simp,rfl,rfl⟩,fun w hw e=>?_⟩
    rcases (hmem w).1 hw with h3|rfl
    ·exact absurd e (hln w h3)
    ·rw [no.refl];omega
  ·rcases (hmg z).1 hz with h1|rfl
   ·obtain ⟨⟨u,hu,e1,e2⟩,hmax⟩:=h.mx ea z h1
    refine ⟨⟨u,by simp [hu],e1,e2⟩,fun w hw e=>?_⟩
    rcases (hmem w).1 hw with h3|rfl
    ·exact hmax w h3 e
    ·exact absurd e (hno z h1)
   ·rw [hlf,hkf]
    subst ea
    simp only [foldV,Bool.true_or,if_true]
    refine ⟨⟨x,by simp,rfl,rfl⟩,fun w hw e=>?_⟩
    rcases (hmem w).1 hw with h3|rfl
    ·exact absurd e (hln w h3)
    ·rw [no.refl];omega
  ·rcases (hmg z).1 hz with h1|rfl
   ·rw [h.cnt ea z h1,kz,if_neg (by simp only [decide_eq_true_eq];exact hno z h1)]
    simp
   ·rw [hlf,kz]
    simp only [hkf]
    subst ea
    rw [if_pos (by simp),ub.2 (fun w hw=>by simp only [decide_eq_true_eq];exact hln w hw)]
    simp [foldV]
  ·rcases (hmg z).1 hz with h1|rfl
   ·exact h.can z h1
   ·intro u hu
    rcases zk.1 hu with h3|h3
    ·exact hx u (uq _ h3)
    ·rw [qn.1 h3]
     exact wb (fun h=>by cases h) hxl
  ·rcases (hmg z).1 hz with h1|rfl
   ·exact h.ne z h1
   ·unfold gfirst;simp
def an {ag:Ag} {m:List Rw} (hc:∀ x∈m,canonR x) (hn:∀ x∈m,x.args≠[]):GInv ag m (grp ag m):=by
 have key:∀ (l2 l1 gs:List Rw),GInv ag l1 gs→(∀ x∈l2,canonR x)→(∀ x∈l2,x.args≠[])→GInv ag (l1++l2) (l2.foldl (gstep ag) gs):=by
  intro l2
  induction l2 with
  |nil=>intro l1 gs h _ _;rw [jr];exact h
  |cons x l2 ih=>
   intro l1 gs h h1 h2
   have:=ih (l1++[x]) (gstep ag gs x) (h.step (h1 x (by simp)) (h2 x (by simp))) (fun z hz=>h1 z (by simp [hz])) (fun z hz=>h2 z (by simp [hz]))
   rw [qo] at this
   exact this
 have h0:GInv ag [] []:=⟨fun x h=>(by cases h),List.nodup_nil,fun y h=>(by cases h),fun y h=>(by cases h),fun _ y h=>(by cases h),fun _ y h=>(by cases h),fun _ y h=>(by cases h),fun y h=>(by cases h),fun y h=>(by cases h)⟩
 have:=key m [] [] h0 hc hn
 rwa [jq] at this
def mz {k:Nat} {rs:List Rw} {x:Rw}:x∈trn k rs↔∃ r∈rs,∃ v,r.args[k]? =some v∧x=ahd r k v:=by
 unfold trn
 rw [zr]
 constructor
 ·rintro ⟨r,hr,h⟩
  cases hv:r.args[k]? with
  |none=>rw [hv] at h;cases h
  |some v=>rw [hv] at h;exact ⟨r,hr,v,hv,(Option.some.inj h).symm⟩
 ·rintro ⟨r,hr,v,hv,rfl⟩
  exact ⟨r,hr,by rw [hv];rfl⟩
def can_ahd {r:Rw} {k:Nat} {v:Vl} (h:canonR r) (hv:r.args[k]? =some v):canonR (ahd r k v):=fun u hu=>by
 rcases zk.1 hu with h1|h1
 ·exact h u (List.mem_of_mem_eraseIdx h1)
 ·rw [qn.1 h1];exact h v (qf hv)
def qbd {k:Nat} {rs:List Rw} (h:∀ r∈rs,canonR r):∀ x∈trn k rs,canonR x:=fun x hx=>by
 obtain ⟨r,hr,v,hv,rfl⟩:=mz.1 hx
 exact can_ahd (h r hr) hv
def qal {k:Nat} {rs:List Rw}:∀ x∈trn k rs,x.args≠[]∧k < x.args.length:=fun x hx=>by
 obtain ⟨r,hr,v,hv,rfl⟩:=mz.1 hx
 have hlt:=(qv.1 hv).1
 constructor
 ·unfold ahd;simp
 ·show k < (r.args.eraseIdx k++[v]).length
  rw [qg,uj,if_pos hlt]
  simp;omega
section
variable {k:Nat} {y:Rw}
def bck_args (k:Nat) (y:Rw):(bck k y).args=y.args.dropLast.take k++lastV y::y.args.dropLast.drop k:=rfl
def bck_can (hc:canonR y) (hn:y.args≠[]):canonR (bck k y):=fun u hu=>by
 rw [bck_args] at hu
 rcases zk.1 hu with h|h
 ·exact hc u (uq _ (je h))
 ·rcases qp.1 h with rfl|h
  ·exact hc _ (pb hn)
  ·exact hc u (uq _ (ua h))
end
section
variable {k:Nat} {ag:Ag} {rs rs' m m' res res':List Rw}
def grp_can (hc:∀ r∈rs,canonR r) (hm:IsMerge (trn k rs) m):∀ z∈(grp ag m).map (bck k),canonR z:=fun z hz=>by
 obtain ⟨y,hy,rfl⟩:=zi.1 hz
 have inv:=an (ag:=ag) (fun x hx=>qbd hc x (hm.sub x hx)) (fun x hx=>(qal x (hm.sub x hx)).1)
 exact bck_can (inv.can y hy) (inv.ne y hy)
end
open Go.RowKit Go.Shelf
def FPost (w:World) (r:Ru) (rows:List Rw) (e:Ending) (w':World):Prop:=∃ m v' out,IsMerge rows m∧IsMerge (fireR r m) out∧e=.returned v'∧RowSl w' v' out∧New w w'
def GRPost (w:World) (r:Ru) (ag:Ag) (rows:List Rw) (e:Ending) (w':World):Prop:=∃ m o v' m2 res,IsMerge rows m∧IsMerge (fireR r m) o∧IsMerge (trn 1 o) m2∧IsMerge ((grp ag m2).map (bck 1)) res∧e=.returned v'∧RowSl w' v' res∧New w w'
def Under (a b:List Rw):Prop:=∀ r∈a,∃ s∈b,s.name=r.name∧s.args=r.args∧r.stamp≤s.stamp
def tg {r s:Rw} (hn:s.name=r.name) (ha:s.args=r.args):cmpR s r=0:=by
 have h:cmpR s r=cmpR r r:=by simp only [cmpR,lex2];rw [hn,ha]
 rw [h];exact pp.refl r
def sb {m n:List Rw}:∀ {Ls:List Lt},(∀ L∈Ls,L.kind≤2→named m L.name=named n L.name)→∀ s:Sta,waysV m Ls s=waysV n Ls s
 | [],_,s=>rfl
 |L::Ls,h,s=>by
  have h1:nextV m L s=nextV n L s:=by
   cases L with
   |atom b nm ts=>
    have h0:atomsV m nm ts s=atomsV n nm ts s:=by
     unfold atomsV
     rw [show named m nm=named n nm from h _ (zb ..) (by cases b;exact (by decide:(1:Int)≤2);exact (by decide:(2:Int)≤2))]
    cases b
    ·exact h0
    ·show Option.toList (goesV m (.atom true nm ts) s)=Option.toList (goesV n (.atom true nm ts) s)
     have g:∀ rows,goesV rows (.atom true nm ts) s=if (atomsV rows nm ts s).isEmpty then some s else none:=fun _=>rfl
     rw [g,g,h0]
   |test j a b=>rfl
   |assign nm t=>rfl
  show (nextV m L s).flatMap (waysV m Ls)=(nextV n L s).flatMap (waysV n Ls)
  rw [h1,show waysV m Ls=waysV n Ls from funext (sb (fun L' hl=>h L' (zh _ hl)))]
def ap {x m:List Rw} (hc:∀ r∈x,canonR r) (p:ByteArray→Bool) (h:IsMerge x m):IsMerge (x.filter (fun r=>p r.name)) (m.filter (fun r=>p r.name)):=by
 refine ⟨h.up.sublist List.filter_sublist,fun r hr=>?_,fun r hr=>?_⟩
 ·obtain ⟨h1,h2⟩:=zc.1 hr
  exact zc.2 ⟨h.sub r h1,h2⟩
 ·obtain ⟨h1,h2⟩:=zc.1 hr
  obtain ⟨s,hs,h3,h4⟩:=h.all r h1
  refine ⟨s,zc.2 ⟨hs,?_⟩,h3,h4⟩
  rw [(de (hc s (h.sub s hs)) (hc r h1) h3).1]
  exact h2
def insR (x:Rw):List Rw→List Rw
 | []=>[x]
 |y::ys=>if cmpR x y < 0 then x::y::ys else if cmpR x y=0 then (if y.stamp≤x.stamp then x else y)::ys else y::insR x ys
def mergeF (l:List Rw):List Rw:=l.foldr insR []
def rc {x z:Rw}:∀ {l:List Rw},z∈insR x l→z=x∨z∈l
 | [],h=>.inl (qn.1 h)
 |y::ys,h=>by
  unfold insR at h
  split at h
  ·exact (qp.1 h)
  ·split at h
   ·rcases qp.1 h with h|h
    ·split at h
     ·exact .inl h
     ·exact .inr (h▸zb ..)
    ·exact .inr (zh _ h)
   ·rcases qp.1 h with h|h
    ·exact .inr (h▸zb ..)
    ·exact (rc h).imp id (zh _)
def qbh {x:Rw}:∀ {l:List Rw},l.Pairwise (fun a b=>cmpR a b < 0)→(insR x l).Pairwise (fun a b=>cmpR a b < 0)
 | [],_=>List.pairwise_singleton _ _
 |y::ys,h=>by
  obtain ⟨h1,h2⟩:=yn.1 h
  have a1:=pp.anti x y
  unfold insR
  split
  ·rename_i h0
   refine yn.2 ⟨fun z hz=>?_,h⟩
   rcases qp.1 hz with rfl|hz
   ·exact h0
   ·have h3:=h1 z hz
    have t:=pp.trans x y z (by omega) (by omega)
    have a3:=pp.anti x z
    have a4:=pp.anti y z
    refine Classical.byContradiction fun hn=>?_
    have t2:=pp.trans z x y (by omega) (by omega)
    omega
  ·split
   ·rename_i h0 h00
    refine yn.2 ⟨fun z hz=>?_,h2⟩
    split
    ·have h3:=h1 z hz
     have a4:=pp.anti y z
     have a3:=pp.anti x z
     have t:=pp.trans x y z (by omega) (by omega)
     refine Classical.byContradiction fun hn=>?_
     have t2:=pp.trans z x y (by omega) (by omega)
     omega
    ·exact h1 z hz
   ·rename_i h0 h00
    refine yn.2 ⟨fun z hz=>?_,qbh h2⟩
    rcases rc hz with rfl|hz
    ·omega
    ·exact h1 z hz
def ir {x:Rw}:∀ {l:List Rw},(∃ s∈insR x l,cmpR s x=0∧x.stamp≤s.stamp)∧∀ z∈l,∃ s∈insR x l,cmpR s z=0∧z.stamp≤s.stamp
 | []=>⟨⟨x,qn.2 rfl,pp.refl x,yk _⟩,fun z hz=>by cases hz⟩
 |y::ys=>by
  have a1:=pp.anti x y
  unfold insR
  split
  ·exact ⟨⟨x,zb ..,pp.refl x,yk _⟩,fun z hz=>⟨z,zh _ hz,pp.refl z,yk _⟩⟩
  ·split
   ·rename_i h0 h00
    have hyx:cmpR y x=0:=by omega
    refine ⟨⟨if y.stamp≤x.stamp then x else y,zb ..,?_⟩,fun z hz=>?_⟩
    ·split
     ·exact ⟨pp.refl x,yk _⟩
     ·exact ⟨hyx,by omega⟩
    ·rcases qp.1 hz with rfl|hz
     ·refine ⟨if z.stamp≤x.stamp then x else z,zb ..,?_⟩
      split
      ·rename_i hle
       exact ⟨h00,hle⟩
      ·exact ⟨pp.refl z,yk _⟩
     ·exact ⟨z,zh _ hz,pp.refl z,yk _⟩
   ·obtain ⟨⟨s,hs,h1,h2⟩,h3⟩:=ir (x:=x) (l:=ys)
    refine ⟨⟨s,zh _ hs,h1,h2⟩,fun z hz=>?_⟩
    rcases qp.1 hz with rfl|hz
    ·exact ⟨z,zb ..,pp.refl z,yk _⟩
    ·obtain ⟨s,hs,h4,h5⟩:=h3 z hz
     exact ⟨s,zh _ hs,h4,h5⟩
def xm:∀ (l:List Rw),IsMerge l (mergeF l)
 | []=>⟨List.Pairwise.nil,fun r h=>h,fun r h=>by cases h⟩
 |x::l=>by
  have ih:=xm l
  refine ⟨qbh ih.up,fun r hr=>?_,fun r hr=>?_⟩
  ·rcases rc (show r∈insR x (mergeF l) from hr) with rfl|h
   ·exact zb ..
   ·exact zh _ (ih.sub r h)
  ·have h1:=ir (x:=x) (l:=mergeF l)
   rcases qp.1 hr with rfl|hr
   ·exact h1.1
   ·obtain ⟨s,hs,h2,h3⟩:=ih.all r hr
    obtain ⟨t,ht,h4,h5⟩:=h1.2 s hs
    exact ⟨t,ht,dt h4 h2,by omega⟩
def ge {l m:List Rw} (hc:∀ r∈l,canonR r) (h:IsMerge l m):m=mergeF l:=cg hc h (xm l)
def OkR (l:List Rw):Prop:=∀ r∈l,∀ v∈r.args,okW v
def OkR.can {l:List Rw} (h:OkR l):∀ r∈l,canonR r:=ok_canon h
def OkR.merge {l:List Rw} (h:OkR l):OkR (mergeF l):=fun r hr=>h r ((xm l).sub r hr)
def OkR.app {a b:List Rw} (h:OkR a) (h':OkR b):OkR (a++b):=fun r hr=>(zk.1 hr).elim (h r) (h' r)
def Under.refl (a:List Rw):Under a a:=fun r hr=>⟨r,hr,rfl,rfl,yk _⟩
def Under.trans {a b c:List Rw} (h:Under a b) (h':Under b c):Under a c:=fun r hr=>by
 obtain ⟨s,hs,h1,h2,h3⟩:=h r hr
 obtain ⟨t,ht,h4,h5,h6⟩:=h' s hs
 exact ⟨t,ht,h4.trans h1,h5.trans h2,by omega⟩
def Under.sub {a b:List Rw} (h:∀ r∈a,r∈b):Under a b:=fun r hr=>⟨r,h r hr,rfl,rfl,yk _⟩
def pu {a:List Rw} (hc:∀ r∈a,canonR r):Under a (mergeF a):=fun r hr=>by
 obtain ⟨s,hs,h1,h2⟩:=(xm a).all r hr
 obtain ⟨e1,e2⟩:=de (hc s ((xm a).sub s hs)) (hc r hr) h1
 exact ⟨s,hs,e1,e2,h2⟩
def tu {a b:List Rw} (ha:a.Pairwise (fun x y=>cmpR x y < 0)) (hb:b.Pairwise (fun x y=>cmpR x y < 0)) (h:Under a b) (h':Under b a):a=b:=by
 have key:∀ {a b:List Rw},a.Pairwise (fun x y=>cmpR x y < 0)→Under a b→Under b a→∀ r∈a,r∈b:=by
  intro a b ha h h' r hr
  obtain ⟨s,hs,h1,h2,h3⟩:=h r hr
  obtain ⟨t,ht,h4,h5,h6⟩:=h' s hs
  have:t=r:=aq ha ht hr (tg (h4.trans h1) (h5.trans h2))
  subst this
  have:s=t:=by
   obtain ⟨sn,sa,ss⟩:=s
   obtain ⟨tn,ta,ts⟩:=t
   simp only at h1 h2 h3 h6
   subst h1 h2
   congr 1
   omega
  exact this▸hs
 exact ms sk io ha hb (fun x=>⟨key ha h h' x,key hb h' h x⟩)
structure Ru.Ok (r:Ru):Prop where
 hi:r.ts.length≤8
 ts:∀ t∈r.ts,okTm t
 l4:r.Ls.length≤4
 ls:∀ L∈r.Ls,okLt L∧L.size≤3
 agg:r.aggOk
def iu (w:World) (v vr:Value) (r:Ru) (hr:RuSl w v r) (hok:r.Ok) (rows:List Rw) (hrs:RowSl w vr rows) (hrw:∀ x∈rows,∀ u∈x.args,okW u) (hk:∀ m,IsMerge rows m→m.length≤48):
  Calls Tryz.prog 43 #[v,vr] w fun e w'=>∃ m v' out,IsMerge rows m∧IsMerge (fireR r m) out∧e=.returned v'∧RowSl w' v' out∧New w w':=by
 obtain ⟨lab,A,Ab,c,cb,css,cssb,rfl,h1,h2,h3,h4,-⟩:=hr
 refine (fire_val w r.h (.string lab) (.string r.agg) (.int .i64 r.at') A r.ts.length c css r.ts rfl (by have:=hok.hi;omega) h1 hok.ts Ab r.Ls.length cb cssb r.Ls rfl h3 h4 h2 (fun L hL=>(hok.ls L hL).1) ?_ rfl rfl rfl vr rows hrs hrw (fun m hm=>?_)).mono (fun e w' h=>h)
 ·have:=it (fun L hL=>(hok.ls L hL).2)
  have:=hok.l4
  omega
 ·have h5:=si (rows:=m) (n:=48) (hk m hm) (by omega) r.Ls ([],forever)
  have h6:48 ^ r.Ls.length≤48 ^ 4:=Nat.pow_le_pow_right (by omega) hok.l4
  have h7:48 ^ 4=5308416:=by decide
  omega
def ah (w:World) (v vr:Value) (r:Ru) (hr:RuSl w v r) (hok:r.Ok) (hag:r.agg=⟨#[]⟩) (rows:List Rw) (hrs:RowSl w vr rows) (hrw:∀ x∈rows,∀ u∈x.args,okW u) (hk:∀ m,IsMerge rows m→m.length≤48):
  Calls Tryz.prog 20 #[v,vr] w (FPost w r rows):=by
 obtain ⟨lab,A,c,Ab,cb,rfl⟩:=hr.form
 have hf:=fun W (hW:New w W)=>iu W _ vr r (hr.chg hW) hok rows (hrs.chg hW) hrw hk
 rw [hag] at hf⊢
 have HF:=qq hf
 have hbl:=Blk.new w 47 #[.string lab,.string r.h,.slice A r.ts.length c,.string ⟨#[]⟩,.int .i64 r.at',.slice Ab r.Ls.length cb]
 have hn0:New w (w.alloc (.cells #[.string lab,.string r.h,.slice A r.ts.length c,.string ⟨#[]⟩,.int .i64 r.at',.slice Ab r.Ls.length cb] 47)):=(Chg.refl _ _).alloc _
 have HBl:=qq hbl
 have HN0:=qq hn0
 clear hf hbl hn0 hr hrs
 go_enter Tryz.func20,Tryz.ntmps20
 go_wp2_with (go_at_call 43;refine (HF.out _ HN0.out).mono ?_;rintro e w1 ⟨m,v',out,hm,ho,rfl,hsl,hN1⟩;have e3:=(HBl.out.chg hN1 id).cell 3;simp only [qx,qj,qw] at e3;have HM:=qq hm;have HO:=qq ho;have HS:=qq hsl;have HN1:=qq (HN0.out.trans hN1 qdr);clear hm ho hsl hN1)
 go_ret
 exact ⟨m,_,out,HM.out,HO.out,rfl,HS.out,HN1.out⟩
def qam (w:World) (v vr:Value) (r:Ru) (hr:RuSl w v r) (hok:r.Ok) (ag:Ag) (hag:r.agg=agName ag) (hat:r.at'=1) (rows:List Rw) (hrs:RowSl w vr rows) (hrw:∀ x∈rows,∀ u∈x.args,okW u) (hk:∀ m,IsMerge rows m→m.length≤48):
  Calls Tryz.prog 20 #[v,vr] w (GRPost w r ag rows):=by
 obtain ⟨lab,A,c,Ab,cb,rfl⟩:=hr.form
 have hf:=fun W (hW:New w W)=>iu W _ vr r (hr.chg hW) hok rows (hrs.chg hW) hrw hk
 rw [hag,hat] at hf⊢
 have HF:=qq hf
 have hg:=fun W v' o h=>oc W ag 1 (by omega) (by omega) v' o h
 have HG:=qq hg
 clear hf hr hrs hg hag hat
 obtain ⟨nm,hnm⟩:=qdp (agName ag)
 have hne:(nm != ⟨#[]⟩)=true∧(nm.toList == ([]:List UInt8))=false:=by
  rw [←hnm]
  cases ag <;> exact ⟨by decide+kernel,by decide+kernel⟩
 have hbl:=Blk.new w 47 #[.string lab,.string r.h,.slice A r.ts.length c,.string nm,.int .i64 1,.slice Ab r.Ls.length cb]
 have hn0:New w (w.alloc (.cells #[.string lab,.string r.h,.slice A r.ts.length c,.string nm,.int .i64 1,.slice Ab r.Ls.length cb] 47)):=(Chg.refl _ _).alloc _
 rw [hnm] at HF HG⊢
 have HBl:=qq hbl
 have HN0:=qq hn0
 obtain ⟨hne1,hne2⟩:=hne
 clear hbl hn0 hnm
 go_enter Tryz.func20,Tryz.ntmps20
 go_wp2_with first
  | (go_at_call 43;refine (HF.out _ HN0.out).mono ?_;rintro e w1 ⟨m,v',out,hm,ho,rfl,hsl,hN1⟩;have e3:=(HBl.out.chg hN1 id).cell 3;have e4:=(HBl.out.chg hN1 id).cell 4;simp only [qx,qj,qw] at e3 e4;have HM:=qq hm;have HO:=qq ho;have HS:=qq hsl;have HN1:=qq (HN0.out.trans hN1 qdr);clear hm ho hsl hN1)
  | (go_at_call 44;refine (HG.out _ _ _ HS.out).mono ?_;rintro e w2 ⟨v2,m2,res,rfl,hm2,hres,hsl2,hN2⟩;have HM2:=qq hm2;have HR2:=qq hres;have HS2:=qq hsl2;have HN2:=qq (HN1.out.trans hN2 qdr);clear hm2 hres hsl2 hN2)
 go_ret
 exact ⟨m,out,_,m2,res,HM.out,HO.out,HM2.out,HR2.out,rfl,HS2.out,HN2.out⟩
def agName? (s:ByteArray):Option Ag:=if s=agName .min then some .min else if s=agName .max then some .max else if s=agName .count then some .count else none
def ruleV (r:Ru) (l:List Rw):List Rw:=match agName? r.agg with
 |none=>mergeF (fireR r (mergeF l))
 |some ag=>mergeF ((grp ag (mergeF (trn 1 (mergeF (fireR r (mergeF l)))))).map (bck 1))
def RVPost (w:World) (r:Ru) (rows:List Rw) (e:Ending) (w':World):Prop:=∃ v',e=.returned v'∧RowSl w' v' (ruleV r rows)∧New w w'
def qcy (ag:Ag):agName? (agName ag)=some ag:=by cases ag <;> decide
def pl {r:Ru} (hok:r.Ok) {m:List Rw} (h:OkR m):OkR (fireR r m):=fire_ok hok.ts (fun L hL=>(hok.ls L hL).1) h
def gruleV (w:World) (v vr:Value) (r:Ru) (hr:RuSl w v r) (hok:r.Ok) (rows:List Rw) (hrs:RowSl w vr rows) (hrw:OkR rows) (hk:(mergeF rows).length≤48):
  Calls Tryz.prog 20 #[v,vr] w (RVPost w r rows):=by
 have hk':∀ m,IsMerge rows m→m.length≤48:=fun m hm=>by rw [ge hrw.can hm];exact hk
 rcases hok.agg with ⟨h1,h2⟩| ⟨h1,h2,h3⟩
 ·refine (ah w v vr r hr hok h1 rows hrs hrw hk').mono ?_
  rintro e w' ⟨m,v',out,hm,ho,rfl,hs,hn⟩
  refine ⟨v',rfl,?_,hn⟩
  have e1:=ge hrw.can hm
  subst e1
  have e2:=ge (pl hok hrw.merge).can ho
  have:ruleV r rows=out:=by
   unfold ruleV
   rw [h1,show agName? ⟨#[]⟩=none by decide]
   exact e2.symm
  rw [this]
  exact hs
 ·obtain ⟨ag,hag⟩:∃ ag,r.agg=agName ag:=by
   rcases h1 with h|h|h
   ·exact ⟨.min,h⟩
   ·exact ⟨.max,h⟩
   ·exact ⟨.count,h⟩
  refine (qam w v vr r hr hok ag hag h2 rows hrs hrw hk').mono ?_
  rintro e w' ⟨m,o,v',m2,res,hm,ho,hm2,hres,rfl,hs,hn⟩
  refine ⟨v',rfl,?_,hn⟩
  have e1:=ge hrw.can hm
  subst e1
  have e2:=ge (pl hok hrw.merge).can ho
  subst e2
  have hoo:OkR (mergeF (fireR r (mergeF rows))):=(pl hok hrw.merge).merge
  have e3:=ge (qbd hoo.can) hm2
  have e4:=ge (grp_can hoo.can hm2) hres
  have:ruleV r rows=res:=by
   unfold ruleV
   rw [hag,qcy]
   simp only
   rw [←e3]
   exact e4.symm
  rw [this]
  exact hs
def lowN.get {s:ByteArray} (h:lowN s) {k:Nat} (hk:k < s.size):97≤(s[k]'hk).toNat∧(s[k]'hk).toNat≤122:=h.2.2 k _ (by
 show s.data[k]? =some (s.data[k]'hk)
 exact jh _)
def lowN.ne {s:ByteArray} (h:lowN s) {c:List UInt8} (hc:c[0]? =none∨c[1]? =some 95∨5≤c.length):(s.toList == c)=false:=by
 rw [beq_eq_false_iff_ne]
 intro e
 rw [ByteArray.toList_eq] at e
 have hl:c.length=s.size:=by rw [←e];rfl
 rcases hc with hc|hc|hc
 ·have:=h.1
  rw [yg] at hc
  omega
 ·rw [←e,Array.getElem?_toList] at hc
  have:=(h.2.2 1 95 hc).1
  exact absurd this (by decide)
 ·have:=h.2.1
  omega
def lowN.some {s:ByteArray} (h:lowN s):s.toList.isEmpty=false:=by
 have:=h.ne (c:=[]) (.inl rfl)
 cases hs:s.toList with
 |nil=>rw [hs] at this;cases this
 |cons a l=>rfl
def name_low (w:World) (s:ByteArray) (h:lowN s):Calls Tryz.prog 142 #[.string s] w fun e w'=>e=.returned (.bool true)∧New w w':=by
 have hne:=h.some
 have hsz:=h.2.1
 have H:=qq h
 clear h
 go_enter Tryz.func142,Tryz.ntmps142
 go_wp2
 go_loopw [3,4,5] (fun _ _ _ wr=>∃ k:Nat,k≤s.size∧wr=w.iter s k) (fun _ _ _ wr=>match wr.heap[w.heap.size]? with|some (.stringIter _ k)=>s.size - k|_=>0)
 case atStart=>exact ⟨0,by omega,rfl⟩
 case round=>
  obtain ⟨k,hk,rfl⟩:=hrel
  by_cases h0:k < s.size
  ·obtain ⟨b,hb⟩:=qdp (s[k]'h0)
   have hb12:=H.out.get h0
   rw [hb] at hb12
   obtain ⟨hb1,hb2⟩:=hb12
   have hnx:=fun ty=>run_next_ascii (P:=Tryz.prog) w s k ty h0 (by rw [hb];omega)
   rw [hb] at hnx
   go_wp2
   go_roundw
   case rel=>exact ⟨k+1,h0,rfl⟩
   case measure=>
    rw [World.iter_heap,World.iter_heap]
    dsimp only
    omega
  ·have hnx:=fun ty=>run_next_end (P:=Tryz.prog) w s k ty (by omega)
   go_wp2
   go_ret
   exact ⟨congrArg (fun b=>Ending.returned (.bool b)) (decide_eq_true (by omega)),(Chg.refl w _).alloc _⟩
def upN (s:ByteArray):Prop:=∃ b:UInt8,s=⟨#[b]⟩∧65≤b.toNat∧b.toNat≤90
def lg (w:World) (s:ByteArray) (h:upN s):Calls Tryz.prog 169 #[.string s] w fun e w'=>e=.returned (.bool true)∧New w w':=by
 obtain ⟨b,hs,h1,h2⟩:=h
 have hsz:s.size=1:=by rw [hs];rfl
 have hget:∀ h:0 < s.size,s[0]'h=b:=by subst hs;intro h;rfl
 have hne:s.toList.isEmpty=false:=by rw [hs,ByteArray.toList_eq];rfl
 clear hs
 go_enter Tryz.func169,Tryz.ntmps169
 go_wp2
 go_loopw [3,4,5] (fun _ _ _ wr=>∃ k:Nat,k≤1∧wr=w.iter s k) (fun _ _ _ wr=>match wr.heap[w.heap.size]? with|some (.stringIter _ k)=>1 - k|_=>0)
 case atStart=>exact ⟨0,by omega,rfl⟩
 case round=>
  obtain ⟨k,hk,rfl⟩:=hrel
  by_cases h0:k=0
  ·subst h0
   have hnx:=fun ty=>run_next_ascii (P:=Tryz.prog) w s 0 ty (by omega) (by rw [hget];omega)
   rw [hget] at hnx
   go_wp2
   go_roundw
   case rel=>exact ⟨1,qh _,rfl⟩
   case measure=>
    rw [World.iter_heap,World.iter_heap]
    exact Nat.zero_lt_one
  ·have hk1:k=1:=by omega
   subst hk1
   have hnx:=fun ty=>run_next_end (P:=Tryz.prog) w s 1 ty (by omega)
   go_wp2
   go_ret
   exact ⟨rfl,(Chg.refl w _).alloc _⟩
def field_fn (W:World):(Instr.field 208 (.agg #[.int .i64 (-1),.int .i64 0,.nilFunc]) 0).run Tryz.prog W=.ok (.int .i64 (-1)) W:=by kernel_rfl
def fn_one:∀ u∈[Value.int .i64 (-1),.int .i64 0,.nilFunc],u.oneCell'=true:=gt rfl rfl rfl
def stFn:StT Tryz.prog 208 3:=⟨⟨_,Tryz.underlying208⟩,by kernel_rfl⟩
def bg (w:World) (s:ByteArray) (h:lowN s):Calls Tryz.prog 143 #[.string s] w fun e w'=>e=.returned (.int .i64 (-1))∧New w w':=by
 have key:∀ W,Calls Tryz.prog 170 #[.string s] W fun e W'=>e=.returned (.agg #[.int .i64 (-1),.int .i64 0,.nilFunc])∧New W W':=by
  intro W
  have q1:=h.ne (c:=[102,95,99,111,110,115]) (.inr (.inl rfl))
  have q2:=h.ne (c:=[102,95,97,112,112,101,110,100]) (.inr (.inl rfl))
  have q3:=h.ne (c:=[102,95,99,111,110,99,97,116]) (.inr (.inl rfl))
  have q4:=h.ne (c:=[102,95,109,101,109,98,101,114]) (.inr (.inl rfl))
  have q5:=h.ne (c:=[102,95,115,105,122,101]) (.inr (.inl rfl))
  have q6:=h.ne (c:=[102,95,102,105,114,115,116]) (.inr (.inl rfl))
  have q7:=h.ne (c:=[102,95,108,97,115,116]) (.inr (.inl rfl))
  have q8:=h.ne (c:=[102,95,114,101,115,116]) (.inr (.inl rfl))
  have q9:=h.ne (c:=[102,95,114,101,118,101,114,115,101]) (.inr (.inl rfl))
  clear h
  have Hb:=qq (Blk.new W 208 #[.int .i64 0,.int .i64 0,.nilFunc])
  go_enter Tryz.func170,Tryz.ntmps170
  go_wp2_with ((with_reducible refine xq rfl (.tmp 2) (.tmp 33) 208 rfl rfl stFn W.heap.size 208 _ [.int .i64 (-1),.int .i64 0,.nilFunc] ?_ ?_ Hb.out rfl rfl fn_one ?_);exact rfl;exact rfl;intro w6 hc6 hb6 hs6;have HC6:=qq hc6;have HB6:=qq hb6;clear hc6 hb6 hs6)
  exact bodyPost_ret (v:=.agg #[.int .i64 (-1),.int .i64 0,.nilFunc]) (xh stFn rfl _ _ ⟨W.heap.size,0,none⟩ [.int .i64 (-1),.int .i64 0,.nilFunc] rfl HB6.out.at_ rfl) rfl ⟨rfl,((Chg.refl W (fun _=>False)).alloc _).trans HC6.out (fun k hk e=>by omega)⟩
 have Key:=qq key
 clear key h
 go_enter Tryz.func143,Tryz.ntmps143
 go_wp2_with (go_at_call 170;refine (Key.out _).mono ?_;rintro e w2 ⟨rfl,hc2⟩;have hf:=field_fn w2;have Hc2:=qq hc2;clear hc2)
 go_ret
 exact ⟨rfl,Hc2.out⟩
def kp (w:World) (s:ByteArray) (h:lowN s):Calls Tryz.prog 105 #[.string s] w fun e w'=>e=.returned (.bool true)∧New w w':=by
 have q1:=h.ne (c:=[109,97,116,101,114,105,97,108,105,122,101]) (.inr (.inr (by decide)))
 have H1:=qq (fun W=>name_low W s h)
 have H2:=qq (fun W=>bg W s h)
 clear h
 go_enter Tryz.func105,Tryz.ntmps105
 go_wp2_with first
  | (go_at_call 142;refine (H1.out _).mono ?_;rintro e w2 ⟨rfl,hc2⟩;have Hc2:=qq hc2;clear hc2)
  | (go_at_call 143;refine (H2.out _).mono ?_;rintro e w3 ⟨rfl,hc3⟩;have Hc3:=qq (Hc2.out.trans hc3 qdr);clear hc3)
 go_ret
 exact ⟨rfl,Hc3.out⟩
def okP (v:Vl):Prop:=(v.k=1∧v.t=⟨#[]⟩∧-2147483647≤v.i∧v.i≤2147483647)∨(v.k=3∧v.i=0∧∃ b:UInt8,v.t=⟨#[b]⟩∧97≤b.toNat∧b.toNat≤122)
def okP.ok {v:Vl} (h:okP v):okW v∧rightV v=true:=by
 rcases h with ⟨h1,h2,h3,h4⟩| ⟨h1,h2,h3⟩
 ·exact ⟨⟨.inl ⟨h1,h2⟩,by omega,by omega⟩,by simp [rightV,h3,h4]⟩
 ·exact ⟨⟨.inr ⟨h1,h2,h3⟩,by omega,by omega⟩,by simp [rightV,h1]⟩
def flatP (t:Tm):Prop:=(∃ s,t=.var s∧upN s)∨∃ v,t=.val v∧okP v
def prT (t:Tm):Prop:=flatP t∨∃ m a b,t=.op m a b∧flatP a∧flatP b
def pw {b:UInt8} (h:97≤b.toNat∧b.toNat≤122):lowN ⟨#[b]⟩:=by
 refine ⟨(by show 1≤1;omega),(by show 1≤4;omega),fun i c hc=>?_⟩
 match i,hc with
 |0,hc=>cases hc;exact h
 |i+1,hc=>cases hc
def em (w:World) (A:Option Addr) (c g:Nat) (lb:Array Value) (eg:Enters Tryz.prog g):Calls Tryz.prog 165 #[.slice A 0 c,.func (.func g) #[] lb] w fun e w'=>e=.returned (.bool true)∧New w w':=
 br w A 0 c [] rfl (by omega) (fun h=>absurd h (by simp)) g lb eg (fun cs h=>by cases h)
def rn:Enters Tryz.prog 211:=enters_of Tryz.func211 (by kernel_rfl) rfl
def sf {w:World} {cs:List Value} {W2:World} {b:Value} {c:List Value} (hc2:New (((w.alloc (.cells cs.toArray 64)).alloc (.cells #[b] 3)).alloc (.cells c.toArray 62)) W2):
  Blk W2 w.heap.size 64 cs.toArray∧Blk W2 (w.heap.size+1) 3 #[b]∧Blk W2 (w.heap.size+2) 62 c.toArray:=by
 have h1:=(((Blk.new w 64 cs.toArray).alloc (.cells #[b] 3)).alloc (.cells c.toArray 62)).chg hc2 id
 have h2:=((Blk.new (w.alloc (.cells cs.toArray 64)) 3 #[b]).alloc (.cells c.toArray 62)).chg hc2 id
 have h3:=(Blk.new ((w.alloc (.cells cs.toArray 64)).alloc (.cells #[b] 3)) 62 c.toArray).chg hc2 id
 simp only [World.size_alloc] at h2 h3
 exact ⟨h1,h2,h3⟩
def kt {w W2:World} {a b c:Obj} (hc2:New (((w.alloc a).alloc b).alloc c) W2):New w W2:=((((Chg.refl w (fun _=>False)).alloc _).alloc _).alloc _).trans hc2 qdr
def term_var (w:World) (s:ByteArray) (h:upN s) (d:Int) (hd:1≤d) (hd2:d≤8):
  Calls Tryz.prog 192 #[.agg (varC s).toArray,.int .i64 d] w fun e w'=>e=.returned (.bool true)∧New w w':=by
 have HV:=qq (fun W=>lg W s h)
 have HA:=qq (fun W lb=>em W none 0 211 lb rn)
 clear h
 unfold varC
 go_enter Tryz.func192,Tryz.ntmps192
 go_wp2_with first
  | (go_at_call 169;refine (HV.out _).mono ?_;rintro e w2 ⟨rfl,hc2⟩;obtain ⟨b1,b2,-⟩:=sf (cs:=varC s) (c:=[_,_,_,_]) hc2;have e6:=b1.cell 6;have e0:=b2.cell 0;unfold varC at e6;simp only [qx,qj,qw] at e6 e0;have Hc2:=qq (kt hc2);clear hc2 b1 b2)
  | (go_at_call 165;refine (HA.out _ _).mono ?_;rintro e w3 ⟨rfl,hc3⟩;have Hc3:=qq hc3;clear hc3)
 go_ret
 exact ⟨rfl,Hc2.out.trans Hc3.out qdr⟩
def term_val (w:World) (v:Vl) (h:okP v) (d:Int) (hd:1≤d) (hd2:d≤8):
  Calls Tryz.prog 192 #[.agg (valC v).toArray,.int .i64 d] w fun e w'=>e=.returned (.bool true)∧New w w':=by
 have HV:=qq (fun W=>(kl W v h.ok.1.1 h.ok.1.2.1 h.ok.1.2.2).mono (fun e w' (hq:e=.returned (.bool (rightV v))∧New W w')=>(⟨by rw [hq.1,h.ok.2],hq.2⟩:e=.returned (.bool true)∧New W w')))
 have HA:=qq (fun W lb=>em W none 0 211 lb rn)
 obtain ⟨k,i,t⟩:=v
 unfold vval at HV
 rcases h with ⟨h1,h2,h3,h4⟩| ⟨h1,h2,b,h3,h4⟩
 ·dsimp only at h1 h2 HV
  subst h1 h2
  clear h3 h4
  unfold valC
  dsimp only
  go_enter Tryz.func192,Tryz.ntmps192
  go_wp2_with first
   | (go_at_call 134;refine (HV.out _).mono ?_;rintro e w2 ⟨rfl,hc2⟩;obtain ⟨b1,b2,b3⟩:=sf (cs:=valC ⟨1,i,⟨#[]⟩⟩) (c:=[_,_,_,_]) hc2;have e6:=b1.cell 6;have e1:=b1.cell 1;have e0:=b2.cell 0;have e3:=b3.cell 0;unfold valC at e6 e1;simp only [qx,qj,qw] at e6 e1 e0 e3;have Hc2:=qq (kt hc2);clear hc2 b1 b2 b3)
   | (go_at_call 165;refine (HA.out _ _).mono ?_;rintro e w3 ⟨rfl,hc3⟩;have Hc3:=qq hc3;clear hc3)
  go_ret
  exact ⟨rfl,Hc2.out.trans Hc3.out qdr⟩
 ·dsimp only at h1 h2 h3 HV
  subst h1 h2 h3
  have HR:=qq (fun W=>bg W ⟨#[b]⟩ (pw h4))
  clear h4
  unfold valC
  dsimp only
  go_enter Tryz.func192,Tryz.ntmps192
  go_wp2_with first
   | (go_at_call 134;refine (HV.out _).mono ?_;rintro e w2 ⟨rfl,hc2⟩;obtain ⟨b1,b2,b3⟩:=sf (cs:=valC ⟨3,0,⟨#[b]⟩⟩) (c:=[_,_,_,_]) hc2;have e6:=b1.cell 6;have e1:=b1.cell 1;have e3:=b3.cell 0;have e32:=b3.cell 2;unfold valC at e6 e1;simp only [qx,qj,qw] at e6 e1 e3 e32;have B1:=qq b1;have B2:=qq b2;have Hc2:=qq (kt hc2);clear hc2 b1 b2 b3)
   | (go_at_call 143;refine (HR.out _).mono ?_;rintro e w4 ⟨rfl,hc4⟩;have e6:=(B1.out.chg hc4 id).cell 6;have e0:=(B2.out.chg hc4 id).cell 0;unfold valC at e6;simp only [qx,qj,qw] at e6 e0;have Hc4:=qq (Hc2.out.trans hc4 qdr);clear hc4)
   | (go_at_call 165;refine (HA.out _ _).mono ?_;rintro e w3 ⟨rfl,hc3⟩;have Hc3:=qq hc3;clear hc3)
  go_ret
  exact ⟨rfl,Hc4.out.trans Hc3.out qdr⟩
def wg (w:World) (cs:List Value) (t:Tm) (hc:TmAt w cs t) (h:flatP t) (d:Int) (hd:1≤d) (hd2:d≤8):
  Calls Tryz.prog 192 #[.agg cs.toArray,.int .i64 d] w fun e w'=>e=.returned (.bool true)∧New w w':=by
 rcases h with ⟨s,rfl,h⟩| ⟨v,rfl,h⟩
 ·rw [show cs=varC s from hc]
  exact term_var w s h d hd hd2
 ·rw [show cs=valC v from hc]
  exact term_val w v h d hd hd2
def qbf (w:World) (cs:List Value) (t:Tm) (hc:TmAt w cs t) (h:flatP t) (d:Int) (hd:2≤d) (hd2:d≤8) (b:Nat) (hb:Blk w b 3 #[.int .i64 d]):
  Calls Tryz.prog 211 (#[.agg cs.toArray]++#[.pointer (some ⟨b,0,none⟩)]) w fun e w'=>e=.returned (.bool true)∧New w w':=by
 have H:=qq (fun W (hW:New w W)=>wg W cs t (hc.chg hW) h (d - 1) (by omega) (by omega))
 have Hl:=qq hc.len
 have Hb2:=qq (Blk.new w 64 cs.toArray)
 have e0:=(hb.alloc (.cells cs.toArray 64)).cell 0
 simp only [qx,qj] at e0
 clear hc h hb
 go_enter Tryz.func211,Tryz.ntmps211
 go_wp2_with first
  | ((with_reducible refine vq rfl (.tmp 2) 64 rfl xy ⟨w.heap.size,0,none⟩ cs ?_ Hl.out Hb2.out.at_ ?_);exact rfl)
  | (go_at_call 192;refine (H.out _ ((Chg.refl w _).alloc _)).mono ?_;rintro e w2 ⟨rfl,hc2⟩;have Hc2:=qq (((Chg.refl w (fun _=>False)).alloc _).trans hc2 qdr);clear hc2)
 go_ret
 exact ⟨rfl,Hc2.out⟩
def term_op (w:World) (m:Bool) (ad:Addr) (c:Nat) (ca cb:List Value) (a b:Tm) (had:ad.block < w.heap.size) (hr:RowsAt w ad 7 [ca,cb]) (h1:TmAt w ca a) (h2:TmAt w cb b) (ha:flatP a) (hb:flatP b):
  Calls Tryz.prog 192 #[.agg #[.int .i64 4,.string (opS m),.int .i64 0,.int .i64 0,.string ⟨#[]⟩,.slice none 0 0,.slice (some ad) 2 c],.int .i64 8] w fun e w'=>e=.returned (.bool true)∧New w w':=by
 have hA:∀ W b1,New w W→Blk W b1 3 #[.int .i64 8]→Calls Tryz.prog 165 #[.slice (some ad) 2 c,.func (.func 211) #[] #[.pointer (some ⟨b1,0,none⟩)]] W fun e W'=>e=.returned (.bool true)∧New W W':=fun W b1 hW hb1=>
  br W (some ad) 2 c [ca,cb] rfl (by omega) (fun _=>⟨ad,rfl,hr.chg hW id⟩) _ _ rn (fun cs hcs W2 hW2=>by
   simp only [qp,qm,or_false] at hcs
   rcases hcs with rfl|rfl
   ·exact qbf W2 _ a ((h1.chg hW).chg hW2) ha 8 (by omega) (by omega) b1 (hb1.chg hW2 id)
   ·exact qbf W2 _ b ((h2.chg hW).chg hW2) hb 8 (by omega) (by omega) b1 (hb1.chg hW2 id))
 have HA:=qq hA
 clear hA ha hb h1 h2 hr
 cases m with
 |true=>
  change Calls Tryz.prog 192 #[.agg #[.int .i64 4,.string ⟨#[45]⟩,.int .i64 0,.int .i64 0,.string ⟨#[]⟩,.slice none 0 0,.slice (some ad) 2 c],.int .i64 8] w _
  go_enter Tryz.func192,Tryz.ntmps192
  go_wp2_with (go_at_call 165;obtain ⟨-,b2,-⟩:=sf (w:=w) (cs:=[.int .i64 4,.string ⟨#[45]⟩,.int .i64 0,.int .i64 0,.string ⟨#[]⟩,.slice none 0 0,.slice (some ad) 2 c]) (b:=.int .i64 8) (c:=[.int .i64 0,.int .i64 0,.string ⟨#[]⟩,.slice none 0 0]) (Chg.refl _ _);refine (HA.out _ _ (kt (Chg.refl _ _)) b2).mono ?_;rintro e w3 ⟨rfl,hc3⟩;have Hc3:=qq (kt hc3);clear hc3 b2)
  go_ret
  exact ⟨rfl,Hc3.out⟩
 |false=>
  change Calls Tryz.prog 192 #[.agg #[.int .i64 4,.string ⟨#[43]⟩,.int .i64 0,.int .i64 0,.string ⟨#[]⟩,.slice none 0 0,.slice (some ad) 2 c],.int .i64 8] w _
  go_enter Tryz.func192,Tryz.ntmps192
  go_wp2_with (go_at_call 165;obtain ⟨-,b2,-⟩:=sf (w:=w) (cs:=[.int .i64 4,.string ⟨#[43]⟩,.int .i64 0,.int .i64 0,.string ⟨#[]⟩,.slice none 0 0,.slice (some ad) 2 c]) (b:=.int .i64 8) (c:=[.int .i64 0,.int .i64 0,.string ⟨#[]⟩,.slice none 0 0]) (Chg.refl _ _);refine (HA.out _ _ (kt (Chg.refl _ _)) b2).mono ?_;rintro e w3 ⟨rfl,hc3⟩;have Hc3:=qq (kt hc3);clear hc3 b2)
  go_ret
  exact ⟨rfl,Hc3.out⟩
def fine_ok (w:World) (cs:List Value) (t:Tm) (hc:TmAt w cs t) (h:prT t):
  Calls Tryz.prog 166 #[.agg cs.toArray] w fun e w'=>e=.returned (.bool true)∧New w w':=by
 have H:∀ W,New w W→Calls Tryz.prog 192 #[.agg cs.toArray,.int .i64 8] W fun e w'=>e=.returned (.bool true)∧New W w':=by
  intro W hW
  have hc2:=hc.chg hW
  rcases h with h| ⟨m,a,b,rfl,ha,hb⟩
  ·exact wg W cs t hc2 h 8 (by omega) (by omega)
  ·obtain ⟨ad,c,ca,cb,rfl,h2,h3,h4,h5⟩:=hc2
   exact term_op W m ad c ca cb a b h2 h3 h4 h5 ha hb
 have H:=qq H
 have Hl:=qq hc.len
 have Hb2:=qq (Blk.new w 64 cs.toArray)
 clear hc h
 go_enter Tryz.func166,Tryz.ntmps166
 go_wp2_with first
  | ((with_reducible refine vq rfl (.tmp 1) 64 rfl xy ⟨w.heap.size,0,none⟩ cs ?_ Hl.out Hb2.out.at_ ?_);exact rfl)
  | (go_at_call 192;refine (H.out _ ((Chg.refl w _).alloc _)).mono ?_;rintro e w2 ⟨rfl,hc2⟩;have Hc2:=qq (((Chg.refl w (fun _=>False)).alloc _).trans hc2 qdr);clear hc2)
 go_ret
 exact ⟨rfl,Hc2.out⟩
def eg_fine:Enters Tryz.prog 166:=enters_of Tryz.func166 (by kernel_rfl) rfl
def su (w:World) (A:Option Addr) (n c:Nat) (css:List (List Value)) (ts:List Tm) (hn:n=ts.length) (hm:n≤8) (hA:TmsAt w A css ts) (hp:∀ t∈ts,prT t):
  Calls Tryz.prog 165 #[.slice A n c,.func (.func 166) #[] #[]] w fun e w'=>e=.returned (.bool true)∧New w w':=
 br w A n c css (hn.trans hA.len.symm) (by omega) hA.src 166 #[] eg_fine (fun cs hcs W hW=>by
  obtain ⟨i,hi⟩:=jz hcs
  have hlt:i < ts.length:=by rw [←hA.len];exact (qv.1 hi).1
  obtain ⟨t,ht⟩:∃ t,ts[i]? =some t:=⟨_,qz hlt⟩
  exact fine_ok W cs t ((hA.at_ i cs t hi ht).chg hW) (hp t (qf ht)))
structure argsP (ts:List Tm):Prop where
 lo:1≤ts.length
 hi:ts.length≤3
 fst:∃ t,ts[0]? =some t∧((∃ s,t=.var s)∨∃ v,t=.val v∧v.k=3)
 all:∀ t∈ts,prT t
def qau (w:World) (A:Option Addr) (n c:Nat) (css:List (List Value)) (ts:List Tm) (hn:n=ts.length) (hA:TmsAt w A css ts) (h:argsP ts):
  Calls Tryz.prog 137 #[.slice A n c] w fun e w'=>e=.returned (.bool true)∧New w w':=by
 have H1:=qq (fun W (hW:New w W)=>su W A n c css ts hn (by have:=h.hi;omega) (hA.chg hW) h.all)
 have k1:1≤n:=by rw [hn];exact h.lo
 have k3:n≤3:=by rw [hn];exact h.hi
 obtain ⟨t,hs,hf⟩:=h.fst
 obtain ⟨cs,hcs⟩:∃ cs,css[0]? =some cs:=⟨_,qz (by rw [hA.len];omega)⟩
 obtain ⟨a,rfl,hr⟩:=hA.src (by rw [hA.len];omega)
 have hv:=hA.at_ 0 cs _ hcs hs
 have hcell:=(hr 0 cs hcs).2
 clear hr hcs hs h hA hn
 rcases hf with ⟨s,rfl⟩| ⟨v,rfl,hv3⟩
 ·have hc0:=hcell 0 (.int .i64 1) (by rw [show cs=_ from hv];rfl)
  have Hc0:=qq (show w.cell? a=some (.int .i64 1) from hc0)
  clear hv hc0 hcell
  go_enter Tryz.func137,Tryz.ntmps137
  go_wp2_with (go_at_call 165;refine (H1.out _ (Chg.refl _ _)).mono ?_;rintro e w2 ⟨rfl,hc2⟩;have e0:=hc2.cellS Hc0.out id;have Hc2:=qq hc2;clear hc2)
  go_ret
  exact ⟨rfl,Hc2.out⟩
 ·have hc0:=hcell 0 (.int .i64 2) (by rw [show cs=_ from hv];rfl)
  have hc2:=hcell 2 (.int .i64 3) (by rw [show cs=_ from hv];show some (Value.int .i64 v.k)=_;rw [hv3])
  rw [add_add,show 0 * 7+2=1+1 from rfl,gk] at hc2
  have Hc0:=qq (show w.cell? a=some (.int .i64 2) from hc0)
  have Hc2':=qq hc2
  clear hv hc0 hcell hc2 hv3
  go_enter Tryz.func137,Tryz.ntmps137
  go_wp2_with (go_at_call 165;refine (H1.out _ (Chg.refl _ _)).mono ?_;rintro e w2 ⟨rfl,hc2⟩;have e0:=hc2.cellS Hc0.out id;have e2:=hc2.cellS Hc2'.out id;have Hc2:=qq hc2;clear hc2)
  go_ret
  exact ⟨rfl,Hc2.out⟩
def opT_mem {j:Nat} (h:j < 6):opT j∈[(⟨#[61,61]⟩:ByteArray),⟨#[33,61]⟩,⟨#[60]⟩,⟨#[60,61]⟩,⟨#[62]⟩,⟨#[62,61]⟩]:=by
 rcases (show j=0∨j=1∨j=2∨j=3∨j=4∨j=5 by omega) with rfl|rfl|rfl|rfl|rfl|rfl <;> simp [opT]
def index_in (w:World) (a:Addr) (n c:Nat) (ns:List ByteArray) (hn:n=ns.length) (hA:RowsAt w a 1 (ns.map fun s=>[.string s])) (x:ByteArray) (hb:n≤1000000) (hx:x∈ns):
  Calls Tryz.prog 193 #[.slice (some a) n c,.string x] w fun e w'=>(∃ i:Nat,e=.returned (.int .i64 i))∧w=w':=by
 have HA:=qq hA
 have HN:=qq hn
 have HX:=qq hx
 clear hA hn hx
 go_enter Tryz.func193,Tryz.ntmps193
 go_wp2_with fail
 go_loopw [8] (fun u wr=>∃ i:Nat,i≤n∧u=.int .i64 i∧x ∉ ns.take i∧w=wr) (fun u _=>n - (intOf u).toNat)
 case atStart=>exact ⟨0,qr _,rfl,by simp,rfl⟩
 case round=>
  obtain ⟨i,hin,rfl,hno,hww⟩:=hrel
  have HNo:=qq hno
  have HW:=qq hww
  clear hno hww
  by_cases hlt:i < n
  ·obtain ⟨s,hs⟩:∃ s,ns[i]? =some s:=⟨_,qz (by rw [←HN.out];exact hlt)⟩
   have hc:=(HA.out i [.string s] (by rw [qa,hs];rfl)).2 0 _ rfl
   rw [Nat.mul_one,add_add,Nat.add_zero,HW.out] at hc
   have k0:(0:Int)≤(i:Int):=by omega
   have k1:(i:Int) < (n:Int):=by omega
   have htk:=vh hs
   have hq:=qap x s
   by_cases hx:x=s
   ·rw [decide_eq_true hx] at hq
    clear hs htk hx
    go_wp2_with fail
    go_ret
    exact ⟨⟨i,rfl⟩,HW.out⟩
   ·rw [decide_eq_false hx] at hq
    have Hno:=qq (show x ∉ ns.take (i+1) by
     rw [htk,zk,qn]
     exact fun h=>h.elim HNo.out hx)
    clear hs htk hx
    go_wp2_with fail
    go_roundw
    case rel=>exact ⟨i+1,by omega,by go_num,Hno.out,HW.out⟩
    case measure=>simp only [intOf];omega
  ·exact absurd HX.out (by have:=HNo.out;rw [qc (by rw [←HN.out];omega)] at this;exact this)
def ed (w:World) (a:Addr) (n c:Nat) (ns:List ByteArray) (hn:n=ns.length) (hA:RowsAt w a 1 (ns.map fun s=>[.string s])) (x:ByteArray) (hb:n≤1000000) (hx:x∈ns):
  Calls Tryz.prog 168 #[.slice (some a) n c,.string x] w fun e w'=>e=.returned (.bool true)∧w=w':=by
 have H1:=qq (index_in w a n c ns hn hA x hb hx)
 clear hA hn hx
 go_enter Tryz.func168,Tryz.ntmps168
 go_wp2_with (go_at_call 193;refine H1.out.mono ?_;rintro e w' ⟨⟨i,rfl⟩,rfl⟩)
 go_ret
 exact ⟨rfl,rfl⟩
def litP:Lt→Prop
 | .atom _ nm ts=>lowN nm∧argsP ts
 | .test j a b=>j < 6∧prT a∧prT b
 | .assign nm t=>upN nm∧prT t
def qak (w:World) (cs:List Value) (L:Lt) (hc:LtAt w cs L) (h:litP L):
  Calls Tryz.prog 139 #[.agg cs.toArray] w fun e w'=>e=.returned (.bool true)∧New w w':=by
 obtain ⟨A,c,css,rfl,hA⟩:=hc
 have hB:=fun (k:Int) (nm:ByteArray) (n:Nat)=>Blk.new w 53 #[.int .i64 k,.string nm,.slice A n c]
 have HB:=qq hB
 have HN1:=qq (fun (k:Int) (nm:ByteArray) (n:Nat)=>show New w (w.alloc (.cells #[.int .i64 k,.string nm,.slice A n c] 53)) from (Chg.refl _ _).alloc _)
 cases L with
 |atom neg nm ts=>
  obtain ⟨hl,ha⟩:=h
  obtain ⟨n,hn⟩:=qdp (ts.length)
  have H1:=qq (fun W=>kp W nm hl)
  have H2:=qq (fun W (hW:New w W)=>qau W A n c css ts hn.symm (hA.chg hW) ha)
  change Calls Tryz.prog 139 #[.agg #[.int .i64 (Lt.kind (.atom neg nm ts)),.string nm,.slice A ts.length c]] w _
  rw [hn]
  clear hl ha hA hB hn
  cases neg with
  |false=>
   change Calls Tryz.prog 139 #[.agg #[.int .i64 1,.string nm,.slice A n c]] w _
   go_enter Tryz.func139,Tryz.ntmps139
   go_wp2_with first
    | (go_at_call 105;refine (H1.out _).mono ?_;rintro e w2 ⟨rfl,hc2⟩;have e2:=((HB.out _ _ _).chg hc2 id).cell 2;simp only [qx,qj,qw] at e2;have Hc2:=qq ((HN1.out _ _ _).trans hc2 qdr);clear hc2)
    | (go_at_call 137;refine (H2.out _ Hc2.out).mono ?_;rintro e w3 ⟨rfl,hc3⟩;have Hc3:=qq hc3;clear hc3)
   go_ret
   exact ⟨rfl,Hc2.out.trans Hc3.out qdr⟩
  |true=>
   change Calls Tryz.prog 139 #[.agg #[.int .i64 2,.string nm,.slice A n c]] w _
   go_enter Tryz.func139,Tryz.ntmps139
   go_wp2_with first
    | (go_at_call 105;refine (H1.out _).mono ?_;rintro e w2 ⟨rfl,hc2⟩;have e2:=((HB.out _ _ _).chg hc2 id).cell 2;simp only [qx,qj,qw] at e2;have Hc2:=qq ((HN1.out _ _ _).trans hc2 qdr);clear hc2)
    | (go_at_call 137;refine (H2.out _ Hc2.out).mono ?_;rintro e w3 ⟨rfl,hc3⟩;have Hc3:=qq hc3;clear hc3)
   go_ret
   exact ⟨rfl,Hc2.out.trans Hc3.out qdr⟩
 |test j a b=>
  obtain ⟨hj,ha,hb⟩:=h
  obtain ⟨s,hs⟩:=qdp (opT j)
  have hm:=opT_mem hj
  rw [hs] at hm
  have H1:=qq (fun W g (hb:Blk W g 9 #[.string ⟨#[61,61]⟩,.string ⟨#[33,61]⟩,.string ⟨#[60]⟩,.string ⟨#[60,61]⟩,.string ⟨#[62]⟩,.string ⟨#[62,61]⟩])=>ed W ⟨g,0,none⟩ 6 6 _ rfl (fun i cs hi=>by
   match i,hi with
   |0,hi=>cases hi;exact ⟨rfl,fun j u hj=>by (match j,hj with|0,hj=>cases hj;exact hb.cell 0)⟩
   |1,hi=>cases hi;exact ⟨rfl,fun j u hj=>by (match j,hj with|0,hj=>cases hj;exact hb.cell 1)⟩
   |2,hi=>cases hi;exact ⟨rfl,fun j u hj=>by (match j,hj with|0,hj=>cases hj;exact hb.cell 2)⟩
   |3,hi=>cases hi;exact ⟨rfl,fun j u hj=>by (match j,hj with|0,hj=>cases hj;exact hb.cell 3)⟩
   |4,hi=>cases hi;exact ⟨rfl,fun j u hj=>by (match j,hj with|0,hj=>cases hj;exact hb.cell 4)⟩
   |5,hi=>cases hi;exact ⟨rfl,fun j u hj=>by (match j,hj with|0,hj=>cases hj;exact hb.cell 5)⟩) s (by omega) hm)
  have H2:=qq (fun W (hW:New w W)=>su W A 2 c css [a,b] rfl (by omega) (hA.chg hW) (by
   intro t ht
   simp only [qp,qm,or_false] at ht
   rcases ht with rfl|rfl
   ·exact ha
   ·exact hb))
  change Calls Tryz.prog 139 #[.agg #[.int .i64 3,.string (opT j),.slice A 2 c]] w _
  rw [hs]
  clear ha hb hA hB hs hm hj
  have hS:=Blk.new (w.alloc (.cells #[.int .i64 3,.string s,.slice A 2 c] 53)) 9 #[.string ⟨#[61,61]⟩,.string ⟨#[33,61]⟩,.string ⟨#[60]⟩,.string ⟨#[60,61]⟩,.string ⟨#[62]⟩,.string ⟨#[62,61]⟩]
  rw [World.size_alloc] at hS
  have HS:=qq hS
  clear hS
  go_enter Tryz.func139,Tryz.ntmps139
  go_wp2_with first
   | (go_at_call 168;with_reducible refine (H1.out _ _ HS.out).mono ?_;rintro e w2 ⟨rfl,rfl⟩)
   | (go_at_call 165;refine (H2.out _ ((HN1.out _ _ _).alloc _)).mono ?_;rintro e w3 ⟨rfl,hc3⟩;have Hc3:=qq (((HN1.out _ _ _).alloc _).trans hc3 qdr);clear hc3)
  go_ret
  exact ⟨rfl,Hc3.out⟩
 |assign nm t=>
  obtain ⟨hl,ha⟩:=h
  have H1:=qq (fun W=>lg W nm hl)
  have H2:=qq (fun W (hW:New w W)=>su W A 1 c css [t] rfl (by omega) (hA.chg hW) (by
   intro u hu
   rw [qn.1 hu]
   exact ha))
  change Calls Tryz.prog 139 #[.agg #[.int .i64 4,.string nm,.slice A 1 c]] w _
  clear hl ha hA hB
  go_enter Tryz.func139,Tryz.ntmps139
  go_wp2_with first
   | (go_at_call 169;refine (H1.out _).mono ?_;rintro e w2 ⟨rfl,hc2⟩;have e2:=((HB.out _ _ _).chg hc2 id).cell 2;simp only [qx,qj,qw] at e2;have Hc2:=qq ((HN1.out _ _ _).trans hc2 qdr);clear hc2)
   | (go_at_call 165;refine (H2.out _ Hc2.out).mono ?_;rintro e w3 ⟨rfl,hc3⟩;have Hc3:=qq (Hc2.out.trans hc3 qdr);clear hc3)
  go_ret
  exact ⟨rfl,Hc3.out⟩
structure ruP (r:Ru):Prop where
 h:lowN r.h
 ts:argsP r.ts
 l1:1≤r.Ls.length
 l4:r.Ls.length≤4
 ls:∀ L∈r.Ls,litP L
 agg:r.aggOk
def qao:Enters Tryz.prog 139:=enters_of Tryz.func139 (by kernel_rfl) rfl
def lits_ok (w:World) (A:Option Addr) (n c:Nat) (css:List (List Value)) (Ls:List Lt) (hn:n=Ls.length) (hm:n≤8) (hA:LtsAt w A css Ls) (hp:∀ L∈Ls,litP L):
  Calls Tryz.prog 138 #[.slice A n c,.func (.func 139) #[] #[]] w fun e w'=>e=.returned (.bool true)∧New w w':=
 qar w A n c css (hn.trans hA.len.symm) (by omega) hA.src 139 #[] qao (fun cs hcs W hW=>by
  obtain ⟨i,hi⟩:=jz hcs
  have hlt:i < Ls.length:=by rw [←hA.len];exact (qv.1 hi).1
  obtain ⟨L,hL⟩:∃ L,Ls[i]? =some L:=⟨_,qz hlt⟩
  exact qak W cs L ((hA.at_ i cs L hi hL).chg hW) (hp L (qf hL)))
def kv {W:World} {g:Nat} {t:TypeId} {a b c d e f:Value} (h:Blk W g t #[a,b,c,d,e,f]):W.cell? ⟨g,0,none⟩=some a∧W.cell? ⟨g,1,none⟩=some b∧W.cell? ⟨g,2,none⟩=some c∧W.cell? ⟨g,3,none⟩=some d∧W.cell? ⟨g,4,none⟩=some e∧W.cell? ⟨g,5,none⟩=some f:=⟨h.cell 0,h.cell 1,h.cell 2,h.cell 3,h.cell 4,h.cell 5⟩
def rule_ok (w:World) (v:Value) (r:Ru) (hr:RuSl w v r) (h:ruP r):Calls Tryz.prog 102 #[v] w fun e w'=>e=.returned (.bool true)∧New w w':=by
 obtain ⟨lab,A,Ab,c,cb,css,cssb,rfl,hT,hL,hcb,hcm,hlab⟩:=hr
 have hl1:=h.l1
 have hl4:=h.l4
 have ht1:=h.ts.lo
 have H1:=qq (fun W=>kp W lab hlab)
 have H2:=qq (fun W=>kp W r.h h.h)
 have H3:=qq (fun W (hW:New w W)=>qau W A r.ts.length c css r.ts rfl (hT.chg hW) h.ts)
 have H4:=qq (fun W (hW:New w W)=>lits_ok W Ab r.Ls.length cb cssb r.Ls rfl (by omega) (hL.chg hW) h.ls)
 have hv:∀ s,r.ts[1]? =some (.var s)→∃ a,A=some a∧w.cell? ⟨a.block,a.off+7,none⟩=some (.int .i64 1):=fun s hs=>by
  obtain ⟨a,ha,hra⟩:=hT.src (by rw [hT.len];omega)
  obtain ⟨cs,hcs⟩:∃ cs,css[1]? =some cs:=⟨_,qz (by rw [hT.len];exact (qv.1 hs).1)⟩
  have:=(hra 1 cs hcs).2 0 (.int .i64 1) (by rw [show cs=_ from hT.at_ 1 cs _ hcs hs];rfl)
  rw [add_add,show 1 * 7+0=6+1 from rfl,gk] at this
  exact ⟨a,ha,this⟩
 have hag:=h.agg
 unfold Ru.aggOk at hag
 obtain ⟨n,hn⟩:=qdp (r.ts.length)
 obtain ⟨nb,hnb⟩:=qdp (r.Ls.length)
 rw [hn] at ht1 hag H3⊢
 rw [hnb] at hl1 hl4 H4⊢
 have HB:=qq (fun (ag:ByteArray) (at':Int)=>Blk.new w 47 #[.string lab,.string r.h,.slice A n c,.string ag,.int .i64 at',.slice Ab nb cb])
 have HN:=qq (fun (ag:ByteArray) (at':Int)=>show New w (w.alloc (.cells #[.string lab,.string r.h,.slice A n c,.string ag,.int .i64 at',.slice Ab nb cb] 47)) from (Chg.refl _ _).alloc _)
 clear hT hL hlab h hn hnb
 rcases hag with ⟨e1,e2⟩| ⟨e1,e2,e3,s,e4⟩
 ·rw [e1,e2]
  clear hv e1 e2
  go_enter Tryz.func102,Tryz.ntmps102
  go_wp2_with first
   | (go_at_call 105;with_reducible refine (H1.out _).mono ?_;rintro e w2 ⟨rfl,hc2⟩;obtain ⟨-,c1,-,-,-,-⟩:=kv ((HB.out _ _).chg hc2 id);have Hc2:=qq ((HN.out _ _).trans hc2 qdr);have HB2:=qq ((HB.out _ _).chg hc2 id);clear H1 hc2)
   | (go_at_call 105;refine (H2.out _).mono ?_;rintro e w3 ⟨rfl,hc3⟩;obtain ⟨-,-,c2,-,-,-⟩:=kv (HB2.out.chg hc3 id);have Hc3:=qq (Hc2.out.trans hc3 qdr);have HB3:=qq (HB2.out.chg hc3 id);clear H2 hc3)
   | (go_at_call 137;refine (H3.out _ Hc3.out).mono ?_;rintro e w4 ⟨rfl,hc4⟩;obtain ⟨-,-,-,-,-,c5⟩:=kv (HB3.out.chg hc4 id);have Hc4:=qq (Hc3.out.trans hc4 qdr);have HB4:=qq (HB3.out.chg hc4 id);clear H3 hc4)
   | (go_at_call 138;refine (H4.out _ Hc4.out).mono ?_;rintro e w5 ⟨rfl,hc5⟩;obtain ⟨-,-,-,d3,d4,-⟩:=kv (HB4.out.chg hc5 id);have Hc5:=qq (Hc4.out.trans hc5 qdr);clear H4 hc5)
  go_ret
  exact ⟨rfl,Hc5.out⟩
 ·obtain ⟨a,rfl,hck⟩:=hv s e4
  have HCk:=qq hck
  clear hv e4 hck
  rw [e2]
  rcases e1 with e1|e1|e1
  all_goals
   rw [e1]
   clear e1 e2
   go_enter Tryz.func102,Tryz.ntmps102
   go_wp2_with first
    | (go_at_call 105;with_reducible refine (H1.out _).mono ?_;rintro e w2 ⟨rfl,hc2⟩;obtain ⟨-,c1,-,-,-,-⟩:=kv ((HB.out _ _).chg hc2 id);have Hc2:=qq ((HN.out _ _).trans hc2 qdr);have HB2:=qq ((HB.out _ _).chg hc2 id);clear H1 hc2)
    | (go_at_call 105;refine (H2.out _).mono ?_;rintro e w3 ⟨rfl,hc3⟩;obtain ⟨-,-,c2,-,-,-⟩:=kv (HB2.out.chg hc3 id);have Hc3:=qq (Hc2.out.trans hc3 qdr);have HB3:=qq (HB2.out.chg hc3 id);clear H2 hc3)
    | (go_at_call 137;refine (H3.out _ Hc3.out).mono ?_;rintro e w4 ⟨rfl,hc4⟩;obtain ⟨-,-,-,-,-,c5⟩:=kv (HB3.out.chg hc4 id);have Hc4:=qq (Hc3.out.trans hc4 qdr);have HB4:=qq (HB3.out.chg hc4 id);clear H3 hc4)
    | (go_at_call 138;refine (H4.out _ Hc4.out).mono ?_;rintro e w5 ⟨rfl,hc5⟩;obtain ⟨-,-,d2,d3,d4,-⟩:=kv (HB4.out.chg hc5 id);have Hc5:=qq (Hc4.out.trans hc5 qdr);have dk:=Hc5.out.cellS HCk.out id;clear H4 hc5)
   go_ret
   exact ⟨rfl,Hc5.out⟩
structure RusAt (w:World) (A:Option Addr) (css:List (List Value)) (rs:List Ru):Prop where
 len:css.length=rs.length
 src:SrcAt w A 6 css
 at_:∀ (j:Nat) (cs:List Value) (r:Ru),css[j]? =some cs→rs[j]? =some r→RuSl w (.agg cs.toArray) r
def RusAt.chg {w w':World} {A:Option Addr} {css:List (List Value)} {rs:List Ru} (h:RusAt w A css rs) (hc:New w w'):RusAt w' A css rs:=⟨h.len,h.src.chg hc (fun _ _=>id),fun j cs r h1 h2=>(h.at_ j cs r h1 h2).chg hc⟩
def FcAt (w:World) (cs:List Value) (f:Rw):Prop:=∃ v,cs=[.string f.name,v]∧RowAt w [.string f.name,v,.int .i64 f.stamp] f
def FcAt.form {w:World} {cs:List Value} {f:Rw} (h:FcAt w cs f):∃ A c,cs=[.string f.name,.slice A f.args.length c]∧SrcAt w A 4 (f.args.map vcs):=by
 obtain ⟨v,h1,A,c,h2,h3,h4,h5,h6,h7⟩:=h
 simp only [List.cons.injEq,true_and,and_true] at h2
 exact ⟨A,c,by rw [h1,h2],h6⟩
structure FcsAt (w:World) (A:Option Addr) (css:List (List Value)) (fs:List Rw):Prop where
 len:css.length=fs.length
 src:SrcAt w A 2 css
 at_:∀ (j:Nat) (cs:List Value) (f:Rw),css[j]? =some cs→fs[j]? =some f→FcAt w cs f
def FcsAt.chg {w w':World} {A:Option Addr} {css:List (List Value)} {fs:List Rw} (h:FcsAt w A css fs) (hc:New w w'):FcsAt w' A css fs:=⟨h.len,h.src.chg hc (fun _ _=>id),fun j cs r h1 h2=>by
 obtain ⟨v,h3,h4⟩:=h.at_ j cs r h1 h2
 exact ⟨v,h3,h4.chg hc⟩⟩
def fcP (f:Rw):Prop:=(f.name,(f.args.length:Int))∈relCs∧(∀ v∈f.args,okP v)∧∃ v,f.args[0]? =some v∧v.k=3
def PgSl (w:World) (v:Value) (rs:List Ru):Prop:=∃ (d:Nat) (Ar Af:Option Addr) (cr cf:Nat) (css csf:List (List Value)) (fs:List Rw),v=.agg #[.slice (some ⟨d,0,none⟩) 6 6,.slice Af fs.length cf,.slice Ar rs.length cr]∧Blk w d 106 relCells∧RusAt w Ar css rs∧rs.length≤6∧FcsAt w Af csf fs∧fs.length≤12∧∀ f∈fs,fcP f
def PgSl.chg {w w':World} {v:Value} {rs:List Ru} (h:PgSl w v rs) (hc:New w w'):PgSl w' v rs:=by
 obtain ⟨d,Ar,Af,cr,cf,css,csf,fs,h1,h2,h3,h4,h5,h6⟩:=h
 exact ⟨d,Ar,Af,cr,cf,css,csf,fs,h1,h2.chg hc id,h3.chg hc,h4,h5.chg hc,h6⟩
def rcC (p:ByteArray×Int):List Value:=[.string p.1,.int .i64 p.2]
def lh {nm:ByteArray} {n:Int} (h:(nm,n)∈relCs):lowN nm∧1≤n∧n≤3:=by
 simp only [relCs,qp,qm,or_false,Prod.mk.injEq] at h
 rcases h with ⟨rfl,rfl⟩| ⟨rfl,rfl⟩| ⟨rfl,rfl⟩| ⟨rfl,rfl⟩| ⟨rfl,rfl⟩| ⟨rfl,rfl⟩
 ·refine ⟨⟨by decide,by decide,fun i c hc=>?_⟩,by omega,by omega⟩
  match i,hc with
  |0,hc=>cases hc;decide
  |1,hc=>cases hc;decide
  |2,hc=>cases hc;decide
  |3,hc=>cases hc;decide
  |i+4,hc=>cases hc
 all_goals exact ⟨pw (by decide),by omega,by omega⟩
def ix {w:World} {d:Nat} (h:Blk w d 106 relCells):RowsAt w ⟨d,0,none⟩ 2 (relCs.map rcC):=fun i cs hi=>by
 match i,hi with
 |0,hi=>cases hi;exact ⟨rfl,fun j u hj=>by (match j,hj with|0,hj=>cases hj;exact h.cell 0|1,hj=>cases hj;exact h.cell 1)⟩
 |1,hi=>cases hi;exact ⟨rfl,fun j u hj=>by (match j,hj with|0,hj=>cases hj;exact h.cell 2|1,hj=>cases hj;exact h.cell 3)⟩
 |2,hi=>cases hi;exact ⟨rfl,fun j u hj=>by (match j,hj with|0,hj=>cases hj;exact h.cell 4|1,hj=>cases hj;exact h.cell 5)⟩
 |3,hi=>cases hi;exact ⟨rfl,fun j u hj=>by (match j,hj with|0,hj=>cases hj;exact h.cell 6|1,hj=>cases hj;exact h.cell 7)⟩
 |4,hi=>cases hi;exact ⟨rfl,fun j u hj=>by (match j,hj with|0,hj=>cases hj;exact h.cell 8|1,hj=>cases hj;exact h.cell 9)⟩
 |5,hi=>cases hi;exact ⟨rfl,fun j u hj=>by (match j,hj with|0,hj=>cases hj;exact h.cell 10|1,hj=>cases hj;exact h.cell 11)⟩
def decl_ok (w:World) (nm:ByteArray) (n:Int) (h:(nm,n)∈relCs):Calls Tryz.prog 104 #[.agg #[.string nm,.int .i64 n]] w fun e w'=>e=.returned (.bool true)∧New w w':=by
 obtain ⟨h1,h2,h3⟩:=lh h
 have H1:=qq (fun W=>kp W nm h1)
 have HB:=qq (Blk.new w 106 #[.string nm,.int .i64 n])
 clear h h1
 go_enter Tryz.func104,Tryz.ntmps104
 go_wp2_with (go_at_call 105;refine (H1.out _).mono ?_;rintro e w2 ⟨rfl,hc2⟩;have e1:=(HB.out.chg hc2 id).cell 1;simp only [qx,qj,qw] at e1;have Hc2:=qq (((Chg.refl w (fun _=>False)).alloc _).trans hc2 qdr);clear hc2)
 go_ret
 exact ⟨congrArg (fun b=>Ending.returned (Value.bool b)) (decide_eq_true (by omega)),Hc2.out⟩
def eg_right:Enters Tryz.prog 134:=enters_of Tryz.func134 (by kernel_rfl) rfl
def tuple_ok (w:World) (cs:List Value) (f:Rw) (hc:FcAt w cs f) (h:fcP f):Calls Tryz.prog 100 #[.agg cs.toArray] w fun e w'=>e=.returned (.bool true)∧New w w':=by
 obtain ⟨A,c,rfl,hs⟩:=hc.form
 obtain ⟨hr,hv,v0,hv0,hk⟩:=h
 obtain ⟨hl,h1,h3⟩:=lh hr
 obtain ⟨n,hn⟩:=qdp (f.args.length)
 have H2:=qq (fun W (hW:New w W)=>allValue W A n c (f.args.map vcs) (by rw [qd];exact hn.symm) (by omega) (hs.chg hW (fun _ _=>id)) 134 #[] eg_right (fun cs hcs W2 hW2=>by
  obtain ⟨v,hv',rfl⟩:=zi.1 hcs
  obtain ⟨⟨q1,q2,q3⟩,q4⟩:=(hv v hv').ok
  have:=kl W2 v q1 q2 q3
  rw [q4] at this
  exact this))
 obtain ⟨a,rfl,hra⟩:=hs (by rw [qd];omega)
 have hc0:w.cell? a=some (.int .i64 3):=(hra 0 (vcs v0) (by rw [qa,hv0];rfl)).2 0 (.int .i64 3) (by rw [←hk];rfl)
 have H1:=qq (fun W=>kp W f.name hl)
 rw [hn] at h1 h3⊢
 have Hc0:=qq hc0
 have HB:=qq (Blk.new w 60 #[.string f.name,.slice (some a) n c])
 have HN:=qq (show New w (w.alloc (.cells #[.string f.name,.slice (some a) n c] 60)) from (Chg.refl _ _).alloc _)
 have k1:1≤n:=by omega
 have k3:n≤3:=by omega
 clear hc hs hra hc0 hr hv hv0 hk hl h1 h3 hn
 go_enter Tryz.func100,Tryz.ntmps100
 go_wp2_with first
  | (go_at_call 105;refine (H1.out _).mono ?_;rintro e w2 ⟨rfl,hc2⟩;have c1:=(HB.out.chg hc2 id).cell 1;simp only [qx,qj,qw] at c1;have Hc2:=qq (HN.out.trans hc2 qdr);have e0:=Hc2.out.cellS Hc0.out id;clear hc2)
  | (go_at_call 133;refine (H2.out _ Hc2.out).mono ?_;rintro e w3 ⟨rfl,hc3⟩;have Hc3:=qq (Hc2.out.trans hc3 qdr);clear hc3)
 go_ret
 exact ⟨rfl,Hc3.out⟩
def right_ok (w:World) (v:Value) (rs:List Ru) (hv:PgSl w v rs) (h:∀ r∈rs,ruP r):Calls Tryz.prog 70 #[v] w fun e w'=>e=.returned (.bool true)∧New w w':=by
 obtain ⟨d,Ar,Af,cr,cf,css,csf,fs,rfl,h2,h3,h4,h5,h6,h7⟩:=hv
 have eg1:=enters_of Tryz.func100 (by kernel_rfl) rfl
 have eg2:=enters_of Tryz.func102 (by kernel_rfl) rfl
 have eg3:=enters_of Tryz.func104 (by kernel_rfl) rfl
 have H1:=qq (fun W (hW:New w W)=>allTuple W Af fs.length cf csf h5.len.symm (by omega) (h5.src.chg hW (fun _ _=>id)) 100 #[] eg1 (fun cs hcs W2 hW2=>by
  obtain ⟨i,hi⟩:=jz hcs
  have hlt:i < fs.length:=by rw [←h5.len];exact (qv.1 hi).1
  obtain ⟨r,hr⟩:∃ r,fs[i]? =some r:=⟨_,qz hlt⟩
  exact tuple_ok W2 _ r (((h5.chg hW).chg hW2).at_ i cs r hi hr) (h7 r (qf hr))))
 have H2:=qq (fun W (hW:New w W)=>allRule W Ar rs.length cr css h3.len.symm (by omega) (h3.src.chg hW (fun _ _=>id)) 102 #[] eg2 (fun cs hcs W2 hW2=>by
  obtain ⟨i,hi⟩:=jz hcs
  have hlt:i < rs.length:=by rw [←h3.len];exact (qv.1 hi).1
  obtain ⟨r,hr⟩:∃ r,rs[i]? =some r:=⟨_,qz hlt⟩
  exact rule_ok W2 _ r (((h3.at_ i cs r hi hr).chg hW).chg hW2) (h r (qf hr))))
 have H3:=qq (fun W (hW:New w W)=>allDecl W (some ⟨d,0,none⟩) 6 6 (relCs.map rcC) rfl (by omega) (fun _=>⟨_,rfl,ix (h2.chg hW id)⟩) 104 #[] eg3 (fun cs hcs W2 hW2=>by
  obtain ⟨p,hp,rfl⟩:=zi.1 hcs
  exact decl_ok W2 p.1 p.2 hp))
 obtain ⟨n,hn⟩:=qdp (rs.length)
 obtain ⟨m,hm⟩:=qdp (fs.length)
 rw [hn] at h4 H2⊢
 rw [hm] at h6 H1⊢
 have HB:=qq (Blk.new w 29 #[.slice (some ⟨d,0,none⟩) 6 6,.slice Af m cf,.slice Ar n cr])
 have HN:=qq (show New w (w.alloc (.cells #[.slice (some ⟨d,0,none⟩) 6 6,.slice Af m cf,.slice Ar n cr] 29)) from (Chg.refl _ _).alloc _)
 clear h2 h3 h5 h7 h hn hm eg1 eg2 eg3
 go_enter Tryz.func70,Tryz.ntmps70
 go_wp2_with first
  | (go_at_call 99;refine (H1.out _ HN.out).mono ?_;rintro e w2 ⟨rfl,hc2⟩;have c2:=(HB.out.chg hc2 id).cell 2;simp only [qx,qj,qw] at c2;have HB2:=qq (HB.out.chg hc2 id);have Hc2:=qq (HN.out.trans hc2 qdr);clear hc2)
  | (go_at_call 101;refine (H2.out _ Hc2.out).mono ?_;rintro e w3 ⟨rfl,hc3⟩;have c0:=(HB2.out.chg hc3 id).cell 0;simp only [qx,qj,qw] at c0;have Hc3:=qq (Hc2.out.trans hc3 qdr);clear hc3)
  | (go_at_call 103;refine (H3.out _ Hc3.out).mono ?_;rintro e w4 ⟨rfl,hc4⟩;have Hc4:=qq (Hc3.out.trans hc4 qdr);clear hc4)
 all_goals
  go_ret
  exact ⟨rfl,Hc4.out⟩
def idxPostDecl (css:List (List Value)) (p:List Value→Bool) (w:World) (e:Ending) (w':World):Prop:=
 (∃ i,css.findIdx? p=some i∧e=.returned (.int .i64 i)∧New w w')∨(css.findIdx? p=none∧e=.returned (.int .i64 (-1))∧New w w')
def idxDecl (w:World) (A:Option Addr) (n c:Nat) (css:List (List Value)) (hn:n=css.length) (hm:n≤maxLen) (hrows:0 < css.length→∃ a,A=some a∧RowsAt w a 2 css) (g:Nat) (lb:Array Value) (eg:Enters Tryz.prog g) (p:List Value→Bool)
  (T:Nat→Prop) (hp:∀ cs∈css,Says Tryz.prog w T g lb #[.agg cs.toArray] (.bool (p cs))):
  Calls Tryz.prog 106 #[.slice A n c,.func (.func g) #[] lb] w (idxPostDecl css p w):=by
 unfold maxLen at hm
 unfold Enters at eg
 have HN:=qq hn
 have Hp:=qq hp
 have Hrows:=qq hrows
 clear hn hp hrows
 go_enter Tryz.func106,Tryz.ntmps106
 go_wp2
 go_loopw [5,8] (fun _ i wr=>∃ k:Nat,k≤n∧i=.int .i64 k∧New w wr∧∀ j cs,j < k→css[j]? =some cs→p cs=false) (fun _ i _=>n - (intOf i).toNat)
 case atStart=>exact ⟨0,qr _,rfl,Chg.refl w _,fun j cs h=>absurd h (by omega)⟩
 case round=>
  obtain ⟨k,hk,rfl,hc,hno⟩:=hrel
  have Hc:=qq hc
  have Hno:=qq hno
  clear hc hno
  by_cases hlt:k < n
  ·obtain ⟨ad,rfl,hrw⟩:=Hrows.out (by rw [←HN.out];omega)
   obtain ⟨cs,hcs⟩:∃ cs,css[k]? =some cs:=⟨_,qz (by rw [←HN.out];exact hlt)⟩
   have hat:=(hrw k cs hcs).2.chg Hc.out id
   have hl:=(hrw k cs hcs).1
   have hs:=Hp.out cs (qf hcs) wr (Hc.out.mono fun _ _ x=>x.elim)
   have Hat:=qq hat
   have Hl:=qq hl
   have Hs:=qq hs
   have Hcs:=qq hcs
   clear hat hl hs hrw hcs
   go_wp2_with ((with_reducible refine vq rfl (.tmp 14) 106 rfl pj (ad.add (k * 2)) cs ?_ Hl.out Hat.out ?_);exact rfl)
   refine Hs.out.mono ?_
   rintro e w2 ⟨rfl,hc2⟩
   have Hc2:=qq (Hc.out.trans hc2 qdr)
   clear hc2
   obtain ⟨b,hb⟩:=qdp (p cs)
   rw [hb]
   have Hb:=qq hb
   clear hb
   cases b with
   |true=>
    go_wp2_with fail
    go_ret
    refine Or.inl ⟨k,?_,rfl,Hc2.out⟩
    obtain ⟨hlt',he⟩:=qv.1 Hcs.out
    rw [yf]
    refine ⟨hlt',by rw [he];exact Hb.out,fun j hj=>?_⟩
    have:=Hno.out j _ hj (qz (by omega))
    simp [this]
   |false=>
    go_wp2_with fail
    go_roundw
    case rel=>
     refine ⟨k+1,by omega,by go_num,Hc2.out,fun j cs' hj hcs'=>?_⟩
     by_cases hjk:j=k
     ·subst hjk
      have:=Hcs.out.symm.trans hcs'
      simp only [Option.some.injEq] at this
      subst this
      exact Hb.out
     ·exact Hno.out j cs' (by omega) hcs'
    case measure=>simp [intOf];omega
  ·go_wp2_with fail
   go_ret
   refine Or.inr ⟨?_,rfl,Hc.out⟩
   rw [uy]
   intro cs hcs
   obtain ⟨j,hj,rfl⟩:=zt hcs
   exact Hno.out j _ (by have:=HN.out;omega) (qz hj)
def rel_idx {nm:ByteArray} {n:Int} (h:(nm,n)∈relCs):∃ i:Nat,i < 6∧(relCs.map rcC).findIdx? (fun cs=>decide (nameOf cs=nm))=some i∧relCells[2 * i+1]? =some (.int .i64 n):=by
 simp only [relCs,qp,qm,or_false,Prod.mk.injEq] at h
 rcases h with ⟨rfl,rfl⟩| ⟨rfl,rfl⟩| ⟨rfl,rfl⟩| ⟨rfl,rfl⟩| ⟨rfl,rfl⟩| ⟨rfl,rfl⟩
 ·exact ⟨0,by omega,by decide,rfl⟩
 ·exact ⟨1,by omega,by decide,rfl⟩
 ·exact ⟨2,by omega,by decide,rfl⟩
 ·exact ⟨3,by omega,by decide,rfl⟩
 ·exact ⟨4,by omega,by decide,rfl⟩
 ·exact ⟨5,by omega,by decide,rfl⟩
def arity_is (w:World) (b:Nat) (nm x:ByteArray) (n:Int) (hb:Blk w b 9 #[.string nm]):Calls Tryz.prog 107 (#[.agg #[.string x,.int .i64 n]]++#[.pointer (some ⟨b,0,none⟩)]) w fun e w'=>e=.returned (.bool (decide (x=nm)))∧New w w':=by
 have e0:=(hb.alloc (.cells #[.string x,.int .i64 n] 106)).cell 0
 simp only [qx,qj] at e0
 have hq:=qap x nm
 obtain ⟨q,hqe⟩:=qdp (decide (x=nm))
 rw [hqe] at hq⊢
 clear hqe hb
 go_enter Tryz.func107,Tryz.ntmps107
 go_wp2_with fail
 go_ret
 exact ⟨rfl,(Chg.refl w _).alloc _⟩
def aw (w:World) (d:Nat) (Ar Af:Option Addr) (nf cf:Nat) (n cr:Nat) (hd:Blk w d 106 relCells) (nm:ByteArray) (k:Int) (h:(nm,k)∈relCs):
  Calls Tryz.prog 71 #[.agg #[.slice (some ⟨d,0,none⟩) 6 6,.slice Af nf cf,.slice Ar n cr],.string nm] w fun e w'=>e=.returned (.int .i64 k)∧New w w':=by
 obtain ⟨i,hi6,hi,hc⟩:=rel_idx h
 have eg1:=enters_of Tryz.func107 (by kernel_rfl) rfl
 have hI:∀ W b,New w W→Blk W b 9 #[.string nm]→Calls Tryz.prog 106 #[.slice (some ⟨d,0,none⟩) 6 6,.func (.func 107) #[] #[.pointer (some ⟨b,0,none⟩)]] W fun e W'=>e=.returned (.int .i64 i)∧New W W':=fun W b hW hb=>(idxDecl W (some ⟨d,0,none⟩) 6 6 (relCs.map rcC) rfl (by decide) (fun _=>⟨_,rfl,ix (hd.chg hW id)⟩) 107 #[.pointer (some ⟨b,0,none⟩)] eg1 (fun cs=>decide (nameOf cs=nm)) (fun _=>False) (fun cs hcs W2 hW2=>by
  obtain ⟨p,hp,rfl⟩:=zi.1 hcs
  exact arity_is W2 b nm p.1 p.2 (hb.chg hW2 id))).mono (fun e W' h=>by
   unfold idxPostDecl at h
   rcases h with ⟨i2,hi2,he,hc2⟩| ⟨hi2,he,hc2⟩
   ·rw [hi] at hi2
    cases hi2
    exact ⟨he,hc2⟩
   ·rw [hi] at hi2
    cases hi2)
 have HI:=qq hI
 clear hI
 have HD:=qq hd
 have Hc:=qq hc
 have hn1:New w ((w.alloc (.cells #[.slice (some ⟨d,0,none⟩) 6 6,.slice Af nf cf,.slice Ar n cr] 29)).alloc (.cells #[.string nm] 9)):=((Chg.refl _ _).alloc _).alloc _
 have hb1:=Blk.new (w.alloc (.cells #[.slice (some ⟨d,0,none⟩) 6 6,.slice Af nf cf,.slice Ar n cr] 29)) 9 #[.string nm]
 have hb0:=(Blk.new w 29 #[.slice (some ⟨d,0,none⟩) 6 6,.slice Af nf cf,.slice Ar n cr]).alloc (.cells #[.string nm] 9)
 rw [World.size_alloc] at hb1
 have HN1:=qq hn1
 have HB1:=qq hb1
 have HB0:=qq hb0
 clear hd hc hi h hn1 hb1 hb0 eg1
 have q0:(0:Int)≤(i:Int):=by omega
 have q1:(i:Int) < 6:=by omega
 go_enter Tryz.func71,Tryz.ntmps71
 go_wp2_with (go_at_call 106;refine (HI.out _ _ HN1.out HB1.out).mono ?_;rintro e w2 ⟨rfl,hc2⟩;have e0:=(HB0.out.chg hc2 id).cell 0;simp only [qx,qj] at e0;have e1:w2.cell? ⟨d,i * 2+1,none⟩=some (.int .i64 k):=(((HD.out.chg HN1.out id).chg hc2 id).cell (i * 2+1)).trans (by rw [jf];exact Hc.out);have Hc2:=qq (HN1.out.trans hc2 qdr);clear hc2)
 go_ret
 exact ⟨rfl,Hc2.out⟩
def xp:StT Tryz.prog 29 3:=⟨⟨_,Tryz.underlying29⟩,by kernel_rfl⟩
def relL:Lt→Prop
 | .atom _ nm ts=>(nm,(ts.length:Int))∈relCs
 |_=>True
def rels_lit (w:World) (b d m cr:Nat) (Ar Af:Option Addr) (nf cf:Nat) (hb:Blk w b 29 #[.slice (some ⟨d,0,none⟩) 6 6,.slice Af nf cf,.slice Ar m cr]) (hd:Blk w d 106 relCells) (cs:List Value) (L:Lt) (hL:LtAt w cs L) (h:relL L):
  Calls Tryz.prog 144 (#[.agg cs.toArray]++#[.pointer (some ⟨b,0,none⟩)]) w fun e w'=>e=.returned (.bool false)∧New w w':=by
 obtain ⟨A,c,css,rfl,hA⟩:=hL
 obtain ⟨n,hn⟩:=qdp (L.args.length)
 obtain ⟨kk,hk⟩:=qdp (L.kind)
 obtain ⟨nm,hnm⟩:=qdp (L.name)
 rw [hn,hk,hnm]
 obtain ⟨w1,hw1⟩:=qdq (w.alloc (.cells #[.int .i64 kk,.string nm,.slice A n c] 53))
 have hN1:New w w1:=by rw [hw1];exact (Chg.refl _ _).alloc _
 have HB1:=qq (show Blk w1 w.heap.size 53 #[.int .i64 kk,.string nm,.slice A n c] by rw [hw1];exact Blk.new w _ _)
 have Hb:=qq (hb.chg hN1 id)
 have HD:=qq (hd.chg hN1 id)
 have HN1:=qq hN1
 have HW1:=qq hw1
 clear hb hd hN1 hw1 hA
 have hcase:(kk=1∨kk=2)∧(nm,(n:Int))∈relCs∨(kk=3∨kk=4):=by
  cases L with
  |atom neg s ts=>
   refine .inl ⟨?_,?_⟩
   ·rw [←hk]
    cases neg
    ·exact .inl rfl
    ·exact .inr rfl
   ·rw [←hn, ←hnm]
    exact h
  |test j x y=>exact .inr (.inl hk.symm)
  |assign s u=>exact .inr (.inr hk.symm)
 clear hn hk hnm h
 have eg1:∀ (args:Array Value) (w:World),(callFunc 71 args).run Tryz.prog w=.ok (.enter 71 args) w:=enters_of Tryz.func71 (by kernel_rfl) rfl
 rcases hcase with ⟨hk12,hrel⟩|hk34
 ·have HRel:=qq hrel
  clear hrel
  rcases hk12 with rfl|rfl
  all_goals
   go_enter Tryz.func144,Tryz.ntmps144
   go_upto_region 1 with fail
   rw [←HW1.out]
   refine vj (by kernel_rfl) ?_
   have hnd:New w1 w1.drew:=(Chg.refl _ _).drew
   have D1:=qq (HB1.out.chg hnd id)
   have Db:=qq (Hb.out.chg hnd id)
   have DD:=qq (HD.out.chg hnd id)
   have DN:=qq (HN1.out.trans hnd qdr)
   clear hnd HW1
   generalize w1.drew=wd at D1 Db DD DN⊢
   have e0:=D1.out.cell 0
   simp only [qx,qj] at e0
   refine AtN.list 0 9 (by kernel_rfl) ?_
   change wpList _ _ _ [_,_,_,_,_,_,_,_,_] _ _
   go_wp2_with fail
   change AtN _ _ _ 9 _ _
   clear e0
   refine AtN.segN2 9 17 [13,14,15,16,17,18,19,20] (fun
    |9=>fun vv _=>vv=.agg #[.slice (some ⟨d,0,none⟩) 6 6,.slice Af nf cf,.slice Ar m cr]
    |10=>fun vv _=>vv=.pointer (some ⟨w.heap.size,1,none⟩)
    |11=>fun vv _=>vv=.string nm
    |12=>fun vv _=>vv=.int .i64 n
    |13=>fun vv _=>vv=.pointer (some ⟨w.heap.size,2,none⟩)
    |14=>fun vv _=>vv=.slice A n c
    |15=>fun vv _=>vv=.int .i64 n
    |16=>fun vv _=>vv=.bool false
    |_=>fun _ _=>True) (by kernel_rfl) (by kernel_rfl) (by kernel_rfl) (by kernel_rfl) (fun j v w1 w2 hc h=>?_) (fun i hn hi o ho A0 W hN hin hk=>?_) (fun l W2 hN hl hΦ=>?_)
   ·match j with
    |9|10|11|12|13|14|15|16=>exact h
    |0|1|2|3|4|5|6|7|8=>trivial
    |_+17=>trivial
   ·rcases (show i=9∨i=10∨i=11∨i=12∨i=13∨i=14∨i=15∨i=16 by omega) with rfl|rfl|rfl|rfl|rfl|rfl|rfl|rfl<;>cases ho
    ·have h1:A0.tmps[1]?.getD undef=.pointer (some ⟨b,0,none⟩):=hk 1
     exact .same (vu 1 _ rfl xp ⟨b,0,none⟩ [.slice (some ⟨d,0,none⟩) 6 6,.slice Af nf cf,.slice Ar m cr] h1 rfl (Db.out.chg hN id).at_) rfl
    ·have h2:A0.tmps[2]?.getD undef=.pointer (some ⟨w.heap.size,0,none⟩):=hk 2
     exact .same (by simp [go_sem,h2]) rfl
    ·have h14:A0.tmps[14]?.getD undef=.pointer (some ⟨w.heap.size,1,none⟩):=hin 10 14
     have hcx:W.cell? ⟨w.heap.size,1,none⟩=some (.string nm):=(D1.out.chg hN id).cell 1
     exact .same (v:=.string nm) (by simp [go_sem,h14,hcx]) rfl
    ·have h13:A0.tmps[13]?.getD undef=.agg #[.slice (some ⟨d,0,none⟩) 6 6,.slice Af nf cf,.slice Ar m cr]:=hin 9 13
     have h15:A0.tmps[15]?.getD undef=.string nm:=hin 11 15
     refine .call (f:=71) (args:=#[.agg #[.slice (some ⟨d,0,none⟩) 6 6,.slice Af nf cf,.slice Ar m cr],.string nm]) (W':=W) ?_ ((aw W d Ar Af nf cf m cr (DD.out.chg hN id) nm n HRel.out).mono ?_)
     ·simp [go_sem,h13,h15,eg1]
     ·rintro e w' ⟨rfl,hc⟩
      exact ⟨_,rfl,hc,rfl⟩
    ·have h2:A0.tmps[2]?.getD undef=.pointer (some ⟨w.heap.size,0,none⟩):=hk 2
     exact .same (by simp [go_sem,h2]) rfl
    ·have h17:A0.tmps[17]?.getD undef=.pointer (some ⟨w.heap.size,2,none⟩):=hin 13 17
     have hcx:W.cell? ⟨w.heap.size,2,none⟩=some (.slice A n c):=(D1.out.chg hN id).cell 2
     exact .same (v:=.slice A n c) (by simp [go_sem,h17,hcx]) rfl
    ·have h18:A0.tmps[18]?.getD undef=.slice A n c:=hin 14 18
     exact .same (by simp [go_sem,h18]) rfl
    ·have h16:A0.tmps[16]?.getD undef=.int .i64 n:=hin 12 16
     have h19:A0.tmps[19]?.getD undef=.int .i64 n:=hin 15 19
     exact .same (by simp [go_sem,h16,h19]) rfl
   obtain ⟨x13,x14,x15,x16,x17,x18,x19,x20,rfl⟩:∃ x13 x14 x15 x16 x17 x18 x19 x20,l=[x13,x14,x15,x16,x17,x18,x19,x20]:=by
    match l,hl with
    | [x13,x14,x15,x16,x17,x18,x19,x20],_=>exact ⟨_,_,_,_,_,_,_,_,rfl⟩
   obtain rfl:x13=.agg #[.slice (some ⟨d,0,none⟩) 6 6,.slice Af nf cf,.slice Ar m cr]:=hΦ 0 (by decide)
   obtain rfl:x14=.pointer (some ⟨w.heap.size,1,none⟩):=hΦ 1 (by decide)
   obtain rfl:x15=.string nm:=hΦ 2 (by decide)
   obtain rfl:x16=.int .i64 n:=hΦ 3 (by decide)
   obtain rfl:x17=.pointer (some ⟨w.heap.size,2,none⟩):=hΦ 4 (by decide)
   obtain rfl:x18=.slice A n c:=hΦ 5 (by decide)
   obtain rfl:x19=.int .i64 n:=hΦ 6 (by decide)
   obtain rfl:x20=.bool false:=hΦ 7 (by decide)
   simp only [putsL,zq,zj,zz,List.zip,List.zipWith,Act.put,qk,qu,qy]
   clear hΦ hl
   refine AtN.list 17 19 (by kernel_rfl) ?_
   change wpList _ _ _ [_,_] _ _
   go_wp2_with fail
   change AtN _ _ _ 19 _ _
   refine AtN.done rfl ?_
   go_wp2_with fail
   go_ret
   exact ⟨rfl,DN.out.trans hN qdr⟩
 ·rcases hk34 with rfl|rfl
  all_goals
   go_enter Tryz.func144,Tryz.ntmps144
   go_upto_region 1 with fail
   rw [←HW1.out]
   refine vj (by kernel_rfl) ?_
   have hnd:New w1 w1.drew:=(Chg.refl _ _).drew
   have D1:=qq (HB1.out.chg hnd id)
   have DN:=qq (HN1.out.trans hnd qdr)
   clear hnd HW1
   generalize w1.drew=wd at D1 DN⊢
   have e0:=D1.out.cell 0
   simp only [qx,qj] at e0
   refine AtN.list 0 9 (by kernel_rfl) ?_
   change wpList _ _ _ [_,_,_,_,_,_,_,_,_] _ _
   go_wp2_with fail
   change AtN _ _ _ 9 _ _
   clear e0
   refine AtN.segS2 9 17 [(13,undef),(14,undef),(15,undef),(16,undef),(17,undef),(18,undef),(19,undef),(20,undef)] (by kernel_rfl) (by kernel_rfl) (by kernel_rfl) (by kernel_rfl) rfl ?_
   simp only [putsL,Act.put,qk,qu,qy]
   refine AtN.list 17 19 (by kernel_rfl) ?_
   change wpList _ _ _ [_,_] _ _
   go_wp2_with fail
   change AtN _ _ _ 19 _ _
   refine AtN.done rfl ?_
   go_wp2_with fail
   go_ret
   exact ⟨rfl,DN.out⟩
structure ruRel (r:Ru):Prop where
 h:(r.h,(r.ts.length:Int))∈relCs
 ls:∀ L∈r.Ls,relL L
def rels_ok (w:World) (d m cr:Nat) (Ar Af:Option Addr) (nf cf:Nat) (hd:Blk w d 106 relCells) (v:Value) (r:Ru) (hr:RuSl w v r) (h:ruRel r) (hl:r.Ls.length≤1000):
  Calls Tryz.prog 108 #[.agg #[.slice (some ⟨d,0,none⟩) 6 6,.slice Af nf cf,.slice Ar m cr],v] w fun e w'=>e=.returned (.bool true)∧New w w':=by
 obtain ⟨lab,A,Ab,c,cb,css,cssb,rfl,hT,hL,hcb,hcm,hlab⟩:=hr
 have HRel:=qq h.h
 have eg1:∀ (args:Array Value) (w:World),(callFunc 71 args).run Tryz.prog w=.ok (.enter 71 args) w:=enters_of Tryz.func71 (by kernel_rfl) rfl
 have eg2:=enters_of Tryz.func144 (by kernel_rfl) rfl
 have HC:=qq (fun W b (hW:New w W) (hb:Blk W b 29 #[.slice (some ⟨d,0,none⟩) 6 6,.slice Af nf cf,.slice Ar m cr])=>rt W Ab r.Ls.length cb cssb hL.len.symm (by omega) (hL.src.chg hW (fun _ _=>id)) 144 #[.pointer (some ⟨b,0,none⟩)] eg2 (fun cs hcs W2 hW2=>by
  obtain ⟨i,hi⟩:=jz hcs
  have hlt:i < r.Ls.length:=by rw [←hL.len];exact (qv.1 hi).1
  obtain ⟨L,hLi⟩:∃ L,r.Ls[i]? =some L:=⟨_,qz hlt⟩
  exact rels_lit W2 b d m cr Ar Af nf cf (hb.chg hW2 id) ((hd.chg hW id).chg hW2 id) cs L (((hL.at_ i cs L hi hLi).chg hW).chg hW2) (h.ls L (qf hLi))))
 obtain ⟨n,hn⟩:=qdp (r.ts.length)
 obtain ⟨nb,hnb⟩:=qdp (r.Ls.length)
 rw [hn] at HRel⊢
 rw [hnb] at HC⊢
 obtain ⟨w1,hw1⟩:=qdq ((w.alloc (.cells #[.slice (some ⟨d,0,none⟩) 6 6,.slice Af nf cf,.slice Ar m cr] 29)).alloc (.cells #[.string lab,.string r.h,.slice A n c,.string r.agg,.int .i64 r.at',.slice Ab nb cb] 47))
 have hN1:New w w1:=by rw [hw1];exact ((Chg.refl _ _).alloc _).alloc _
 have hB0:Blk w1 w.heap.size 29 #[.slice (some ⟨d,0,none⟩) 6 6,.slice Af nf cf,.slice Ar m cr]:=by rw [hw1];exact (Blk.new w _ _).alloc _
 have hB1:Blk w1 (w.heap.size+1) 47 #[.string lab,.string r.h,.slice A n c,.string r.agg,.int .i64 r.at',.slice Ab nb cb]:=by
  have:=Blk.new (w.alloc (.cells #[.slice (some ⟨d,0,none⟩) 6 6,.slice Af nf cf,.slice Ar m cr] 29)) 47 #[.string lab,.string r.h,.slice A n c,.string r.agg,.int .i64 r.at',.slice Ab nb cb]
  rw [World.size_alloc] at this
  rw [hw1]
  exact this
 have hnd:New w1 w1.drew:=(Chg.refl _ _).drew
 have D0:=qq (hB0.chg hnd id)
 have D1:=qq (hB1.chg hnd id)
 have DD:=qq ((hd.chg hN1 id).chg hnd id)
 have DN:=qq (hN1.trans hnd qdr)
 have HW1:=qq hw1
 clear hT hL hlab h hn hnb hd hN1 hB0 hB1 hnd hw1 hl eg2
 go_enter Tryz.func108,Tryz.ntmps108
 go_upto_region 1 with fail
 rw [←HW1.out]
 refine vj (by kernel_rfl) ?_
 clear HW1
 generalize w1.drew=wd at D0 D1 DD DN⊢
 refine AtN.segN2 0 9 [5,6,7,8,9,10,11,12,13] (fun
  |0=>fun vv _=>vv=.agg #[.slice (some ⟨d,0,none⟩) 6 6,.slice Af nf cf,.slice Ar m cr]
  |1=>fun vv _=>vv=.pointer (some ⟨w.heap.size+1,1,none⟩)
  |2=>fun vv _=>vv=.string r.h
  |3=>fun vv _=>vv=.int .i64 n
  |4=>fun vv _=>vv=.pointer (some ⟨w.heap.size+1,2,none⟩)
  |5=>fun vv _=>vv=.slice A n c
  |6=>fun vv _=>vv=.int .i64 n
  |7=>fun vv _=>vv=.bool true
  |8=>fun vv _=>vv=.bool true
  |_=>fun _ _=>True) (by kernel_rfl) (by kernel_rfl) (by kernel_rfl) (by kernel_rfl) (fun j v w1 w2 hc h=>?_) (fun i hn hi o ho A0 W hN hin hk=>?_) (fun l W2 hN hl hΦ=>?_)
 ·match j with
  |0|1|2|3|4|5|6|7|8=>exact h
  |_+9=>trivial
 ·rcases (show i=0∨i=1∨i=2∨i=3∨i=4∨i=5∨i=6∨i=7∨i=8 by omega) with rfl|rfl|rfl|rfl|rfl|rfl|rfl|rfl|rfl<;>cases ho
  ·have h2:A0.tmps[2]?.getD undef=.pointer (some ⟨w.heap.size,0,none⟩):=hk 2
   exact .same (vu 2 _ rfl xp ⟨w.heap.size,0,none⟩ [.slice (some ⟨d,0,none⟩) 6 6,.slice Af nf cf,.slice Ar m cr] h2 rfl (D0.out.chg hN id).at_) rfl
  ·have h3:A0.tmps[3]?.getD undef=.pointer (some ⟨w.heap.size+1,0,none⟩):=hk 3
   exact .same (by simp [go_sem,h3]) rfl
  ·have h6:A0.tmps[6]?.getD undef=.pointer (some ⟨w.heap.size+1,1,none⟩):=hin 1 6
   have hcx:W.cell? ⟨w.heap.size+1,1,none⟩=some (.string r.h):=(D1.out.chg hN id).cell 1
   exact .same (v:=.string r.h) (by simp [go_sem,h6,hcx]) rfl
  ·have h5:A0.tmps[5]?.getD undef=.agg #[.slice (some ⟨d,0,none⟩) 6 6,.slice Af nf cf,.slice Ar m cr]:=hin 0 5
   have h7:A0.tmps[7]?.getD undef=.string r.h:=hin 2 7
   refine .call (f:=71) (args:=#[.agg #[.slice (some ⟨d,0,none⟩) 6 6,.slice Af nf cf,.slice Ar m cr],.string r.h]) (W':=W) ?_ ((aw W d Ar Af nf cf m cr (DD.out.chg hN id) r.h n HRel.out).mono ?_)
   ·simp [go_sem,h5,h7,eg1]
   ·rintro e w' ⟨rfl,hc⟩
    exact ⟨_,rfl,hc,rfl⟩
  ·have h3:A0.tmps[3]?.getD undef=.pointer (some ⟨w.heap.size+1,0,none⟩):=hk 3
   exact .same (by simp [go_sem,h3]) rfl
  ·have h9:A0.tmps[9]?.getD undef=.pointer (some ⟨w.heap.size+1,2,none⟩):=hin 4 9
   have hcx:W.cell? ⟨w.heap.size+1,2,none⟩=some (.slice A n c):=(D1.out.chg hN id).cell 2
   exact .same (v:=.slice A n c) (by simp [go_sem,h9,hcx]) rfl
  ·have h10:A0.tmps[10]?.getD undef=.slice A n c:=hin 5 10
   exact .same (by simp [go_sem,h10]) rfl
  ·have h8:A0.tmps[8]?.getD undef=.int .i64 n:=hin 3 8
   have h11:A0.tmps[11]?.getD undef=.int .i64 n:=hin 6 11
   exact .same (by simp [go_sem,h8,h11]) rfl
  ·exact .same (uo 12 _ rfl (hin 7 12)) rfl
 obtain ⟨x5,x6,x7,x8,x9,x10,x11,x12,x13,rfl⟩:∃ x5 x6 x7 x8 x9 x10 x11 x12 x13,l=[x5,x6,x7,x8,x9,x10,x11,x12,x13]:=by
  match l,hl with
  | [x5,x6,x7,x8,x9,x10,x11,x12,x13],_=>exact ⟨_,_,_,_,_,_,_,_,_,rfl⟩
 obtain rfl:x5=.agg #[.slice (some ⟨d,0,none⟩) 6 6,.slice Af nf cf,.slice Ar m cr]:=hΦ 0 (by decide)
 obtain rfl:x6=.pointer (some ⟨w.heap.size+1,1,none⟩):=hΦ 1 (by decide)
 obtain rfl:x7=.string r.h:=hΦ 2 (by decide)
 obtain rfl:x8=.int .i64 n:=hΦ 3 (by decide)
 obtain rfl:x9=.pointer (some ⟨w.heap.size+1,2,none⟩):=hΦ 4 (by decide)
 obtain rfl:x10=.slice A n c:=hΦ 5 (by decide)
 obtain rfl:x11=.int .i64 n:=hΦ 6 (by decide)
 obtain rfl:x12=.bool true:=hΦ 7 (by decide)
 obtain rfl:x13=.bool true:=hΦ 8 (by decide)
 simp only [putsL,zq,zj,zz,List.zip,List.zipWith,Act.put,qk,qu,qy]
 clear hΦ hl
 have E0:=qq (D0.out.chg hN id)
 have E1:=qq (D1.out.chg hN id)
 have EN:=qq (DN.out.trans hN qdr)
 clear hN
 refine AtN.segN2 9 12 [14,15,16] (fun
  |9=>fun vv _=>vv=.pointer (some ⟨w.heap.size+1,5,none⟩)
  |10=>fun vv _=>vv=.slice Ab nb cb
  |11=>fun vv _=>vv=.func (.func 144) #[] #[.pointer (some ⟨w.heap.size,0,none⟩)]
  |_=>fun _ _=>True) (by kernel_rfl) (by kernel_rfl) (by kernel_rfl) (by kernel_rfl) (fun j v w1 w2 hc h=>?_) (fun i hn hi o ho A0 W hN hin hk=>?_) (fun l W3 hN hl hΦ=>?_)
 ·match j with
  |9|10|11=>exact h
  |0|1|2|3|4|5|6|7|8=>trivial
  |_+12=>trivial
 ·rcases (show i=9∨i=10∨i=11 by omega) with rfl|rfl|rfl<;>cases ho
  ·have h3:A0.tmps[3]?.getD undef=.pointer (some ⟨w.heap.size+1,0,none⟩):=hk 3
   exact .same (by simp [go_sem,h3]) rfl
  ·have h14:A0.tmps[14]?.getD undef=.pointer (some ⟨w.heap.size+1,5,none⟩):=hin 9 14
   have hcx:W.cell? ⟨w.heap.size+1,5,none⟩=some (.slice Ab nb cb):=(E1.out.chg hN id).cell 5
   exact .same (v:=.slice Ab nb cb) (by simp [go_sem,h14,hcx]) rfl
  ·have h2:A0.tmps[2]?.getD undef=.pointer (some ⟨w.heap.size,0,none⟩):=hk 2
   exact .same (by simp [go_sem,h2]) rfl
 obtain ⟨x14,x15,x16,rfl⟩:∃ x14 x15 x16,l=[x14,x15,x16]:=by
  match l,hl with
  | [x14,x15,x16],_=>exact ⟨_,_,_,rfl⟩
 obtain rfl:x14=.pointer (some ⟨w.heap.size+1,5,none⟩):=hΦ 0 (by decide)
 obtain rfl:x15=.slice Ab nb cb:=hΦ 1 (by decide)
 obtain rfl:x16=.func (.func 144) #[] #[.pointer (some ⟨w.heap.size,0,none⟩)]:=hΦ 2 (by decide)
 simp only [putsL,zq,zj,zz,List.zip,List.zipWith,Act.put,qk,qu,qy]
 clear hΦ hl
 have F0:=qq (E0.out.chg hN id)
 have FN:=qq (EN.out.trans hN qdr)
 clear hN
 refine AtN.list 12 16 (by kernel_rfl) ?_
 change wpList _ _ _ [_,_,_,_] _ _
 go_wp2_with (go_at_call 61;refine (HC.out _ _ FN.out F0.out).mono ?_;rintro e w4 ⟨rfl,hc4⟩;have Hc4:=qq (FN.out.trans hc4 qdr);clear hc4)
 change AtN _ _ _ 16 _ _
 refine AtN.done rfl ?_
 go_wp2_with fail
 go_ret
 exact ⟨rfl,Hc4.out⟩
def varsT:Tm→List ByteArray
 | .var s=>[s]
 | .val _=>[]
 | .op _ a b=>varsT a++varsT b
def varsL (ts:List Tm):List ByteArray:=ts.flatMap varsT
def dep:Tm→Nat
 | .var _=>0
 | .val _=>0
 | .op _ a b=>dep a+dep b+1
def fl {ts:List Tm} {k:Nat} {t:Tm} (h:ts[k]? =some t):varsL (ts.take (k+1))=varsL (ts.take k)++varsT t:=by
 unfold varsL
 rw [vh h,zp]
 simp
def dr {ts:List Tm} {k:Nat} {t:Tm} (h:ts[k]? =some t):varsL ts=varsL (ts.take k)++(varsT t++varsL (ts.drop (k+1))):=by
 have e:ts=ts.take (k+1)++ts.drop (k+1):=(zm _ _).symm
 rw [←qo, ←fl h]
 unfold varsL
 rw [←zp,zm]
def TmAt.split {w:World} {cs:List Value} {t:Tm} (h:TmAt w cs t):(∃ s,t=.var s∧cs=[.int .i64 1,.string s,.int .i64 0,.int .i64 0,.string ⟨#[]⟩,.slice none 0 0,.slice none 0 0])∨
  ∃ (k:Int) (s s2:ByteArray) (k2 i2:Int) (A:Option Addr) (c:Nat) (css:List (List Value)) (ts:List Tm),(k == 1)=false∧cs=[.int .i64 k,.string s,.int .i64 k2,.int .i64 i2,.string s2,.slice none 0 0,.slice A ts.length c]∧TmsAt w A css ts∧varsT t=varsL ts∧ts.length≤2∧(∀ t'∈ts,dep t' < dep t)∧∀ s,t≠.var s:=by
 cases t with
 |var s=>exact .inl ⟨s,rfl,h⟩
 |val v=>exact .inr ⟨2,_,_,_,_,none,0,[],[],rfl,h,⟨rfl,fun h=>absurd h (by simp),fun j cs t h=>by simp at h⟩,rfl,by simp,fun t' h=>(by cases h),fun s h=>(by cases h)⟩
 |op m a b=>
  obtain ⟨ad,c,ca,cb,h1,h2,h3,h4,h5⟩:=h
  refine .inr ⟨4,_,_,_,_,some ad,c,[ca,cb],[a,b],rfl,h1,⟨rfl,fun _=>⟨ad,rfl,h3⟩,fun j cs t hc ht=>?_⟩,by simp [varsT,varsL],by simp,fun t' ht=>?_,fun s h=>(by cases h)⟩
  ·match j,hc,ht with
   |0,hc,ht=>cases hc;cases ht;exact h4
   |1,hc,ht=>cases hc;cases ht;exact h5
   |j+2,hc,ht=>cases hc
  ·simp only [qp,qm,or_false] at ht
   rcases ht with rfl|rfl <;> (simp only [dep];omega)
def EachR (J Jx:List ByteArray→(Nat→Prop)→World→Prop) (xs pre ys:List ByteArray) (S:Nat→Prop) (W:World) (e:Ending) (W':World):Prop:=
 (e=.returned (.bool true)∧Stp J (pre++ys) S W W')∨(e=.returned (.bool false)∧∃ p x r,xs=p++x::r∧Stp Jx (p++[x]) S W W')
def EachOk (d:Nat):Prop:=∀ (w0 W:World) (hN0:New w0 W) (ts:List Tm) (hd:∀ t∈ts,dep t < d) (A:Option Addr) (n c:Nat) (css:List (List Value)) (hn:n=ts.length) (hm:n≤1000) (hT:TmsAt w0 A css ts)
 (l yb eb n0:Nat) (J Jx:List ByteArray→(Nat→Prop)→World→Prop) (hA:Acc n0 J) (hn0:n0≤W.heap.size) (xs pre rest:List ByteArray) (hxs:xs=pre++(varsL ts++rest)) (S:Nat→Prop) (hJ:J pre S W) (hS:∀ k,S k→w0.heap.size≤k)
 (hy:Blk W yb 152 #[.func (.yield l) #[] #[]]) (ny:¬ S yb) (he:Blk W eb 158 #[.func (.func 172) #[] #[.pointer (some ⟨yb,0,none⟩),.pointer (some ⟨eb,0,none⟩)]]) (ne:¬ S eb)
 (hyl:∀ p x r S1 W1,xs=p++x::r→J p S1 W1→Yld Tryz.prog l (.string x) W1 fun b W2=>if b=true then Stp J (p++[x]) S1 W1 W2 else Stp Jx (p++[x]) S1 W1 W2),
 Calls Tryz.prog 172 (#[.slice A n c]++#[.pointer (some ⟨yb,0,none⟩),.pointer (some ⟨eb,0,none⟩)]) W (EachR J Jx xs pre (varsL ts) S W)
def each_ok (d:Nat) (ih:∀ d',d' < d→EachOk d'):EachOk d:=by
 intro w0 W hN0 ts hd A n c css hn hm hT l yb eb n0 J Jx hA hn0 xs pre rest hxs S hJ hS hy ny he ne hyl
 have HIh:=qq ih
 have HN0:=qq hN0
 have Hd:=qq hd
 have HN:=qq hn
 have HT:=qq hT
 have HA:=qq hA
 have Hn0:=qq hn0
 have HXs:=qq hxs
 have HJ:=qq hJ
 have HS:=qq hS
 have HY:=qq hy
 have HE:=qq he
 have HYl:=qq hyl
 have lyb:yb < W.heap.size:=hy.lt
 have leb:eb < W.heap.size:=he.lt
 have Hle:=qq (And.intro lyb leb)
 have eg1:∀ (args:Array Value) (w:World),(callFunc 172 args).run Tryz.prog w=.ok (.enter 172 args) w:=enters_of Tryz.func172 (by kernel_rfl) rfl
 clear ih hN0 hd hn hT hA hn0 hxs hJ hS hy he hyl lyb leb
 refine callsIn_wide.1 (callsIn_of_wp (n:=0) Tryz.func172 rfl trivial ?_ rfl)
 refine wpIn_wide.2 ?_
 simp only [Tryz.ntmps172,zl,zf,yj,Nat.reduceAdd,Nat.reduceSub,yw,yv,yt,yd,jq,js]
 go_wp2_with fail
 go_loopw [9] (fun u9 wr=>∃ k:Nat,k≤n∧u9=.int .i64 k∧Stp J (pre++varsL (ts.take k)) S W wr) (fun u _=>n - (intOf u).toNat)
 case atStart=>exact ⟨0,qr _,rfl,S,by simpa [varsL] using HJ.out,Chg.refl _ _,fun k hk=>.inl hk⟩
 case round=>
  obtain ⟨k,hk,rfl,S1,hJ1,hc1,hS1⟩:=hrel
  have HJ1:=qq hJ1
  have HC1:=qq hc1
  have HS1:=qq hS1
  have HN1:=qq (show New w0 wr from HN0.out.trans hc1 (fun k hk h=>by have:=HS.out k h;omega))
  have HY1:=qq (HY.out.chg hc1 ny)
  have HE1:=qq (HE.out.chg hc1 ne)
  clear hJ1 hc1 hS1
  by_cases hlt:k < n
  ·obtain ⟨t,ht⟩:∃ t,ts[k]? =some t:=⟨_,qz (by rw [←HN.out];exact hlt)⟩
   obtain ⟨cs,hcs⟩:∃ cs,css[k]? =some cs:=⟨_,qz (by rw [HT.out.len, ←HN.out];exact hlt)⟩
   obtain ⟨ad,rfl,hrw⟩:=HT.out.src (by rw [HT.out.len, ←HN.out];omega)
   have htm:=HT.out.at_ k cs t hcs ht
   have Hat:=qq ((hrw k cs hcs).2.chg HN1.out id)
   have H1c:=qq htm.one
   have Ht:=qq ht
   have q0:(0:Int)≤(k:Int):=by omega
   have q1:(k:Int) < (n:Int):=by omega
   have hsp:=htm.split
   clear hrw hcs ht htm
   rcases hsp with ⟨s,rfl,rfl⟩| ⟨k1,s,s2,k2,i2,A',c',css',ts',hk1,rfl,hT',hv',hl',hd',-⟩
   ·go_upto_region 5 with first
     | ((with_reducible refine vq rfl (.tmp 11) 64 rfl xy (ad.add (k * 7)) [.int .i64 1,.string s,.int .i64 0,.int .i64 0,.string ⟨#[]⟩,.slice none 0 0,.slice none 0 0] ?_ rfl Hat.out ?_);exact rfl)
     | (with_reducible refine gz rfl 64 rfl elTerm.zero ?_;intro w3 cur hc3 hb3 hsz hs3;have HC3:=qq hc3;have HB3:=qq hb3;have Hsz:=qq hsz;have Hs3:=qq hs3;clear hc3 hb3 hsz hs3)
     | ((with_reducible refine xq rfl (.tmp 6) (.tmp 12) 64 rfl rfl xy wr.heap.size 64 _ [.int .i64 1,.string s,.int .i64 0,.int .i64 0,.string ⟨#[]⟩,.slice none 0 0,.slice none 0 0] ?_ ?_ HB3.out rfl Hsz.out H1c.out ?_);exact rfl;exact rfl;intro w4 hc4 hb4 hs4;have HC4:=qq (HC3.out.put hc4 (qh _));have HB4:=qq hb4;have e0:=hb4.cell 0;simp only [qx,qj] at e0;clear hc4 hb4 hs4)
    have hy4:=(HY1.out.chg HC4.out id).cell 0
    have e1:=HB4.out.cell 1
    simp only [qx,qj,qw] at hy4 e1
    have hJ4:=HA.out.chg HJ1.out (HC4.out.mono fun _ _ h=>h.elim)
    have hyl:=HYl.out (pre++varsL (ts.take k)) s (varsL (ts.drop (k+1))++rest) S1 w4 (by rw [HXs.out,dr Ht.out];simp [varsT]) hJ4
    have HYq:=qq hyl
    have hst:pre++varsL (ts.take k)++[s]=pre++varsL (ts.take (k+1)):=by rw [fl Ht.out,qo];rfl
    have HSt:=qq hst
    clear hJ4 hyl hst
    refine (wpIn_wide (n:=0)).1 ?_
    refine wpIn_region_lit ?_
    refine xo Wd.wide 3 (by rfl) ?_
    change wpList _ _ _ [_,_,_] _ _
    go_wp2_with fail
    refine gr Wd.wide rfl (.tmp 16) (.tmp 18) 9 rfl rfl rfl HYq.out ?_
    rintro b W2 hb
    have HBt:=qq (show b=true→Stp J _ S1 w4 W2 from fun h=>by rw [if_pos h] at hb;exact hb)
    have HBf:=qq (show b=false→Stp Jx _ S1 w4 W2 from fun h=>by rw [if_neg (by rw [h];exact jp)] at hb;exact hb)
    clear hb HYq
    refine xo Wd.wide 1 (by rfl) ?_
    change wpList _ _ _ [_] _ _
    cases b with
    |true=>
     go_wp2_with fail
     refine wpListIn_nil ?_
     go_wp2_with fail
     go_roundw
     case rel=>
      refine ⟨k+1,by omega,by go_num,?_⟩
      rw [←HSt.out]
      exact Stp.then HC1.out HS1.out HC4.out (HBt.out (by trivial))
     case measure=>simp [intOf];omega
    |false=>
     go_wp2_with fail
     refine wpListIn_nil ?_
     go_wp2_with fail
     go_ret
     exact .inr ⟨rfl,_,s,varsL (ts.drop (k+1))++rest,by rw [HXs.out,dr Ht.out];simp [varsT],Stp.then HC1.out HS1.out HC4.out (HBf.out (by trivial))⟩
   ·go_upto_region 7 with first
     | ((with_reducible refine vq rfl (.tmp 11) 64 rfl xy (ad.add (k * 7)) [.int .i64 k1,.string s,.int .i64 k2,.int .i64 i2,.string s2,.slice none 0 0,.slice A' ts'.length c'] ?_ rfl Hat.out ?_);exact rfl)
     | (with_reducible refine gz rfl 64 rfl elTerm.zero ?_;intro w3 cur hc3 hb3 hsz hs3;have HC3:=qq hc3;have HB3:=qq hb3;have Hsz:=qq hsz;have Hs3:=qq hs3;clear hc3 hb3 hsz hs3)
     | ((with_reducible refine xq rfl (.tmp 6) (.tmp 12) 64 rfl rfl xy wr.heap.size 64 _ [.int .i64 k1,.string s,.int .i64 k2,.int .i64 i2,.string s2,.slice none 0 0,.slice A' ts'.length c'] ?_ ?_ HB3.out rfl Hsz.out H1c.out ?_);exact rfl;exact rfl;intro w4 hc4 hb4 hs4;have HC4:=qq (HC3.out.put hc4 (qh _));have HB4:=qq hb4;have e0:=hb4.cell 0;simp only [qx,qj] at e0;clear hc4 hb4 hs4)
    have he4:=HE1.out.chg HC4.out id
    have hy4:=HY1.out.chg HC4.out id
    have c4:=he4.cell 0
    have e6:=HB4.out.cell 6
    simp only [qx,qj,qw] at c4 e6
    have hJ4:=HA.out.chg HJ1.out (HC4.out.mono fun _ _ h=>h.elim)
    have hxs4:xs=(pre++varsL (ts.take k))++(varsL ts'++(varsL (ts.drop (k+1))++rest)):=by rw [HXs.out,dr Ht.out,hv'];simp only [qo]
    have HIc:=qq (HIh.out (dep t) (Hd.out t (qf Ht.out)) w0 w4 (HN1.out.trans HC4.out qdr) ts' hd' A' ts'.length c' css' rfl (by omega) hT' l yb eb n0 J Jx HA.out (qb Hn0.out (qb HC1.out.size HC4.out.size)) xs (pre++varsL (ts.take k)) (varsL (ts.drop (k+1))++rest) hxs4 S1 hJ4 (fun k hk=>(HS1.out k hk).elim (HS.out k) (fun h=>qb HN0.out.size h)) hy4 (fun h=>(HS1.out _ h).elim ny (fun h=>by have:=Hle.out.1;omega)) he4 (fun h=>(HS1.out _ h).elim ne (fun h=>by have:=Hle.out.2;omega)) HYl.out)
    have HSt:=qq (show pre++varsL (ts.take k)++varsL ts'=pre++varsL (ts.take (k+1)) by rw [fl Ht.out,qo,hv'])
    clear he4 hy4 hJ4 hxs4 hT' hv' hl' hd'
    go_wp2_with fail
    refine HIc.out.mono ?_
    rintro e W2 (⟨rfl,hst⟩| ⟨rfl,hst⟩)
    ·have Hst:=qq hst
     clear hst
     go_wp2_with fail
     go_roundw
     case rel=>
      refine ⟨k+1,by omega,by go_num,?_⟩
      rw [←HSt.out]
      exact Stp.then HC1.out HS1.out HC4.out Hst.out
     case measure=>simp [intOf];omega
    ·have Hst:=qq hst
     clear hst
     go_wp2_with fail
     go_ret
     obtain ⟨p,x,r,h1,h2⟩:=Hst.out
     exact .inr ⟨rfl,p,x,r,h1,Stp.then HC1.out HS1.out HC4.out h2⟩
  ·go_wp2_with fail
   go_ret
   refine .inl ⟨rfl,S1,?_,HC1.out,HS1.out⟩
   have h:=HJ1.out
   rwa [qc (by rw [←HN.out];omega)] at h
def tf (w:World) (A:Option Addr) (n c:Nat):Calls Tryz.prog 145 #[.slice A n c] w fun e w'=>e=.returned (.func (.func 171) #[] #[.pointer (some ⟨w.heap.size,0,none⟩)])∧Blk w' w.heap.size 44 #[.slice A n c]∧New w w':=by
 have HB:=qq (Blk.new w 44 #[.slice A n c])
 go_enter Tryz.func145,Tryz.ntmps145
 go_wp2_with fail
 go_ret
 exact ⟨rfl,HB.out,(Chg.refl _ _).alloc _⟩
def encN (x:ByteArray) (v:Value) (S:Nat→Prop) (W:World):Prop:=v=.string x
def each_all (d:Nat):EachOk d:=by
 induction d using Nat.strongRecOn with
 |ind d ih=>exact each_ok d ih
def dep_lt:∀ (ts:List Tm),∃ d,∀ t∈ts,dep t < d
 | []=>⟨0,fun t h=>by cases h⟩
 |t::ts=>by
  obtain ⟨d,h⟩:=dep_lt ts
  refine ⟨d+dep t+1,fun u hu=>?_⟩
  rcases qp.1 hu with rfl|hu
  ·omega
  ·have:=h u hu;omega
def szEach:(Tryz.prog.info? 158).map (·.size)=some 1:=by kernel_rfl
def ov (w0 w:World) (hN0:New w0 w) (S:Nat→Prop) (hS0:∀ k,S k→w0.heap.size≤k) (Jx:List ByteArray→(Nat→Prop)→World→Prop) (p:Nat) (A:Option Addr) (n c:Nat) (css:List (List Value)) (ts:List Tm) (hn:n=ts.length) (hm:n≤1000) (hT:TmsAt w0 A css ts)
  (hb:Blk w p 44 #[.slice A n c]) (np:¬ S p):ItGives Tryz.prog 171 #[.pointer (some ⟨p,0,none⟩)] encN (varsL ts) S w Jx:=by
 intro l J S' W hA hJ hc hS hy
 have hS':∀ k,S' k→w0.heap.size≤k:=fun k hk=>(hS k hk).elim (hS0 k) (fun h=>qb hN0.size h)
 have hNW:New w0 W:=hN0.trans hc (fun k hk h=>by have:=hS0 k h;omega)
 have hbp:=hb.chg hc np
 have hlt:=fun k hk=>hA.lt hJ k hk
 obtain ⟨d,hd⟩:=dep_lt ts
 have hcall:∀ W4,New W W4→Blk W4 W.heap.size 152 #[.func (.yield l) #[] #[]]→Blk W4 (W.heap.size+1) 158 #[.func (.func 172) #[] #[.pointer (some ⟨W.heap.size,0,none⟩),.pointer (some ⟨W.heap.size+1,0,none⟩)]]→
   Calls Tryz.prog 172 (#[.slice A n c]++#[.pointer (some ⟨W.heap.size,0,none⟩),.pointer (some ⟨W.heap.size+1,0,none⟩)]) W4 (EachR J Jx (varsL ts) [] (varsL ts) S' W4):=fun W4 h4 hy4 he4=>
  each_all d w0 W4 (hNW.trans h4 qdr) ts hd A n c css hn hm hT l _ _ w.heap.size J Jx hA (qb hc.size h4.size) (varsL ts) [] [] (by simp) S' (hA.chg hJ (h4.mono fun _ _ h=>h.elim)) hS' hy4 (fun h=>absurd (hlt _ h) (Nat.lt_irrefl _)) he4 (fun h=>by have:=hlt _ h;omega) (fun p x r S1 W1 hx hj=>hy p x r S1 _ W1 hx hj rfl)
 have HC:=qq hcall
 have Hbp:=qq hbp
 clear hcall hy hA hJ hc hS hS' hNW hd hT hb hbp hlt hn
 obtain ⟨w3,hw3⟩:=qdq ((W.alloc (.cells #[.func (.yield l) #[] #[]] 152)).alloc (.cells #[.nilFunc] 158))
 have HN3:=qq (show New W w3 by rw [hw3];exact ((Chg.refl _ _).alloc _).alloc _)
 have HBy:=qq (show Blk w3 W.heap.size 152 #[.func (.yield l) #[] #[]] by rw [hw3];exact (Blk.new W _ _).alloc _)
 have HBe:=qq (show Blk w3 (W.heap.size+1) 158 #[.nilFunc] by
  have:=Blk.new (W.alloc (.cells #[.func (.yield l) #[] #[]] 152)) 158 #[.nilFunc]
  rw [World.size_alloc] at this
  rw [hw3]
  exact this)
 have HW3:=qq hw3
 clear hw3
 refine callsIn_of_wp Tryz.func171 rfl trivial ?_ rfl
 refine wpIn_wide.2 ?_
 simp only [Tryz.ntmps171,zl,zf,yj,Nat.reduceAdd,Nat.reduceSub,yw,yv,yt,yd,jq,js]
 go_upto_region 2 with fail
 rw [←HW3.out]
 have eg1:∀ (args:Array Value) (w:World),(callFunc 172 args).run Tryz.prog w=.ok (.enter 172 args) w:=enters_of Tryz.func172 (by kernel_rfl) rfl
 go_wp2_with ((with_reducible refine kf rfl (.tmp 3) (.tmp 4) 158 rfl rfl szEach (W.heap.size+1) 0 158 _ (.func (.func 172) #[] #[.pointer (some ⟨W.heap.size,0,none⟩),.pointer (some ⟨W.heap.size+1,0,none⟩)]) #[.func (.func 172) #[] #[.pointer (some ⟨W.heap.size,0,none⟩),.pointer (some ⟨W.heap.size+1,0,none⟩)]] ?_ ?_ HBe.out ?_ ?_ ?_ ?_);exact rfl;exact rfl;exact (by decide:0 < 1);exact rfl;exact rfl;intro w4 hc4 hb4 hs4;have hn4:New W w4:=HN3.out.trans hc4 (fun k hk e=>by omega);have hy4:=HBy.out.chg hc4 (by omega);have c5:=hb4.cell 0;have c6:=(Hbp.out.chg hn4 id).cell 0;simp only [qx,qj] at c5 c6;have HCc:=qq (HC.out w4 hn4 hy4 hb4);have HN4:=qq hn4;clear hn4 hy4 hb4 hc4 hs4)
 refine HCc.out.mono ?_
 rintro e W5 (⟨rfl,hst⟩| ⟨rfl,hst⟩)
 ·have Hst:=qq hst
  clear hst
  go_wp2_with fail
  go_end0
  exact ⟨⟨_,rfl⟩,.inl (Stp.trans (HN4.out.mono fun _ _ h=>h.elim) (fun k hk=>.inl hk) Hst.out)⟩
 ·have Hst:=qq hst
  clear hst
  go_wp2_with fail
  go_end0
  obtain ⟨p',x,r,h1,h2⟩:=Hst.out
  exact ⟨⟨_,rfl⟩,.inr ⟨p',x,r,h1,Stp.trans (HN4.out.mono fun _ _ h=>h.elim) (fun k hk=>.inl hk) h2⟩⟩
def BMap (w:World) (b:Nat) (f:ByteArray→Bool):Prop:=∃ m,MapAt w b m∧∀ s,lookZ (.bool false) m s=.bool (f s)
def BMap.chg {w w':World} {b:Nat} {f:ByteArray→Bool} {T:Nat→Prop} (h:BMap w b f) (hc:Chg w w' T) (hn:¬ T b):BMap w' b f:=by
 obtain ⟨m,h1,h2⟩:=h
 exact ⟨m,h1.chg hc hn,h2⟩
def BMap.lt {w:World} {b:Nat} {f:ByteArray→Bool} (h:BMap w b f):b < w.heap.size:=by
 obtain ⟨m,⟨es,cl,h1,_⟩,_⟩:=h
 exact xf h1
def BMap.made (w:World):BMap (w.alloc (.map #[] 0)) w.heap.size (fun _=>false):=⟨[],⟨#[],0,World.alloc_heap_new w _,rfl⟩,fun s=>rfl⟩
def BMap.look {w:World} {b:Nat} {f:ByteArray→Bool} (h:BMap w b f) (s:ByteArray):(Instr.lookup 156 (.map (some b)) (.string s) false).run Tryz.prog w=.ok (.bool (f s)) w:=by
 obtain ⟨m,h1,h2⟩:=h
 rw [fj Tryz.underlying156 (z:=.bool false) (by kernel_rfl) h1 s,h2]
def BMap.put {w:World} {b:Nat} {f:ByteArray→Bool} (h:BMap w b f) (s:ByteArray):∃ w',(Instr.mapUpdate 156 (.map (some b)) (.string s) (.bool true)).run Tryz.prog w=.ok () w'∧BMap w' b (fun t=>decide (t=s)||f t)∧Chg w w' (fun k=>k=b):=by
 obtain ⟨m,h1,h2⟩:=h
 obtain ⟨w',m',h3,h4,h5,h6⟩:=mq Tryz.underlying156 h1 s (.bool true)
 refine ⟨w',h3,⟨m',h4,fun t=>?_⟩,h6⟩
 rw [h5,h2]
 by_cases ht:t=s <;> simp [ht]
def se {fn:Func} {ty:TypeId} {q4:Tmp} (hr:fn.results=#[.cell q4 ty]) (hb0:Tryz.prog.underlying ty=some .bool) {R:Ending→World→Prop} {D g:Nat} {q:Bool} {W:World} {tmps:Array Value} (hD:W.heap[D]? =some (.deferred (some []))) (hb:Blk W g ty #[.bool q]) (ht:tmps.getD q4 undef=.pointer (some ⟨g,0,none⟩))
  (h:R (.returned (.bool q)) (W.putObj D (.deferred none))):LeavesInM Fence.wide 0 Tryz.prog fn tmps R [{ target:=.collected D,args:=#[] }] .returning W:=by
 have hd:g≠D:=fun h=>by subst h;have:=Option.some.inj (hD.symm.trans hb);cases this
 have hc:Chg W (W.putObj D (.deferred none)) (fun k=>k=D):=(Chg.of_grown (grownBy_putObj' W D _)).mono fun k _ h=>by cases h;rfl
 refine ⟨by simp,.inl ⟨_,_,rfl,run_takeDeferred hD,.bool q,?_,h⟩⟩
 have hcell:=(hb.chg hc hd).cell 0
 have ha:(asAddr (.pointer (some ⟨g,0,none⟩))).run Tryz.prog (W.putObj D (.deferred none))=.ok ⟨g,0,none⟩ (W.putObj D (.deferred none)):=rfl
 have hl2:(loadVar ty ⟨g,0,none⟩).run Tryz.prog (W.putObj D (.deferred none))=.ok (.bool q) (W.putObj D (.deferred none)):=by
  have hagg:(isAgg ty).run Tryz.prog (W.putObj D (.deferred none))=.ok false (W.putObj D (.deferred none)):=by
   unfold isAgg
   rw [Sem.run_bind,run_underlying hb0 _]
   simp
  simp only [qx,qj] at hcell
  simp [loadVar,Sem.run_bind,hagg,hcell,go_sem]
 rw [ga hr,ht,ha]
 simp only [Result.andThen_ok,hl2]
def szBool:(Tryz.prog.info? 4).map (·.size)=some 1:=by kernel_rfl
def mh (w:World) (bm:Nat) (f:ByteArray→Bool) (hm:BMap w bm f) (A:Option Addr) (n c:Nat) (css:List (List Value)) (ts:List Tm) (hn:n=ts.length) (hmx:n≤1000) (hT:TmsAt w A css ts):
  Calls Tryz.prog 110 #[.map (some bm),.slice A n c] w fun e w'=>e=.returned (.bool ((varsL ts).all f))∧New w w':=by
 obtain ⟨w1,hw1⟩:=qdq ((w.alloc (.cells #[.map (some bm)] 156)).alloc (.cells #[.bool false] 4))
 have hN1:New w w1:=by rw [hw1];exact ((Chg.refl _ _).alloc _).alloc _
 have hB2:Blk w1 w.heap.size 156 #[.map (some bm)]:=by rw [hw1];exact (Blk.new w _ _).alloc _
 have hB4:Blk w1 (w.heap.size+1) 4 #[.bool false]:=by
  have:=Blk.new (w.alloc (.cells #[.map (some bm)] 156)) 4 #[.bool false]
  rw [World.size_alloc] at this
  rw [hw1]
  exact this
 have hs1:w1.heap.size=w.heap.size+2:=by rw [hw1];simp
 have HN1:=qq hN1
 have HB2:=qq hB2
 have HB4:=qq hB4
 have HW1:=qq hw1
 have HM:=qq hm
 have HT:=qq hT
 have HN:=qq hn
 have Hs1:=qq hs1
 clear hN1 hB2 hB4 hw1 hm hT hn hs1
 refine (callsIn_wide (n:=0)).1 (callsIn_of_wp_marks Tryz.func110 rfl trivial ?_ rfl)
 refine wpIn_wide.2 ?_
 simp only [Tryz.ntmps110,zl,zf,yj,Nat.reduceAdd,Nat.reduceSub,yw,yv,yt,yd,jq,js]
 go_upto_region 1 with fail
 rw [←HW1.out]
 clear HW1
 go_wp2_with (go_at_call 145;refine (tf _ A n c).mono ?_;rintro e w2 ⟨rfl,hb,hn2⟩;have HBv:=qq hb;have HN2:=qq hn2;clear hb hn2)
 have hsz2:w1.heap.size < w2.heap.size:=HBv.out.lt
 obtain ⟨b4,hb4⟩:=qdp (w.heap.size+1)
 have hb4l:b4 < w1.heap.size:=by have:=Hs1.out;omega
 rw [hb4] at HB4⊢
 have HB42:=qq (HB4.out.chg HN2.out id)
 have HB22:=qq (HB2.out.chg HN2.out id)
 have HM2:=qq ((HM.out.chg HN1.out id).chg HN2.out id)
 have HN12:=qq (HN1.out.trans HN2.out qdr)
 have hbm:bm < w.heap.size:=HM.out.lt
 have Hbm:=qq hbm
 have Hb4:=qq hb4
 clear HB4 HB2 hb4 hbm
 refine px (gf:=171) (lb:=#[.pointer (some ⟨w1.heap.size,0,none⟩)]) (enc:=encN) (xs:=varsL ts) (S:=fun k=>k=b4) rfl (enters_of Tryz.func171 (by kernel_rfl) rfl)
  (fun pre S W=>S=(fun k=>k=b4)∧pre.all f=true∧New w2 W) (fun c pre S W=>c=.ret∧S=(fun k=>k=b4)∧pre.all f=false∧Chg w2 W (fun k=>k=b4)∧Blk W b4 4 #[.bool false])
  ⟨fun h k hk=>by obtain ⟨rfl,_,h3⟩:=h;have:k=b4:=hk;have:=h3.size;omega,fun h hc=>⟨h.1,h.2.1,h.2.2.trans hc (fun k hk h=>by omega)⟩⟩
  (fun c=>⟨fun h k hk=>by obtain ⟨_,rfl,_,h3,_⟩:=h;have:k=b4:=hk;have:=h3.size;omega,fun h hc=>by
   obtain ⟨h0,rfl,h2,h3,h4⟩:=h
   exact ⟨h0,rfl,h2,h3.trans hc (fun k hk h=>by omega),h4.chg hc (fun h=>h.2 rfl)⟩⟩) ?hseq ⟨rfl,rfl,Chg.refl _ _⟩ (fun h _=>h) ?round ?done ?stop
 case hseq=>
  intro Jx hJx
  exact ov w w2 HN12.out _ (fun k hk=>by have:k=b4:=hk;have:=Hb4.out;omega) Jx _ A n c css ts HN.out hmx HT.out HBv.out (fun h=>by have:w1.heap.size=b4:=h;omega)
 case done=>
  rintro D0 S2 W2 hD hDe ⟨rfl,hall,hN⟩ hc2 hs2 hnD
  have HNx:=qq hN
  have HBd:=qq (HB42.out.chg hN id)
  have HDe:=qq hDe
  have HAll:=qq hall
  have hnD':D0≠b4:=hnD
  clear hN hDe hall hc2 hs2 hnD
  go_wp2_with ((with_reducible refine kf rfl (.tmp 4) (.const (.bool true)) 4 rfl rfl szBool b4 0 4 _ (.bool true) #[.bool true] ?_ ?_ HBd.out ?_ ?_ ?_ ?_);exact rfl;exact rfl;exact (by decide:0 < 1);exact rfl;exact rfl;intro w8 hc8 hb8 hs8;have HC8:=qq hc8;have HB8:=qq hb8;clear hc8 hb8 hs8)
  refine se (q4:=4) rfl Tryz.underlying4 ((HC8.out.block D0 (xf HDe.out) hnD').trans HDe.out) HB8.out (by rfl) ?_
  have hcp:Chg w8 (w8.putObj D0 (.deferred none)) (fun k=>k=D0):=(Chg.of_grown (grownBy_putObj' w8 D0 _)).mono fun k _ h=>by cases h;rfl
  refine ⟨by rw [HAll.out],Chg.put (((HN12.out.trans HNx.out qdr).trans HC8.out (fun k hk h=>by have:=Hb4.out;omega))) hcp (by have:=HN12.out.size;omega)⟩
 case stop=>
  rintro D0 c0 pre x rest S2 W2 hx hD hDe ⟨rfl,rfl,hall,hN,hb⟩ hc2 hs2 hnD
  have HNx:=qq hN
  have HBd:=qq hb
  have HDe:=qq hDe
  have HAll:=qq (show (varsL ts).all f=false by
   rw [hx,show pre++x::rest=(pre++[x])++rest by simp,List.all_append,hall]
   rfl)
  clear hN hb hDe hall hc2 hs2 hnD hx
  go_wp2_with fail
  refine se (q4:=4) rfl Tryz.underlying4 HDe.out HBd.out (by rfl) ?_
  have hcp:Chg W2 (W2.putObj D0 (.deferred none)) (fun k=>k=D0):=(Chg.of_grown (grownBy_putObj' W2 D0 _)).mono fun k _ h=>by cases h;rfl
  refine ⟨by rw [HAll.out],Chg.put (HN12.out.trans HNx.out (fun k hk h=>by have:=Hb4.out;omega)) hcp (by have:=HN12.out.size;omega)⟩
 case round=>
  rintro l1 pre x rest S1 v Wr hx hl1 hl2 hlr hl3 hI hsv
  obtain rfl:v=.string x:=hsv
  simp only [qk,qu,qy]
  refine wpIn_region_lit ?_
  refine xo (Wd.round l1) 1 (by rfl) ?_
  change wpList _ _ _ [_] _ _
  go_wp2_with fail
  refine wpListIn_nil ?_
  refine ⟨Chg.refl _ _,fun W2 hcW hcA rr hI2=>?_⟩
  obtain ⟨rfl,hall,hN⟩:=hI2
  have hlk:=(HM2.out.chg hN id).look x
  have e2:=(HB22.out.chg hN id).cell 0
  simp only [qx,qj] at e2
  have HBd:=qq (HB42.out.chg hN id)
  have HNx:=qq hN
  have HAll:=qq hall
  obtain ⟨q,hq⟩:=qdp (f x)
  rw [hq] at hlk
  have Hq:=qq hq
  clear hI hcW hcA rr hall hN hlr hx hq
  gi_step
  gi_step
  gi_step
  refine wpIn_region_lit ?_
  refine xo (Wd.round l1) 4 (by rfl) ?_
  change wpList _ _ _ [_,_,_,_] _ _
  cases q with
  |true=>
   go_wp2_with fail
   refine wpListIn_nil ?_
   gi_wp2
   exact ⟨_,⟨rfl,by rw [List.all_append,HAll.out];simp [Hq.out],HNx.out⟩,Chg.refl _ _,fun k hk=>.inl hk⟩
  |false=>
   go_wp2_with fail
   refine wpListIn_nil ?_
   gi_step
   gi_step
   gi_step
   gi_step
   refine wpIn_region_lit ?_
   refine xo (Wd.round l1) 1 (by rfl) ?_
   change wpList _ _ _ [_] _ _
   go_wp2_with ((with_reducible refine kf rfl (.tmp 4) (.const (.bool false)) 4 rfl rfl szBool b4 0 4 _ (.bool false) #[.bool false] ?_ ?_ HBd.out ?_ ?_ ?_ ?_);exact rfl;exact rfl;exact (by decide:0 < 1);exact rfl;exact rfl;intro w8 hc8 hb8 hs8;have HC8:=qq hc8;have HB8:=qq hb8;clear hc8 hb8 hs8)
   refine wpListIn_nil ?_
   gi_wp2
   exact ⟨_,⟨rfl,rfl,by rw [List.all_append];simp [Hq.out],(HNx.out.mono (fun _ _ h=>h.elim)).trans HC8.out (fun _ _ h=>h),HB8.out⟩,HC8.out,fun k hk=>.inl hk⟩
end Go.Proofs.YtbpgfnbhihklnaaGreat
