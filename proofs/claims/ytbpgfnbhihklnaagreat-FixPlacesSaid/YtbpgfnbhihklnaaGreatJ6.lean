/- Part 6 of what stands beneath. -/
import Derived.Test.YtbpgfnbhihklnaaGreatJ5
import Derived.BigRegion
set_option maxHeartbeats 8000000
set_option maxRecDepth 100000
set_option linter.all false
namespace Go.Proofs.YtbpgfnbhihklnaaGreat
open Go.RowKit Go.Shelf
structure Dat (w0:World) (bm:Nat) (m:List (ByteArray×Value)) (rows:List Rw):Prop where
 map:MapAt w0 bm m
 look:∀ nm,RowSl w0 (lookM m nm) (named rows nm)
 ok:∀ r∈rows,∀ v∈r.args,okW v
def qbn {w0:World} {bm:Nat} {m:List (ByteArray×Value)} {rows:List Rw} (D:Dat w0 bm m rows) (w:World) (hw0:New w0 w) (S1:Nat→Prop) (hS1:∀ k,S1 k→k < w.heap.size) (L:Lt) (A:Option Addr) (n c:Nat) (css:List (List Value)) (hn:n=L.args.length) (hts:TmsAt w0 A css L.args) (okL:okLt L) (hk:L.kind≠1)
  (s:Sta) (Ae:Option Addr) (ce:Nat) (hst:StAt s (.agg #[.slice Ae s.1.length ce,.int .i64 s.2]) S1 w) (hok:okEnv s.1) (hsz:s.1.length+L.size≤1000):
  Calls Tryz.prog 114 #[.map (some bm),.agg #[.int .i64 L.kind,.string L.name,.slice A n c],.agg #[.slice Ae s.1.length ce,.int .i64 s.2]] w (GoesPost w S1 (goesV rows L s)):=by
 match L,hn,hts,okL,hk,hsz with
 | .atom false nm ts,_,_,_,hk,_=>exact absurd rfl hk
 | .atom true nm ts,hn,hts,okL,_,hsz=>
  exact goes_not w0 w hw0 S1 bm m (named rows nm) D.map nm A n c css ts hn hts okL (D.look nm) (fun r hr=>D.ok r ((zc.1 hr).1)) s Ae ce hst hok hsz
 | .test j a b,hn,hts,okL,_,hsz=>
  have hs2:s.1.length+2≤1000:=hsz
  have hn2:n=2:=hn
  refine qcs j bm w0 w hw0 S1 hS1 A n c css [a,b] hn (by omega) hts okL s Ae ce hst hok (by omega) [evalT s.1 a,evalT s.1 b] rfl _ (fun h=>?_) hn2 (fun x y h=>?_) (fun us h u hu=>?_)
  ·unfold goesV
   cases h1:evalT s.1 a with
   |none=>simp [h1]
   |some x=>
    cases h2:evalT s.1 b with
    |none=>simp [h1,h2]
    |some y=>rw [h1,h2] at h;cases h
  ·unfold goesV
   cases h1:evalT s.1 a with
   |none=>rw [h1] at h;cases h
   |some x'=>
    cases h2:evalT s.1 b with
    |none=>rw [h1,h2] at h;cases h
    |some y'=>rw [h1,h2] at h;cases h;simp [h1,h2]
  ·cases h1:evalT s.1 a with
   |none=>rw [h1] at h;cases h
   |some x'=>
    cases h2:evalT s.1 b with
    |none=>rw [h1,h2] at h;cases h
    |some y'=>
     rw [h1,h2] at h
     cases h
     rcases qp.1 hu with rfl|hu
     ·exact pn hok (okL a (by simp [Lt.args])) h1
     ·rw [qn.1 hu];exact pn hok (okL b (by simp [Lt.args])) h2
 | .assign nm t,hn,hts,okL,_,hsz=>
  have hs2:s.1.length+1≤1000:=hsz
  have hn2:n=1:=hn
  refine ie nm bm w0 w hw0 S1 hS1 A n c css [t] hn (by omega) hts okL s Ae ce hst hok (by omega) [evalT s.1 t] rfl _ (fun h=>?_) hn2 (fun x h=>?_)
  ·unfold goesV
   cases h1:evalT s.1 t with
   |none=>simp [h1]
   |some x=>rw [h1] at h;cases h
  ·unfold goesV
   cases h1:evalT s.1 t with
   |none=>rw [h1] at h;cases h
   |some x'=>rw [h1] at h;cases h;simp [h1]
structure LtsAt (w:World) (A:Option Addr) (css:List (List Value)) (Ls:List Lt):Prop where
 len:css.length=Ls.length
 src:SrcAt w A 3 css
 at_:∀ (j:Nat) (cs:List Value) (L:Lt),css[j]? =some cs→Ls[j]? =some L→LtAt w cs L
def Fr {α β:Type} (wl:World) (S0:Nat→Prop) (J:List β→(Nat→Prop)→World→Prop) (f:List α→List β):List α→(Nat→Prop)→World→Prop:=
 fun zs S1 W1=>J (f zs) S1 W1∧(∀ k,S1 k→S0 k∨wl.heap.size≤k)∧Chg wl W1 S0
def Fr.acc {α β:Type} {wl:World} {S0:Nat→Prop} {J:List β→(Nat→Prop)→World→Prop} {f:List α→List β} {n:Nat} (hJ:Acc n J) (hn:n≤wl.heap.size):Acc wl.heap.size (Fr wl S0 J f):=
 ⟨fun h k hk=>hJ.lt h.1 k hk,fun h hc=>⟨(hJ.mono hn).chg h.1 hc,h.2.1,h.2.2.trans hc (fun k hk h=>absurd hk (Nat.not_lt.2 h.1))⟩⟩
def Fr.stp {α β:Type} {wl:World} {S0 S1:Nat→Prop} {J:List β→(Nat→Prop)→World→Prop} {f:List α→List β} {zs:List α} {W1 W2:World} (hs:∀ k,S1 k→S0 k∨wl.heap.size≤k) (hc:Chg wl W1 S0) (h:Stp J (f zs) S1 W1 W2):Stp (Fr wl S0 J f) zs S1 W1 W2:=by
 obtain ⟨S2,hj,hc2,hs2⟩:=h
 refine ⟨S2,⟨hj,fun k hk=>?_,hc.trans hc2 (fun k hk h1=>?_)⟩,hc2,hs2⟩
 ·rcases hs2 k hk with h|h
  ·exact hs k h
  ·exact .inr (qb hc.size h)
 ·rcases hs k h1 with h|h
  ·exact h
  ·omega
def Cut {β:Type} (Jx:List β→(Nat→Prop)→World→Prop):List β→(Nat→Prop)→World→Prop:=fun zs S W=>∃ p y r,zs=p++y::r∧Jx (p++[y]) S W
def Cut.acc {β:Type} {Jx:List β→(Nat→Prop)→World→Prop} {n:Nat} (h:Acc n Jx):Acc n (Cut Jx):=
 ⟨fun ⟨p,y,r,he,hj⟩=>h.lt hj,fun ⟨p,y,r,he,hj⟩ hc=>⟨p,y,r,he,h.chg hj hc⟩⟩
def RetF {α:Type} (I:List α→(Nat→Prop)→World→Prop) (c:Code):List α→(Nat→Prop)→World→Prop:=fun zs S W=>c=Code.ret∧I zs S W
def RetF.acc {α:Type} {I:List α→(Nat→Prop)→World→Prop} {n:Nat} (h:Acc n I) (c:Code):Acc n (RetF I c):=⟨fun hj=>h.lt hj.2,fun hj hc=>⟨hj.1,h.chg hj.2 hc⟩⟩
def gl {P:Program} {fn:Func} (hr:fn.results=#[]) {R:Ending→World→Prop} {D:Nat} {W:World} {tmps:Array Value} (hD:W.heap[D]? =some (.deferred (some []))) (h:∀ v,R (.returned v) (W.putObj D (.deferred none))):
  LeavesInM Fence.wide 0 P fn tmps R [{ target:=.collected D,args:=#[] }] .returning W:=
 ⟨by simp,.inl ⟨_,_,rfl,run_takeDeferred hD,_,results_none hr _ _ _,h _⟩⟩
def Fr.leave {α β:Type} {w4 W W2:World} {S' S2:Nat→Prop} {J:List β→(Nat→Prop)→World→Prop} {f:List α→List β} {xs:List α} {n D0:Nat} (hA:Acc n J) (hnw:n≤w4.heap.size) (hN:New W w4) (h:Fr w4 S' J f xs S2 W2) (hD:w4.heap.size≤D0) (hnD:¬ S2 D0) (o:Obj):
  Stp J (f xs) S' W (W2.putObj D0 o):=by
 have hc:Chg W2 (W2.putObj D0 o) (fun k=>k=D0):=(Chg.of_grown (grownBy_putObj' W2 D0 o)).mono fun k _ h=>by cases h;rfl
 obtain ⟨h1,h2,h3⟩:=h
 refine ⟨S2,hA.chg h1 (hc.mono fun k _ h=>by subst h;exact ⟨qb hnw hD,hnD⟩),?_,fun k hk=>?_⟩
 ·exact ((hN.mono (T':=S') fun k _ h=>h.elim).trans h3 (fun k _ h=>h)).put hc (qb hN.size hD)
 ·rcases h2 k hk with h|h
  ·exact .inl h
  ·exact .inr (qb hN.size h)
def StAt.rec {x:Sta} {v:Value} {S:Nat→Prop} {W W':World} {l:Nat} (h:StAt x v S W) (hl:∃ r,W.heap[l]? =some (.loop r)) (hc:Chg W W' (fun k=>k=l)):StAt x v S W':=by
 obtain ⟨A,c,h1,h2,h3,h4,h5⟩:=h
 obtain ⟨r,hr⟩:=hl
 refine ⟨A,c,h1,h2,h3,fun hp=>?_,fun a ha=>⟨zd (h5 a ha).1 hc.size,(h5 a ha).2⟩⟩
 obtain ⟨a,ha,hrw⟩:=h4 hp
 refine ⟨a,ha,hrw.chg hc (fun e=>?_)⟩
 obtain ⟨cs,hcs⟩:∃ cs,(x.1.map bcs)[0]? =some cs:=⟨_,qz hp⟩
 obtain ⟨hlen,hat⟩:=hrw 0 cs hcs
 obtain ⟨u,hu⟩:∃ u,cs[0]? =some u:=⟨_,qz (by omega)⟩
 have hce:=hat 0 u hu
 have hb:((a.add (0 * 5)).add 0).block=l:=by rw [xr,xr];exact e
 unfold World.cell? at hce
 rw [hb,hr] at hce
 cases hce
def pt (w:World) (bm:Nat) (A:Option Addr) (n c:Nat) (s1 s2:Value):Calls Tryz.prog 74 #[.map (some bm),.slice A n c,.agg #[s1,s2]] w fun e w'=>
  e=.returned (.func (.func 111) #[] #[.pointer (some ⟨w.heap.size+1,0,none⟩),.pointer (some ⟨w.heap.size+1+1,0,none⟩),.pointer (some ⟨w.heap.size,0,none⟩)])∧
  New w w'∧w'.cell? ⟨w.heap.size,0,none⟩=some (.map (some bm))∧w'.cell? ⟨w.heap.size+1,0,none⟩=some (.slice A n c)∧At w' ⟨w.heap.size+1+1,0,none⟩ [s1,s2]∧w'.heap.size=w.heap.size+3:=by
 go_enter Tryz.func74,Tryz.ntmps74
 go_wp2_with fail
 go_ret
 obtain ⟨hN,b1,b2,b3,hs⟩:=aj w #[.map (some bm)] #[.slice A n c] #[s1,s2] 117 45 123 _ rfl
 exact ⟨rfl,hN,b1.cell 0,b2.cell 0,Blk.at_ b3,hs⟩
def WaysOk (w0:World) (bm:Nat) (m:List (ByteArray×Value)) (rows:List Rw) (Ls:List Lt):Prop:=
 ∀ (w:World) (hw0:New w0 w) (S:Nat→Prop) (hS0:∀ k,S k→w0.heap.size≤k) (Jx:List Sta→(Nat→Prop)→World→Prop) (hJx:Acc w.heap.size Jx) (p1 p2 p3:Nat) (A:Option Addr) (n c:Nat) (css:List (List Value)) (h1:w.cell? ⟨p1,0,none⟩=some (.slice A n c)) (n1:¬ S p1)
  (hn:n=Ls.length) (hnc:n≤c) (hcm:c≤maxLen) (hLs:LtsAt w0 A css Ls) (s:Sta) (Ae:Option Addr) (ce:Nat) (h2:At w ⟨p2,0,none⟩ [.slice Ae s.1.length ce,.int .i64 s.2]) (n2:¬ S p2) (hst:StAt s (.agg #[.slice Ae s.1.length ce,.int .i64 s.2]) S w) (hok:okEnv s.1)
  (h3:w.cell? ⟨p3,0,none⟩=some (.map (some bm))) (n3:¬ S p3) (hsz:s.1.length+(Ls.map Lt.size).sum≤1000),
  ItGives Tryz.prog 111 #[.pointer (some ⟨p1,0,none⟩),.pointer (some ⟨p2,0,none⟩),.pointer (some ⟨p3,0,none⟩)] StAt (waysV rows Ls s) S w Jx
def ways_nil (w0:World) (bm:Nat) (m:List (ByteArray×Value)) (rows:List Rw):WaysOk w0 bm m rows []:=by
 intro w hw0 S hS0 Jx hJx p1 p2 p3 A n c css h1 n1 hn hnc hcm hLs s Ae ce h2 n2 hst hok h3 n3 hsz l J S' W hA hJ hc hS hy
 obtain rfl:n=0:=hn
 have c1:=hc.cellS h1 n1
 have C2:=qq (h2.chg hc n2)
 have hst':=hst.chg hc hS
 have hb4:=(Chg.refl W (fun _=>False)).alloc (.cells #[.func (.yield l) #[] #[]] 159)
 have hyl:=hy [] s [] S' _ _ rfl (hA.chg hJ (hb4.mono fun _ _ h=>h.elim)) (hst'.new hb4)
 have HYl:=qq hyl
 have HB4:=qq hb4
 have c1':=hb4.cellS c1 id
 have c2':=C2.out.chg hb4 id
 have HC2:=qq c2'
 obtain ⟨w1,hw1⟩:=qdq (W.alloc (.cells #[.func (.yield l) #[] #[]] 159))
 have c4:w1.cell? ⟨W.heap.size,0,none⟩=some (.func (.yield l) #[] #[]):=by rw [hw1];exact (Blk.new W _ _).cell 0
 rw [←hw1] at HYl HB4 HC2 c1'
 have HW:=qq hw1
 clear hst hst' hy hA hJ hyl hb4 c1 c2' hw1 h2 C2 hLs h1 h3
 refine callsIn_of_wp Tryz.func111 rfl trivial ?_ rfl
 refine wpIn_wide.2 ?_
 simp only [Tryz.ntmps111,zl,zf,yj,Nat.reduceAdd,Nat.reduceSub,yw,yv,yt,yd,jq,js]
 go_upto_region 1 with fail
 rw [←HW.out]
 go_upto_region 2 with fail
 refine (wpIn_wide (n:=0)).1 ?_
 refine wpIn_region_lit ?_
 refine xo Wd.wide 2 (by rfl) ?_
 change wpList _ _ _ [_,_] _ _
 go_wp2_with ((with_reducible refine vq rfl (.tmp 2) 123 rfl xb ⟨p2,0,none⟩ [.slice Ae s.1.length ce,.int .i64 s.2] ?_ rfl HC2.out ?_);exact rfl)
 refine gr Wd.wide rfl (.tmp 13) (.tmp 14) 123 rfl rfl rfl HYl.out ?_
 rintro b W2 hb
 have hbt:b=true→Stp J ([]++[s]) S' w1 W2:=fun h=>by rw [if_pos h] at hb;exact hb
 have hbf:b=false→Stp Jx ([]++[s]) S' w1 W2:=fun h=>by rw [if_neg (by rw [h];exact jp)] at hb;exact hb
 have HBt:=qq hbt
 have HBf:=qq hbf
 clear hbt hbf hb HYl
 refine wpListIn_nil ?_
 go_wp2_with fail
 refine bodyPost_ret (results_none rfl _ _ _) rfl ?_
 refine ⟨⟨_,rfl⟩,?_⟩
 cases b with
 |true=>exact .inl (Stp.trans (HB4.out.mono fun _ _ h=>h.elim) (fun k hk=>.inl hk) (HBt.out rfl))
 |false=>exact .inr ⟨[],s,[],rfl,Stp.trans (HB4.out.mono fun _ _ h=>h.elim) (fun k hk=>.inl hk) (HBf.out rfl)⟩
def qcv {ts:List Tm} {vs:List Vl} {env e:Env} (h:matchV ts vs env=some e) (hok:okEnv env) (hv:∀ v∈vs,okW v):okEnv e∧e.length≤env.length+ts.length:=by
 unfold matchV at h
 split at h
 ·split at h
  ·cases h
   exact ⟨bi hok hv _,ly _ _ _ _⟩
  ·cases h
 ·cases h
def lw {rows:List Rw} (hr:∀ r∈rows,∀ v∈r.args,okW v) {L:Lt} (hL:okLt L) {s x:Sta} (hok:okEnv s.1) (hx:x∈nextV rows L s):okEnv x.1∧x.1.length≤s.1.length+L.size:=by
 have hgo:∀ x,goesV rows L s=some x→okEnv x.1∧x.1.length≤s.1.length+L.size:=by
  intro x hx
  match L,hL,hx with
  | .atom b nm ts,hL,hx=>
   unfold goesV at hx
   dsimp only at hx
   split at hx
   ·cases hx;exact ⟨hok,by omega⟩
   ·cases hx
  | .test j a b,hL,hx=>
   unfold goesV at hx
   dsimp only at hx
   split at hx
   ·split at hx
    ·cases hx;exact ⟨hok,by omega⟩
    ·cases hx
   ·cases hx
  | .assign nm t,hL,hx=>
   unfold goesV at hx
   dsimp only at hx
   cases h1:evalT s.1 t with
   |none=>rw [h1] at hx;cases hx
   |some v=>
    rw [h1] at hx
    dsimp only at hx
    split at hx
    ·cases hx
    ·cases hx
     refine ⟨fun p hp=>?_,by simp [Lt.size,Lt.args]⟩
     rcases zk.1 hp with hp|hp
     ·exact hok p hp
     ·rw [qn.1 hp];exact pn hok (hL t (by simp [Lt.args])) h1
 match L,hL,hx,hgo with
 | .atom false nm ts,hL,hx,_=>
  obtain ⟨r,hr1,hr2⟩:=zr.1 (show x∈(named rows nm).filterMap (atomS ts s) from hx)
  unfold atomS at hr2
  cases hm:matchV ts r.args s.1 with
  |none=>rw [hm] at hr2;cases hr2
  |some e=>
   rw [hm] at hr2
   cases hr2
   exact qcv hm hok (hr r (zc.1 hr1).1)
 | .atom true nm ts,hL,hx,hgo=>exact hgo x (by simpa [nextV] using hx)
 | .test j a b,hL,hx,hgo=>exact hgo x (by simpa [nextV] using hx)
 | .assign nm t,hL,hx,hgo=>exact hgo x (by simpa [nextV] using hx)
def qcw {w0:World} {bm:Nat} {m:List (ByteArray×Value)} {rows:List Rw} (D:Dat w0 bm m rows) (L:Lt) (Ls:List Lt) (okL:okLt L) (ih:WaysOk w0 bm m rows Ls):WaysOk w0 bm m rows (L::Ls):=by
 intro w hw0 S hS0 Jx hJx p1 p2 p3 A n c css h1 n1 hn hnc hcm hLs s Ae ce h2 n2 hst hok h3 n3 hsz l J S' W hA hJ hc hS hy
 have hS0':∀ k,S' k→w0.heap.size≤k:=fun k hk=>by
  rcases hS k hk with h|h
  ·exact hS0 k h
  ·exact qb hw0.size h
 have hN0:New w0 W:=hw0.trans hc (fun k hk h=>by have:=hS0 k h;omega)
 have l1:p1 < w.heap.size:=World.block_lt_of_cell? w _ h1
 have l2:p2 < w.heap.size:=World.block_lt_of_cell? w _ (h2 0 _ rfl)
 have l3:p3 < w.heap.size:=World.block_lt_of_cell? w _ h3
 have n1':¬ S' p1:=fun h=>by rcases hS _ h with h|h;exact n1 h;omega
 have n2':¬ S' p2:=fun h=>by rcases hS _ h with h|h;exact n2 h;omega
 have n3':¬ S' p3:=fun h=>by rcases hS _ h with h|h;exact n3 h;omega
 have hst':=hst.chg hc hS
 have c1:=hc.cellS h1 n1
 have c2:=h2.chg hc n2
 have c3:=hc.cellS h3 n3
 obtain ⟨Sz,hSz⟩:=qdp ((Ls.map Lt.size).sum)
 have hsz':s.1.length+L.size+Sz≤1000:=by
  rw [←hSz];simp only [yi,List.sum_cons] at hsz;omega
 obtain ⟨ad,rfl,hrw⟩:=hLs.src (by rw [hLs.len];simp)
 obtain ⟨cs0,hcs0⟩:∃ cs,css[0]? =some cs:=⟨_,qz (by rw [hLs.len];simp)⟩
 obtain ⟨Aa,ca,csa,hcsv,htsa⟩:=hLs.at_ 0 cs0 L hcs0 rfl
 have hcell:=((hrw 0 cs0 hcs0).2.chg hN0 id)
 rw [yo] at hcell
 subst hcsv
 have hrest:LtsAt w0 (if c=1 then some ad else some (ad.add (1 * 3))) (css.drop 1) Ls:=by
  refine ⟨by rw [zw,hLs.len];simp,SrcAt.drop hLs.src (by rw [hLs.len];simp) (by rw [hLs.len];simpa [hn] using hnc),fun j cs L' hj hL'=>hLs.at_ (j+1) cs L' ?_ ?_⟩
  ·rw [jb] at hj
   rwa [Nat.add_comm] at hj
  ·simpa using hL'
 obtain ⟨w1,hw1⟩:=qdq (W.alloc (.cells #[.func (.yield l) #[] #[]] 159))
 have hn1:New W w1:=by rw [hw1];exact (Chg.refl _ _).alloc _
 have b4:Blk w1 W.heap.size 159 #[.func (.yield l) #[] #[]]:=by rw [hw1];exact Blk.new W _ _
 have d1:=hn1.cellS c1 id
 have e0:=hn1.cellS (hcell 0 _ rfl) id
 have e1:=hn1.cellS (hcell 1 _ rfl) id
 have e2:=hn1.cellS (hcell 2 _ rfl) id
 have f0:w1.cell? ad=some (.int .i64 L.kind):=by
  have:ad.add 0=ad:=by unfold Addr.add;simp
  rwa [this] at e0
 have f1:w1.cell? ⟨ad.block,ad.off+1,none⟩=some (.string L.name):=by rwa [gk] at e1
 have f2:w1.cell? ⟨ad.block,ad.off+2,none⟩=some (.slice Aa L.args.length ca):=by rwa [gk] at e2
 have al:∀ {a:Addr} {v:Value},w1.cell? a=some v→(∀ o,(w1.alloc o).cell? a=some v)∧∀ o o',((w1.alloc o).alloc o').cell? a=some v:=fun h=>⟨fun o=>((Chg.refl w1 (fun _=>False)).alloc o).cellS h id,fun o o'=>(((Chg.refl w1 (fun _=>False)).alloc o).alloc o').cellS h id⟩
 obtain ⟨d1a,d1b⟩:=al d1
 obtain ⟨f0a,f0b⟩:=al f0
 obtain ⟨f1a,f1b⟩:=al f1
 obtain ⟨f2a,f2b⟩:=al f2
 have hp1:p1 < w1.heap.size:=World.block_lt_of_cell? w1 _ d1
 have hpa:ad.block < w1.heap.size:=World.block_lt_of_cell? w1 _ f0
 have np1:p1≠w1.heap.size:=by omega
 have np2:p1≠w1.heap.size+1:=by omega
 have np3:w1.heap.size≠p1:=by omega
 have np4:w1.heap.size+1≠p1:=by omega
 clear al e0 e1 e2
 have hy4:∀ (pre:List Sta) (x:Sta) (rest:List Sta) (S1:Nat→Prop) (v:Value) (W1:World),waysV rows (L::Ls) s=pre++x::rest→J pre S1 W1→StAt x v S1 W1→Yld Tryz.prog l v W1 fun b W2=>if b=true then Stp J (pre++[x]) S1 W1 W2 else Stp Jx (pre++[x]) S1 W1 W2:=hy
 have HY:=qq hy4
 have HA:=qq hA
 have HJx:=qq hJx
 have HJ:=qq hJ
 have HSt:=qq hst'
 have HN0:=qq hN0
 have HS0:=qq hS0'
 have HN1:=qq hn1
 have HB4:=qq b4
 have HC2:=qq c2
 have HC3:=qq c3
 have HTs:=qq htsa
 have HRest:=qq hrest
 have Hn:=qq hn
 have HSz:=qq hSz
 have Hok:=qq hok
 have HW:=qq hw1
 have HD:=qq D
 have HIh:=qq ih
 have HSS:=qq hS
 have HHc:=qq hc
 have hnp:0 < n:=by rw [hn];simp
 have q1:((n:Int) == 0)=false:=by simp;omega
 have q2:(0:Int) < (n:Int):=by omega
 clear hy hy4 hA hJx hJ hst' hN0 hS0' hn1 c2 htsa hrest hn hSz hok hw1 D ih hLs hst h1 h2 h3 hrw hcs0 c1 c3 hS hsz hw0 hS0 hcell hc b4
 refine callsIn_of_wp_marks Tryz.func111 rfl trivial ?_ rfl
 refine wpIn_wide.2 ?_
 simp only [Tryz.ntmps111,zl,zf,yj,Nat.reduceAdd,Nat.reduceSub,yw,yv,yt,yd,jq,js]
 go_upto_region 1 with fail
 rw [←HW.out]
 go_upto_region 3 with fail
 obtain ⟨A',hA'⟩:=qdp ((if c=1 then some ad else some (⟨ad.block,ad.off+3,none⟩:Addr)))
 have hrest2:LtsAt w0 A' (css.drop 1) Ls:=by
  have:=HRest.out
  rw [show ad.add (1 * 3)=(⟨ad.block,ad.off+3,none⟩:Addr) from gk ad 2,hA'] at this
  exact this
 have HRest2:=qq hrest2
 have HA':=qq hA'
 clear hrest2 hA' HRest
 go_region
 ·rw [HA'.out]
  have hfn:Blk ((w1.alloc (.cells #[.int .i64 L.kind,.string L.name,.slice Aa L.args.length ca] 53)).alloc (.cells #[.slice A' (n - 1) (c - 1)] 45)) (w1.heap.size) 53 #[.int .i64 L.kind,.string L.name,.slice Aa L.args.length ca]∧Blk ((w1.alloc (.cells #[.int .i64 L.kind,.string L.name,.slice Aa L.args.length ca] 53)).alloc (.cells #[.slice A' (n - 1) (c - 1)] 45)) (w1.heap.size+1) 45 #[.slice A' (n - 1) (c - 1)]:=by
   have k1:=(Blk.new w1 _ _).alloc (w:=w1.alloc (.cells #[.int .i64 L.kind,.string L.name,.slice Aa L.args.length ca] 53)) (.cells #[.slice A' (n - 1) (c - 1)] 45)
   have k2:=Blk.new (w1.alloc (.cells #[.int .i64 L.kind,.string L.name,.slice Aa L.args.length ca] 53)) 45 #[.slice A' (n - 1) (c - 1)]
   rw [World.size_alloc] at k2
   exact ⟨k1,k2⟩
  have hn3:New w1 ((w1.alloc (.cells #[.int .i64 L.kind,.string L.name,.slice Aa L.args.length ca] 53)).alloc (.cells #[.slice A' (n - 1) (c - 1)] 45)).drew:=(((Chg.refl _ _).alloc _).alloc _).drew
  obtain ⟨b5,b6⟩:=hfn
  have B5:=qq (show Blk ((w1.alloc (.cells #[.int .i64 L.kind,.string L.name,.slice Aa L.args.length ca] 53)).alloc (.cells #[.slice A' (n - 1) (c - 1)] 45)).drew _ _ _ from b5)
  have B6:=qq (show Blk ((w1.alloc (.cells #[.int .i64 L.kind,.string L.name,.slice Aa L.args.length ca] 53)).alloc (.cells #[.slice A' (n - 1) (c - 1)] 45)).drew _ _ _ from b6)
  have HN3:=qq hn3
  clear b5 b6 hn3
  generalize ((w1.alloc (.cells #[.int .i64 L.kind,.string L.name,.slice Aa L.args.length ca] 53)).alloc (.cells #[.slice A' (n - 1) (c - 1)] 45)).drew=w3 at B5 B6 HN3⊢
  obtain ⟨b5,hb5⟩:=qdp (w1.heap.size)
  obtain ⟨b6,hb6⟩:=qdp (w1.heap.size+1)
  rw [hb6,hb5]
  rw [hb5] at B5
  rw [hb6] at B6
  have HZ5:=qq hb5
  have HZ6:=qq hb6
  clear hb5 hb6
  have c1:=HN3.out.cellS d1 id
  have c3:=(HN1.out.trans HN3.out qdr).cellS HC3.out id
  have HC23:=qq (HC2.out.chg (HN1.out.trans HN3.out qdr) id)
  clear d1a d1b f0a f0b f1a f1b f2a f2b f0 f1 f2 d1
  go_upto_region 5 with first
   | ((with_reducible refine vq rfl (.tmp 5) 53 rfl gn ⟨b5,0,none⟩ [.int .i64 L.kind,.string L.name,.slice Aa L.args.length ca] ?_ rfl B5.out.at_ ?_);exact rfl)
   | ((with_reducible refine vq rfl (.tmp 2) 123 rfl xb ⟨p2,0,none⟩ [.slice Ae s.1.length ce,.int .i64 s.2] ?_ rfl HC23.out ?_);exact rfl)
   | (go_at_call 112;refine (ft _ _ _ _ _ _ _).mono ?_;rintro e w4 ⟨rfl,hN4,k1,k2,k3,k4⟩;have HN34:=qq hN4;have K1:=qq k1;have K2:=qq k2;have K3:=qq k3;have K4:=qq k4;have c50:=(B5.out.chg hN4 id).cell 0;simp only [qx,qj] at c50;clear hN4 k1 k2 k3 k4)
  have HN4:=qq ((HN1.out.trans HN3.out qdr).trans HN34.out qdr)
  have HLw:=qq (show w.heap.size≤w4.heap.size from qb HHc.out.size HN4.out.size)
  have B54:=qq (B5.out.chg HN34.out id)
  have B64:=qq (B6.out.chg HN34.out id)
  have C44:=qq ((HB4.out.chg (HN3.out.trans HN34.out qdr) id).cell 0)
  have C24:=qq (HC23.out.chg HN34.out id)
  have C34:=qq (HN34.out.cellS c3 id)
  clear c1 c3
  by_cases hk:L.kind=1
  ·have e1:(L.kind == 1)=true:=by simpa using hk
   go_wp2_with fail
   refine px (gf:=146) (lb:=#[.pointer (some ⟨w3.heap.size,0,none⟩),.pointer (some ⟨w3.heap.size+1,0,none⟩),.pointer (some ⟨w3.heap.size+1+1,0,none⟩)]) (enc:=StAt) (xs:=nextV rows L s) (S:=S') rfl (enters_of Tryz.func146 (by kernel_rfl) rfl)
    (Fr w4 S' J (fun zs=>zs.flatMap (waysV rows Ls))) (RetF (Fr w4 S' (Cut Jx) (fun zs=>zs.flatMap (waysV rows Ls)))) (Fr.acc HA.out HLw.out) (fun c=>RetF.acc (Fr.acc (Cut.acc HJx.out) HLw.out) c) ?hseq ⟨HA.out.chg HJ.out (HN4.out.mono fun _ _ h=>h.elim),fun k hk=>.inl hk,Chg.refl _ _⟩ (fun h hs=>h.less hs) ?round ?done ?stop
   case hseq=>
    intro Jx' hJx'
    obtain ⟨nm,ts,rfl⟩:∃ nm ts,L=.atom false nm ts:=by
     match L,hk with
     | .atom false nm ts,_=>exact ⟨nm,ts,rfl⟩
     | .atom true nm ts,hk=>exact absurd (show (2:Int)=1 from hk) (by decide)
     | .test j a b,hk=>exact absurd (show (3:Int)=1 from hk) (by decide)
     | .assign nm t,hk=>exact absurd (show (4:Int)=1 from hk) (by decide)
    have hns:∀ k,w3.heap.size≤k→¬ S' k:=fun k hk' h=>by
     have:=HA.out.lt HJ.out k h
     have:=(HN1.out.trans HN3.out qdr).size
     omega
    have hs2:s.1.length+ts.length≤1000:=by have:(Lt.atom false nm ts).size=ts.length:=rfl;omega
    exact g49 w0 w4 (HN0.out.trans HN4.out qdr) S' HS0.out Jx' _ _ _ bm m (named rows nm) K1.out (hns _ (qh _)) HD.out.map 1 nm Aa ts.length ca csa ts K2.out (hns _ (by omega)) rfl HTs.out okL (HD.out.look nm) (fun r hr=>HD.out.ok r (zc.1 hr).1) s Ae ce K3.out (hns _ (by omega)) (HSt.out.new HN4.out) Hok.out hs2
   case done=>
    rintro D0 S2 W2 hD hDe hI hc2 hs2 hnD
    go_wp2_with fail
    exact gl rfl hDe (fun v=>⟨⟨v,rfl⟩,.inl (Fr.leave (f:=fun zs=>zs.flatMap (waysV rows Ls)) HA.out HLw.out HN4.out hI hD hnD _)⟩)
   case stop=>
    rintro D0 c0 pre x rest S2 W2 hx hD hDe ⟨rfl,hI⟩ hc2 hs2 hnD
    go_wp2_with fail
    refine gl rfl hDe (fun v=>⟨⟨v,rfl⟩,.inr ?_⟩)
    obtain ⟨S3,⟨p,y,r,he,hj⟩,hc3,hs3⟩:=Fr.leave (f:=fun zs=>zs.flatMap (waysV rows Ls)) (Cut.acc HJx.out) HLw.out HN4.out hI hD hnD (.deferred none)
    refine ⟨p,y,r++rest.flatMap (waysV rows Ls),?_,S3,hj,hc3,hs3⟩
    have h1:waysV rows (L::Ls) s=(nextV rows L s).flatMap (waysV rows Ls):=rfl
    rw [h1,hx,show pre++x::rest=(pre++[x])++rest by simp,zp,he]
    simp
   case round=>
    rintro l1 pre x rest S1 v Wr hx hl1 hl2 hlr hl3 hI hsv
    obtain ⟨Ax,cx,rfl⟩:=hsv.cells
    have hokx:=lw HD.out.ok okL Hok.out (show x∈nextV rows L s by rw [hx];simp)
    have Hsv:=qq hsv
    have HLr:=qq hlr
    have HOkx:=qq hokx
    have HX:=qq hx
    clear hsv hlr hokx hx hI
    simp only [qk,qu,qy]
    refine wpIn_region_lit ?_
    refine xo (Wd.round l1) 2 (by rfl) ?_
    change wpList _ _ _ [_,_] _ _
    go_wp2_with ((with_reducible refine xx rfl rfl 8 (.tmp 30) 123 rfl rfl rfl rfl xb th [.slice Ax x.1.length cx,.int .i64 x.2] ?_ ?_ rfl (gu _ _ _ _) ?_);exact (by decide:8 < 40);exact rfl;intro w5 hc5 hb5 hs5;have HC5:=qq hc5;have HB8:=qq hb5;clear hc5 hb5 hs5)
    refine wpListIn_nil ?_
    refine ⟨HC5.out,fun W2 hcW hcA hr hI2=>?_⟩
    have HB8b:=qq (HB8.out.chg hcA (fun h=>by omega))
    have HSx:=qq (Hsv.out.rec HLr.out hcW)
    have HI2:=qq hI2
    have hn8:New w0 W2:=(HN0.out.trans HN4.out qdr).trans hI2.2.2 (fun k hk h=>by have:=HS0.out k h;omega)
    have HN8:=qq hn8
    have hb6n:¬ S' b6:=fun h=>by
     have:=HA.out.lt HJ.out _ h
     have:=HZ6.out
     have:=HN1.out.size
     omega
    have g3:=hI2.2.2.cellS C34.out n3'
    have g6:=(B64.out.chg hI2.2.2 hb6n).cell 0
    simp only [qx,qj] at g6
    have HR:=qq hr
    obtain ⟨b8,hb8⟩:=qdp (Wr.heap.size)
    rw [hb8] at HB8b⊢
    clear hcW hcA hr hI2 hn8 HB8 HC5 hb6n
    gi_step
    gi_step
    gi_step
    refine wpIn_region_lit ?_
    refine xo (Wd.round l1) 4 (by rfl) ?_
    change wpList _ _ _ [_,_,_,_] _ _
    go_wp2_with first
     | ((with_reducible refine vq rfl (.tmp 8) 123 rfl xb ⟨b8,0,none⟩ [.slice Ax x.1.length cx,.int .i64 x.2] ?_ rfl HB8b.out.at_ ?_);exact rfl)
     | (go_at_call 74;refine (pt _ _ _ _ _ _ _).mono ?_;rintro e W3 ⟨rfl,hN33,k1,k2,k3,k4⟩;have HN33:=qq hN33;have J1:=qq k1;have J2:=qq k2;have J3:=qq k3;have J4:=qq k4;clear hN33 k1 k2 k3 k4 g3 g6)
    refine wpListIn_nil ?_
    gi_wp2
    have hS1W:∀ k,S1 k→k < W2.heap.size:=fun k hk=>HA.out.lt HI2.out.1 k hk
    have hS1n:∀ k,W2.heap.size≤k→¬ S1 k:=fun k hk h=>by have:=hS1W k h;omega
    have hwW:w.heap.size≤W3.heap.size:=qb HLw.out (qb HI2.out.2.2.size HN33.out.size)
    have hS10:∀ k,S1 k→w0.heap.size≤k:=fun k hk=>by
     rcases HI2.out.2.1 k hk with h|h
     ·exact HS0.out k h
     ·have:=HN0.out.size;have:=HN4.out.size;omega
    have hlen1:n - 1=Ls.length:=by rw [Hn.out];simp
    have HS1n:=qq hS1n
    have HwW:=qq hwW
    have hseq2:∀ Jx',Acc W3.heap.size Jx'→ItGives Tryz.prog 111 #[.pointer (some ⟨W2.heap.size+1,0,none⟩),.pointer (some ⟨W2.heap.size+1+1,0,none⟩),.pointer (some ⟨W2.heap.size,0,none⟩)] StAt (waysV rows Ls x) S1 W3 Jx':=fun Jx' hJx'=>
     HIh.out W3 (HN8.out.trans HN33.out qdr) S1 hS10 Jx' hJx' _ _ _ A' (n - 1) (c - 1) (css.drop 1) J2.out (hS1n _ (by omega)) hlen1 (by omega) (by unfold maxLen at hcm⊢;omega) HRest2.out x Ax cx J3.out (hS1n _ (by omega)) (HSx.out.new HN33.out) HOkx.out.1 J1.out (hS1n _ (qh _)) (by rw [HSz.out];have:=HOkx.out.2;omega)
    have HSeq2:=qq hseq2
    have hr3:∃ r,W3.heap[l1]? =some (.loop r):=by
     obtain ⟨r,hr⟩:=HR.out
     exact ⟨r,(HN33.out.block l1 (xf hr) id).trans hr⟩
    have hj0:J (pre.flatMap (waysV rows Ls)++[]) S1 W3:=by rw [jr];exact HA.out.chg HI2.out.1 (HN33.out.mono fun _ _ h=>h.elim)
    have HJ0:=qq hj0
    clear hS1W hS1n hwW hS10 hseq2 hj0 J1 J2 J3
    refine dj (gf:=111) (lb:=#[.pointer (some ⟨W2.heap.size+1,0,none⟩),.pointer (some ⟨W2.heap.size+1+1,0,none⟩),.pointer (some ⟨W2.heap.size,0,none⟩)]) (enc:=StAt) (xs:=waysV rows Ls x) (S:=S1) hr3 rfl (enters_of Tryz.func111 (by kernel_rfl) rfl)
     (Fr W3 S1 J (fun zs=>pre.flatMap (waysV rows Ls)++zs)) (RetF (Fr W3 S1 Jx (fun zs=>pre.flatMap (waysV rows Ls)++zs))) (Fr.acc HA.out HwW.out) (fun c=>RetF.acc (Fr.acc HJx.out HwW.out) c) HSeq2.out ⟨HJ0.out,fun k hk=>.inl hk,Chg.refl _ _⟩ (fun h hs=>h.less hs) ?round2 ?done2 ?stop2
    case done2=>
     rintro S3 W7 hI3 hc3 hs3
     gi_wp2
     refine Fr.stp (f:=fun zs=>zs.flatMap (waysV rows Ls)) HI2.out.2.1 HI2.out.2.2 ⟨S3,?_,(HN33.out.mono fun _ _ h=>h.elim).trans hc3 (fun k _ h=>h),fun k hk=>?_⟩
     ·have:=hI3.1
      rw [zp]
      simpa using this
     ·rcases hs3 k hk with h|h
      ·exact .inl h
      ·exact .inr (qb HN33.out.size h)
    case stop2=>
     rintro c0 pre2 y rest2 S3 W7 hx2 ⟨rfl,hI3⟩ hc3 hs3
     gi_wp2
     have hst3:Stp (Cut Jx) ((pre++[x]).flatMap (waysV rows Ls)) S1 W2 W7:=by
      refine ⟨S3,⟨pre.flatMap (waysV rows Ls)++pre2,y,rest2,?_,?_⟩,(HN33.out.mono fun _ _ h=>h.elim).trans hc3 (fun k _ h=>h),fun k hk=>?_⟩
      ·rw [zp,qo, ←hx2]
       simp
      ·have:=hI3.1
       rwa [qo]
      ·rcases hs3 k hk with h|h
       ·exact .inl h
       ·exact .inr (qb HN33.out.size h)
     obtain ⟨S4,hf,hc4,hs4⟩:=Fr.stp (f:=fun zs=>zs.flatMap (waysV rows Ls)) HI2.out.2.1 HI2.out.2.2 hst3
     exact ⟨S4,⟨rfl,hf⟩,hc4,hs4⟩
    case round2=>
     rintro l2' pre2 y rest2 S2 v2 Wq hx2 hm1 hm2 hmr hm3 hI3 hsv2
     obtain ⟨Ay,cy,rfl⟩:=hsv2.cells
     have Hsv2:=qq hsv2
     have HLr2:=qq hmr
     have HX2:=qq hx2
     clear hsv2 hmr hx2 hI3
     simp only [qk,qu,qy]
     refine wpIn_region_lit ?_
     refine xo (Wd.round l2') 2 (by rfl) ?_
     change wpList _ _ _ [_,_] _ _
     go_wp2_with ((with_reducible refine xx rfl rfl 9 (.tmp 35) 123 rfl rfl rfl rfl xb th [.slice Ay y.1.length cy,.int .i64 y.2] ?_ ?_ rfl (gu _ _ _ _) ?_);exact (by decide:9 < 40);exact rfl;intro w5 hc5 hb5 hs5;have HC5:=qq hc5;have HB9:=qq hb5;clear hc5 hb5 hs5)
     refine wpListIn_nil ?_
     refine ⟨HC5.out,fun W6 hcW hcA hr2 hI6=>?_⟩
     have HB9b:=qq (HB9.out.chg hcA (fun h=>by omega))
     have hsy:=Hsv2.out.rec HLr2.out hcW
     have hb4n:¬ S1 W.heap.size:=fun h=>by
      rcases HI2.out.2.1 _ h with h|h
      ·have:=HA.out.lt HJ.out _ h;omega
      ·have:=HB4.out.lt;have:=HN3.out.size;have:=HN34.out.size;omega
     have hb4m:¬ S' W.heap.size:=fun h=>by have:=HA.out.lt HJ.out _ h;omega
     have g4:W6.cell? ⟨W.heap.size,0,none⟩=some (.func (.yield l) #[] #[]):=hI6.2.2.cellS (HN33.out.cellS (HI2.out.2.2.cellS C44.out hb4m) id) hb4n
     have hyl:=HY.out (pre.flatMap (waysV rows Ls)++pre2) y (rest2++rest.flatMap (waysV rows Ls)) S2 _ W6 (by
      have h1:waysV rows (L::Ls) s=(nextV rows L s).flatMap (waysV rows Ls):=rfl
      rw [h1,HX.out,zp,ul,HX2.out]
      simp) hI6.1 hsy
     have HYl:=qq hyl
     have HI6:=qq hI6
     obtain ⟨b9,hb9⟩:=qdp (Wq.heap.size)
     rw [hb9] at HB9b⊢
     clear hcW hcA hr2 hI6 hsy hyl HB9 HC5 hb4n hb4m
     gi_step
     gi_step
     gi_step
     refine wpIn_region_lit ?_
     refine xo (Wd.round l2') 2 (by rfl) ?_
     change wpList _ _ _ [_,_] _ _
     go_wp2_with ((with_reducible refine vq rfl (.tmp 9) 123 rfl xb ⟨b9,0,none⟩ [.slice Ay y.1.length cy,.int .i64 y.2] ?_ rfl HB9b.out.at_ ?_);exact rfl)
     refine gr (Wd.round l2') rfl (.tmp 36) (.tmp 37) 123 rfl rfl rfl HYl.out ?_
     rintro b W8 hb
     have hbt:b=true→Stp J ((pre.flatMap (waysV rows Ls)++pre2)++[y]) S2 W6 W8:=fun h=>by rw [if_pos h] at hb;exact hb
     have hbf:b=false→Stp Jx ((pre.flatMap (waysV rows Ls)++pre2)++[y]) S2 W6 W8:=fun h=>by rw [if_neg (by rw [h];exact jp)] at hb;exact hb
     have HBt:=qq hbt
     have HBf:=qq hbf
     clear hbt hbf hb HYl
     refine xo (Wd.round l2') 1 (by rfl) ?_
     change wpList _ _ _ [_] _ _
     cases b with
     |true=>
      go_wp2_with fail
      refine wpListIn_nil ?_
      gi_wp2
      have h:=HBt.out (by trivial)
      rw [qo] at h
      exact Fr.stp (f:=fun zs=>pre.flatMap (waysV rows Ls)++zs) HI6.out.2.1 HI6.out.2.2 h
     |false=>
      go_wp2_with fail
      refine wpListIn_nil ?_
      gi_wp2
      have h:=HBf.out (by trivial)
      rw [qo] at h
      obtain ⟨S4,hf,hc4,hs4⟩:=Fr.stp (f:=fun zs=>pre.flatMap (waysV rows Ls)++zs) HI6.out.2.1 HI6.out.2.2 h
      exact ⟨S4,⟨rfl,hf⟩,hc4,hs4⟩
  ·have e1:(L.kind == 1)=false:=by simpa using hk
   go_wp2_with fail
   refine px (gf:=113) (lb:=#[.pointer (some ⟨p3,0,none⟩),.pointer (some ⟨b5,0,none⟩),.pointer (some ⟨p2,0,none⟩)]) (enc:=StAt) (xs:=nextV rows L s) (S:=S') rfl (enters_of Tryz.func113 (by kernel_rfl) rfl)
    (Fr w4 S' J (fun zs=>zs.flatMap (waysV rows Ls))) (RetF (Fr w4 S' (Cut Jx) (fun zs=>zs.flatMap (waysV rows Ls)))) (Fr.acc HA.out HLw.out) (fun c=>RetF.acc (Fr.acc (Cut.acc HJx.out) HLw.out) c) ?hseq ⟨HA.out.chg HJ.out (HN4.out.mono fun _ _ h=>h.elim),fun k hk=>.inl hk,Chg.refl _ _⟩ (fun h hs=>h.less hs) ?round ?done ?stop
   case hseq=>
    intro Jx' hJx'
    have hnx:nextV rows L s=(goesV rows L s).toList:=by
     match L,hk with
     | .atom false nm ts,hk=>exact absurd rfl hk
     | .atom true nm ts,_=>rfl
     | .test j a b,_=>rfl
     | .assign nm t,_=>rfl
    rw [hnx]
    have hn5:¬ S' b5:=fun h=>by
     have:=HA.out.lt HJ.out _ h
     have:=HZ5.out
     have:=HN1.out.size
     omega
    exact g43 w4 S' Jx' p3 b5 p2 _ _ _ _ _ _ (goesV rows L s) C34.out n3' B54.out.at_ hn5 C24.out n2' (fun Wx S1 hcx hlt hss=>
     qbn HD.out Wx ((HN0.out.trans HN4.out qdr).trans hcx (fun k hk h=>by have:=HS0.out k h;omega)) S1 hlt L Aa L.args.length ca csa rfl HTs.out okL hk s Ae ce ((HSt.out.new HN4.out).chg hcx hss) Hok.out (by omega))
   case done=>
    rintro D0 S2 W2 hD hDe hI hc2 hs2 hnD
    go_wp2_with fail
    exact gl rfl hDe (fun v=>⟨⟨v,rfl⟩,.inl (Fr.leave (f:=fun zs=>zs.flatMap (waysV rows Ls)) HA.out HLw.out HN4.out hI hD hnD _)⟩)
   case stop=>
    rintro D0 c0 pre x rest S2 W2 hx hD hDe ⟨rfl,hI⟩ hc2 hs2 hnD
    go_wp2_with fail
    refine gl rfl hDe (fun v=>⟨⟨v,rfl⟩,.inr ?_⟩)
    obtain ⟨S3,⟨p,y,r,he,hj⟩,hc3,hs3⟩:=Fr.leave (f:=fun zs=>zs.flatMap (waysV rows Ls)) (Cut.acc HJx.out) HLw.out HN4.out hI hD hnD (.deferred none)
    refine ⟨p,y,r++rest.flatMap (waysV rows Ls),?_,S3,hj,hc3,hs3⟩
    have h1:waysV rows (L::Ls) s=(nextV rows L s).flatMap (waysV rows Ls):=rfl
    rw [h1,hx,show pre++x::rest=(pre++[x])++rest by simp,zp,he]
    simp
   case round=>
    rintro l1 pre x rest S1 v Wr hx hl1 hl2 hlr hl3 hI hsv
    obtain ⟨Ax,cx,rfl⟩:=hsv.cells
    have hokx:=lw HD.out.ok okL Hok.out (show x∈nextV rows L s by rw [hx];simp)
    have Hsv:=qq hsv
    have HLr:=qq hlr
    have HOkx:=qq hokx
    have HX:=qq hx
    clear hsv hlr hokx hx hI
    simp only [qk,qu,qy]
    refine wpIn_region_lit ?_
    refine xo (Wd.round l1) 2 (by rfl) ?_
    change wpList _ _ _ [_,_] _ _
    go_wp2_with ((with_reducible refine xx rfl rfl 8 (.tmp 30) 123 rfl rfl rfl rfl xb th [.slice Ax x.1.length cx,.int .i64 x.2] ?_ ?_ rfl (gu _ _ _ _) ?_);exact (by decide:8 < 40);exact rfl;intro w5 hc5 hb5 hs5;have HC5:=qq hc5;have HB8:=qq hb5;clear hc5 hb5 hs5)
    refine wpListIn_nil ?_
    refine ⟨HC5.out,fun W2 hcW hcA hr hI2=>?_⟩
    have HB8b:=qq (HB8.out.chg hcA (fun h=>by omega))
    have HSx:=qq (Hsv.out.rec HLr.out hcW)
    have HI2:=qq hI2
    have hn8:New w0 W2:=(HN0.out.trans HN4.out qdr).trans hI2.2.2 (fun k hk h=>by have:=HS0.out k h;omega)
    have HN8:=qq hn8
    have hb6n:¬ S' b6:=fun h=>by
     have:=HA.out.lt HJ.out _ h
     have:=HZ6.out
     have:=HN1.out.size
     omega
    have g3:=hI2.2.2.cellS C34.out n3'
    have g6:=(B64.out.chg hI2.2.2 hb6n).cell 0
    simp only [qx,qj] at g6
    have HR:=qq hr
    obtain ⟨b8,hb8⟩:=qdp (Wr.heap.size)
    rw [hb8] at HB8b⊢
    clear hcW hcA hr hI2 hn8 HB8 HC5 hb6n
    gi_step
    gi_step
    gi_step
    refine wpIn_region_lit ?_
    refine xo (Wd.round l1) 4 (by rfl) ?_
    change wpList _ _ _ [_,_,_,_] _ _
    go_wp2_with first
     | ((with_reducible refine vq rfl (.tmp 8) 123 rfl xb ⟨b8,0,none⟩ [.slice Ax x.1.length cx,.int .i64 x.2] ?_ rfl HB8b.out.at_ ?_);exact rfl)
     | (go_at_call 74;refine (pt _ _ _ _ _ _ _).mono ?_;rintro e W3 ⟨rfl,hN33,k1,k2,k3,k4⟩;have HN33:=qq hN33;have J1:=qq k1;have J2:=qq k2;have J3:=qq k3;have J4:=qq k4;clear hN33 k1 k2 k3 k4 g3 g6)
    refine wpListIn_nil ?_
    gi_wp2
    have hS1W:∀ k,S1 k→k < W2.heap.size:=fun k hk=>HA.out.lt HI2.out.1 k hk
    have hS1n:∀ k,W2.heap.size≤k→¬ S1 k:=fun k hk h=>by have:=hS1W k h;omega
    have hwW:w.heap.size≤W3.heap.size:=qb HLw.out (qb HI2.out.2.2.size HN33.out.size)
    have hS10:∀ k,S1 k→w0.heap.size≤k:=fun k hk=>by
     rcases HI2.out.2.1 k hk with h|h
     ·exact HS0.out k h
     ·have:=HN0.out.size;have:=HN4.out.size;omega
    have hlen1:n - 1=Ls.length:=by rw [Hn.out];simp
    have HS1n:=qq hS1n
    have HwW:=qq hwW
    have hseq2:∀ Jx',Acc W3.heap.size Jx'→ItGives Tryz.prog 111 #[.pointer (some ⟨W2.heap.size+1,0,none⟩),.pointer (some ⟨W2.heap.size+1+1,0,none⟩),.pointer (some ⟨W2.heap.size,0,none⟩)] StAt (waysV rows Ls x) S1 W3 Jx':=fun Jx' hJx'=>
     HIh.out W3 (HN8.out.trans HN33.out qdr) S1 hS10 Jx' hJx' _ _ _ A' (n - 1) (c - 1) (css.drop 1) J2.out (hS1n _ (by omega)) hlen1 (by omega) (by unfold maxLen at hcm⊢;omega) HRest2.out x Ax cx J3.out (hS1n _ (by omega)) (HSx.out.new HN33.out) HOkx.out.1 J1.out (hS1n _ (qh _)) (by rw [HSz.out];have:=HOkx.out.2;omega)
    have HSeq2:=qq hseq2
    have hr3:∃ r,W3.heap[l1]? =some (.loop r):=by
     obtain ⟨r,hr⟩:=HR.out
     exact ⟨r,(HN33.out.block l1 (xf hr) id).trans hr⟩
    have hj0:J (pre.flatMap (waysV rows Ls)++[]) S1 W3:=by rw [jr];exact HA.out.chg HI2.out.1 (HN33.out.mono fun _ _ h=>h.elim)
    have HJ0:=qq hj0
    clear hS1W hS1n hwW hS10 hseq2 hj0 J1 J2 J3
    refine dj (gf:=111) (lb:=#[.pointer (some ⟨W2.heap.size+1,0,none⟩),.pointer (some ⟨W2.heap.size+1+1,0,none⟩),.pointer (some ⟨W2.heap.size,0,none⟩)]) (enc:=StAt) (xs:=waysV rows Ls x) (S:=S1) hr3 rfl (enters_of Tryz.func111 (by kernel_rfl) rfl)
     (Fr W3 S1 J (fun zs=>pre.flatMap (waysV rows Ls)++zs)) (RetF (Fr W3 S1 Jx (fun zs=>pre.flatMap (waysV rows Ls)++zs))) (Fr.acc HA.out HwW.out) (fun c=>RetF.acc (Fr.acc HJx.out HwW.out) c) HSeq2.out ⟨HJ0.out,fun k hk=>.inl hk,Chg.refl _ _⟩ (fun h hs=>h.less hs) ?round2 ?done2 ?stop2
    case done2=>
     rintro S3 W7 hI3 hc3 hs3
     gi_wp2
     refine Fr.stp (f:=fun zs=>zs.flatMap (waysV rows Ls)) HI2.out.2.1 HI2.out.2.2 ⟨S3,?_,(HN33.out.mono fun _ _ h=>h.elim).trans hc3 (fun k _ h=>h),fun k hk=>?_⟩
     ·have:=hI3.1
      rw [zp]
      simpa using this
     ·rcases hs3 k hk with h|h
      ·exact .inl h
      ·exact .inr (qb HN33.out.size h)
    case stop2=>
     rintro c0 pre2 y rest2 S3 W7 hx2 ⟨rfl,hI3⟩ hc3 hs3
     gi_wp2
     have hst3:Stp (Cut Jx) ((pre++[x]).flatMap (waysV rows Ls)) S1 W2 W7:=by
      refine ⟨S3,⟨pre.flatMap (waysV rows Ls)++pre2,y,rest2,?_,?_⟩,(HN33.out.mono fun _ _ h=>h.elim).trans hc3 (fun k _ h=>h),fun k hk=>?_⟩
      ·rw [zp,qo, ←hx2]
       simp
      ·have:=hI3.1
       rwa [qo]
      ·rcases hs3 k hk with h|h
       ·exact .inl h
       ·exact .inr (qb HN33.out.size h)
     obtain ⟨S4,hf,hc4,hs4⟩:=Fr.stp (f:=fun zs=>zs.flatMap (waysV rows Ls)) HI2.out.2.1 HI2.out.2.2 hst3
     exact ⟨S4,⟨rfl,hf⟩,hc4,hs4⟩
    case round2=>
     rintro l2' pre2 y rest2 S2 v2 Wq hx2 hm1 hm2 hmr hm3 hI3 hsv2
     obtain ⟨Ay,cy,rfl⟩:=hsv2.cells
     have Hsv2:=qq hsv2
     have HLr2:=qq hmr
     have HX2:=qq hx2
     clear hsv2 hmr hx2 hI3
     simp only [qk,qu,qy]
     refine wpIn_region_lit ?_
     refine xo (Wd.round l2') 2 (by rfl) ?_
     change wpList _ _ _ [_,_] _ _
     go_wp2_with ((with_reducible refine xx rfl rfl 9 (.tmp 35) 123 rfl rfl rfl rfl xb th [.slice Ay y.1.length cy,.int .i64 y.2] ?_ ?_ rfl (gu _ _ _ _) ?_);exact (by decide:9 < 40);exact rfl;intro w5 hc5 hb5 hs5;have HC5:=qq hc5;have HB9:=qq hb5;clear hc5 hb5 hs5)
     refine wpListIn_nil ?_
     refine ⟨HC5.out,fun W6 hcW hcA hr2 hI6=>?_⟩
     have HB9b:=qq (HB9.out.chg hcA (fun h=>by omega))
     have hsy:=Hsv2.out.rec HLr2.out hcW
     have hb4n:¬ S1 W.heap.size:=fun h=>by
      rcases HI2.out.2.1 _ h with h|h
      ·have:=HA.out.lt HJ.out _ h;omega
      ·have:=HB4.out.lt;have:=HN3.out.size;have:=HN34.out.size;omega
     have hb4m:¬ S' W.heap.size:=fun h=>by have:=HA.out.lt HJ.out _ h;omega
     have g4:W6.cell? ⟨W.heap.size,0,none⟩=some (.func (.yield l) #[] #[]):=hI6.2.2.cellS (HN33.out.cellS (HI2.out.2.2.cellS C44.out hb4m) id) hb4n
     have hyl:=HY.out (pre.flatMap (waysV rows Ls)++pre2) y (rest2++rest.flatMap (waysV rows Ls)) S2 _ W6 (by
      have h1:waysV rows (L::Ls) s=(nextV rows L s).flatMap (waysV rows Ls):=rfl
      rw [h1,HX.out,zp,ul,HX2.out]
      simp) hI6.1 hsy
     have HYl:=qq hyl
     have HI6:=qq hI6
     obtain ⟨b9,hb9⟩:=qdp (Wq.heap.size)
     rw [hb9] at HB9b⊢
     clear hcW hcA hr2 hI6 hsy hyl HB9 HC5 hb4n hb4m
     gi_step
     gi_step
     gi_step
     refine wpIn_region_lit ?_
     refine xo (Wd.round l2') 2 (by rfl) ?_
     change wpList _ _ _ [_,_] _ _
     go_wp2_with ((with_reducible refine vq rfl (.tmp 9) 123 rfl xb ⟨b9,0,none⟩ [.slice Ay y.1.length cy,.int .i64 y.2] ?_ rfl HB9b.out.at_ ?_);exact rfl)
     refine gr (Wd.round l2') rfl (.tmp 36) (.tmp 37) 123 rfl rfl rfl HYl.out ?_
     rintro b W8 hb
     have hbt:b=true→Stp J ((pre.flatMap (waysV rows Ls)++pre2)++[y]) S2 W6 W8:=fun h=>by rw [if_pos h] at hb;exact hb
     have hbf:b=false→Stp Jx ((pre.flatMap (waysV rows Ls)++pre2)++[y]) S2 W6 W8:=fun h=>by rw [if_neg (by rw [h];exact jp)] at hb;exact hb
     have HBt:=qq hbt
     have HBf:=qq hbf
     clear hbt hbf hb HYl
     refine xo (Wd.round l2') 1 (by rfl) ?_
     change wpList _ _ _ [_] _ _
     cases b with
     |true=>
      go_wp2_with fail
      refine wpListIn_nil ?_
      gi_wp2
      have h:=HBt.out (by trivial)
      rw [qo] at h
      exact Fr.stp (f:=fun zs=>pre.flatMap (waysV rows Ls)++zs) HI6.out.2.1 HI6.out.2.2 h
     |false=>
      go_wp2_with fail
      refine wpListIn_nil ?_
      gi_wp2
      have h:=HBf.out (by trivial)
      rw [qo] at h
      obtain ⟨S4,hf,hc4,hs4⟩:=Fr.stp (f:=fun zs=>pre.flatMap (waysV rows Ls)++zs) HI6.out.2.1 HI6.out.2.2 h
      exact ⟨S4,⟨rfl,hf⟩,hc4,hs4⟩
 ·rw [HA'.out]
  have hfn:Blk ((w1.alloc (.cells #[.slice A' (n - 1) (c - 1)] 45)).alloc (.cells #[.int .i64 L.kind,.string L.name,.slice Aa L.args.length ca] 53)) (w1.heap.size+1) 53 #[.int .i64 L.kind,.string L.name,.slice Aa L.args.length ca]∧Blk ((w1.alloc (.cells #[.slice A' (n - 1) (c - 1)] 45)).alloc (.cells #[.int .i64 L.kind,.string L.name,.slice Aa L.args.length ca] 53)) (w1.heap.size) 45 #[.slice A' (n - 1) (c - 1)]:=by
   have k1:=(Blk.new w1 _ _).alloc (w:=w1.alloc (.cells #[.slice A' (n - 1) (c - 1)] 45)) (.cells #[.int .i64 L.kind,.string L.name,.slice Aa L.args.length ca] 53)
   have k2:=Blk.new (w1.alloc (.cells #[.slice A' (n - 1) (c - 1)] 45)) 53 #[.int .i64 L.kind,.string L.name,.slice Aa L.args.length ca]
   rw [World.size_alloc] at k2
   exact ⟨k2,k1⟩
  have hn3:New w1 ((w1.alloc (.cells #[.slice A' (n - 1) (c - 1)] 45)).alloc (.cells #[.int .i64 L.kind,.string L.name,.slice Aa L.args.length ca] 53)).drew:=(((Chg.refl _ _).alloc _).alloc _).drew
  obtain ⟨b5,b6⟩:=hfn
  have B5:=qq (show Blk ((w1.alloc (.cells #[.slice A' (n - 1) (c - 1)] 45)).alloc (.cells #[.int .i64 L.kind,.string L.name,.slice Aa L.args.length ca] 53)).drew _ _ _ from b5)
  have B6:=qq (show Blk ((w1.alloc (.cells #[.slice A' (n - 1) (c - 1)] 45)).alloc (.cells #[.int .i64 L.kind,.string L.name,.slice Aa L.args.length ca] 53)).drew _ _ _ from b6)
  have HN3:=qq hn3
  clear b5 b6 hn3
  generalize ((w1.alloc (.cells #[.slice A' (n - 1) (c - 1)] 45)).alloc (.cells #[.int .i64 L.kind,.string L.name,.slice Aa L.args.length ca] 53)).drew=w3 at B5 B6 HN3⊢
  obtain ⟨b5,hb5⟩:=qdp (w1.heap.size+1)
  obtain ⟨b6,hb6⟩:=qdp (w1.heap.size)
  rw [hb5,hb6]
  rw [hb5] at B5
  rw [hb6] at B6
  have HZ5:=qq hb5
  have HZ6:=qq hb6
  clear hb5 hb6
  have c1:=HN3.out.cellS d1 id
  have c3:=(HN1.out.trans HN3.out qdr).cellS HC3.out id
  have HC23:=qq (HC2.out.chg (HN1.out.trans HN3.out qdr) id)
  clear d1a d1b f0a f0b f1a f1b f2a f2b f0 f1 f2 d1
  go_upto_region 5 with first
   | ((with_reducible refine vq rfl (.tmp 5) 53 rfl gn ⟨b5,0,none⟩ [.int .i64 L.kind,.string L.name,.slice Aa L.args.length ca] ?_ rfl B5.out.at_ ?_);exact rfl)
   | ((with_reducible refine vq rfl (.tmp 2) 123 rfl xb ⟨p2,0,none⟩ [.slice Ae s.1.length ce,.int .i64 s.2] ?_ rfl HC23.out ?_);exact rfl)
   | (go_at_call 112;refine (ft _ _ _ _ _ _ _).mono ?_;rintro e w4 ⟨rfl,hN4,k1,k2,k3,k4⟩;have HN34:=qq hN4;have K1:=qq k1;have K2:=qq k2;have K3:=qq k3;have K4:=qq k4;have c50:=(B5.out.chg hN4 id).cell 0;simp only [qx,qj] at c50;clear hN4 k1 k2 k3 k4)
  have HN4:=qq ((HN1.out.trans HN3.out qdr).trans HN34.out qdr)
  have HLw:=qq (show w.heap.size≤w4.heap.size from qb HHc.out.size HN4.out.size)
  have B54:=qq (B5.out.chg HN34.out id)
  have B64:=qq (B6.out.chg HN34.out id)
  have C44:=qq ((HB4.out.chg (HN3.out.trans HN34.out qdr) id).cell 0)
  have C24:=qq (HC23.out.chg HN34.out id)
  have C34:=qq (HN34.out.cellS c3 id)
  clear c1 c3
  by_cases hk:L.kind=1
  ·have e1:(L.kind == 1)=true:=by simpa using hk
   go_wp2_with fail
   refine px (gf:=146) (lb:=#[.pointer (some ⟨w3.heap.size,0,none⟩),.pointer (some ⟨w3.heap.size+1,0,none⟩),.pointer (some ⟨w3.heap.size+1+1,0,none⟩)]) (enc:=StAt) (xs:=nextV rows L s) (S:=S') rfl (enters_of Tryz.func146 (by kernel_rfl) rfl)
    (Fr w4 S' J (fun zs=>zs.flatMap (waysV rows Ls))) (RetF (Fr w4 S' (Cut Jx) (fun zs=>zs.flatMap (waysV rows Ls)))) (Fr.acc HA.out HLw.out) (fun c=>RetF.acc (Fr.acc (Cut.acc HJx.out) HLw.out) c) ?hseq ⟨HA.out.chg HJ.out (HN4.out.mono fun _ _ h=>h.elim),fun k hk=>.inl hk,Chg.refl _ _⟩ (fun h hs=>h.less hs) ?round ?done ?stop
   case hseq=>
    intro Jx' hJx'
    obtain ⟨nm,ts,rfl⟩:∃ nm ts,L=.atom false nm ts:=by
     match L,hk with
     | .atom false nm ts,_=>exact ⟨nm,ts,rfl⟩
     | .atom true nm ts,hk=>exact absurd (show (2:Int)=1 from hk) (by decide)
     | .test j a b,hk=>exact absurd (show (3:Int)=1 from hk) (by decide)
     | .assign nm t,hk=>exact absurd (show (4:Int)=1 from hk) (by decide)
    have hns:∀ k,w3.heap.size≤k→¬ S' k:=fun k hk' h=>by
     have:=HA.out.lt HJ.out k h
     have:=(HN1.out.trans HN3.out qdr).size
     omega
    have hs2:s.1.length+ts.length≤1000:=by have:(Lt.atom false nm ts).size=ts.length:=rfl;omega
    exact g49 w0 w4 (HN0.out.trans HN4.out qdr) S' HS0.out Jx' _ _ _ bm m (named rows nm) K1.out (hns _ (qh _)) HD.out.map 1 nm Aa ts.length ca csa ts K2.out (hns _ (by omega)) rfl HTs.out okL (HD.out.look nm) (fun r hr=>HD.out.ok r (zc.1 hr).1) s Ae ce K3.out (hns _ (by omega)) (HSt.out.new HN4.out) Hok.out hs2
   case done=>
    rintro D0 S2 W2 hD hDe hI hc2 hs2 hnD
    go_wp2_with fail
    exact gl rfl hDe (fun v=>⟨⟨v,rfl⟩,.inl (Fr.leave (f:=fun zs=>zs.flatMap (waysV rows Ls)) HA.out HLw.out HN4.out hI hD hnD _)⟩)
   case stop=>
    rintro D0 c0 pre x rest S2 W2 hx hD hDe ⟨rfl,hI⟩ hc2 hs2 hnD
    go_wp2_with fail
    refine gl rfl hDe (fun v=>⟨⟨v,rfl⟩,.inr ?_⟩)
    obtain ⟨S3,⟨p,y,r,he,hj⟩,hc3,hs3⟩:=Fr.leave (f:=fun zs=>zs.flatMap (waysV rows Ls)) (Cut.acc HJx.out) HLw.out HN4.out hI hD hnD (.deferred none)
    refine ⟨p,y,r++rest.flatMap (waysV rows Ls),?_,S3,hj,hc3,hs3⟩
    have h1:waysV rows (L::Ls) s=(nextV rows L s).flatMap (waysV rows Ls):=rfl
    rw [h1,hx,show pre++x::rest=(pre++[x])++rest by simp,zp,he]
    simp
   case round=>
    rintro l1 pre x rest S1 v Wr hx hl1 hl2 hlr hl3 hI hsv
    obtain ⟨Ax,cx,rfl⟩:=hsv.cells
    have hokx:=lw HD.out.ok okL Hok.out (show x∈nextV rows L s by rw [hx];simp)
    have Hsv:=qq hsv
    have HLr:=qq hlr
    have HOkx:=qq hokx
    have HX:=qq hx
    clear hsv hlr hokx hx hI
    simp only [qk,qu,qy]
    refine wpIn_region_lit ?_
    refine xo (Wd.round l1) 2 (by rfl) ?_
    change wpList _ _ _ [_,_] _ _
    go_wp2_with ((with_reducible refine xx rfl rfl 8 (.tmp 30) 123 rfl rfl rfl rfl xb th [.slice Ax x.1.length cx,.int .i64 x.2] ?_ ?_ rfl (gu _ _ _ _) ?_);exact (by decide:8 < 40);exact rfl;intro w5 hc5 hb5 hs5;have HC5:=qq hc5;have HB8:=qq hb5;clear hc5 hb5 hs5)
    refine wpListIn_nil ?_
    refine ⟨HC5.out,fun W2 hcW hcA hr hI2=>?_⟩
    have HB8b:=qq (HB8.out.chg hcA (fun h=>by omega))
    have HSx:=qq (Hsv.out.rec HLr.out hcW)
    have HI2:=qq hI2
    have hn8:New w0 W2:=(HN0.out.trans HN4.out qdr).trans hI2.2.2 (fun k hk h=>by have:=HS0.out k h;omega)
    have HN8:=qq hn8
    have hb6n:¬ S' b6:=fun h=>by
     have:=HA.out.lt HJ.out _ h
     have:=HZ6.out
     have:=HN1.out.size
     omega
    have g3:=hI2.2.2.cellS C34.out n3'
    have g6:=(B64.out.chg hI2.2.2 hb6n).cell 0
    simp only [qx,qj] at g6
    have HR:=qq hr
    obtain ⟨b8,hb8⟩:=qdp (Wr.heap.size)
    rw [hb8] at HB8b⊢
    clear hcW hcA hr hI2 hn8 HB8 HC5 hb6n
    gi_step
    gi_step
    gi_step
    refine wpIn_region_lit ?_
    refine xo (Wd.round l1) 4 (by rfl) ?_
    change wpList _ _ _ [_,_,_,_] _ _
    go_wp2_with first
     | ((with_reducible refine vq rfl (.tmp 8) 123 rfl xb ⟨b8,0,none⟩ [.slice Ax x.1.length cx,.int .i64 x.2] ?_ rfl HB8b.out.at_ ?_);exact rfl)
     | (go_at_call 74;refine (pt _ _ _ _ _ _ _).mono ?_;rintro e W3 ⟨rfl,hN33,k1,k2,k3,k4⟩;have HN33:=qq hN33;have J1:=qq k1;have J2:=qq k2;have J3:=qq k3;have J4:=qq k4;clear hN33 k1 k2 k3 k4 g3 g6)
    refine wpListIn_nil ?_
    gi_wp2
    have hS1W:∀ k,S1 k→k < W2.heap.size:=fun k hk=>HA.out.lt HI2.out.1 k hk
    have hS1n:∀ k,W2.heap.size≤k→¬ S1 k:=fun k hk h=>by have:=hS1W k h;omega
    have hwW:w.heap.size≤W3.heap.size:=qb HLw.out (qb HI2.out.2.2.size HN33.out.size)
    have hS10:∀ k,S1 k→w0.heap.size≤k:=fun k hk=>by
     rcases HI2.out.2.1 k hk with h|h
     ·exact HS0.out k h
     ·have:=HN0.out.size;have:=HN4.out.size;omega
    have hlen1:n - 1=Ls.length:=by rw [Hn.out];simp
    have HS1n:=qq hS1n
    have HwW:=qq hwW
    have hseq2:∀ Jx',Acc W3.heap.size Jx'→ItGives Tryz.prog 111 #[.pointer (some ⟨W2.heap.size+1,0,none⟩),.pointer (some ⟨W2.heap.size+1+1,0,none⟩),.pointer (some ⟨W2.heap.size,0,none⟩)] StAt (waysV rows Ls x) S1 W3 Jx':=fun Jx' hJx'=>
     HIh.out W3 (HN8.out.trans HN33.out qdr) S1 hS10 Jx' hJx' _ _ _ A' (n - 1) (c - 1) (css.drop 1) J2.out (hS1n _ (by omega)) hlen1 (by omega) (by unfold maxLen at hcm⊢;omega) HRest2.out x Ax cx J3.out (hS1n _ (by omega)) (HSx.out.new HN33.out) HOkx.out.1 J1.out (hS1n _ (qh _)) (by rw [HSz.out];have:=HOkx.out.2;omega)
    have HSeq2:=qq hseq2
    have hr3:∃ r,W3.heap[l1]? =some (.loop r):=by
     obtain ⟨r,hr⟩:=HR.out
     exact ⟨r,(HN33.out.block l1 (xf hr) id).trans hr⟩
    have hj0:J (pre.flatMap (waysV rows Ls)++[]) S1 W3:=by rw [jr];exact HA.out.chg HI2.out.1 (HN33.out.mono fun _ _ h=>h.elim)
    have HJ0:=qq hj0
    clear hS1W hS1n hwW hS10 hseq2 hj0 J1 J2 J3
    refine dj (gf:=111) (lb:=#[.pointer (some ⟨W2.heap.size+1,0,none⟩),.pointer (some ⟨W2.heap.size+1+1,0,none⟩),.pointer (some ⟨W2.heap.size,0,none⟩)]) (enc:=StAt) (xs:=waysV rows Ls x) (S:=S1) hr3 rfl (enters_of Tryz.func111 (by kernel_rfl) rfl)
     (Fr W3 S1 J (fun zs=>pre.flatMap (waysV rows Ls)++zs)) (RetF (Fr W3 S1 Jx (fun zs=>pre.flatMap (waysV rows Ls)++zs))) (Fr.acc HA.out HwW.out) (fun c=>RetF.acc (Fr.acc HJx.out HwW.out) c) HSeq2.out ⟨HJ0.out,fun k hk=>.inl hk,Chg.refl _ _⟩ (fun h hs=>h.less hs) ?round2 ?done2 ?stop2
    case done2=>
     rintro S3 W7 hI3 hc3 hs3
     gi_wp2
     refine Fr.stp (f:=fun zs=>zs.flatMap (waysV rows Ls)) HI2.out.2.1 HI2.out.2.2 ⟨S3,?_,(HN33.out.mono fun _ _ h=>h.elim).trans hc3 (fun k _ h=>h),fun k hk=>?_⟩
     ·have:=hI3.1
      rw [zp]
      simpa using this
     ·rcases hs3 k hk with h|h
      ·exact .inl h
      ·exact .inr (qb HN33.out.size h)
    case stop2=>
     rintro c0 pre2 y rest2 S3 W7 hx2 ⟨rfl,hI3⟩ hc3 hs3
     gi_wp2
     have hst3:Stp (Cut Jx) ((pre++[x]).flatMap (waysV rows Ls)) S1 W2 W7:=by
      refine ⟨S3,⟨pre.flatMap (waysV rows Ls)++pre2,y,rest2,?_,?_⟩,(HN33.out.mono fun _ _ h=>h.elim).trans hc3 (fun k _ h=>h),fun k hk=>?_⟩
      ·rw [zp,qo, ←hx2]
       simp
      ·have:=hI3.1
       rwa [qo]
      ·rcases hs3 k hk with h|h
       ·exact .inl h
       ·exact .inr (qb HN33.out.size h)
     obtain ⟨S4,hf,hc4,hs4⟩:=Fr.stp (f:=fun zs=>zs.flatMap (waysV rows Ls)) HI2.out.2.1 HI2.out.2.2 hst3
     exact ⟨S4,⟨rfl,hf⟩,hc4,hs4⟩
    case round2=>
     rintro l2' pre2 y rest2 S2 v2 Wq hx2 hm1 hm2 hmr hm3 hI3 hsv2
     obtain ⟨Ay,cy,rfl⟩:=hsv2.cells
     have Hsv2:=qq hsv2
     have HLr2:=qq hmr
     have HX2:=qq hx2
     clear hsv2 hmr hx2 hI3
     simp only [qk,qu,qy]
     refine wpIn_region_lit ?_
     refine xo (Wd.round l2') 2 (by rfl) ?_
     change wpList _ _ _ [_,_] _ _
     go_wp2_with ((with_reducible refine xx rfl rfl 9 (.tmp 35) 123 rfl rfl rfl rfl xb th [.slice Ay y.1.length cy,.int .i64 y.2] ?_ ?_ rfl (gu _ _ _ _) ?_);exact (by decide:9 < 40);exact rfl;intro w5 hc5 hb5 hs5;have HC5:=qq hc5;have HB9:=qq hb5;clear hc5 hb5 hs5)
     refine wpListIn_nil ?_
     refine ⟨HC5.out,fun W6 hcW hcA hr2 hI6=>?_⟩
     have HB9b:=qq (HB9.out.chg hcA (fun h=>by omega))
     have hsy:=Hsv2.out.rec HLr2.out hcW
     have hb4n:¬ S1 W.heap.size:=fun h=>by
      rcases HI2.out.2.1 _ h with h|h
      ·have:=HA.out.lt HJ.out _ h;omega
      ·have:=HB4.out.lt;have:=HN3.out.size;have:=HN34.out.size;omega
     have hb4m:¬ S' W.heap.size:=fun h=>by have:=HA.out.lt HJ.out _ h;omega
     have g4:W6.cell? ⟨W.heap.size,0,none⟩=some (.func (.yield l) #[] #[]):=hI6.2.2.cellS (HN33.out.cellS (HI2.out.2.2.cellS C44.out hb4m) id) hb4n
     have hyl:=HY.out (pre.flatMap (waysV rows Ls)++pre2) y (rest2++rest.flatMap (waysV rows Ls)) S2 _ W6 (by
      have h1:waysV rows (L::Ls) s=(nextV rows L s).flatMap (waysV rows Ls):=rfl
      rw [h1,HX.out,zp,ul,HX2.out]
      simp) hI6.1 hsy
     have HYl:=qq hyl
     have HI6:=qq hI6
     obtain ⟨b9,hb9⟩:=qdp (Wq.heap.size)
     rw [hb9] at HB9b⊢
     clear hcW hcA hr2 hI6 hsy hyl HB9 HC5 hb4n hb4m
     gi_step
     gi_step
     gi_step
     refine wpIn_region_lit ?_
     refine xo (Wd.round l2') 2 (by rfl) ?_
     change wpList _ _ _ [_,_] _ _
     go_wp2_with ((with_reducible refine vq rfl (.tmp 9) 123 rfl xb ⟨b9,0,none⟩ [.slice Ay y.1.length cy,.int .i64 y.2] ?_ rfl HB9b.out.at_ ?_);exact rfl)
     refine gr (Wd.round l2') rfl (.tmp 36) (.tmp 37) 123 rfl rfl rfl HYl.out ?_
     rintro b W8 hb
     have hbt:b=true→Stp J ((pre.flatMap (waysV rows Ls)++pre2)++[y]) S2 W6 W8:=fun h=>by rw [if_pos h] at hb;exact hb
     have hbf:b=false→Stp Jx ((pre.flatMap (waysV rows Ls)++pre2)++[y]) S2 W6 W8:=fun h=>by rw [if_neg (by rw [h];exact jp)] at hb;exact hb
     have HBt:=qq hbt
     have HBf:=qq hbf
     clear hbt hbf hb HYl
     refine xo (Wd.round l2') 1 (by rfl) ?_
     change wpList _ _ _ [_] _ _
     cases b with
     |true=>
      go_wp2_with fail
      refine wpListIn_nil ?_
      gi_wp2
      have h:=HBt.out (by trivial)
      rw [qo] at h
      exact Fr.stp (f:=fun zs=>pre.flatMap (waysV rows Ls)++zs) HI6.out.2.1 HI6.out.2.2 h
     |false=>
      go_wp2_with fail
      refine wpListIn_nil ?_
      gi_wp2
      have h:=HBf.out (by trivial)
      rw [qo] at h
      obtain ⟨S4,hf,hc4,hs4⟩:=Fr.stp (f:=fun zs=>pre.flatMap (waysV rows Ls)++zs) HI6.out.2.1 HI6.out.2.2 h
      exact ⟨S4,⟨rfl,hf⟩,hc4,hs4⟩
  ·have e1:(L.kind == 1)=false:=by simpa using hk
   go_wp2_with fail
   refine px (gf:=113) (lb:=#[.pointer (some ⟨p3,0,none⟩),.pointer (some ⟨b5,0,none⟩),.pointer (some ⟨p2,0,none⟩)]) (enc:=StAt) (xs:=nextV rows L s) (S:=S') rfl (enters_of Tryz.func113 (by kernel_rfl) rfl)
    (Fr w4 S' J (fun zs=>zs.flatMap (waysV rows Ls))) (RetF (Fr w4 S' (Cut Jx) (fun zs=>zs.flatMap (waysV rows Ls)))) (Fr.acc HA.out HLw.out) (fun c=>RetF.acc (Fr.acc (Cut.acc HJx.out) HLw.out) c) ?hseq ⟨HA.out.chg HJ.out (HN4.out.mono fun _ _ h=>h.elim),fun k hk=>.inl hk,Chg.refl _ _⟩ (fun h hs=>h.less hs) ?round ?done ?stop
   case hseq=>
    intro Jx' hJx'
    have hnx:nextV rows L s=(goesV rows L s).toList:=by
     match L,hk with
     | .atom false nm ts,hk=>exact absurd rfl hk
     | .atom true nm ts,_=>rfl
     | .test j a b,_=>rfl
     | .assign nm t,_=>rfl
    rw [hnx]
    have hn5:¬ S' b5:=fun h=>by
     have:=HA.out.lt HJ.out _ h
     have:=HZ5.out
     have:=HN1.out.size
     omega
    exact g43 w4 S' Jx' p3 b5 p2 _ _ _ _ _ _ (goesV rows L s) C34.out n3' B54.out.at_ hn5 C24.out n2' (fun Wx S1 hcx hlt hss=>
     qbn HD.out Wx ((HN0.out.trans HN4.out qdr).trans hcx (fun k hk h=>by have:=HS0.out k h;omega)) S1 hlt L Aa L.args.length ca csa rfl HTs.out okL hk s Ae ce ((HSt.out.new HN4.out).chg hcx hss) Hok.out (by omega))
   case done=>
    rintro D0 S2 W2 hD hDe hI hc2 hs2 hnD
    go_wp2_with fail
    exact gl rfl hDe (fun v=>⟨⟨v,rfl⟩,.inl (Fr.leave (f:=fun zs=>zs.flatMap (waysV rows Ls)) HA.out HLw.out HN4.out hI hD hnD _)⟩)
   case stop=>
    rintro D0 c0 pre x rest S2 W2 hx hD hDe ⟨rfl,hI⟩ hc2 hs2 hnD
    go_wp2_with fail
    refine gl rfl hDe (fun v=>⟨⟨v,rfl⟩,.inr ?_⟩)
    obtain ⟨S3,⟨p,y,r,he,hj⟩,hc3,hs3⟩:=Fr.leave (f:=fun zs=>zs.flatMap (waysV rows Ls)) (Cut.acc HJx.out) HLw.out HN4.out hI hD hnD (.deferred none)
    refine ⟨p,y,r++rest.flatMap (waysV rows Ls),?_,S3,hj,hc3,hs3⟩
    have h1:waysV rows (L::Ls) s=(nextV rows L s).flatMap (waysV rows Ls):=rfl
    rw [h1,hx,show pre++x::rest=(pre++[x])++rest by simp,zp,he]
    simp
   case round=>
    rintro l1 pre x rest S1 v Wr hx hl1 hl2 hlr hl3 hI hsv
    obtain ⟨Ax,cx,rfl⟩:=hsv.cells
    have hokx:=lw HD.out.ok okL Hok.out (show x∈nextV rows L s by rw [hx];simp)
    have Hsv:=qq hsv
    have HLr:=qq hlr
    have HOkx:=qq hokx
    have HX:=qq hx
    clear hsv hlr hokx hx hI
    simp only [qk,qu,qy]
    refine wpIn_region_lit ?_
    refine xo (Wd.round l1) 2 (by rfl) ?_
    change wpList _ _ _ [_,_] _ _
    go_wp2_with ((with_reducible refine xx rfl rfl 8 (.tmp 30) 123 rfl rfl rfl rfl xb th [.slice Ax x.1.length cx,.int .i64 x.2] ?_ ?_ rfl (gu _ _ _ _) ?_);exact (by decide:8 < 40);exact rfl;intro w5 hc5 hb5 hs5;have HC5:=qq hc5;have HB8:=qq hb5;clear hc5 hb5 hs5)
    refine wpListIn_nil ?_
    refine ⟨HC5.out,fun W2 hcW hcA hr hI2=>?_⟩
    have HB8b:=qq (HB8.out.chg hcA (fun h=>by omega))
    have HSx:=qq (Hsv.out.rec HLr.out hcW)
    have HI2:=qq hI2
    have hn8:New w0 W2:=(HN0.out.trans HN4.out qdr).trans hI2.2.2 (fun k hk h=>by have:=HS0.out k h;omega)
    have HN8:=qq hn8
    have hb6n:¬ S' b6:=fun h=>by
     have:=HA.out.lt HJ.out _ h
     have:=HZ6.out
     have:=HN1.out.size
     omega
    have g3:=hI2.2.2.cellS C34.out n3'
    have g6:=(B64.out.chg hI2.2.2 hb6n).cell 0
    simp only [qx,qj] at g6
    have HR:=qq hr
    obtain ⟨b8,hb8⟩:=qdp (Wr.heap.size)
    rw [hb8] at HB8b⊢
    clear hcW hcA hr hI2 hn8 HB8 HC5 hb6n
    gi_step
    gi_step
    gi_step
    refine wpIn_region_lit ?_
    refine xo (Wd.round l1) 4 (by rfl) ?_
    change wpList _ _ _ [_,_,_,_] _ _
    go_wp2_with first
     | ((with_reducible refine vq rfl (.tmp 8) 123 rfl xb ⟨b8,0,none⟩ [.slice Ax x.1.length cx,.int .i64 x.2] ?_ rfl HB8b.out.at_ ?_);exact rfl)
     | (go_at_call 74;refine (pt _ _ _ _ _ _ _).mono ?_;rintro e W3 ⟨rfl,hN33,k1,k2,k3,k4⟩;have HN33:=qq hN33;have J1:=qq k1;have J2:=qq k2;have J3:=qq k3;have J4:=qq k4;clear hN33 k1 k2 k3 k4 g3 g6)
    refine wpListIn_nil ?_
    gi_wp2
    have hS1W:∀ k,S1 k→k < W2.heap.size:=fun k hk=>HA.out.lt HI2.out.1 k hk
    have hS1n:∀ k,W2.heap.size≤k→¬ S1 k:=fun k hk h=>by have:=hS1W k h;omega
    have hwW:w.heap.size≤W3.heap.size:=qb HLw.out (qb HI2.out.2.2.size HN33.out.size)
    have hS10:∀ k,S1 k→w0.heap.size≤k:=fun k hk=>by
     rcases HI2.out.2.1 k hk with h|h
     ·exact HS0.out k h
     ·have:=HN0.out.size;have:=HN4.out.size;omega
    have hlen1:n - 1=Ls.length:=by rw [Hn.out];simp
    have HS1n:=qq hS1n
    have HwW:=qq hwW
    have hseq2:∀ Jx',Acc W3.heap.size Jx'→ItGives Tryz.prog 111 #[.pointer (some ⟨W2.heap.size+1,0,none⟩),.pointer (some ⟨W2.heap.size+1+1,0,none⟩),.pointer (some ⟨W2.heap.size,0,none⟩)] StAt (waysV rows Ls x) S1 W3 Jx':=fun Jx' hJx'=>
     HIh.out W3 (HN8.out.trans HN33.out qdr) S1 hS10 Jx' hJx' _ _ _ A' (n - 1) (c - 1) (css.drop 1) J2.out (hS1n _ (by omega)) hlen1 (by omega) (by unfold maxLen at hcm⊢;omega) HRest2.out x Ax cx J3.out (hS1n _ (by omega)) (HSx.out.new HN33.out) HOkx.out.1 J1.out (hS1n _ (qh _)) (by rw [HSz.out];have:=HOkx.out.2;omega)
    have HSeq2:=qq hseq2
    have hr3:∃ r,W3.heap[l1]? =some (.loop r):=by
     obtain ⟨r,hr⟩:=HR.out
     exact ⟨r,(HN33.out.block l1 (xf hr) id).trans hr⟩
    have hj0:J (pre.flatMap (waysV rows Ls)++[]) S1 W3:=by rw [jr];exact HA.out.chg HI2.out.1 (HN33.out.mono fun _ _ h=>h.elim)
    have HJ0:=qq hj0
    clear hS1W hS1n hwW hS10 hseq2 hj0 J1 J2 J3
    refine dj (gf:=111) (lb:=#[.pointer (some ⟨W2.heap.size+1,0,none⟩),.pointer (some ⟨W2.heap.size+1+1,0,none⟩),.pointer (some ⟨W2.heap.size,0,none⟩)]) (enc:=StAt) (xs:=waysV rows Ls x) (S:=S1) hr3 rfl (enters_of Tryz.func111 (by kernel_rfl) rfl)
     (Fr W3 S1 J (fun zs=>pre.flatMap (waysV rows Ls)++zs)) (RetF (Fr W3 S1 Jx (fun zs=>pre.flatMap (waysV rows Ls)++zs))) (Fr.acc HA.out HwW.out) (fun c=>RetF.acc (Fr.acc HJx.out HwW.out) c) HSeq2.out ⟨HJ0.out,fun k hk=>.inl hk,Chg.refl _ _⟩ (fun h hs=>h.less hs) ?round2 ?done2 ?stop2
    case done2=>
     rintro S3 W7 hI3 hc3 hs3
     gi_wp2
     refine Fr.stp (f:=fun zs=>zs.flatMap (waysV rows Ls)) HI2.out.2.1 HI2.out.2.2 ⟨S3,?_,(HN33.out.mono fun _ _ h=>h.elim).trans hc3 (fun k _ h=>h),fun k hk=>?_⟩
     ·have:=hI3.1
      rw [zp]
      simpa using this
     ·rcases hs3 k hk with h|h
      ·exact .inl h
      ·exact .inr (qb HN33.out.size h)
    case stop2=>
     rintro c0 pre2 y rest2 S3 W7 hx2 ⟨rfl,hI3⟩ hc3 hs3
     gi_wp2
     have hst3:Stp (Cut Jx) ((pre++[x]).flatMap (waysV rows Ls)) S1 W2 W7:=by
      refine ⟨S3,⟨pre.flatMap (waysV rows Ls)++pre2,y,rest2,?_,?_⟩,(HN33.out.mono fun _ _ h=>h.elim).trans hc3 (fun k _ h=>h),fun k hk=>?_⟩
      ·rw [zp,qo, ←hx2]
       simp
      ·have:=hI3.1
       rwa [qo]
      ·rcases hs3 k hk with h|h
       ·exact .inl h
       ·exact .inr (qb HN33.out.size h)
     obtain ⟨S4,hf,hc4,hs4⟩:=Fr.stp (f:=fun zs=>zs.flatMap (waysV rows Ls)) HI2.out.2.1 HI2.out.2.2 hst3
     exact ⟨S4,⟨rfl,hf⟩,hc4,hs4⟩
    case round2=>
     rintro l2' pre2 y rest2 S2 v2 Wq hx2 hm1 hm2 hmr hm3 hI3 hsv2
     obtain ⟨Ay,cy,rfl⟩:=hsv2.cells
     have Hsv2:=qq hsv2
     have HLr2:=qq hmr
     have HX2:=qq hx2
     clear hsv2 hmr hx2 hI3
     simp only [qk,qu,qy]
     refine wpIn_region_lit ?_
     refine xo (Wd.round l2') 2 (by rfl) ?_
     change wpList _ _ _ [_,_] _ _
     go_wp2_with ((with_reducible refine xx rfl rfl 9 (.tmp 35) 123 rfl rfl rfl rfl xb th [.slice Ay y.1.length cy,.int .i64 y.2] ?_ ?_ rfl (gu _ _ _ _) ?_);exact (by decide:9 < 40);exact rfl;intro w5 hc5 hb5 hs5;have HC5:=qq hc5;have HB9:=qq hb5;clear hc5 hb5 hs5)
     refine wpListIn_nil ?_
     refine ⟨HC5.out,fun W6 hcW hcA hr2 hI6=>?_⟩
     have HB9b:=qq (HB9.out.chg hcA (fun h=>by omega))
     have hsy:=Hsv2.out.rec HLr2.out hcW
     have hb4n:¬ S1 W.heap.size:=fun h=>by
      rcases HI2.out.2.1 _ h with h|h
      ·have:=HA.out.lt HJ.out _ h;omega
      ·have:=HB4.out.lt;have:=HN3.out.size;have:=HN34.out.size;omega
     have hb4m:¬ S' W.heap.size:=fun h=>by have:=HA.out.lt HJ.out _ h;omega
     have g4:W6.cell? ⟨W.heap.size,0,none⟩=some (.func (.yield l) #[] #[]):=hI6.2.2.cellS (HN33.out.cellS (HI2.out.2.2.cellS C44.out hb4m) id) hb4n
     have hyl:=HY.out (pre.flatMap (waysV rows Ls)++pre2) y (rest2++rest.flatMap (waysV rows Ls)) S2 _ W6 (by
      have h1:waysV rows (L::Ls) s=(nextV rows L s).flatMap (waysV rows Ls):=rfl
      rw [h1,HX.out,zp,ul,HX2.out]
      simp) hI6.1 hsy
     have HYl:=qq hyl
     have HI6:=qq hI6
     obtain ⟨b9,hb9⟩:=qdp (Wq.heap.size)
     rw [hb9] at HB9b⊢
     clear hcW hcA hr2 hI6 hsy hyl HB9 HC5 hb4n hb4m
     gi_step
     gi_step
     gi_step
     refine wpIn_region_lit ?_
     refine xo (Wd.round l2') 2 (by rfl) ?_
     change wpList _ _ _ [_,_] _ _
     go_wp2_with ((with_reducible refine vq rfl (.tmp 9) 123 rfl xb ⟨b9,0,none⟩ [.slice Ay y.1.length cy,.int .i64 y.2] ?_ rfl HB9b.out.at_ ?_);exact rfl)
     refine gr (Wd.round l2') rfl (.tmp 36) (.tmp 37) 123 rfl rfl rfl HYl.out ?_
     rintro b W8 hb
     have hbt:b=true→Stp J ((pre.flatMap (waysV rows Ls)++pre2)++[y]) S2 W6 W8:=fun h=>by rw [if_pos h] at hb;exact hb
     have hbf:b=false→Stp Jx ((pre.flatMap (waysV rows Ls)++pre2)++[y]) S2 W6 W8:=fun h=>by rw [if_neg (by rw [h];exact jp)] at hb;exact hb
     have HBt:=qq hbt
     have HBf:=qq hbf
     clear hbt hbf hb HYl
     refine xo (Wd.round l2') 1 (by rfl) ?_
     change wpList _ _ _ [_] _ _
     cases b with
     |true=>
      go_wp2_with fail
      refine wpListIn_nil ?_
      gi_wp2
      have h:=HBt.out (by trivial)
      rw [qo] at h
      exact Fr.stp (f:=fun zs=>pre.flatMap (waysV rows Ls)++zs) HI6.out.2.1 HI6.out.2.2 h
     |false=>
      go_wp2_with fail
      refine wpListIn_nil ?_
      gi_wp2
      have h:=HBf.out (by trivial)
      rw [qo] at h
      obtain ⟨S4,hf,hc4,hs4⟩:=Fr.stp (f:=fun zs=>pre.flatMap (waysV rows Ls)++zs) HI6.out.2.1 HI6.out.2.2 h
      exact ⟨S4,⟨rfl,hf⟩,hc4,hs4⟩
def tj {w0:World} {bm:Nat} {m:List (ByteArray×Value)} {rows:List Rw} (D:Dat w0 bm m rows):∀ (Ls:List Lt),(∀ L∈Ls,okLt L)→WaysOk w0 bm m rows Ls
 | [],_=>ways_nil w0 bm m rows
 |L::Ls,h=>qcw D L Ls (h L (zb ..)) (tj D Ls fun L' hL=>h L' (zh _ hL))
def headV (h:ByteArray) (ts:List Tm) (s:Sta):Option Rw:=(allO (ts.map (evalT s.1))).map (fun us=>⟨h,us,s.2⟩)
def HeadPost (w:World) (o:Option Rw) (e:Ending) (w':World):Prop:=
 New w w'∧((o=none∧∃ a b c,a.oneCell'=true∧b.oneCell'=true∧c.oneCell'=true∧e=.returned (.tuple #[.agg #[a,b,c],.bool false]))∨
  ∃ r v,o=some r∧OwnRow w' w.heap.size [.string r.name,v,.int .i64 r.stamp] r v∧e=.returned (.tuple #[.agg #[.string r.name,v,.int .i64 r.stamp],.bool true]))
def qcd {w:World} {b:Nat} {e:TypeId} {k:Nat} {v:Value} {css:List (List Value)} (h:Own w b e k v css):v.oneCell'=true:=by
 obtain ⟨A,c,rfl,_⟩:=h.form
 rfl
def gt {a b c:Value} (ha:a.oneCell'=true) (hb:b.oneCell'=true) (hc:c.oneCell'=true):∀ u∈[a,b,c],u.oneCell'=true:=by
 intro u hu
 simp only [qp,qm,or_false] at hu
 rcases hu with rfl|rfl|rfl
 ·exact ha
 ·exact hb
 ·exact hc
def head_val (w0 w:World) (hw0:New w0 w) (S1:Nat→Prop) (h:ByteArray) (r0 r3 r4 r5:Value) (A:Option Addr) (n c:Nat) (css:List (List Value)) (ts:List Tm) (hn:n=ts.length) (hnm:n≤1000) (hts:TmsAt w0 A css ts) (hokt:∀ t∈ts,okTm t)
  (s:Sta) (Ae:Option Addr) (ce:Nat) (hst:StAt s (.agg #[.slice Ae s.1.length ce,.int .i64 s.2]) S1 w) (hok:okEnv s.1) (hsl:s.1.length≤1000):
  Calls Tryz.prog 75 #[.agg #[r0,.string h,.slice A n c,r3,r4,r5],.agg #[.slice Ae s.1.length ce,.int .i64 s.2]] w (HeadPost w (headV h ts s)):=by
 obtain ⟨fs,hfs⟩:=qdq (ts.map (evalT s.1))
 have hres:headV h ts s=(allO fs).map (fun us=>⟨h,us,s.2⟩):=by rw [hfs];rfl
 rw [hres]
 obtain ⟨w1,hw1⟩:=qdq (((w.alloc (.cells #[r0,.string h,.slice A n c,r3,r4,r5] 47)).alloc (.cells #[.slice Ae s.1.length ce,.int .i64 s.2] 123)).alloc (.cells #[.string ⟨#[]⟩,.slice none 0 0,.int .i64 0] 42))
 obtain ⟨hN1,b2,b3,b4,hz1⟩:=aj _ _ _ _ _ _ _ w1 hw1
 have hev:∀ (k:Nat) (t:Tm) (cs:List Value) (W:World),css[k]? =some cs→ts[k]? =some t→New w W→Calls Tryz.prog 115 #[.agg cs.toArray,.slice Ae s.1.length ce] W fun e W'=>e=.returned (optV (evalT s.1 t))∧New W W':=by
  intro k t cs W hcs ht hW
  obtain ⟨A',c',he,_,_,hse,_⟩:=hst
  obtain ⟨rfl,rfl⟩:Ae=A'∧ce=c':=by
   injection he with he
   injection he with he
   injection he with h1 h2
   injection h1 with h1 _ h3
   exact ⟨h1,h3⟩
  exact bEval Ae s.1.length ce s.1 rfl hsl hok t (hokt t (qf ht)) W cs (hse.chg hW (fun _ _=>id)) ((hts.at_ k cs t hcs ht).chg ((hw0.trans hW qdr)))
 have hone:∀ (k:Nat) (t:Tm) (cs:List Value),css[k]? =some cs→ts[k]? =some t→∀ u∈cs,u.oneCell'=true:=fun k t cs h1 h2=>(hts.at_ k cs t h1 h2).one
 have hsrc:=hts.src.chg hw0 (fun _ _=>id)
 have hlen:=hts.len
 have hseven:∀ (k:Nat) (t:Tm) (cs:List Value),css[k]? =some cs→ts[k]? =some t→∃ t0 t1 t2 t3 t4 t5 t6,cs=[t0,t1,t2,t3,t4,t5,t6]:=fun k t cs h1 h2=>(hts.at_ k cs t h1 h2).seven
 have HEv:=qq hev
 have HOne:=qq hone
 have HSeven:=qq hseven
 have HSrc:=qq hsrc
 have HLen:=qq hlen
 have HW:=qq hw1
 have HN1:=qq hN1
 have B2:=qq b2
 have B3:=qq b3
 have B4:=qq b4
 have HZ:=qq hz1
 have HN:=qq hn
 have Hfs:=qq hfs
 clear hev hone hseven hsrc hlen hw1 hN1 b2 b3 b4 hz1 hst hts hokt hok hw0 hn hfs hres
 go_enter Tryz.func75,Tryz.ntmps75
 go_upto_region 1 with fail
 rw [←HW.out]
 have c1:=B2.out.cell 1
 have c2:=B2.out.cell 2
 have c3:=B3.out.cell 1
 simp only [qx,qj,qw] at c1 c2 c3
 go_wp2_with ((with_reducible refine xq rfl (.tmp 4) (.tmp 14) 42 rfl rfl vd (w.heap.size+1+1) 42 _ [.string h,.slice none 0 0,.int .i64 s.2] ?_ ?_ B4.out rfl rfl (dv _ _ _ _ _) ?_);exact rfl;exact rfl;intro w2 hc2 hb2 hs2;have c5:=(B2.out.chg hc2 (by omega)).cell 2;have HC2:=qq hc2;have HB2:=qq hb2;simp only [qx,qj,qw] at c5;clear hc2 hb2 hs2 c1 c2 c3)
 clear HW c5
 go_loopw [18] (fun u18 wr=>∃ (k:Nat) (us:List Vl) (v:Value),k≤n∧u18=.int .i64 k∧allO (fs.take k)=some us∧us.length=k∧Blk wr (w.heap.size+1+1) 42 #[.string h,v,.int .i64 s.2]∧Own wr w1.heap.size 62 4 v (us.map vcs)∧Chg w1 wr (fun k=>k=w.heap.size+1+1)) (fun u _=>n - (intOf u).toNat)
 case atStart=>exact ⟨0,[],_,qr _,rfl,rfl,rfl,HB2.out,Own.nil _ _ _ _,HC2.out⟩
 case round=>
  obtain ⟨k,us,v,hk,rfl,ha,hl,hbk,hov,hNr⟩:=hrel
  obtain ⟨Ao,co,rfl,hc1,hc2⟩:=hov.form
  rw [qd] at hov hbk
  have Ha:=qq ha
  have HOv:=qq hov
  have HBk:=qq hbk
  have HNw:=qq hNr
  have HNf:=qq (show New w wr from HN1.out.put hNr (by omega))
  have Hl:=qq hl
  clear ha hov hNr hl hc1 hc2 hbk
  by_cases hlt:k < n
  ·obtain ⟨t,ht⟩:∃ t,ts[k]? =some t:=⟨_,qz (by rw [←HN.out];exact hlt)⟩
   obtain ⟨cs,hcs⟩:∃ cs,css[k]? =some cs:=⟨_,qz (by rw [HLen.out, ←HN.out];exact hlt)⟩
   obtain ⟨ad,rfl,hrw⟩:=HSrc.out (by rw [HLen.out, ←HN.out];omega)
   have hat:=(hrw k cs hcs).2.chg HNf.out id
   have h1c:=HOne.out k t cs hcs ht
   have hek:=fun W h=>HEv.out k t cs W hcs ht h
   obtain ⟨o1,ho1⟩:=qdp (evalT s.1 t)
   have hfk:fs[k]? =some o1:=by rw [Hfs.out,qa,ht, ←ho1];rfl
   rw [ho1] at hek
   obtain ⟨t0,t1,t2,t3,t4,t5,t6,rfl⟩:=HSeven.out k t cs hcs ht
   have Hat:=qq hat
   have H1c:=qq h1c
   have Hek:=qq hek
   have Hfk:=qq hfk
   clear hat h1c hek hfk hrw hcs ht ho1
   have e5:=(B3.out.chg HNw.out (by omega)).cell 0
   simp only [qx,qj] at e5
   cases o1 with
   |none=>
    unfold optV at Hek
    dsimp only [Option.getD,Option.isSome,vval,zV] at Hek
    go_wp2_with first
     | ((with_reducible refine vq rfl (.tmp 20) 64 rfl xy (ad.add (k * 7)) _ ?_ rfl Hat.out ?_);exact rfl)
     | ((with_reducible refine xx rfl rfl 7 (.tmp 21) 64 rfl rfl rfl rfl xy elTerm.zero [t0,t1,t2,t3,t4,t5,t6] ?_ ?_ rfl H1c.out ?_);exact (by decide:7 < 40);exact rfl;intro w2 hc2 hb2 hs2;have e6:=hc2.cellS e5 id;have Hc2:=qq hc2;have Hb2:=qq (Blk.at_ (cs:=[t0,t1,t2,t3,t4,t5,t6]) hb2);clear hc2 hb2 hs2)
     | ((with_reducible refine vq rfl (.tmp 7) 64 rfl xy ⟨wr.heap.size,0,none⟩ _ ?_ rfl Hb2.out ?_);exact rfl)
     | (go_at_call 115;refine (Hek.out _ (HNf.out.trans Hc2.out qdr)).mono ?_;rintro e w3 ⟨rfl,hc3⟩;have HN3:=qq (Hc2.out.trans hc3 qdr);clear hc3 e5 e6)
     | ((with_reducible refine xx rfl rfl 8 (.tmp 27) 62 rfl rfl rfl rfl vz fz.zero (vcs zV) ?_ ?_ (vg _) (xw _) ?_);exact (by decide:8 < 40);exact rfl;intro w4 hc4 hb4 hs4;have HN4:=qq (HN3.out.trans hc4 qdr);clear hc4 hb4 hs4)
     | ((with_reducible refine vq rfl (.tmp 4) 42 rfl vd ⟨w.heap.size+1+1,0,none⟩ [.string h,.slice Ao us.length co,.int .i64 s.2] ?_ rfl (HBk.out.chg HN4.out id).at_ ?_);exact rfl)
     | ((with_reducible refine xq rfl (.tmp 4) (.tmp 31) 42 rfl rfl vd (w.heap.size+1+1) 42 _ [.string h,.slice Ao us.length co,.int .i64 s.2] ?_ ?_ (HBk.out.chg HN4.out id) rfl rfl (dv _ _ _ _ _) ?_);exact rfl;exact rfl;intro w5 hc5 hb5 hs5;have HN5:=qq ((HNf.out.trans HN4.out qdr).put hc5 (by omega));have HB5:=qq hb5;clear hc5 hb5 hs5)
    refine bodyPost_ret (v:=.tuple #[.agg #[.string h,.slice Ao us.length co,.int .i64 s.2],.bool false]) (xn (p:=4) (q:=5) vd rfl _ _ ⟨w.heap.size+1+1,0,none⟩ [.string h,.slice Ao us.length co,.int .i64 s.2] rfl (Blk.at_ HB5.out) rfl) rfl ?_
    exact ⟨HN5.out,.inl ⟨by rw [fy Hfk.out];rfl,_,_,_,rfl,rfl,rfl,rfl⟩⟩
   |some x=>
    unfold optV at Hek
    dsimp only [Option.getD,Option.isSome,vval] at Hek
    go_upto_region 8 with first
     | ((with_reducible refine vq rfl (.tmp 20) 64 rfl xy (ad.add (k * 7)) _ ?_ rfl Hat.out ?_);exact rfl)
     | ((with_reducible refine xx rfl rfl 7 (.tmp 21) 64 rfl rfl rfl rfl xy elTerm.zero [t0,t1,t2,t3,t4,t5,t6] ?_ ?_ rfl H1c.out ?_);exact (by decide:7 < 40);exact rfl;intro w2 hc2 hb2 hs2;have e6:=hc2.cellS e5 id;have Hc2:=qq hc2;have Hb2:=qq (Blk.at_ (cs:=[t0,t1,t2,t3,t4,t5,t6]) hb2);clear hc2 hb2 hs2)
     | ((with_reducible refine vq rfl (.tmp 7) 64 rfl xy ⟨wr.heap.size,0,none⟩ _ ?_ rfl Hb2.out ?_);exact rfl)
     | (go_at_call 115;refine (Hek.out _ (HNf.out.trans Hc2.out qdr)).mono ?_;rintro e w3 ⟨rfl,hc3⟩;have HN3:=qq (Hc2.out.trans hc3 qdr);clear hc3 e5 e6)
     | ((with_reducible refine xx rfl rfl 8 (.tmp 27) 62 rfl rfl rfl rfl vz fz.zero (vcs x) ?_ ?_ (vg _) (xw _) ?_);exact (by decide:8 < 40);exact rfl;intro w4 hc4 hb4 hs4;have HN4:=qq (HN3.out.trans hc4 qdr);have Hb4:=qq (show At w4 ⟨w3.heap.size,0,none⟩ [.int .i64 x.k,.int .i64 x.i,.string x.t,.slice none 0 0] from Blk.at_ (cs:=vcs x) hb4);clear hc4 hb4 hs4)
    have HOv4:=qq (HOv.out.chg HN4.out qdr)
    have HBk4:=qq (HBk.out.chg HN4.out id)
    have HW4:=qq (HNw.out.trans HN4.out (fun _ _ x=>x.elim))
    have hul:us.length≤1000:=by have:=Hl.out;have:=HN.out;omega
    have HA4:=qq (fw Ha.out Hfk.out)
    obtain ⟨w5,hw5⟩:=qdq (w4.alloc (.cells #[.int .i64 x.k,.int .i64 x.i,.string x.t,.slice none 0 0] 62))
    have hn5:New w4 w5:=by rw [hw5];exact (Chg.refl _ _).alloc _
    have hb5:Blk w5 w4.heap.size 62 #[.int .i64 x.k,.int .i64 x.i,.string x.t,.slice none 0 0]:=by rw [hw5];exact Blk.new _ _ _
    have hrun:=fz.appendS (HOv4.out.chg hn5 qdr) (qb HW4.out.size hn5.size) (some ⟨w4.heap.size,0,none⟩) 1 1 [vcs x] rfl (fun cs hc=>by rw [qn.1 hc];rfl) (fun cs hc=>by rw [qn.1 hc];exact xw x) (kj (Blk.vcs hb5) (vg x)) (by rw [qd];omega) (by rw [qd];unfold maxLen;omega) 40
    rw [hw5] at hrun
    obtain ⟨v6,w6,hrun,hown6,hc6,-⟩:=hrun
    have hown7:∀ g,(Value.slice Ao us.length co).ownBlock=some g→w1.heap.size≤g:=fun g hg=>(HOv4.out.lt hg).1
    have hb46:=(hn5.mono (T':=fun k=>(Value.slice Ao us.length co).ownBlock=some k) (fun _ _ x=>x.elim)).trans (hw5▸hc6) qdr
    have hbk6:=HBk4.out.chg hb46 (fun h=>by have:=hown7 _ h;have:=HZ.out;omega)
    obtain ⟨A6,k6,rfl,_,_⟩:=hown6.form
    have Hrun:=qq hrun
    have Hown6:=qq hown6
    have HC6:=qq (HW4.out.trans hb46 (fun k hk h=>by have:=hown7 _ h;omega))
    have HBk6:=qq hbk6
    have c46:=HBk4.out.cell 1
    have c66:=hbk6.cell 1
    have f66:=hbk6.frozen 1
    simp only [qx,qj,qw] at c46 c66
    clear hrun hb5 hn5 hw5 hown6 hc6 hb46 hbk6 hown7
    clear HOv HN3 HNw Hc2 Hat H1c Ha Hek
    go_wp2_with first
     | ((with_reducible refine vq rfl (.tmp 8) 62 rfl vz ⟨w3.heap.size,0,none⟩ [.int .i64 x.k,.int .i64 x.i,.string x.t,.slice none 0 0] ?_ rfl Hb4.out ?_);exact rfl)
     | ((with_reducible refine xu rfl (.tmp 33) (.tmp 35) 40 40 rfl ?_ ?_ Hrun.out ?_);exact rfl;exact rfl)
    go_roundw
    case rel=>
     refine ⟨k+1,us++[x],_,by omega,by go_num,HA4.out,by rw [qg,Hl.out];rfl,by simpa using HBk6.out.setCell 1 (.slice A6 (us.length+1) k6),?_,HC6.out.setCell _ _ (fun _=>rfl)⟩
     have ho:=Hown6.out
     simp only [qg,qd,zf,yj] at ho
     rw [jw]
     exact ho.chg (T:=fun k=>k=w.heap.size+1+1) ((Chg.refl _ _).setCell _ _ (fun _=>rfl)) (fun g hg e=>by have:=(ho.lt hg).1;have:=HZ.out;omega)
    case measure=>simp [intOf];omega
  ·have hfull:allO fs=some us:=by
    have h:=Ha.out
    rwa [qc (by rw [Hfs.out,qd, ←HN.out];omega)] at h
   have HOf:=qq (HOv.out.base (qb HN1.out.size (qh _)))
   go_wp2_with first
    | ((with_reducible refine vq rfl (.tmp 4) 42 rfl vd ⟨w.heap.size+1+1,0,none⟩ [.string h,.slice Ao us.length co,.int .i64 s.2] ?_ rfl HBk.out.at_ ?_);exact rfl)
    | ((with_reducible refine xq rfl (.tmp 4) (.tmp 39) 42 rfl rfl vd (w.heap.size+1+1) 42 _ [.string h,.slice Ao us.length co,.int .i64 s.2] ?_ ?_ HBk.out rfl rfl (dv _ _ _ _ _) ?_);exact rfl;exact rfl;intro w5 hc5 hb5 hs5;have HN5:=qq (HNf.out.put hc5 (by omega));have HC5:=qq hc5;have HB5:=qq hb5;clear hc5 hb5 hs5)
   refine bodyPost_ret (v:=.tuple #[.agg #[.string h,.slice Ao us.length co,.int .i64 s.2],.bool true]) (xn (p:=4) (q:=5) vd rfl _ _ ⟨w.heap.size+1+1,0,none⟩ [.string h,.slice Ao us.length co,.int .i64 s.2] rfl (Blk.at_ HB5.out) rfl) rfl ?_
   refine ⟨HN5.out,.inr ⟨⟨h,us,s.2⟩,_,by rw [hfull];rfl,⟨rfl,?_,?_⟩,rfl⟩⟩
   ·have:=Hl.out;show us.length≤1000;omega
   ·exact HOf.out.chg HC5.out (fun g hg e=>by have:=(HOv.out.lt hg).1;have:=HZ.out;omega)
def bz (s:ByteArray):∀ (es:List MapEntry) (m:List (ByteArray×Value)) (i:Nat),es.map (fun e=>(e.key,e.val))=m.map (fun p=>(Value.string p.1,p.2))→
  (∃ n v,Instr.findNow .string (.string s) es i=some (some (i+n,v))∧n < m.length∧∀ v',(∀ z t,lookZ z (m.set n (s,v')) t=if t=s then v' else lookZ z m t)∧(∀ e,es[n]? =some e→e.key=.string s))∨
  (Instr.findNow .string (.string s) es i=some none∧∀ v' z t,lookZ z (m++[(s,v')]) t=if t=s then v' else lookZ z m t)
 | [],[],i,h=>.inr ⟨rfl,fun v' z t=>by
   by_cases ht:t=s
   ·subst ht;simp [lookZ]
   ·have hs:¬ s=t:=fun e=>ht e.symm
    simp [lookZ,ht,hs]⟩
 | [],p::m,i,h=>by cases h
 |e::es,[],i,h=>by cases h
 |e::es,p::m,i,h=>by
  simp only [yi,List.cons.injEq,Prod.mk.injEq] at h
  obtain ⟨⟨hk,hv⟩,ht⟩:=h
  by_cases hs:p.1=s
  ·refine .inl ⟨0,e.val,?_,by simp,fun v'=>⟨fun z t=>?_,fun e' he'=>?_⟩⟩
   ·unfold Instr.findNow
    rw [hk]
    simp only [Instr.sameNow]
    rw [show (s == p.1)=true by rw [beqB,hs];exact decide_eq_true rfl]
    rfl
   ·rw [qy]
    by_cases h2:t=s
    ·subst h2;simp [lookZ]
    ·have h3:¬ s=t:=fun e=>h2 e.symm
     have h4:¬ p.1=t:=fun e=>h3 (hs▸e)
     simp [lookZ,h2,h3,h4]
   ·cases he'
    rw [hk,hs]
  ·have hf:Instr.findNow .string (.string s) (e::es) i=Instr.findNow .string (.string s) es (i+1):=by
    conv=>lhs;unfold Instr.findNow
    rw [hk]
    simp only [Instr.sameNow]
    rw [show (s == p.1)=false by rw [beqB];exact decide_eq_false (fun h=>hs h.symm)]
   have hl:∀ z m' t,lookZ z (p::m') t=if p.1=t then p.2 else lookZ z m' t:=fun z m' t=>by
    by_cases h2:p.1=t <;> simp [lookZ,h2]
   rcases bz s es m (i+1) ht with ⟨n,v,h1,h2,h3⟩| ⟨h1,h2⟩
   ·refine .inl ⟨n+1,v,by rw [hf,h1,show i+1+n=i+(n+1) by omega],by simp;exact h2,fun v'=>⟨fun z t=>?_,fun e' he'=>(h3 v').2 e' (by simpa using he')⟩⟩
    rw [qu,hl,hl,(h3 v').1 z t]
    by_cases h4:p.1=t
    ·rw [if_pos h4,if_pos h4]
     rw [if_neg (fun e=>hs (h4.trans e))]
    ·rw [if_neg h4,if_neg h4]
   ·refine .inr ⟨by rw [hf,h1],fun v' z t=>?_⟩
    rw [js,hl,hl,h2 v' z t]
    by_cases h4:p.1=t
    ·rw [if_pos h4,if_pos h4]
     rw [if_neg (fun e=>hs (h4.trans e))]
    ·rw [if_neg h4,if_neg h4]
def mq {ty e:TypeId} (ht:Tryz.prog.underlying ty=some (.map 9 e)) {w:World} {b:Nat} {m:List (ByteArray×Value)} (h:MapAt w b m) (s:ByteArray) (v:Value):
  ∃ w' m',(Instr.mapUpdate ty (.map (some b)) (.string s) v).run Tryz.prog w=.ok () w'∧MapAt w' b m'∧(∀ z t,lookZ z m' t=if t=s then v else lookZ z m t)∧Chg w w' (fun k=>k=b):=by
 obtain ⟨es,cl,hb,hm⟩:=h
 have hk:=Tryz.underlying9
 generalize Tryz.prog=P at ht hk⊢
 have hck:∀ e,(Instr.checkKey e 10000 9 (.string s)).run P w=.ok () w:=fun e=>by
  rw [show (10000:Nat)=9999+1 from rfl]
  unfold Instr.checkKey
  simp [underlying,hk]
 have hgo:(getObj b).run P w=.ok (.map es cl) w:=by simp [getObj,Sem.run,hb]
 have hset:∀ es' cl',(setObj b (.map es' cl')).run P w=.ok () (w.putObj b (.map es' cl')):=fun es' cl'=>by simp [setObj,Sem.run,hb,World.putObj]
 have hc:∀ o,Chg w (w.putObj b o) (fun k=>k=b):=fun o=>(Chg.of_grown (grownBy_putObj' w b o)).mono fun k _ h=>by cases h;rfl
 have hbs:b < w.heap.size:=xf hb
 rcases bz s es.toList m 0 hm with ⟨n,u,h1,h2,h3⟩| ⟨h1,h2⟩
 ·have hlen:n < es.size:=by
   have:=congrArg List.length hm
   simp at this
   omega
  have hkey:(((es[n]?).map (·.key)).getD (.string s))=.string s:=by
   have he:es[n]? =some es[n]:=by simp [hlen]
   rw [he]
   exact (h3 v).2 es[n] (by rw [Array.getElem?_toList];exact he)
  have hstay:(Instr.keyThatStays (.string s) (.string s)).run P w=.ok (.string s) w:=by
   unfold Instr.keyThatStays
   rw [show (10000:Nat)=9999+1 from rfl]
   unfold Instr.sameBits
   simp [beqB]
  refine ⟨w.putObj b (.map (es.modify n fun e=>{ e with key:=.string s,val:=v }) cl),m.set n (s,v),?_,⟨_,cl,World.putObj_heap_same hbs,?_⟩,(h3 v).1,hc _⟩
  ·rw [jn] at h1
   unfold Instr.mapUpdate
   simp [underlying,ht,hk,hck,hgo,Instr.findKey,h1,hkey,hstay,hset]
  ·apply uv
   intro j
   have hmj:=congrArg (fun l=>l[j]?) hm
   simp only [qa] at hmj
   simp only [qa,Array.toList_modify,List.getElem?_modify,jx]
   by_cases hj:n=j
   ·subst hj
    have he:es.toList[n]? =some es[n]:=by rw [Array.getElem?_toList];simp [hlen]
    simp [he,h2]
   ·simp only [hj,if_false]
    simpa using hmj
 ·refine ⟨w.putObj b (.map (es.push { key:=.string s,val:=v,born:=cl }) (cl+1)),m++[(s,v)],?_,⟨_,_,World.putObj_heap_same hbs,?_⟩,h2 v,hc _⟩
  ·unfold Instr.mapUpdate
   simp [underlying,ht,hk,hck,hgo,Instr.findKey,h1,hset]
  ·rw [Array.toList_push,jw,jw,hm]
   rfl
def run_updM {w:World} {b:Nat} {m:List (ByteArray×Value)} (h:MapAt w b m) (s:ByteArray) (v:Value):
  ∃ w' m',(Instr.mapUpdate 117 (.map (some b)) (.string s) v).run Tryz.prog w=.ok () w'∧MapAt w' b m'∧(∀ t,lookM m' t=if t=s then v else lookM m t)∧Chg w w' (fun k=>k=b):=by
 obtain ⟨w',m',h1,h2,h3,h4⟩:=mq Tryz.underlying117 h s v
 exact ⟨w',m',h1,h2,h3 _,h4⟩
def qbq {w w':World} {rs:List Rw} {e:Ending} (h:MrgPost w rs e w'):∃ A c css out,e=.returned (.slice A out.length c)∧out.length≤c∧c≤maxLen∧out.length≤rs.length∧SrcAt w' A 3 css∧RowsCs w' css out∧IsMerge rs out∧New w w'∧∀ a,A=some a→a.block < w'.heap.size∧w.heap.size≤a.block:=by
 rcases h with ⟨rfl,rfl,hN⟩| ⟨g,c,css,rest,rfl,h1,h2,h3,h4,hT,⟨out,hr,hm⟩,hN⟩
 ·exact ⟨none,0,[],[],rfl,qh _,by unfold maxLen;omega,qh _,fun h=>(by simp at h),⟨rfl,fun i cs h=>(by simp at h)⟩,ct List.Pairwise.nil,hN,fun a h=>(by cases h)⟩
 ·refine ⟨some ⟨g,0,none⟩,c,css,out,by rw [hr.1],by rw [←hr.1];exact h1,h2,by rw [←hr.1];exact h3,fun hp=>⟨_,rfl,fun i cs hi=>⟨hT.k3 cs (qf hi),?_⟩⟩,hr.chg hN,hm,hN,fun a ha=>?_⟩
  ·have:=hT.get hi
   rwa [Addr.add_lit,jn]
  ·cases ha
   exact ⟨hT.blk.lt,h4⟩
def RowAt.stay {w w':World} {cs:List Value} {r:Rw} {T:Nat→Prop} (h:RowAt w cs r) (hc:Chg w w' T) (ht:∀ k,T k→¬ VlB w k):RowAt w' cs r:=by
 obtain ⟨A,c,h1,h2,h3,h4,h5,h6⟩:=h
 exact ⟨A,c,h1,h2,h3,h4,fun hp=>by
  obtain ⟨a,ha,hr⟩:=h5 hp
  exact ⟨a,ha,hr.chg hc (fun e=>ht _ e (h6 a ha))⟩,fun a ha=>(h6 a ha).chg hc (fun e=>ht _ e (h6 a ha))⟩
def RowsCs.stay {w w':World} {css:List (List Value)} {rs:List Rw} {T:Nat→Prop} (h:RowsCs w css rs) (hc:Chg w w' T) (ht:∀ k,T k→¬ VlB w k):RowsCs w' css rs:=⟨h.1,fun i cs hi=>by
 obtain ⟨r,hr,h1⟩:=h.2 i cs hi
 exact ⟨r,hr,h1.stay hc ht⟩⟩
def RowsCs.chgT {w w':World} {css:List (List Value)} {rs:List Rw} {T:Nat→Prop} (h:RowsCs w css rs) (hc:Chg w w' T) (ht:∀ k,T k→∃ es cl,w.heap[k]? =some (.map es cl)):RowsCs w' css rs:=h.stay hc fun k hk ⟨_,_,hv⟩=>by
 obtain ⟨es,cl,hm⟩:=ht k hk
 rw [hm] at hv
 cases hv
def selN (css:List (List Value)) (rs:List Rw) (nm:ByteArray):List (List Value):=(css.zip rs).filterMap (fun p=>if p.2.name=nm then some p.1 else none)
def qdf {css:List (List Value)} {rs:List Rw} (hl:css.length=rs.length) (cs:List Value) (r:Rw) (nm:ByteArray):selN (css++[cs]) (rs++[r]) nm=if r.name=nm then selN css rs nm++[cs] else selN css rs nm:=by
 unfold selN
 rw [List.zip_append hl,yz]
 by_cases h:r.name=nm <;> simp [h]
def qbr {W:World}:∀ {css:List (List Value)} {rs:List Rw},RowsCs W css rs→∀ nm,RowsCs W (selN css rs nm) (named rs nm)
 | [],[],h,nm=>⟨rfl,fun i cs hi=>by simp [selN] at hi⟩
 | [],r::rs,h,nm=>by have:=h.1;simp at this
 |cs::css,[],h,nm=>by have:=h.1;simp at this
 |cs::css,r::rs,h,nm=>by
  have ht:RowsCs W css rs:=⟨by have:=h.1;simpa using this,fun i c hi=>h.2 (i+1) c (by simpa using hi)⟩
  have ih:=qbr ht nm
  obtain ⟨r',hr',hrow⟩:=h.2 0 cs rfl
  cases hr'
  by_cases hn:r.name=nm
  ·have e1:selN (cs::css) (r::rs) nm=cs::selN css rs nm:=by simp [selN,hn]
   have e2:named (r::rs) nm=r::named rs nm:=by simp [named,hn]
   rw [e1,e2]
   refine ⟨by simp [ih.1],fun i c hi=>?_⟩
   cases i with
   |zero=>cases hi;exact ⟨r,rfl,hrow⟩
   |succ i=>obtain ⟨r',h1,h2⟩:=ih.2 i c (by simpa using hi);exact ⟨r',by simpa using h1,h2⟩
  ·have e1:selN (cs::css) (r::rs) nm=selN css rs nm:=by simp [selN,hn]
   have e2:named (r::rs) nm=named rs nm:=by simp [named,hn]
   rw [e1,e2]
   exact ih
structure ByName (W:World) (B bm:Nat) (m:List (ByteArray×Value)) (css:List (List Value)) (rs:List Rw):Prop where
 map:MapAt W bm m
 own:∀ nm,Own W B 42 3 (lookM m nm) (selN css rs nm)
 apart:∀ a b g,(lookM m a).ownBlock=some g→(lookM m b).ownBlock=some g→a=b
def ByName.new {W W':World} {B bm:Nat} {m:List (ByteArray×Value)} {css:List (List Value)} {rs:List Rw} (h:ByName W B bm m css rs) (hc:New W W'):ByName W' B bm m css rs:=
 ⟨h.map.chg hc id,fun nm=>(h.own nm).chg hc qdr,h.apart⟩
def ByName.step {W W1 W2:World} {B bm:Nat} {m m':List (ByteArray×Value)} {css:List (List Value)} {rs:List Rw} (h:ByName W B bm m css rs) (hl:css.length=rs.length) (hbm:bm < B) {cs:List Value} {r:Rw} {v:Value}
  (hv:Own W1 B 42 3 v (selN css rs r.name++[cs])) (hc:Chg W W1 (fun k=>(lookM m r.name).ownBlock=some k)) (hb:∀ k,v.ownBlock=some k→(lookM m r.name).ownBlock=some k∨W.heap.size≤k)
  (hm:MapAt W2 bm m') (hlk:∀ t,lookM m' t=if t=r.name then v else lookM m t) (hc2:Chg W1 W2 (fun k=>k=bm)):ByName W2 B bm m' (css++[cs]) (rs++[r]):=by
 refine ⟨hm,fun nm=>?_,fun a b g ha hb'=>?_⟩
 ·rw [hlk,qdf hl]
  by_cases hn:nm=r.name
  ·subst hn
   rw [if_pos rfl,if_pos rfl]
   exact hv.chg hc2 (fun g hg e=>by have:=(hv.lt hg).1;omega)
  ·rw [if_neg hn,if_neg (fun e=>hn e.symm)]
   have h1:=(h.own nm).chg hc (fun g hg e=>hn (h.apart _ _ g hg e))
   exact h1.chg hc2 (fun g hg e=>by have:=(h1.lt hg).1;omega)
 ·rw [hlk] at ha hb'
  have hlt:∀ t g,(lookM m t).ownBlock=some g→g < W.heap.size:=fun t g hg=>((h.own t).lt hg).2
  by_cases h1:a=r.name
  ·by_cases h2:b=r.name
   ·rw [h1,h2]
   ·rw [if_pos h1] at ha
    rw [if_neg h2] at hb'
    rcases hb g ha with h3|h3
    ·exact absurd (h.apart _ _ g hb' h3) h2
    ·have:=hlt _ _ hb';omega
  ·rw [if_neg h1] at ha
   by_cases h2:b=r.name
   ·rw [if_pos h2] at hb'
    rcases hb g hb' with h3|h3
    ·exact absurd (h.apart _ _ g ha h3) h1
    ·have:=hlt _ _ ha;omega
   ·rw [if_neg h2] at hb'
    exact h.apart _ _ g ha hb'
def ByName.dat {W:World} {B bm:Nat} {m:List (ByteArray×Value)} {css:List (List Value)} {rs:List Rw} (h:ByName W B bm m css rs) (hr:RowsCs W css rs) (hl:rs.length≤100000000) (hok:∀ r∈rs,∀ v∈r.args,okW v):Dat W bm m rs:=
 ⟨h.map,fun nm=>(h.own nm).rowSl (qbr hr nm) (qb (jc _ _) hl),hok⟩
def forever:Int:=1099511627776
def fireV (h:ByteArray) (ts:List Tm) (Ls:List Lt) (rows:List Rw):List Rw:=(waysV rows Ls ([],forever)).filterMap (headV h ts)
def FirePost (w:World) (h:ByteArray) (ts:List Tm) (Ls:List Lt) (rows:List Rw) (e:Ending) (w':World):Prop:=
 ∃ m v out,IsMerge rows m∧IsMerge (fireV h ts Ls m) out∧e=.returned v∧RowSl w' v out∧New w w'
def xt:StT Tryz.prog 47 6:=⟨⟨_,Tryz.underlying47⟩,by kernel_rfl⟩
def FS (b8:Nat) (v:Value) (cso:List (List Value)):Nat→Prop:=fun k=>k=b8∨v.ownBlock=some k∨∃ cs∈cso,∃ u∈cs,u.ownBlock=some k
def FJ (wl:World) (B b8:Nat) (h:ByteArray) (ts:List Tm):List Sta→(Nat→Prop)→World→Prop:=fun zs S W=>
 ∃ v cso,S=FS b8 v cso∧Blk W b8 31 #[v]∧Own W B 42 3 v cso∧RowsOwn W B cso (zs.filterMap (headV h ts))∧Chg wl W (fun k=>k=b8)
def FJ.acc {wl:World} {B b8:Nat} {h:ByteArray} {ts:List Tm} (hB:wl.heap.size≤B) (hb:b8 < wl.heap.size):Acc wl.heap.size (FJ wl B b8 h ts):=by
 constructor
 ·rintro zs S W ⟨v,cso,rfl,h1,h2,h3,h4⟩ k (rfl|hk| ⟨cs,hcs,u,hu,hk⟩)
  ·exact h1.lt
  ·exact (h2.lt hk).2
  ·obtain ⟨i,hi,rfl⟩:=zt hcs
   obtain ⟨r,v',_,ho⟩:=h3.2 i _ (qz hi)
   rw [ho.1] at hu
   simp only [qp,qm,or_false] at hu
   rcases hu with rfl|rfl|rfl
   ·cases hk
   ·exact (ho.2.2.lt hk).2
   ·cases hk
 ·rintro zs S W W' ⟨v,cso,rfl,h1,h2,h3,h4⟩ hc
  refine ⟨v,cso,rfl,h1.chg hc (fun e=>e.2 (.inl rfl)),h2.chg hc (fun g hg e=>e.2 (.inr (.inl hg))),⟨h3.1,fun i cs hi=>?_⟩,h4.trans hc (fun k hk e=>absurd hk (Nat.not_lt.2 e.1))⟩
  obtain ⟨r,v',hr,ho⟩:=h3.2 i cs hi
  exact ⟨r,v',hr,ho.chg hc (fun g hg e=>e.2 (.inr (.inr ⟨cs,qf hi,v',by rw [ho.1];simp,hg⟩)))⟩
def qdd {P:Program} {fn:Func} {q:Tmp} (hr:fn.results=#[.tmp q]) {R:Ending→World→Prop} {D:Nat} {W:World} {tmps:Array Value} (hD:W.heap[D]? =some (.deferred (some []))) (h:R (.returned (tmps.getD q undef)) (W.putObj D (.deferred none))):
  LeavesInM Fence.wide 0 P fn tmps R [{ target:=.collected D,args:=#[] }] .returning W:=
 ⟨by simp,.inl ⟨_,_,rfl,run_takeDeferred hD,_,results_tmp hr _ _ _,h⟩⟩
def at_chgD {w w':World} {D:Nat} {k:Nat} {a:Addr} {css:List (List Value)} (hk:0 < k) (h:RowsAt w a k css) (hp:0 < css.length) (hc:Chg w w' (fun j=>j=D)) (hD:w.heap[D]? =some (.deferred (some []))):RowsAt w' a k css:=by
 refine h.chg hc (fun e=>?_)
 obtain ⟨cs0,hcs⟩:∃ cs,css[0]? =some cs:=⟨_,qz hp⟩
 obtain ⟨hlen,hat⟩:=h 0 cs0 hcs
 obtain ⟨u,hu⟩:∃ u,cs0[0]? =some u:=⟨_,qz (by omega)⟩
 have hce:=hat 0 u hu
 unfold World.cell? at hce
 rw [xr,xr,show a.block=D from e,hD] at hce
 cases hce
def qai {w w':World} {D:Nat} {A:Option Addr} {css:List (List Value)} (h:SrcAt w A 3 css) (hp:0 < css.length) (hc:Chg w w' (fun j=>j=D)) (hD:w.heap[D]? =some (.deferred (some []))):∃ a,A=some a∧RowsAt w' a 3 css:=by
 obtain ⟨a,ha,hr⟩:=h hp
 exact ⟨a,ha,at_chgD (by omega) hr hp hc hD⟩
def RowsCs.chgD {w w':World} {D:Nat} {css:List (List Value)} {rs:List Rw} (h:RowsCs w css rs) (hc:Chg w w' (fun j=>j=D)) (hD:w.heap[D]? =some (.deferred (some []))):RowsCs w' css rs:=h.stay hc fun k hk ⟨_,_,hv⟩=>by
 obtain rfl:=hk
 rw [hD] at hv
 cases hv
def LtsAt.chg {w w':World} {A:Option Addr} {css:List (List Value)} {Ls:List Lt} (h:LtsAt w A css Ls) (hc:New w w'):LtsAt w' A css Ls:=
 ⟨h.len,h.src.chg hc (fun _ _=>id),fun j cs L h1 h2=>(h.at_ j cs L h1 h2).chg hc⟩
def ai {rows:List Rw} (hr:∀ r∈rows,∀ v∈r.args,okW v):∀ {Ls:List Lt},(∀ L∈Ls,okLt L)→∀ {s x:Sta},okEnv s.1→x∈waysV rows Ls s→okEnv x.1∧x.1.length≤s.1.length+(Ls.map Lt.size).sum
 | [],_,s,x,hs,hx=>by
  rw [qn.1 (show x∈[s] from hx)]
  exact ⟨hs,by simp⟩
 |L::Ls,hL,s,x,hs,hx=>by
  obtain ⟨t,ht,hx⟩:=ju.1 (show x∈(nextV rows L s).flatMap (waysV rows Ls) from hx)
  have h1:=lw hr (hL L (zb ..)) hs ht
  have h2:=ai hr (fun L' h=>hL L' (zh _ h)) h1.1 hx
  refine ⟨h2.1,?_⟩
  simp only [yi,List.sum_cons]
  have:=h1.2
  have:=h2.2
  omega
def gi {r0 r3 r4:Value} {h:ByteArray} {A Ab:Option Addr} {n c nb cb:Nat} (h0:r0.oneCell'=true) (h3:r3.oneCell'=true) (h4:r4.oneCell'=true):∀ u∈[r0,.string h,.slice A n c,r3,r4,.slice Ab nb cb],u.oneCell'=true:=by
 intro u hu
 simp only [qp,qm,or_false] at hu
 rcases hu with rfl|rfl|rfl|rfl|rfl|rfl
 ·exact h0
 ·rfl
 ·rfl
 ·exact h3
 ·exact h4
 ·rfl
def ic (s:ByteArray) (i:Int) {v:Value} (hv:v.oneCell'=true):∀ u∈[.string s,v,.int .i64 i],u.oneCell'=true:=gt rfl hv rfl
def RowsOwn.chgB {W W':World} {B:Nat} {cso:List (List Value)} {rs:List Rw} {T:Nat→Prop} (h:RowsOwn W B cso rs) (hc:Chg W W' T) (hT:∀ k,T k→k < B):RowsOwn W' B cso rs:=⟨h.1,fun i cs hi=>by
 obtain ⟨r,v,h1,h2⟩:=h.2 i cs hi
 exact ⟨r,v,h1,h2.chg hc (fun g hg e=>by have:=(h2.2.2.lt hg).1;have:=hT g e;omega)⟩⟩
def FJ.new {wl:World} {B b8:Nat} {h:ByteArray} {ts:List Tm} {pre:List Sta} {x:Sta} {S:Nat→Prop} {W W':World} (hb:b8 < wl.heap.size) (hB:wl.heap.size≤B) (hj:FJ wl B b8 h ts pre S W) (hc:New W W') (hx:headV h ts x=none):Stp (FJ wl B b8 h ts) (pre++[x]) S W W':=by
 obtain ⟨v,cso,rfl,h1,h2,h3,h4⟩:=hj
 refine ⟨_,⟨v,cso,rfl,h1.chg hc id,h2.chg hc qdr,?_,h4.trans hc (fun _ _ h=>h.elim)⟩,hc.mono (fun _ _ h=>h.elim),fun k hk=>.inl hk⟩
 rw [yz,List.filterMap_cons_none hx,List.filterMap_nil,jr]
 exact h3.new hc
def fire_val (w:World) (h:ByteArray) (r0 r3 r4:Value) (A:Option Addr) (n c:Nat) (css:List (List Value)) (ts:List Tm) (hn:n=ts.length) (hnm:n≤1000) (hts:TmsAt w A css ts) (hokt:∀ t∈ts,okTm t)
  (Ab:Option Addr) (nb cb:Nat) (cssb:List (List Value)) (Ls:List Lt) (hnb:nb=Ls.length) (hnc:nb≤cb) (hcm:cb≤maxLen) (hLs:LtsAt w Ab cssb Ls) (hokL:∀ L∈Ls,okLt L) (hsz:(Ls.map Lt.size).sum≤1000)
  (h0:r0.oneCell'=true) (h3:r3.oneCell'=true) (h4:r4.oneCell'=true)
  (vr:Value) (rows:List Rw) (hrs:RowSl w vr rows) (hokr:∀ r∈rows,∀ v∈r.args,okW v) (hmany:∀ m,IsMerge rows m→(waysV m Ls ([],forever)).length≤100000000):
  Calls Tryz.prog 43 #[.agg #[r0,.string h,.slice A n c,r3,r4,.slice Ab nb cb],vr] w (FirePost w h ts Ls rows):=by
 obtain ⟨Ar,cr,cssr,rfl,hr1,hr2,hr3,hrsrc,hrcs,hra⟩:=hrs
 obtain ⟨w1,hw1⟩:=qdq ((w.alloc (.cells #[r0,.string h,.slice A n c,r3,r4,.slice Ab nb cb] 47)).alloc (.map #[] 0))
 have hN1:New w w1:=by rw [hw1];exact ((Chg.refl w _).alloc _).alloc _
 have hb2:Blk w1 w.heap.size 47 #[r0,.string h,.slice A n c,r3,r4,.slice Ab nb cb]:=by rw [hw1];exact (Blk.new w _ _).alloc _
 have hmap:MapAt w1 (w.heap.size+1) []:=by
  refine ⟨#[],0,?_,rfl⟩
  rw [hw1]
  have:=World.alloc_heap_new (w.alloc (.cells #[r0,.string h,.slice A n c,r3,r4,.slice Ab nb cb] 47)) (.map #[] 0)
  rwa [World.size_alloc] at this
 have hsz1:w1.heap.size=w.heap.size+2:=by rw [hw1];simp
 have hmg:=dl w1 Ar cr cssr rows hr1 hr2 hr3 (hrsrc.chg hN1 (fun _ _=>id)) (hrcs.chg hN1) (fun a ha=>zd (hra a ha) hN1.size)
 have hmg2:=hmg.mono (fun e w' hp=>qbq hp)
 have HMg:=qq hmg2
 have HW:=qq hw1
 have HN1:=qq hN1
 have HB2:=qq hb2
 have HMap:=qq hmap
 have HZ1:=qq hsz1
 have HTs:=qq hts
 have HLs:=qq hLs
 have HOkt:=qq hokt
 have HOkL:=qq hokL
 have HOkr:=qq hokr
 have HMany:=qq hmany
 have Hn:=qq hn
 have Hnb:=qq hnb
 have Hsz:=qq hsz
 clear hmg hmg2 hw1 hN1 hb2 hmap hsz1 hts hLs hokt hokL hokr hmany hn hnb hsz hrsrc hrcs hra hr2 hr3
 refine (callsIn_wide (n:=0)).1 (callsIn_of_wp_marks Tryz.func43 rfl trivial ?_ rfl)
 refine wpIn_wide.2 ?_
 simp only [Tryz.ntmps43,zl,zf,yj,Nat.reduceAdd,Nat.reduceSub,yw,yv,yt,yd,jq,js]
 have hmk:∀ w,(Instr.makeMap 117 none).run Tryz.prog w=.ok (.map (some w.heap.size)) (w.alloc (.map #[] 0)):=fun w=>rfl
 go_upto_region 2 with fail
 rw [←HW.out]
 clear hmk
 go_wp2_with (go_at_call 46;refine HMg.out.mono ?_;rintro e wm ⟨Am,cm,cssm,mr,rfl,hm1,hm2,hm3,hmsrc,hmcs,hmg,hN2,hmb⟩;have HMsrc:=qq hmsrc;have HMcs:=qq hmcs;have HMrg:=qq hmg;have HN2:=qq hN2;have HMb:=qq hmb;clear hmsrc hmcs hmg hN2 hmb)
 clear HMg HW
 go_loopw [16] (fun u16 wr=>∃ (k:Nat) (m:List (ByteArray×Value)),k≤mr.length∧u16=.int .i64 k∧ByName wr wm.heap.size (w.heap.size+1) m (cssm.take k) (mr.take k)∧Chg wm wr (fun k=>k=w.heap.size+1)) (fun u _=>mr.length - (intOf u).toNat)
 case atStart=>exact ⟨0,[],qr _,rfl,⟨HMap.out.chg HN2.out id,fun nm=>Own.nil _ _ _ _,fun a b g ha=>(by cases ha)⟩,Chg.refl _ _⟩
 case round=>
  obtain ⟨k,m,hk,rfl,hbn,hcr⟩:=hrel
  have HBn:=qq hbn
  have HCr:=qq hcr
  clear hbn hcr
  by_cases hlt:k < mr.length
  ·obtain ⟨r,hr⟩:∃ r,mr[k]? =some r:=⟨_,qz hlt⟩
   obtain ⟨cs,hcs⟩:∃ cs,cssm[k]? =some cs:=⟨_,qz (by rw [HMcs.out.1];exact hlt)⟩
   obtain ⟨ar,rfl,hrw⟩:=HMsrc.out (by rw [HMcs.out.1];omega)
   obtain ⟨hab1,hab2⟩:=HMb.out ar rfl
   have hat:=(hrw k cs hcs).2.chg HCr.out (fun e=>by rw [xr] at e;have:=HZ1.out;omega)
   obtain ⟨r',hr',hrow⟩:=HMcs.out.2 k cs hcs
   obtain rfl:r=r':=Option.some.inj (hr.symm.trans hr')
   obtain ⟨Aa,ca,rfl,ha1,ha2,ha3,hasrc,hab⟩:=hrow
   have Hat:=qq hat
   have Hr:=qq hr
   have Hcs:=qq hcs
   clear hat hr' hrw hasrc hab hr hcs
   obtain ⟨vL,hvL⟩:=qdp (lookM m r.name)
   have hov:=HBn.out.own r.name
   rw [hvL] at hov
   obtain ⟨AL,cL,rfl,hL1,hL2⟩:=hov.form
   obtain ⟨nL,hnL⟩:=qdp ((selN (cssm.take k) (mr.take k) r.name).length)
   rw [hnL] at hov hvL hL1
   have hnLk:nL≤k:=by
    rw [←hnL]
    unfold selN
    refine qb (jd _ _) ?_
    rw [List.length_zip,ql,ql]
    omega
   have Hov:=qq hov
   have HvL:=qq hvL
   clear hov hvL hnL hL1 hL2
   go_upto_region 5 with first
    | ((with_reducible refine vq rfl (.tmp 18) 42 rfl vd (ar.add (k * 3)) _ ?_ rfl Hat.out ?_);exact rfl)
    | ((with_reducible refine xx rfl rfl 7 (.tmp 19) 42 rfl rfl rfl rfl vd zRow [.string r.name,.slice Aa r.args.length ca,.int .i64 r.stamp] ?_ ?_ rfl (dv _ _ _ _ _) ?_);exact (by decide:7 < 50);exact rfl;intro w4 hc4 hb4 hs4;have HC4:=qq hc4;have HB4:=qq hb4;clear hc4 hb4 hs4)
   refine vj (by kernel_rfl) ?_
   have hcd:=HC4.out.drew
   have HB7:=qq (show Blk w4.drew wr.heap.size 42 #[.string r.name,.slice Aa r.args.length ca,.int .i64 r.stamp] from HB4.out.chg (Chg.refl _ (fun _=>False)).drew id)
   have HBd:=qq (HBn.out.new hcd)
   have HOd:=qq (Hov.out.chg hcd qdr)
   have HCd:=qq (HCr.out.trans hcd (fun _ _ x=>x.elim))
   have hlr:=HCr.out.size
   obtain ⟨b7,hb7⟩:=qdp (wr.heap.size)
   have hne7:∀ g,(Value.slice AL nL cL).ownBlock=some g→g≠b7:=fun g hg e=>by
    have:=(Hov.out.lt hg).2
    omega
   have hbmlt:w.heap.size+1 < wm.heap.size:=by have:=HN2.out.size;have:=HZ1.out;omega
   rw [hb7] at HB7⊢
   have Hb7:=qq hb7
   clear hcd HC4 HB4 hb7 Hat
   generalize w4.drew=wd at HB7 HBd HOd HCd⊢
   have hlw:=HCd.out.size
   have hst:∀ jj uu w1 w2,New w1 w2→(fun
     |0=>fun v _=>v=.map (some (w.heap.size+1))
     |1=>fun v _=>v=.pointer (some ⟨b7,0,none⟩)
     |2=>fun v _=>v=.string r.name
     |3=>fun v _=>v=.map (some (w.heap.size+1))
     |4=>fun v _=>v=.pointer (some ⟨b7,0,none⟩)
     |5=>fun v _=>v=.string r.name
     |6=>fun v _=>v=.slice AL nL cL
     |7=>fun v _=>v=.agg #[.string r.name,.slice Aa r.args.length ca,.int .i64 r.stamp]
     |8=>fun v W=>∃ rb,v=.slice (some ⟨rb,0,none⟩) 1 1∧Blk W rb 42 #[.string r.name,.slice Aa r.args.length ca,.int .i64 r.stamp]
     |9=>fun v W=>Own W wm.heap.size 42 3 v (selN (cssm.take k) (mr.take k) r.name++[[.string r.name,.slice Aa r.args.length ca,.int .i64 r.stamp]])∧∀ k,v.ownBlock=some k→(Value.slice AL nL cL).ownBlock=some k∨wd.heap.size≤k
     |_=>fun _ _=>True:Nat→Value→World→Prop) jj uu w1→(fun
     |0=>fun v _=>v=.map (some (w.heap.size+1))
     |1=>fun v _=>v=.pointer (some ⟨b7,0,none⟩)
     |2=>fun v _=>v=.string r.name
     |3=>fun v _=>v=.map (some (w.heap.size+1))
     |4=>fun v _=>v=.pointer (some ⟨b7,0,none⟩)
     |5=>fun v _=>v=.string r.name
     |6=>fun v _=>v=.slice AL nL cL
     |7=>fun v _=>v=.agg #[.string r.name,.slice Aa r.args.length ca,.int .i64 r.stamp]
     |8=>fun v W=>∃ rb,v=.slice (some ⟨rb,0,none⟩) 1 1∧Blk W rb 42 #[.string r.name,.slice Aa r.args.length ca,.int .i64 r.stamp]
     |9=>fun v W=>Own W wm.heap.size 42 3 v (selN (cssm.take k) (mr.take k) r.name++[[.string r.name,.slice Aa r.args.length ca,.int .i64 r.stamp]])∧∀ k,v.ownBlock=some k→(Value.slice AL nL cL).ownBlock=some k∨wd.heap.size≤k
     |_=>fun _ _=>True:Nat→Value→World→Prop) jj uu w2:=by
    intro j uu w1 w2 hc h
    match j with
    |8=>exact h.imp fun b h=>⟨h.1,h.2.chg hc id⟩
    |9=>exact ⟨h.1.chg hc qdr,h.2⟩
    |0|1|2|3|4|5|6|7=>exact h
    |_+10=>trivial
   refine AtN.segX2 0 10 9 [20,21,22,23,24,25,26,27,28,29] (fun k=>(Value.slice AL nL cL).ownBlock=some k) (fun
     |8=>9
     |_=>999) (fun
     |0=>fun v _=>v=.map (some (w.heap.size+1))
     |1=>fun v _=>v=.pointer (some ⟨b7,0,none⟩)
     |2=>fun v _=>v=.string r.name
     |3=>fun v _=>v=.map (some (w.heap.size+1))
     |4=>fun v _=>v=.pointer (some ⟨b7,0,none⟩)
     |5=>fun v _=>v=.string r.name
     |6=>fun v _=>v=.slice AL nL cL
     |7=>fun v _=>v=.agg #[.string r.name,.slice Aa r.args.length ca,.int .i64 r.stamp]
     |8=>fun v W=>∃ rb,v=.slice (some ⟨rb,0,none⟩) 1 1∧Blk W rb 42 #[.string r.name,.slice Aa r.args.length ca,.int .i64 r.stamp]
     |9=>fun v W=>Own W wm.heap.size 42 3 v (selN (cssm.take k) (mr.take k) r.name++[[.string r.name,.slice Aa r.args.length ca,.int .i64 r.stamp]])∧∀ k,v.ownBlock=some k→(Value.slice AL nL cL).ownBlock=some k∨wd.heap.size≤k
     |_=>fun _ _=>True:Nat→Value→World→Prop) (by kernel_rfl) (by kernel_rfl) (by kernel_rfl) (by kernel_rfl) (fun i hn hi o ho A0 W b hJ hμ hin hk=>?_) (fun l W3 hJ hl hΦ=>?_)
   ·rcases (show i=0∨i=1∨i=2∨i=3∨i=4∨i=5∨i=6∨i=7∨i=8∨i=9 by omega) with rfl|rfl|rfl|rfl|rfl|rfl|rfl|rfl|rfl|rfl<;>cases ho
    ·refine .newX (i:=0) hJ hst ?_
     exact .same (uo 5 (.map (some (w.heap.size+1))) rfl (hk 5)) rfl
    ·have h7:A0.tmps[7]?.getD undef=.pointer (some ⟨b7,0,none⟩):=hk 7
     refine .newX (i:=1) hJ hst ?_
     exact .same (v:=.pointer (some ⟨b7,0,none⟩)) (by simp [go_sem,h7]) rfl
    ·have h21:A0.tmps[21]?.getD undef=.pointer (some ⟨b7,0,none⟩):=hin 1 21
     refine .newX (i:=2) hJ hst ?_
     have hc:W.cell? ⟨b7,0,none⟩=some (.string r.name):=(HB7.out.chg hJ.1 (fun h=>hne7 _ h rfl)).cell 0
     exact .same (v:=.string r.name) (by simp [go_sem,h21,hc]) rfl
    ·refine .newX (i:=3) hJ hst ?_
     exact .same (uo 5 (.map (some (w.heap.size+1))) rfl (hk 5)) rfl
    ·have h7:A0.tmps[7]?.getD undef=.pointer (some ⟨b7,0,none⟩):=hk 7
     refine .newX (i:=4) hJ hst ?_
     exact .same (v:=.pointer (some ⟨b7,0,none⟩)) (by simp [go_sem,h7]) rfl
    ·have h24:A0.tmps[24]?.getD undef=.pointer (some ⟨b7,0,none⟩):=hin 4 24
     refine .newX (i:=5) hJ hst ?_
     have hc:W.cell? ⟨b7,0,none⟩=some (.string r.name):=(HB7.out.chg hJ.1 (fun h=>hne7 _ h rfl)).cell 0
     exact .same (v:=.string r.name) (by simp [go_sem,h24,hc]) rfl
    ·have h23:A0.tmps[23]?.getD undef=.map (some (w.heap.size+1)):=hin 3 23
     have h25:A0.tmps[25]?.getD undef=.string r.name:=hin 5 25
     refine .newX (i:=6) hJ hst ?_
     have hlk:=bj (HBd.out.map.chg hJ.1 (fun h=>by have:=(HOd.out.lt h).1;omega)) r.name
     rw [HvL.out] at hlk
     exact .same (v:=.slice AL nL cL) (by simp [go_sem,h23,h25,hlk]) rfl
    ·have h7:A0.tmps[7]?.getD undef=.pointer (some ⟨b7,0,none⟩):=hk 7
     refine .newX (i:=7) hJ hst ?_
     exact .same (vu 7 _ rfl vd ⟨b7,0,none⟩ [.string r.name,.slice Aa r.args.length ca,.int .i64 r.stamp] h7 rfl (HB7.out.chg hJ.1 (fun h=>hne7 _ h rfl)).at_) rfl
    ·have h27:A0.tmps[27]?.getD undef=.agg #[.string r.name,.slice Aa r.args.length ca,.int .i64 r.stamp]:=hin 7 27
     refine .newX (i:=8) hJ hst ?_
     exact .value (W':=W.alloc (.cells #[.string r.name,.slice Aa r.args.length ca,.int .i64 r.stamp] 42)) (v:=.slice (some ⟨W.heap.size,0,none⟩) 1 1) (by simp [go_sem,h27]) ⟨(Chg.refl _ _).alloc _,_,rfl,Blk.new _ _ _⟩
    ·have h26:A0.tmps[26]?.getD undef=.slice AL nL cL:=hin 6 26
     have h28:=hin 8 28
     obtain ⟨ro,eo,hb⟩:=h28
     have hbf:b=false:=hμ rfl
     have hNn:New wd W:=hJ.2 hbf
     obtain ⟨v1,W',hrun,hown,hchg,hblk⟩:=elRow.appendS (HOd.out.chg hNn qdr) (qb hlw hJ.1.size) (some ⟨ro,0,none⟩) 1 1 [[.string r.name,.slice Aa r.args.length ca,.int .i64 r.stamp]] rfl (fun cs hc=>by rw [qn.1 hc];rfl) (fun cs hc=>by rw [qn.1 hc];exact dv _ _ _ _ _) (kj hb.at_ rfl) (by have:=HOd.out.1.1;have h9:=HOd.out.rows (A:=AL) (n:=nL) (c:=cL) rfl;have:=h9.1;omega) (by have h9:=HOd.out.rows (A:=AL) (n:=nL) (c:=cL) rfl;have:=h9.1;unfold maxLen;omega) 31
     refine .value (gj _ _ _ _ rfl (by simpa [Act.eval] using h26) (by simpa [Act.eval] using eo) hrun) ⟨hJ.turn hchg qdr,⟨hown,fun k hk=>(hblk k hk).imp id (fun h=>qb hJ.1.size h)⟩,fun k u hki hkx hka hkb h=>?_⟩
     match k with
     |8=>exact absurd rfl hkx
     |9=>exact absurd rfl hki
     |0|1|2|3|4|5|6|7=>exact h
     |_+10=>trivial
   obtain ⟨x20,x21,x22,x23,x24,x25,x26,x27,x28,x29,rfl⟩:∃ x20 x21 x22 x23 x24 x25 x26 x27 x28 x29,l=[x20,x21,x22,x23,x24,x25,x26,x27,x28,x29]:=by
    match l,hl with
    | [x20,x21,x22,x23,x24,x25,x26,x27,x28,x29],_=>exact ⟨_,_,_,_,_,_,_,_,_,_,rfl⟩
   obtain rfl:x20=.map (some (w.heap.size+1)):=hΦ 0 (by decide) (by decide)
   obtain rfl:x21=.pointer (some ⟨b7,0,none⟩):=hΦ 1 (by decide) (by decide)
   obtain rfl:x22=.string r.name:=hΦ 2 (by decide) (by decide)
   obtain rfl:x23=.map (some (w.heap.size+1)):=hΦ 3 (by decide) (by decide)
   obtain rfl:x24=.pointer (some ⟨b7,0,none⟩):=hΦ 4 (by decide) (by decide)
   obtain rfl:x25=.string r.name:=hΦ 5 (by decide) (by decide)
   obtain rfl:x26=.slice AL nL cL:=hΦ 6 (by decide) (by decide)
   obtain rfl:x27=.agg #[.string r.name,.slice Aa r.args.length ca,.int .i64 r.stamp]:=hΦ 7 (by decide) (by decide)
   have hx29:(fun v W=>Own W wm.heap.size 42 3 v (selN (cssm.take k) (mr.take k) r.name++[[.string r.name,.slice Aa r.args.length ca,.int .i64 r.stamp]])∧∀ k,v.ownBlock=some k→(Value.slice AL nL cL).ownBlock=some k∨wd.heap.size≤k:Value→World→Prop) x29 W3:=hΦ 9 (by decide) (by decide)
   simp only [putsL,zq,zj,zz,List.zip,List.zipWith,Act.put,qk,qu,qy]
   clear hΦ hl hst
   obtain ⟨hown,hblk⟩:=hx29
   obtain ⟨W4,m',hrun,hm4,hlk4,hc4⟩:=run_updM (HBd.out.map.chg hJ.1 (fun h=>by have:=(HOd.out.lt h).1;omega)) r.name x29
   have hbn4:=HBd.out.step (W1:=W3) (W2:=W4) (by rw [ql,ql,HMcs.out.1]) hbmlt hown (by rw [HvL.out];exact hJ.1) (by rw [HvL.out];exact hblk) hm4 hlk4 hc4
   rw [←vh Hcs.out, ←vh Hr.out] at hbn4
   have hcn:Chg wm W4 (fun k=>k=w.heap.size+1):=(HCd.out.trans hJ.1 (fun k hk h=>by have:=(HOd.out.lt h).1;omega)).trans hc4 (fun k _ h=>h)
   have HBn4:=qq hbn4
   have HCn:=qq hcn
   obtain ⟨A9,n9,c9,rfl⟩:∃ A n c,x29=.slice A n c:=by obtain ⟨A,c,h,_⟩:=hown.form;exact ⟨A,_,c,h⟩
   clear hown hblk hm4 hlk4 hc4 hbn4 hcn hJ HBd HOd HCd HB7
   refine AtN.list 10 11 (by kernel_rfl) ?_
   change wpList _ _ _ [_] _ _
   go_wp2_with fail
   change AtN _ _ _ 11 _ _
   refine AtN.done rfl ?_
   go_wp2_with fail
   go_roundw
   case rel=>exact ⟨k+1,m',by omega,by go_num,HBn4.out,HCn.out⟩
   case measure=>simp [intOf];omega
  ·have hbn:ByName wr wm.heap.size (w.heap.size+1) m cssm mr:=by
    have h:=HBn.out
    rwa [qc (by rw [HMcs.out.1];omega),qc (by omega)] at h
   have hbmlt:w.heap.size+1 < wm.heap.size:=by have:=HN2.out.size;have:=HZ1.out;omega
   have hN1m:New w wm:=HN1.out.trans HN2.out qdr
   have hNr:New w wr:=hN1m.put HCr.out (by omega)
   have hokm:∀ r∈mr,∀ v∈r.args,okW v:=fun r hr=>HOkr.out r (HMrg.out.sub r hr)
   have hD:Dat wr (w.heap.size+1) m mr:=hbn.dat (HMcs.out.chgT HCr.out (fun k hk=>by subst hk;obtain ⟨es,cl,hh,_⟩:=HMap.out.chg HN2.out id;exact ⟨es,cl,hh⟩)) (qb hm3 hr1) hokm
   have HD:=qq hD
   have HNr:=qq hNr
   have HOkm:=qq hokm
   obtain ⟨w4,hw4⟩:=qdq (wr.alloc (.cells #[.slice none 0 0] 31))
   have hn4:New wr w4:=by rw [hw4];exact (Chg.refl _ _).alloc _
   have hb8:Blk w4 wr.heap.size 31 #[.slice none 0 0]:=by rw [hw4];exact Blk.new _ _ _
   have hb24:=((HB2.out.chg HN2.out id).chg HCr.out (by omega)).chg hn4 id
   have c5:=hb24.cell 5
   simp only [qx,qj,qw] at c5
   have HW4:=qq hw4
   have HN4:=qq hn4
   have HB8:=qq hb8
   have HB24:=qq hb24
   obtain ⟨b8,hbe⟩:=qdp (wr.heap.size)
   have Hbe:=qq hbe
   have hzr:=HCr.out.size
   clear hbn hbmlt hN1m hNr hokm hD hw4 hn4 hb8 hb24 hbe HBn HCr
   go_upto_region 8 with fail
   rw [←HW4.out]
   rw [Hbe.out] at HB8⊢
   go_wp2_with (go_at_call 74;refine (pt _ _ _ _ _ _ _).mono ?_;rintro e w5 ⟨rfl,hN5,k1,k2,k3,k4⟩;have HN5:=qq hN5;have J1:=qq k1;have J2:=qq k2;have J3:=qq k3;have J4:=qq k4;clear hN5 k1 k2 k3 k4 c5)
   have HN45:=qq (HN4.out.trans HN5.out qdr)
   have HNw5:=qq (HNr.out.trans HN45.out qdr)
   have hb8l:b8 < w4.heap.size:=HB8.out.lt
   have hb8r:=Hbe.out
   have hb8w:w.heap.size < b8:=by have:=HN2.out.size;have:=HZ1.out;omega
   have HB85:=qq (HB8.out.chg HN5.out id)
   have HB25:=qq (HB24.out.chg HN5.out id)
   have h5l:b8 < w5.heap.size:=zd hb8l HN5.out.size
   have hFS0:∀ k,FS b8 (.slice none 0 0) [] k→k=b8:=fun k hk=>by
    rcases hk with h|h| ⟨cs,hcs,_⟩
    ·exact h
    ·cases h
    ·cases hcs
   have HFS0:=qq hFS0
   refine px (gf:=111) (lb:=#[.pointer (some ⟨w4.heap.size+1,0,none⟩),.pointer (some ⟨w4.heap.size+1+1,0,none⟩),.pointer (some ⟨w4.heap.size,0,none⟩)]) (enc:=StAt) (xs:=waysV mr Ls ([],forever)) (S:=FS b8 (.slice none 0 0) []) rfl (enters_of Tryz.func111 (by kernel_rfl) rfl)
    (FJ w5 w5.heap.size b8 h ts) (fun _ _ _ _=>False) (FJ.acc (qh _) h5l) (fun c=>⟨fun h=>h.elim,fun h=>h.elim⟩) ?hseq ⟨.slice none 0 0,[],rfl,HB85.out,Own.nil _ _ _ _,⟨rfl,fun i cs hi=>by simp at hi⟩,Chg.refl _ _⟩ (fun h hs=>h.less hs) ?round ?done ?stop
   case hseq=>
    intro Jx' hJx'
    have hok0:okEnv ([]:Env):=fun p hp=>by cases hp
    exact tj HD.out Ls HOkL.out w5 HN45.out _ (fun k hk=>by have:=hFS0 k hk;omega) Jx' hJx' _ _ _ Ab nb cb cssb J2.out (fun h=>by have:=hFS0 _ h;omega) Hnb.out hnc hcm (HLs.out.chg HNr.out) ([],forever) none 0 J3.out (fun h=>by have:=hFS0 _ h;omega) ⟨none,0,rfl,qh _,by unfold maxLen;omega,fun hp=>by simp at hp,fun a ha=>by cases ha⟩ hok0 J1.out (fun h=>by have:=hFS0 _ h;omega) (by have:=Hsz.out;simpa using this)
   case stop=>
    rintro D0 c0 pre x rest S' W hx hD hDe hf
    exact hf.elim
   case done=>
    rintro D0 S' W hD hDe ⟨v,cso,rfl,h1,h2,h3,h4⟩ hc hs hnD
    have hrl:cso.length≤100000000:=by
     have h9:=HMany.out mr HMrg.out
     have h10:=h3.1
     have h11:=jd (headV h ts) (waysV mr Ls ([],forever))
     omega
    have hNW:New w W:=HNw5.out.trans h4 (fun k hk h=>by omega)
    have hrs:=h2.rowSl h3.cs (by rw [←h3.1];exact hrl)
    obtain ⟨Ao,co,csso,rfl,q1,q2,q3,q4,q5,q6⟩:=hrs
    have hmg:=(dl W Ao co csso _ q1 q2 q3 q4 q5 q6).mono (fun e w' hp=>qbq hp)
    have c8:=h1.cell 0
    simp only [qx,qj] at c8
    have HMg2:=qq hmg
    have HNW:=qq hNW
    have HDe:=qq hDe
    clear hmg h1 h2 h3 h4 hc hs hnD hDe q4 q5 q6
    go_wp2_with (go_at_call 46;refine HMg2.out.mono ?_;rintro e W8 ⟨A8,c8',css8,out,rfl,p1,p2,p3,p4,p5,p6,p7,p8⟩;have P1:=qq p1;have P2:=qq p2;have P4:=qq p4;have P5:=qq p5;have P6:=qq p6;have P7:=qq p7;have P8:=qq p8;clear p1 p2 p4 p5 p6 p7 p8 c8)
    have hde8:=(P7.out.block D0 (xf HDe.out) id).trans HDe.out
    refine qdd rfl hde8 ?_
    have hcp:Chg W8 (W8.putObj D0 (.deferred none)) (fun k=>k=D0):=(Chg.of_grown (grownBy_putObj' W8 D0 _)).mono fun k _ h=>by cases h;rfl
    refine ⟨mr,_,out,HMrg.out,P6.out,rfl,⟨A8,c8',css8,rfl,qb p3 q1,P1.out,P2.out,fun hp=>?_,P5.out.chgD hcp hde8,fun a ha=>zd (P8.out a ha).1 hcp.size⟩,Chg.put (HNW.out.trans P7.out qdr) hcp (by have:=HNw5.out.size;omega)⟩
    exact qai P4.out hp hcp hde8
   case round=>
    rintro l1 pre x rest S1 v Wr hx hl1 hl2 hlr hl3 hI hsv
    obtain ⟨Ax,cx,rfl⟩:=hsv.cells
    have hokx:=ai HOkm.out HOkL.out (s:=([],forever)) (fun p hp=>by cases hp) (show x∈waysV mr Ls ([],forever) by rw [hx];simp)
    have hlen:pre.length≤100000000:=by
     have:=HMany.out mr HMrg.out
     rw [hx,qg] at this
     omega
    have Hsv:=qq hsv
    have HLr:=qq hlr
    have HOkx:=qq hokx
    clear hsv hlr hokx hx hI
    simp only [qk,qu,qy]
    refine wpIn_region_lit ?_
    refine xo (Wd.round l1) 2 (by rfl) ?_
    change wpList _ _ _ [_,_] _ _
    go_wp2_with ((with_reducible refine xx rfl rfl 9 (.tmp 36) 123 rfl rfl rfl rfl xb th [.slice Ax x.1.length cx,.int .i64 x.2] ?_ ?_ rfl (gu _ _ _ _) ?_);exact (by decide:9 < 50);exact rfl;intro w6 hc6 hb6 hs6;have HC6:=qq hc6;have HB9:=qq hb6;clear hc6 hb6 hs6)
    refine wpListIn_nil ?_
    refine ⟨HC6.out,fun W2 hcW hcA rr hrr hI2=>?_⟩
    have HB9b:=qq (HB9.out.chg hcA (fun h=>by omega))
    have HSx:=qq (Hsv.out.rec HLr.out hcW)
    have HI2:=qq hI2
    obtain ⟨v2,cso,hS1,k1,k2,k3,k4⟩:=hI2
    have hNW:New w W2:=HNw5.out.trans k4 (fun k hk h=>by omega)
    have HNW:=qq hNW
    have HB22:=qq (HB25.out.chg k4 (by omega))
    have hst2:=HSx.out
    have hxl:x.1.length≤1000:=by
     have h9:x.1.length≤(Ls.map Lt.size).sum:=by simpa using HOkx.out.2
     have:=Hsz.out
     omega
    have HHd:=qq (head_val w W2 hNW S1 h r0 r3 r4 (.slice Ab nb cb) A n c css ts Hn.out hnm HTs.out HOkt.out x Ax cx hst2 HOkx.out.1 hxl)
    obtain ⟨b9,hb9⟩:=qdp (Wr.heap.size)
    rw [hb9] at HB9b⊢
    have K1:=qq k1
    have K2:=qq k2
    have K3:=qq k3
    have K4:=qq k4
    have HS1:=qq hS1
    clear hcW hcA hrr hNW hst2 HB9 HC6 k1 k2 k3 k4 hS1
    gi_step
    gi_step
    gi_step
    refine wpIn_region_lit ?_
    refine xo (Wd.round l1) 9 (by rfl) ?_
    change wpList _ _ _ [_,_,_,_,_,_,_,_,_] _ _
    obtain ⟨o,ho⟩:=qdp (headV h ts x)
    rw [ho] at HHd
    have Ho:=qq ho
    clear ho
    cases o with
    |none=>
     go_wp2_with first
      | ((with_reducible refine vq rfl (.tmp 2) 47 rfl xt ⟨w.heap.size,0,none⟩ [r0,.string h,.slice A n c,r3,r4,.slice Ab nb cb] ?_ rfl HB22.out.at_ ?_);exact rfl)
      | ((with_reducible refine vq rfl (.tmp 9) 123 rfl xb ⟨b9,0,none⟩ [.slice Ax x.1.length cx,.int .i64 x.2] ?_ rfl HB9b.out.at_ ?_);exact rfl)
      | (go_at_call 75;refine HHd.out.mono ?_;rintro e W6 ⟨hc6,⟨_,ya,yb,yc,ha,hb,hcc,rfl⟩| ⟨_,_,hx,_⟩⟩;(rotate_left;cases hx);have HC6:=qq hc6;have Hya:=qq ha;have Hyb:=qq hb;have Hyc:=qq hcc;clear hc6 ha hb hcc)
      | ((with_reducible refine xx rfl rfl 10 (.tmp 41) 42 rfl rfl rfl rfl vd zRow [ya,yb,yc] ?_ ?_ rfl (gt Hya.out Hyb.out Hyc.out) ?_);exact (by decide:10 < 50);exact rfl;intro W7 hc7 hb7 hs7;have HC7:=qq (HC6.out.trans hc7 qdr);clear hc7 hb7 hs7)
     refine wpListIn_nil ?_
     gi_wp2
     exact FJ.new h5l (qh _) ⟨v2,cso,HS1.out,K1.out,K2.out,K3.out,K4.out⟩ HC7.out Ho.out
    |some r=>
     go_wp2_with first
      | ((with_reducible refine vq rfl (.tmp 2) 47 rfl xt ⟨w.heap.size,0,none⟩ [r0,.string h,.slice A n c,r3,r4,.slice Ab nb cb] ?_ rfl HB22.out.at_ ?_);exact rfl)
      | ((with_reducible refine vq rfl (.tmp 9) 123 rfl xb ⟨b9,0,none⟩ [.slice Ax x.1.length cx,.int .i64 x.2] ?_ rfl HB9b.out.at_ ?_);exact rfl)
      | (go_at_call 75;refine HHd.out.mono ?_;rintro e W6 ⟨hc6,⟨hx,_⟩| ⟨r',va,hx,hro,rfl⟩⟩;(cases hx);obtain rfl:=Option.some.inj hx;clear hx;have HC6:=qq hc6;have HRo:=qq hro;have Hva:=qq (qcd hro.2.2);clear hc6 hro)
      | ((with_reducible refine xx rfl rfl 10 (.tmp 41) 42 rfl rfl rfl rfl vd zRow [.string r.name,va,.int .i64 r.stamp] ?_ ?_ rfl (ic _ _ Hva.out) ?_);exact (by decide:10 < 50);exact rfl;intro W7 hc7 hb7 hs7;have HC7:=qq (HC6.out.trans hc7 qdr);have HB10:=qq hb7;have HRo7:=qq (HRo.out.chg hc7 qdr);clear hc7 hb7 hs7)
     refine wpListIn_nil ?_
     obtain ⟨b10,hb10⟩:=qdp (W6.heap.size)
     rw [hb10] at HB10⊢
     clear hb10
     have c8:=(K1.out.chg HC7.out id).cell 0
     simp only [qx,qj] at c8
     gi_step
     gi_step
     gi_step
     refine wpIn_region_lit ?_
     refine xo (Wd.round l1) 1 (by rfl) ?_
     change wpList _ _ _ [_] _ _
     go_wp2_with fail
     refine wpListIn_nil ?_
     gi_step
     gi_step
     gi_step
     refine wpIn_region_lit ?_
     refine xo (Wd.round l1) 5 (by rfl) ?_
     change wpList _ _ _ [_,_,_,_,_] _ _
     have hk7:cso.length≤100000000:=by
      have h1:=K3.out.1
      have h2:=jd (headV h ts) pre
      omega
     obtain ⟨w8,hw8⟩:=qdq (W7.alloc (.cells #[.string r.name,va,.int .i64 r.stamp] 42))
     have hn8:New W7 w8:=by rw [hw8];exact (Chg.refl _ _).alloc _
     have hbr:Blk w8 W7.heap.size 42 #[.string r.name,va,.int .i64 r.stamp]:=by rw [hw8];exact Blk.new _ _ _
     have hc78:=HC7.out.trans hn8 qdr
     have hz5:=K4.out.size
     have hrun:=elRow.appendS (K2.out.chg hc78 qdr) (qb hz5 hc78.size) (some ⟨W7.heap.size,0,none⟩) 1 1 [[.string r.name,va,.int .i64 r.stamp]] rfl (fun cs hc=>by rw [qn.1 hc];rfl) (fun cs hc=>by rw [qn.1 hc];exact ic _ _ Hva.out) (kj hbr.at_ rfl) (by omega) (by unfold maxLen;omega) 31
     obtain ⟨v9,w9,hrun,hown9,hc9,hblk9⟩:=hrun
     have hlt2:∀ g,v2.ownBlock=some g→w5.heap.size≤g∧g < W2.heap.size:=fun g hg=>K2.out.lt hg
     have hb89:=(K1.out.chg hc78 id).chg hc9 (fun e=>by have:=(hlt2 _ e).1;omega)
     have hrows9:=(K3.out.new hc78).chg (K2.out.chg hc78 qdr) (by decide) hc9
     have hro9:OwnRow w9 w5.heap.size [.string r.name,va,.int .i64 r.stamp] r va:=by
      obtain ⟨q1,q2,q3⟩:=(HRo7.out.chg hn8 qdr).chg hc9 (fun g hg e=>dy (K2.out.chg hc78 qdr) (HRo7.out.chg hn8 qdr).2.2 (by decide) e hg)
      exact ⟨q1,q2,q3.base hz5⟩
     have hval:∀ g,va.ownBlock=some g→W2.heap.size≤g:=fun g hg=>(HRo7.out.2.2.lt hg).1
     obtain ⟨A9,c9,rfl,_,_⟩:=hown9.form
     rw [hw8] at hrun
     have Hrun:=qq hrun
     have Hown9:=qq hown9
     have Hrows9:=qq (hrows9.snoc hro9)
     have HB89:=qq hb89
     have HC29:=qq ((hc78.mono (T':=fun k=>v2.ownBlock=some k) fun _ _ h=>h.elim).trans hc9 (fun k _ h=>h))
     have HC59:=qq ((K4.out.trans (hc78.mono (T':=fun k=>k=b8) fun _ _ h=>h.elim) (fun k _ h=>h)).trans hc9 (fun k hk e=>by have:=(hlt2 _ e).1;omega))
     have Hblk9:=qq hblk9
     have c89:=hb89.cell 0
     have f89:=hb89.frozen 0
     simp only [qx,qj] at c89
     have Hz8:=qq (hc78.size)
     clear hw8 hn8 hbr hc78 hrun hown9 hc9 hblk9 hb89 hrows9 hro9
     go_wp2_with first
      | ((with_reducible refine vq rfl (.tmp 10) 42 rfl vd ⟨b10,0,none⟩ [.string r.name,va,.int .i64 r.stamp] ?_ rfl HB10.out.at_ ?_);exact rfl)
      | ((with_reducible refine xu rfl (.tmp 44) (.tmp 46) 31 31 rfl ?_ ?_ Hrun.out ?_);exact rfl;exact rfl)
     refine wpListIn_nil ?_
     gi_wp2
     have hs1:=HS1.out
     have hfin:Stp (FJ w5 w5.heap.size b8 h ts) (pre++[x]) S1 W2 (w9.setCell ⟨b8,0,none⟩ (.slice A9 (cso.length+1) c9)):=by
      have ho:=Hown9.out
      rw [qg] at ho
      have hcb:Chg w9 (w9.setCell ⟨b8,0,none⟩ (.slice A9 (cso.length+1) c9)) (fun k=>k=b8):=(Chg.refl _ _).setCell _ _ (fun _=>rfl)
      refine ⟨FS b8 (.slice A9 (cso.length+1) c9) (cso++[[.string r.name,va,.int .i64 r.stamp]]),⟨_,_,rfl,by simpa using HB89.out.setCell 0 (.slice A9 (cso.length+1) c9),ho.chg hcb (fun g hg e=>by have:=(ho.lt hg).1;omega),?_,HC59.out.trans hcb (fun k _ h=>h)⟩,?_,?_⟩
      ·rw [yz,List.filterMap_cons_some Ho.out,List.filterMap_nil]
       exact Hrows9.out.chgB hcb (fun k e=>by omega)
      ·refine (HC29.out.mono fun k _ e=>?_).trans hcb (fun k _ e=>?_)
       ·rw [hs1];exact .inr (.inl e)
       ·rw [hs1];exact .inl e
      ·rintro k (rfl|e| ⟨cs,hcs,u,hu,e⟩)
       ·rw [hs1];exact .inl (.inl rfl)
       ·rcases Hblk9.out k (by rw [qg];exact e) with e|e
        ·rw [hs1];exact .inl (.inr (.inl e))
        ·exact .inr (qb Hz8.out e)
       ·rcases zk.1 hcs with hcs|hcs
        ·rw [hs1];exact .inl (.inr (.inr ⟨cs,hcs,u,hu,e⟩))
        ·rw [qn.1 hcs] at hu
         simp only [qp,qm,or_false] at hu
         rcases hu with rfl|rfl|rfl
         ·cases e
         ·exact .inr (hval k e)
         ·cases e
     exact hfin
end Go.Proofs.YtbpgfnbhihklnaaGreat
