/- Part 4 of what stands beneath. -/
import Derived.Test.YtbpgfnbhihklnaaGreatJ3
import Derived.Laws.RangeString
import Derived.LoopTactic
set_option maxHeartbeats 8000000
set_option maxRecDepth 100000
set_option linter.all false
namespace Go.Proofs.YtbpgfnbhihklnaaGreat
open Go.RowKit Go.Shelf
def me {rs out:List Rw} (h:IsMerge rs out):∀ (k:Nat),rs.length≤k→out.length≤k:=by
 have hnd:out.Nodup:=h.up.imp (fun {a b} h e=>by rw [e,pp.refl] at h;omega)
 have key:∀ (l m:List Rw),l.Nodup→(∀ x∈l,x∈m)→l.length≤m.length:=by
  intro l
  induction l with
  |nil=>intro m _ _;exact qr _
  |cons x l ih=>
   intro m hn hs
   have hxm:=hs x (by simp)
   have hn2:=List.nodup_cons.1 hn
   have:=ih (m.erase x) hn2.2 (fun y hy=>(List.mem_erase_of_ne (show y≠x by rintro rfl;exact hn2.1 hy)).2 (hs y (by simp [hy])))
   rw [List.length_erase_of_mem hxm] at this
   have hpos:0 < m.length:=yl hxm
   simp only [zf]
   omega
 exact fun k hk=>qb (key out rs hnd h.sub) hk
def blk_src {W:World} {g:Nat} {css:List (List Value)} (hb:Blk W g 42 css.flatten.toArray) (h3:∀ cs∈css,cs.length=3):SrcAt W (some ⟨g,0,none⟩) 3 css:=fun _=>⟨_,rfl,fun i cs hi=>⟨h3 cs (qf hi),fun j u hj=>by
 rw [Addr.add_lit,jn,Addr.add_lit,hb.cell]
 have:=xl h3 hi hj
 simpa using this⟩⟩
def qdn {W:World} {g:Nat} {css:List (List Value)} {rs:List Rw} (hb:Blk W g 42 css.flatten.toArray) (hr:RowsCs W css rs) (hl:rs.length≤100000000):RowSl W (.slice (some ⟨g,0,none⟩) rs.length rs.length) rs:=
 ⟨_,_,css,rfl,hl,qh _,by unfold maxLen;omega,blk_src hb hr.k3,hr,fun a ha=>by cases ha;exact hb.lt⟩
def oe {W:World} {cs:List Value} {r:Rw} (h:RowAt W cs r):RowsCs W [cs] [r]:=⟨rfl,fun i c hi=>by
 match i,hi with
 |0,hi=>cases hi;exact ⟨r,rfl,h⟩
 |i+1,hi=>simp at hi⟩
def RowsCs.snoc {w:World} {css:List (List Value)} {rs:List Rw} {cs:List Value} {r:Rw} (h:RowsCs w css rs) (hr:RowAt w cs r):RowsCs w (css++[cs]) (rs++[r]):=by
 refine ⟨by simp [h.1],fun i c hi=>?_⟩
 by_cases hl:i < css.length
 ·rw [qe hl] at hi
  obtain ⟨r',h1,h2⟩:=h.2 i c hi
  exact ⟨r',by rw [qe (by rw [←h.1];exact hl)];exact h1,h2⟩
 ·rw [qi (by omega)] at hi
  have hz:i=css.length:=by
   have:=(qv.1 hi).1
   simp at this
   omega
  subst hz
  rw [yh] at hi
  obtain rfl:cs=c:=by simpa using hi
  exact ⟨r,by rw [qi (by rw [h.1];exact qh _),h.1,yh];rfl,hr⟩
def OwnTab.src {W:World} {B g m:Nat} {css:List (List Value)} {rest:List Value} {out:List Rw} {vs:List Value} (h:OwnTab W B g m css rest out vs):SrcAt W (some ⟨g,0,none⟩) 3 css:=fun _=>⟨_,rfl,fun i cs hi=>by
 refine ⟨h.tab.k3 cs (qf hi),?_⟩
 rw [Addr.add_lit,jn]
 exact h.tab.get hi⟩
def OwnTab.cs {W:World} {B g m:Nat} {css:List (List Value)} {rest:List Value} {out:List Rw} {vs:List Value} (h:OwnTab W B g m css rest out vs) (hv:vs.length=m) (ho:out.length=m):RowsCs W css out:=by
 refine ⟨by rw [h.tab.len,ho],fun i cs hi=>?_⟩
 have hl:=(qv.1 hi).1
 rw [h.tab.len] at hl
 obtain ⟨cs',r,h1,h2,h3⟩:=h.own i vs[i] (qz (by omega))
 rw [hi] at h1
 cases h1
 exact ⟨r,h2,h3.row⟩
def MergePost.rows {w w':World} {rs:List Rw} {e:Ending} (h:MergePost w rs e w'):∃ A c css out,e=.returned (.slice A out.length c)∧IsMerge rs out∧New w w'∧out.length≤c∧c≤maxLen∧SrcAt w' A 3 css∧RowsCs w' css out∧∀ a,A=some a→a.block < w'.heap.size:=by
 obtain ⟨out,h1,h2,h3⟩:=h
 rcases h3 with ⟨h3,h4⟩| ⟨g,c,css,rest,vs,B,h3,h4,h5,h6,h7,h8⟩
 ·subst h3
  exact ⟨none,0,[],[],h4,h1,h2,qh _,qr _,fun h=>absurd h (by simp),⟨rfl,fun i cs h=>by simp at h⟩,fun a h=>by cases h⟩
 ·exact ⟨_,c,css,out,h3,h1,h2,h4,h5,h8.src,h8.cs h7 rfl,fun a ha=>by cases ha;exact h8.tab.blk.lt⟩
def qaa {W:World} {cs ds:List Value} {r s:Rw} (h:RowAt W cs r) (h':RowAt W ds s):RowsCs W [cs,ds] [r,s]:=(oe h).snoc h'
def IntsAt.chg {W W':World} {v:Value} {k n:Nat} {X:Nat→Int} (h:IntsAt W v k n X) (hc:New W W'):IntsAt W' v k n X:=by
 obtain ⟨⟨A,c,h1,h2,h3,h4⟩,h5⟩:=h
 refine ⟨⟨A,c,h1,h2,h3,fun hp=>?_⟩,h5⟩
 obtain ⟨a,ha,hq⟩:=h4 hp
 exact ⟨a,ha,fun q hq'=>hc.cellS (hq q hq') id⟩
def RowSl.nil (W:World):RowSl W (.slice none 0 0) []:=⟨none,0,[],rfl,by simp,qh _,qr _,fun h=>absurd h (by simp),⟨rfl,fun i cs h=>by simp at h⟩,fun a h=>by cases h⟩
def RowSl.form {W:World} {v:Value} {rs:List Rw} (h:RowSl W v rs):∃ A c,v=.slice A rs.length c∧rs.length≤100000000:=by
 obtain ⟨A,c,css,h1,h2,_⟩:=h
 exact ⟨A,c,h1,h2⟩
def RowSl.row {W:World} {A:Option Addr} {n c:Nat} {rs:List Rw} (h:RowSl W (.slice A n c) rs) {i:Nat} {r:Rw} (hi:rs[i]? =some r):∃ a cs,A=some a∧At W (a.add (i * 3)) cs∧cs.length=3∧RowAt W cs r:=by
 obtain ⟨A',c',css,h1,_,_,_,h5,h6,_⟩:=h
 simp only [Value.slice.injEq] at h1
 obtain ⟨rfl,rfl,rfl⟩:=h1
 have hlt:=(qv.1 hi).1
 have hcs:css[i]? =some (css[i]'(by rw [h6.1];exact hlt)):=qz _
 obtain ⟨a,ha,hr⟩:=h5 (by rw [h6.1];omega)
 obtain ⟨r',hr',hrow⟩:=h6.2 i _ hcs
 rw [hi] at hr'
 obtain rfl:=Option.some.inj hr'
 exact ⟨a,_,ha,(hr i _ hcs).2,hrow.cs.1,hrow⟩
def db (w:World) (v:Value) (rs:List Rw) (h:RowSl w v rs):
  Calls Tryz.prog 22 #[v] w fun e w'=>∃ v' out,e=.returned v'∧IsMerge rs out∧RowSl w' v' out∧New w w':=by
 obtain ⟨A,c,css,rfl,h2,h3,h4,h5,h6,h7⟩:=h
 refine (rl w A c css rs h2 h3 h4 h5 h6 h7).mono ?_
 intro e w' hp
 obtain ⟨A',c',css',out,rfl,k1,k2,k3,k4,k5,k6,k7⟩:=hp.rows
 exact ⟨_,out,rfl,k1,⟨A',c',css',rfl,me k1 100000000 h2,k3,k4,k5,k6,k7⟩,k2⟩
def ez (w:World) (v1 v2:Value) (rs:List Rw) (h1:RowSl w v1 rs) (h2:RowSl w v2 rs):
  Calls Tryz.prog 21 #[v1,v2] w fun e w'=>e=.returned (.bool true)∧New w w':=by
 obtain ⟨A,c,css,rfl,a2,a3,a4,a5,a6,a7⟩:=h1
 obtain ⟨B,d,dss,rfl,b2,b3,b4,b5,b6,b7⟩:=h2
 exact qcj w A rs.length c B d css dss rs rfl (by omega) a5 b5 a6 b6
def RowSlC (w:World) (v:Value) (css:List (List Value)) (rs:List Rw):Prop:=∃ A c,v=.slice A rs.length c∧rs.length≤100000000∧rs.length≤c∧c≤maxLen∧SrcAt w A 3 css∧RowsCs w css rs∧∀ a,A=some a→a.block < w.heap.size
def RowSl.cells {w:World} {v:Value} {rs:List Rw} (h:RowSl w v rs):∃ css,RowSlC w v css rs:=by
 obtain ⟨A,c,css,h⟩:=h
 exact ⟨css,A,c,h⟩
def RowSlC.sl {w:World} {v:Value} {css:List (List Value)} {rs:List Rw} (h:RowSlC w v css rs):RowSl w v rs:=by
 obtain ⟨A,c,h⟩:=h
 exact ⟨A,c,css,h⟩
def RowSlC.cs {w:World} {v:Value} {css:List (List Value)} {rs:List Rw} (h:RowSlC w v css rs):RowsCs w css rs:=by
 obtain ⟨A,c,_,_,_,_,_,h,_⟩:=h
 exact h
def mf {B:Nat} {W:World} {v u:Value} {cso css:List (List Value)} {ss:List Rw} (ho:Own W B 42 3 v cso) (hB:B≤W.heap.size) (hu:RowSlC W u css ss) (hl:cso.length≤100000000) (ty:TypeId):
  ∃ v' W',(Builtin.append_ #[31,31] ty #[v,u]).run Tryz.prog W=.ok v' W'∧Own W' B 42 3 v' (cso++css)∧Chg W W' (fun k=>v.ownBlock=some k)∧∀ k,v'.ownBlock=some k→v.ownBlock=some k∨W.heap.size≤k:=by
 obtain ⟨A,c,rfl,h2,h3,h4,h5,h6,h7⟩:=hu
 exact elRow.appendS ho hB A ss.length c css h6.1.symm h6.k3 h6.one h5 (by omega) (by unfold maxLen;omega) ty
def RowsCs.app {w:World} {css dss:List (List Value)} {rs ss:List Rw} (h:RowsCs w css rs) (h':RowsCs w dss ss):RowsCs w (css++dss) (rs++ss):=by
 refine ⟨by simp [h.1,h'.1],fun i c hi=>?_⟩
 by_cases hl:i < css.length
 ·rw [qe hl] at hi
  obtain ⟨r',h1,h2⟩:=h.2 i c hi
  exact ⟨r',by rw [qe (by rw [←h.1];exact hl)];exact h1,h2⟩
 ·rw [qi (by omega)] at hi
  obtain ⟨r',h1,h2⟩:=h'.2 _ c hi
  exact ⟨r',by rw [qi (by rw [←h.1];omega), ←h.1];exact h1,h2⟩
def elBind:ElT Tryz.prog 121 191 5 72 (Value.cells (.agg #[.string ⟨#[]⟩,.int .i64 0,.int .i64 0,.string ⟨#[]⟩,.slice none 0 0])).toList:=
 ElT.mk' (by kernel_rfl) (by kernel_rfl) rfl (by omega) (by intro u hu;simp only [Value.cells,qp,qm,or_false] at hu;rcases hu with rfl|rfl|rfl|rfl|rfl <;> rfl)
def elScope:ElT Tryz.prog 192 191 5 72 (Value.cells (.agg #[.string ⟨#[]⟩,.int .i64 0,.int .i64 0,.string ⟨#[]⟩,.slice none 0 0])).toList:=
 ElT.mk' (by kernel_rfl) (by kernel_rfl) rfl (by omega) (by intro u hu;simp only [Value.cells,qp,qm,or_false] at hu;rcases hu with rfl|rfl|rfl|rfl|rfl <;> rfl)
def stBind:StT Tryz.prog 191 5:=⟨⟨_,Tryz.underlying191⟩,by kernel_rfl⟩
def ClonePostBind (w:World) (css:List (List Value)) (e:Ending) (w':World):Prop:=
 ∃ v',e=.returned v'∧Own w' w.heap.size 191 5 v' css∧New w w'
def ay (w:World) (n c:Nat):Calls Tryz.prog 173 #[.slice none n c] w (ClonePostBind w []):=by
 have hnil:=fun w=>ug (P:=Tryz.prog) w 121 191 none n c 0 0 elBind.und
 go_enter Tryz.func173,Tryz.ntmps173
 go_wp2_with fail
 go_ret
 exact ⟨_,rfl,Own.nil _ _ _ _,Chg.refl _ _⟩
def ti (w:World) (a:Addr) (n c:Nat) (css:List (List Value)) (hn:n=css.length) (hrows:RowsAt w a 5 css) (h1:∀ cs∈css,∀ u∈cs,u.oneCell'=true) (hb:n * 72≤140737488355328) (ha:a.block < w.heap.size):
  Calls Tryz.prog 173 #[.slice (some a) n c] w (ClonePostBind w css):=by
 have hsome:=fun w=>ug (P:=Tryz.prog) w 121 191 (some a) n c 0 0 elBind.und
 obtain ⟨w1,hw1⟩:=qdq (w.alloc (.cells #[] 191))
 have hc1:New w w1:=by rw [hw1];exact (Chg.refl w _).alloc _
 have hk:∀ cs∈css,cs.length=5:=fun cs hc=>by
  obtain ⟨i,hi,rfl⟩:=zt hc
  exact (hrows i _ (qz hi)).1
 have hown1:w1.ownsRow w.heap.size 191 5 (.slice (some ⟨w.heap.size,0,none⟩) 0 0) 0 []:=
  ⟨by simp,.inr ⟨w.heap.size,0,#[],rfl,qh _,by rw [hw1];exact heap_alloc_new w _,qh _,qr _,by simp,by simp⟩⟩
 obtain ⟨v',w',hrun,hown',hgr,_,_⟩:=elBind.append w1 121 w.heap.size _ 0 [] hown1 a n c css.flatten (by rw [xz hk,hn]) (fun j u hj=>by
   have hlt:j < css.flatten.length:=(qv.1 hj).1
   rw [xz hk] at hlt
   have hq:j / 5 < css.length:=ur (by rw [jf];exact hlt)
   have hr:=hrows (j / 5) _ (qz hq)
   have hjr:j % 5 < (css[j / 5]).length:=by rw [hr.1];exact Nat.mod_lt _ (by omega)
   have hu:css.flatten[j / 5 * 5+j % 5]? =some (css[j / 5][j % 5]):=xl hk (qz hq) (qz hjr)
   have hjj:j / 5 * 5+j % 5=j:=by rw [jf];exact un j 5
   rw [hjj] at hu
   rw [hu] at hj
   have hcell:=hr.2 (j % 5) _ (qz hjr)
   rw [add_add,hjj] at hcell
   rw [hc1.cell (by rw [xr];exact ha) id,hcell]
   exact hj) (fun u hu=>by
    obtain ⟨cs,hcs,hu⟩:=List.mem_flatten.1 hu
    exact h1 cs hcs u hu) (by unfold maxLen;omega) (by omega) hc1.size
 simp only [jn,jq] at hown'
 have hfin:ClonePostBind w css (.returned v') w':=by
  refine ⟨v',rfl,⟨by rw [←hn];exact hown',hk⟩,hc1.trans (Chg.of_grown hgr) (fun k hk h=>?_)⟩
  simp only [Value.ownBlock,Option.some.injEq] at h
  omega
 have Hrun:=qq hrun
 have Hfin:=qq hfin
 have HW:=qq hw1
 clear hrun hfin hown' hgr hown1 hrows h1 hc1 hk hn hw1
 go_enter Tryz.func173,Tryz.ntmps173
 go_wp2_with (rw [←HW.out];(with_reducible refine xu rfl (.tmp 5) (.tmp 6) 121 121 rfl ?_ ?_ Hrun.out ?_);exact rfl;exact rfl)
 go_ret
 exact Hfin.out
def qcu (w:World) (A:Option Addr) (n c:Nat) (css:List (List Value)) (hn:n=css.length) (hrows:0 < css.length→∃ a,A=some a∧RowsAt w a 5 css) (hA:∀ a,A=some a→a.block < w.heap.size) (h1:∀ cs∈css,∀ u∈cs,u.oneCell'=true) (hb:n * 72≤140737488355328):
  Calls Tryz.prog 173 #[.slice A n c] w (ClonePostBind w css):=by
 cases A with
 |none=>
  have h0:css=[]:=by
   cases css with
   |nil=>rfl
   |cons x l=>
    obtain ⟨a,h,_⟩:=hrows (by simp)
    cases h
  subst h0
  exact ay w n c
 |some a=>
  refine ti w a n c css hn ?_ h1 hb (hA a rfl)
  intro i cs hi
  obtain ⟨a',he,hr⟩:=hrows (by have:=(qv.1 hi).1;omega)
  injection he with he
  subst he
  exact hr i cs hi
def idxPostBind (css:List (List Value)) (p:List Value→Bool) (w:World) (e:Ending) (w':World):Prop:=
 (∃ i,css.findIdx? p=some i∧e=.returned (.int .i64 i)∧New w w')∨(css.findIdx? p=none∧e=.returned (.int .i64 (-1))∧New w w')
def idxBind (w:World) (A:Option Addr) (n c:Nat) (css:List (List Value)) (hn:n=css.length) (hm:n≤maxLen) (hrows:0 < css.length→∃ a,A=some a∧RowsAt w a 5 css) (g:Nat) (lb:Array Value) (eg:Enters Tryz.prog g) (p:List Value→Bool)
  (T:Nat→Prop) (hp:∀ cs∈css,Says Tryz.prog w T g lb #[.agg cs.toArray] (.bool (p cs))):
  Calls Tryz.prog 202 #[.slice A n c,.func (.func g) #[] lb] w (idxPostBind css p w):=by
 unfold maxLen at hm
 unfold Enters at eg
 have HN:=qq hn
 have Hp:=qq hp
 have Hrows:=qq hrows
 clear hn hp hrows
 go_enter Tryz.func202,Tryz.ntmps202
 go_wp2
 go_loopw [5,8] (fun _ i wr=>∃ k:Nat,k≤n∧i=.int .i64 k∧New w wr∧∀ j cs,j < k→css[j]? =some cs→p cs=false) (fun _ i _=>n - (intOf i).toNat)
 case atStart=>exact ⟨0,qr _,rfl,Chg.refl w _,fun j cs h=>absurd h (by omega)⟩
 case round=>
  obtain ⟨k,hk,rfl,hc,hno⟩:=hrel
  have Hc:=qq hc
  have Hno:=qq hno
  clear hc hno
  by_cases hlt:k < n
  ·obtain ⟨ad,rfl,hrw⟩:=Hrows.out (by rw [←HN.out];omega)
   obtain ⟨cs,hcs⟩:∃ cs,css[k]? =some cs:=⟨_,qz (by rw [←HN.out];exact hlt)⟩
   have hat:=(hrw k cs hcs).2.chg Hc.out id
   have hl:=(hrw k cs hcs).1
   have hs:=Hp.out cs (qf hcs) wr (Hc.out.mono fun _ _ x=>x.elim)
   have Hat:=qq hat
   have Hl:=qq hl
   have Hs:=qq hs
   have Hcs:=qq hcs
   clear hat hl hs hrw hcs
   go_wp2_with ((with_reducible refine vq rfl (.tmp 14) 191 rfl stBind (ad.add (k * 5)) cs ?_ Hl.out Hat.out ?_);exact rfl)
   refine Hs.out.mono ?_
   rintro e w2 ⟨rfl,hc2⟩
   have Hc2:=qq (Hc.out.trans hc2 qdr)
   clear hc2
   obtain ⟨b,hb⟩:=qdp (p cs)
   rw [hb]
   have Hb:=qq hb
   clear hb
   cases b with
   |true=>
    go_wp2_with fail
    go_ret
    refine Or.inl ⟨k,?_,rfl,Hc2.out⟩
    obtain ⟨hlt',he⟩:=qv.1 Hcs.out
    rw [yf]
    refine ⟨hlt',by rw [he];exact Hb.out,fun j hj=>?_⟩
    have:=Hno.out j _ hj (qz (by omega))
    simp [this]
   |false=>
    go_wp2_with fail
    go_roundw
    case rel=>
     refine ⟨k+1,by omega,by go_num,Hc2.out,fun j cs' hj hcs'=>?_⟩
     by_cases hjk:j=k
     ·subst hjk
      have:=Hcs.out.symm.trans hcs'
      simp only [Option.some.injEq] at this
      subst this
      exact Hb.out
     ·exact Hno.out j cs' (by omega) hcs'
    case measure=>simp [intOf];omega
  ·go_wp2_with fail
   go_ret
   refine Or.inr ⟨?_,rfl,Hc.out⟩
   rw [uy]
   intro cs hcs
   obtain ⟨j,hj,rfl⟩:=zt hcs
   exact Hno.out j _ (by have:=HN.out;omega) (qz hj)
def name_one (w:World) (b:UInt8) (h1:97≤b.toNat) (h2:b.toNat≤122):Calls Tryz.prog 142 #[.string ⟨#[b]⟩] w fun e w'=>e=.returned (.bool true)∧New w w':=by
 obtain ⟨s,hs⟩:∃ s:ByteArray,s=⟨#[b]⟩:=⟨_,rfl⟩
 have hsz:s.size=1:=by rw [hs];rfl
 have hget:∀ h:0 < s.size,s[0]'h=b:=by subst hs;intro h;rfl
 have hne:s.toList.isEmpty=false:=by
  rw [ByteArray.toList,ByteArray.toList.loop,if_pos (by omega),ByteArray.toList.loop,if_neg (by omega)]
  rfl
 rw [←hs]
 clear hs
 go_enter Tryz.func142,Tryz.ntmps142
 go_wp2
 go_loopw [3,4,5] (fun _ _ _ wr=>∃ k:Nat,k≤1∧wr=w.iter s k) (fun _ _ _ wr=>match wr.heap[w.heap.size]? with|some (.stringIter _ k)=>1 - k|_=>0)
 case atStart=>exact ⟨0,by omega,rfl⟩
 case round=>
  obtain ⟨k,hk,rfl⟩:=hrel
  by_cases h0:k=0
  ·subst h0
   have hnx:=fun ty=>run_next_ascii (P:=Tryz.prog) w s 0 ty (by omega) (by rw [hget];omega)
   rw [hget] at hnx
   go_wp2
   go_roundw
   case rel=>exact ⟨1,qh _,rfl⟩
   case measure=>
    rw [World.iter_heap,World.iter_heap]
    exact Nat.zero_lt_one
  ·have hk1:k=1:=by omega
   subst hk1
   have hnx:=fun ty=>run_next_end (P:=Tryz.prog) w s 1 ty (by omega)
   go_wp2
   go_ret
   exact ⟨rfl,(Chg.refl w _).alloc _⟩
def okV (v:Vl):Prop:=(v.k=1∧v.t=⟨#[]⟩)∨(v.k=3∧v.i=0∧∃ b:UInt8,v.t=⟨#[b]⟩∧97≤b.toNat∧b.toNat≤122)
def rightV (v:Vl):Bool:=decide (v.k≠1)||(decide (v.i≤2147483647)&&decide (-2147483647≤v.i))
def okV.canon {v:Vl} (h:okV v):canon v:=by
 rcases h with ⟨a,b⟩| ⟨a,b,_⟩
 ·exact .inr ⟨a,b⟩
 ·exact .inl ⟨a,b⟩
def tw (w:World):Calls Tryz.prog 187 #[.agg #[.int .i64 0,.int .i64 0,.string ⟨#[]⟩,.slice none 0 0]] w fun e w'=>e=.returned (.bool true)∧New w w':=by
 go_enter Tryz.func187,Tryz.ntmps187
 go_wp2_with fail
 go_ret
 exact ⟨rfl,(Chg.refl w _).alloc _⟩
def qcz (w:World) (i:Int) (h0:-9223372036854775808≤i) (h1:i≤9223372036854775807) (d:Int):Calls Tryz.prog 163 #[.agg #[.int .i64 1,.int .i64 i,.string ⟨#[]⟩,.slice none 0 0],.int .i64 d] w
  fun e w'=>e=.returned (.bool (decide (i≤2147483647)&&decide (-2147483647≤i)))∧New w w':=by
 go_enter Tryz.func163,Tryz.ntmps163
 go_wp2_with (go_at_call 187;refine (tw _).mono ?_;rintro e w2 ⟨rfl,hc2⟩;have hcl:w2.cell? ⟨w.heap.size,1,none⟩=some (.int .i64 i):=((((Blk.new w _ _).alloc _).alloc _).chg hc2 id).cell 1;have Hc2:=qq hc2;clear hc2)
 all_goals
  go_ret
  refine ⟨?_,((((Chg.refl w _).alloc _).alloc _).alloc _).trans Hc2.out qdr⟩
 ·rename_i h
  simp [h]
 ·rename_i h
  have:¬ i≤2147483647:=by omega
  simp [this]
def qag (w:World) (b:UInt8) (h0:97≤b.toNat) (h1:b.toNat≤122) (d:Int):Calls Tryz.prog 163 #[.agg #[.int .i64 3,.int .i64 0,.string ⟨#[b]⟩,.slice none 0 0],.int .i64 d] w
  fun e w'=>e=.returned (.bool true)∧New w w':=by
 go_enter Tryz.func163,Tryz.ntmps163
 go_wp2_with (go_at_call 187;refine (tw _).mono ?_;rintro e w2 ⟨rfl,hc2⟩;have hcl:w2.cell? ⟨w.heap.size,2,none⟩=some (.string ⟨#[b]⟩):=((((Blk.new w _ _).alloc _).alloc _).chg hc2 id).cell 2;have Hc2:=qq hc2;clear hc2)
 refine (name_one _ b h0 h1).mono ?_
 rintro e w3 ⟨rfl,hc3⟩
 have Hc3:=qq hc3
 clear hc3
 go_wp2_with fail
 go_ret
 exact ⟨rfl,(((((Chg.refl w _).alloc _).alloc _).alloc _).trans Hc2.out qdr).trans Hc3.out qdr⟩
def kl (w:World) (v:Vl) (hv:okV v) (h0:-9223372036854775808≤v.i) (h1:v.i≤9223372036854775807):Calls Tryz.prog 134 #[vval v] w
  fun e w'=>e=.returned (.bool (rightV v))∧New w w':=by
 obtain ⟨k,i,t⟩:=v
 have key:∀ W,Calls Tryz.prog 163 #[.agg #[.int .i64 k,.int .i64 i,.string t,.slice none 0 0],.int .i64 4] W fun e w'=>e=.returned (.bool (rightV ⟨k,i,t⟩))∧New W w':=by
  intro W
  rcases hv with ⟨hk,ht⟩| ⟨hk,hi,b,ht,hb0,hb1⟩
  ·dsimp only at hk ht h0 h1
   subst hk ht
   refine (qcz W i h0 h1 4).mono ?_
   rintro e w' ⟨rfl,hc⟩
   exact ⟨by simp [rightV],hc⟩
  ·dsimp only at hk ht hi
   subst hk ht hi
   refine (qag W b hb0 hb1 4).mono ?_
   rintro e w' ⟨rfl,hc⟩
   exact ⟨by simp [rightV],hc⟩
 obtain ⟨q,hq⟩:=qdp (rightV ⟨k,i,t⟩)
 rw [hq] at key⊢
 clear hq hv
 have Key:=qq key
 clear key
 unfold vval
 dsimp only
 go_enter Tryz.func134,Tryz.ntmps134
 go_wp2_with (go_at_call 163;refine (Key.out _).mono ?_;rintro e w2 ⟨rfl,hc2⟩;have Hc2:=qq hc2;clear hc2)
 go_ret
 exact ⟨rfl,((Chg.refl w _).alloc _).trans Hc2.out qdr⟩
def okR (v:Vl):Option Vl:=if rightV v then some v else none
def zV:Vl:=⟨0,0,⟨#[]⟩⟩
def optV (o:Option Vl):Value:=.tuple #[vval (o.getD zV),.bool o.isSome]
def xh {P:Program} {f:Func} {p:Nat} {ty:TypeId} {k:Nat} (hS:StT P ty k) (hr:f.results=#[.cell p ty]) (W:World) (tmps:Array Value) (ad:Addr) (cs:List Value) (h2:tmps.getD p undef=.pointer (some ad)) (hc:At W ad cs) (hl:cs.length=k):
  (results f tmps).run P W=.ok (.agg cs.toArray) W:=by
 have hl:=kg (P:=P) (w:=W) hS ad cs hl hc
 have ha:(asAddr (.pointer (some ad))).run P W=.ok ad W:=rfl
 rw [ga hr,h2,ha]
 simp only [Result.andThen_ok,hl]
def dw (w:World) (n:Int):Calls Tryz.prog 119 #[.int .i64 n] w fun e w'=>e=.returned (.agg #[.int .i64 1,.int .i64 n,.string ⟨#[]⟩,.slice none 0 0])∧New w w':=by
 have hb:Blk (w.alloc (.cells #[.int .i64 1,.int .i64 n,.string ⟨#[]⟩,.slice none 0 0] 62)) w.heap.size 62 [Value.int .i64 1,.int .i64 n,.string ⟨#[]⟩,.slice none 0 0].toArray:=Blk.new w _ _
 have HB:=qq hb
 clear hb
 go_enter Tryz.func119,Tryz.ntmps119
 go_wp2_with fail
 refine bodyPost_ret (v:=.agg #[.int .i64 1,.int .i64 n,.string ⟨#[]⟩,.slice none 0 0]) (xh vz rfl _ _ ⟨w.heap.size,0,none⟩ [Value.int .i64 1,.int .i64 n,.string ⟨#[]⟩,.slice none 0 0] rfl HB.out.at_ rfl) rfl ⟨rfl,(Chg.refl _ _).alloc _⟩
def xn {P:Program} {f:Func} {p q:Nat} {ty:TypeId} {k:Nat} (hS:StT P ty k) (hr:f.results=#[.cell p ty,.tmp q]) (W:World) (tmps:Array Value) (ad:Addr) (cs:List Value) (h2:tmps.getD p undef=.pointer (some ad)) (hc:At W ad cs) (hl:cs.length=k):
  (results f tmps).run P W=.ok (.tuple #[.agg cs.toArray,tmps.getD q undef]) W:=by
 have hl:=kg (P:=P) (w:=W) hS ad cs hl hc
 have ha:(asAddr (.pointer (some ad))).run P W=.ok ad W:=rfl
 have h2':tmps[p]?.getD undef=.pointer (some ad):=by simpa using h2
 simp [results,hr,Sem.run_bind,h2',ha,hl]
def vg (v:Vl):(vcs v).length=4:=rfl
def xw (v:Vl):∀ u∈vcs v,u.oneCell'=true:=by
 intro u hu
 simp only [vcs,qp,qm,or_false] at hu
 rcases hu with rfl|rfl|rfl|rfl <;> rfl
def iw {cur:Array Value} {cs:List Value} (h:cur.size=cs.length):layA cur 0 cs=cs.toArray:=by
 unfold layA lay
 congr 1
 rw [jo (by simp;omega)]
 simp
def xa {w:World} {g:Nat} {t:TypeId} {cur:Array Value} {cs:List Value} (h:Blk w g t cur) (hc:cur.size=cs.length):At (w.setRow g (layA cur 0 cs)) ⟨g,0,none⟩ cs:=by
 rw [iw hc]
 exact (h.set _).at_
def Blk.vcs {w:World} {g:Nat} {t:TypeId} {v:Vl} (h:Blk w g t #[.int .i64 v.k,.int .i64 v.i,.string v.t,.slice none 0 0]):At w ⟨g,0,none⟩ (vcs v):=Blk.at_ h
def sr (w:World) (v:Vl) (hv:okV v) (h0:-9223372036854775808≤v.i) (h1:v.i≤9223372036854775807):Calls Tryz.prog 206 #[vval v] w
  fun e w'=>e=.returned (optV (okR v))∧New w w':=by
 have key:=fun W=>kl W v hv h0 h1
 have hb:∀ b:Bool,rightV v=b→okR v=if b=true then some v else none:=by intro b hb;rw [←hb];rfl
 obtain ⟨q,hq⟩:=qdp (rightV v)
 rw [hb q hq]
 rw [hq] at key
 clear hb hq hv h0 h1
 have Key:=qq key
 clear key
 unfold vval at *
 cases q with
 |true=>
  go_enter Tryz.func206,Tryz.ntmps206
  go_wp2_with first
   | (
     go_at_call 134;refine (Key.out _).mono ?_;rintro e w2 ⟨rfl,hc2⟩;have Hb1:=qq (((Blk.new w _ _).alloc _).chg hc2 id).vcs
     have hb2:=Blk.new (w.alloc (.cells #[.int .i64 v.k,.int .i64 v.i,.string v.t,.slice none 0 0] 62)) 62 #[.int .i64 0,.int .i64 0,.string ⟨#[]⟩,.slice none 0 0]
     rw [World.size_alloc] at hb2
     have Hb2:=qq (hb2.chg hc2 id);clear hb2
     have hc1:=((((Chg.refl w (fun _=>False)).alloc _).alloc _).trans hc2 qdr);have Hc1:=qq hc1;clear hc2 hc1)
   | ((with_reducible refine vq rfl (.tmp 1) 62 rfl vz ⟨w.heap.size,0,none⟩ (vcs v) ?_ (vg v) Hb1.out ?_);exact rfl)
   | ((with_reducible refine vf rfl (.tmp 2) (.tmp 8) 62 rfl vz (w.heap.size+1) 0 62 _ (vcs v) ?_ ?_ Hb2.out (vg _) ?_ (xw v) ?_);exact rfl;exact rfl;exact qh _)
  refine bodyPost_ret (v:=.tuple #[.agg (vcs v).toArray,.bool true]) (xn (p:=2) (q:=3) vz rfl _ _ ⟨w.heap.size+1,0,none⟩ (vcs v) rfl (xa Hb2.out rfl) rfl) rfl ⟨rfl,Hc1.out.setRow _ _ (fun h=>absurd h (by omega))⟩
 |false=>
  go_enter Tryz.func206,Tryz.ntmps206
  go_wp2_with first
   | (
     go_at_call 134;refine (Key.out _).mono ?_;rintro e w2 ⟨rfl,hc2⟩
     have hb2:=Blk.new (w.alloc (.cells #[.int .i64 v.k,.int .i64 v.i,.string v.t,.slice none 0 0] 62)) 62 #[.int .i64 0,.int .i64 0,.string ⟨#[]⟩,.slice none 0 0]
     rw [World.size_alloc] at hb2
     have Hb2:=qq (hb2.chg hc2 id);clear hb2
     have hc1:=((((Chg.refl w (fun _=>False)).alloc _).alloc _).trans hc2 qdr);have Hc1:=qq hc1;clear hc2 hc1)
   | ((with_reducible refine vf rfl (.tmp 2) (.tmp 7) 62 rfl vz (w.heap.size+1) 0 62 _ (vcs zV) ?_ ?_ Hb2.out (vg _) ?_ (xw zV) ?_);exact rfl;exact rfl;exact qh _)
  refine bodyPost_ret (v:=.tuple #[.agg (vcs zV).toArray,.bool false]) (xn (p:=2) (q:=3) vz rfl _ _ ⟨w.heap.size+1,0,none⟩ (vcs zV) rfl (xa Hb2.out rfl) rfl) rfl ⟨rfl,Hc1.out.setRow _ _ (fun h=>absurd h (by omega))⟩
def opV (m:Bool) (a b:Vl):Option Vl:=if a.k=1∧b.k=1∧rightV a=true∧rightV b=true then okR ⟨1,if m then a.i - b.i else a.i+b.i,⟨#[]⟩⟩ else none
def opS (m:Bool):ByteArray:=if m then ⟨#[45]⟩ else ⟨#[43]⟩
def op_k3 (w:World) (s:ByteArray) (a b:Vl):Calls Tryz.prog 179 #[.string s,.agg #[.int .i64 3,.int .i64 a.i,.string a.t,.slice none 0 0],.agg #[.int .i64 b.k,.int .i64 b.i,.string b.t,.slice none 0 0]] w
  fun e w'=>e=.returned (.tuple #[.agg (vcs zV).toArray,.bool false])∧New w w':=by
 have hb3:=Blk.new ((w.alloc (.cells #[.int .i64 3,.int .i64 a.i,.string a.t,.slice none 0 0] 62)).alloc (.cells #[.int .i64 b.k,.int .i64 b.i,.string b.t,.slice none 0 0] 62)) 62 #[.int .i64 0,.int .i64 0,.string ⟨#[]⟩,.slice none 0 0]
 have hc:=(((Chg.refl w (fun _=>False)).alloc (.cells #[.int .i64 3,.int .i64 a.i,.string a.t,.slice none 0 0] 62)).alloc (.cells #[.int .i64 b.k,.int .i64 b.i,.string b.t,.slice none 0 0] 62)).alloc (.cells #[.int .i64 0,.int .i64 0,.string ⟨#[]⟩,.slice none 0 0] 62)
 have hsz:((w.alloc (.cells #[.int .i64 3,.int .i64 a.i,.string a.t,.slice none 0 0] 62)).alloc (.cells #[.int .i64 b.k,.int .i64 b.i,.string b.t,.slice none 0 0] 62)).heap.size=w.heap.size+1+1:=by simp
 rw [hsz] at hb3
 have Hb3:=qq hb3
 have Hc:=qq hc
 clear hb3 hc
 go_enter Tryz.func179,Tryz.ntmps179
 go_wp2_with ((with_reducible refine vf rfl (.tmp 6) (.tmp 26) 62 rfl vz (w.heap.size+1+1) 0 62 _ (vcs zV) ?_ ?_ Hb3.out (vg _) ?_ (xw zV) ?_);exact rfl;exact rfl;exact qh _)
 refine bodyPost_ret (v:=.tuple #[.agg (vcs zV).toArray,.bool false]) (xn (p:=6) (q:=7) vz rfl _ _ ⟨w.heap.size+1+1,0,none⟩ (vcs zV) rfl (xa Hb3.out rfl) rfl) rfl ⟨rfl,Hc.out.setRow _ _ (fun h=>absurd h (by omega))⟩
def op_k13 (w:World) (s:ByteArray) (a b:Vl):Calls Tryz.prog 179 #[.string s,.agg #[.int .i64 1,.int .i64 a.i,.string a.t,.slice none 0 0],.agg #[.int .i64 3,.int .i64 b.i,.string b.t,.slice none 0 0]] w
  fun e w'=>e=.returned (.tuple #[.agg (vcs zV).toArray,.bool false])∧New w w':=by
 have hb3:=Blk.new ((w.alloc (.cells #[.int .i64 1,.int .i64 a.i,.string a.t,.slice none 0 0] 62)).alloc (.cells #[.int .i64 3,.int .i64 b.i,.string b.t,.slice none 0 0] 62)) 62 #[.int .i64 0,.int .i64 0,.string ⟨#[]⟩,.slice none 0 0]
 have hc:=(((Chg.refl w (fun _=>False)).alloc (.cells #[.int .i64 1,.int .i64 a.i,.string a.t,.slice none 0 0] 62)).alloc (.cells #[.int .i64 3,.int .i64 b.i,.string b.t,.slice none 0 0] 62)).alloc (.cells #[.int .i64 0,.int .i64 0,.string ⟨#[]⟩,.slice none 0 0] 62)
 have hsz:((w.alloc (.cells #[.int .i64 1,.int .i64 a.i,.string a.t,.slice none 0 0] 62)).alloc (.cells #[.int .i64 3,.int .i64 b.i,.string b.t,.slice none 0 0] 62)).heap.size=w.heap.size+1+1:=by simp
 rw [hsz] at hb3
 have Hb3:=qq hb3
 have Hc:=qq hc
 clear hb3 hc
 go_enter Tryz.func179,Tryz.ntmps179
 go_wp2_with ((with_reducible refine vf rfl (.tmp 6) (.tmp 26) 62 rfl vz (w.heap.size+1+1) 0 62 _ (vcs zV) ?_ ?_ Hb3.out (vg _) ?_ (xw zV) ?_);exact rfl;exact rfl;exact qh _)
 refine bodyPost_ret (v:=.tuple #[.agg (vcs zV).toArray,.bool false]) (xn (p:=6) (q:=7) vz rfl _ _ ⟨w.heap.size+1+1,0,none⟩ (vcs zV) rfl (xa Hb3.out rfl) rfl) rfl ⟨rfl,Hc.out.setRow _ _ (fun h=>absurd h (by omega))⟩
def al0 (w:World) (x:Int) (y:Int):(Blk (((w.alloc (.cells #[.int .i64 1,.int .i64 x,.string ⟨#[]⟩,.slice none 0 0] 62)).alloc (.cells #[.int .i64 1,.int .i64 y,.string ⟨#[]⟩,.slice none 0 0] 62)).alloc (.cells #[.int .i64 0,.int .i64 0,.string ⟨#[]⟩,.slice none 0 0] 62)) w.heap.size 62 #[.int .i64 1,.int .i64 x,.string ⟨#[]⟩,.slice none 0 0])∧(Blk (((w.alloc (.cells #[.int .i64 1,.int .i64 x,.string ⟨#[]⟩,.slice none 0 0] 62)).alloc (.cells #[.int .i64 1,.int .i64 y,.string ⟨#[]⟩,.slice none 0 0] 62)).alloc (.cells #[.int .i64 0,.int .i64 0,.string ⟨#[]⟩,.slice none 0 0] 62)) (w.heap.size+1) 62 #[.int .i64 1,.int .i64 y,.string ⟨#[]⟩,.slice none 0 0])∧(Blk (((w.alloc (.cells #[.int .i64 1,.int .i64 x,.string ⟨#[]⟩,.slice none 0 0] 62)).alloc (.cells #[.int .i64 1,.int .i64 y,.string ⟨#[]⟩,.slice none 0 0] 62)).alloc (.cells #[.int .i64 0,.int .i64 0,.string ⟨#[]⟩,.slice none 0 0] 62)) (w.heap.size+1+1) 62 #[.int .i64 0,.int .i64 0,.string ⟨#[]⟩,.slice none 0 0])∧(New w (((w.alloc (.cells #[.int .i64 1,.int .i64 x,.string ⟨#[]⟩,.slice none 0 0] 62)).alloc (.cells #[.int .i64 1,.int .i64 y,.string ⟨#[]⟩,.slice none 0 0] 62)).alloc (.cells #[.int .i64 0,.int .i64 0,.string ⟨#[]⟩,.slice none 0 0] 62))):=by
 have hb1:Blk (((w.alloc (.cells #[.int .i64 1,.int .i64 x,.string ⟨#[]⟩,.slice none 0 0] 62)).alloc (.cells #[.int .i64 1,.int .i64 y,.string ⟨#[]⟩,.slice none 0 0] 62)).alloc (.cells #[.int .i64 0,.int .i64 0,.string ⟨#[]⟩,.slice none 0 0] 62)) w.heap.size 62 #[.int .i64 1,.int .i64 x,.string ⟨#[]⟩,.slice none 0 0]:=((Blk.new w _ _).alloc _).alloc _
 have hb2:Blk (((w.alloc (.cells #[.int .i64 1,.int .i64 x,.string ⟨#[]⟩,.slice none 0 0] 62)).alloc (.cells #[.int .i64 1,.int .i64 y,.string ⟨#[]⟩,.slice none 0 0] 62)).alloc (.cells #[.int .i64 0,.int .i64 0,.string ⟨#[]⟩,.slice none 0 0] 62)) (w.heap.size+1) 62 #[.int .i64 1,.int .i64 y,.string ⟨#[]⟩,.slice none 0 0]:=by
  have:=(Blk.new (w.alloc (.cells #[.int .i64 1,.int .i64 x,.string ⟨#[]⟩,.slice none 0 0] 62)) 62 #[.int .i64 1,.int .i64 y,.string ⟨#[]⟩,.slice none 0 0]).alloc (.cells #[.int .i64 0,.int .i64 0,.string ⟨#[]⟩,.slice none 0 0] 62)
  rwa [World.size_alloc] at this
 have hb3:Blk (((w.alloc (.cells #[.int .i64 1,.int .i64 x,.string ⟨#[]⟩,.slice none 0 0] 62)).alloc (.cells #[.int .i64 1,.int .i64 y,.string ⟨#[]⟩,.slice none 0 0] 62)).alloc (.cells #[.int .i64 0,.int .i64 0,.string ⟨#[]⟩,.slice none 0 0] 62)) (w.heap.size+1+1) 62 #[.int .i64 0,.int .i64 0,.string ⟨#[]⟩,.slice none 0 0]:=by
  have:=Blk.new ((w.alloc (.cells #[.int .i64 1,.int .i64 x,.string ⟨#[]⟩,.slice none 0 0] 62)).alloc (.cells #[.int .i64 1,.int .i64 y,.string ⟨#[]⟩,.slice none 0 0] 62)) 62 #[.int .i64 0,.int .i64 0,.string ⟨#[]⟩,.slice none 0 0]
  rwa [World.size_alloc,World.size_alloc] at this
 have hc:New w (((w.alloc (.cells #[.int .i64 1,.int .i64 x,.string ⟨#[]⟩,.slice none 0 0] 62)).alloc (.cells #[.int .i64 1,.int .i64 y,.string ⟨#[]⟩,.slice none 0 0] 62)).alloc (.cells #[.int .i64 0,.int .i64 0,.string ⟨#[]⟩,.slice none 0 0] 62)):=((Chg.refl w _).alloc _).alloc _ |>.alloc _
 exact ⟨hb1,hb2,hb3,hc⟩
def op_r1 (w:World) (s:ByteArray) (x y:Int) (ka:∀ W,Calls Tryz.prog 134 #[.agg #[.int .i64 1,.int .i64 x,.string ⟨#[]⟩,.slice none 0 0]] W fun e w'=>e=.returned (.bool false)∧New W w'):Calls Tryz.prog 179 #[.string s,.agg #[.int .i64 1,.int .i64 x,.string ⟨#[]⟩,.slice none 0 0],.agg #[.int .i64 1,.int .i64 y,.string ⟨#[]⟩,.slice none 0 0]] w
  fun e w'=>e=.returned (.tuple #[.agg (vcs zV).toArray,.bool false])∧New w w':=by
 have KA:=qq ka
 clear ka
 obtain ⟨hb1,hb2,hb3,hc⟩:=al0 w x y
 have Hb1:=qq hb1
 have Hb2:=qq hb2
 have Hb3:=qq hb3
 have Hc:=qq hc
 clear hb1 hb2 hb3 hc
 go_enter Tryz.func179,Tryz.ntmps179
 go_wp2_with fail
 refine (KA.out _).mono ?_
 rintro e w3 ⟨rfl,hc3⟩
 replace Hb1:=qq (Hb1.out.chg hc3 id)
 replace Hb2:=qq (Hb2.out.chg hc3 id)
 replace Hb3:=qq (Hb3.out.chg hc3 id)
 replace Hc:=qq (Hc.out.trans hc3 qdr)
 clear hc3
 go_wp2_with ((with_reducible refine vf rfl (.tmp 6) (.tmp 26) 62 rfl vz (w.heap.size+1+1) 0 62 _ (vcs zV) ?_ ?_ Hb3.out (vg _) ?_ (xw zV) ?_);exact rfl;exact rfl;exact qh _)
 refine bodyPost_ret (v:=.tuple #[.agg (vcs zV).toArray,.bool false]) (xn (p:=6) (q:=7) vz rfl _ _ ⟨w.heap.size+1+1,0,none⟩ (vcs zV) rfl (xa Hb3.out rfl) rfl) rfl ⟨rfl,Hc.out.setRow _ _ (fun h=>absurd h (by omega))⟩
def op_r2 (w:World) (s:ByteArray) (x y:Int) (ka:∀ W,Calls Tryz.prog 134 #[.agg #[.int .i64 1,.int .i64 x,.string ⟨#[]⟩,.slice none 0 0]] W fun e w'=>e=.returned (.bool true)∧New W w')
  (kb:∀ W,Calls Tryz.prog 134 #[.agg #[.int .i64 1,.int .i64 y,.string ⟨#[]⟩,.slice none 0 0]] W fun e w'=>e=.returned (.bool false)∧New W w'):Calls Tryz.prog 179 #[.string s,.agg #[.int .i64 1,.int .i64 x,.string ⟨#[]⟩,.slice none 0 0],.agg #[.int .i64 1,.int .i64 y,.string ⟨#[]⟩,.slice none 0 0]] w
  fun e w'=>e=.returned (.tuple #[.agg (vcs zV).toArray,.bool false])∧New w w':=by
 have KA:=qq ka
 have KB:=qq kb
 clear ka kb
 obtain ⟨hb1,hb2,hb3,hc⟩:=al0 w x y
 have Hb1:=qq hb1
 have Hb2:=qq hb2
 have Hb3:=qq hb3
 have Hc:=qq hc
 clear hb1 hb2 hb3 hc
 go_enter Tryz.func179,Tryz.ntmps179
 go_wp2_with fail
 refine (KA.out _).mono ?_
 rintro e w3 ⟨rfl,hc3⟩
 replace Hb1:=qq (Hb1.out.chg hc3 id)
 replace Hb2:=qq (Hb2.out.chg hc3 id)
 replace Hb3:=qq (Hb3.out.chg hc3 id)
 replace Hc:=qq (Hc.out.trans hc3 qdr)
 clear hc3
 have Hat:=qq (Blk.vcs (v:=⟨1,y,⟨#[]⟩⟩) Hb2.out)
 go_wp2_with ((with_reducible refine xe ?_ (.tmp 5) 62 rfl vz ⟨w.heap.size+1,0,none⟩ (vcs ⟨1,y,⟨#[]⟩⟩) ?_ (vg _) Hat.out ?_);rfl;exact rfl)
 refine (KB.out _).mono ?_
 rintro e w4 ⟨rfl,hc4⟩
 replace Hb1:=qq (Hb1.out.chg hc4 id)
 replace Hb2:=qq (Hb2.out.chg hc4 id)
 replace Hb3:=qq (Hb3.out.chg hc4 id)
 replace Hc:=qq (Hc.out.trans hc4 qdr)
 clear hc4
 go_wp2_with ((with_reducible refine vf rfl (.tmp 6) (.tmp 26) 62 rfl vz (w.heap.size+1+1) 0 62 _ (vcs zV) ?_ ?_ Hb3.out (vg _) ?_ (xw zV) ?_);exact rfl;exact rfl;exact qh _)
 refine bodyPost_ret (v:=.tuple #[.agg (vcs zV).toArray,.bool false]) (xn (p:=6) (q:=7) vz rfl _ _ ⟨w.heap.size+1+1,0,none⟩ (vcs zV) rfl (xa Hb3.out rfl) rfl) rfl ⟨rfl,Hc.out.setRow _ _ (fun h=>absurd h (by omega))⟩
def op_add (w:World) (x y:Int) (hx0:-2147483647≤x) (hx1:x≤2147483647) (hy0:-2147483647≤y) (hy1:y≤2147483647) (ka:∀ W,Calls Tryz.prog 134 #[.agg #[.int .i64 1,.int .i64 x,.string ⟨#[]⟩,.slice none 0 0]] W fun e w'=>e=.returned (.bool true)∧New W w')
  (kb:∀ W,Calls Tryz.prog 134 #[.agg #[.int .i64 1,.int .i64 y,.string ⟨#[]⟩,.slice none 0 0]] W fun e w'=>e=.returned (.bool true)∧New W w'):Calls Tryz.prog 179 #[.string ⟨#[43]⟩,.agg #[.int .i64 1,.int .i64 x,.string ⟨#[]⟩,.slice none 0 0],.agg #[.int .i64 1,.int .i64 y,.string ⟨#[]⟩,.slice none 0 0]] w
  fun e w'=>e=.returned (optV (okR ⟨1,x+y,⟨#[]⟩⟩))∧New w w':=by
 have KA:=qq ka
 have KB:=qq kb
 clear ka kb
 have kr:∀ W,Calls Tryz.prog 206 #[.agg #[.int .i64 1,.int .i64 (x+y),.string ⟨#[]⟩,.slice none 0 0]] W fun e w'=>∃ u:Vl,∃ q:Bool,optV (okR ⟨1,x+y,⟨#[]⟩⟩)=.tuple #[.agg (vcs u).toArray,.bool q]∧e=.returned (.tuple #[.agg (vcs u).toArray,.bool q])∧New W w':=fun W=>
  (sr W ⟨1,x+y,⟨#[]⟩⟩ (.inl ⟨rfl,rfl⟩) (by dsimp only;omega) (by dsimp only;omega)).mono fun e w' ⟨he,hc⟩=>⟨_,_,rfl,he,hc⟩
 have KR:=qq kr
 clear kr
 obtain ⟨hb1,hb2,hb3,hc⟩:=al0 w x y
 have Hb1:=qq hb1
 have Hb2:=qq hb2
 have Hb3:=qq hb3
 have Hc:=qq hc
 clear hb1 hb2 hb3 hc
 go_enter Tryz.func179,Tryz.ntmps179
 go_wp2_with fail
 refine (KA.out _).mono ?_
 rintro e w3 ⟨rfl,hc3⟩
 replace Hb1:=qq (Hb1.out.chg hc3 id)
 replace Hb2:=qq (Hb2.out.chg hc3 id)
 replace Hb3:=qq (Hb3.out.chg hc3 id)
 replace Hc:=qq (Hc.out.trans hc3 qdr)
 clear hc3
 have Hat:=qq (Blk.vcs (v:=⟨1,y,⟨#[]⟩⟩) Hb2.out)
 go_wp2_with ((with_reducible refine xe ?_ (.tmp 5) 62 rfl vz ⟨w.heap.size+1,0,none⟩ (vcs ⟨1,y,⟨#[]⟩⟩) ?_ (vg _) Hat.out ?_);rfl;exact rfl)
 refine (KB.out _).mono ?_
 rintro e w4 ⟨rfl,hc4⟩
 replace Hb1:=qq (Hb1.out.chg hc4 id)
 replace Hb2:=qq (Hb2.out.chg hc4 id)
 replace Hb3:=qq (Hb3.out.chg hc4 id)
 replace Hc:=qq (Hc.out.trans hc4 qdr)
 clear hc4
 have hcx:=Hb1.out.cell 1
 have hcy:=Hb2.out.cell 1
 simp only [qx,qw,qj] at hcx hcy
 go_wp2_with first
  | (go_at_call 119;refine (dw _ _).mono ?_;rintro e w5 ⟨rfl,hc5⟩;replace Hb3:=qq (Hb3.out.chg hc5 id);replace Hc:=qq (Hc.out.trans hc5 qdr);clear hc5)
  | (go_at_call 206;refine (KR.out _).mono ?_;rintro e w6 ⟨u,q,hu,rfl,hc6⟩;have Hu:=qq hu;clear hu;replace Hb3:=qq (Hb3.out.chg hc6 id);replace Hc:=qq (Hc.out.trans hc6 qdr);clear hc6)
  | ((with_reducible refine vf rfl (.tmp 6) (.tmp 37) 62 rfl vz (w.heap.size+1+1) 0 62 _ (vcs u) ?_ ?_ Hb3.out (vg _) ?_ (xw u) ?_);exact rfl;exact rfl;exact qh _)
 refine bodyPost_ret (v:=.tuple #[.agg (vcs u).toArray,.bool q]) (xn (p:=6) (q:=7) vz rfl _ _ ⟨w.heap.size+1+1,0,none⟩ (vcs u) rfl (xa Hb3.out rfl) rfl) rfl ⟨congrArg Ending.returned Hu.out.symm,Hc.out.setRow _ _ (fun h=>absurd h (by omega))⟩
def op_sub (w:World) (x y:Int) (hx0:-2147483647≤x) (hx1:x≤2147483647) (hy0:-2147483647≤y) (hy1:y≤2147483647) (ka:∀ W,Calls Tryz.prog 134 #[.agg #[.int .i64 1,.int .i64 x,.string ⟨#[]⟩,.slice none 0 0]] W fun e w'=>e=.returned (.bool true)∧New W w')
  (kb:∀ W,Calls Tryz.prog 134 #[.agg #[.int .i64 1,.int .i64 y,.string ⟨#[]⟩,.slice none 0 0]] W fun e w'=>e=.returned (.bool true)∧New W w'):Calls Tryz.prog 179 #[.string ⟨#[45]⟩,.agg #[.int .i64 1,.int .i64 x,.string ⟨#[]⟩,.slice none 0 0],.agg #[.int .i64 1,.int .i64 y,.string ⟨#[]⟩,.slice none 0 0]] w
  fun e w'=>e=.returned (optV (okR ⟨1,x - y,⟨#[]⟩⟩))∧New w w':=by
 have KA:=qq ka
 have KB:=qq kb
 clear ka kb
 have kr:∀ W,Calls Tryz.prog 206 #[.agg #[.int .i64 1,.int .i64 (x - y),.string ⟨#[]⟩,.slice none 0 0]] W fun e w'=>∃ u:Vl,∃ q:Bool,optV (okR ⟨1,x - y,⟨#[]⟩⟩)=.tuple #[.agg (vcs u).toArray,.bool q]∧e=.returned (.tuple #[.agg (vcs u).toArray,.bool q])∧New W w':=fun W=>
  (sr W ⟨1,x - y,⟨#[]⟩⟩ (.inl ⟨rfl,rfl⟩) (by dsimp only;omega) (by dsimp only;omega)).mono fun e w' ⟨he,hc⟩=>⟨_,_,rfl,he,hc⟩
 have KR:=qq kr
 clear kr
 obtain ⟨hb1,hb2,hb3,hc⟩:=al0 w x y
 have Hb1:=qq hb1
 have Hb2:=qq hb2
 have Hb3:=qq hb3
 have Hc:=qq hc
 clear hb1 hb2 hb3 hc
 go_enter Tryz.func179,Tryz.ntmps179
 go_wp2_with fail
 refine (KA.out _).mono ?_
 rintro e w3 ⟨rfl,hc3⟩
 replace Hb1:=qq (Hb1.out.chg hc3 id)
 replace Hb2:=qq (Hb2.out.chg hc3 id)
 replace Hb3:=qq (Hb3.out.chg hc3 id)
 replace Hc:=qq (Hc.out.trans hc3 qdr)
 clear hc3
 have Hat:=qq (Blk.vcs (v:=⟨1,y,⟨#[]⟩⟩) Hb2.out)
 go_wp2_with ((with_reducible refine xe ?_ (.tmp 5) 62 rfl vz ⟨w.heap.size+1,0,none⟩ (vcs ⟨1,y,⟨#[]⟩⟩) ?_ (vg _) Hat.out ?_);rfl;exact rfl)
 refine (KB.out _).mono ?_
 rintro e w4 ⟨rfl,hc4⟩
 replace Hb1:=qq (Hb1.out.chg hc4 id)
 replace Hb2:=qq (Hb2.out.chg hc4 id)
 replace Hb3:=qq (Hb3.out.chg hc4 id)
 replace Hc:=qq (Hc.out.trans hc4 qdr)
 clear hc4
 have hcx:=Hb1.out.cell 1
 have hcy:=Hb2.out.cell 1
 simp only [qx,qw,qj] at hcx hcy
 go_wp2_with first
  | (go_at_call 119;refine (dw _ _).mono ?_;rintro e w5 ⟨rfl,hc5⟩;replace Hb3:=qq (Hb3.out.chg hc5 id);replace Hc:=qq (Hc.out.trans hc5 qdr);clear hc5)
  | (go_at_call 206;refine (KR.out _).mono ?_;rintro e w6 ⟨u,q,hu,rfl,hc6⟩;have Hu:=qq hu;clear hu;replace Hb3:=qq (Hb3.out.chg hc6 id);replace Hc:=qq (Hc.out.trans hc6 qdr);clear hc6)
  | ((with_reducible refine vf rfl (.tmp 6) (.tmp 48) 62 rfl vz (w.heap.size+1+1) 0 62 _ (vcs u) ?_ ?_ Hb3.out (vg _) ?_ (xw u) ?_);exact rfl;exact rfl;exact qh _)
 refine bodyPost_ret (v:=.tuple #[.agg (vcs u).toArray,.bool q]) (xn (p:=6) (q:=7) vz rfl _ _ ⟨w.heap.size+1+1,0,none⟩ (vcs u) rfl (xa Hb3.out rfl) rfl) rfl ⟨congrArg Ending.returned Hu.out.symm,Hc.out.setRow _ _ (fun h=>absurd h (by omega))⟩
def op_val (w:World) (m:Bool) (a b:Vl) (ha:okV a) (hb:okV b) (ha0:-9223372036854775808≤a.i) (ha1:a.i≤9223372036854775807) (hb0:-9223372036854775808≤b.i) (hb1:b.i≤9223372036854775807):
  Calls Tryz.prog 179 #[.string (opS m),vval a,vval b] w fun e w'=>e=.returned (optV (opV m a b))∧New w w':=by
 have ra:=fun W=>kl W a ha ha0 ha1
 have rb:=fun W=>kl W b hb hb0 hb1
 obtain ⟨ka,x,s⟩:=a
 obtain ⟨kb,y,t⟩:=b
 unfold okV at ha hb
 dsimp only at ha hb
 rcases ha with ⟨rfl,rfl⟩| ⟨rfl,rfl,c,rfl,_⟩
 ·rcases hb with ⟨rfl,rfl⟩| ⟨rfl,rfl,d,rfl,_⟩
  ·cases hqa:rightV ⟨1,x,⟨#[]⟩⟩ with
   |false=>
    rw [hqa] at ra
    have:opV m ⟨1,x,⟨#[]⟩⟩ ⟨1,y,⟨#[]⟩⟩=none:=by unfold opV;rw [if_neg (by rw [hqa];simp)]
    rw [this]
    exact op_r1 w (opS m) x y ra
   |true=>
    cases hqb:rightV ⟨1,y,⟨#[]⟩⟩ with
    |false=>
     rw [hqa] at ra
     rw [hqb] at rb
     have:opV m ⟨1,x,⟨#[]⟩⟩ ⟨1,y,⟨#[]⟩⟩=none:=by unfold opV;rw [if_neg (by rw [hqb];simp)]
     rw [this]
     exact op_r2 w (opS m) x y ra rb
    |true=>
     rw [hqa] at ra
     rw [hqb] at rb
     have:opV m ⟨1,x,⟨#[]⟩⟩ ⟨1,y,⟨#[]⟩⟩=okR ⟨1,if m then x - y else x+y,⟨#[]⟩⟩:=by unfold opV;rw [if_pos ⟨rfl,rfl,hqa,hqb⟩]
     rw [this]
     simp only [rightV,ne_eq,not_true_eq_false,decide_false,Bool.false_or,qt,decide_eq_true_eq] at hqa hqb
     cases m with
     |false=>exact op_add w x y hqa.2 hqa.1 hqb.2 hqb.1 ra rb
     |true=>exact op_sub w x y hqa.2 hqa.1 hqb.2 hqb.1 ra rb
  ·have:opV m ⟨1,x,⟨#[]⟩⟩ ⟨3,0,⟨#[d]⟩⟩=none:=by unfold opV;rw [if_neg (by simp)]
   rw [this]
   exact op_k13 w (opS m) ⟨1,x,⟨#[]⟩⟩ ⟨3,0,⟨#[d]⟩⟩
 ·have:opV m ⟨3,0,⟨#[c]⟩⟩ ⟨kb,y,t⟩=none:=by unfold opV;rw [if_neg (by simp)]
  rw [this]
  exact op_k3 w (opS m) ⟨3,0,⟨#[c]⟩⟩ ⟨kb,y,t⟩
abbrev Env:=List (ByteArray×Vl)
def bcs (p:ByteArray×Vl):List Value:=[.string p.1,.int .i64 p.2.k,.int .i64 p.2.i,.string p.2.t,.slice none 0 0]
def lookE (env:Env) (s:ByteArray):Option Vl:=(env.find? (fun p=>decide (p.1=s))).map (·.2)
def aa (env:Env):∀ cs∈env.map bcs,∀ u∈cs,u.oneCell'=true:=by
 intro cs hc u hu
 obtain ⟨p,_,rfl⟩:=zi.1 hc
 simp only [bcs,qp,qm,or_false] at hu
 rcases hu with rfl|rfl|rfl|rfl|rfl <;> rfl
def qap (a b:ByteArray):(a.toList == b.toList)=decide (a=b):=by
 by_cases h:a=b
 ·simp [h]
 ·rw [decide_eq_false h,beq_eq_false_iff_ne]
  exact fun e=>h (ByteArray.ext (Array.toList_inj.1 (by rw [←ByteArray.toList_eq, ←ByteArray.toList_eq];exact e)))
def nameOf (cs:List Value):ByteArray:=match cs with| .string s::_=>s|_=>⟨#[]⟩
def look1 (w:World) (p:ByteArray×Vl) (s:ByteArray) (a:Addr) (ha:w.cell? a=some (.string s)):
  Calls Tryz.prog 203 #[.agg (bcs p).toArray,.pointer (some a)] w fun e w'=>e=.returned (.bool (decide (p.1=s)))∧New w w':=by
 have hc1:New w (w.alloc (.cells #[.string p.1,.int .i64 p.2.k,.int .i64 p.2.i,.string p.2.t,.slice none 0 0] 191)):=(Chg.refl w _).alloc _
 have ha1:=hc1.cellS ha id
 have Hc:=qq hc1
 clear hc1
 unfold bcs
 go_enter Tryz.func203,Tryz.ntmps203
 go_wp2_with fail
 go_ret
 refine ⟨congrArg (fun b=>Ending.returned (.bool b)) (qap p.1 s),Hc.out⟩
def qcg {env:Env} {s:ByteArray} {i:Nat} (h:(env.map bcs).findIdx? (fun cs=>decide (nameOf cs=s))=some i):∃ p,env[i]? =some p∧lookE env s=some p.2:=by
 rw [yf] at h
 obtain ⟨hlt,hp,hno⟩:=h
 rw [qd] at hlt
 simp only [List.getElem_map] at hp hno
 refine ⟨env[i],qz hlt,?_⟩
 unfold lookE
 have hf:env.find? (fun p=>decide (p.1=s))=some env[i]:=by
  rw [List.find?_eq_some_iff_getElem]
  exact ⟨hp,i,hlt,rfl,fun j hj=>by have:=hno j hj;simp only [nameOf,bcs] at this;have h2:¬ env[j].1=s:=fun e=>this (decide_eq_true e);rw [decide_eq_false h2];rfl⟩
 rw [hf]
 rfl
def qcl {env:Env} {s:ByteArray} (h:(env.map bcs).findIdx? (fun cs=>decide (nameOf cs=s))=none):lookE env s=none:=by
 rw [uy] at h
 unfold lookE
 have:env.find? (fun p=>decide (p.1=s))=none:=by
  rw [uh]
  intro p hp
  have:=h (bcs p) (zi.2 ⟨p,hp,rfl⟩)
  simp only [nameOf,bcs] at this
  intro h
  exact absurd (of_decide_eq_true h) (of_decide_eq_false this)
 rw [this]
 rfl
def fp (w:World) (A:Option Addr) (n c:Nat) (env:Env) (s:ByteArray) (hn:n=env.length) (hm:n≤1000) (hs:SrcAt w A 5 (env.map bcs)):
  Calls Tryz.prog 176 #[.slice A n c,.string s] w fun e w'=>e=.returned (optV (lookE env s))∧New w w':=by
 have eg:=enters_of Tryz.func203 (by kernel_rfl) rfl
 have hb1:Blk ((w.alloc (.cells #[.string s] 9)).alloc (.cells #[.int .i64 0,.int .i64 0,.string ⟨#[]⟩,.slice none 0 0] 62)) w.heap.size 9 #[.string s]:=(Blk.new w _ _).alloc _
 have hb2:Blk ((w.alloc (.cells #[.string s] 9)).alloc (.cells #[.int .i64 0,.int .i64 0,.string ⟨#[]⟩,.slice none 0 0] 62)) (w.heap.size+1) 62 #[.int .i64 0,.int .i64 0,.string ⟨#[]⟩,.slice none 0 0]:=by
  have:=Blk.new (w.alloc (.cells #[.string s] 9)) 62 #[.int .i64 0,.int .i64 0,.string ⟨#[]⟩,.slice none 0 0]
  rwa [World.size_alloc] at this
 have hc:New w ((w.alloc (.cells #[.string s] 9)).alloc (.cells #[.int .i64 0,.int .i64 0,.string ⟨#[]⟩,.slice none 0 0] 62)):=((Chg.refl w _).alloc _).alloc _
 obtain ⟨w1,hw1⟩:=qdq ((w.alloc (.cells #[.string s] 9)).alloc (.cells #[.int .i64 0,.int .i64 0,.string ⟨#[]⟩,.slice none 0 0] 62))
 rw [←hw1] at hb1 hb2 hc
 have hs1:=hs.chg hc (fun _ _=>id)
 have hidx:=idxBind w1 A n c (env.map bcs) (by rw [qd];exact hn) (by unfold maxLen;omega) hs1 203 #[.pointer (some ⟨w.heap.size,0,none⟩)] eg (fun cs=>decide (nameOf cs=s)) (fun _=>False) (fun cs hcs W hW=>by
  obtain ⟨p,_,rfl⟩:=zi.1 hcs
  exact look1 W p s ⟨w.heap.size,0,none⟩ ((hb1.chg hW id).cell 0))
 have Hidx:=qq hidx
 have Hb2:=qq hb2
 have Hc:=qq hc
 have HW:=qq hw1
 have Hs:=qq hs1
 have Hn:=qq hn
 clear hidx hb1 hb2 hc hw1 hs hs1 hn eg
 go_enter Tryz.func176,Tryz.ntmps176
 cases hl:(env.map bcs).findIdx? (fun cs=>decide (nameOf cs=s)) with
 |none=>
  have hR:=qcl hl
  have HL:=qq hl
  rw [hR]
  clear hl hR
  go_wp2_with first
   | (rw [←HW.out];go_at_call 202;refine Hidx.out.mono ?_;rintro e w2 (⟨i,hi,rfl,hc2⟩| ⟨hi,rfl,hc2⟩);(exact absurd (HL.out.symm.trans hi) (by simp));replace Hb2:=qq (Hb2.out.chg hc2 id);replace Hc:=qq (Hc.out.trans hc2 qdr);clear hc2 hi)
   | ((with_reducible refine vf rfl (.tmp 4) (.tmp 12) 62 rfl vz (w.heap.size+1) 0 62 _ (vcs zV) ?_ ?_ Hb2.out (vg _) ?_ (xw zV) ?_);exact rfl;exact rfl;exact qh _)
  refine bodyPost_ret (v:=.tuple #[.agg (vcs zV).toArray,.bool false]) (xn (p:=4) (q:=5) vz rfl _ _ ⟨w.heap.size+1,0,none⟩ (vcs zV) rfl (xa Hb2.out rfl) rfl) rfl ⟨rfl,Hc.out.setRow _ _ (fun h=>absurd h (by omega))⟩
 |some i=>
  obtain ⟨p,hp,hR⟩:=qcg hl
  obtain ⟨ad,rfl,hrw⟩:=Hs.out (by rw [qd];have:=(qv.1 hp).1;omega)
  have hat:=(hrw i (bcs p) (by rw [qa,hp];rfl)).2
  have hilt:i < n:=by rw [Hn.out];exact (qv.1 hp).1
  have hv:At w1 ⟨(ad.add (i * 5)).block,(ad.add (i * 5)).off+1,none⟩ (vcs p.2):=fun j u hj=>by
   have:=hat (j+1) u (by simpa [bcs,vcs] using hj)
   rw [add_add,show i * 5+(j+1)=(i * 5+j)+1 by omega,gk] at this
   rw [Addr.add_lit,xr,pm]
   rwa [show ad.off+i * 5+1+j=ad.off+(i * 5+j+1) by omega]
  have HL:=qq hl
  have Hv:=qq hv
  rw [hR]
  clear hl hR hat hv hrw hp
  go_wp2_with first
   | (
     rw [←HW.out];go_at_call 202;refine Hidx.out.mono ?_;rintro e w2 (⟨k,hi,rfl,hc2⟩| ⟨hi,rfl,hc2⟩);(rotate_left;exact absurd (HL.out.symm.trans hi) (by simp));obtain rfl:i=k:=by simpa using HL.out.symm.trans hi
     replace Hb2:=qq (Hb2.out.chg hc2 id);replace Hv:=qq (Hv.out.chg hc2 id);replace Hc:=qq (Hc.out.trans hc2 qdr);clear hc2 hi)
   | ((with_reducible refine vq rfl (.tmp 16) 62 rfl vz ⟨(ad.add (i * 5)).block,(ad.add (i * 5)).off+1,none⟩ (vcs p.2) ?_ (vg _) Hv.out ?_);exact rfl)
   | ((with_reducible refine vf rfl (.tmp 4) (.tmp 17) 62 rfl vz (w.heap.size+1) 0 62 _ (vcs p.2) ?_ ?_ Hb2.out (vg _) ?_ (xw p.2) ?_);exact rfl;exact rfl;exact qh _)
  refine bodyPost_ret (v:=.tuple #[.agg (vcs p.2).toArray,.bool true]) (xn (p:=4) (q:=5) vz rfl _ _ ⟨w.heap.size+1,0,none⟩ (vcs p.2) rfl (xa Hb2.out rfl) rfl) rfl ⟨rfl,Hc.out.setRow _ _ (fun h=>absurd h (by omega))⟩
open Go.RowKit
inductive Tm where
 |var (s:ByteArray)
 |val (v:Vl)
 |op (m:Bool) (a b:Tm)
def evalT (env:Env):Tm→Option Vl
 | .var s=>lookE env s
 | .val v=>some v
 | .op m a b=>match evalT env a,evalT env b with
  |some x,some y=>opV m x y
  |_,_=>none
def okW (v:Vl):Prop:=okV v∧-9223372036854775808≤v.i∧v.i≤9223372036854775807
def okTm:Tm→Prop
 | .var _=>True
 | .val v=>okW v
 | .op _ a b=>okTm a∧okTm b
def okEnv (env:Env):Prop:=∀ p∈env,okW p.2
def lookE_ok {env:Env} (h:okEnv env) {s:ByteArray} {v:Vl} (hv:lookE env s=some v):okW v:=by
 unfold lookE at hv
 cases hf:env.find? (fun p=>decide (p.1=s)) with
 |none=>rw [hf] at hv;cases hv
 |some p=>
  rw [hf] at hv
  cases hv
  exact h p (List.mem_of_find?_eq_some hf)
def okR_ok {n:Int} {v:Vl} (hv:okR ⟨1,n,⟨#[]⟩⟩=some v):okW v:=by
 unfold okR at hv
 by_cases h:rightV ⟨1,n,⟨#[]⟩⟩=true
 ·rw [if_pos h] at hv
  cases hv
  simp only [rightV,ne_eq,not_true_eq_false,decide_false,Bool.false_or,qt,decide_eq_true_eq] at h
  exact ⟨.inl ⟨rfl,rfl⟩,by dsimp only at h⊢;omega,by dsimp only at h⊢;omega⟩
 ·rw [if_neg h] at hv
  cases hv
def opV_ok {m:Bool} {a b v:Vl} (hv:opV m a b=some v):okW v:=by
 unfold opV at hv
 by_cases h:a.k=1∧b.k=1∧rightV a=true∧rightV b=true
 ·rw [if_pos h] at hv
  exact okR_ok hv
 ·rw [if_neg h] at hv
  cases hv
def pn {env:Env} (h:okEnv env):∀ {t:Tm},okTm t→∀ {v:Vl},evalT env t=some v→okW v
 | .var s,_,v,hv=>lookE_ok h hv
 | .val u,hu,v,hv=>by cases hv;exact hu
 | .op m a b,_,v,hv=>by
  unfold evalT at hv
  split at hv
  ·exact opV_ok hv
  ·cases hv
def TmAt (w:World):List Value→Tm→Prop
 |cs,.var s=>cs=[.int .i64 1,.string s]++vcs zV++[.slice none 0 0]
 |cs,.val v=>cs=[.int .i64 2,.string ⟨#[]⟩]++vcs v++[.slice none 0 0]
 |cs,.op m a b=>∃ ad c ca cb,cs=[.int .i64 4,.string (opS m)]++vcs zV++[.slice (some ad) 2 c]∧ad.block < w.heap.size∧RowsAt w ad 7 [ca,cb]∧TmAt w ca a∧TmAt w cb b
def TmAt.chg {w w':World} (hc:New w w'):∀ {t:Tm} {cs:List Value},TmAt w cs t→TmAt w' cs t
 | .var s,cs,h=>h
 | .val v,cs,h=>h
 | .op m a b,cs,⟨ad,c,ca,cb,h1,h2,h3,h4,h5⟩=>⟨ad,c,ca,cb,h1,zd h2 hc.size,h3.chg hc id,TmAt.chg hc h4,TmAt.chg hc h5⟩
def TmAt.len {w:World} {t:Tm} {cs:List Value} (h:TmAt w cs t):cs.length=7:=by
 cases t with
 |var s=>rw [show cs=_ from h];rfl
 |val v=>rw [show cs=_ from h];rfl
 |op m a b=>obtain ⟨ad,c,ca,cb,h1,_⟩:=h;rw [h1];rfl
def fi (w:World) (v:Vl):Calls Tryz.prog 152 #[.agg #[.int .i64 v.k,.int .i64 v.i,.string v.t,.slice none 0 0]] w fun e w'=>e=.returned (.agg (vcs v).toArray)∧New w w':=by
 have hb2:Blk ((w.alloc (.cells #[.int .i64 v.k,.int .i64 v.i,.string v.t,.slice none 0 0] 62)).alloc (.cells #[.int .i64 v.k,.int .i64 v.i,.string v.t,.slice none 0 0] 62)) (w.heap.size+1) 62 #[.int .i64 v.k,.int .i64 v.i,.string v.t,.slice none 0 0]:=by
  have:=Blk.new (w.alloc (.cells #[.int .i64 v.k,.int .i64 v.i,.string v.t,.slice none 0 0] 62)) 62 #[.int .i64 v.k,.int .i64 v.i,.string v.t,.slice none 0 0]
  rwa [World.size_alloc] at this
 have Hb:=qq hb2
 clear hb2
 go_enter Tryz.func152,Tryz.ntmps152
 go_wp2_with fail
 refine bodyPost_ret (v:=.agg (vcs v).toArray) (xh vz rfl _ _ ⟨w.heap.size+1,0,none⟩ (vcs v) rfl Hb.out.vcs rfl) rfl ⟨rfl,((Chg.refl w _).alloc _).alloc _⟩
def eval_var (w:World) (A:Option Addr) (n c:Nat) (env:Env) (s:ByteArray) (hn:n=env.length) (hm:n≤1000) (hs:SrcAt w A 5 (env.map bcs)):
  Calls Tryz.prog 151 #[.slice A n c,.agg #[.int .i64 1,.string s,.int .i64 0,.int .i64 0,.string ⟨#[]⟩,.slice none 0 0,.slice none 0 0]] w fun e w'=>e=.returned (optV (lookE env s))∧New w w':=by
 obtain ⟨w1,hw1⟩:=qdq ((w.alloc (.cells #[.int .i64 1,.string s,.int .i64 0,.int .i64 0,.string ⟨#[]⟩,.slice none 0 0,.slice none 0 0] 64)).alloc (.cells #[.int .i64 0,.int .i64 0,.string ⟨#[]⟩,.slice none 0 0] 62))
 have hc:New w w1:=by rw [hw1];exact ((Chg.refl w _).alloc _).alloc _
 have hb2:Blk w1 (w.heap.size+1) 62 #[.int .i64 0,.int .i64 0,.string ⟨#[]⟩,.slice none 0 0]:=by
  rw [hw1]
  have:=Blk.new (w.alloc (.cells #[.int .i64 1,.string s,.int .i64 0,.int .i64 0,.string ⟨#[]⟩,.slice none 0 0,.slice none 0 0] 64)) 62 #[.int .i64 0,.int .i64 0,.string ⟨#[]⟩,.slice none 0 0]
  rwa [World.size_alloc] at this
 have hl:=fp w1 A n c env s hn hm (hs.chg hc (fun _ _=>id))
 obtain ⟨u,q,hu⟩:∃ (u:Vl) (q:Bool),optV (lookE env s)=.tuple #[.agg (vcs u).toArray,.bool q]:=⟨_,_,rfl⟩
 rw [hu] at hl⊢
 have Hl:=qq hl
 have Hb2:=qq hb2
 have Hc:=qq hc
 have HW:=qq hw1
 clear hl hb2 hc hw1 hu hs hn
 go_enter Tryz.func151,Tryz.ntmps151
 go_wp2_with first
  | (go_at_call 176;rw [←HW.out];refine Hl.out.mono ?_;rintro e w2 ⟨rfl,hc2⟩;replace Hb2:=qq (Hb2.out.chg hc2 id);replace Hc:=qq (Hc.out.trans hc2 qdr);clear hc2)
  | ((with_reducible refine vf rfl (.tmp 4) (.tmp 16) 62 rfl vz (w.heap.size+1) 0 62 _ (vcs u) ?_ ?_ Hb2.out (vg _) ?_ (xw u) ?_);exact rfl;exact rfl;exact qh _)
 refine bodyPost_ret (v:=.tuple #[.agg (vcs u).toArray,.bool q]) (xn (p:=4) (q:=5) vz rfl _ _ ⟨w.heap.size+1,0,none⟩ (vcs u) rfl (xa Hb2.out rfl) rfl) rfl ⟨rfl,Hc.out.setRow _ _ (fun h=>absurd h (by omega))⟩
def eval_lit (w:World) (sc:Value) (v:Vl):
  Calls Tryz.prog 151 #[sc,.agg #[.int .i64 2,.string ⟨#[]⟩,.int .i64 v.k,.int .i64 v.i,.string v.t,.slice none 0 0,.slice none 0 0]] w fun e w'=>e=.returned (optV (some v))∧New w w':=by
 obtain ⟨w1,hw1⟩:=qdq ((w.alloc (.cells #[.int .i64 2,.string ⟨#[]⟩,.int .i64 v.k,.int .i64 v.i,.string v.t,.slice none 0 0,.slice none 0 0] 64)).alloc (.cells #[.int .i64 0,.int .i64 0,.string ⟨#[]⟩,.slice none 0 0] 62))
 have hc:New w w1:=by rw [hw1];exact ((Chg.refl w _).alloc _).alloc _
 have hb2:Blk w1 (w.heap.size+1) 62 #[.int .i64 0,.int .i64 0,.string ⟨#[]⟩,.slice none 0 0]:=by
  rw [hw1]
  have:=Blk.new (w.alloc (.cells #[.int .i64 2,.string ⟨#[]⟩,.int .i64 v.k,.int .i64 v.i,.string v.t,.slice none 0 0,.slice none 0 0] 64)) 62 #[.int .i64 0,.int .i64 0,.string ⟨#[]⟩,.slice none 0 0]
  rwa [World.size_alloc] at this
 have Hb2:=qq hb2
 have Hc:=qq hc
 have HW:=qq hw1
 clear hb2 hc hw1
 go_enter Tryz.func151,Tryz.ntmps151
 go_wp2_with ((with_reducible refine vf rfl (.tmp 4) (.tmp 21) 62 rfl vz (w.heap.size+1) 0 62 _ (vcs v) ?_ ?_ (by rw [←HW.out];exact Hb2.out) (vg _) ?_ (xw v) ?_);exact rfl;exact rfl;exact qh _)
 rw [←HW.out]
 refine bodyPost_ret (v:=.tuple #[.agg (vcs v).toArray,.bool true]) (xn (p:=4) (q:=5) vz rfl _ _ ⟨w.heap.size+1,0,none⟩ (vcs v) rfl (xa Hb2.out rfl) rfl) rfl ⟨rfl,Hc.out.setRow _ _ (fun h=>absurd h (by omega))⟩
def xy:StT Tryz.prog 64 7:=⟨⟨_,Tryz.underlying64⟩,by kernel_rfl⟩
def elTerm:ElT Tryz.prog 44 64 7 104 (Value.cells (.agg #[.int .i64 0,.string ⟨#[]⟩,.int .i64 0,.int .i64 0,.string ⟨#[]⟩,.slice none 0 0,.slice none 0 0])).toList:=
 ElT.mk' (by kernel_rfl) (by kernel_rfl) rfl (by omega) (by intro u hu;simp only [Value.cells,qp,qm,or_false] at hu;rcases hu with rfl|rfl|rfl|rfl|rfl|rfl|rfl <;> rfl)
def kj {w:World} {g k:Nat} {cs:List Value} (h:At w ⟨g,0,none⟩ cs) (hk:cs.length=k:=by rfl):SrcAt w (some ⟨g,0,none⟩) k [cs]:=fun _=>⟨_,rfl,fun j d hj=>by
 match j,hj with
 |0,hj=>cases hj;exact ⟨hk,by rw [yo];exact h⟩
 |j+1,hj=>simp at hj⟩
section
variable {P:Program} {ops:Array Oper} {Q:Exit→Act→World→Prop} {o:Oper} {rest:List Oper} {a:Act} {w:World} {x y:Value}
def rz {t1 t2 ty:TypeId} {R:Value→World→Prop} (hrun:∃ v' W',(Builtin.append_ #[t1,t2] ty #[x,y]).run P w=.ok v' W'∧R v' W') (hg:o.guard=none) (s u:Operand) (ho:o.op=.call { callee:=.builtin .append,args:=#[s,u],argTypes:=#[t1,t2] })
  (hs:a.eval s=x) (hu:a.eval u=y) (h:∀ v' W',R v' W'→wpList P ops Q rest (a.put o.dst v') W') (hty:o.type=ty:=by rfl):wpList P ops Q (o::rest) a w:=by
 subst hty
 obtain ⟨v',W',hr,hR⟩:=hrun
 exact xu hg s u t1 t2 ho hs hu hr (h v' W' hR)
end
def allO:List (Option Vl)→Option (List Vl)
 | []=>some []
 |o::l=>match o,allO l with
  |some v,some us=>some (v::us)
  |_,_=>none
def fw {fs:List (Option Vl)} {k:Nat} {us:List Vl} {v:Vl} (h:allO (fs.take k)=some us) (hv:fs[k]? =some (some v)):allO (fs.take (k+1))=some (us++[v]):=by
 induction fs generalizing k us with
 |nil=>cases hv
 |cons x l ih=>
  cases k with
  |zero=>
   cases hv
   cases h
   simp [allO]
  |succ k=>
   rw [List.take_succ_cons] at h⊢
   unfold allO at h⊢
   cases x with
   |none=>cases h
   |some y=>
    cases hl:allO (l.take k) with
    |none=>rw [hl] at h;cases h
    |some ys=>
     rw [hl] at h
     cases h
     rw [ih hl hv]
     rfl
def fy {fs:List (Option Vl)} {k:Nat} (hv:fs[k]? =some none):allO fs=none:=by
 induction fs generalizing k with
 |nil=>cases hv
 |cons x l ih=>
  cases k with
  |zero=>cases hv;rfl
  |succ k=>unfold allO;rw [ih hv];cases x <;> rfl
def AllPost (fs:List (Option Vl)) (w:World) (e:Ending) (w':World):Prop:=
 New w w'∧((allO fs=none∧e=.returned (.tuple #[.slice none 0 0,.bool false]))∨∃ us v,allO fs=some us∧e=.returned (.tuple #[v,.bool true])∧Own w' w.heap.size 62 4 v (us.map vcs))
def qbp (w:World) (A:Option Addr) (n c:Nat) (css:List (List Value)) (hn:n=css.length) (hm:n≤1000) (hs:SrcAt w A 7 css) (g:Nat) (eg:Enters Tryz.prog g) (sc:Value) (fs:List (Option Vl)) (hfl:fs.length=n)
  (hf:∀ (j:Nat) (cs:List Value) (o:Option Vl),css[j]? =some cs→fs[j]? =some o→∀ W,New w W→Calls Tryz.prog g #[sc,.agg cs.toArray] W fun e W'=>e=.returned (optV o)∧New W W') (h1:∀ cs∈css,∀ u∈cs,u.oneCell'=true):
  Calls Tryz.prog 177 #[.slice A n c,.func (.func g) #[sc] #[]] w (AllPost fs w):=by
 unfold Enters at eg
 have HN:=qq hn
 have Hs:=qq hs
 have Hf:=qq hf
 have Hfl:=qq hfl
 have H1:=qq h1
 clear hn hs hf h1 hfl
 go_enter Tryz.func177,Tryz.ntmps177
 go_wp2_with fail
 go_loopw [4,12] (fun u4 u12 wr=>∃ (k:Nat) (us:List Vl),k≤n∧u12=.int .i64 k∧allO (fs.take k)=some us∧us.length=k∧Own wr w.heap.size 62 4 u4 (us.map vcs)∧New w wr) (fun _ u _=>n - (intOf u).toNat)
 case atStart=>exact ⟨0,[],qr _,rfl,rfl,rfl,Own.nil _ _ _ _,Chg.refl _ _⟩
 case round=>
  obtain ⟨k,us,hk,rfl,ha,hl,hov,hN⟩:=hrel
  obtain ⟨Ao,co,rfl,hc1,hc2⟩:=hov.form
  rw [qd] at hov⊢
  have Ha:=qq ha
  have HOv:=qq hov
  have HNw:=qq hN
  have Hl:=qq hl
  clear ha hov hN hl hc1 hc2
  by_cases hlt:k < n
  ·obtain ⟨cs,hcs⟩:∃ cs,css[k]? =some cs:=⟨_,qz (by rw [←HN.out];exact hlt)⟩
   obtain ⟨ad,rfl,hrw⟩:=Hs.out (by rw [←HN.out];omega)
   have hl7:=(hrw k cs hcs).1
   have hat:=(hrw k cs hcs).2.chg HNw.out id
   have hmem:=qf hcs
   have h1c:=H1.out cs hmem
   obtain ⟨t0,t1,t2,t3,t4,t5,t6,rfl⟩:∃ t0 t1 t2 t3 t4 t5 t6,cs=[t0,t1,t2,t3,t4,t5,t6]:=by
    match cs,hl7 with
    | [a,b,c,d,e,f,g],_=>exact ⟨_,_,_,_,_,_,_,rfl⟩
   have Hat:=qq hat
   have Hcs:=qq hcs
   have Hmem:=qq hmem
   have H1c:=qq h1c
   clear hat hcs hmem h1c hrw hl7
   obtain ⟨o,ho⟩:∃ o,fs[k]? =some o:=⟨_,qz (by rw [Hfl.out];exact hlt)⟩
   have Hk:=qq (Hf.out k _ o Hcs.out ho)
   have Ho:=qq ho
   clear ho
   clear Hf Hs
   go_wp2_with first
    | ((with_reducible refine vq rfl (.tmp 14) 64 rfl xy (ad.add (k * 7)) _ ?_ rfl Hat.out ?_);exact rfl)
    | ((with_reducible refine xx rfl rfl 7 (.tmp 15) 64 rfl rfl rfl rfl xy elTerm.zero [t0,t1,t2,t3,t4,t5,t6] ?_ ?_ rfl H1c.out ?_);exact (by decide:7 < 30);exact rfl;intro w2 hc2 hb2 hs2;have Hc2:=qq hc2;have Hb2:=qq (Blk.at_ (cs:=[t0,t1,t2,t3,t4,t5,t6]) hb2);clear hc2 hb2 hs2)
    | ((with_reducible refine vq rfl (.tmp 7) 64 rfl xy ⟨wr.heap.size,0,none⟩ _ ?_ rfl Hb2.out ?_);exact rfl)
   refine (Hk.out _ (HNw.out.trans Hc2.out qdr)).mono ?_
   rintro e w3 ⟨rfl,hc3⟩
   have HN3:=qq (Hc2.out.trans hc3 qdr)
   clear hc3 Hk Hb2
   cases o with
   |none=>
    unfold optV
    dsimp only [Option.getD,Option.isSome,vval,zV]
    go_wp2_with ((with_reducible refine xx rfl rfl 8 (.tmp 20) 62 rfl rfl rfl rfl vz fz.zero (vcs zV) ?_ ?_ (vg _) (xw _) ?_);exact (by decide:8 < 30);exact rfl;intro w4 hc4 hb4 hs4;replace HN3:=qq (HN3.out.trans hc4 qdr);clear hc4 hb4 hs4)
    go_ret2
    exact ⟨HNw.out.trans HN3.out qdr,.inl ⟨fy Ho.out,rfl⟩⟩
   |some v=>
    unfold optV
    dsimp only [Option.getD,Option.isSome,vval]
    go_upto_region 7 with ((with_reducible refine xx rfl rfl 8 (.tmp 20) 62 rfl rfl rfl rfl vz fz.zero (vcs v) ?_ ?_ (vg _) (xw _) ?_);exact (by decide:8 < 30);exact rfl;intro w4 hc4 hb4 hs4;replace HN3:=qq (HN3.out.trans hc4 qdr);have Hb4:=qq (show At w4 ⟨w3.heap.size,0,none⟩ [.int .i64 v.k,.int .i64 v.i,.string v.t,.slice none 0 0] from Blk.at_ (cs:=vcs v) hb4);clear hc4 hb4 hs4)
    have HOv4:=qq (HOv.out.chg HN3.out qdr)
    have HN4:=qq (HNw.out.trans HN3.out qdr)
    have hul:us.length≤1000:=by have:=Hl.out;omega
    have HA4:=qq (fw Ha.out Ho.out)
    obtain ⟨w5,hw5⟩:=qdq (w4.alloc (.cells #[.int .i64 v.k,.int .i64 v.i,.string v.t,.slice none 0 0] 62))
    have hn5:New w4 w5:=by rw [hw5];exact (Chg.refl _ _).alloc _
    have hb5:Blk w5 w4.heap.size 62 #[.int .i64 v.k,.int .i64 v.i,.string v.t,.slice none 0 0]:=by rw [hw5];exact Blk.new _ _ _
    have hrun:=fz.appendS (HOv4.out.chg hn5 qdr) (qb HN4.out.size hn5.size) (some ⟨w4.heap.size,0,none⟩) 1 1 [vcs v] rfl (fun cs hc=>by rw [qn.1 hc];rfl) (fun cs hc=>by rw [qn.1 hc];exact xw v) (kj (Blk.vcs hb5) (vg v)) (by rw [qd];omega) (by rw [qd];unfold maxLen;omega) 40
    rw [hw5] at hrun
    obtain ⟨v6,w6,hrun,hown6,hc6,-⟩:=hrun
    have Hrun:=qq hrun
    have Hown6:=qq hown6
    have HC6:=qq ((hn5.mono (T':=fun k=>(Value.slice Ao us.length co).ownBlock=some k) (fun _ _ x=>x.elim)).trans (hw5▸hc6) qdr)
    clear hrun hb5 hn5 hw5 hown6 hc6
    clear HOv HN3 HNw Hc2 Hat Hmem H1c Hcs Ho Ha
    go_wp2_with first
     | ((with_reducible refine vq rfl (.tmp 8) 62 rfl vz ⟨w3.heap.size,0,none⟩ [.int .i64 v.k,.int .i64 v.i,.string v.t,.slice none 0 0] ?_ rfl Hb4.out ?_);exact rfl)
     | ((with_reducible refine xu rfl (.tmp 24) (.tmp 26) 40 40 rfl ?_ ?_ Hrun.out ?_);exact rfl;exact rfl)
    go_roundw
    case rel=>
     refine ⟨k+1,us++[v],by omega,by go_num,HA4.out,by rw [qg,Hl.out];rfl,by rw [jw];exact Hown6.out,HN4.out.trans HC6.out (fun k hk h=>?_)⟩
     have:=(HOv4.out.lt h).1
     omega
    case measure=>simp [intOf];omega
  ·go_wp2_with fail
   go_ret2
   refine ⟨HNw.out,.inr ⟨us,_,?_,rfl,HOv.out⟩⟩
   have h:=Ha.out
   rwa [show k=fs.length by rw [Hfl.out];omega,List.take_length] at h
def lc (w:World) (sc:Value) (m:Bool) (ad:Addr) (c:Nat) (ca cb:List Value) (oa ob:Option Vl) (hlt:ad.block < w.heap.size) (hrow:RowsAt w ad 7 [ca,cb]) (h1a:∀ u∈ca,u.oneCell'=true) (h1b:∀ u∈cb,u.oneCell'=true)
  (ha:∀ W,New w W→Calls Tryz.prog 151 #[sc,.agg ca.toArray] W fun e W'=>e=.returned (optV oa)∧New W W')
  (hb:∀ W,New w W→Calls Tryz.prog 151 #[sc,.agg cb.toArray] W fun e W'=>e=.returned (optV ob)∧New W W') (hno:allO [oa,ob]=none):
  Calls Tryz.prog 151 #[sc,.agg #[.int .i64 4,.string (opS m),.int .i64 0,.int .i64 0,.string ⟨#[]⟩,.slice none 0 0,.slice (some ad) 2 c]] w fun e w'=>e=.returned (optV none)∧New w w':=by
 obtain ⟨w1,hw1⟩:=qdq (((w.alloc (.cells #[.int .i64 4,.string (opS m),.int .i64 0,.int .i64 0,.string ⟨#[]⟩,.slice none 0 0,.slice (some ad) 2 c] 64)).alloc (.cells #[.int .i64 0,.int .i64 0,.string ⟨#[]⟩,.slice none 0 0] 62)))
 have hc:New w w1:=by rw [hw1];exact ((Chg.refl w _).alloc _).alloc _
 have hB1:Blk w1 w.heap.size 64 #[.int .i64 4,.string (opS m),.int .i64 0,.int .i64 0,.string ⟨#[]⟩,.slice none 0 0,.slice (some ad) 2 c]:=by rw [hw1];exact (Blk.new w _ _).alloc _
 have hB2:Blk w1 (w.heap.size+1) 62 #[.int .i64 0,.int .i64 0,.string ⟨#[]⟩,.slice none 0 0]:=by
  rw [hw1]
  have:=Blk.new (w.alloc (.cells #[.int .i64 4,.string (opS m),.int .i64 0,.int .i64 0,.string ⟨#[]⟩,.slice none 0 0,.slice (some ad) 2 c] 64)) 62 #[.int .i64 0,.int .i64 0,.string ⟨#[]⟩,.slice none 0 0]
  rwa [World.size_alloc] at this
 have hall:=qbp w1 (some ad) 2 c [ca,cb] rfl (by omega) (fun _=>⟨ad,rfl,hrow.chg hc id⟩) 151 (enters_of Tryz.func151 (by kernel_rfl) rfl) sc [oa,ob] rfl (fun j cs o hj ho W hW=>by
  match j,hj,ho with
  |0,hj,ho=>cases hj;cases ho;exact ha W (hc.trans hW qdr)
  |1,hj,ho=>cases hj;cases ho;exact hb W (hc.trans hW qdr)
  |j+2,hj,ho=>simp at hj) (fun cs hcs=>by
  rcases qp.1 hcs with rfl|hcs
  ·exact h1a
  ·rw [qn.1 hcs];exact h1b)
 have HALL:=qq (hall.mono (R':=fun e w'=>New w1 w'∧e=.returned (.tuple #[.slice none 0 0,.bool false])) (by
  rintro e w' ⟨hc,⟨_,he⟩| ⟨us,v,hu,_⟩⟩
  ·exact ⟨hc,he⟩
  ·rw [hno] at hu;cases hu))
 have HB1:=qq hB1
 have HB2:=qq hB2
 have Hc:=qq hc
 have HW:=qq hw1
 clear hall hB1 hB2 hc hw1 ha hb h1a h1b hrow hlt hno
 go_enter Tryz.func151,Tryz.ntmps151
 go_wp2_with first
  | (go_at_call 177;rw [←HW.out];refine HALL.out.mono ?_;rintro e w2 ⟨hc2,rfl⟩;replace HB1:=qq (HB1.out.chg hc2 id);replace HB2:=qq (HB2.out.chg hc2 id);replace Hc:=qq (Hc.out.trans hc2 qdr);have c0:=HB1.out.cell 0;simp only [qx,qj] at c0;clear hc2)
  | ((with_reducible refine vf rfl (.tmp 4) (.tmp 33) 62 rfl vz (w.heap.size+1) 0 62 _ (vcs zV) ?_ ?_ HB2.out (vg _) ?_ (xw zV) ?_);exact rfl;exact rfl;exact qh _)
 refine bodyPost_ret (v:=.tuple #[.agg (vcs zV).toArray,.bool false]) (xn (p:=4) (q:=5) vz rfl _ _ ⟨w.heap.size+1,0,none⟩ (vcs zV) rfl (xa HB2.out rfl) rfl) rfl ⟨rfl,Hc.out.setRow _ _ (fun h=>absurd h (by omega))⟩
def am (w:World) (sc:Value) (m:Bool) (ad:Addr) (c:Nat) (ca cb:List Value) (x y:Vl) (hlt:ad.block < w.heap.size) (hrow:RowsAt w ad 7 [ca,cb]) (h1a:∀ u∈ca,u.oneCell'=true) (h1b:∀ u∈cb,u.oneCell'=true)
  (ha:∀ W,New w W→Calls Tryz.prog 151 #[sc,.agg ca.toArray] W fun e W'=>e=.returned (optV (some x))∧New W W')
  (hb:∀ W,New w W→Calls Tryz.prog 151 #[sc,.agg cb.toArray] W fun e W'=>e=.returned (optV (some y))∧New W W') (okx:okW x) (oky:okW y):
  Calls Tryz.prog 151 #[sc,.agg #[.int .i64 4,.string (opS m),.int .i64 0,.int .i64 0,.string ⟨#[]⟩,.slice none 0 0,.slice (some ad) 2 c]] w fun e w'=>e=.returned (optV (opV m x y))∧New w w':=by
 have hop:=fun W=>op_val W m x y okx.1 oky.1 okx.2.1 okx.2.2 oky.2.1 oky.2.2
 obtain ⟨u,q,hu⟩:∃ (u:Vl) (q:Bool),optV (opV m x y)=.tuple #[.agg (vcs u).toArray,.bool q]:=⟨_,_,rfl⟩
 rw [hu] at hop⊢
 obtain ⟨w1,hw1⟩:=qdq (((w.alloc (.cells #[.int .i64 4,.string (opS m),.int .i64 0,.int .i64 0,.string ⟨#[]⟩,.slice none 0 0,.slice (some ad) 2 c] 64)).alloc (.cells #[.int .i64 0,.int .i64 0,.string ⟨#[]⟩,.slice none 0 0] 62)))
 have hc:New w w1:=by rw [hw1];exact ((Chg.refl w _).alloc _).alloc _
 have hB1:Blk w1 w.heap.size 64 #[.int .i64 4,.string (opS m),.int .i64 0,.int .i64 0,.string ⟨#[]⟩,.slice none 0 0,.slice (some ad) 2 c]:=by rw [hw1];exact (Blk.new w _ _).alloc _
 have hB2:Blk w1 (w.heap.size+1) 62 #[.int .i64 0,.int .i64 0,.string ⟨#[]⟩,.slice none 0 0]:=by
  rw [hw1]
  have:=Blk.new (w.alloc (.cells #[.int .i64 4,.string (opS m),.int .i64 0,.int .i64 0,.string ⟨#[]⟩,.slice none 0 0,.slice (some ad) 2 c] 64)) 62 #[.int .i64 0,.int .i64 0,.string ⟨#[]⟩,.slice none 0 0]
  rwa [World.size_alloc] at this
 have hall:=qbp w1 (some ad) 2 c [ca,cb] rfl (by omega) (fun _=>⟨ad,rfl,hrow.chg hc id⟩) 151 (enters_of Tryz.func151 (by kernel_rfl) rfl) sc [some x,some y] rfl (fun j cs o hj ho W hW=>by
  match j,hj,ho with
  |0,hj,ho=>cases hj;cases ho;exact ha W (hc.trans hW qdr)
  |1,hj,ho=>cases hj;cases ho;exact hb W (hc.trans hW qdr)
  |j+2,hj,ho=>simp at hj) (fun cs hcs=>by
  rcases qp.1 hcs with rfl|hcs
  ·exact h1a
  ·rw [qn.1 hcs];exact h1b)
 have HALL:=qq (hall.mono (R':=fun e w'=>New w1 w'∧∃ A c,e=.returned (.tuple #[.slice (some A) 2 c,.bool true])∧RowsAt w' A 4 [vcs x,vcs y]) (by
  rintro e w' ⟨hc,⟨h,_⟩| ⟨us,v,hu,he,hown⟩⟩
  ·cases h
  ·cases hu
   obtain ⟨A,c,hv,_,_⟩:=hown.form
   obtain ⟨B,hB,hr⟩:=(hown.rows hv).2 (by simp)
   subst hB
   exact ⟨hc,B,c,by rw [he,hv];rfl,hr⟩))
 have HB1:=qq hB1
 have HB2:=qq hB2
 have Hc:=qq hc
 have HW:=qq hw1
 have HOp:=qq hop
 clear hall hB1 hB2 hc hw1 ha hb h1a h1b hrow hlt hop hu okx oky
 go_enter Tryz.func151,Tryz.ntmps151
 go_upto_region 12 with first
  | (go_at_call 177;rw [←HW.out];refine HALL.out.mono ?_;rintro e w2 ⟨hc2,B,d,rfl,hr⟩;replace HB1:=qq (HB1.out.chg hc2 id);replace HB2:=qq (HB2.out.chg hc2 id);replace Hc:=qq (Hc.out.trans hc2 qdr);have Hr:=qq hr;have c0:=HB1.out.cell 0;simp only [qx,qj] at c0;clear hc2 hr)
  |fail
 refine vj (by kernel_rfl) ?_
 have HBd:=qq (HB1.out.chg (Chg.refl _ (fun _=>False)).drew id)
 have HCd:=qq (HB2.out.chg (Chg.refl _ (fun _=>False)).drew id)
 have HRd:=qq (Hr.out.chg (Chg.refl _ (fun _=>False)).drew id)
 have Hd:=qq (Hc.out.drew)
 clear HB1 HB2 Hr Hc c0
 generalize w2.drew=wd at HBd HCd HRd Hd⊢
 have hx:=(HRd.out 0 _ rfl).2
 have hy:=(HRd.out 1 _ rfl).2
 have Hx:=qq hx
 have Hy:=qq hy
 have hs:=HBd.out.cell 1
 simp only [qx,qj,qw] at hs
 have Hs:=qq hs
 clear hx hy hs HRd
 refine AtN.segQ2 0 8 (fun
  |0=>.pointer (some ⟨w.heap.size,1,none⟩)
  |1=>.string (opS m)
  |2=>.slice (some B) 2 d
  |3=>.pointer (some (B.add 0))
  |4=>.agg #[.int .i64 x.k,.int .i64 x.i,.string x.t,.slice none 0 0]
  |5=>.slice (some B) 2 d
  |6=>.pointer (some (B.add 4))
  |_=>.agg #[.int .i64 y.k,.int .i64 y.i,.string y.t,.slice none 0 0])
  [(53,.pointer (some ⟨w.heap.size,1,none⟩)),(54,.string (opS m)),(55,.slice (some B) 2 d),(56,.pointer (some (B.add 0))),(57,.agg #[.int .i64 x.k,.int .i64 x.i,.string x.t,.slice none 0 0]),(58,.slice (some B) 2 d),(59,.pointer (some (B.add 4))),(60,.agg #[.int .i64 y.k,.int .i64 y.i,.string y.t,.slice none 0 0])] (by kernel_rfl) (by kernel_rfl) (by kernel_rfl) (by kernel_rfl) rfl (fun i hn hi o ho A0 hin hk=>?_) ?_
 ·rcases (show i=0∨i=1∨i=2∨i=3∨i=4∨i=5∨i=6∨i=7 by omega) with rfl|rfl|rfl|rfl|rfl|rfl|rfl|rfl<;>cases ho
  ·have h3:A0.tmps[3]?.getD undef=.pointer (some ⟨w.heap.size,0,none⟩):=hk 3
   exact by simp [go_sem,h3]
  ·have h53:A0.tmps[53]?.getD undef=.pointer (some ⟨w.heap.size,1,none⟩):=hin 0 53
   exact by simp [go_sem,h53,Hs.out]
  ·exact uo 6 _ rfl (hk 6)
  ·have h55:A0.tmps[55]?.getD undef=.slice (some B) 2 d:=hin 2 55
   exact by simp [go_sem,h55]
  ·have h56:A0.tmps[56]?.getD undef=.pointer (some (B.add 0)):=hin 3 56
   exact vu 56 _ rfl vz (B.add (0 * 4)) (vcs x) h56 (vg x) Hx.out
  ·exact uo 6 _ rfl (hk 6)
  ·have h58:A0.tmps[58]?.getD undef=.slice (some B) 2 d:=hin 5 58
   exact by simp [go_sem,h58]
  ·have h59:A0.tmps[59]?.getD undef=.pointer (some (B.add 4)):=hin 6 59
   exact vu 59 _ rfl vz (B.add (1 * 4)) (vcs y) h59 (vg y) Hy.out
 simp only [putsL,Act.put,qk,qu,qy]
 refine AtN.list 8 9 (by kernel_rfl) ?_
 change wpList _ _ _ [_] _ _
 go_wp2_with (go_at_call 179;refine (HOp.out _).mono ?_;rintro e w3 ⟨rfl,hc3⟩;replace HCd:=qq (HCd.out.chg hc3 id);replace Hd:=qq (Hd.out.trans hc3 qdr);clear hc3)
 change AtN _ _ _ 9 _ _
 refine AtN.segQ2 9 11 (fun
  |9=>.agg #[.int .i64 u.k,.int .i64 u.i,.string u.t,.slice none 0 0]
  |_=>.bool q)
  [(62,.agg #[.int .i64 u.k,.int .i64 u.i,.string u.t,.slice none 0 0]),(63,.bool q)] (by kernel_rfl) (by kernel_rfl) (by kernel_rfl) (by kernel_rfl) rfl (fun i hn hi o ho A0 hin hk=>?_) ?_
 ·rcases (show i=9∨i=10 by omega) with rfl|rfl<;>cases ho
  ·have h61:A0.tmps[61]?.getD undef=.tuple #[.agg #[.int .i64 u.k,.int .i64 u.i,.string u.t,.slice none 0 0],.bool q]:=hk 61
   exact by simp [go_sem,h61]
  ·have h61:A0.tmps[61]?.getD undef=.tuple #[.agg #[.int .i64 u.k,.int .i64 u.i,.string u.t,.slice none 0 0],.bool q]:=hk 61
   exact by simp [go_sem,h61]
 simp only [putsL,Act.put,qk,qu,qy]
 refine AtN.list 11 13 (by kernel_rfl) ?_
 change wpList _ _ _ [_,_] _ _
 go_wp2_with ((with_reducible refine vf rfl (.tmp 4) (.tmp 62) 62 rfl vz (w.heap.size+1) 0 62 _ (vcs u) ?_ ?_ HCd.out (vg _) ?_ (xw u) ?_);exact rfl;exact rfl;exact qh _)
 change AtN _ _ _ 13 _ _
 refine AtN.done rfl ?_
 go_wp2_with fail
 refine bodyPost_ret (v:=.tuple #[.agg (vcs u).toArray,.bool q]) (xn (p:=4) (q:=5) vz rfl _ _ ⟨w.heap.size+1,0,none⟩ (vcs u) rfl (xa HCd.out rfl) rfl) rfl ⟨rfl,Hd.out.setRow _ _ (fun h=>absurd h (by omega))⟩
def TmAt.one {w:World} {t:Tm} {cs:List Value} (h:TmAt w cs t):∀ u∈cs,u.oneCell'=true:=by
 cases t with
 |var s=>rw [show cs=_ from h];intro u hu;simp only [js,jq,vcs,qp,qm,or_false] at hu;rcases hu with rfl|rfl|rfl|rfl|rfl|rfl|rfl <;> rfl
 |val v=>rw [show cs=_ from h];intro u hu;simp only [js,jq,vcs,qp,qm,or_false] at hu;rcases hu with rfl|rfl|rfl|rfl|rfl|rfl|rfl <;> rfl
 |op m a b=>obtain ⟨ad,c,ca,cb,h1,_⟩:=h;rw [h1];intro u hu;simp only [js,jq,vcs,qp,qm,or_false] at hu;rcases hu with rfl|rfl|rfl|rfl|rfl|rfl|rfl <;> rfl
def ry (A:Option Addr) (n c:Nat) (env:Env) (hn:n=env.length) (hm:n≤1000) (hok:okEnv env):∀ (t:Tm),okTm t→∀ (w:World) (cs:List Value),SrcAt w A 5 (env.map bcs)→TmAt w cs t→
  Calls Tryz.prog 151 #[.slice A n c,.agg cs.toArray] w fun e w'=>e=.returned (optV (evalT env t))∧New w w'
 | .var s,_,w,cs,hs,h=>by
  rw [show cs=_ from h]
  exact eval_var w A n c env s hn hm hs
 | .val v,_,w,cs,hs,h=>by
  rw [show cs=_ from h]
  exact eval_lit w _ v
 | .op m a b,ht,w,cs,hs,h=>by
  obtain ⟨ad,d,ca,cb,rfl,hlt,hrow,ha,hb⟩:=h
  have ka:∀ W,New w W→Calls Tryz.prog 151 #[.slice A n c,.agg ca.toArray] W fun e W'=>e=.returned (optV (evalT env a))∧New W W':=fun W hW=>ry A n c env hn hm hok a ht.1 W ca (hs.chg hW (fun _ _=>id)) (ha.chg hW)
  have kb:∀ W,New w W→Calls Tryz.prog 151 #[.slice A n c,.agg cb.toArray] W fun e W'=>e=.returned (optV (evalT env b))∧New W W':=fun W hW=>ry A n c env hn hm hok b ht.2 W cb (hs.chg hW (fun _ _=>id)) (hb.chg hW)
  have oka:=fun x=>pn hok ht.1 (v:=x)
  have okb:=fun x=>pn hok ht.2 (v:=x)
  have he:evalT env (.op m a b)=match evalT env a,evalT env b with
   |some x,some y=>opV m x y
   |_,_=>none:=by rw [evalT]<;>rfl
  rw [he]
  cases h1:evalT env a with
  |none=>
   rw [h1] at ka
   exact lc w _ m ad d ca cb none _ hlt hrow ha.one hb.one ka kb rfl
  |some x=>
   rw [h1] at ka
   cases h2:evalT env b with
   |none=>
    rw [h2] at kb
    exact lc w _ m ad d ca cb _ none hlt hrow ha.one hb.one ka kb rfl
   |some y=>
    rw [h2] at kb
    exact am w _ m ad d ca cb x y hlt hrow ha.one hb.one ka kb (oka x h1) (okb y h2)
def TmAt.seven {w:World} {t:Tm} {cs:List Value} (h:TmAt w cs t):∃ t0 t1 t2 t3 t4 t5 t6,cs=[t0,t1,t2,t3,t4,t5,t6]:=by
 have:=h.len
 match cs,this with
 | [a,b,c,d,e,f,g],_=>exact ⟨_,_,_,_,_,_,_,rfl⟩
def bEval (A:Option Addr) (n c:Nat) (env:Env) (hn:n=env.length) (hm:n≤1000) (hok:okEnv env) (t:Tm) (ht:okTm t) (w:World) (cs:List Value) (hs:SrcAt w A 5 (env.map bcs)) (hat:TmAt w cs t):
  Calls Tryz.prog 115 #[.agg cs.toArray,.slice A n c] w fun e w'=>e=.returned (optV (evalT env t))∧New w w':=by
 have hk:=fun W (hW:New w W)=>ry A n c env hn hm hok t ht W cs (hs.chg hW (fun _ _=>id)) (hat.chg hW)
 obtain ⟨u,q,hu⟩:∃ (u:Vl) (q:Bool),optV (evalT env t)=.tuple #[.agg (vcs u).toArray,.bool q]:=⟨_,_,rfl⟩
 rw [hu] at hk⊢
 obtain ⟨t0,t1,t2,t3,t4,t5,t6,rfl⟩:=hat.seven
 obtain ⟨w1,hw1⟩:=qdq ((w.alloc (.cells #[t0,t1,t2,t3,t4,t5,t6] 64)).alloc (.cells #[.int .i64 0,.int .i64 0,.string ⟨#[]⟩,.slice none 0 0] 62))
 have hc:New w w1:=by rw [hw1];exact ((Chg.refl w _).alloc _).alloc _
 have hb1:At w1 ⟨w.heap.size,0,none⟩ [t0,t1,t2,t3,t4,t5,t6]:=by rw [hw1];exact ((Blk.new w _ _).alloc _).at_
 have hb2:Blk w1 (w.heap.size+1) 62 #[.int .i64 0,.int .i64 0,.string ⟨#[]⟩,.slice none 0 0]:=by
  rw [hw1]
  have:=Blk.new (w.alloc (.cells #[t0,t1,t2,t3,t4,t5,t6] 64)) 62 #[.int .i64 0,.int .i64 0,.string ⟨#[]⟩,.slice none 0 0]
  rwa [World.size_alloc] at this
 have Hk:=qq (hk w1 hc)
 have HB1:=qq hb1
 have HB2:=qq hb2
 have Hc:=qq hc
 have HW:=qq hw1
 clear hk hb1 hb2 hc hw1 hat hs hu hn ht hok
 go_enter Tryz.func115,Tryz.ntmps115
 go_wp2_with first
  | ((with_reducible refine vq rfl (.tmp 2) 64 rfl xy ⟨w.heap.size,0,none⟩ _ ?_ rfl (by rw [←HW.out];exact HB1.out) ?_);exact rfl)
  | (go_at_call 151;rw [←HW.out];refine Hk.out.mono ?_;rintro e w2 ⟨rfl,hc2⟩;replace HB2:=qq (HB2.out.chg hc2 id);replace Hc:=qq (Hc.out.trans hc2 qdr);clear hc2)
  | ((with_reducible refine xx rfl rfl 6 (.tmp 12) 62 rfl rfl rfl rfl vz fz.zero (vcs u) ?_ ?_ (vg _) (xw _) ?_);exact (by decide:6 < 17);exact rfl;intro w4 hc4 hb4 hs4;replace HB2:=qq (HB2.out.chg hc4 id);replace Hc:=qq (Hc.out.trans hc4 qdr);have Hb4:=qq (show At w4 ⟨w2.heap.size,0,none⟩ [.int .i64 u.k,.int .i64 u.i,.string u.t,.slice none 0 0] from Blk.at_ (cs:=vcs u) hb4);clear hc4 hb4 hs4)
  | ((with_reducible refine vq rfl (.tmp 6) 62 rfl vz ⟨w2.heap.size,0,none⟩ [.int .i64 u.k,.int .i64 u.i,.string u.t,.slice none 0 0] ?_ rfl Hb4.out ?_);exact rfl)
  | (go_at_call 152;refine (fi _ u).mono ?_;rintro e w5 ⟨rfl,hc5⟩;replace HB2:=qq (HB2.out.chg hc5 id);replace Hc:=qq (Hc.out.trans hc5 qdr);clear hc5)
  | ((with_reducible refine vf rfl (.tmp 4) (.tmp 15) 62 rfl vz (w.heap.size+1) 0 62 _ (vcs u) ?_ ?_ HB2.out (vg _) ?_ (xw u) ?_);exact rfl;exact rfl;exact qh _)
 refine bodyPost_ret (v:=.tuple #[.agg (vcs u).toArray,.bool q]) (xn (p:=4) (q:=5) vz rfl _ _ ⟨w.heap.size+1,0,none⟩ (vcs u) rfl (xa HB2.out rfl) rfl) rfl ⟨rfl,Hc.out.setRow _ _ (fun h=>absurd h (by omega))⟩
def bLookup (A:Option Addr) (n c:Nat) (env:Env) (hn:n=env.length) (hm:n≤1000) (s:ByteArray) (w:World) (hs:SrcAt w A 5 (env.map bcs)):
  Calls Tryz.prog 149 #[.slice A n c,.string s] w fun e w'=>e=.returned (optV (lookE env s))∧New w w':=by
 have hk:=fun W (hW:New w W)=>fp W A n c env s hn hm (hs.chg hW (fun _ _=>id))
 obtain ⟨u,q,hu⟩:∃ (u:Vl) (q:Bool),optV (lookE env s)=.tuple #[.agg (vcs u).toArray,.bool q]:=⟨_,_,rfl⟩
 rw [hu] at hk⊢
 obtain ⟨w1,hw1⟩:=qdq (w.alloc (.cells #[.int .i64 0,.int .i64 0,.string ⟨#[]⟩,.slice none 0 0] 62))
 have hc:New w w1:=by rw [hw1];exact (Chg.refl w _).alloc _
 have hb2:Blk w1 w.heap.size 62 #[.int .i64 0,.int .i64 0,.string ⟨#[]⟩,.slice none 0 0]:=by rw [hw1];exact Blk.new w _ _
 have Hk:=qq (hk w1 hc)
 have HB2:=qq hb2
 have Hc:=qq hc
 have HW:=qq hw1
 clear hk hb2 hc hw1 hs hu hn
 go_enter Tryz.func149,Tryz.ntmps149
 go_wp2_with first
  | (go_at_call 176;rw [←HW.out];refine Hk.out.mono ?_;rintro e w2 ⟨rfl,hc2⟩;replace HB2:=qq (HB2.out.chg hc2 id);replace Hc:=qq (Hc.out.trans hc2 qdr);clear hc2)
  | ((with_reducible refine xx rfl rfl 6 (.tmp 12) 62 rfl rfl rfl rfl vz fz.zero (vcs u) ?_ ?_ (vg _) (xw _) ?_);exact (by decide:6 < 17);exact rfl;intro w4 hc4 hb4 hs4;replace HB2:=qq (HB2.out.chg hc4 id);replace Hc:=qq (Hc.out.trans hc4 qdr);have Hb4:=qq (show At w4 ⟨w2.heap.size,0,none⟩ [.int .i64 u.k,.int .i64 u.i,.string u.t,.slice none 0 0] from Blk.at_ (cs:=vcs u) hb4);clear hc4 hb4 hs4)
  | ((with_reducible refine vq rfl (.tmp 6) 62 rfl vz ⟨w2.heap.size,0,none⟩ [.int .i64 u.k,.int .i64 u.i,.string u.t,.slice none 0 0] ?_ rfl Hb4.out ?_);exact rfl)
  | (go_at_call 152;refine (fi _ u).mono ?_;rintro e w5 ⟨rfl,hc5⟩;replace HB2:=qq (HB2.out.chg hc5 id);replace Hc:=qq (Hc.out.trans hc5 qdr);clear hc5)
  | ((with_reducible refine vf rfl (.tmp 4) (.tmp 15) 62 rfl vz w.heap.size 0 62 _ (vcs u) ?_ ?_ HB2.out (vg _) ?_ (xw u) ?_);exact rfl;exact rfl;exact qh _)
 refine bodyPost_ret (v:=.tuple #[.agg (vcs u).toArray,.bool q]) (xn (p:=4) (q:=5) vz rfl _ _ ⟨w.heap.size,0,none⟩ (vcs u) rfl (xa HB2.out rfl) rfl) rfl ⟨rfl,Hc.out.setRow _ _ (fun h=>absurd h (by omega))⟩
def isV (env:Env) (t:Tm) (v:Vl):Bool:=match evalT env t with
 |some x=>decide (cmpV x v=0)
 |none=>false
def bIs (A:Option Addr) (n c:Nat) (env:Env) (hn:n=env.length) (hm:n≤1000) (hok:okEnv env) (t:Tm) (ht:okTm t) (v:Vl) (w:World) (cs:List Value) (hs:SrcAt w A 5 (env.map bcs)) (hat:TmAt w cs t):
  Calls Tryz.prog 175 #[.slice A n c,.agg cs.toArray,.agg #[.int .i64 v.k,.int .i64 v.i,.string v.t,.slice none 0 0]] w fun e w'=>e=.returned (.bool (isV env t v))∧New w w':=by
 have hk:=fun W (hW:New w W)=>ry A n c env hn hm hok t ht W cs (hs.chg hW (fun _ _=>id)) (hat.chg hW)
 have hres:isV env t v=match evalT env t with
  |some x=>decide (cmpV x v=0)
  |none=>false:=rfl
 obtain ⟨o,ho⟩:=qdp (evalT env t)
 rw [ho] at hk hres
 rw [hres]
 obtain ⟨t0,t1,t2,t3,t4,t5,t6,rfl⟩:=hat.seven
 obtain ⟨w1,hw1⟩:=qdq ((w.alloc (.cells #[t0,t1,t2,t3,t4,t5,t6] 64)).alloc (.cells #[.int .i64 v.k,.int .i64 v.i,.string v.t,.slice none 0 0] 62))
 have hc:New w w1:=by rw [hw1];exact ((Chg.refl w _).alloc _).alloc _
 have hb1:At w1 ⟨w.heap.size,0,none⟩ [t0,t1,t2,t3,t4,t5,t6]:=by rw [hw1];exact ((Blk.new w _ _).alloc _).at_
 have hb2:At w1 ⟨w.heap.size+1,0,none⟩ [.int .i64 v.k,.int .i64 v.i,.string v.t,.slice none 0 0]:=by
  rw [hw1]
  have:=Blk.new (w.alloc (.cells #[t0,t1,t2,t3,t4,t5,t6] 64)) 62 #[.int .i64 v.k,.int .i64 v.i,.string v.t,.slice none 0 0]
  rw [World.size_alloc] at this
  exact Blk.at_ this
 have Hk:=qq (hk w1 hc)
 have HB1:=qq hb1
 have HB2:=qq hb2
 have Hc:=qq hc
 have HW:=qq hw1
 have HC:=qq (fun W x=>ke x v W)
 clear hk hb1 hb2 hc hw1 hat hs hn ht hok ho hres
 go_enter Tryz.func175,Tryz.ntmps175
 cases o with
 |none=>
  unfold optV at Hk
  dsimp only [Option.getD,Option.isSome,vval,zV] at Hk
  go_wp2_with first
   | ((with_reducible refine vq rfl (.tmp 4) 64 rfl xy ⟨w.heap.size,0,none⟩ _ ?_ rfl (by rw [←HW.out];exact HB1.out) ?_);exact rfl)
   | (go_at_call 151;rw [←HW.out];refine Hk.out.mono ?_;rintro e w2 ⟨rfl,hc2⟩;replace HB2:=qq (HB2.out.chg hc2 id);replace Hc:=qq (Hc.out.trans hc2 qdr);clear hc2)
   | ((with_reducible refine xx rfl rfl 7 (.tmp 13) 62 rfl rfl rfl rfl vz fz.zero (vcs zV) ?_ ?_ (vg _) (xw _) ?_);exact (by decide:7 < 22);exact rfl;intro w4 hc4 hb4 hs4;replace Hc:=qq (Hc.out.trans hc4 qdr);clear hc4 hb4 hs4)
  go_ret
  exact ⟨rfl,Hc.out⟩
 |some u=>
  unfold optV at Hk
  dsimp only [Option.getD,Option.isSome,vval] at Hk
  go_wp2_with first
   | ((with_reducible refine vq rfl (.tmp 4) 64 rfl xy ⟨w.heap.size,0,none⟩ _ ?_ rfl (by rw [←HW.out];exact HB1.out) ?_);exact rfl)
   | (go_at_call 151;rw [←HW.out];refine Hk.out.mono ?_;rintro e w2 ⟨rfl,hc2⟩;replace HB2:=qq (HB2.out.chg hc2 id);replace Hc:=qq (Hc.out.trans hc2 qdr);clear hc2)
   | ((with_reducible refine xx rfl rfl 7 (.tmp 13) 62 rfl rfl rfl rfl vz fz.zero (vcs u) ?_ ?_ (vg _) (xw _) ?_);exact (by decide:7 < 22);exact rfl;intro w4 hc4 hb4 hs4;replace HB2:=qq (HB2.out.chg hc4 id);replace Hc:=qq (Hc.out.trans hc4 qdr);have Hb4:=qq (show At w4 ⟨w2.heap.size,0,none⟩ [.int .i64 u.k,.int .i64 u.i,.string u.t,.slice none 0 0] from Blk.at_ (cs:=vcs u) hb4);clear hc4 hb4 hs4)
   | ((with_reducible refine xe ?_ (.tmp 7) 62 rfl vz ⟨w2.heap.size,0,none⟩ [.int .i64 u.k,.int .i64 u.i,.string u.t,.slice none 0 0] ?_ rfl Hb4.out ?_);rfl;exact rfl)
   | ((with_reducible refine xe ?_ (.tmp 5) 62 rfl vz ⟨w.heap.size+1,0,none⟩ [.int .i64 v.k,.int .i64 v.i,.string v.t,.slice none 0 0] ?_ rfl HB2.out ?_);rfl;exact rfl)
  refine (HC.out _ u).mono ?_
  rintro e w5 ⟨rfl,hc5⟩
  replace Hc:=qq (Hc.out.trans hc5 qdr)
  clear hc5
  go_wp2_with fail
  go_ret
  exact ⟨by first|rfl| (congr 2;simp),Hc.out⟩
section
variable {P:Program} {ops:Array Oper} {Q:Exit→Act→World→Prop} {o:Oper} {rest:List Oper} {a:Act} {w:World} {k:Nat}
def gz (hg:o.guard=none) (e:TypeId) (ho:o.op=.alloc e) (hz:∃ i z,P.info? e=some i∧i.zero=some z∧z.cells.size=k)
  (h:∀ w2 (cur:Array Value),New w w2→Blk w2 w.heap.size e cur→cur.size=k→w2.heap.size=w.heap.size+1→wpList P ops Q rest (a.put o.dst (.pointer (some ⟨w.heap.size,0,none⟩))) w2):wpList P ops Q (o::rest) a w:=by
 refine wpList_plain hg fun K hK=>?_
 obtain ⟨i,z,hi,hz,hzs⟩:=hz
 have hrun:(execOp a.eval o).run P w=.ok (.value (.pointer (some ⟨w.heap.size,0,none⟩))) (w.alloc (.cells z.cells e)):=by
  unfold execOp
  simp [ho,Instr.alloc,newVar,newRow,zeroValue,typeInfo,hi,hz]
 unfold Oper.wp
 rw [hrun]
 simp only [Oper.upon]
 exact hK _ _ (h _ _ ((Chg.refl w _).alloc _) (Blk.new w e z.cells) hzs (by simp))
def xq (hg:o.guard=none) (x y:Operand) (e:TypeId) (ho:o.op=.store e x y) (hd:o.dst=none) (hS:StT P e k) (g:Nat) (t:TypeId) (cur:Array Value) (cs:List Value) (hx:a.eval x=.pointer (some ⟨g,0,none⟩)) (hy:a.eval y=.agg cs.toArray)
  (hB:Blk w g t cur) (hl:cs.length=k) (hc:cur.size=k) (h1:∀ u∈cs,u.oneCell'=true)
  (h:∀ w2,Chg w w2 (fun j=>j=g)→Blk w2 g t cs.toArray→w2.heap.size=w.heap.size→wpList P ops Q rest a w2):wpList P ops Q (o::rest) a w:=by
 refine vf hg x y e ho hS g 0 t cur cs hx hy hB hl (by omega) h1 ?_
 simp only [hd,Act.put]
 refine h _ ((Chg.refl w _).setRow _ _ (fun _=>rfl)) ?_ (by simp)
 have hb:=hB.set (layA cur 0 cs)
 rw [iw (by omega)] at hb⊢
 exact hb
end
def Chg.put {w w2 w3:World} {T:Nat→Prop} {g:Nat} (h:Chg w w2 T) (h3:Chg w2 w3 (fun j=>j=g)) (hg:w.heap.size≤g):Chg w w3 T:=
 h.trans h3 (fun k hk e=>absurd hk (Nat.not_lt.2 (qb hg (Nat.le_of_eq (show k=g from e).symm))))
structure TmsAt (w:World) (A:Option Addr) (css:List (List Value)) (ts:List Tm):Prop where
 len:css.length=ts.length
 src:SrcAt w A 7 css
 at_:∀ (j:Nat) (cs:List Value) (t:Tm),css[j]? =some cs→ts[j]? =some t→TmAt w cs t
def TmsAt.chg {w w':World} {A:Option Addr} {css:List (List Value)} {ts:List Tm} (h:TmsAt w A css ts) (hc:New w w'):TmsAt w' A css ts:=
 ⟨h.len,h.src.chg hc (fun _ _=>id),fun j cs t h1 h2=>(h.at_ j cs t h1 h2).chg hc⟩
def bstep (env:Env) (p:Tm×Vl):Env:=match p.1 with
 | .var s=>match lookE env s with
  |some _=>env
  |none=>env++[(s,p.2)]
 |_=>env
def envK (env:Env) (ts:List Tm) (vs:List Vl) (k:Nat):Env:=((ts.zip vs).take k).foldl bstep env
def wh {env:Env} {ts:List Tm} {vs:List Vl} {k:Nat} {t:Tm} {v:Vl} (ht:ts[k]? =some t) (hv:vs[k]? =some v):envK env ts vs (k+1)=bstep (envK env ts vs k) (t,v):=by
 unfold envK
 rw [vh (x:=(t,v)) (by rw [yu];exact ⟨ht,hv⟩),List.foldl_append]
 rfl
def om {env:Env} {s:ByteArray} {v x:Vl} (h:lookE env s=some x):bstep env (.var s,v)=env:=by
 unfold bstep;dsimp only;rw [h]
def qae {env:Env} {s:ByteArray} {v:Vl} (h:lookE env s=none):bstep env (.var s,v)=env++[(s,v)]:=by
 unfold bstep;dsimp only;rw [h]
def qdg (env:Env) (p:Tm×Vl):(bstep env p).length≤env.length+1:=by
 unfold bstep
 split
 ·split
  ·omega
  ·simp
 ·omega
def ly (env:Env) (ts:List Tm) (vs:List Vl):∀ k,(envK env ts vs k).length≤env.length+k
 |0=>by simp [envK]
 |k+1=>by
  have ih:=ly env ts vs k
  cases ht:ts[k]? with
  |none=>
   have:envK env ts vs (k+1)=envK env ts vs k:=by
    unfold envK
    have hl:(ts.zip vs).length≤k:=by rw [List.length_zip];have:=yg.1 ht;omega
    rw [qc (by omega),qc hl]
   rw [this];omega
  |some t=>
   cases hv:vs[k]? with
   |none=>
    have:envK env ts vs (k+1)=envK env ts vs k:=by
     unfold envK
     have hl:(ts.zip vs).length≤k:=by rw [List.length_zip];have:=yg.1 hv;omega
     rw [qc (by omega),qc hl]
    rw [this];omega
   |some v=>
    rw [wh ht hv]
    have:=qdg (envK env ts vs k) (t,v)
    omega
def bstep_ok {env:Env} (h:okEnv env) {p:Tm×Vl} (hp:okW p.2):okEnv (bstep env p):=by
 unfold bstep
 split
 ·split
  ·exact h
  ·intro q hq
   rcases zk.1 hq with hq|hq
   ·exact h q hq
   ·rw [qn.1 hq];exact hp
 ·exact h
def bi {env:Env} (h:okEnv env) {ts:List Tm} {vs:List Vl} (hv:∀ v∈vs,okW v):∀ k,okEnv (envK env ts vs k)
 |0=>by simpa [envK] using h
 |k+1=>by
  have ih:=bi (ts:=ts) h hv k
  unfold envK
  cases hk:(ts.zip vs)[k]? with
  |none=>
   have hl:=yg.1 hk
   unfold envK at ih
   rw [qc hl] at ih
   rw [qc (by omega)]
   exact ih
  |some p=>
   rw [vh hk,List.foldl_append]
   exact bstep_ok ih (hv _ (List.of_mem_zip (qf hk)).2)
def qcx (w0 w:World) (hw0:New w0 w) (u0:Value) (env:Env) (hov:Own w w0.heap.size 191 5 u0 (env.map bcs)) (A:Option Addr) (n c:Nat) (css:List (List Value)) (ts:List Tm) (hn:n=ts.length) (hts:TmsAt w0 A css ts)
  (Av:Option Addr) (cv:Nat) (vs:List Vl) (hnv:n=vs.length) (hvs:SrcAt w0 Av 4 (vs.map vcs)) (hm:env.length+n≤1000) (hok:okEnv env):
  Calls Tryz.prog 174 #[u0,.slice A n c,.slice Av n cv] w fun e w'=>∃ v',e=.returned v'∧Own w' w0.heap.size 191 5 v' ((envK env ts vs n).map bcs)∧New w0 w':=by
 have HN:=qq hn
 have HNv:=qq hnv
 have Hts:=qq hts
 have Hvs:=qq hvs
 have HOv0:=qq hov
 have Hw0:=qq hw0
 clear hn hnv hts hvs hov hw0 hok
 go_enter Tryz.func174,Tryz.ntmps174
 go_wp2_with fail
 go_loopw [0,13] (fun u0 u13 wr=>∃ (k:Nat),k≤n∧u13=.int .i64 k∧Own wr w0.heap.size 191 5 u0 ((envK env ts vs k).map bcs)∧New w0 wr) (fun _ u _=>n - (intOf u).toNat)
 case atStart=>exact ⟨0,qr _,rfl,HOv0.out,Hw0.out⟩
 case round=>
  obtain ⟨k,hk,rfl,hov,hN⟩:=hrel
  obtain ⟨Ao,co,rfl,hc1,hc2⟩:=hov.form
  have HOv:=qq hov
  have HNw:=qq hN
  have hle:=ly env ts vs k
  obtain ⟨ek,hek⟩:=qdp (envK env ts vs k)
  rw [hek] at hle hov⊢
  rw [hek,qd] at HOv
  rw [qd]
  have Hek:=qq hek
  clear hov hN hc1 hc2 hek
  by_cases hlt:k < n
  ·obtain ⟨t,ht⟩:∃ t,ts[k]? =some t:=⟨_,qz (by rw [←HN.out];exact hlt)⟩
   obtain ⟨v,hv⟩:∃ v,vs[k]? =some v:=⟨_,qz (by rw [←HNv.out];exact hlt)⟩
   obtain ⟨cs,hcs⟩:∃ cs,css[k]? =some cs:=⟨_,qz (by rw [Hts.out.len, ←HN.out];exact hlt)⟩
   obtain ⟨ad,rfl,hrw⟩:=Hts.out.src (by rw [Hts.out.len, ←HN.out];omega)
   obtain ⟨av,rfl,hrv⟩:=Hvs.out (by rw [qd, ←HNv.out];omega)
   have hat:=(hrw k cs hcs).2.chg HNw.out id
   have hatv:=(hrv k (vcs v) (by rw [qa,hv];rfl)).2.chg HNw.out id
   have htm:=Hts.out.at_ k cs t hcs ht
   have h1c:=htm.one
   have hsu:=wh (env:=env) ht hv
   rw [Hek.out] at hsu
   obtain ⟨t0,t1,t2,t3,t4,t5,t6,rfl⟩:=htm.seven
   have Hat:=qq hat
   have Hatv:=qq hatv
   have Htm:=qq htm
   have H1c:=qq h1c
   have Hsu:=qq hsu
   clear hat hatv htm h1c hsu hrw hrv hcs ht hv
   go_upto_region 4 with first
    | ((with_reducible refine vq rfl (.tmp 16) 64 rfl xy (ad.add (k * 7)) _ ?_ rfl Hat.out ?_);exact rfl)
    | (with_reducible refine gz rfl 64 rfl elTerm.zero ?_;intro w2 cur hc2 hb2 hsz hs2;have HC2:=qq hc2;have HB2:=qq hb2;have Hsz:=qq hsz;clear hc2 hb2 hsz hs2)
    | ((with_reducible refine xq rfl (.tmp 8) (.tmp 17) 64 rfl rfl xy wr.heap.size 64 _ [t0,t1,t2,t3,t4,t5,t6] ?_ ?_ HB2.out rfl Hsz.out H1c.out ?_);exact rfl;exact rfl;intro w3 hc3 hb3 hs3;have HC3:=qq (HC2.out.put hc3 (qh _));have HB3:=qq hb3;clear hc3 hb3 hs3)
   have HOv3:=qq (HOv.out.chg HC3.out qdr)
   have HN3:=qq (HNw.out.trans HC3.out qdr)
   have Hatv3:=qq (Hatv.out.chg HC3.out id)
   have hsz3:=HC3.out.size
   have hb3:=Blk.lt HB3.out
   obtain ⟨bx,hbx⟩:=qdp (wr.heap.size)
   rw [hbx] at HB3 hb3⊢
   clear HC2 HB2 Hsz HC3 HOv HNw Hat Hatv H1c hbx hsz3
   cases t with
   |val x=>
    have e0:t0=.int .i64 2:=by have:=Htm.out;injection (show [t0,t1,t2,t3,t4,t5,t6]=_ from this)
    have c0:=HB3.out.cell 0
    simp only [qx,qj,e0] at c0
    clear e0
    go_wp2_with fail
    go_roundw
    case rel=>exact ⟨k+1,by omega,by go_num,by rw [Hsu.out];exact HOv3.out,HN3.out⟩
    case measure=>simp [intOf];omega
   |op m x y=>
    have e0:t0=.int .i64 4:=by obtain ⟨_,_,_,_,h,_⟩:=Htm.out;injection (show [t0,t1,t2,t3,t4,t5,t6]=_ from h)
    have c0:=HB3.out.cell 0
    simp only [qx,qj,e0] at c0
    clear e0
    go_wp2_with fail
    go_roundw
    case rel=>exact ⟨k+1,by omega,by go_num,by rw [Hsu.out];exact HOv3.out,HN3.out⟩
    case measure=>simp [intOf];omega
   |var s=>
    obtain ⟨e0,e1⟩:t0=.int .i64 1∧t1=.string s:=by
     have:=Htm.out
     injection (show [t0,t1,t2,t3,t4,t5,t6]=_ from this) with h1 h2
     injection h2 with h2 _
     exact ⟨h1,h2⟩
    have c0:=HB3.out.cell 0
    have c1:=HB3.out.cell 1
    simp only [qx,qj,qw,e0,e1] at c0 c1
    clear e0
    have hlk:=fp w3 Ao ek.length co ek s rfl (by omega) (HOv3.out.rows (A:=Ao) (n:=ek.length) (c:=co) rfl).2
    obtain ⟨o,ho⟩:=qdp (lookE ek s)
    rw [ho] at hlk
    have Hlk:=qq hlk
    have Ho:=qq ho
    clear hlk ho
    cases o with
    |some x=>
     unfold optV at Hlk
     dsimp only [Option.getD,Option.isSome,vval] at Hlk
     go_wp2_with first
      | (go_at_call 176;refine Hlk.out.mono ?_;rintro e w4 ⟨rfl,hc4⟩;have HC4:=qq hc4;clear hc4)
      | ((with_reducible refine xx rfl rfl 9 (.tmp 26) 62 rfl rfl rfl rfl vz fz.zero (vcs x) ?_ ?_ (vg _) (xw _) ?_);exact (by decide:9 < 42);exact rfl;intro w5 hc5 hb5 hs5;have HC5:=qq (HC4.out.trans hc5 qdr);clear hc5 hb5 hs5)
     go_roundw
     case rel=>exact ⟨k+1,by omega,by go_num,by rw [Hsu.out,om Ho.out];exact HOv3.out.chg HC5.out qdr,HN3.out.trans HC5.out qdr⟩
     case measure=>simp [intOf];omega
    |none=>
     unfold optV at Hlk
     dsimp only [Option.getD,Option.isSome,vval,zV] at Hlk
     go_upto_region 7 with first
      | (go_at_call 176;refine Hlk.out.mono ?_;rintro e w4 ⟨rfl,hc4⟩;have HC4:=qq hc4;clear hc4)
      | ((with_reducible refine xx rfl rfl 9 (.tmp 26) 62 rfl rfl rfl rfl vz fz.zero (vcs zV) ?_ ?_ (vg _) (xw _) ?_);exact (by decide:9 < 42);exact rfl;intro w5 hc5 hb5 hs5;have HC5:=qq (HC4.out.trans hc5 qdr);clear hc5 hb5 hs5)
     refine vj (by kernel_rfl) ?_
     have hcd:=(HC5.out.drew)
     have HOvd:=qq (HOv3.out.chg hcd qdr)
     have HNd:=qq (HN3.out.trans hcd qdr)
     have Hs:=qq (hcd.cellS c1 id)
     have Hvv:=qq (Hatv3.out.chg hcd id)
     clear c0 c1 Hatv3 HN3 HOv3 HC4 HC5 hcd Hlk
     generalize w5.drew=wd at HOvd HNd Hs Hvv⊢
     have q0:(0:Int)≤(k:Int):=by omega
     have q1:(k:Int) < (n:Int):=by omega
     obtain ⟨J,HJ0,HJ1,HJn⟩:∃ J:Bool→World→Prop,(∀ W,J false W↔W=wd)∧(∀ {W},J true W↔W=wd.alloc (.cells #[.string s,.int .i64 v.k,.int .i64 v.i,.string v.t,.slice none 0 0] 191))∧∀ d W,J d W→New wd W:=
      ⟨fun d W=>W=if d then wd.alloc (.cells #[.string s,.int .i64 v.k,.int .i64 v.i,.string v.t,.slice none 0 0] 191) else wd,fun W=>Iff.rfl,Iff.rfl,fun d W h=>by rw [show W=_ from h];cases d;exact Chg.refl _ _;exact (Chg.refl _ _).alloc _⟩
     refine AtN.segV2 0 9 8 (fun
      |0=>.slice Ao ek.length co
      |1=>.pointer (some ⟨bx,1,none⟩)
      |2=>.string s
      |3=>.slice (some av) n cv
      |4=>.int .i64 k
      |5=>.pointer (some (av.add (k * 4)))
      |6=>.agg #[.int .i64 v.k,.int .i64 v.i,.string v.t,.slice none 0 0]
      |7=>.agg #[.string s,.int .i64 v.k,.int .i64 v.i,.string v.t,.slice none 0 0]
      |_=>.slice (some ⟨wd.heap.size,0,none⟩) 1 1)
      [(30,.slice Ao ek.length co),(31,.pointer (some ⟨bx,1,none⟩)),(32,.string s),(33,.slice (some av) n cv),(34,.int .i64 k),(35,.pointer (some (av.add (k * 4)))),(36,.agg #[.int .i64 v.k,.int .i64 v.i,.string v.t,.slice none 0 0]),(37,.agg #[.string s,.int .i64 v.k,.int .i64 v.i,.string v.t,.slice none 0 0]),(38,.slice (some ⟨wd.heap.size,0,none⟩) 1 1)]
      J (by kernel_rfl) (by kernel_rfl) (by kernel_rfl) (by kernel_rfl) rfl ((HJ0 _).2 rfl) (fun i hn hi o ho A0 W d hJ hμ hin hk=>?_) (fun wq hJ=>?_)
     ·rcases (show i=0∨i=1∨i=2∨i=3∨i=4∨i=5∨i=6∨i=7∨i=8 by omega) with rfl|rfl|rfl|rfl|rfl|rfl|rfl|rfl|rfl<;>cases ho
      ·exact .quiet (uo 0 _ rfl (hk 0)) hJ
      ·have h8:A0.tmps[8]?.getD undef=.pointer (some ⟨bx,0,none⟩):=hk 8
       exact .quiet (by simp [go_sem,h8]) hJ
      ·have h31:A0.tmps[31]?.getD undef=.pointer (some ⟨bx,1,none⟩):=hin 1 31
       have hN:=HJn d W hJ
       exact .quiet (by simp [go_sem,h31,hN.cellS Hs.out id]) hJ
      ·exact .quiet (uo 2 _ rfl (hk 2)) hJ
      ·exact .quiet (uo 7 _ rfl (hk 7)) hJ
      ·have h33:A0.tmps[33]?.getD undef=.slice (some av) n cv:=hin 3 33
       have h34:A0.tmps[34]?.getD undef=.int .i64 k:=hin 4 34
       exact .quiet (by simp [go_sem,h33,h34,q0,q1]) hJ
      ·have h35:A0.tmps[35]?.getD undef=.pointer (some (av.add (k * 4))):=hin 5 35
       have hN:=HJn d W hJ
       exact .quiet (vu 35 _ rfl vz (av.add (k * 4)) (vcs v) h35 (vg v) (Hvv.out.chg hN id)) hJ
      ·have h32:A0.tmps[32]?.getD undef=.string s:=hin 2 32
       have h36:A0.tmps[36]?.getD undef=.agg #[.int .i64 v.k,.int .i64 v.i,.string v.t,.slice none 0 0]:=hin 6 36
       exact .quiet (by simp [go_sem,h32,h36]) hJ
      ·have h37:A0.tmps[37]?.getD undef=.agg #[.string s,.int .i64 v.k,.int .i64 v.i,.string v.t,.slice none 0 0]:=hin 7 37
       obtain rfl:=hμ rfl
       obtain rfl:=(HJ0 W).1 hJ
       exact .value (W':=W.alloc (.cells #[.string s,.int .i64 v.k,.int .i64 v.i,.string v.t,.slice none 0 0] 191)) (by simp [go_sem,h37]) ⟨HJ1.2 rfl,rfl⟩
     simp only [putsL,Act.put,qk,qu,qy]
     obtain rfl:=HJ1.1 (show J true wq from hJ)
     clear hJ
     obtain ⟨wn,hwn⟩:=qdq (wd.alloc (.cells #[.string s,.int .i64 v.k,.int .i64 v.i,.string v.t,.slice none 0 0] 191))
     have hnn:New wd wn:=by rw [hwn];exact (Chg.refl _ _).alloc _
     have hbn:Blk wn wd.heap.size 191 #[.string s,.int .i64 v.k,.int .i64 v.i,.string v.t,.slice none 0 0]:=by rw [hwn];exact Blk.new _ _ _
     have hlw:=HNd.out.size
     have hrun:=elScope.appendS (HOvd.out.chg hnn qdr) (qb hlw hnn.size) (some ⟨wd.heap.size,0,none⟩) 1 1 [bcs (s,v)] rfl (fun cs hc=>by rw [qn.1 hc];rfl) (fun cs hc=>aa [(s,v)] cs hc) (kj (k:=5) (cs:=bcs (s,v)) (Blk.at_ hbn) rfl) (by rw [qd];omega) (by rw [qd];unfold maxLen;omega) 192
     rw [hwn] at hrun
     obtain ⟨v6,w6,hrun,hown6,hc6,-⟩:=hrun
     have Hrun:=qq hrun
     have Hown6:=qq hown6
     have HC6:=qq ((hnn.mono (T':=fun k=>(Value.slice Ao ek.length co).ownBlock=some k) (fun _ _ x=>x.elim)).trans (hwn▸hc6) qdr)
     have HT:=qq (fun g (hg:(Value.slice Ao ek.length co).ownBlock=some g)=>(HOvd.out.lt hg).1)
     clear hrun hbn hnn hwn hown6 hc6 HOvd Hs Hvv HJ0 HJ1 HJn hlw
     refine AtN.list 9 11 (by kernel_rfl) ?_
     change wpList _ _ _ [_,_] _ _
     go_wp2_with ((with_reducible refine xu rfl (.tmp 30) (.tmp 38) 192 192 rfl ?_ ?_ Hrun.out ?_);exact rfl;exact rfl)
     change AtN _ _ _ 11 _ _
     refine AtN.done rfl ?_
     go_wp2_with fail
     go_roundw
     case rel=>
      refine ⟨k+1,by omega,by go_num,by rw [Hsu.out,qae Ho.out,jw];exact Hown6.out,HNd.out.trans HC6.out (fun k hk h=>?_)⟩
      have:=HT.out k h
      omega
     case measure=>simp [intOf];omega
  ·go_wp2_with fail
   go_ret
   refine ⟨_,rfl,?_,HNw.out⟩
   rw [show n=k by omega,Hek.out]
   exact HOv.out
def tstB (j:Nat) (c:Int):Bool:=match j with|0=>c == 0|1=>!(c == 0)|2=>decide (c < 0)|3=>decide (c≤0)|4=>decide (0 < c)|_=>decide (0≤c)
def opT (j:Nat):ByteArray:=match j with|0=>⟨#[61,61]⟩|1=>⟨#[33,61]⟩|2=>⟨#[60]⟩|3=>⟨#[60,61]⟩|4=>⟨#[62]⟩|_=>⟨#[62,61]⟩
def testV (j:Nat) (a b:Vl):Bool:=rightV a&&rightV b&&tstB j (cmpV a b)
def al1 (w:World) (a:Vl) (b:Vl):(Blk ((w.alloc (.cells #[.int .i64 a.k,.int .i64 a.i,.string a.t,.slice none 0 0] 62)).alloc (.cells #[.int .i64 b.k,.int .i64 b.i,.string b.t,.slice none 0 0] 62)) w.heap.size 62 #[.int .i64 a.k,.int .i64 a.i,.string a.t,.slice none 0 0])∧(Blk ((w.alloc (.cells #[.int .i64 a.k,.int .i64 a.i,.string a.t,.slice none 0 0] 62)).alloc (.cells #[.int .i64 b.k,.int .i64 b.i,.string b.t,.slice none 0 0] 62)) (w.heap.size+1) 62 #[.int .i64 b.k,.int .i64 b.i,.string b.t,.slice none 0 0])∧(New w ((w.alloc (.cells #[.int .i64 a.k,.int .i64 a.i,.string a.t,.slice none 0 0] 62)).alloc (.cells #[.int .i64 b.k,.int .i64 b.i,.string b.t,.slice none 0 0] 62))):=by
 have hb1:Blk ((w.alloc (.cells #[.int .i64 a.k,.int .i64 a.i,.string a.t,.slice none 0 0] 62)).alloc (.cells #[.int .i64 b.k,.int .i64 b.i,.string b.t,.slice none 0 0] 62)) w.heap.size 62 #[.int .i64 a.k,.int .i64 a.i,.string a.t,.slice none 0 0]:=(Blk.new w _ _).alloc _
 have hb2:Blk ((w.alloc (.cells #[.int .i64 a.k,.int .i64 a.i,.string a.t,.slice none 0 0] 62)).alloc (.cells #[.int .i64 b.k,.int .i64 b.i,.string b.t,.slice none 0 0] 62)) (w.heap.size+1) 62 #[.int .i64 b.k,.int .i64 b.i,.string b.t,.slice none 0 0]:=by
  have:=Blk.new (w.alloc (.cells #[.int .i64 a.k,.int .i64 a.i,.string a.t,.slice none 0 0] 62)) 62 #[.int .i64 b.k,.int .i64 b.i,.string b.t,.slice none 0 0]
  rwa [World.size_alloc] at this
 have hc:New w ((w.alloc (.cells #[.int .i64 a.k,.int .i64 a.i,.string a.t,.slice none 0 0] 62)).alloc (.cells #[.int .i64 b.k,.int .i64 b.i,.string b.t,.slice none 0 0] 62)):=((Chg.refl w _).alloc _).alloc _
 exact ⟨hb1,hb2,hc⟩
def test_r1 (w:World) (s:ByteArray) (a b:Vl) (ka:∀ W,Calls Tryz.prog 134 #[.agg #[.int .i64 a.k,.int .i64 a.i,.string a.t,.slice none 0 0]] W fun e w'=>e=.returned (.bool false)∧New W w'):Calls Tryz.prog 148 #[.string s,.agg #[.int .i64 a.k,.int .i64 a.i,.string a.t,.slice none 0 0],.agg #[.int .i64 b.k,.int .i64 b.i,.string b.t,.slice none 0 0]] w
  fun e w'=>e=.returned (.bool false)∧New w w':=by
 have KA:=qq ka
 clear ka
 obtain ⟨hb1,hb2,hc⟩:=al1 w a b
 have Ha:=qq hb1.vcs
 have Hb:=qq hb2.vcs
 have Hc:=qq hc
 clear hb1 hb2 hc
 go_enter Tryz.func148,Tryz.ntmps148
 go_wp2_with first
  | (go_at_call 134;refine (KA.out _).mono ?_;rintro e w3 ⟨rfl,hc3⟩;replace Ha:=qq (Ha.out.chg hc3 id);replace Hb:=qq (Hb.out.chg hc3 id);replace Hc:=qq (Hc.out.trans hc3 qdr);clear hc3)
  | ((with_reducible refine vq rfl (.tmp 4) 62 rfl vz ⟨w.heap.size,0,none⟩ (vcs a) ?_ (vg _) Ha.out ?_);exact rfl)
 go_ret
 exact ⟨rfl,Hc.out⟩
def test_r2 (w:World) (s:ByteArray) (a b:Vl) (ka:∀ W,Calls Tryz.prog 134 #[.agg #[.int .i64 a.k,.int .i64 a.i,.string a.t,.slice none 0 0]] W fun e w'=>e=.returned (.bool true)∧New W w')
  (kb:∀ W,Calls Tryz.prog 134 #[.agg #[.int .i64 b.k,.int .i64 b.i,.string b.t,.slice none 0 0]] W fun e w'=>e=.returned (.bool false)∧New W w'):Calls Tryz.prog 148 #[.string s,.agg #[.int .i64 a.k,.int .i64 a.i,.string a.t,.slice none 0 0],.agg #[.int .i64 b.k,.int .i64 b.i,.string b.t,.slice none 0 0]] w
  fun e w'=>e=.returned (.bool false)∧New w w':=by
 have KA:=qq ka
 have KB:=qq kb
 clear ka kb
 obtain ⟨hb1,hb2,hc⟩:=al1 w a b
 have Ha:=qq hb1.vcs
 have Hb:=qq hb2.vcs
 have Hc:=qq hc
 clear hb1 hb2 hc
 go_enter Tryz.func148,Tryz.ntmps148
 go_wp2_with first
  | (go_at_call 134;refine (KA.out _).mono ?_;rintro e w3 ⟨rfl,hc3⟩;replace Ha:=qq (Ha.out.chg hc3 id);replace Hb:=qq (Hb.out.chg hc3 id);replace Hc:=qq (Hc.out.trans hc3 qdr);clear hc3)
  | ((with_reducible refine vq rfl (.tmp 4) 62 rfl vz ⟨w.heap.size,0,none⟩ (vcs a) ?_ (vg _) Ha.out ?_);exact rfl)
  | ((with_reducible refine xe ?_ (.tmp 5) 62 rfl vz ⟨w.heap.size+1,0,none⟩ (vcs b) ?_ (vg _) Hb.out ?_);rfl;exact rfl)
 refine (KB.out _).mono ?_
 rintro e w4 ⟨rfl,hc4⟩
 replace Ha:=qq (Ha.out.chg hc4 id)
 replace Hb:=qq (Hb.out.chg hc4 id)
 replace Hc:=qq (Hc.out.trans hc4 qdr)
 clear hc4
 go_wp2_with fail
 go_ret
 exact ⟨rfl,Hc.out⟩
def test_0 (w:World) (a b:Vl) (ka:∀ W,Calls Tryz.prog 134 #[.agg #[.int .i64 a.k,.int .i64 a.i,.string a.t,.slice none 0 0]] W fun e w'=>e=.returned (.bool true)∧New W w')
  (kb:∀ W,Calls Tryz.prog 134 #[.agg #[.int .i64 b.k,.int .i64 b.i,.string b.t,.slice none 0 0]] W fun e w'=>e=.returned (.bool true)∧New W w'):Calls Tryz.prog 148 #[.string ⟨#[61,61]⟩,.agg #[.int .i64 a.k,.int .i64 a.i,.string a.t,.slice none 0 0],.agg #[.int .i64 b.k,.int .i64 b.i,.string b.t,.slice none 0 0]] w
  fun e w'=>e=.returned (.bool (tstB 0 (cmpV a b)))∧New w w':=by
 have KA:=qq ka
 have KB:=qq kb
 clear ka kb
 have kc:=fun W=>ke a b W
 obtain ⟨c,hcc⟩:=qdp (cmpV a b)
 rw [hcc] at kc⊢
 clear hcc
 have KC:=qq kc
 clear kc
 obtain ⟨hb1,hb2,hc⟩:=al1 w a b
 have Ha:=qq hb1.vcs
 have Hb:=qq hb2.vcs
 have Hc:=qq hc
 clear hb1 hb2 hc
 go_enter Tryz.func148,Tryz.ntmps148
 go_wp2_with first
  | (go_at_call 134;refine (KA.out _).mono ?_;rintro e w3 ⟨rfl,hc3⟩;replace Ha:=qq (Ha.out.chg hc3 id);replace Hb:=qq (Hb.out.chg hc3 id);replace Hc:=qq (Hc.out.trans hc3 qdr);clear hc3)
  | ((with_reducible refine vq rfl (.tmp 4) 62 rfl vz ⟨w.heap.size,0,none⟩ (vcs a) ?_ (vg _) Ha.out ?_);exact rfl)
  | ((with_reducible refine xe ?_ (.tmp 5) 62 rfl vz ⟨w.heap.size+1,0,none⟩ (vcs b) ?_ (vg _) Hb.out ?_);rfl;exact rfl)
 refine (KB.out _).mono ?_
 rintro e w4 ⟨rfl,hc4⟩
 replace Ha:=qq (Ha.out.chg hc4 id)
 replace Hb:=qq (Hb.out.chg hc4 id)
 replace Hc:=qq (Hc.out.trans hc4 qdr)
 clear hc4
 go_wp2_with first
  | (go_at_call 51;refine (KC.out _).mono ?_;rintro e w5 ⟨rfl,hc5⟩;replace Ha:=qq (Ha.out.chg hc5 id);replace Hb:=qq (Hb.out.chg hc5 id);replace Hc:=qq (Hc.out.trans hc5 qdr);clear hc5)
  | ((with_reducible refine vq rfl (.tmp 4) 62 rfl vz ⟨w.heap.size,0,none⟩ (vcs a) ?_ (vg _) Ha.out ?_);exact rfl)
  | ((with_reducible refine vq rfl (.tmp 5) 62 rfl vz ⟨w.heap.size+1,0,none⟩ (vcs b) ?_ (vg _) Hb.out ?_);exact rfl)
 go_ret
 exact ⟨by first|rfl| (unfold tstB;simp)| (unfold tstB;simp;omega),Hc.out⟩
def test_1 (w:World) (a b:Vl) (ka:∀ W,Calls Tryz.prog 134 #[.agg #[.int .i64 a.k,.int .i64 a.i,.string a.t,.slice none 0 0]] W fun e w'=>e=.returned (.bool true)∧New W w')
  (kb:∀ W,Calls Tryz.prog 134 #[.agg #[.int .i64 b.k,.int .i64 b.i,.string b.t,.slice none 0 0]] W fun e w'=>e=.returned (.bool true)∧New W w'):Calls Tryz.prog 148 #[.string ⟨#[33,61]⟩,.agg #[.int .i64 a.k,.int .i64 a.i,.string a.t,.slice none 0 0],.agg #[.int .i64 b.k,.int .i64 b.i,.string b.t,.slice none 0 0]] w
  fun e w'=>e=.returned (.bool (tstB 1 (cmpV a b)))∧New w w':=by
 have KA:=qq ka
 have KB:=qq kb
 clear ka kb
 have kc:=fun W=>ke a b W
 obtain ⟨c,hcc⟩:=qdp (cmpV a b)
 rw [hcc] at kc⊢
 clear hcc
 have KC:=qq kc
 clear kc
 obtain ⟨hb1,hb2,hc⟩:=al1 w a b
 have Ha:=qq hb1.vcs
 have Hb:=qq hb2.vcs
 have Hc:=qq hc
 clear hb1 hb2 hc
 go_enter Tryz.func148,Tryz.ntmps148
 go_wp2_with first
  | (go_at_call 134;refine (KA.out _).mono ?_;rintro e w3 ⟨rfl,hc3⟩;replace Ha:=qq (Ha.out.chg hc3 id);replace Hb:=qq (Hb.out.chg hc3 id);replace Hc:=qq (Hc.out.trans hc3 qdr);clear hc3)
  | ((with_reducible refine vq rfl (.tmp 4) 62 rfl vz ⟨w.heap.size,0,none⟩ (vcs a) ?_ (vg _) Ha.out ?_);exact rfl)
  | ((with_reducible refine xe ?_ (.tmp 5) 62 rfl vz ⟨w.heap.size+1,0,none⟩ (vcs b) ?_ (vg _) Hb.out ?_);rfl;exact rfl)
 refine (KB.out _).mono ?_
 rintro e w4 ⟨rfl,hc4⟩
 replace Ha:=qq (Ha.out.chg hc4 id)
 replace Hb:=qq (Hb.out.chg hc4 id)
 replace Hc:=qq (Hc.out.trans hc4 qdr)
 clear hc4
 go_wp2_with first
  | (go_at_call 51;refine (KC.out _).mono ?_;rintro e w5 ⟨rfl,hc5⟩;replace Ha:=qq (Ha.out.chg hc5 id);replace Hb:=qq (Hb.out.chg hc5 id);replace Hc:=qq (Hc.out.trans hc5 qdr);clear hc5)
  | ((with_reducible refine vq rfl (.tmp 4) 62 rfl vz ⟨w.heap.size,0,none⟩ (vcs a) ?_ (vg _) Ha.out ?_);exact rfl)
  | ((with_reducible refine vq rfl (.tmp 5) 62 rfl vz ⟨w.heap.size+1,0,none⟩ (vcs b) ?_ (vg _) Hb.out ?_);exact rfl)
 go_ret
 exact ⟨by first|rfl| (unfold tstB;simp)| (unfold tstB;simp;omega),Hc.out⟩
def test_2 (w:World) (a b:Vl) (ka:∀ W,Calls Tryz.prog 134 #[.agg #[.int .i64 a.k,.int .i64 a.i,.string a.t,.slice none 0 0]] W fun e w'=>e=.returned (.bool true)∧New W w')
  (kb:∀ W,Calls Tryz.prog 134 #[.agg #[.int .i64 b.k,.int .i64 b.i,.string b.t,.slice none 0 0]] W fun e w'=>e=.returned (.bool true)∧New W w'):Calls Tryz.prog 148 #[.string ⟨#[60]⟩,.agg #[.int .i64 a.k,.int .i64 a.i,.string a.t,.slice none 0 0],.agg #[.int .i64 b.k,.int .i64 b.i,.string b.t,.slice none 0 0]] w
  fun e w'=>e=.returned (.bool (tstB 2 (cmpV a b)))∧New w w':=by
 have KA:=qq ka
 have KB:=qq kb
 clear ka kb
 have kc:=fun W=>ke a b W
 obtain ⟨c,hcc⟩:=qdp (cmpV a b)
 rw [hcc] at kc⊢
 clear hcc
 have KC:=qq kc
 clear kc
 obtain ⟨hb1,hb2,hc⟩:=al1 w a b
 have Ha:=qq hb1.vcs
 have Hb:=qq hb2.vcs
 have Hc:=qq hc
 clear hb1 hb2 hc
 go_enter Tryz.func148,Tryz.ntmps148
 go_wp2_with first
  | (go_at_call 134;refine (KA.out _).mono ?_;rintro e w3 ⟨rfl,hc3⟩;replace Ha:=qq (Ha.out.chg hc3 id);replace Hb:=qq (Hb.out.chg hc3 id);replace Hc:=qq (Hc.out.trans hc3 qdr);clear hc3)
  | ((with_reducible refine vq rfl (.tmp 4) 62 rfl vz ⟨w.heap.size,0,none⟩ (vcs a) ?_ (vg _) Ha.out ?_);exact rfl)
  | ((with_reducible refine xe ?_ (.tmp 5) 62 rfl vz ⟨w.heap.size+1,0,none⟩ (vcs b) ?_ (vg _) Hb.out ?_);rfl;exact rfl)
 refine (KB.out _).mono ?_
 rintro e w4 ⟨rfl,hc4⟩
 replace Ha:=qq (Ha.out.chg hc4 id)
 replace Hb:=qq (Hb.out.chg hc4 id)
 replace Hc:=qq (Hc.out.trans hc4 qdr)
 clear hc4
 go_wp2_with first
  | (go_at_call 51;refine (KC.out _).mono ?_;rintro e w5 ⟨rfl,hc5⟩;replace Ha:=qq (Ha.out.chg hc5 id);replace Hb:=qq (Hb.out.chg hc5 id);replace Hc:=qq (Hc.out.trans hc5 qdr);clear hc5)
  | ((with_reducible refine vq rfl (.tmp 4) 62 rfl vz ⟨w.heap.size,0,none⟩ (vcs a) ?_ (vg _) Ha.out ?_);exact rfl)
  | ((with_reducible refine vq rfl (.tmp 5) 62 rfl vz ⟨w.heap.size+1,0,none⟩ (vcs b) ?_ (vg _) Hb.out ?_);exact rfl)
 go_ret
 exact ⟨by first|rfl| (unfold tstB;simp)| (unfold tstB;simp;omega),Hc.out⟩
def test_3 (w:World) (a b:Vl) (ka:∀ W,Calls Tryz.prog 134 #[.agg #[.int .i64 a.k,.int .i64 a.i,.string a.t,.slice none 0 0]] W fun e w'=>e=.returned (.bool true)∧New W w')
  (kb:∀ W,Calls Tryz.prog 134 #[.agg #[.int .i64 b.k,.int .i64 b.i,.string b.t,.slice none 0 0]] W fun e w'=>e=.returned (.bool true)∧New W w'):Calls Tryz.prog 148 #[.string ⟨#[60,61]⟩,.agg #[.int .i64 a.k,.int .i64 a.i,.string a.t,.slice none 0 0],.agg #[.int .i64 b.k,.int .i64 b.i,.string b.t,.slice none 0 0]] w
  fun e w'=>e=.returned (.bool (tstB 3 (cmpV a b)))∧New w w':=by
 have KA:=qq ka
 have KB:=qq kb
 clear ka kb
 have kc:=fun W=>ke a b W
 obtain ⟨c,hcc⟩:=qdp (cmpV a b)
 rw [hcc] at kc⊢
 clear hcc
 have KC:=qq kc
 clear kc
 obtain ⟨hb1,hb2,hc⟩:=al1 w a b
 have Ha:=qq hb1.vcs
 have Hb:=qq hb2.vcs
 have Hc:=qq hc
 clear hb1 hb2 hc
 go_enter Tryz.func148,Tryz.ntmps148
 go_wp2_with first
  | (go_at_call 134;refine (KA.out _).mono ?_;rintro e w3 ⟨rfl,hc3⟩;replace Ha:=qq (Ha.out.chg hc3 id);replace Hb:=qq (Hb.out.chg hc3 id);replace Hc:=qq (Hc.out.trans hc3 qdr);clear hc3)
  | ((with_reducible refine vq rfl (.tmp 4) 62 rfl vz ⟨w.heap.size,0,none⟩ (vcs a) ?_ (vg _) Ha.out ?_);exact rfl)
  | ((with_reducible refine xe ?_ (.tmp 5) 62 rfl vz ⟨w.heap.size+1,0,none⟩ (vcs b) ?_ (vg _) Hb.out ?_);rfl;exact rfl)
 refine (KB.out _).mono ?_
 rintro e w4 ⟨rfl,hc4⟩
 replace Ha:=qq (Ha.out.chg hc4 id)
 replace Hb:=qq (Hb.out.chg hc4 id)
 replace Hc:=qq (Hc.out.trans hc4 qdr)
 clear hc4
 go_wp2_with first
  | (go_at_call 51;refine (KC.out _).mono ?_;rintro e w5 ⟨rfl,hc5⟩;replace Ha:=qq (Ha.out.chg hc5 id);replace Hb:=qq (Hb.out.chg hc5 id);replace Hc:=qq (Hc.out.trans hc5 qdr);clear hc5)
  | ((with_reducible refine vq rfl (.tmp 4) 62 rfl vz ⟨w.heap.size,0,none⟩ (vcs a) ?_ (vg _) Ha.out ?_);exact rfl)
  | ((with_reducible refine vq rfl (.tmp 5) 62 rfl vz ⟨w.heap.size+1,0,none⟩ (vcs b) ?_ (vg _) Hb.out ?_);exact rfl)
 go_ret
 exact ⟨by first|rfl| (unfold tstB;simp)| (unfold tstB;simp;omega),Hc.out⟩
def test_4 (w:World) (a b:Vl) (ka:∀ W,Calls Tryz.prog 134 #[.agg #[.int .i64 a.k,.int .i64 a.i,.string a.t,.slice none 0 0]] W fun e w'=>e=.returned (.bool true)∧New W w')
  (kb:∀ W,Calls Tryz.prog 134 #[.agg #[.int .i64 b.k,.int .i64 b.i,.string b.t,.slice none 0 0]] W fun e w'=>e=.returned (.bool true)∧New W w'):Calls Tryz.prog 148 #[.string ⟨#[62]⟩,.agg #[.int .i64 a.k,.int .i64 a.i,.string a.t,.slice none 0 0],.agg #[.int .i64 b.k,.int .i64 b.i,.string b.t,.slice none 0 0]] w
  fun e w'=>e=.returned (.bool (tstB 4 (cmpV a b)))∧New w w':=by
 have KA:=qq ka
 have KB:=qq kb
 clear ka kb
 have kc:=fun W=>ke a b W
 obtain ⟨c,hcc⟩:=qdp (cmpV a b)
 rw [hcc] at kc⊢
 clear hcc
 have KC:=qq kc
 clear kc
 obtain ⟨hb1,hb2,hc⟩:=al1 w a b
 have Ha:=qq hb1.vcs
 have Hb:=qq hb2.vcs
 have Hc:=qq hc
 clear hb1 hb2 hc
 go_enter Tryz.func148,Tryz.ntmps148
 go_wp2_with first
  | (go_at_call 134;refine (KA.out _).mono ?_;rintro e w3 ⟨rfl,hc3⟩;replace Ha:=qq (Ha.out.chg hc3 id);replace Hb:=qq (Hb.out.chg hc3 id);replace Hc:=qq (Hc.out.trans hc3 qdr);clear hc3)
  | ((with_reducible refine vq rfl (.tmp 4) 62 rfl vz ⟨w.heap.size,0,none⟩ (vcs a) ?_ (vg _) Ha.out ?_);exact rfl)
  | ((with_reducible refine xe ?_ (.tmp 5) 62 rfl vz ⟨w.heap.size+1,0,none⟩ (vcs b) ?_ (vg _) Hb.out ?_);rfl;exact rfl)
 refine (KB.out _).mono ?_
 rintro e w4 ⟨rfl,hc4⟩
 replace Ha:=qq (Ha.out.chg hc4 id)
 replace Hb:=qq (Hb.out.chg hc4 id)
 replace Hc:=qq (Hc.out.trans hc4 qdr)
 clear hc4
 go_wp2_with first
  | (go_at_call 51;refine (KC.out _).mono ?_;rintro e w5 ⟨rfl,hc5⟩;replace Ha:=qq (Ha.out.chg hc5 id);replace Hb:=qq (Hb.out.chg hc5 id);replace Hc:=qq (Hc.out.trans hc5 qdr);clear hc5)
  | ((with_reducible refine vq rfl (.tmp 4) 62 rfl vz ⟨w.heap.size,0,none⟩ (vcs a) ?_ (vg _) Ha.out ?_);exact rfl)
  | ((with_reducible refine vq rfl (.tmp 5) 62 rfl vz ⟨w.heap.size+1,0,none⟩ (vcs b) ?_ (vg _) Hb.out ?_);exact rfl)
 go_ret
 exact ⟨by first|rfl| (unfold tstB;simp)| (unfold tstB;simp;omega),Hc.out⟩
def test_5 (w:World) (a b:Vl) (ka:∀ W,Calls Tryz.prog 134 #[.agg #[.int .i64 a.k,.int .i64 a.i,.string a.t,.slice none 0 0]] W fun e w'=>e=.returned (.bool true)∧New W w')
  (kb:∀ W,Calls Tryz.prog 134 #[.agg #[.int .i64 b.k,.int .i64 b.i,.string b.t,.slice none 0 0]] W fun e w'=>e=.returned (.bool true)∧New W w'):Calls Tryz.prog 148 #[.string ⟨#[62,61]⟩,.agg #[.int .i64 a.k,.int .i64 a.i,.string a.t,.slice none 0 0],.agg #[.int .i64 b.k,.int .i64 b.i,.string b.t,.slice none 0 0]] w
  fun e w'=>e=.returned (.bool (tstB 5 (cmpV a b)))∧New w w':=by
 have KA:=qq ka
 have KB:=qq kb
 clear ka kb
 have kc:=fun W=>ke a b W
 obtain ⟨c,hcc⟩:=qdp (cmpV a b)
 rw [hcc] at kc⊢
 clear hcc
 have KC:=qq kc
 clear kc
 obtain ⟨hb1,hb2,hc⟩:=al1 w a b
 have Ha:=qq hb1.vcs
 have Hb:=qq hb2.vcs
 have Hc:=qq hc
 clear hb1 hb2 hc
 go_enter Tryz.func148,Tryz.ntmps148
 go_wp2_with first
  | (go_at_call 134;refine (KA.out _).mono ?_;rintro e w3 ⟨rfl,hc3⟩;replace Ha:=qq (Ha.out.chg hc3 id);replace Hb:=qq (Hb.out.chg hc3 id);replace Hc:=qq (Hc.out.trans hc3 qdr);clear hc3)
  | ((with_reducible refine vq rfl (.tmp 4) 62 rfl vz ⟨w.heap.size,0,none⟩ (vcs a) ?_ (vg _) Ha.out ?_);exact rfl)
  | ((with_reducible refine xe ?_ (.tmp 5) 62 rfl vz ⟨w.heap.size+1,0,none⟩ (vcs b) ?_ (vg _) Hb.out ?_);rfl;exact rfl)
 refine (KB.out _).mono ?_
 rintro e w4 ⟨rfl,hc4⟩
 replace Ha:=qq (Ha.out.chg hc4 id)
 replace Hb:=qq (Hb.out.chg hc4 id)
 replace Hc:=qq (Hc.out.trans hc4 qdr)
 clear hc4
 go_wp2_with first
  | (go_at_call 51;refine (KC.out _).mono ?_;rintro e w5 ⟨rfl,hc5⟩;replace Ha:=qq (Ha.out.chg hc5 id);replace Hb:=qq (Hb.out.chg hc5 id);replace Hc:=qq (Hc.out.trans hc5 qdr);clear hc5)
  | ((with_reducible refine vq rfl (.tmp 4) 62 rfl vz ⟨w.heap.size,0,none⟩ (vcs a) ?_ (vg _) Ha.out ?_);exact rfl)
  | ((with_reducible refine vq rfl (.tmp 5) 62 rfl vz ⟨w.heap.size+1,0,none⟩ (vcs b) ?_ (vg _) Hb.out ?_);exact rfl)
 go_ret
 exact ⟨by first|rfl| (unfold tstB;simp)| (unfold tstB;simp;omega),Hc.out⟩
def test_val (w:World) (j:Nat) (a b:Vl) (ha:okV a) (hb:okV b) (ha0:-9223372036854775808≤a.i) (ha1:a.i≤9223372036854775807) (hb0:-9223372036854775808≤b.i) (hb1:b.i≤9223372036854775807):
  Calls Tryz.prog 148 #[.string (opT j),vval a,vval b] w fun e w'=>e=.returned (.bool (testV j a b))∧New w w':=by
 have ra:=fun W=>kl W a ha ha0 ha1
 have rb:=fun W=>kl W b hb hb0 hb1
 cases hqa:rightV a with
 |false=>
  rw [hqa] at ra
  have:testV j a b=false:=by unfold testV;rw [hqa];rfl
  rw [this]
  exact test_r1 w _ a b ra
 |true=>
  rw [hqa] at ra
  cases hqb:rightV b with
  |false=>
   rw [hqb] at rb
   have:testV j a b=false:=by unfold testV;rw [hqa,hqb];rfl
   rw [this]
   exact test_r2 w _ a b ra rb
  |true=>
   rw [hqb] at rb
   have:testV j a b=tstB j (cmpV a b):=by unfold testV;rw [hqa,hqb];rfl
   rw [this]
   match j with
   |0=>exact test_0 w a b ra rb
   |1=>exact test_1 w a b ra rb
   |2=>exact test_2 w a b ra rb
   |3=>exact test_3 w a b ra rb
   |4=>exact test_4 w a b ra rb
   |_+5=>exact test_5 w a b ra rb
end Go.Proofs.YtbpgfnbhihklnaaGreat
