/- Part 2 of what stands beneath. -/
import Derived.Test.YtbpgfnbhihklnaaGreatJ1
import Derived.KernelRfl
import Derived.Laws.Externs
import Derived.Deep.CutRange
set_option maxHeartbeats 8000000
set_option maxRecDepth 100000
set_option linter.all false
namespace Go.Proofs.YtbpgfnbhihklnaaGreat
def fz:ElT Tryz.prog 40 62 4 56 (Value.cells (.agg #[.int .i64 0,.int .i64 0,.string ⟨#[]⟩,.slice none 0 0])).toList:=
 ElT.mk' (by kernel_rfl) (by kernel_rfl) rfl (by omega) (by intro u hu;simp only [Value.cells,qp,qm,or_false] at hu;rcases hu with rfl|rfl|rfl|rfl <;> rfl)
def qbc:StT Tryz.prog 62 4:=⟨⟨_,Tryz.underlying62⟩,by kernel_rfl⟩
def elRow:ElT Tryz.prog 31 42 3 48 (Value.cells (.agg #[.string ⟨#[]⟩,.slice none 0 0,.int .i64 0])).toList:=
 ElT.mk' (by kernel_rfl) (by kernel_rfl) rfl (by omega) (by intro u hu;simp only [Value.cells,qp,qm,or_false] at hu;rcases hu with rfl|rfl|rfl <;> rfl)
def vd:StT Tryz.prog 42 3:=⟨⟨_,Tryz.underlying42⟩,by kernel_rfl⟩
open Go.RowKit Go.Shelf
def rowCs (cs:List Value):Prop:=cs.length=3∧∀ u∈cs,u.oneCell'=true
structure Tab (W:World) (g n:Nat) (e:List (List Value)) (rest:List Value):Prop where
 blk:Blk W g 42 (e.flatten++rest).toArray
 len:e.length=n
 row:∀ cs∈e,rowCs cs
def Tab.k3 {W:World} {g n:Nat} {e:List (List Value)} {rest:List Value} (h:Tab W g n e rest):∀ cs∈e,cs.length=3:=fun cs hc=>(h.row cs hc).1
def Tab.get {W:World} {g n:Nat} {e:List (List Value)} {rest:List Value} (h:Tab W g n e rest) {i:Nat} {cs:List Value} (hi:e[i]? =some cs):At W ⟨g,i * 3,none⟩ cs:=fun j u hj=>by
 have hb:=h.blk.cell (i * 3+j)
 rw [Addr.add_lit,hb,qx]
 have hf:=xl h.k3 hi hj
 rw [qe (qv.1 hf).1]
 exact hf
def Tab.cs {W:World} {g n:Nat} {e:List (List Value)} {rest:List Value} (h:Tab W g n e rest) {i:Nat} (hi:i < n):∃ cs,e[i]? =some cs∧cs∈e∧rowCs cs:=by
 have h1:e[i]? =some (e[i]'(by rw [h.len];exact hi)):=qz _
 exact ⟨_,h1,qf h1,h.row _ (qf h1)⟩
def Tab.chg {W W':World} {g n:Nat} {e:List (List Value)} {rest:List Value} {T:Nat→Prop} (h:Tab W g n e rest) (hc:Chg W W' T) (hn:¬ T g):Tab W' g n e rest:=⟨h.blk.chg hc hn,h.len,h.row⟩
def ig {e:List (List Value)} {rest cs:List Value} {i:Nat} (hk:∀ c∈e,c.length=3) (hi:i < e.length) (hl:cs.length=3):layA (e.flatten++rest).toArray (i * 3) cs=((e.set i cs).flatten++rest).toArray:=by
 unfold layA lay
 congr 1
 have hfl:=xz hk
 simp only []
 rw [jy (by rw [hfl];omega),cj i hk,hl,show i * 3+3=(i+1) * 3 by omega,List.drop_append_of_le_length (by rw [hfl];omega),ko (i+1) hk,um,if_pos hi]
 simp [qo]
def Tab.set {W:World} {g n:Nat} {e:List (List Value)} {rest:List Value} (h:Tab W g n e rest) {i:Nat} {cs:List Value} (hi:i < n) (hc:rowCs cs):Tab (W.setRow g (layA (e.flatten++rest).toArray (i * 3) cs)) g n (e.set i cs) rest:=by
 rw [ig h.k3 (by rw [h.len];exact hi) hc.1]
 refine ⟨h.blk.set _,by rw [jk,h.len],fun c hc'=>?_⟩
 rcases yr hc' with h1|h1
 ·exact h.row c h1
 ·rw [h1];exact hc
def Tab.fit {W:World} {g n:Nat} {e:List (List Value)} {rest:List Value} (h:Tab W g n e rest) {i:Nat} (hi:i < n):i * 3+3≤(e.flatten++rest).toArray.size:=by
 have:=xz h.k3
 simp [this,h.len]
 omega
def CmpAt (w:World) (g f:Nat) (lb:Array Value) (cf:List Value→List Value→Int) (d:List (List Value)):Prop:=∀ x∈d,∀ y∈d,Says Tryz.prog w (fun k=>k=g) f lb #[.agg x.toArray,.agg y.toArray] (.int .i64 (cf x y))
def CmpAt.chg {w w':World} {g f:Nat} {lb:Array Value} {cf:List Value→List Value→Int} {d:List (List Value)} (h:CmpAt w g f lb cf d) (hc:Chg w w' (fun k=>k=g)):CmpAt w' g f lb cf d:=fun x hx y hy=>(h x hx y hy).chg hc
def CmpAt.perm {w:World} {g f:Nat} {lb:Array Value} {cf:List Value→List Value→Int} {d d':List (List Value)} (h:CmpAt w g f lb cf d) (hp:d'.Perm d):CmpAt w g f lb cf d':=fun x hx y hy=>h x (hp.mem_iff.1 hx) y (hp.mem_iff.1 hy)
def Sorts (w:World) (g n a b:Nat) (rest:List Value) (cf:List Value→List Value→Int) (d:List (List Value)) (e:Ending) (w':World):Prop:=
 e=.returned (.tuple #[])∧∃ d',d'.Perm d∧Mix d' d a b∧Srt cf d' a b∧Tab w' g n d' rest∧Chg w w' (fun k=>k=g)
def SrcAt (W:World) (A:Option Addr) (k:Nat) (ds:List (List Value)):Prop:=0 < ds.length→∃ a,A=some a∧RowsAt W a k ds
def SrcAt.chg {W W':World} {A:Option Addr} {k:Nat} {ds:List (List Value)} {T:Nat→Prop} (h:SrcAt W A k ds) (hc:Chg W W' T) (hn:∀ a,A=some a→¬ T a.block):SrcAt W' A k ds:=fun hp=>by
 obtain ⟨a,ha,hr⟩:=h hp
 exact ⟨a,ha,hr.chg hc (hn a ha)⟩
section
variable {P:Program} {t e:TypeId} {k bytes:Nat} {zs:List Value}
def ElT.appendS (hE:ElT P t e k bytes zs) {B:Nat} {W:World} {v:Value} {css:List (List Value)} (ho:Own W B e k v css) (hB:B≤W.heap.size) (A:Option Addr) (m c:Nat) (ds:List (List Value)) (hm:m=ds.length) (hk:∀ cs∈ds,cs.length=k) (h1:∀ cs∈ds,∀ u∈cs,u.oneCell'=true)
  (hr:SrcAt W A k ds) (hb:(css.length+m) * bytes≤140737488355328) (hb2:css.length+m≤maxLen) (ty:TypeId):
  ∃ v' W',(Builtin.append_ #[t,t] ty #[v,.slice A m c]).run P W=.ok v' W'∧Own W' B e k v' (css++ds)∧Chg W W' (fun k=>v.ownBlock=some k)∧∀ k,v'.ownBlock=some k→v.ownBlock=some k∨W.heap.size≤k:=by
 cases A with
 |none=>
  have h0:ds=[]:=by
   cases ds with
   |nil=>rfl
   |cons x l=>
    obtain ⟨a,h,_⟩:=hr (by simp)
    cases h
  subst h0
  obtain rfl:m=0:=hm
  obtain ⟨i,z,hi,hz,hs,_,_,_⟩:=hE.info
  refine ⟨v,W,?_,by rw [jr];exact ho,Chg.refl _ _,fun k hk=>.inl hk⟩
  have:=run_append_owned_none (P:=P) W B t ty e i k hE.und hi v css.length css.flatten ho.1
  exact this
 |some ad=>
  have hf:ds.flatten.length=m * k:=by rw [xz hk,hm]
  obtain ⟨v',W',hrun,hown,hg,_,hblk⟩:=hE.append W ty B v css.length css.flatten ho.1 ad m c ds.flatten hf (fun j u hj=>by
   have hjl:j < m * k:=by rw [←hf];exact (qv.1 hj).1
   have hkp:=hE.pos
   have hq:j / k < ds.length:=by rw [←hm];exact ur (by rw [jf];exact hjl)
   obtain ⟨a,ha,hr⟩:=hr (Nat.lt_of_le_of_lt (qr _) hq)
   obtain rfl:=Option.some.inj ha
   have hgr:=hr (j / k) ds[j / k] (qz hq)
   have hlen:=hgr.1
   have hc:(ds[j / k])[j % k]? =some ((ds[j / k])[j % k]'(by rw [hlen];exact Nat.mod_lt _ hkp)):=qz _
   have h2:=hgr.2 (j % k) _ hc
   have hfl:=xl hk (i:=j / k) (cs:=ds[j / k]) (qz hq) hc
   have hjj:j / k * k+j % k=j:=by rw [jf];exact un j k
   rw [hjj,hj] at hfl
   rw [add_add,hjj] at h2
   rw [h2,Option.some.inj hfl]) (fun u hu=>by
    obtain ⟨cs,hcs,hu⟩:=List.mem_flatten.1 hu
    exact h1 cs hcs u hu) hb2 hb hB
  refine ⟨v',W',hrun,⟨?_,fun cs hcs=>?_⟩,(Chg.of_grown hg).mono fun k _ hk=>hk.symm,fun k hk=>?_⟩
  ·rw [qg,List.flatten_append, ←hm]
   exact hown
  ·rcases zk.1 hcs with h|h
   ·exact ho.2 cs h
   ·exact hk cs h
  ·rcases hblk with h|h
   ·exact .inl (h▸hk)
   ·rw [h] at hk
    exact .inr (Nat.le_of_eq (Option.some.inj hk))
def SrcAt.take {W:World} {A:Option Addr} {ds:List (List Value)} (h:SrcAt W A k ds) (i:Nat):SrcAt W A k (ds.take i):=fun hp=>by
 rw [ql] at hp
 obtain ⟨a,ha,hr⟩:=h (by omega)
 refine ⟨a,ha,fun j cs hj=>?_⟩
 rw [yq] at hj
 split at hj
 ·exact hr j cs hj
 ·cases hj
def SrcAt.drop {W:World} {a:Addr} {ds:List (List Value)} (h:SrcAt W (some a) k ds) {i cap:Nat} (hi:i≤ds.length) (hc:ds.length≤cap):SrcAt W (if cap=i then some a else some (a.add (i * k))) k (ds.drop i):=fun hp=>by
 rw [zw] at hp
 obtain ⟨a',ha,hr⟩:=h (by omega)
 obtain rfl:=Option.some.inj ha
 rw [if_neg (by omega)]
 refine ⟨_,rfl,fun j cs hj=>?_⟩
 rw [jb] at hj
 have:=hr (i+j) cs hj
 rw [add_add, ←uz]
 exact this
end
def au (x:Int) (w:World):Calls Tryz.prog 125 #[.int .i64 x] w fun e w'=>e=.returned (.bool false)∧w=w':=by
 go_enter Tryz.func125,Tryz.ntmps125
 go_wp2
 go_ret
 exact ⟨rfl,rfl⟩
def eq (x y:Int) (w:World):Calls Tryz.prog 85 #[.int .i64 x,.int .i64 y] w fun e w'=>e=.returned (.int .i64 (cmpI x y))∧w=w':=by
 unfold cmpI
 rcases Int.lt_trichotomy x y with h|h|h
 ·rw [if_pos h]
  have hd:decide (x < y)=true:=decide_eq_true h
  go_enter Tryz.func85,Tryz.ntmps85
  go_wp2_with (refine (au _ _).mono ?_;rintro e w' ⟨rfl,rfl⟩)
  go_ret
  exact ⟨rfl,rfl⟩
 ·subst h
  rw [if_neg (Int.lt_irrefl _),if_neg (Int.lt_irrefl _)]
  have hd:decide (x < x)=false:=decide_eq_false (Int.lt_irrefl _)
  go_enter Tryz.func85,Tryz.ntmps85
  go_wp2_with (refine (au _ _).mono ?_;rintro e w' ⟨rfl,rfl⟩)
  go_ret
  exact ⟨rfl,rfl⟩
 ·rw [if_neg (by omega),if_pos h]
  have hd:decide (x < y)=false:=decide_eq_false (by omega)
  have hd2:decide (y < x)=true:=decide_eq_true h
  go_enter Tryz.func85,Tryz.ntmps85
  go_wp2_with (refine (au _ _).mono ?_;rintro e w' ⟨rfl,rfl⟩)
  go_ret
  exact ⟨rfl,rfl⟩
def qdb (a b:ByteArray) (w:World):Calls Tryz.prog 88 #[.string a,.string b] w fun e w'=>e=.returned (.int .i64 (cmpS a b))∧w=w':=by
 unfold cmpS
 go_enter Tryz.func88,Tryz.ntmps88
 go_wp2
 rw [run_callFunc_extern Tryz.func126 (by kernel_rfl) (by kernel_rfl) (by kernel_rfl) (e:=Extern.BytealgCompare.compare) (by kernel_rfl),Lib.run_compareString]
 simp only [Result.andThen]
 rw [Oper.upon_value]
 go_wp2
 go_ret
 exact ⟨rfl,rfl⟩
def qav (a b:ByteArray) (w:World):Calls Tryz.prog 49 #[.string a,.string b] w fun e w'=>e=.returned (.int .i64 (cmpS a b))∧w=w':=by
 go_enter Tryz.func49,Tryz.ntmps49
 go_wp2_with (refine (qdb _ _ _).mono ?_;rintro e w' ⟨rfl,rfl⟩)
 go_ret
 exact ⟨rfl,rfl⟩
def vcs (v:Vl):List Value:=[.int .i64 v.k,.int .i64 v.i,.string v.t,.slice none 0 0]
def vval (v:Vl):Value:=.agg #[.int .i64 v.k,.int .i64 v.i,.string v.t,.slice none 0 0]
def cmp_nil (w:World) (v:Value):Calls Tryz.prog 50 #[.slice none 0 0,.slice none 0 0,v] w fun e w'=>e=.returned (.int .i64 0)∧w=w':=by
 go_enter Tryz.func50,Tryz.ntmps50
 go_wp2
 refine wp_loop_rounds 1 ?_
 rw [rounds_succ]
 go_wp2
 go_ret
 exact ⟨rfl,rfl⟩
def ke (a b:Vl) (w:World):Calls Tryz.prog 51 #[.agg #[.int .i64 a.k,.int .i64 a.i,.string a.t,.slice none 0 0],.agg #[.int .i64 b.k,.int .i64 b.i,.string b.t,.slice none 0 0]] w fun e w'=>e=.returned (.int .i64 (cmpV a b))∧New w w':=by
 have hN:New w ((w.alloc (.cells #[.int .i64 a.k,.int .i64 a.i,.string a.t,.slice none 0 0] 62)).alloc (.cells #[.int .i64 b.k,.int .i64 b.i,.string b.t,.slice none 0 0] 62)):=((Chg.refl w _).alloc _).alloc _
 rw [sx]
 obtain ⟨c,hc⟩:=qdp (cmpI a.k b.k)
 have hci:=fun W=>eq a.k b.k W
 rw [hc] at hci⊢
 have HN:=qq hN
 have Hci:=qq hci
 clear hN hci hc
 by_cases h0:c=0
 ·subst h0
  rw [if_pos rfl]
  have hii:=qq (fun W=>eq a.i b.i W)
  have hss:=qq (fun W=>qav a.t b.t W)
  by_cases h1:a.k=1
  ·rw [if_pos h1]
   have e1:(a.k == 1)=true:=by rw [beq_iff_eq];exact h1
   clear h1
   go_enter Tryz.func51,Tryz.ntmps51
   go_wp2_with (go_at_call 85;first| (with_reducible refine (Hci.out _).mono ?_;rintro e w' ⟨rfl,rfl⟩)| (with_reducible refine (hii.out _).mono ?_;rintro e w' ⟨rfl,rfl⟩))
   go_ret
   exact ⟨rfl,HN.out⟩
  ·rw [if_neg h1]
   have e1:(a.k == 1)=false:=by rw [beq_eq_false_iff_ne];exact h1
   by_cases h23:a.k=2∨a.k=3
   ·rw [if_pos h23]
    rcases h23 with h2|h2
    ·have e2:(a.k == 2)=true:=by rw [beq_iff_eq];exact h2
     clear h1 h2
     go_enter Tryz.func51,Tryz.ntmps51
     go_wp2_with (first| (go_at_call 85;with_reducible refine (Hci.out _).mono ?_;rintro e w' ⟨rfl,rfl⟩)| (go_at_call 49;with_reducible refine (hss.out _).mono ?_;rintro e w' ⟨rfl,rfl⟩))
     go_ret
     exact ⟨rfl,HN.out⟩
    ·have e2:(a.k == 2)=false:=by rw [beq_eq_false_iff_ne];omega
     have e3:(a.k == 3)=true:=by rw [beq_iff_eq];exact h2
     clear h1 h2
     go_enter Tryz.func51,Tryz.ntmps51
     go_wp2_with (first| (go_at_call 85;with_reducible refine (Hci.out _).mono ?_;rintro e w' ⟨rfl,rfl⟩)| (go_at_call 49;with_reducible refine (hss.out _).mono ?_;rintro e w' ⟨rfl,rfl⟩))
     go_ret
     exact ⟨rfl,HN.out⟩
   ·rw [if_neg h23]
    have e2:(a.k == 2)=false:=by rw [beq_eq_false_iff_ne];omega
    have e3:(a.k == 3)=false:=by rw [beq_eq_false_iff_ne];omega
    have hnil:=qq (fun W v=>cmp_nil W v)
    by_cases h4:a.k=4
    ·have e4:(a.k == 4)=true:=by rw [beq_iff_eq];exact h4
     clear h1 h4 h23
     go_enter Tryz.func51,Tryz.ntmps51
     go_wp2_with (first| (go_at_call 85;with_reducible refine (Hci.out _).mono ?_;rintro e w' ⟨rfl,rfl⟩)| (refine (hnil.out _ _).mono ?_;rintro e w' ⟨rfl,rfl⟩))
     go_ret
     exact ⟨rfl,HN.out⟩
    ·have e4:(a.k == 4)=false:=by rw [beq_eq_false_iff_ne];exact h4
     clear h1 h4 h23
     go_enter Tryz.func51,Tryz.ntmps51
     go_wp2_with (go_at_call 85;with_reducible refine (Hci.out _).mono ?_;rintro e w' ⟨rfl,rfl⟩)
     go_ret
     exact ⟨rfl,HN.out⟩
 ·rw [if_neg h0]
  have e0:(c == 0)=false:=by rw [beq_eq_false_iff_ne];exact h0
  clear h0
  go_enter Tryz.func51,Tryz.ntmps51
  go_wp2_with (go_at_call 85;with_reducible refine (Hci.out _).mono ?_;rintro e w' ⟨rfl,rfl⟩)
  go_ret
  exact ⟨rfl,HN.out⟩
def vz:StT Tryz.prog 62 4:=qbc
def bv {α:Type} {c:α→α→Int} {us vs:List α} {k:Nat} {x y:α} (hx:us[k]? =some x) (hy:vs[k]? =some y):cmpL c (us.drop k) (vs.drop k)=if c x y=0 then cmpL c (us.drop (k+1)) (vs.drop (k+1)) else c x y:=by
 obtain ⟨h1,rfl⟩:=qv.1 hx
 obtain ⟨h2,rfl⟩:=qv.1 hy
 rw [jg h1,jg h2,cmpL]
def cmp_vals (w:World) (A:Option Addr) (n c:Nat) (B:Option Addr) (m d:Nat) (us vs:List Vl) (hn:n=us.length) (hm:m=vs.length) (hnb:n≤100000000) (hmb:m≤100000000) (hA:SrcAt w A 4 (us.map vcs)) (hB:SrcAt w B 4 (vs.map vcs)):
  Calls Tryz.prog 50 #[.slice A n c,.slice B m d,.func (.func 51) #[] #[]] w fun e w'=>e=.returned (.int .i64 (cmpL cmpV us vs))∧New w w':=by
 have eg:=enters_of Tryz.func51 (by kernel_rfl) rfl
 unfold Enters at eg
 obtain ⟨R,hR⟩:=qdp (cmpL cmpV us vs)
 rw [hR]
 have HA:=qq hA
 have HB:=qq hB
 have HN:=qq hn
 have HM:=qq hm
 have HR:=qq hR
 clear hA hB hn hm hR
 go_enter Tryz.func50,Tryz.ntmps50
 go_wp2_with fail
 go_loopw [13] (fun u13 wr=>∃ k:Nat,k≤n∧k≤m∧u13=.int .i64 k∧New w wr∧cmpL cmpV (us.drop k) (vs.drop k)=R) (fun u _=>n - (intOf u).toNat)
 case atStart=>exact ⟨0,qr _,qr _,rfl,Chg.refl _ _,by rw [List.drop_zero,List.drop_zero];exact HR.out⟩
 case round=>
  obtain ⟨k,hkn,hkm,rfl,hN,hr⟩:=hrel
  have HNw:=qq hN
  have Hr:=qq hr
  clear hN hr
  by_cases hlt:k < n
  ·obtain ⟨x,hx⟩:∃ x,us[k]? =some x:=⟨_,qz (by rw [←HN.out];exact hlt)⟩
   obtain ⟨ad,rfl,hrA⟩:=HA.out (by rw [qd, ←HN.out];omega)
   have hat:=(hrA k (vcs x) (by rw [qa,hx];rfl)).2.chg HNw.out id
   change At _ _ [.int .i64 x.k,.int .i64 x.i,.string x.t,.slice none 0 0] at hat
   have Hat:=qq hat
   have Hx:=qq hx
   clear hat hx hrA
   have k0:(0:Int)≤(k:Int):=by omega
   have k1:(k:Int) < (n:Int):=by omega
   by_cases hlm:k < m
   ·obtain ⟨y,hy⟩:∃ y,vs[k]? =some y:=⟨_,qz (by rw [←HM.out];exact hlm)⟩
    obtain ⟨bd,rfl,hrB⟩:=HB.out (by rw [qd, ←HM.out];omega)
    obtain ⟨w1,hw1⟩:=qdq (wr.alloc (.cells #[.int .i64 x.k,.int .i64 x.i,.string x.t,.slice none 0 0] 62))
    have hN1:New wr w1:=by rw [hw1];exact (Chg.refl _ _).alloc _
    have hB1:Blk w1 wr.heap.size 62 #[.int .i64 x.k,.int .i64 x.i,.string x.t,.slice none 0 0]:=by rw [hw1];exact Blk.new wr _ _
    have hbt:=((hrB k (vcs y) (by rw [qa,hy];rfl)).2.chg HNw.out id).chg hN1 id
    change At _ _ [.int .i64 y.k,.int .i64 y.i,.string y.t,.slice none 0 0] at hbt
    obtain ⟨w2,hw2⟩:=qdq (w1.alloc (.cells #[.int .i64 y.k,.int .i64 y.i,.string y.t,.slice none 0 0] 62))
    have hN2:New w1 w2:=by rw [hw2];exact (Chg.refl _ _).alloc _
    have hB2:Blk w2 w1.heap.size 62 #[.int .i64 y.k,.int .i64 y.i,.string y.t,.slice none 0 0]:=by rw [hw2];exact Blk.new w1 _ _
    have HB1:=qq (show At w2 ⟨wr.heap.size,0,none⟩ [.int .i64 x.k,.int .i64 x.i,.string x.t,.slice none 0 0] from (hB1.chg hN2 id).at_)
    have HB2:=qq (show At w2 ⟨w1.heap.size,0,none⟩ [.int .i64 y.k,.int .i64 y.i,.string y.t,.slice none 0 0] from hB2.at_)
    have HNn:=qq ((HNw.out.trans hN1 qdr).trans hN2 qdr)
    have Hy:=qq hy
    have Hbt:=qq hbt
    have HW1:=qq hw1
    have HW2:=qq hw2
    have k2:(k:Int) < (m:Int):=by omega
    obtain ⟨q,hq⟩:=qdp (cmpV x y)
    have hcv:=ke x y w2
    rw [hq] at hcv
    have Hcv:=qq hcv
    have Hq:=qq hq
    clear hy hrB hN1 hB1 hbt hN2 hB2 hw1 hw2 hq hcv
    go_upto_region 6 with ((with_reducible refine vq rfl (.tmp 16) 62 rfl vz (ad.add (k * 4)) [.int .i64 x.k,.int .i64 x.i,.string x.t,.slice none 0 0] ?_ rfl Hat.out ?_);exact rfl)
    rw [←HW1.out]
    go_upto_region 7 with ((with_reducible refine vq rfl (.tmp 24) 62 rfl vz (bd.add (k * 4)) [.int .i64 y.k,.int .i64 y.i,.string y.t,.slice none 0 0] ?_ rfl Hbt.out ?_);exact rfl)
    rw [←HW2.out]
    go_wp2_with (first| ((with_reducible refine vq rfl (.tmp 8) 62 rfl vz ⟨wr.heap.size,0,none⟩ [.int .i64 x.k,.int .i64 x.i,.string x.t,.slice none 0 0] ?_ rfl HB1.out ?_);exact rfl)| ((with_reducible refine vq rfl (.tmp 9) 62 rfl vz ⟨w1.heap.size,0,none⟩ [.int .i64 y.k,.int .i64 y.i,.string y.t,.slice none 0 0] ?_ rfl HB2.out ?_);exact rfl))
    refine Hcv.out.mono ?_
    rintro e W ⟨rfl,hN3⟩
    have HN3:=qq (HNn.out.trans hN3 qdr)
    have hdr:=qq ((bv (c:=cmpV) Hx.out Hy.out).symm.trans Hr.out)
    clear hN3
    by_cases hz:q=0
    ·have e0:(q == 0)=true:=by rw [beq_iff_eq];exact hz
     have HR2:=qq (show cmpL cmpV (us.drop (k+1)) (vs.drop (k+1))=R by have:=hdr.out;rw [Hq.out,if_pos hz] at this;exact this)
     clear hz
     go_wp2_with fail
     go_roundw
     case rel=>exact ⟨k+1,by omega,by omega,by go_num,HN3.out,HR2.out⟩
     case measure=>simp only [intOf];omega
    ·have e0:(q == 0)=false:=by rw [beq_eq_false_iff_ne];exact hz
     have HR2:=qq (show q=R by have:=hdr.out;rw [Hq.out,if_neg hz] at this;exact this)
     clear hz
     go_wp2_with fail
     go_ret
     exact ⟨congrArg (fun z=>Ending.returned (.int .i64 z)) HR2.out,HN3.out⟩
   ·have k2:decide ((k:Int) < (m:Int))=false:=decide_eq_false (by omega)
    have k3:decide ((m:Int)≤(k:Int))=true:=decide_eq_true (by omega)
    have HR2:=qq (show (1:Int)=R by
     have:=Hr.out
     obtain ⟨h1,he⟩:=qv.1 Hx.out
     rw [jg h1,show vs.drop k=[] from jo (by rw [←HM.out];omega)] at this
     exact this)
    have HN1:=qq (HNw.out.alloc (.cells #[.int .i64 x.k,.int .i64 x.i,.string x.t,.slice none 0 0] 62))
    go_wp2_with ((with_reducible refine vq rfl (.tmp 16) 62 rfl vz (ad.add (k * 4)) [.int .i64 x.k,.int .i64 x.i,.string x.t,.slice none 0 0] ?_ rfl Hat.out ?_);exact rfl)
    go_ret
    exact ⟨congrArg (fun z=>Ending.returned (.int .i64 z)) HR2.out,HN1.out⟩
  ·obtain rfl:k=n:=by omega
   by_cases hlm:k < m
   ·have k3:decide ((k:Int) < (m:Int))=true:=decide_eq_true (by omega)
    have HR2:=qq (show (-1:Int)=R by
     have:=Hr.out
     rw [show us.drop k=[] from jo (by rw [←HN.out];omega),jg (l:=vs) (by rw [←HM.out];exact hlm)] at this
     exact this)
    go_wp2_with fail
    go_ret
    exact ⟨congrArg (fun z=>Ending.returned (.int .i64 z)) HR2.out,HNw.out⟩
   ·have k3:decide ((k:Int) < (m:Int))=false:=decide_eq_false (by omega)
    have HR2:=qq (show (0:Int)=R by
     have:=Hr.out
     rw [show us.drop k=[] from jo (by rw [←HN.out];omega),show vs.drop k=[] from jo (by rw [←HM.out];omega)] at this
     exact this)
    go_wp2_with fail
    go_ret
    exact ⟨congrArg (fun z=>Ending.returned (.int .i64 z)) HR2.out,HNw.out⟩
def VlB (w:World) (g:Nat):Prop:=∃ cs fr,w.heap[g]? =some (.cells cs 62 fr)
def VlB.lt {w:World} {g:Nat} (h:VlB w g):g < w.heap.size:=by
 obtain ⟨cs,fr,h⟩:=h
 exact (zo.1 h).1
def VlB.chg {w w':World} {g:Nat} {T:Nat→Prop} (h:VlB w g) (hc:Chg w w' T) (hn:¬ T g):VlB w' g:=by
 have hl:=h.lt
 obtain ⟨cs,fr,h⟩:=h
 exact ⟨cs,fr,(hc.block g hl hn).trans h⟩
def Own.vlB {W:World} {B:Nat} {k:Nat} {v:Value} {css:List (List Value)} (h:Own W B 62 k v css) {g:Nat} (hg:v.ownBlock=some g):VlB W g:=by
 obtain ⟨⟨-,h| ⟨g',cap,cur,rfl,-,h,-⟩⟩,-⟩:=h
 ·rw [h.1] at hg
  cases hg
 ·cases hg
  exact ⟨_,_,h⟩
def RowAt (w:World) (cs:List Value) (r:Rw):Prop:=∃ A c,cs=[.string r.name,.slice A r.args.length c,.int .i64 r.stamp]∧r.args.length≤1000∧r.args.length≤c∧c≤maxLen∧SrcAt w A 4 (r.args.map vcs)∧∀ a,A=some a→VlB w a.block
def RowAt.chg {w w':World} {cs:List Value} {r:Rw} (h:RowAt w cs r) (hc:New w w'):RowAt w' cs r:=by
 obtain ⟨A,c,h1,h2,h3,h4,h5,h6⟩:=h
 exact ⟨A,c,h1,h2,h3,h4,h5.chg hc qdr,fun a ha=>(h6 a ha).chg hc id⟩
def RowAt.cs {w:World} {cs:List Value} {r:Rw} (h:RowAt w cs r):rowCs cs:=by
 obtain ⟨A,c,rfl,_⟩:=h
 exact ⟨rfl,fun u hu=>by
  simp only [qp,qm,or_false] at hu
  rcases hu with rfl|rfl|rfl <;> rfl⟩
def vcs_inj {a b:Vl} (h:vcs a=vcs b):a=b:=by
 cases a;cases b
 simp only [vcs,List.cons.injEq,Value.int.injEq,Value.string.injEq,true_and,and_true] at h
 obtain ⟨rfl,rfl,rfl⟩:=h
 rfl
def rv (vs:List Vl):∀ cs∈vs.map vcs,cs.length=4:=by
 intro cs h
 obtain ⟨v,_,rfl⟩:=zi.1 h
 rfl
def gc (vs:List Vl):∀ cs∈vs.map vcs,∀ u∈cs,u.oneCell'=true:=by
 intro cs h u hu
 obtain ⟨v,_,rfl⟩:=zi.1 h
 simp only [vcs,qp,qm,or_false] at hu
 rcases hu with rfl|rfl|rfl|rfl <;> rfl
def src_uniq {w:World} {A:Option Addr} {us vs:List Vl} (hl:us.length=vs.length) (h:SrcAt w A 4 (us.map vcs)) (h':SrcAt w A 4 (vs.map vcs)):us=vs:=by
 apply List.ext_getElem hl
 intro i h1 h2
 obtain ⟨a,rfl,hr⟩:=h (by rw [qd];omega)
 obtain ⟨a',ha,hr'⟩:=h' (by rw [qd];omega)
 obtain rfl:=Option.some.inj ha
 have g1:=(hr i (vcs us[i]) (by rw [qa,qz h1];rfl)).2
 have g2:=(hr' i (vcs vs[i]) (by rw [qa,qz h2];rfl)).2
 refine vcs_inj (List.ext_getElem rfl fun j j1 j2=>?_)
 have e1:=g1 j _ (qz j1)
 have e2:=g2 j _ (qz j2)
 rw [e1] at e2
 exact Option.some.inj e2
def RowAt.uniq {w:World} {cs:List Value} {r s:Rw} (h:RowAt w cs r) (h':RowAt w cs s):r=s:=by
 obtain ⟨A,c,h1,h2,h3,h4,h5,h6⟩:=h
 obtain ⟨A',c',h1',h2',h3',h4',h5',h6'⟩:=h'
 rw [h1] at h1'
 simp only [List.cons.injEq,Value.string.injEq,Value.slice.injEq,Value.int.injEq,true_and,and_true] at h1'
 obtain ⟨e1,⟨rfl,e2,rfl⟩,e3⟩:=h1'
 have:=src_uniq e2 h5 h5'
 cases r;cases s
 simp_all
open Classical in
noncomputable def rowOf (w:World) (cs:List Value):Rw:=if h:∃ r,RowAt w cs r then Classical.choose h else ⟨⟨#[]⟩,[],0⟩
def RowAt.of {w:World} {cs:List Value} {r:Rw} (h:RowAt w cs r):rowOf w cs=r:=by
 unfold rowOf
 rw [dif_pos ⟨r,h⟩]
 exact (ye (p:=fun r=>RowAt w cs r) ⟨r,h⟩).uniq h
def nd (w:World) (x y:List Value) (r s:Rw) (hx:RowAt w x r) (hy:RowAt w y s):
  Calls Tryz.prog 25 #[.agg x.toArray,.agg y.toArray] w fun e w'=>e=.returned (.int .i64 (cmpR r s))∧New w w':=by
 obtain ⟨A,c,rfl,h2,h3,h4,h5,h6⟩:=hx
 obtain ⟨B,d,rfl,g2,g3,g4,g5,g6⟩:=hy
 obtain ⟨w1,hw1⟩:=qdq ((w.alloc (.cells #[.string r.name,.slice A r.args.length c,.int .i64 r.stamp] 42)).alloc (.cells #[.string s.name,.slice B s.args.length d,.int .i64 s.stamp] 42))
 have hN:New w w1:=by rw [hw1];exact ((Chg.refl w _).alloc _).alloc _
 have hcv:=cmp_vals w1 A r.args.length c B s.args.length d r.args s.args rfl rfl (by omega) (by omega) (h5.chg hN qdr) (g5.chg hN qdr)
 obtain ⟨q,hq⟩:=qdp (cmpS r.name s.name)
 have hcs:=qav r.name s.name w1
 rw [show cmpR r s=if cmpS r.name s.name=0 then cmpL cmpV r.args s.args else cmpS r.name s.name from rfl]
 rw [hq] at hcs⊢
 rw [hw1] at hcv hcs
 have HN:=qq hN
 have HW:=qq hw1
 have Hcv:=qq hcv
 have Hcs:=qq hcs
 clear hN hcv hcs hw1 hq h5 g5 h6 g6
 by_cases hz:q=0
 ·have e0:(q == 0)=true:=by rw [beq_iff_eq];exact hz
  rw [if_pos hz]
  clear hz
  go_enter Tryz.func25,Tryz.ntmps25
  go_wp2_with (go_at_call 49;refine Hcs.out.mono ?_;rintro e w' ⟨rfl,rfl⟩)
  refine Hcv.out.mono ?_
  rintro e w' ⟨rfl,hc⟩
  have Hc:=qq hc
  clear hc
  go_wp2_with fail
  go_ret
  exact ⟨rfl,HN.out.trans (by rw [HW.out];exact Hc.out) qdr⟩
 ·have e0:(q == 0)=false:=by rw [beq_eq_false_iff_ne];exact hz
  rw [if_neg hz]
  clear hz
  go_enter Tryz.func25,Tryz.ntmps25
  go_wp2_with (go_at_call 49;refine Hcs.out.mono ?_;rintro e w' ⟨rfl,rfl⟩)
  go_ret
  exact ⟨rfl,by rw [←HW.out];exact HN.out⟩
def cmp_mrg (w:World) (x y:List Value) (r s:Rw) (hx:RowAt w x r) (hy:RowAt w y s):
  Calls Tryz.prog 84 #[.agg x.toArray,.agg y.toArray] w fun e w'=>e=.returned (.int .i64 (cmpM r s))∧New w w':=by
 obtain ⟨w1,hw1⟩:=qdq ((w.alloc (.cells x.toArray 42)).alloc (.cells y.toArray 42))
 have hN:New w w1:=by rw [hw1];exact ((Chg.refl w _).alloc _).alloc _
 have hcr:=nd w1 x y r s (hx.chg hN) (hy.chg hN)
 obtain ⟨A,c,rfl,h2,h3,h4,h5,h6⟩:=hx
 obtain ⟨B,d,rfl,g2,g3,g4,g5,g6⟩:=hy
 obtain ⟨q,hq⟩:=qdp (cmpR r s)
 rw [show cmpM r s=if cmpR r s=0 then cmpI s.stamp r.stamp else cmpR r s from rfl]
 rw [hq] at hcr⊢
 obtain ⟨R,hR⟩:=qdp ((if q=0 then cmpI s.stamp r.stamp else q))
 rw [hR]
 have HR:=qq hR
 clear hR
 have hB1:Blk w1 w.heap.size 42 #[.string r.name,.slice A r.args.length c,.int .i64 r.stamp]:=by rw [hw1];exact (Blk.new w _ _).alloc _
 have hB2:Blk w1 (w.heap.size+1) 42 #[.string s.name,.slice B s.args.length d,.int .i64 s.stamp]:=by
  have:=Blk.new (w.alloc (.cells #[.string r.name,.slice A r.args.length c,.int .i64 r.stamp] 42)) 42 #[.string s.name,.slice B s.args.length d,.int .i64 s.stamp]
  rw [World.size_alloc] at this
  rw [hw1]
  exact this
 have hci:=fun W=>eq s.stamp r.stamp W
 have HB1:=qq hB1
 have HB2:=qq hB2
 have HN:=qq hN
 have HW:=qq hw1
 have Hcr:=qq hcr
 have Hci:=qq hci
 clear hN hcr hw1 hq h5 g5 h6 g6 hci hB1 hB2
 go_enter Tryz.func84,Tryz.ntmps84
 go_wp2_with fail
 rw [←HW.out]
 refine Hcr.out.mono ?_
 rintro e W ⟨rfl,hc⟩
 have e2:=(HB1.out.chg hc id).cell 2
 have f2:=(HB2.out.chg hc id).cell 2
 simp only [qx,qj,qw] at e2 f2
 have HNw:=qq (HN.out.trans hc qdr)
 clear hc
 by_cases hz:q=0
 ·have e0:(q == 0)=true:=by rw [beq_iff_eq];exact hz
  have HR2:=qq (show cmpI s.stamp r.stamp=R by have:=HR.out;rw [if_pos hz] at this;exact this)
  clear hz
  go_wp2_with (go_at_call 85;refine (Hci.out _).mono ?_;rintro e w' ⟨rfl,rfl⟩)
  go_ret
  exact ⟨congrArg (fun z=>Ending.returned (.int .i64 z)) HR2.out,HNw.out⟩
 ·have e0:(q == 0)=false:=by rw [beq_eq_false_iff_ne];exact hz
  have HR2:=qq (show q=R by have:=HR.out;rw [if_neg hz] at this;exact this)
  clear hz
  go_wp2_with fail
  go_ret
  exact ⟨congrArg (fun z=>Ending.returned (.int .i64 z)) HR2.out,HNw.out⟩
def eq_mrg (w:World) (x y:List Value) (r s:Rw) (hx:RowAt w x r) (hy:RowAt w y s):
  Calls Tryz.prog 87 #[.agg x.toArray,.agg y.toArray] w fun e w'=>e=.returned (.bool (decide (cmpR r s=0)))∧New w w':=by
 obtain ⟨w1,hw1⟩:=qdq ((w.alloc (.cells x.toArray 42)).alloc (.cells y.toArray 42))
 have hN:New w w1:=by rw [hw1];exact ((Chg.refl w _).alloc _).alloc _
 have hcr:=nd w1 x y r s (hx.chg hN) (hy.chg hN)
 obtain ⟨A,c,rfl,h2,h3,h4,h5,h6⟩:=hx
 obtain ⟨B,d,rfl,g2,g3,g4,g5,g6⟩:=hy
 obtain ⟨q,hq⟩:=qdp (cmpR r s)
 rw [hq] at hcr⊢
 have HN:=qq hN
 have HW:=qq hw1
 have Hcr:=qq hcr
 clear hN hcr hw1 hq h5 g5 h6 g6
 obtain ⟨b,hb⟩:=qdp (decide (q=0))
 have hb2:(q == 0)=b:=by rw [←hb];rfl
 rw [hb]
 clear hb
 go_enter Tryz.func87,Tryz.ntmps87
 go_wp2_with fail
 rw [←HW.out]
 refine Hcr.out.mono ?_
 rintro e W ⟨rfl,hc⟩
 have HNw:=qq (HN.out.trans hc qdr)
 clear hc
 go_wp2_with fail
 go_ret
 exact ⟨rfl,HNw.out⟩
def qbb (w:World) (g n cap a b:Nat) (d:List (List Value)) (rest:List Value) (hT:Tab w g n d rest) (hab:a≤b) (hb:b≤n) (hn:n≤100000000) (hnc:n≤cap) (f:Nat) (lb:Array Value) (eg:Enters Tryz.prog f) (cf:List Value→List Value→Int) (ho:Ordr cf) (hc:CmpAt w g f lb cf d):
  Calls Tryz.prog 155 #[.slice (some ⟨g,0,none⟩) n cap,.int .i64 a,.int .i64 b,.func (.func f) #[] lb] w (Sorts w g n a b rest cf d):=by
 have egf:=eg
 unfold Enters at eg
 have HO:=qq ho
 have HC:=qq hc
 have HT:=qq hT
 clear hT hc ho
 go_enter Tryz.func155,Tryz.ntmps155
 go_wp2_with fail
 go_loopw [8] (fun u8 wr=>∃ (i:Nat) (e:List (List Value)),a+1≤i∧(i≤b∨i=a+1)∧u8=.int .i64 i∧e.Perm d∧Mix e d a b∧Srt cf e a i∧Tab wr g n e rest∧Chg w wr (fun k=>k=g)) (fun u8 _=>b - (intOf u8).toNat)
 case atStart=>exact ⟨a+1,d,qh _,.inr rfl,by go_num,List.Perm.refl _,Mix.refl _ _ _,Srt.short _ (qh _),HT.out,Chg.refl _ _⟩
 case round=>
  obtain ⟨i,e,hai,hib,rfl,hp,hmx,hs,ht,hch⟩:=hrel
  have HP:=qq hp
  have HM:=qq hmx
  have HS:=qq hs
  have HTe:=qq ht
  have HCh:=qq hch
  clear hp hmx hs ht hch
  by_cases hlt:i < b
  ·clear hib
   go_wp2_with fail
   go_loopw [9] (fun u9 wr2=>∃ (j:Nat) (e:List (List Value)),u9=.int .i64 j∧e.Perm d∧Mix e d a b∧Ins cf e a i j∧Tab wr2 g n e rest∧Chg w wr2 (fun k=>k=g)) (fun u9 _=>(intOf u9).toNat)
   case atStart=>exact ⟨i,e,rfl,HP.out,HM.out,Ins.start HS.out (by omega),HTe.out,HCh.out⟩
   case round=>
    clear HP HM HS HTe HCh
    obtain ⟨j,e,rfl,hp,hmx,hi,ht,hch⟩:=hrel
    have HP:=qq hp
    have HM:=qq hmx
    have HI:=qq hi
    have HTe:=qq ht
    have HCh:=qq hch
    have hja:=hi.ja
    have hji:=hi.ji
    clear hp hmx hi ht hch
    by_cases hj:j=a
    ·have hd1:decide ((a:Int) < (j:Int))=false:=decide_eq_false (by omega)
     have HF:=qq (HI.out.done HO.out (.inl hj))
     go_wp2_with fail
     go_quiet (fail)
     go_wp2_with fail
     go_roundw
     case rel=>exact ⟨i+1,e,by omega,.inl (by omega),by go_num,HP.out,HM.out,HF.out,HTe.out.chg ((Chg.refl _ (fun _=>False)).drewN _) id,HCh.out.drewN _⟩
     case measure=>simp only [intOf];omega
    ·obtain ⟨j,rfl⟩:∃ j0,j=j0+1:=⟨j - 1,by omega⟩
     have hd1:decide ((a:Int) < ((j+1:Nat):Int))=true:=decide_eq_true (by omega)
     obtain ⟨x,hx,hxe,hxr⟩:=HTe.out.cs (i:=j+1) (by omega)
     obtain ⟨y,hy,hye,hyr⟩:=HTe.out.cs (i:=j) (by omega)
     have Hx:=qq hx
     have Hy:=qq hy
     have HXr:=qq hxr
     have HYr:=qq hyr
     obtain ⟨c,hcc⟩:=qdp (cf x y)
     have hcall:=(HC.out.perm HP.out) x hxe y hye wr.drew HCh.out.drew
     rw [hcc] at hcall
     have Hcc:=qq hcc
     have Hcall:=qq hcall
     have HTd:=qq (HTe.out.chg ((Chg.refl wr (fun _=>False)).drew) id)
     have HChd:=qq (HCh.out.drew)
     have Hatx:=qq (HTd.out.get hx)
     have Haty:=qq (HTd.out.get hy)
     clear hx hy hxr hyr hcc hcall hxe hye HTe HCh
     go_wp2_with fail
     have hd2:a < j+1:=by omega
     refine vj (by kernel_rfl) ?_
     generalize wr.drew=wd at Hcall HTd HChd Hatx Haty⊢
     have q0:(0:Int)≤((j+1:Nat):Int):=by omega
     have q1:((j+1:Nat):Int) < (n:Int):=by omega
     have q2:(0:Int)≤(j:Int):=by omega
     have q3:(j:Int) < (n:Int):=by omega
     have q4:IntKind.i64.wrap (((j+1:Nat):Int) - 1)=(j:Int):=by rw [IntKind.wrap_i64];omega
     have q5:j+1 < n:=by omega
     have q6:(j:Int)+1 < (n:Int):=by omega
     have q7:(0:Int)≤(j:Int)+1:=by omega
     have q8:IntKind.i64.wrap (j:Int)=(j:Int):=by rw [IntKind.wrap_i64];omega
     have q9:j < n:=by omega
     have hd3:(a:Int) < (j:Int)+1:=by omega
     have q10:((j:Int)+1).toNat=j+1:=by omega
     refine AtN.segQ2 0 4 (fun
      |0=>.int .i64 ((j+1:Nat):Int)
      |1=>.int .i64 a
      |2=>.bool true
      |_=>.bool true)
      [(18,.int .i64 ((j+1:Nat):Int)),(19,.int .i64 a),(20,.bool true),(21,.bool true)] (by kernel_rfl) (by kernel_rfl) (by kernel_rfl) (by kernel_rfl) rfl (fun i hn hi o ho A0 hin hk=>?_) ?_
     ·rcases (show i=0∨i=1∨i=2∨i=3 by omega) with rfl|rfl|rfl|rfl<;>cases ho
      ·exact uo 9 _ rfl (hk 9)
      ·exact uo 1 _ rfl (hk 1)
      ·have h18:A0.tmps[18]?.getD undef=.int .i64 ((j+1:Nat):Int):=hin 0 18
       have h19:A0.tmps[19]?.getD undef=.int .i64 a:=hin 1 19
       exact by simp [go_sem,h18,h19,hd1,hd2,hd3]
      ·exact uo 20 _ rfl (hin 2 20)
     simp only [putsL,Act.put,qk,qu,qy]
     refine AtN.segQ2 4 14 (fun
      |4=>.func (.func f) #[] lb
      |5=>.slice (some ⟨g,0,none⟩) n cap
      |6=>.int .i64 ((j+1:Nat):Int)
      |7=>.pointer (some ⟨g,(j+1) * 3,none⟩)
      |8=>.agg x.toArray
      |9=>.slice (some ⟨g,0,none⟩) n cap
      |10=>.int .i64 ((j+1:Nat):Int)
      |11=>.int .i64 (j:Int)
      |12=>.pointer (some ⟨g,j * 3,none⟩)
      |_=>.agg y.toArray)
      [(22,.func (.func f) #[] lb),(23,.slice (some ⟨g,0,none⟩) n cap),(24,.int .i64 ((j+1:Nat):Int)),(25,.pointer (some ⟨g,(j+1) * 3,none⟩)),(26,.agg x.toArray),(27,.slice (some ⟨g,0,none⟩) n cap),(28,.int .i64 ((j+1:Nat):Int)),(29,.int .i64 (j:Int)),(30,.pointer (some ⟨g,j * 3,none⟩)),(31,.agg y.toArray)] (by kernel_rfl) (by kernel_rfl) (by kernel_rfl) (by kernel_rfl) rfl (fun i hn hi o ho A0 hin hk=>?_) ?_
     ·rcases (show i=4∨i=5∨i=6∨i=7∨i=8∨i=9∨i=10∨i=11∨i=12∨i=13 by omega) with rfl|rfl|rfl|rfl|rfl|rfl|rfl|rfl|rfl|rfl<;>cases ho
      ·exact uo 3 _ rfl (hk 3)
      ·exact uo 0 _ rfl (hk 0)
      ·exact uo 9 _ rfl (hk 9)
      ·have h23:A0.tmps[23]?.getD undef=.slice (some ⟨g,0,none⟩) n cap:=hin 5 23
       have h24:A0.tmps[24]?.getD undef=.int .i64 ((j+1:Nat):Int):=hin 6 24
       exact by simp [go_sem,h23,h24,q0,q1,q2,q3,q4,q5,q6,q7,q8,q9,q10,hd1]
      ·have h25:A0.tmps[25]?.getD undef=.pointer (some ⟨g,(j+1) * 3,none⟩):=hin 7 25
       exact vu 25 _ rfl vd ⟨g,(j+1) * 3,none⟩ x h25 HXr.out.1 Hatx.out
      ·exact uo 0 _ rfl (hk 0)
      ·exact uo 9 _ rfl (hk 9)
      ·have h28:A0.tmps[28]?.getD undef=.int .i64 ((j+1:Nat):Int):=hin 10 28
       exact by simp [go_sem,h28,q0,q1,q2,q3,q4,q5,q6,q7,q8,q9,q10,hd1]
      ·have h27:A0.tmps[27]?.getD undef=.slice (some ⟨g,0,none⟩) n cap:=hin 9 27
       have h29:A0.tmps[29]?.getD undef=.int .i64 (j:Int):=hin 11 29
       exact by simp [go_sem,h27,h29,q0,q1,q2,q3,q4,q5,q6,q7,q8,q9,q10,hd1]
      ·have h30:A0.tmps[30]?.getD undef=.pointer (some ⟨g,j * 3,none⟩):=hin 12 30
       exact vu 30 _ rfl vd ⟨g,j * 3,none⟩ y h30 HYr.out.1 Haty.out
     simp only [putsL,Act.put,qk,qu,qy]
     refine AtN.list 14 17 (by kernel_rfl) ?_
     change wpList _ _ _ [_,_,_] _ _
     go_wp2_with fail
     refine Hcall.out.mono ?_
     rintro e3 W3 ⟨rfl,hN3⟩
     have HT3:=qq (HTd.out.chg hN3 id)
     have HCh3:=qq (HChd.out.trans hN3 (fun _ _ x=>x.elim))
     clear hN3 Hcall HTd HChd Hatx Haty
     by_cases hcn:c < 0
     ·have hcd:decide (c < 0)=true:=decide_eq_true hcn
      have HP2:=qq ((lp Hx.out Hy.out).trans HP.out)
      have HM2:=qq ((ak (a:=a) (b:=b) Hx.out Hy.out (by omega) (by omega) (by omega) (by omega)).trans HM.out)
      have HI2:=qq (HI.out.step' HO.out (by omega) Hx.out Hy.out (by rw [Hcc.out];exact hcn))
      clear HP HM HI hcn
      go_wp2_with fail
      change AtN _ _ _ 17 _ _
      refine AtN.done rfl ?_
      go_wp2_with fail
      refine vj (by kernel_rfl) ?_
      have HT4:=qq (HT3.out.chg ((Chg.refl W3 (fun _=>False)).drew) id)
      have HCh4:=qq (HCh3.out.drew)
      generalize W3.drew=wd4 at HT4 HCh4⊢
      clear HT3 HCh3
      have Hatx:=qq (HT4.out.get Hx.out)
      have Haty:=qq (HT4.out.get Hy.out)
      obtain ⟨W5,hW5⟩:=qdq (wd4.setRow g (layA (e.flatten++rest).toArray ((j+1) * 3) y))
      have HT5:=qq (show Tab W5 g n (e.set (j+1) y) rest by rw [hW5];exact HT4.out.set (by omega) HYr.out)
      have HCh5:=qq (show Chg w W5 (fun k=>k=g) by rw [hW5];exact HCh4.out.setRow _ _ (fun _=>rfl))
      have HW5:=qq hW5
      clear hW5
      refine AtN.segV3 0 16 15 (fun
       |0=>.slice (some ⟨g,0,none⟩) n cap
       |1=>.int .i64 ((j+1:Nat):Int)
       |2=>.slice (some ⟨g,0,none⟩) n cap
       |3=>.int .i64 ((j+1:Nat):Int)
       |4=>.int .i64 (j:Int)
       |5=>.slice (some ⟨g,0,none⟩) n cap
       |6=>.int .i64 ((j+1:Nat):Int)
       |7=>.int .i64 (j:Int)
       |8=>.pointer (some ⟨g,j * 3,none⟩)
       |9=>.agg y.toArray
       |10=>.slice (some ⟨g,0,none⟩) n cap
       |11=>.int .i64 ((j+1:Nat):Int)
       |12=>.pointer (some ⟨g,(j+1) * 3,none⟩)
       |13=>.agg x.toArray
       |14=>.pointer (some ⟨g,(j+1) * 3,none⟩)
       |_=>undef)
       [(0,37),(1,38),(2,39),(3,40),(4,41),(5,42),(6,43),(7,44),(8,45),(9,46),(10,47),(11,48),(12,49),(13,50),(14,51)] [(37,.slice (some ⟨g,0,none⟩) n cap),(38,.int .i64 ((j+1:Nat):Int)),(39,.slice (some ⟨g,0,none⟩) n cap),(40,.int .i64 ((j+1:Nat):Int)),(41,.int .i64 (j:Int)),(42,.slice (some ⟨g,0,none⟩) n cap),(43,.int .i64 ((j+1:Nat):Int)),(44,.int .i64 (j:Int)),(45,.pointer (some ⟨g,j * 3,none⟩)),(46,.agg y.toArray),(47,.slice (some ⟨g,0,none⟩) n cap),(48,.int .i64 ((j+1:Nat):Int)),(49,.pointer (some ⟨g,(j+1) * 3,none⟩)),(50,.agg x.toArray),(51,.pointer (some ⟨g,(j+1) * 3,none⟩))]
       (JTwo wd4 W5) (by kernel_rfl) (by kernel_rfl) (by kernel_rfl) (by kernel_rfl) rfl (⟨fun _=>rfl,fun h=>by cases h⟩) (fun i hn hi o ho A0 W d hJ hμ hin hk=>?_) (fun W6 hJ=>?_)
      ·rcases (show i=0∨i=1∨i=2∨i=3∨i=4∨i=5∨i=6∨i=7∨i=8∨i=9∨i=10∨i=11∨i=12∨i=13∨i=14∨i=15 by omega) with rfl|rfl|rfl|rfl|rfl|rfl|rfl|rfl|rfl|rfl|rfl|rfl|rfl|rfl|rfl|rfl<;>cases ho
       ·exact .quiet (uo 0 _ rfl (hk 0)) hJ
       ·exact .quiet (uo 9 _ rfl (hk 9)) hJ
       ·exact .quiet (uo 0 _ rfl (hk 0)) hJ
       ·exact .quiet (uo 9 _ rfl (hk 9)) hJ
       ·have h40:A0.tmps[40]?.getD undef=.int .i64 ((j+1:Nat):Int):=hin 3 40
        exact .quiet (by simp [go_sem,h40,q0,q1,q2,q3,q4,q5,q6,q7,q8,q9,q10,hd1]) hJ
       ·exact .quiet (uo 0 _ rfl (hk 0)) hJ
       ·exact .quiet (uo 9 _ rfl (hk 9)) hJ
       ·have h43:A0.tmps[43]?.getD undef=.int .i64 ((j+1:Nat):Int):=hin 6 43
        exact .quiet (by simp [go_sem,h43,q0,q1,q2,q3,q4,q5,q6,q7,q8,q9,q10,hd1]) hJ
       ·have h42:A0.tmps[42]?.getD undef=.slice (some ⟨g,0,none⟩) n cap:=hin 5 42
        have h44:A0.tmps[44]?.getD undef=.int .i64 (j:Int):=hin 7 44
        exact .quiet (by simp [go_sem,h42,h44,q0,q1,q2,q3,q4,q5,q6,q7,q8,q9,q10,hd1]) hJ
       ·have h45:A0.tmps[45]?.getD undef=.pointer (some ⟨g,j * 3,none⟩):=hin 8 45
        obtain rfl:W=wd4:=hJ.1 (hμ (.inr (by kernel_rfl)))
        exact .quiet (vu 45 _ rfl vd ⟨g,j * 3,none⟩ y h45 HYr.out.1 Haty.out) hJ
       ·exact .quiet (uo 0 _ rfl (hk 0)) hJ
       ·exact .quiet (uo 9 _ rfl (hk 9)) hJ
       ·have h47:A0.tmps[47]?.getD undef=.slice (some ⟨g,0,none⟩) n cap:=hin 10 47
        have h48:A0.tmps[48]?.getD undef=.int .i64 ((j+1:Nat):Int):=hin 11 48
        exact .quiet (by simp [go_sem,h47,h48,q0,q1,q2,q3,q4,q5,q6,q7,q8,q9,q10,hd1]) hJ
       ·have h49:A0.tmps[49]?.getD undef=.pointer (some ⟨g,(j+1) * 3,none⟩):=hin 12 49
        obtain rfl:W=wd4:=hJ.1 (hμ (.inr (by kernel_rfl)))
        exact .quiet (vu 49 _ rfl vd ⟨g,(j+1) * 3,none⟩ x h49 HXr.out.1 Hatx.out) hJ
       ·have h37:A0.tmps[37]?.getD undef=.slice (some ⟨g,0,none⟩) n cap:=hin 0 37
        have h38:A0.tmps[38]?.getD undef=.int .i64 ((j+1:Nat):Int):=hin 1 38
        exact .quiet (by simp [go_sem,h37,h38,q0,q1,q2,q3,q4,q5,q6,q7,q8,q9,q10,hd1]) hJ
       ·have h46:A0.tmps[46]?.getD undef=.agg y.toArray:=hin 9 46
        have h51:A0.tmps[51]?.getD undef=.pointer (some ⟨g,(j+1) * 3,none⟩):=hin 14 51
        obtain rfl:W=wd4:=hJ.1 (hμ (.inl rfl))
        refine .skip (cq (.tmp 51) (.tmp 46) 42 rfl vd g ((j+1) * 3) 42 _ y (by simpa [Act.eval] using h51) (by simpa [Act.eval] using h46) HT4.out.blk HYr.out.1 (HT4.out.fit (by omega)) HYr.out.2) ⟨⟨fun h=>by cases d <;> simp at h,fun _=>HW5.out.symm⟩,rfl⟩
      simp only [putsL,Act.put,qk,qu,qy]
      obtain rfl:W6=W5:=hJ.2 rfl
      clear hJ HT4 HCh4 HW5 Hatx Haty
      refine AtN.list 16 17 (by kernel_rfl) ?_
      change wpList _ _ _ [_] _ _
      go_wp2_with fail
      change AtN _ _ _ 17 _ _
      refine AtN.list 17 18 (by kernel_rfl) ?_
      change wpList _ _ _ [_] _ _
      refine vf rfl (.tmp 52) (.tmp 50) 42 rfl vd g (j * 3) 42 ((e.set (j+1) y).flatten++rest).toArray x rfl rfl HT5.out.blk HXr.out.1 (HT5.out.fit (by omega)) HXr.out.2 ?_
      have HT6:=qq (HT5.out.set (i:=j) (cs:=x) (by omega) HXr.out)
      have HCh6:=qq (HCh5.out.setRow g (layA ((e.set (j+1) y).flatten++rest).toArray (j * 3) x) (fun _=>rfl))
      refine AtN.done rfl ?_
      clear HT5 HCh5
      simp only [Act.put]
      go_wp2_with fail
      go_roundw
      case rel=>exact ⟨j,_,by go_num,HP2.out,HM2.out,HI2.out,HT6.out,HCh6.out⟩
      case measure=>simp only [intOf];omega
     ·have hcd:decide (c < 0)=false:=decide_eq_false hcn
      have HF:=qq (HI.out.done HO.out (.inr ⟨x,y,Hx.out,Hy.out,by rw [Hcc.out];exact hcn⟩))
      clear hcn HI
      go_wp2_with fail
      change AtN _ _ _ 17 _ _
      refine AtN.done rfl ?_
      go_wp2_with fail
      go_roundw
      case rel=>exact ⟨i+1,e,by omega,.inl (by omega),by go_num,HP.out,HM.out,HF.out,HT3.out,HCh3.out⟩
      case measure=>simp only [intOf];omega
  ·have HSf:=qq (show Srt cf e a b from HS.out.less (qh _) (by omega))
   go_wp2_with fail
   go_end0
   exact ⟨rfl,e,HP.out,HM.out,HSf.out,HTe.out,HCh.out⟩
def af (w:World) (g n cap a b k:Nat) (d:List (List Value)) (rest:List Value) (hT:Tab w g n d rest) (hab:a+k≤b) (hb:b+k≤n) (hn:n≤100000000) (hnc:n≤cap) (v:Value):
  Calls Tryz.prog 208 #[.slice (some ⟨g,0,none⟩) n cap,.int .i64 a,.int .i64 b,.int .i64 k,v] w fun e w'=>e=.returned (.tuple #[])∧∃ d',d'.Perm d∧SwR d' d a b k∧Tab w' g n d' rest∧Chg w w' (fun q=>q=g):=by
 have HT:=qq hT
 clear hT
 go_enter Tryz.func208,Tryz.ntmps208
 go_wp2_with fail
 go_loopw [10] (fun u10 wr=>∃ (i:Nat) (e:List (List Value)),i≤k∧u10=.int .i64 i∧e.Perm d∧SwR e d a b i∧Tab wr g n e rest∧Chg w wr (fun k=>k=g)) (fun u _=>k - (intOf u).toNat)
 case atStart=>exact ⟨0,d,qr _,rfl,List.Perm.refl _,SwR.refl _ _ _,HT.out,Chg.refl _ _⟩
 case round=>
  obtain ⟨i,e,hik,rfl,hp,hs,ht,hch⟩:=hrel
  have HP:=qq hp
  have HS:=qq hs
  have HTe:=qq ht
  have HCh:=qq hch
  clear hp hs ht hch
  by_cases hlt:i < k
  ·obtain ⟨x,hx,hxe,hxr⟩:=HTe.out.cs (i:=a+i) (by omega)
   obtain ⟨y,hy,hye,hyr⟩:=HTe.out.cs (i:=b+i) (by omega)
   have HXr:=qq hxr
   have HYr:=qq hyr
   have HT4:=qq (HTe.out.chg ((Chg.refl wr (fun _=>False)).drew) id)
   have HCh4:=qq (HCh.out.drew)
   have Hatx:=qq (HT4.out.get hx)
   have Haty:=qq (HT4.out.get hy)
   have HP2:=qq ((lp hx hy).trans HP.out)
   have HS2:=qq (HS.out.step (by omega) hx hy)
   clear hx hy hxr hyr hxe hye HTe HCh HP HS
   go_wp2_with fail
   refine vj (by kernel_rfl) ?_
   generalize wr.drew=wd4 at HT4 HCh4 Hatx Haty⊢
   obtain ⟨W5,hW5⟩:=qdq (wd4.setRow g (layA (e.flatten++rest).toArray ((a+i) * 3) y))
   have HT5:=qq (show Tab W5 g n (e.set (a+i) y) rest by rw [hW5];exact HT4.out.set (by omega) HYr.out)
   have HCh5:=qq (show Chg w W5 (fun k=>k=g) by rw [hW5];exact HCh4.out.setRow _ _ (fun _=>rfl))
   have HW5:=qq hW5
   clear hW5
   obtain ⟨p,hp⟩:=qdq (a+i)
   obtain ⟨q,hq⟩:=qdq (b+i)
   have q0:(0:Int)≤(p:Int):=by omega
   have q1:(p:Int) < (n:Int):=by omega
   have q2:(0:Int)≤(q:Int):=by omega
   have q3:(q:Int) < (n:Int):=by omega
   have q4:IntKind.i64.wrap ((a:Int)+(i:Int))=(p:Int):=by rw [IntKind.wrap_i64];omega
   have q5:IntKind.i64.wrap ((b:Int)+(i:Int))=(q:Int):=by rw [IntKind.wrap_i64];omega
   have q6:p < n:=by omega
   have q7:q < n:=by omega
   rw [←hp] at Hatx HT5 HW5 HP2 HS2
   rw [←hq] at Haty HP2 HS2
   clear hp hq
   refine AtN.segV3 0 22 21 (fun
    |0=>.slice (some ⟨g,0,none⟩) n cap
    |1=>.int .i64 a
    |2=>.int .i64 i
    |3=>.int .i64 p
    |4=>.slice (some ⟨g,0,none⟩) n cap
    |5=>.int .i64 b
    |6=>.int .i64 i
    |7=>.int .i64 q
    |8=>.slice (some ⟨g,0,none⟩) n cap
    |9=>.int .i64 b
    |10=>.int .i64 i
    |11=>.int .i64 q
    |12=>.pointer (some ⟨g,q * 3,none⟩)
    |13=>.agg y.toArray
    |14=>.slice (some ⟨g,0,none⟩) n cap
    |15=>.int .i64 a
    |16=>.int .i64 i
    |17=>.int .i64 p
    |18=>.pointer (some ⟨g,p * 3,none⟩)
    |19=>.agg x.toArray
    |20=>.pointer (some ⟨g,p * 3,none⟩)
    |_=>undef)
    [(0,16),(1,17),(2,18),(3,19),(4,20),(5,21),(6,22),(7,23),(8,24),(9,25),(10,26),(11,27),(12,28),(13,29),(14,30),(15,31),(16,32),(17,33),(18,34),(19,35),(20,36)] [(16,.slice (some ⟨g,0,none⟩) n cap),(17,.int .i64 a),(18,.int .i64 i),(19,.int .i64 p),(20,.slice (some ⟨g,0,none⟩) n cap),(21,.int .i64 b),(22,.int .i64 i),(23,.int .i64 q),(24,.slice (some ⟨g,0,none⟩) n cap),(25,.int .i64 b),(26,.int .i64 i),(27,.int .i64 q),(28,.pointer (some ⟨g,q * 3,none⟩)),(29,.agg y.toArray),(30,.slice (some ⟨g,0,none⟩) n cap),(31,.int .i64 a),(32,.int .i64 i),(33,.int .i64 p),(34,.pointer (some ⟨g,p * 3,none⟩)),(35,.agg x.toArray),(36,.pointer (some ⟨g,p * 3,none⟩))]
    (JTwo wd4 W5) (by kernel_rfl) (by kernel_rfl) (by kernel_rfl) (by kernel_rfl) rfl (⟨fun _=>rfl,fun h=>by cases h⟩) (fun i hn hi o ho A0 W d hJ hμ hin hk=>?_) (fun W6 hJ=>?_)
   ·rcases (show i=0∨i=1∨i=2∨i=3∨i=4∨i=5∨i=6∨i=7∨i=8∨i=9∨i=10∨i=11∨i=12∨i=13∨i=14∨i=15∨i=16∨i=17∨i=18∨i=19∨i=20∨i=21 by omega) with rfl|rfl|rfl|rfl|rfl|rfl|rfl|rfl|rfl|rfl|rfl|rfl|rfl|rfl|rfl|rfl|rfl|rfl|rfl|rfl|rfl|rfl<;>cases ho
    ·exact .quiet (uo 0 _ rfl (hk 0)) hJ
    ·exact .quiet (uo 1 _ rfl (hk 1)) hJ
    ·exact .quiet (uo 10 _ rfl (hk 10)) hJ
    ·have h17:A0.tmps[17]?.getD undef=.int .i64 a:=hin 1 17
     have h18:A0.tmps[18]?.getD undef=.int .i64 i:=hin 2 18
     exact .quiet (by simp [go_sem,h17,h18,q4]) hJ
    ·exact .quiet (uo 0 _ rfl (hk 0)) hJ
    ·exact .quiet (uo 2 _ rfl (hk 2)) hJ
    ·exact .quiet (uo 10 _ rfl (hk 10)) hJ
    ·have h21:A0.tmps[21]?.getD undef=.int .i64 b:=hin 5 21
     have h22:A0.tmps[22]?.getD undef=.int .i64 i:=hin 6 22
     exact .quiet (by simp [go_sem,h21,h22,q5]) hJ
    ·exact .quiet (uo 0 _ rfl (hk 0)) hJ
    ·exact .quiet (uo 2 _ rfl (hk 2)) hJ
    ·exact .quiet (uo 10 _ rfl (hk 10)) hJ
    ·have h25:A0.tmps[25]?.getD undef=.int .i64 b:=hin 9 25
     have h26:A0.tmps[26]?.getD undef=.int .i64 i:=hin 10 26
     exact .quiet (by simp [go_sem,h25,h26,q5]) hJ
    ·have h24:A0.tmps[24]?.getD undef=.slice (some ⟨g,0,none⟩) n cap:=hin 8 24
     have h27:A0.tmps[27]?.getD undef=.int .i64 q:=hin 11 27
     exact .quiet (by simp [go_sem,h24,h27,q0,q1,q2,q3,q6,q7]) hJ
    ·have h28:A0.tmps[28]?.getD undef=.pointer (some ⟨g,q * 3,none⟩):=hin 12 28
     obtain rfl:W=wd4:=hJ.1 (hμ (.inr (by kernel_rfl)))
     exact .quiet (vu 28 _ rfl vd ⟨g,q * 3,none⟩ y h28 HYr.out.1 Haty.out) hJ
    ·exact .quiet (uo 0 _ rfl (hk 0)) hJ
    ·exact .quiet (uo 1 _ rfl (hk 1)) hJ
    ·exact .quiet (uo 10 _ rfl (hk 10)) hJ
    ·have h31:A0.tmps[31]?.getD undef=.int .i64 a:=hin 15 31
     have h32:A0.tmps[32]?.getD undef=.int .i64 i:=hin 16 32
     exact .quiet (by simp [go_sem,h31,h32,q4]) hJ
    ·have h30:A0.tmps[30]?.getD undef=.slice (some ⟨g,0,none⟩) n cap:=hin 14 30
     have h33:A0.tmps[33]?.getD undef=.int .i64 p:=hin 17 33
     exact .quiet (by simp [go_sem,h30,h33,q0,q1,q2,q3,q6,q7]) hJ
    ·have h34:A0.tmps[34]?.getD undef=.pointer (some ⟨g,p * 3,none⟩):=hin 18 34
     obtain rfl:W=wd4:=hJ.1 (hμ (.inr (by kernel_rfl)))
     exact .quiet (vu 34 _ rfl vd ⟨g,p * 3,none⟩ x h34 HXr.out.1 Hatx.out) hJ
    ·have h16:A0.tmps[16]?.getD undef=.slice (some ⟨g,0,none⟩) n cap:=hin 0 16
     have h19:A0.tmps[19]?.getD undef=.int .i64 p:=hin 3 19
     exact .quiet (by simp [go_sem,h16,h19,q0,q1,q2,q3,q6,q7]) hJ
    ·have h29:A0.tmps[29]?.getD undef=.agg y.toArray:=hin 13 29
     have h36:A0.tmps[36]?.getD undef=.pointer (some ⟨g,p * 3,none⟩):=hin 20 36
     obtain rfl:W=wd4:=hJ.1 (hμ (.inl rfl))
     refine .skip (cq (.tmp 36) (.tmp 29) 42 rfl vd g (p * 3) 42 _ y (by simpa [Act.eval] using h36) (by simpa [Act.eval] using h29) HT4.out.blk HYr.out.1 (HT4.out.fit (by omega)) HYr.out.2) ⟨⟨fun h=>by cases d <;> simp at h,fun _=>HW5.out.symm⟩,rfl⟩
   simp only [putsL,Act.put,qk,qu,qy]
   obtain rfl:W6=W5:=hJ.2 rfl
   clear hJ HT4 HCh4 HW5 Hatx Haty
   refine AtN.list 22 23 (by kernel_rfl) ?_
   change wpList _ _ _ [_] _ _
   go_wp2_with fail
   change AtN _ _ _ 23 _ _
   refine AtN.list 23 24 (by kernel_rfl) ?_
   change wpList _ _ _ [_] _ _
   refine vf rfl (.tmp 37) (.tmp 35) 42 rfl vd g (q * 3) 42 ((e.set p y).flatten++rest).toArray x rfl rfl HT5.out.blk HXr.out.1 (HT5.out.fit (by omega)) HXr.out.2 ?_
   have HT6:=qq (HT5.out.set (i:=q) (cs:=x) (by omega) HXr.out)
   have HCh6:=qq (HCh5.out.setRow g (layA ((e.set p y).flatten++rest).toArray (q * 3) x) (fun _=>rfl))
   refine AtN.done rfl ?_
   clear HT5 HCh5
   simp only [Act.put]
   go_wp2_with fail
   go_roundw
   case rel=>exact ⟨i+1,_,by omega,by go_num,HP2.out,HS2.out,HT6.out,HCh6.out⟩
   case measure=>simp only [intOf];omega
  ·obtain rfl:i=k:=by omega
   go_wp2_with fail
   go_end0
   exact ⟨rfl,e,HP.out,HS.out,HTe.out,HCh.out⟩
def rotRng (w:World) (g n cap a m b:Nat) (d:List (List Value)) (rest:List Value) (hT:Tab w g n d rest) (ham:a < m) (hmb:m < b) (hb:b≤n) (hn:n≤100000000) (hnc:n≤cap) (v:Value):
  Calls Tryz.prog 181 #[.slice (some ⟨g,0,none⟩) n cap,.int .i64 a,.int .i64 m,.int .i64 b,v] w fun e w'=>e=.returned (.tuple #[])∧(rotL d a m b).Perm d∧Tab w' g n (rotL d a m b) rest∧Chg w w' (fun q=>q=g):=by
 have hrs:=qaj (d:=d) (a:=a) (m:=m) (b:=b) (by omega) (by omega) (by rw [hT.len];exact hb)
 obtain ⟨fin,hfin⟩:=qdq (rotL d a m b)
 rw [←hfin] at hrs⊢
 have HR:=qq hrs
 have HT:=qq hT
 clear hT hrs hfin
 have q0:IntKind.i64.wrap ((m:Int) - (a:Int))=((m - a:Nat):Int):=by rw [IntKind.wrap_i64];omega
 have q1:IntKind.i64.wrap ((b:Int) - (m:Int))=((b - m:Nat):Int):=by rw [IntKind.wrap_i64];omega
 go_enter Tryz.func181,Tryz.ntmps181
 go_wp2_with fail
 go_loopw [10,11] (fun u10 u11 wr=>∃ (i j:Nat) (e:List (List Value)),0 < i∧0 < j∧i≤m∧m+j≤b∧u10=.int .i64 i∧u11=.int .i64 j∧e.Perm d∧Rot e fin m i j∧Tab wr g n e rest∧Chg w wr (fun k=>k=g)) (fun u u1 _=>(intOf u).toNat+(intOf u1).toNat)
 case atStart=>
  refine ⟨m - a,b - m,d,by omega,by omega,by omega,by omega,?_,?_,List.Perm.refl _,HR.out,HT.out,Chg.refl _ _⟩
  all_goals go_num
 case round=>
  obtain ⟨i,j,e,hi,hj,him,hjb,rfl,rfl,hp,hs,ht,hch⟩:=hrel
  clear q0 q1
  have HP:=qq hp
  have HS:=qq hs
  have HTe:=qq ht
  have HCh:=qq hch
  clear hp hs ht hch
  have q2:IntKind.i64.wrap ((m:Int) - (i:Int))=((m - i:Nat):Int):=by rw [IntKind.wrap_i64];omega
  rcases Nat.lt_trichotomy i j with hlt|heq|hgt
  ·have hne:((i:Int) == (j:Int))=false:=by rw [beq_eq_false_iff_ne];omega
   have hgt:decide ((j:Int) < (i:Int))=false:=decide_eq_false (by omega)
   have hsw:=af wr g n cap (m - i) (m+j - i) i e rest HTe.out (by omega) (by omega) hn hnc v
   have q3:(m:Int) - (i:Int)=((m - i:Nat):Int):=by omega
   have q4:(m:Int)+(j:Int) - (i:Int)=((m+j - i:Nat):Int):=by omega
   have Hsw:=qq hsw
   clear hsw
   go_wp2_with fail
   refine Hsw.out.mono ?_
   rintro e1 W1 ⟨rfl,e2,hp2,hs2,ht2,hc2⟩
   have HP2:=qq (hp2.trans HP.out)
   have HS2:=qq (HS.out.right hlt hs2)
   have HT2:=qq ht2
   have HC2:=qq (HCh.out.trans hc2 (fun _ _ h=>h))
   clear hp2 hs2 ht2 hc2 Hsw
   go_wp2_with fail
   go_roundw
   case rel=>exact ⟨i,j - i,e2,by omega,by omega,by omega,by omega,by go_num,by go_num,HP2.out,HS2.out,HT2.out,HC2.out⟩
   case measure=>simp only [intOf];omega
  ·subst heq
   have hne:((i:Int) == (i:Int))=true:=by rw [beq_iff_eq]
   have hsw:=af wr g n cap (m - i) m i e rest HTe.out (by omega) (by omega) hn hnc v
   have q3:(m:Int) - (i:Int)=((m - i:Nat):Int):=by omega
   have Hsw:=qq hsw
   clear hsw
   go_wp2_with fail
   refine Hsw.out.mono ?_
   rintro e1 W1 ⟨rfl,e2,hp2,hs2,ht2,hc2⟩
   have hfin:=HS.out.last hs2
   subst hfin
   have HP2:=qq (hp2.trans HP.out)
   have HT2:=qq ht2
   have HC2:=qq (HCh.out.trans hc2 (fun _ _ h=>h))
   clear hp2 hs2 ht2 hc2 Hsw
   go_wp2_with fail
   go_end0
   exact ⟨rfl,HP2.out,HT2.out,HC2.out⟩
  ·have hne:((i:Int) == (j:Int))=false:=by rw [beq_eq_false_iff_ne];omega
   have hgt2:decide ((j:Int) < (i:Int))=true:=decide_eq_true (by omega)
   have hsw:=af wr g n cap (m - i) m j e rest HTe.out (by omega) (by omega) hn hnc v
   have q3:(m:Int) - (i:Int)=((m - i:Nat):Int):=by omega
   have Hsw:=qq hsw
   clear hsw
   go_wp2_with fail
   refine Hsw.out.mono ?_
   rintro e1 W1 ⟨rfl,e2,hp2,hs2,ht2,hc2⟩
   have HP2:=qq (hp2.trans HP.out)
   have HS2:=qq (HS.out.left hgt hs2)
   have HT2:=qq ht2
   have HC2:=qq (HCh.out.trans hc2 (fun _ _ h=>h))
   clear hp2 hs2 ht2 hc2 Hsw
   go_wp2_with fail
   go_roundw
   case rel=>exact ⟨i - j,j,e2,by omega,by omega,by omega,by omega,by go_num,by go_num,HP2.out,HS2.out,HT2.out,HC2.out⟩
   case measure=>simp only [intOf];omega
def symOne (w:World) (g n cap a b:Nat) (d:List (List Value)) (rest:List Value) (hT:Tab w g n d rest) (hab:a+1 < b) (hb:b≤n) (hn:n≤100000000) (hnc:n≤cap) (f:Nat) (lb:Array Value) (eg:Enters Tryz.prog f) (cf:List Value→List Value→Int) (ho:Ordr cf) (hc:CmpAt w g f lb cf d) (hs:Srt cf d (a+1) b):
  Calls Tryz.prog 156 #[.slice (some ⟨g,0,none⟩) n cap,.int .i64 a,.int .i64 ((a:Int)+1),.int .i64 b,.func (.func f) #[] lb] w (Sorts w g n a b rest cf d):=by
 unfold Enters at eg
 have HO:=qq ho
 have HC:=qq hc
 have HT:=qq hT
 have HSd:=qq hs
 obtain ⟨x,hx,hxe,hxr⟩:=hT.cs (i:=a) (by omega)
 have Hx:=qq hx
 have Hxe:=qq hxe
 have HXr:=qq hxr
 clear hT hc ho hs hx hxe hxr
 have b0:(((a:Int)+1 - (a:Int)) == 1)=true:=by rw [beq_iff_eq];omega
 have b1:((a:Int)+1 - (a:Int))=1:=by omega
 go_enter Tryz.func156,Tryz.ntmps156
 obtain ⟨L,hL⟩:∃ L:Nat→Prop,L=fun p=>∃ y,d[p]? =some y∧cf y x < 0:=⟨_,rfl⟩
 obtain ⟨R,hR⟩:∃ R:Nat→Prop,R=fun p=>∃ y,d[p]? =some y∧Le cf x y:=⟨_,rfl⟩
 have Hl:=qq hL
 have Hr:=qq hR
 clear hL hR
 go_wp2_with fail
 try simp only [b0,b1]
 clear b0 b1
 go_loopw [10,11] (fun u10 u11 wr=>∃ (i j:Nat),u10=.int .i64 i∧u11=.int .i64 j∧Bin L R (a+1) b i j∧New w wr) (fun u10 u11 _=>(intOf u11).toNat - (intOf u10).toNat)
 case atStart=>exact ⟨a+1,b,by go_num,rfl,⟨qh _,by omega,qh _,.inl rfl,.inl rfl⟩,Chg.refl _ _⟩
 case round=>
  obtain ⟨i,j,rfl,rfl,hB,hN⟩:=hrel
  have hi:=hB.lo
  have hij:=hB.ij
  have hj:=hB.hi
  have HB:=qq hB
  have HN:=qq hN
  clear hB hN
  by_cases hlt:i < j
  ·obtain ⟨h,hh⟩:∃ h:Nat,h=(i+j) / 2:=⟨_,rfl⟩
   have hhI:((i:Int)+(j:Int)) / 2=(h:Int):=by omega
   have hi1:i≤h:=by omega
   have hj1:h < j:=by omega
   have HhI:=qq hhI
   clear hh hhI
   obtain ⟨y,hy,hye,hyr⟩:=HT.out.cs (i:=h) (by omega)
   obtain ⟨c,hcc⟩:=qdp (cf y x)
   have hcall:=HC.out y hye x Hxe.out wr.drew ((HN.out.drew).mono (fun _ _ x=>x.elim))
   rw [hcc] at hcall
   have HTd:=qq (HT.out.chg HN.out.drew id)
   have Hcall:=qq hcall
   have Hcc:=qq hcc
   have Hy:=qq hy
   have HYr:=qq hyr
   have HNd:=qq HN.out.drew
   have Hatx:=qq (HTd.out.get Hx.out)
   have Haty:=qq (HTd.out.get hy)
   clear hy hye hyr hcc hcall HTd HN
   go_upto_region 5 with fail
   rw [HhI.out]
   refine vj (by kernel_rfl) ?_
   generalize wr.drew=wd at Hcall HNd Hatx Haty⊢
   have q0:(0:Int)≤(h:Int):=by omega
   have q1:(h:Int) < (n:Int):=by omega
   have q2:(0:Int)≤(a:Int):=by omega
   have q3:(a:Int) < (n:Int):=by omega
   have q4:h < n:=by omega
   have q5:a < n:=by omega
   refine AtN.segQ2 0 9 (fun
    |0=>.func (.func f) #[] lb
    |1=>.slice (some ⟨g,0,none⟩) n cap
    |2=>.int .i64 h
    |3=>.pointer (some ⟨g,h * 3,none⟩)
    |4=>.agg y.toArray
    |5=>.slice (some ⟨g,0,none⟩) n cap
    |6=>.int .i64 a
    |7=>.pointer (some ⟨g,a * 3,none⟩)
    |_=>.agg x.toArray)
    [(40,.func (.func f) #[] lb),(41,.slice (some ⟨g,0,none⟩) n cap),(42,.int .i64 h),(43,.pointer (some ⟨g,h * 3,none⟩)),(44,.agg y.toArray),(45,.slice (some ⟨g,0,none⟩) n cap),(46,.int .i64 a),(47,.pointer (some ⟨g,a * 3,none⟩)),(48,.agg x.toArray)] (by kernel_rfl) (by kernel_rfl) (by kernel_rfl) (by kernel_rfl) rfl (fun i hn hi o ho A0 hin hk=>?_) ?_
   ·rcases (show i=0∨i=1∨i=2∨i=3∨i=4∨i=5∨i=6∨i=7∨i=8 by omega) with rfl|rfl|rfl|rfl|rfl|rfl|rfl|rfl|rfl<;>cases ho
    ·exact uo 4 _ rfl (hk 4)
    ·exact uo 0 _ rfl (hk 0)
    ·exact uo 12 _ rfl (hk 12)
    ·have h41:A0.tmps[41]?.getD undef=.slice (some ⟨g,0,none⟩) n cap:=hin 1 41
     have h42:A0.tmps[42]?.getD undef=.int .i64 h:=hin 2 42
     exact by simp [go_sem,h41,h42,q0,q1,q2,q3,q4,q5]
    ·have h43:A0.tmps[43]?.getD undef=.pointer (some ⟨g,h * 3,none⟩):=hin 3 43
     exact vu 43 _ rfl vd ⟨g,h * 3,none⟩ y h43 HYr.out.1 Haty.out
    ·exact uo 0 _ rfl (hk 0)
    ·exact uo 1 _ rfl (hk 1)
    ·have h45:A0.tmps[45]?.getD undef=.slice (some ⟨g,0,none⟩) n cap:=hin 5 45
     have h46:A0.tmps[46]?.getD undef=.int .i64 a:=hin 6 46
     exact by simp [go_sem,h45,h46,q0,q1,q2,q3,q4,q5]
    ·have h47:A0.tmps[47]?.getD undef=.pointer (some ⟨g,a * 3,none⟩):=hin 7 47
     exact vu 47 _ rfl vd ⟨g,a * 3,none⟩ x h47 HXr.out.1 Hatx.out
   simp only [putsL,Act.put,qk,qu,qy]
   refine AtN.list 9 11 (by kernel_rfl) ?_
   change wpList _ _ _ [_,_] _ _
   go_wp2_with fail
   refine Hcall.out.mono ?_
   rintro e3 W3 ⟨rfl,hN3⟩
   have HN3:=qq (HNd.out.trans hN3 qdr)
   clear hN3 Hcall HNd Hatx Haty
   by_cases hcn:c < 0
   ·have hcd:decide (c < 0)=true:=decide_eq_true hcn
    have HB2:=qq (HB.out.up hi1 hj1 (by rw [Hl.out];exact ⟨y,Hy.out,by rw [Hcc.out];exact hcn⟩))
    clear hcn
    go_wp2_with fail
    change AtN _ _ _ 11 _ _
    refine AtN.done rfl ?_
    go_wp2_with fail
    go_roundw
    case rel=>first|exact ⟨h+1,j,by go_num,rfl,HB2.out,HN3.out⟩|exact ⟨h+1,by go_num,HB2.out,HN3.out⟩
    case measure=>simp only [intOf];omega
   ·have hcd:decide (c < 0)=false:=decide_eq_false hcn
    have HB2:=qq (HB.out.down hi1 hj1 (by rw [Hr.out];exact ⟨y,Hy.out,by unfold Le;rw [Hcc.out];exact hcn⟩))
    clear hcn
    go_wp2_with fail
    change AtN _ _ _ 11 _ _
    refine AtN.done rfl ?_
    go_wp2_with fail
    go_roundw
    case rel=>first|exact ⟨i,h,rfl,rfl,HB2.out,HN3.out⟩|exact ⟨HB2.out,HN3.out⟩
    case measure=>simp only [intOf];omega
  ·obtain rfl:i=j:=by omega
   have HTi:=qq (HT.out.chg HN.out id)
   have HCi:=qq (show Chg w wr (fun k=>k=g) from HN.out.mono (fun _ _ x=>x.elim))
   have hl:=HB.out.l
   have hr:=HB.out.r
   rw [Hl.out] at hl
   rw [Hr.out] at hr
   have HL:=qq hl
   have HR:=qq hr
   clear hlt hij hl hr HB
   go_wp2_with fail
   go_loopw [13] (fun u13 wr=>∃ (k:Nat) (e:List (List Value)),a≤k∧k≤i - 1∧u13=.int .i64 k∧e.Perm d∧Mix e d a b∧Mv e d a k∧Tab wr g n e rest∧Chg w wr (fun k=>k=g)) (fun u _=>i - (intOf u).toNat)
   case atStart=>exact ⟨a,d,qh _,by omega,rfl,List.Perm.refl _,Mix.refl _ _ _,Mv.refl _ _,HTi.out,HCi.out⟩
   case round=>
    clear HN HTi HCi
    obtain ⟨k,e,hak,hki,rfl,hp,hmx,hmv,ht,hch⟩:=hrel
    have HP:=qq hp
    have HM:=qq hmx
    have HV:=qq hmv
    have HTe:=qq ht
    have HCh:=qq hch
    clear hp hmx hmv ht hch
    by_cases hlt:k < i - 1
    ·obtain ⟨z,hz,hze,hzr⟩:=HTe.out.cs (i:=k) (by omega)
     obtain ⟨y,hy,hye,hyr⟩:=HTe.out.cs (i:=k+1) (by omega)
     have HT4:=qq (HTe.out.chg ((Chg.refl wr (fun _=>False)).drew) id)
     have HCh4:=qq (HCh.out.drew)
     have HP2:=qq ((lp hz hy).trans HP.out)
     have HM2:=qq ((ak (a:=a) (b:=b) hz hy hak (by omega) (by omega) (by omega)).trans HM.out)
     have HV2:=qq (HV.out.step hak hz hy)
     have HZr:=qq hzr
     have HYr:=qq hyr
     have Hatz:=qq (HT4.out.get hz)
     have Haty:=qq (HT4.out.get hy)
     clear hz hy hze hye hzr hyr HTe HCh HP HM HV
     go_upto_region 11 with fail
     have q0:(0:Int)≤(k:Int):=by omega
     have q1:(k:Int) < (n:Int):=by omega
     have q2:(0:Int)≤(k:Int)+1:=by omega
     have q3:(k:Int)+1 < (n:Int):=by omega
     have q4:IntKind.i64.wrap ((k:Int)+1)=(k:Int)+1:=by rw [IntKind.wrap_i64];omega
     have q5:k < n:=by omega
     have q6:k+1 < n:=by omega
     have q7:((k:Int)+1).toNat=k+1:=by omega
     refine vj (by kernel_rfl) ?_
     generalize wr.drew=wd4 at HT4 HCh4 Hatz Haty⊢
     obtain ⟨W5,hW5⟩:=qdq (wd4.setRow g (layA (e.flatten++rest).toArray (k * 3) y))
     have HT5:=qq (show Tab W5 g n (e.set (k) y) rest by rw [hW5];exact HT4.out.set (by omega) HYr.out)
     have HCh5:=qq (show Chg w W5 (fun k=>k=g) by rw [hW5];exact HCh4.out.setRow _ _ (fun _=>rfl))
     have HW5:=qq hW5
     clear hW5
     refine AtN.segV3 0 16 15 (fun
      |0=>.slice (some ⟨g,0,none⟩) n cap
      |1=>.int .i64 k
      |2=>.slice (some ⟨g,0,none⟩) n cap
      |3=>.int .i64 k
      |4=>.int .i64 ((k:Int)+1)
      |5=>.slice (some ⟨g,0,none⟩) n cap
      |6=>.int .i64 k
      |7=>.int .i64 ((k:Int)+1)
      |8=>.pointer (some ⟨g,(k+1) * 3,none⟩)
      |9=>.agg y.toArray
      |10=>.slice (some ⟨g,0,none⟩) n cap
      |11=>.int .i64 k
      |12=>.pointer (some ⟨g,k * 3,none⟩)
      |13=>.agg z.toArray
      |14=>.pointer (some ⟨g,k * 3,none⟩)
      |_=>undef)
      [(0,61),(1,62),(2,63),(3,64),(4,65),(5,66),(6,67),(7,68),(8,69),(9,70),(10,71),(11,72),(12,73),(13,74),(14,75)] [(61,.slice (some ⟨g,0,none⟩) n cap),(62,.int .i64 k),(63,.slice (some ⟨g,0,none⟩) n cap),(64,.int .i64 k),(65,.int .i64 ((k:Int)+1)),(66,.slice (some ⟨g,0,none⟩) n cap),(67,.int .i64 k),(68,.int .i64 ((k:Int)+1)),(69,.pointer (some ⟨g,(k+1) * 3,none⟩)),(70,.agg y.toArray),(71,.slice (some ⟨g,0,none⟩) n cap),(72,.int .i64 k),(73,.pointer (some ⟨g,k * 3,none⟩)),(74,.agg z.toArray),(75,.pointer (some ⟨g,k * 3,none⟩))]
      (JTwo wd4 W5) (by kernel_rfl) (by kernel_rfl) (by kernel_rfl) (by kernel_rfl) rfl (⟨fun _=>rfl,fun h=>by cases h⟩) (fun i hn hi o ho A0 W d hJ hμ hin hk=>?_) (fun W6 hJ=>?_)
     ·rcases (show i=0∨i=1∨i=2∨i=3∨i=4∨i=5∨i=6∨i=7∨i=8∨i=9∨i=10∨i=11∨i=12∨i=13∨i=14∨i=15 by omega) with rfl|rfl|rfl|rfl|rfl|rfl|rfl|rfl|rfl|rfl|rfl|rfl|rfl|rfl|rfl|rfl<;>cases ho
      ·exact .quiet (uo 0 _ rfl (hk 0)) hJ
      ·exact .quiet (uo 13 _ rfl (hk 13)) hJ
      ·exact .quiet (uo 0 _ rfl (hk 0)) hJ
      ·exact .quiet (uo 13 _ rfl (hk 13)) hJ
      ·have h64:A0.tmps[64]?.getD undef=.int .i64 k:=hin 3 64
       exact .quiet (by simp [go_sem,h64,q0,q1,q2,q3,q4,q5,q6,q7]) hJ
      ·exact .quiet (uo 0 _ rfl (hk 0)) hJ
      ·exact .quiet (uo 13 _ rfl (hk 13)) hJ
      ·have h67:A0.tmps[67]?.getD undef=.int .i64 k:=hin 6 67
       exact .quiet (by simp [go_sem,h67,q0,q1,q2,q3,q4,q5,q6,q7]) hJ
      ·have h66:A0.tmps[66]?.getD undef=.slice (some ⟨g,0,none⟩) n cap:=hin 5 66
       have h68:A0.tmps[68]?.getD undef=.int .i64 ((k:Int)+1):=hin 7 68
       exact .quiet (by simp [go_sem,h66,h68,q0,q1,q2,q3,q4,q5,q6,q7]) hJ
      ·have h69:A0.tmps[69]?.getD undef=.pointer (some ⟨g,(k+1) * 3,none⟩):=hin 8 69
       obtain rfl:W=wd4:=hJ.1 (hμ (.inr (by kernel_rfl)))
       exact .quiet (vu 69 _ rfl vd ⟨g,(k+1) * 3,none⟩ y h69 HYr.out.1 Haty.out) hJ
      ·exact .quiet (uo 0 _ rfl (hk 0)) hJ
      ·exact .quiet (uo 13 _ rfl (hk 13)) hJ
      ·have h71:A0.tmps[71]?.getD undef=.slice (some ⟨g,0,none⟩) n cap:=hin 10 71
       have h72:A0.tmps[72]?.getD undef=.int .i64 k:=hin 11 72
       exact .quiet (by simp [go_sem,h71,h72,q0,q1,q2,q3,q4,q5,q6,q7]) hJ
      ·have h73:A0.tmps[73]?.getD undef=.pointer (some ⟨g,k * 3,none⟩):=hin 12 73
       obtain rfl:W=wd4:=hJ.1 (hμ (.inr (by kernel_rfl)))
       exact .quiet (vu 73 _ rfl vd ⟨g,k * 3,none⟩ z h73 HZr.out.1 Hatz.out) hJ
      ·have h61:A0.tmps[61]?.getD undef=.slice (some ⟨g,0,none⟩) n cap:=hin 0 61
       have h62:A0.tmps[62]?.getD undef=.int .i64 k:=hin 1 62
       exact .quiet (by simp [go_sem,h61,h62,q0,q1,q2,q3,q4,q5,q6,q7]) hJ
      ·have h70:A0.tmps[70]?.getD undef=.agg y.toArray:=hin 9 70
       have h75:A0.tmps[75]?.getD undef=.pointer (some ⟨g,k * 3,none⟩):=hin 14 75
       obtain rfl:W=wd4:=hJ.1 (hμ (.inl rfl))
       refine .skip (cq (.tmp 75) (.tmp 70) 42 rfl vd g (k * 3) 42 _ y (by simpa [Act.eval] using h75) (by simpa [Act.eval] using h70) HT4.out.blk HYr.out.1 (HT4.out.fit (by omega)) HYr.out.2) ⟨⟨fun h=>by cases d <;> simp at h,fun _=>HW5.out.symm⟩,rfl⟩
     simp only [putsL,Act.put,qk,qu,qy]
     obtain rfl:W6=W5:=hJ.2 rfl
     clear hJ HT4 HCh4 HW5 Hatz Haty
     refine AtN.list 16 17 (by kernel_rfl) ?_
     change wpList _ _ _ [_] _ _
     go_wp2_with fail
     change AtN _ _ _ 17 _ _
     refine AtN.list 17 18 (by kernel_rfl) ?_
     change wpList _ _ _ [_] _ _
     refine vf rfl (.tmp 76) (.tmp 74) 42 rfl vd g ((k+1) * 3) 42 ((e.set (k) y).flatten++rest).toArray z rfl rfl HT5.out.blk HZr.out.1 (HT5.out.fit (by omega)) HZr.out.2 ?_
     have HT6:=qq (HT5.out.set (i:=(k+1)) (cs:=z) (by omega) HZr.out)
     have HCh6:=qq (HCh5.out.setRow g (layA ((e.set (k) y).flatten++rest).toArray ((k+1) * 3) z) (fun _=>rfl))
     refine AtN.done rfl ?_
     clear HT5 HCh5
     simp only [Act.put]
     go_wp2_with fail
     go_roundw
     case rel=>exact ⟨k+1,_,by omega,by omega,by go_num,HP2.out,HM2.out,HV2.out,HT6.out,HCh6.out⟩
     case measure=>simp only [intOf];omega
    ·obtain rfl:k=i - 1:=by omega
     have HF:=qq (HV.out.sorted HO.out Hx.out HSd.out hi hj HL.out HR.out)
     go_wp2_with fail
     go_end0
     exact ⟨rfl,e,HP.out,HM.out,HF.out,HTe.out,HCh.out⟩
def symTwo (w:World) (g n cap a m:Nat) (d:List (List Value)) (rest:List Value) (hT:Tab w g n d rest) (ham:a+1 < m) (hb:m+1≤n) (hn:n≤100000000) (hnc:n≤cap) (f:Nat) (lb:Array Value) (eg:Enters Tryz.prog f) (cf:List Value→List Value→Int) (ho:Ordr cf) (hc:CmpAt w g f lb cf d) (hs:Srt cf d a m):
  Calls Tryz.prog 156 #[.slice (some ⟨g,0,none⟩) n cap,.int .i64 a,.int .i64 m,.int .i64 ((m:Int)+1),.func (.func f) #[] lb] w (Sorts w g n a (m+1) rest cf d):=by
 unfold Enters at eg
 have HO:=qq ho
 have HC:=qq hc
 have HT:=qq hT
 have HSd:=qq hs
 obtain ⟨x,hx,hxe,hxr⟩:=hT.cs (i:=m) (by omega)
 have Hx:=qq hx
 have Hxe:=qq hxe
 have HXr:=qq hxr
 clear hT hc ho hs hx hxe hxr
 have b0:(((m:Int) - (a:Int)) == 1)=false:=by rw [beq_eq_false_iff_ne];omega
 have b1:((m:Int)+1 - (m:Int))=1:=by omega
 have b2:(((m:Int)+1 - (m:Int)) == 1)=true:=by rw [beq_iff_eq];omega
 obtain ⟨L,hL⟩:∃ L:Nat→Prop,L=fun p=>∃ y,d[p]? =some y∧Le cf y x:=⟨_,rfl⟩
 obtain ⟨R,hR⟩:∃ R:Nat→Prop,R=fun p=>∃ y,d[p]? =some y∧cf x y < 0:=⟨_,rfl⟩
 have Hl:=qq hL
 have Hr:=qq hR
 clear hL hR
 go_enter Tryz.func156,Tryz.ntmps156
 go_wp2_with fail
 try simp only [b0,b1,b2]
 clear b0 b1 b2
 go_loopw [14,15] (fun u14 u15 wr=>∃ (i j:Nat),u14=.int .i64 i∧u15=.int .i64 j∧Bin L R a m i j∧New w wr) (fun u14 u15 _=>(intOf u15).toNat - (intOf u14).toNat)
 case atStart=>exact ⟨a,m,by go_num,rfl,⟨qh _,by omega,qh _,.inl rfl,.inl rfl⟩,Chg.refl _ _⟩
 case round=>
  obtain ⟨i,j,rfl,rfl,hB,hN⟩:=hrel
  have hi:=hB.lo
  have hij:=hB.ij
  have hj:=hB.hi
  have HB:=qq hB
  have HN:=qq hN
  clear hB hN
  by_cases hlt:i < j
  ·obtain ⟨h,hh⟩:∃ h:Nat,h=(i+j) / 2:=⟨_,rfl⟩
   have hhI:((i:Int)+(j:Int)) / 2=(h:Int):=by omega
   have hi1:i≤h:=by omega
   have hj1:h < j:=by omega
   have HhI:=qq hhI
   clear hh hhI
   obtain ⟨y,hy,hye,hyr⟩:=HT.out.cs (i:=h) (by omega)
   obtain ⟨c,hcc⟩:=qdp (cf x y)
   have hcall:=HC.out x Hxe.out y hye wr.drew ((HN.out.drew).mono (fun _ _ x=>x.elim))
   rw [hcc] at hcall
   have HTd:=qq (HT.out.chg HN.out.drew id)
   have Hcall:=qq hcall
   have Hcc:=qq hcc
   have Hy:=qq hy
   have HYr:=qq hyr
   have HNd:=qq HN.out.drew
   have Hatx:=qq (HTd.out.get Hx.out)
   have Haty:=qq (HTd.out.get hy)
   clear hy hye hyr hcc hcall HTd HN
   go_upto_region 17 with fail
   rw [HhI.out]
   refine vj (by kernel_rfl) ?_
   generalize wr.drew=wd at Hcall HNd Hatx Haty⊢
   have q0:(0:Int)≤(h:Int):=by omega
   have q1:(h:Int) < (n:Int):=by omega
   have q2:(0:Int)≤(m:Int):=by omega
   have q3:(m:Int) < (n:Int):=by omega
   have q4:h < n:=by omega
   have q5:m < n:=by omega
   refine AtN.segQ2 0 9 (fun
    |0=>.func (.func f) #[] lb
    |1=>.slice (some ⟨g,0,none⟩) n cap
    |2=>.int .i64 m
    |3=>.pointer (some ⟨g,m * 3,none⟩)
    |4=>.agg x.toArray
    |5=>.slice (some ⟨g,0,none⟩) n cap
    |6=>.int .i64 h
    |7=>.pointer (some ⟨g,h * 3,none⟩)
    |_=>.agg y.toArray)
    [(92,.func (.func f) #[] lb),(93,.slice (some ⟨g,0,none⟩) n cap),(94,.int .i64 m),(95,.pointer (some ⟨g,m * 3,none⟩)),(96,.agg x.toArray),(97,.slice (some ⟨g,0,none⟩) n cap),(98,.int .i64 h),(99,.pointer (some ⟨g,h * 3,none⟩)),(100,.agg y.toArray)] (by kernel_rfl) (by kernel_rfl) (by kernel_rfl) (by kernel_rfl) rfl (fun i hn hi o ho A0 hin hk=>?_) ?_
   ·rcases (show i=0∨i=1∨i=2∨i=3∨i=4∨i=5∨i=6∨i=7∨i=8 by omega) with rfl|rfl|rfl|rfl|rfl|rfl|rfl|rfl|rfl<;>cases ho
    ·exact uo 4 _ rfl (hk 4)
    ·exact uo 0 _ rfl (hk 0)
    ·exact uo 2 _ rfl (hk 2)
    ·have h93:A0.tmps[93]?.getD undef=.slice (some ⟨g,0,none⟩) n cap:=hin 1 93
     have h94:A0.tmps[94]?.getD undef=.int .i64 m:=hin 2 94
     exact by simp [go_sem,h93,h94,q0,q1,q2,q3,q4,q5]
    ·have h95:A0.tmps[95]?.getD undef=.pointer (some ⟨g,m * 3,none⟩):=hin 3 95
     exact vu 95 _ rfl vd ⟨g,m * 3,none⟩ x h95 HXr.out.1 Hatx.out
    ·exact uo 0 _ rfl (hk 0)
    ·exact uo 16 _ rfl (hk 16)
    ·have h97:A0.tmps[97]?.getD undef=.slice (some ⟨g,0,none⟩) n cap:=hin 5 97
     have h98:A0.tmps[98]?.getD undef=.int .i64 h:=hin 6 98
     exact by simp [go_sem,h97,h98,q0,q1,q2,q3,q4,q5]
    ·have h99:A0.tmps[99]?.getD undef=.pointer (some ⟨g,h * 3,none⟩):=hin 7 99
     exact vu 99 _ rfl vd ⟨g,h * 3,none⟩ y h99 HYr.out.1 Haty.out
   simp only [putsL,Act.put,qk,qu,qy]
   refine AtN.list 9 12 (by kernel_rfl) ?_
   change wpList _ _ _ [_,_,_] _ _
   go_wp2_with fail
   refine Hcall.out.mono ?_
   rintro e3 W3 ⟨rfl,hN3⟩
   have HN3:=qq (HNd.out.trans hN3 qdr)
   clear hN3 Hcall HNd Hatx Haty
   by_cases hcn:c < 0
   ·have hcd:decide (c < 0)=true:=decide_eq_true hcn
    have HB2:=qq (HB.out.down hi1 hj1 (by rw [Hr.out];exact ⟨y,Hy.out,by rw [Hcc.out];exact hcn⟩))
    clear hcn
    go_wp2_with fail
    change AtN _ _ _ 12 _ _
    refine AtN.done rfl ?_
    go_wp2_with fail
    go_roundw
    case rel=>first|exact ⟨i,h,rfl,rfl,HB2.out,HN3.out⟩|exact ⟨HB2.out,HN3.out⟩
    case measure=>simp only [intOf];omega
   ·have hcd:decide (c < 0)=false:=decide_eq_false hcn
    have HB2:=qq (HB.out.up hi1 hj1 (by rw [Hl.out];exact ⟨y,Hy.out,by unfold Le;rw [Hcc.out];exact hcn⟩))
    clear hcn
    go_wp2_with fail
    change AtN _ _ _ 12 _ _
    refine AtN.done rfl ?_
    go_wp2_with fail
    go_roundw
    case rel=>first|exact ⟨h+1,j,by go_num,rfl,HB2.out,HN3.out⟩|exact ⟨h+1,by go_num,HB2.out,HN3.out⟩
    case measure=>simp only [intOf];omega
  ·obtain rfl:i=j:=by omega
   have HTi:=qq (HT.out.chg HN.out id)
   have HCi:=qq (show Chg w wr (fun k=>k=g) from HN.out.mono (fun _ _ x=>x.elim))
   have hl:=HB.out.l
   have hr:=HB.out.r
   rw [Hl.out] at hl
   rw [Hr.out] at hr
   have HL:=qq hl
   have HR:=qq hr
   clear hlt hij hl hr HB
   go_wp2_with fail
   go_loopw [17] (fun u17 wr=>∃ (k:Nat) (e:List (List Value)),i≤k∧k≤m∧u17=.int .i64 k∧e.Perm d∧Mix e d a (m+1)∧Mw e d m k∧Tab wr g n e rest∧Chg w wr (fun k=>k=g)) (fun u _=>(intOf u).toNat)
   case atStart=>exact ⟨m,d,by omega,qh _,rfl,List.Perm.refl _,Mix.refl _ _ _,Mw.refl _ _,HTi.out,HCi.out⟩
   case round=>
    clear HN HTi HCi
    obtain ⟨k,e,hik,hkm,rfl,hp,hmx,hmv,ht,hch⟩:=hrel
    have HP:=qq hp
    have HM:=qq hmx
    have HV:=qq hmv
    have HTe:=qq ht
    have HCh:=qq hch
    clear hp hmx hmv ht hch
    by_cases hlt:i < k
    ·obtain ⟨k,rfl⟩:∃ k0,k=k0+1:=⟨k - 1,by omega⟩
     obtain ⟨z,hz,hze,hzr⟩:=HTe.out.cs (i:=k+1) (by omega)
     obtain ⟨y,hy,hye,hyr⟩:=HTe.out.cs (i:=k) (by omega)
     have HT4:=qq (HTe.out.chg ((Chg.refl wr (fun _=>False)).drew) id)
     have HCh4:=qq (HCh.out.drew)
     have HP2:=qq ((lp hz hy).trans HP.out)
     have HM2:=qq ((ak (a:=a) (b:=m+1) hz hy (by omega) (by omega) (by omega) (by omega)).trans HM.out)
     have HV2:=qq (HV.out.step hkm hz hy)
     have HZr:=qq hzr
     have HYr:=qq hyr
     have Hatz:=qq (HT4.out.get hz)
     have Haty:=qq (HT4.out.get hy)
     clear hz hy hze hye hzr hyr HTe HCh HP HM HV
     go_upto_region 23 with fail
     have q0:(0:Int)≤(k:Int):=by omega
     have q1:(k:Int) < (n:Int):=by omega
     have q2:(0:Int)≤(k:Int)+1:=by omega
     have q3:(k:Int)+1 < (n:Int):=by omega
     have q4:IntKind.i64.wrap (k:Int)=(k:Int):=by rw [IntKind.wrap_i64];omega
     have q5:k < n:=by omega
     have q6:k+1 < n:=by omega
     have q7:((k:Int)+1).toNat=k+1:=by omega
     have q8:IntKind.i64.wrap ((k:Int)+1 - 1)=(k:Int):=by rw [IntKind.wrap_i64];omega
     refine vj (by kernel_rfl) ?_
     generalize wr.drew=wd4 at HT4 HCh4 Hatz Haty⊢
     obtain ⟨W5,hW5⟩:=qdq (wd4.setRow g (layA (e.flatten++rest).toArray ((k+1) * 3) y))
     have HT5:=qq (show Tab W5 g n (e.set (k+1) y) rest by rw [hW5];exact HT4.out.set (by omega) HYr.out)
     have HCh5:=qq (show Chg w W5 (fun k=>k=g) by rw [hW5];exact HCh4.out.setRow _ _ (fun _=>rfl))
     have HW5:=qq hW5
     clear hW5
     refine AtN.segV3 0 16 15 (fun
      |0=>.slice (some ⟨g,0,none⟩) n cap
      |1=>.int .i64 ((k:Int)+1)
      |2=>.slice (some ⟨g,0,none⟩) n cap
      |3=>.int .i64 ((k:Int)+1)
      |4=>.int .i64 (k:Int)
      |5=>.slice (some ⟨g,0,none⟩) n cap
      |6=>.int .i64 ((k:Int)+1)
      |7=>.int .i64 (k:Int)
      |8=>.pointer (some ⟨g,k * 3,none⟩)
      |9=>.agg y.toArray
      |10=>.slice (some ⟨g,0,none⟩) n cap
      |11=>.int .i64 ((k:Int)+1)
      |12=>.pointer (some ⟨g,(k+1) * 3,none⟩)
      |13=>.agg z.toArray
      |14=>.pointer (some ⟨g,(k+1) * 3,none⟩)
      |_=>undef)
      [(0,113),(1,114),(2,115),(3,116),(4,117),(5,118),(6,119),(7,120),(8,121),(9,122),(10,123),(11,124),(12,125),(13,126),(14,127)] [(113,.slice (some ⟨g,0,none⟩) n cap),(114,.int .i64 ((k:Int)+1)),(115,.slice (some ⟨g,0,none⟩) n cap),(116,.int .i64 ((k:Int)+1)),(117,.int .i64 (k:Int)),(118,.slice (some ⟨g,0,none⟩) n cap),(119,.int .i64 ((k:Int)+1)),(120,.int .i64 (k:Int)),(121,.pointer (some ⟨g,k * 3,none⟩)),(122,.agg y.toArray),(123,.slice (some ⟨g,0,none⟩) n cap),(124,.int .i64 ((k:Int)+1)),(125,.pointer (some ⟨g,(k+1) * 3,none⟩)),(126,.agg z.toArray),(127,.pointer (some ⟨g,(k+1) * 3,none⟩))]
      (JTwo wd4 W5) (by kernel_rfl) (by kernel_rfl) (by kernel_rfl) (by kernel_rfl) rfl (⟨fun _=>rfl,fun h=>by cases h⟩) (fun i hn hi o ho A0 W d hJ hμ hin hk=>?_) (fun W6 hJ=>?_)
     ·rcases (show i=0∨i=1∨i=2∨i=3∨i=4∨i=5∨i=6∨i=7∨i=8∨i=9∨i=10∨i=11∨i=12∨i=13∨i=14∨i=15 by omega) with rfl|rfl|rfl|rfl|rfl|rfl|rfl|rfl|rfl|rfl|rfl|rfl|rfl|rfl|rfl|rfl<;>cases ho
      ·exact .quiet (uo 0 _ rfl (hk 0)) hJ
      ·exact .quiet (uo 17 _ rfl (hk 17)) hJ
      ·exact .quiet (uo 0 _ rfl (hk 0)) hJ
      ·exact .quiet (uo 17 _ rfl (hk 17)) hJ
      ·have h116:A0.tmps[116]?.getD undef=.int .i64 ((k:Int)+1):=hin 3 116
       exact .quiet (by simp [go_sem,h116,q0,q1,q2,q3,q4,q5,q6,q7,q8]) hJ
      ·exact .quiet (uo 0 _ rfl (hk 0)) hJ
      ·exact .quiet (uo 17 _ rfl (hk 17)) hJ
      ·have h119:A0.tmps[119]?.getD undef=.int .i64 ((k:Int)+1):=hin 6 119
       exact .quiet (by simp [go_sem,h119,q0,q1,q2,q3,q4,q5,q6,q7,q8]) hJ
      ·have h118:A0.tmps[118]?.getD undef=.slice (some ⟨g,0,none⟩) n cap:=hin 5 118
       have h120:A0.tmps[120]?.getD undef=.int .i64 (k:Int):=hin 7 120
       exact .quiet (by simp [go_sem,h118,h120,q0,q1,q2,q3,q4,q5,q6,q7,q8]) hJ
      ·have h121:A0.tmps[121]?.getD undef=.pointer (some ⟨g,k * 3,none⟩):=hin 8 121
       obtain rfl:W=wd4:=hJ.1 (hμ (.inr (by kernel_rfl)))
       exact .quiet (vu 121 _ rfl vd ⟨g,k * 3,none⟩ y h121 HYr.out.1 Haty.out) hJ
      ·exact .quiet (uo 0 _ rfl (hk 0)) hJ
      ·exact .quiet (uo 17 _ rfl (hk 17)) hJ
      ·have h123:A0.tmps[123]?.getD undef=.slice (some ⟨g,0,none⟩) n cap:=hin 10 123
       have h124:A0.tmps[124]?.getD undef=.int .i64 ((k:Int)+1):=hin 11 124
       exact .quiet (by simp [go_sem,h123,h124,q0,q1,q2,q3,q4,q5,q6,q7,q8]) hJ
      ·have h125:A0.tmps[125]?.getD undef=.pointer (some ⟨g,(k+1) * 3,none⟩):=hin 12 125
       obtain rfl:W=wd4:=hJ.1 (hμ (.inr (by kernel_rfl)))
       exact .quiet (vu 125 _ rfl vd ⟨g,(k+1) * 3,none⟩ z h125 HZr.out.1 Hatz.out) hJ
      ·have h113:A0.tmps[113]?.getD undef=.slice (some ⟨g,0,none⟩) n cap:=hin 0 113
       have h114:A0.tmps[114]?.getD undef=.int .i64 ((k:Int)+1):=hin 1 114
       exact .quiet (by simp [go_sem,h113,h114,q0,q1,q2,q3,q4,q5,q6,q7,q8]) hJ
      ·have h122:A0.tmps[122]?.getD undef=.agg y.toArray:=hin 9 122
       have h127:A0.tmps[127]?.getD undef=.pointer (some ⟨g,(k+1) * 3,none⟩):=hin 14 127
       obtain rfl:W=wd4:=hJ.1 (hμ (.inl rfl))
       refine .skip (cq (.tmp 127) (.tmp 122) 42 rfl vd g ((k+1) * 3) 42 _ y (by simpa [Act.eval] using h127) (by simpa [Act.eval] using h122) HT4.out.blk HYr.out.1 (HT4.out.fit (by omega)) HYr.out.2) ⟨⟨fun h=>by cases d <;> simp at h,fun _=>HW5.out.symm⟩,rfl⟩
     simp only [putsL,Act.put,qk,qu,qy]
     obtain rfl:W6=W5:=hJ.2 rfl
     clear hJ HT4 HCh4 HW5 Hatz Haty
     refine AtN.list 16 17 (by kernel_rfl) ?_
     change wpList _ _ _ [_] _ _
     go_wp2_with fail
     change AtN _ _ _ 17 _ _
     refine AtN.list 17 18 (by kernel_rfl) ?_
     change wpList _ _ _ [_] _ _
     refine vf rfl (.tmp 128) (.tmp 126) 42 rfl vd g (k * 3) 42 ((e.set ((k+1)) y).flatten++rest).toArray z rfl rfl HT5.out.blk HZr.out.1 (HT5.out.fit (by omega)) HZr.out.2 ?_
     have HT6:=qq (HT5.out.set (i:=k) (cs:=z) (by omega) HZr.out)
     have HCh6:=qq (HCh5.out.setRow g (layA ((e.set ((k+1)) y).flatten++rest).toArray (k * 3) z) (fun _=>rfl))
     refine AtN.done rfl ?_
     clear HT5 HCh5
     simp only [Act.put]
     go_wp2_with fail
     go_roundw
     case rel=>exact ⟨k,_,by omega,by omega,by go_num,HP2.out,HM2.out,HV2.out,HT6.out,HCh6.out⟩
     case measure=>simp only [intOf];omega
    ·obtain rfl:k=i:=by omega
     have HF:=qq (HV.out.sorted HO.out Hx.out HSd.out hi hj HL.out HR.out)
     go_wp2_with fail
     go_end0
     exact ⟨rfl,e,HP.out,HM.out,HF.out,HTe.out,HCh.out⟩
def Merges (g n cap f:Nat) (lb:Array Value) (rest:List Value) (cf:List Value→List Value→Int) (sz:Nat):Prop:=
 ∀ (a m b:Nat) (w:World) (d:List (List Value)),b - a < sz→a < m→m < b→b≤n→Tab w g n d rest→CmpAt w g f lb cf d→Srt cf d a m→Srt cf d m b→
  Calls Tryz.prog 156 #[.slice (some ⟨g,0,none⟩) n cap,.int .i64 a,.int .i64 m,.int .i64 b,.func (.func f) #[] lb] w (Sorts w g n a b rest cf d)
def rotL_id {α:Type} {d:List α} {S m E:Nat} (h1:S≤m) (h2:m≤E) (h3:E≤d.length) (h:S=m∨E=m):rotL d S m E=d:=by
 apply uv
 intro p
 rw [iq h1 h2 h3]
 repeat' split
 all_goals first|rfl| (exfalso;omega)| (congr 1;omega)
def symGen (w:World) (g n cap a m b:Nat) (d:List (List Value)) (rest:List Value) (hT:Tab w g n d rest) (ham:a+1 < m) (hmb:m+1 < b) (hb:b≤n) (hn:n≤100000000) (hnc:n≤cap) (f:Nat) (lb:Array Value) (eg:Enters Tryz.prog f) (cf:List Value→List Value→Int) (ho:Ordr cf) (hc:CmpAt w g f lb cf d) (hs1:Srt cf d a m) (hs2:Srt cf d m b)
  (ih:Merges g n cap f lb rest cf (b - a)):
  Calls Tryz.prog 156 #[.slice (some ⟨g,0,none⟩) n cap,.int .i64 a,.int .i64 m,.int .i64 b,.func (.func f) #[] lb] w (Sorts w g n a b rest cf d):=by
 have egf:=eg
 unfold Enters at eg
 obtain ⟨mid,hmid⟩:∃ mid:Nat,mid=(a+b) / 2:=⟨_,rfl⟩
 have hmI:((a:Int)+(b:Int)) / 2=(mid:Int):=by omega
 obtain ⟨lo,hi,hlh⟩:∃ lo hi:Nat,(mid < m∧lo+b=mid+m∧hi=mid)∨(m≤mid∧lo=a∧hi=m):=by
  by_cases h:mid < m
  ·exact ⟨mid+m - b,_,.inl ⟨h,by omega,rfl⟩⟩
  ·exact ⟨_,_,.inr ⟨by omega,rfl,rfl⟩⟩
 obtain ⟨p0,hp0⟩:∃ p0:Nat,p0+1=mid+m:=⟨mid+m - 1,by omega⟩
 have g1:a≤lo:=by omega
 have g2:lo≤hi:=by omega
 have g3:hi≤m:=by omega
 have g4:p0+1≤b+lo:=by omega
 have g5:m+hi≤p0+1:=by omega
 have g6:a < mid:=by omega
 have g7:mid < b:=by omega
 have HO:=qq ho
 have HC:=qq hc
 have HT:=qq hT
 have HS1:=qq hs1
 have HS2:=qq hs2
 have IH:=qq ih
 have HmI:=qq hmI
 have HLH:=qq hlh
 have HP0:=qq hp0
 obtain ⟨L,hL⟩:∃ L:Nat→Prop,L=fun c=>∃ x y,d[c]? =some x∧d[p0 - c]? =some y∧Le cf x y:=⟨_,rfl⟩
 obtain ⟨R,hR⟩:∃ R:Nat→Prop,R=fun c=>∃ x y,d[c]? =some x∧d[p0 - c]? =some y∧cf y x < 0:=⟨_,rfl⟩
 have Hl:=qq hL
 have Hr:=qq hR
 have b0:(((m:Int) - (a:Int)) == 1)=false:=by rw [beq_eq_false_iff_ne];omega
 have b1:(((b:Int) - (m:Int)) == 1)=false:=by rw [beq_eq_false_iff_ne];omega
 clear hT hc ho hs1 hs2 ih hL hR hlh hmI hmid hp0
 go_enter Tryz.func156,Tryz.ntmps156
 go_upto_region 25 with fail
 rw [HmI.out]
 try simp only [b0,b1]
 clear b0 b1
 obtain ⟨bd,hbd⟩:∃ bd:Bool,decide ((mid:Int) < (m:Int))=bd:=⟨_,rfl⟩
 have Hbd:=qq hbd
 go_upto_if 140 with fail
 try rw [hbd]
 clear hbd
 go_cut [20,21] from 141 to 146 (fun c20 c21 wx=>c20=.int .i64 lo∧c21=.int .i64 hi∧wx=w)
 case first=>
  have hp0:=HP0.out
  have hbd:=Hbd.out
  rcases HLH.out with ⟨h1,h2,h3⟩| ⟨h1,h2,h3⟩
  ·obtain rfl:bd=true:=by rw [←hbd];exact decide_eq_true (by omega)
   clear hbd
   go_wp2_with fail
   go_meet
   exact ⟨congrArg (Value.int .i64) (by omega),congrArg (Value.int .i64) (by omega),rfl⟩
  ·obtain rfl:bd=false:=by rw [←hbd];exact decide_eq_false (by omega)
   clear hbd
   go_wp2_with fail
   go_meet
   exact ⟨congrArg (Value.int .i64) (by omega),congrArg (Value.int .i64) (by omega),rfl⟩
 case rest=>
  obtain ⟨rfl,rfl,hw⟩:=hcut
  obtain rfl:w=wc:=hw.symm
  clear Hbd
  have e1:(mid:Int)+(m:Int)=(p0:Int)+1:=by have:=HP0.out;omega
  rw [e1]
  clear e1
  go_wp2_with fail
  go_loopw [20,21] (fun u20 u21 wr=>∃ (i j:Nat),u20=.int .i64 i∧u21=.int .i64 j∧Bin L R lo hi i j∧New w wr) (fun u20 u21 _=>(intOf u21).toNat - (intOf u20).toNat)
  case atStart=>exact ⟨lo,hi,rfl,rfl,⟨qh _,g2,qh _,.inl rfl,.inl rfl⟩,Chg.refl _ _⟩
  case round=>
   obtain ⟨i,j,rfl,rfl,hB,hN⟩:=hrel
   have hi1:=hB.lo
   have hij:=hB.ij
   have hj1:=hB.hi
   have HB:=qq hB
   have HN:=qq hN
   clear hB hN
   by_cases hlt:i < j
   ·obtain ⟨h,hh⟩:∃ h:Nat,h=(i+j) / 2:=⟨_,rfl⟩
    have hhI:((i:Int)+(j:Int)) / 2=(h:Int):=by omega
    have hih:i≤h:=by omega
    have hhj:h < j:=by omega
    have HhI:=qq hhI
    clear hh hhI
    obtain ⟨z,hz⟩:∃ z:Nat,z=p0 - h:=⟨_,rfl⟩
    have hzp:z+h=p0:=by omega
    obtain ⟨x,hx,hxe,hxr⟩:=HT.out.cs (i:=h) (by omega)
    obtain ⟨y,hy,hye,hyr⟩:=HT.out.cs (i:=z) (by omega)
    obtain ⟨c,hcc⟩:=qdp (cf y x)
    have hcall:=HC.out y hye x hxe wr.drew ((HN.out.drew).mono (fun _ _ x=>x.elim))
    rw [hcc] at hcall
    have HTd:=qq (HT.out.chg HN.out.drew id)
    have Hcall:=qq hcall
    have Hcc:=qq hcc
    have Hx:=qq hx
    have Hy:=qq (show d[p0 - h]? =some y by rw [←hz];exact hy)
    have HXr:=qq hxr
    have HYr:=qq hyr
    have HNd:=qq HN.out.drew
    have Hatx:=qq (HTd.out.get hx)
    have Haty:=qq (HTd.out.get hy)
    have q1:(h:Int) < (n:Int):=by omega
    have q3:(z:Int) < (n:Int):=by omega
    have q4:h < n:=by omega
    have q5:z < n:=by omega
    have q6:IntKind.i64.wrap ((p0:Int) - (h:Int))=(z:Int):=by rw [IntKind.wrap_i64];omega
    clear hx hy hxe hye hxr hyr hcc hcall HTd HN hz
    go_upto_region 35 with fail
    rw [HhI.out]
    refine vj (by kernel_rfl) ?_
    generalize wr.drew=wd at Hcall HNd Hatx Haty⊢
    have q0:(0:Int)≤(h:Int):=by omega
    have q2:(0:Int)≤(z:Int):=by omega
    refine AtN.segQ2 0 11 (fun
     |0=>.func (.func f) #[] lb
     |1=>.slice (some ⟨g,0,none⟩) n cap
     |2=>.int .i64 p0
     |3=>.int .i64 h
     |4=>.int .i64 z
     |5=>.pointer (some ⟨g,z * 3,none⟩)
     |6=>.agg y.toArray
     |7=>.slice (some ⟨g,0,none⟩) n cap
     |8=>.int .i64 h
     |9=>.pointer (some ⟨g,h * 3,none⟩)
     |_=>.agg x.toArray)
     [(158,.func (.func f) #[] lb),(159,.slice (some ⟨g,0,none⟩) n cap),(160,.int .i64 p0),(161,.int .i64 h),(162,.int .i64 z),(163,.pointer (some ⟨g,z * 3,none⟩)),(164,.agg y.toArray),(165,.slice (some ⟨g,0,none⟩) n cap),(166,.int .i64 h),(167,.pointer (some ⟨g,h * 3,none⟩)),(168,.agg x.toArray)] (by kernel_rfl) (by kernel_rfl) (by kernel_rfl) (by kernel_rfl) rfl (fun i hn hi o ho A0 hin hk=>?_) ?_
    ·rcases (show i=0∨i=1∨i=2∨i=3∨i=4∨i=5∨i=6∨i=7∨i=8∨i=9∨i=10 by omega) with rfl|rfl|rfl|rfl|rfl|rfl|rfl|rfl|rfl|rfl|rfl<;>cases ho
     ·exact uo 4 _ rfl (hk 4)
     ·exact uo 0 _ rfl (hk 0)
     ·exact uo 22 _ rfl (hk 22)
     ·exact uo 23 _ rfl (hk 23)
     ·have h160:A0.tmps[160]?.getD undef=.int .i64 p0:=hin 2 160
      have h161:A0.tmps[161]?.getD undef=.int .i64 h:=hin 3 161
      exact by simp [go_sem,h160,h161,q6]
     ·have h159:A0.tmps[159]?.getD undef=.slice (some ⟨g,0,none⟩) n cap:=hin 1 159
      have h162:A0.tmps[162]?.getD undef=.int .i64 z:=hin 4 162
      exact by simp [go_sem,h159,h162,q0,q1,q2,q3,q4,q5]
     ·have h163:A0.tmps[163]?.getD undef=.pointer (some ⟨g,z * 3,none⟩):=hin 5 163
      exact vu 163 _ rfl vd ⟨g,z * 3,none⟩ y h163 HYr.out.1 Haty.out
     ·exact uo 0 _ rfl (hk 0)
     ·exact uo 23 _ rfl (hk 23)
     ·have h165:A0.tmps[165]?.getD undef=.slice (some ⟨g,0,none⟩) n cap:=hin 7 165
      have h166:A0.tmps[166]?.getD undef=.int .i64 h:=hin 8 166
      exact by simp [go_sem,h165,h166,q0,q1,q2,q3,q4,q5]
     ·have h167:A0.tmps[167]?.getD undef=.pointer (some ⟨g,h * 3,none⟩):=hin 9 167
      exact vu 167 _ rfl vd ⟨g,h * 3,none⟩ x h167 HXr.out.1 Hatx.out
    simp only [putsL,Act.put,qk,qu,qy]
    refine AtN.list 11 14 (by kernel_rfl) ?_
    change wpList _ _ _ [_,_,_] _ _
    go_wp2_with fail
    refine Hcall.out.mono ?_
    rintro e3 W3 ⟨rfl,hN3⟩
    have HN3:=qq (HNd.out.trans hN3 qdr)
    clear hN3 Hcall HNd Hatx Haty
    by_cases hcn:c < 0
    ·have hcd:decide (c < 0)=true:=decide_eq_true hcn
     have HB2:=qq (HB.out.down hih hhj (by rw [Hr.out];exact ⟨x,y,Hx.out,Hy.out,by rw [Hcc.out];exact hcn⟩))
     clear hcn
     go_wp2_with fail
     change AtN _ _ _ 14 _ _
     refine AtN.done rfl ?_
     go_wp2_with fail
     go_roundw
     case rel=>first|exact ⟨i,h,rfl,rfl,HB2.out,HN3.out⟩|exact ⟨HB2.out,HN3.out⟩
     case measure=>simp only [intOf];omega
    ·have hcd:decide (c < 0)=false:=decide_eq_false hcn
     have HB2:=qq (HB.out.up hih hhj (by rw [Hl.out];exact ⟨x,y,Hx.out,Hy.out,by unfold Le;rw [Hcc.out];exact hcn⟩))
     clear hcn
     go_wp2_with fail
     change AtN _ _ _ 14 _ _
     refine AtN.done rfl ?_
     go_wp2_with fail
     go_roundw
     case rel=>first|exact ⟨h+1,j,by go_num,rfl,HB2.out,HN3.out⟩|exact ⟨h+1,by go_num,HB2.out,HN3.out⟩
     case measure=>simp only [intOf];omega
   ·obtain rfl:i=j:=by omega
    obtain ⟨E,hE⟩:∃ E:Nat,E+i=p0+1:=⟨p0+1 - i,by omega⟩
    have hiE:(p0:Int)+1 - (i:Int)=(E:Int):=by omega
    have k1:m≤E:=by omega
    have k2:E≤b:=by omega
    have k3:a≤i:=by omega
    have k4:i≤m:=by omega
    have hmidE:mid=i+(E - m):=by have:=HP0.out;omega
    have hleft:i=a∨E=b∨∃ x y,d[i - 1]? =some x∧d[E]? =some y∧¬ cf y x < 0:=by
     have hp0:=HP0.out
     rcases HB.out.l with h|h
     ·rcases HLH.out with ⟨u1,u2,u3⟩| ⟨u1,u2,u3⟩
      ·exact .inr (.inl (by omega))
      ·exact .inl (by omega)
     ·by_cases hia:i=a
      ·exact .inl hia
      ·rw [Hl.out] at h
       obtain ⟨x,y,hx,hy,hc⟩:=h
       exact .inr (.inr ⟨x,y,hx,by rw [show E=p0 - (i - 1) by omega];exact hy,hc⟩)
    have hright:i=m∨E=m∨∃ x y,d[i]? =some x∧d[E - 1]? =some y∧cf y x < 0:=by
     have hp0:=HP0.out
     rcases HB.out.r with h|h
     ·rcases HLH.out with ⟨u1,u2,u3⟩| ⟨u1,u2,u3⟩
      ·exact .inr (.inl (by omega))
      ·exact .inl (by omega)
     ·rw [Hr.out] at h
      obtain ⟨x,y,hx,hy,hc⟩:=h
      exact .inr (.inr ⟨x,y,hx,by rw [show E - 1=p0 - i by omega];exact hy,hc⟩)
    have HSym:=qq (sym_turn HO.out HS1.out HS2.out (by rw [HT.out.len];exact hb) k3 k4 k1 k2 hmidE hleft hright)
    have HTi:=qq (HT.out.chg HN.out id)
    have HCi:=qq (show Chg w wr (fun k=>k=g) from HN.out.mono (fun _ _ x=>x.elim))
    have HhiE:=qq hiE
    have HmE:=qq hmidE
    clear hleft hright hmidE hlt hij HB HN HT HS1 HS2 hiE hE Hl Hr HP0 HLH
    clear hi1 hj1 g1 g2 g3 g4 g5
    obtain ⟨b1,hb1⟩:∃ b1:Bool,(decide (i < m)&&decide (m < E))=b1:=⟨_,rfl⟩
    obtain ⟨b2,hb2⟩:∃ b2:Bool,(decide (a < i)&&decide (i < mid))=b2:=⟨_,rfl⟩
    obtain ⟨b3,hb3⟩:∃ b3:Bool,(decide (mid < E)&&decide (E < b))=b3:=⟨_,rfl⟩
    have H1:=qq hb1
    have H2:=qq hb2
    have H3:=qq hb3
    clear hb1 hb2 hb3
    obtain ⟨d1,hd1⟩:=qdq (rotL d i m E)
    have HSym':=HSym
    rw [←hd1] at HSym
    have HD1:=qq hd1
    clear hd1 HSym'
    go_upto_region 39 with fail
    rw [HhiE.out]
    try rw [show wrap64 (E:Int)=(E:Int) from by unfold wrap64;omega]
    go_cut [185] from 178 to 185 (fun c wx=>c=.bool b1∧wx=wr)
    case first=>
     have h1:=H1.out
     by_cases u1:i < m
     ·have v1:decide ((i:Int) < (m:Int))=true:=decide_eq_true (by omega)
      by_cases u2:m < E
      ·have v2:decide ((m:Int) < (E:Int))=true:=decide_eq_true (by omega)
       obtain rfl:b1=true:=by rw [←h1];simp [u1,u2]
       clear h1
       go_wp2_with fail
       go_meet
       exact ⟨rfl,rfl⟩
      ·have v2:decide ((m:Int) < (E:Int))=false:=decide_eq_false (by omega)
       obtain rfl:b1=false:=by rw [←h1];simp [u2]
       clear h1
       go_wp2_with fail
       go_meet
       exact ⟨rfl,rfl⟩
     ·have v1:decide ((i:Int) < (m:Int))=false:=decide_eq_false (by omega)
      obtain rfl:b1=false:=by rw [←h1];simp [u1]
      clear h1
      go_wp2_with fail
      go_meet
      exact ⟨rfl,rfl⟩
    case rest=>
     obtain ⟨rfl,hw⟩:=hcut
     obtain rfl:wr=wc:=hw.symm
     go_upto_if 185 with fail
     go_cut [191] from 186 to 191 (fun c wx=>Tab wx g n d1 rest∧d1.Perm d∧Chg w wx (fun k=>k=g))
     case first=>
      cases b1 with
      |true=>
       have h1:=H1.out
       simp only [qt,decide_eq_true_eq] at h1
       have hrot:=rotRng wr g n cap i m E d rest HTi.out h1.1 h1.2 (by omega) hn hnc (.func (.func f) #[] lb)
       rw [←HD1.out] at hrot
       have Hrot:=qq hrot
       clear hrot h1
       go_wp2_with fail
       refine Hrot.out.mono ?_
       rintro e W ⟨rfl,hp,ht,hc⟩
       have HX:=qq (show Tab W g n d1 rest∧d1.Perm d∧Chg w W (fun k=>k=g) from ⟨ht,hp,HCi.out.trans hc (fun _ _ h=>h)⟩)
       clear hp ht hc
       go_wp2_with fail
       go_meet
       exact HX.out
      |false=>
       have h1:=H1.out
       have hid:d1=d:=by
        rw [HD1.out]
        refine rotL_id k4 k1 (by rw [HTi.out.len];omega) ?_
        by_cases u1:i < m
        ·right
         by_cases u2:m < E
         ·simp [u1,u2] at h1
         ·omega
        ·left;omega
       have HX:=qq (show Tab wr g n d1 rest∧d1.Perm d∧Chg w wr (fun k=>k=g) from ⟨by rw [hid];exact HTi.out,by rw [hid],HCi.out⟩)
       clear hid h1
       go_wp2_with fail
       go_meet
       exact HX.out
     case rest=>
      obtain ⟨ht1,hp1,hc1⟩:=hcut
      have HT1:=qq ht1
      have HP1:=qq hp1
      have HC1:=qq hc1
      clear ht1 hp1 hc1 HTi HCi
      have HL1:=qq (show d1.length=n from HT1.out.len)
      go_upto_region 41 with fail
      go_cut [199] from 192 to 199 (fun c wy=>c=.bool b2∧wy=wc)
      case first=>
       have h1:=H2.out
       by_cases u1:a < i
       ·have v1:decide ((a:Int) < (i:Int))=true:=decide_eq_true (by omega)
        by_cases u2:i < mid
        ·have v2:decide ((i:Int) < (mid:Int))=true:=decide_eq_true (by omega)
         obtain rfl:b2=true:=by rw [←h1];simp [u1,u2]
         clear h1
         go_wp2_with fail
         go_meet
         exact ⟨rfl,rfl⟩
        ·have v2:decide ((i:Int) < (mid:Int))=false:=decide_eq_false (by omega)
         obtain rfl:b2=false:=by rw [←h1];simp [u2]
         clear h1
         go_wp2_with fail
         go_meet
         exact ⟨rfl,rfl⟩
       ·have v1:decide ((a:Int) < (i:Int))=false:=decide_eq_false (by omega)
        obtain rfl:b2=false:=by rw [←h1];simp [u1]
        clear h1
        go_wp2_with fail
        go_meet
        exact ⟨rfl,rfl⟩
      case rest=>
       obtain ⟨rfl,hw⟩:=hcut
       obtain rfl:=hw
       go_upto_if 199 with fail
       go_cut [205] from 200 to 205 (fun c wx=>∃ d2,d2.Perm d1∧Mix d2 d1 a mid∧Srt cf d2 a mid∧Tab wx g n d2 rest∧Chg w wx (fun k=>k=g))
       case first=>
        cases b2 with
        |true=>
         have h1:=H2.out
         simp only [qt,decide_eq_true_eq] at h1
         have hrec:=IH.out a i mid _ d1 (by omega) h1.1 h1.2 (by omega) HT1.out ((HC.out.perm HP1.out).chg HC1.out) HSym.out.s1 HSym.out.s2
         have Hrec:=qq hrec
         clear hrec h1
         go_wp2_with fail
         refine Hrec.out.mono ?_
         rintro e W ⟨rfl,d2,hp2,hm2,hs2,ht2,hc2⟩
         have HX:=qq (show ∃ d2,d2.Perm d1∧Mix d2 d1 a mid∧Srt cf d2 a mid∧Tab W g n d2 rest∧Chg w W (fun k=>k=g) from ⟨d2,hp2,hm2,hs2,ht2,HC1.out.trans hc2 (fun _ _ h=>h)⟩)
         clear hp2 hm2 hs2 ht2 hc2
         go_wp2_with fail
         go_meet
         exact HX.out
        |false=>
         have h1:=H2.out
         have hmE:=HmE.out
         have hs2:Srt cf d1 a mid:=by
          by_cases u1:a < i
          ·by_cases u2:i < mid
           ·simp [u1,u2] at h1
           ·obtain rfl:mid=i:=by omega
            exact HSym.out.s1
          ·obtain rfl:i=a:=by omega
           exact HSym.out.s2
         have HX:=qq (show ∃ d2,d2.Perm d1∧Mix d2 d1 a mid∧Srt cf d2 a mid∧Tab _ g n d2 rest∧Chg w _ (fun k=>k=g) from ⟨d1,List.Perm.refl _,Mix.refl _ _ _,hs2,HT1.out,HC1.out⟩)
         clear h1 hs2 hmE
         go_wp2_with fail
         go_meet
         exact HX.out
       case rest=>
        obtain ⟨d2,hp2,hm2,hs2,ht2,hc2⟩:=hcut
        have HP2:=qq hp2
        have HM2:=qq hm2
        have HS2:=qq hs2
        have HT2:=qq ht2
        have HC2:=qq hc2
        clear hp2 hm2 hs2 ht2 hc2 HT1 HC1
        go_upto_region 43 with fail
        go_cut [213] from 206 to 213 (fun c wz=>c=.bool b3∧wz=wc)
        case first=>
         have h1:=H3.out
         by_cases u1:mid < E
         ·have v1:decide ((mid:Int) < (E:Int))=true:=decide_eq_true (by omega)
          by_cases u2:E < b
          ·have v2:decide ((E:Int) < (b:Int))=true:=decide_eq_true (by omega)
           obtain rfl:b3=true:=by rw [←h1];simp [u1,u2]
           clear h1
           go_wp2_with fail
           go_meet
           exact ⟨rfl,rfl⟩
          ·have v2:decide ((E:Int) < (b:Int))=false:=decide_eq_false (by omega)
           obtain rfl:b3=false:=by rw [←h1];simp [u2]
           clear h1
           go_wp2_with fail
           go_meet
           exact ⟨rfl,rfl⟩
         ·have v1:decide ((mid:Int) < (E:Int))=false:=decide_eq_false (by omega)
          obtain rfl:b3=false:=by rw [←h1];simp [u1]
          clear h1
          go_wp2_with fail
          go_meet
          exact ⟨rfl,rfl⟩
        case rest=>
         obtain ⟨rfl,hw⟩:=hcut
         obtain rfl:=hw
         have k5:mid≤E:=by have:=HmE.out;omega
         have h3s:=(HSym.out.s3).same HM2.out.2.1 (.inr (qh _))
         have h4s:=(HSym.out.s4).same HM2.out.2.1 (.inr k5)
         go_upto_if 213 with fail
         cases b3 with
         |true=>
          have h1:=H3.out
          simp only [qt,decide_eq_true_eq] at h1
          have hrec:=IH.out mid E b _ d2 (by omega) h1.1 h1.2 hb HT2.out ((HC.out.perm (HP2.out.trans HP1.out)).chg HC2.out) h3s h4s
          have Hrec:=qq hrec
          clear hrec h1 h3s h4s
          go_wp2_with fail
          refine Hrec.out.mono ?_
          rintro e W ⟨rfl,d3,hp3,hm3,hs3,ht3,hc3⟩
          have hd:=HSym.out.done (by omega) (by omega) HM2.out HS2.out hm3 hs3
          have HX:=qq (show ∃ d',d'.Perm d∧Mix d' d a b∧Srt cf d' a b∧Tab W g n d' rest∧Chg w W (fun k=>k=g) from ⟨d3,(hp3.trans HP2.out).trans HP1.out,hd.2,hd.1,ht3,HC2.out.trans hc3 (fun _ _ h=>h)⟩)
          clear hp3 hm3 hs3 ht3 hc3 hd
          go_wp2_with fail
          go_end0
          exact ⟨rfl,HX.out⟩
         |false=>
          have h1:=H3.out
          have hs3:Srt cf d2 mid b:=by
           by_cases u1:mid < E
           ·by_cases u2:E < b
            ·simp [u1,u2] at h1
            ·obtain rfl:E=b:=by omega
             exact h3s
           ·obtain rfl:mid=E:=by omega
            exact h4s
          have hd:=HSym.out.done (by omega) (by omega) HM2.out HS2.out (Mix.refl d2 mid b) hs3
          have HX:=qq (show ∃ d',d'.Perm d∧Mix d' d a b∧Srt cf d' a b∧Tab _ g n d' rest∧Chg w _ (fun k=>k=g) from ⟨d2,HP2.out.trans HP1.out,hd.2,hd.1,HT2.out,HC2.out⟩)
          clear h1 hs3 hd h3s h4s
          go_wp2_with fail
          go_end0
          exact ⟨rfl,HX.out⟩
def symMerge (g n cap f:Nat) (lb:Array Value) (rest:List Value) (cf:List Value→List Value→Int) (hn:n≤100000000) (hnc:n≤cap) (eg:Enters Tryz.prog f) (ho:Ordr cf):∀ sz,Merges g n cap f lb rest cf sz:=by
 intro sz
 induction sz with
 |zero=>exact fun a m b w d h=>absurd h (Nat.not_lt_zero _)
 |succ sz ih=>
  intro a m b w d hsz ham hmb hb hT hc hs1 hs2
  by_cases h1:m=a+1
  ·subst h1
   by_cases h2:b=a+2
   ·subst h2
    exact symOne w g n cap a (a+2) d rest hT (by omega) hb hn hnc f lb eg cf ho hc hs2
   ·exact symOne w g n cap a b d rest hT (by omega) hb hn hnc f lb eg cf ho hc hs2
  ·by_cases h2:b=m+1
   ·subst h2
    exact symTwo w g n cap a m d rest hT (by omega) hb hn hnc f lb eg cf ho hc hs1
   ·exact symGen w g n cap a m b d rest hT (by omega) (by omega) hb hn hnc f lb eg cf ho hc hs1 hs2 (fun a' m' b' w' d' h=>ih a' m' b' w' d' (by omega))
def qab (w:World) (g n cap:Nat) (d:List (List Value)) (rest:List Value) (hT:Tab w g n d rest) (hn:n≤100000000) (hnc:n≤cap) (f:Nat) (lb:Array Value) (eg:Enters Tryz.prog f) (cf:List Value→List Value→Int) (ho:Ordr cf) (hc:CmpAt w g f lb cf d):
  Calls Tryz.prog 124 #[.slice (some ⟨g,0,none⟩) n cap,.int .i64 n,.func (.func f) #[] lb] w (Sorts w g n 0 n rest cf d):=by
 have HO:=qq ho
 have HC:=qq hc
 have HT:=qq hT
 have EG:=qq eg
 have HM:=qq (symMerge g n cap f lb rest cf hn hnc eg ho)
 have hlen:d.length=n:=hT.len
 clear hT hc ho eg
 go_enter Tryz.func124,Tryz.ntmps124
 go_wp2_with fail
 go_loopw [7,8] (fun u7 u8 wr=>∃ (q a:Nat) (e:List (List Value)),a=q * 20∧a≤n∧u7=.int .i64 a∧u8=.int .i64 ((a+20:Nat):Int)∧e.Perm d∧Done cf e 20 a∧Tab wr g n e rest∧Chg w wr (fun k=>k=g)) (fun u7 _ _=>n - (intOf u7).toNat)
 case atStart=>exact ⟨0,0,d,rfl,qr _,rfl,rfl,List.Perm.refl _,Done.zero _ (by omega),HT.out,Chg.refl _ _⟩
 case round=>
  obtain ⟨q,a,e,hq,han,rfl,rfl,hp,hd,ht,hch⟩:=hrel
  have HP:=qq hp
  have HD:=qq hd
  have HTe:=qq ht
  have HCh:=qq hch
  have Hq:=qq hq
  clear hp hd ht hch hq
  by_cases hlt:a+20≤n
  ·have hins:=qbb wr g n cap a (a+20) e rest HTe.out (by omega) hlt hn hnc f lb EG.out cf HO.out ((HC.out.perm HP.out).chg HCh.out)
   have Hins:=qq hins
   clear hins
   go_wp2_with fail
   refine Hins.out.mono ?_
   rintro e1 W ⟨rfl,e2,hp2,hm2,hs2,ht2,hc2⟩
   have HP2:=qq (hp2.trans HP.out)
   have HD2:=qq (HD.out.step Hq.out (by omega) hm2 hs2)
   have HT2:=qq ht2
   have HC2:=qq (HCh.out.trans hc2 (fun _ _ h=>h))
   have Hq2:=qq (show a+20=(q+1) * 20 by have:=Hq.out;omega)
   clear hp2 hm2 hs2 ht2 hc2 Hins
   go_wp2_with fail
   go_roundw
   case rel=>exact ⟨q+1,a+20,e2,Hq2.out,hlt,by go_num,by go_num,HP2.out,HD2.out,HT2.out,HC2.out⟩
   case measure=>simp only [intOf];omega
  ·have hins:=qbb wr g n cap a n e rest HTe.out han (qh _) hn hnc f lb EG.out cf HO.out ((HC.out.perm HP.out).chg HCh.out)
   have Hins:=qq hins
   clear hins
   go_wp2_with fail
   refine Hins.out.mono ?_
   rintro e1 W ⟨rfl,e2,hp2,hm2,hs2,ht2,hc2⟩
   have hd2:Done cf e2 20 a:=fun r hr=>(HD.out r hr).same hm2.2.1 (.inl hr)
   have HP2:=qq (hp2.trans HP.out)
   have HB2:=qq (dh Hq.out (by omega) hd2 (by omega) hs2:Blks cf e2 20 n 0)
   have HT2:=qq ht2
   have HC2:=qq (HCh.out.trans hc2 (fun _ _ h=>h))
   clear hp2 hm2 hs2 ht2 hc2 Hins hd2 HP HD HTe HCh Hq
   go_wp2_with fail
   go_loopw [6] (fun u6 wr=>∃ (s:Nat) (e:List (List Value)),20≤s∧(s=20∨s≤2 * n)∧u6=.int .i64 s∧e.Perm d∧Blks cf e s n 0∧Tab wr g n e rest∧Chg w wr (fun k=>k=g)) (fun u6 _=>n - (intOf u6).toNat)
   case atStart=>exact ⟨20,e2,qh _,.inl rfl,by go_num,HP2.out,HB2.out,HT2.out,HC2.out⟩
   case round=>
    clear HP2 HB2 HT2 HC2
    obtain ⟨s,e,hs20,hsn,rfl,hp,hb,ht,hch⟩:=hrel
    have HP:=qq hp
    have HB:=qq hb
    have HTe:=qq ht
    have HCh:=qq hch
    clear hp hb ht hch
    by_cases hlt2:s < n
    ·go_wp2_with fail
     go_loopw [7,8] (fun u7 u8 wr=>∃ (q a:Nat) (e:List (List Value)),a=q * (2 * s)∧a≤n∧u7=.int .i64 a∧u8=.int .i64 ((a+2 * s:Nat):Int)∧e.Perm d∧Done cf e (2 * s) a∧Blks cf e s n a∧Tab wr g n e rest∧Chg w wr (fun k=>k=g)) (fun u7 _ _=>n - (intOf u7).toNat)
     case atStart=>exact ⟨0,0,e,by simp,qr _,rfl,by go_num,HP.out,Done.zero _ (by omega),HB.out,HTe.out,HCh.out⟩
     case round=>
      clear HP HB HTe HCh
      obtain ⟨q,a,e,hq,han,rfl,rfl,hp,hd,hb,ht,hch⟩:=hrel
      have HP:=qq hp
      have HD:=qq hd
      have HB:=qq hb
      have HTe:=qq ht
      have HCh:=qq hch
      have Hq:=qq hq
      clear hp hd hb ht hch hq
      by_cases hlt:a+2 * s≤n
      ·have h2:=HB.out.two Hq.out hlt
       have hmer:=HM.out (2 * s+1) a (a+s) (a+2 * s) wr e (by omega) (by omega) (by omega) hlt HTe.out ((HC.out.perm HP.out).chg HCh.out) h2.1 h2.2
       have Hmer:=qq hmer
       clear hmer h2
       go_wp2_with fail
       refine Hmer.out.mono ?_
       rintro e1 W ⟨rfl,e2,hp2,hm2,hs2,ht2,hc2⟩
       have HP2:=qq (hp2.trans HP.out)
       have HD2:=qq (HD.out.step Hq.out (by omega) hm2 hs2)
       have HB2:=qq (HB.out.step hm2)
       have HT2:=qq ht2
       have HC2:=qq (HCh.out.trans hc2 (fun _ _ h=>h))
       have Hq2:=qq (show a+2 * s=(q+1) * (2 * s) by rw [uz, ←Hq.out];omega)
       clear hp2 hm2 hs2 ht2 hc2 Hmer
       go_wp2_with fail
       go_roundw
       case rel=>exact ⟨q+1,a+2 * s,e2,Hq2.out,hlt,by go_num,by go_num,HP2.out,HD2.out,HB2.out,HT2.out,HC2.out⟩
       case measure=>simp only [intOf];omega
      ·have h2:=HB.out.end_ Hq.out (by omega)
       by_cases hm:a+s < n
       ·have hmer:=HM.out (n+1) a (a+s) n wr e (by omega) (by omega) hm (qh _) HTe.out ((HC.out.perm HP.out).chg HCh.out) (h2.1.less (qh _) (by omega)) h2.2
        have Hmer:=qq hmer
        clear hmer h2
        go_wp2_with fail
        refine Hmer.out.mono ?_
        rintro e1 W ⟨rfl,e2,hp2,hm2,hs2,ht2,hc2⟩
        have hd2:Done cf e2 (2 * s) a:=fun r hr=>(HD.out r hr).same hm2.2.1 (.inl hr)
        have HP2:=qq (hp2.trans HP.out)
        have HB2:=qq (dh Hq.out (by omega) hd2 (by omega) hs2:Blks cf e2 (2 * s) n 0)
        have HT2:=qq ht2
        have HC2:=qq (HCh.out.trans hc2 (fun _ _ h=>h))
        clear hp2 hm2 hs2 ht2 hc2 hd2 Hmer
        go_wp2_with fail
        go_roundw
        case rel=>exact ⟨2 * s,e2,by omega,.inr (by omega),by go_num,HP2.out,HB2.out,HT2.out,HC2.out⟩
        case measure=>simp only [intOf];omega
       ·have HB2:=qq (dh Hq.out (by omega) HD.out (by omega) (h2.1.less (qh _) (by omega)):Blks cf e (2 * s) n 0)
        clear h2
        go_wp2_with fail
        go_roundw
        case rel=>exact ⟨2 * s,e,by omega,.inr (by omega),by go_num,HP.out,HB2.out,HTe.out,HCh.out⟩
        case measure=>simp only [intOf];omega
    ·have HF:=qq (HB.out.whole (by omega))
     have HMx:=qq (show Mix e d 0 n from ⟨by rw [HTe.out.len,hlen],fun p hp=>by
      have h1:n≤p:=by omega
      rw [jm (by rw [HTe.out.len];exact h1),jm (by rw [hlen];exact h1)],fun p x h1 h2 h3=>by
      have hm:=HP.out.mem_iff.1 (qf h3)
      obtain ⟨q,hq,rfl⟩:=zt hm
      exact ⟨q,qr _,by rw [←hlen];exact hq,qz hq⟩⟩)
     go_wp2_with fail
     go_end0
     exact ⟨rfl,e,HP.out,HMx.out,HF.out,HTe.out,HCh.out⟩
def sortRows (w:World) (g n cap:Nat) (d:List (List Value)) (rest:List Value) (hT:Tab w g n d rest) (hn:n≤100000000) (hnc:n≤cap) (f:Nat) (lb:Array Value) (eg:Enters Tryz.prog f) (cf:List Value→List Value→Int) (ho:Ordr cf) (hc:CmpAt w g f lb cf d):
  Calls Tryz.prog 83 #[.slice (some ⟨g,0,none⟩) n cap,.func (.func f) #[] lb] w (Sorts w g n 0 n rest cf d):=by
 have hs:=qq (qab w g n cap d rest hT hn hnc f lb eg cf ho hc)
 clear hT ho hc eg
 go_enter Tryz.func83,Tryz.ntmps83
 go_wp2_with fail
 refine hs.out.mono ?_
 rintro e W ⟨rfl,h⟩
 have H:=qq h
 clear h
 go_wp2_with fail
 go_end0
 exact ⟨rfl,H.out⟩
def EqAt (w:World) (g f:Nat) (lb:Array Value) (q:List Value→List Value→Bool) (d:List (List Value)):Prop:=∀ x∈d,∀ y∈d,Says Tryz.prog w (fun k=>k=g) f lb #[.agg x.toArray,.agg y.toArray] (.bool (q x y))
def Cpts (w:World) (g cap:Nat) (css:List (List Value)) (e:Ending) (w':World):Prop:=
 e=.returned (.slice (some ⟨g,0,none⟩) css.length cap)∧(∃ rest,Tab w' g css.length css rest)∧Chg w w' (fun k=>k=g)
def cptRows (w:World) (g n cap:Nat) (d:List (List Value)) (rest:List Value) (hT:Tab w g n d rest) (hn:n≤100000000) (hnc:n≤cap) (f:Nat) (lb:Array Value) (eg:Enters Tryz.prog f) (q:List Value→List Value→Bool) (hq:EqAt w g f lb q d):
  Calls Tryz.prog 86 #[.slice (some ⟨g,0,none⟩) n cap,.func (.func f) #[] lb] w (Cpts w g cap (cptN q d n)):=by
 unfold Enters at eg
 have hlen:d.length=n:=hT.len
 have HQ:=qq hq
 have HT:=qq hT
 clear hT hq
 go_enter Tryz.func86,Tryz.ntmps86
 by_cases h2:n < 2
 ·have hd:decide ((n:Int) < 2)=true:=decide_eq_true (by omega)
  have HE:=qq (show cptN q d n=d by
   rw [mu (by omega) (fun i hi=>by unfold keepB;rw [show i=0 by omega];rfl), ←hlen,List.take_length])
  go_wp2_with fail
  go_ret
  rw [HE.out]
  exact ⟨congrArg (fun z=>Ending.returned (.slice (some ⟨g,0,none⟩) z cap)) hlen.symm,⟨rest,by rw [hlen];exact HT.out⟩,Chg.refl _ _⟩
 ·have hd:decide ((n:Int) < 2)=false:=decide_eq_false (by omega)
  go_wp2_with fail
  go_loopw [5] (fun u5 wr=>∃ k:Nat,1≤k∧k≤n∧u5=.int .i64 k∧(∀ i,i < k→keepB q d i=true)∧New w wr) (fun u _=>n - (intOf u).toNat)
  case atStart=>exact ⟨1,qh _,by omega,by go_num,fun i hi=>by unfold keepB;rw [show i=0 by omega];rfl,Chg.refl _ _⟩
  case round=>
   obtain ⟨k,hk1,hkn,rfl,hall,hN⟩:=hrel
   have HAll:=qq hall
   have HN:=qq hN
   clear hall hN
   by_cases hlt:k < n
   ·obtain ⟨j,rfl⟩:∃ j,k=j+1:=⟨k - 1,by omega⟩
    obtain ⟨y,hy,hye,hyr⟩:=HT.out.cs (i:=j+1) (by omega)
    obtain ⟨x,hx,hxe,hxr⟩:=HT.out.cs (i:=j) (by omega)
    obtain ⟨b,hb⟩:=qdp (q y x)
    have hcall:=HQ.out y hye x hxe wr.drew ((HN.out.drew).mono (fun _ _ x=>x.elim))
    rw [hb] at hcall
    have hkb:=lq (q:=q) hy hx
    rw [hb] at hkb
    have HTd:=qq (HT.out.chg HN.out.drew id)
    have Hcall:=qq hcall
    have Hkb:=qq hkb
    have Hy:=qq hy
    have HYr:=qq hyr
    have HXr:=qq hxr
    have HNd:=qq HN.out.drew
    have Hatx:=qq (HTd.out.get hx)
    have Haty:=qq (HTd.out.get hy)
    clear hx hy hxe hye hxr hyr hcall HTd HN hkb hb
    go_upto_region 6 with fail
    refine vj (by kernel_rfl) ?_
    generalize wr.drew=wd at Hcall HNd Hatx Haty⊢
    have q0:(0:Int)≤(j:Int)+1:=by omega
    have q1:(j:Int)+1 < (n:Int):=by omega
    have q2:(0:Int)≤(j:Int):=by omega
    have q3:(j:Int) < (n:Int):=by omega
    have q4:j+1 < n:=by omega
    have q5:j < n:=by omega
    have q6:((j:Int)+1).toNat=j+1:=by omega
    have q7:IntKind.i64.wrap (j:Int)=(j:Int):=by rw [IntKind.wrap_i64];omega
    have q8:IntKind.i64.wrap ((j:Int)+1 - 1)=(j:Int):=by rw [IntKind.wrap_i64];omega
    refine AtN.segQ2 0 10 (fun
     |0=>.func (.func f) #[] lb
     |1=>.slice (some ⟨g,0,none⟩) n cap
     |2=>.int .i64 ((j:Int)+1)
     |3=>.pointer (some ⟨g,(j+1) * 3,none⟩)
     |4=>.agg y.toArray
     |5=>.slice (some ⟨g,0,none⟩) n cap
     |6=>.int .i64 ((j:Int)+1)
     |7=>.int .i64 (j:Int)
     |8=>.pointer (some ⟨g,j * 3,none⟩)
     |_=>.agg x.toArray)
     [(18,.func (.func f) #[] lb),(19,.slice (some ⟨g,0,none⟩) n cap),(20,.int .i64 ((j:Int)+1)),(21,.pointer (some ⟨g,(j+1) * 3,none⟩)),(22,.agg y.toArray),(23,.slice (some ⟨g,0,none⟩) n cap),(24,.int .i64 ((j:Int)+1)),(25,.int .i64 (j:Int)),(26,.pointer (some ⟨g,j * 3,none⟩)),(27,.agg x.toArray)] (by kernel_rfl) (by kernel_rfl) (by kernel_rfl) (by kernel_rfl) rfl (fun i hn hi o ho A0 hin hk=>?_) ?_
    ·rcases (show i=0∨i=1∨i=2∨i=3∨i=4∨i=5∨i=6∨i=7∨i=8∨i=9 by omega) with rfl|rfl|rfl|rfl|rfl|rfl|rfl|rfl|rfl|rfl<;>cases ho
     ·exact uo 1 _ rfl (hk 1)
     ·exact uo 0 _ rfl (hk 0)
     ·exact uo 5 _ rfl (hk 5)
     ·have h19:A0.tmps[19]?.getD undef=.slice (some ⟨g,0,none⟩) n cap:=hin 1 19
      have h20:A0.tmps[20]?.getD undef=.int .i64 ((j:Int)+1):=hin 2 20
      exact by simp [go_sem,h19,h20,q0,q1,q2,q3,q4,q5,q6,q7,q8]
     ·have h21:A0.tmps[21]?.getD undef=.pointer (some ⟨g,(j+1) * 3,none⟩):=hin 3 21
      exact vu 21 _ rfl vd ⟨g,(j+1) * 3,none⟩ y h21 HYr.out.1 Haty.out
     ·exact uo 0 _ rfl (hk 0)
     ·exact uo 5 _ rfl (hk 5)
     ·have h24:A0.tmps[24]?.getD undef=.int .i64 ((j:Int)+1):=hin 6 24
      exact by simp [go_sem,h24,q0,q1,q2,q3,q4,q5,q6,q7,q8]
     ·have h23:A0.tmps[23]?.getD undef=.slice (some ⟨g,0,none⟩) n cap:=hin 5 23
      have h25:A0.tmps[25]?.getD undef=.int .i64 (j:Int):=hin 7 25
      exact by simp [go_sem,h23,h25,q0,q1,q2,q3,q4,q5,q6,q7,q8]
     ·have h26:A0.tmps[26]?.getD undef=.pointer (some ⟨g,j * 3,none⟩):=hin 8 26
      exact vu 26 _ rfl vd ⟨g,j * 3,none⟩ x h26 HXr.out.1 Hatx.out
    simp only [putsL,Act.put,qk,qu,qy]
    refine AtN.list 10 11 (by kernel_rfl) ?_
    change wpList _ _ _ [_] _ _
    go_wp2_with fail
    refine Hcall.out.mono ?_
    rintro e3 W3 ⟨rfl,hN3⟩
    have HN3:=qq (HNd.out.trans hN3 qdr)
    clear hN3 Hcall HNd Hatx Haty
    cases b with
    |false=>
     have HAll2:=qq (show ∀ i,i < j+1+1→keepB q d i=true from fun i hi=>by
      by_cases h:i < j+1
      ·exact HAll.out i h
      ·rw [show i=j+1 by omega,Hkb.out];rfl)
     go_wp2_with fail
     change AtN _ _ _ 11 _ _
     refine AtN.done rfl ?_
     go_wp2_with fail
     go_roundw
     case rel=>exact ⟨j+1+1,by omega,by omega,by go_num,HAll2.out,HN3.out⟩
     case measure=>simp only [intOf];omega
    |true=>
     have HT3:=qq (HT.out.chg HN3.out id)
     have hC0:cptN q d (j+1+1)=d.take (j+1):=by
      rw [mm Hy.out,if_neg (by rw [Hkb.out];decide),jr,mu (by omega) HAll.out]
     have HC0:=qq hC0
     have hcj:¬ cap=j+1:=by omega
     have hcj2:j+1≤n:=by omega
     have q9:(j:Int)+1≤(n:Int):=by omega
     have q10:(n:Int)≤(cap:Int):=by omega
     clear hC0
     go_wp2_with fail
     change AtN _ _ _ 11 _ _
     refine AtN.done rfl ?_
     go_wp2_with fail
     go_loopw [5,7] (fun u5 u7 wr=>∃ (c:Nat) (C:List (List Value)),1≤c∧j+1+c≤n∧C=cptN q d (j+1+c)∧C.length < j+1+c∧u5=.int .i64 C.length∧u7=.int .i64 c∧Tab wr g n (C++d.drop C.length) rest∧Chg w wr (fun k=>k=g)) (fun _ u7 _=>n - (intOf u7).toNat)
     case atStart=>
      refine ⟨1,d.take (j+1),qh _,by omega,HC0.out.symm,by rw [ql];omega,?_,by go_num,?_,HN3.out.mono (fun _ _ x=>x.elim)⟩
      ·rw [ql,hlen,Nat.min_eq_left hcj2]
       go_num
      ·rw [ql,hlen,Nat.min_eq_left hcj2,zm]
       exact HT3.out
     case round=>
      clear HT3 HC0 HN3 q0 q1 q2 q3 q4 q5 q6 q7 q8 HXr HYr Hy Hkb HAll
      obtain ⟨c,C,hc1,hcn,hC,hCl,rfl,rfl,ht,hch⟩:=hrel
      have HC:=qq hC
      have HTe:=qq ht
      have HCh:=qq hch
      obtain ⟨i,hi⟩:=qdp (C.length)
      rw [hi] at hCl HTe⊢
      have Hi:=qq hi
      clear hC ht hch hi
      by_cases hlt:j+1+c < n
      ·have r1:(c:Int) < ((n - (j+1):Nat):Int):=by omega
       obtain ⟨t0,htt⟩:∃ t0,t0+1=j+1+c:=⟨j+c,by omega⟩
       obtain ⟨y,hy,hye,hyr⟩:=HT.out.cs (i:=t0+1) (by omega)
       obtain ⟨x,hx,hxe,hxr⟩:=HT.out.cs (i:=t0) (by omega)
       have hgy:(C++d.drop i)[t0+1]? =some y:=by
        rw [qi (by rw [Hi.out];omega),Hi.out,jb,show i+(t0+1 - i)=t0+1 by omega];exact hy
       have hgx:(C++d.drop i)[t0]? =some x:=by
        rw [qi (by rw [Hi.out];omega),Hi.out,jb,show i+(t0 - i)=t0 by omega];exact hx
       obtain ⟨b,hb⟩:=qdp (q y x)
       have hcall:=HQ.out y hye x hxe wr.drew HCh.out.drew
       rw [hb] at hcall
       have hkb:=lq (q:=q) hy hx
       rw [hb] at hkb
       have hsucc:=mm (q:=q) hy
       rw [hkb,htt, ←HC.out] at hsucc
       have HTd:=qq (HTe.out.chg ((Chg.refl wr (fun _=>False)).drew) id)
       have HSu:=qq hsucc
       have Hcall:=qq hcall
       have HYr:=qq hyr
       have HXr:=qq hxr
       have HChd:=qq HCh.out.drew
       have ea:(t0+1) * 3=(j+1) * 3+c * 3:=by omega
       have eb:t0 * 3=(j+1) * 3+(c - 1) * 3:=by omega
       have hatx:=HTd.out.get hgx
       have haty:=HTd.out.get hgy
       rw [eb] at hatx
       rw [ea] at haty
       have Hatx:=qq hatx
       have Haty:=qq haty
       clear hx hy hxe hye hxr hyr hcall HTe hkb hb hgx hgy hsucc hatx haty ea eb
       go_upto_region 11 with fail
       refine vj (by kernel_rfl) ?_
       generalize wr.drew=wd at Hcall HChd Hatx Haty HTd⊢
       have q0:(0:Int)≤(c:Int):=by omega
       have q1:(0:Int)≤(c:Int) - 1:=by omega
       have q2:(c:Int) - 1 < ((n - (j+1):Nat):Int):=by omega
       have q3:c < n - (j+1):=by omega
       have q4:c - 1 < n - (j+1):=by omega
       have q5:((c:Int) - 1).toNat=c - 1:=by omega
       have q6:IntKind.i64.wrap ((c:Int) - 1)=((c - 1:Nat):Int):=by rw [IntKind.wrap_i64];omega
       have q7:(0:Int)≤((c - 1:Nat):Int):=by omega
       have q8:((c - 1:Nat):Int) < ((n - (j+1):Nat):Int):=by omega
       refine AtN.segQ2 0 10 (fun
        |0=>.func (.func f) #[] lb
        |1=>.slice (some ⟨g,(j+1) * 3,none⟩) (n - (j+1)) (cap - (j+1))
        |2=>.int .i64 c
        |3=>.pointer (some ⟨g,(j+1) * 3+c * 3,none⟩)
        |4=>.agg y.toArray
        |5=>.slice (some ⟨g,(j+1) * 3,none⟩) (n - (j+1)) (cap - (j+1))
        |6=>.int .i64 c
        |7=>.int .i64 ((c - 1:Nat):Int)
        |8=>.pointer (some ⟨g,(j+1) * 3+(c - 1) * 3,none⟩)
        |_=>.agg x.toArray)
        [(38,.func (.func f) #[] lb),(39,.slice (some ⟨g,(j+1) * 3,none⟩) (n - (j+1)) (cap - (j+1))),(40,.int .i64 c),(41,.pointer (some ⟨g,(j+1) * 3+c * 3,none⟩)),(42,.agg y.toArray),(43,.slice (some ⟨g,(j+1) * 3,none⟩) (n - (j+1)) (cap - (j+1))),(44,.int .i64 c),(45,.int .i64 ((c - 1:Nat):Int)),(46,.pointer (some ⟨g,(j+1) * 3+(c - 1) * 3,none⟩)),(47,.agg x.toArray)] (by kernel_rfl) (by kernel_rfl) (by kernel_rfl) (by kernel_rfl) rfl (fun i hn hi o ho A0 hin hk=>?_) ?_
       ·rcases (show i=0∨i=1∨i=2∨i=3∨i=4∨i=5∨i=6∨i=7∨i=8∨i=9 by omega) with rfl|rfl|rfl|rfl|rfl|rfl|rfl|rfl|rfl|rfl<;>cases ho
        ·exact uo 1 _ rfl (hk 1)
        ·exact uo 6 _ rfl (hk 6)
        ·exact uo 7 _ rfl (hk 7)
        ·have h39:A0.tmps[39]?.getD undef=.slice (some ⟨g,(j+1) * 3,none⟩) (n - (j+1)) (cap - (j+1)):=hin 1 39
         have h40:A0.tmps[40]?.getD undef=.int .i64 c:=hin 2 40
         exact by simp [go_sem,h39,h40,q0,r1,q3,q4,q7,q8]
        ·have h41:A0.tmps[41]?.getD undef=.pointer (some ⟨g,(j+1) * 3+c * 3,none⟩):=hin 3 41
         exact vu 41 _ rfl vd ⟨g,(j+1) * 3+c * 3,none⟩ y h41 HYr.out.1 Haty.out
        ·exact uo 6 _ rfl (hk 6)
        ·exact uo 7 _ rfl (hk 7)
        ·have h44:A0.tmps[44]?.getD undef=.int .i64 c:=hin 6 44
         exact by simp [go_sem,h44,q6]
        ·have h43:A0.tmps[43]?.getD undef=.slice (some ⟨g,(j+1) * 3,none⟩) (n - (j+1)) (cap - (j+1)):=hin 5 43
         have h45:A0.tmps[45]?.getD undef=.int .i64 ((c - 1:Nat):Int):=hin 7 45
         exact by simp [go_sem,h43,h45,q0,r1,q3,q4,q7,q8]
        ·have h46:A0.tmps[46]?.getD undef=.pointer (some ⟨g,(j+1) * 3+(c - 1) * 3,none⟩):=hin 8 46
         exact vu 46 _ rfl vd ⟨g,(j+1) * 3+(c - 1) * 3,none⟩ x h46 HXr.out.1 Hatx.out
       simp only [putsL,Act.put,qk,qu,qy]
       refine AtN.list 10 12 (by kernel_rfl) ?_
       change wpList _ _ _ [_,_] _ _
       go_wp2_with fail
       refine Hcall.out.mono ?_
       rintro e3 W3 ⟨rfl,hN3⟩
       have HT3:=qq (HTd.out.chg hN3 id)
       have HCh3:=qq (HChd.out.trans hN3 (fun _ _ x=>x.elim))
       have Haty3:=qq (Haty.out.chg hN3 id)
       clear hN3 Hcall HTd HChd Hatx Haty
       cases b with
       |true=>
        have HS2:=qq (show C=cptN q d (j+1+(c+1)) by have:=HSu.out;simp only [Bool.not_true,Bool.false_eq_true,if_false,jr] at this;rw [←this];congr 1)
        clear HSu
        go_wp2_with fail
        change AtN _ _ _ 12 _ _
        refine AtN.done rfl ?_
        go_wp2_with fail
        go_roundw
        case rel=>exact ⟨c+1,C,by omega,by omega,HS2.out,by rw [Hi.out];omega,by rw [Hi.out],by go_num,by rw [Hi.out];exact HT3.out,HCh3.out⟩
        case measure=>simp only [intOf];omega
       |false=>
        have HS2:=qq (show C++[y]=cptN q d (j+1+(c+1)) by have:=HSu.out;simp only [Bool.not_false,if_true] at this;rw [←this];congr 1)
        clear HSu
        have hset:(C++d.drop i).set i y=(C++[y])++d.drop (i+1):=by
         rw [List.set_append_right _ _ (by rw [Hi.out];exact qh _),Hi.out,yh,jg (by omega),qy,qo,List.singleton_append]
        have hT4:=HT3.out.set (i:=i) (cs:=y) (by omega) HYr.out
        rw [hset] at hT4
        obtain ⟨cells,hcells⟩:=qdq (((C++d.drop i).flatten++rest).toArray)
        rw [←hcells] at hT4
        have HT4:=qq hT4
        have HCh4:=qq (HCh3.out.setRow g (layA cells (i * 3) y) (fun _=>rfl))
        have Hl2:=qq (show (C++[y]).length=i+1 by rw [qg,Hi.out];rfl)
        have u0:(i:Int) < (n:Int):=by omega
        have u1:i < n:=by omega
        have Hyl:=qq HYr.out.1
        have Hyo:=qq HYr.out.2
        have hft:=HT3.out.fit (i:=i) (by omega)
        have hbk:=HT3.out.blk
        rw [←hcells] at hft hbk
        have Hft:=qq hft
        have Hbk:=qq hbk
        clear hset hT4 hft hbk hcells
        go_wp2_with fail
        change AtN _ _ _ 12 _ _
        refine AtN.done rfl ?_
        go_wp2_with (first| ((with_reducible refine vq rfl (.tmp 54) 42 rfl vd ⟨g,(j+1) * 3+c * 3,none⟩ y ?_ Hyl.out Haty3.out ?_);exact rfl)| ((with_reducible refine vf rfl (.tmp 56) (.tmp 55) 42 rfl vd g (i * 3) 42 cells y ?_ ?_ Hbk.out Hyl.out Hft.out Hyo.out ?_);exact rfl;exact rfl))
        go_roundw
        case rel=>exact ⟨c+1,C++[y],by omega,by omega,HS2.out,by rw [Hl2.out];omega,by rw [Hl2.out];go_num,by go_num,by rw [Hl2.out];exact HT4.out,HCh4.out⟩
        case measure=>simp only [intOf];omega
      ·have hcc:j+1+c=n:=by omega
       have hCn:=HC.out
       rw [hcc] at hCn
       obtain ⟨Z,hZ,hcl⟩:=sw elRow wr 0 g (i * 3) (n - i) (cap - i) ((C++d.drop i).flatten++rest).toArray 42 HTe.out.blk (by
        have:=xz HTe.out.k3
        rw [zl,qg,this,HTe.out.len]
        omega)
       have hfin:Tab (wr.setRow g (((C++d.drop i).flatten++rest).toArray.toList.take (i * 3)++Z++((C++d.drop i).flatten++rest).toArray.toList.drop (i * 3+(n - i) * 3)).toArray) g i C (Z++rest):=by
        have hk:∀ c∈C,c.length=3:=fun c hc=>HTe.out.k3 c (ux _ hc)
        have hfl:=xz hk
        have hfa:=xz HTe.out.k3
        rw [HTe.out.len] at hfa
        refine ⟨?_,Hi.out,fun c hc=>HTe.out.row c (ux _ hc)⟩
        have:=HTe.out.blk.set (((C++d.drop i).flatten++rest).toArray.toList.take (i * 3)++Z++((C++d.drop i).flatten++rest).toArray.toList.drop (i * 3+(n - i) * 3)).toArray
        have e1:((C++d.drop i).flatten++rest).toArray.toList.take (i * 3)=C.flatten:=by
         simp only [List.flatten_append,qo]
         rw [jy (by rw [hfl,Hi.out];exact qh _),qc (by rw [hfl,Hi.out];exact qh _)]
        have e2:((C++d.drop i).flatten++rest).toArray.toList.drop (i * 3+(n - i) * 3)=rest:=by
         rw [show i * 3+(n - i) * 3=((C++d.drop i).flatten).length by rw [hfa];omega]
         simp only []
         exact List.drop_left
        rw [e1,e2] at this⊢
        rw [←qo]
        exact this
       have hchf:=HCh.out.setRow g (((C++d.drop i).flatten++rest).toArray.toList.take (i * 3)++Z++((C++d.drop i).flatten++rest).toArray.toList.drop (i * 3+(n - i) * 3)).toArray (fun _=>rfl)
       generalize (((C++d.drop i).flatten++rest).toArray.toList.take (i * 3)++Z++((C++d.drop i).flatten++rest).toArray.toList.drop (i * 3+(n - i) * 3)).toArray=cells at hcl hfin hchf
       have HChF:=qq hchf
       clear hchf
       have HFin:=qq hfin
       have HCn:=qq hCn
       have d0:¬ cap=i:=by omega
       have d1:(i:Int)≤(n:Int):=by omega
       have d2:(i:Int)≤(cap:Int):=by omega
       have d3:i≤cap:=by omega
       have d4:i≤n:=by omega
       have r1:decide ((c:Int) < ((n - (j+1):Nat):Int))=false:=decide_eq_false (by omega)
       clear hfin hCn hZ
       go_wp2_with fail
       go_ret
       refine ⟨?_,?_,HChF.out⟩
       ·rw [←HCn.out,Hi.out]
        rfl
       ·rw [←HCn.out,Hi.out]
        exact ⟨_,HFin.out⟩
   ·have HE:=qq (show cptN q d n=d by rw [mu (by omega) (fun i hi=>HAll.out i (by omega)), ←hlen,List.take_length])
    go_wp2_with fail
    go_ret
    rw [HE.out]
    exact ⟨congrArg (fun z=>Ending.returned (.slice (some ⟨g,0,none⟩) z cap)) hlen.symm,⟨rest,by rw [hlen];exact HT.out.chg HN.out id⟩,HN.out.mono (fun _ _ x=>x.elim)⟩
def ClonePostRow (w:World) (css:List (List Value)) (e:Ending) (w':World):Prop:=
 ∃ v',e=.returned v'∧Own w' w.heap.size 42 3 v' css∧New w w'
def et (w:World) (n c:Nat):Calls Tryz.prog 68 #[.slice none n c] w (ClonePostRow w []):=by
 have hnil:=fun w=>ug (P:=Tryz.prog) w 31 42 none n c 0 0 elRow.und
 go_enter Tryz.func68,Tryz.ntmps68
 go_wp2_with fail
 go_ret
 exact ⟨_,rfl,Own.nil _ _ _ _,Chg.refl _ _⟩
def ao (w:World) (a:Addr) (n c:Nat) (css:List (List Value)) (hn:n=css.length) (hrows:RowsAt w a 3 css) (h1:∀ cs∈css,∀ u∈cs,u.oneCell'=true) (hb:n * 48≤140737488355328) (ha:a.block < w.heap.size):
  Calls Tryz.prog 68 #[.slice (some a) n c] w (ClonePostRow w css):=by
 have hsome:=fun w=>ug (P:=Tryz.prog) w 31 42 (some a) n c 0 0 elRow.und
 obtain ⟨w1,hw1⟩:=qdq (w.alloc (.cells #[] 42))
 have hc1:New w w1:=by rw [hw1];exact (Chg.refl w _).alloc _
 have hk:∀ cs∈css,cs.length=3:=fun cs hc=>by
  obtain ⟨i,hi,rfl⟩:=zt hc
  exact (hrows i _ (qz hi)).1
 have hown1:w1.ownsRow w.heap.size 42 3 (.slice (some ⟨w.heap.size,0,none⟩) 0 0) 0 []:=
  ⟨by simp,.inr ⟨w.heap.size,0,#[],rfl,qh _,by rw [hw1];exact heap_alloc_new w _,qh _,qr _,by simp,by simp⟩⟩
 obtain ⟨v',w',hrun,hown',hgr,_,_⟩:=elRow.append w1 31 w.heap.size _ 0 [] hown1 a n c css.flatten (by rw [xz hk,hn]) (fun j u hj=>by
   have hlt:j < css.flatten.length:=(qv.1 hj).1
   rw [xz hk] at hlt
   have hq:j / 3 < css.length:=ur (by rw [jf];exact hlt)
   have hr:=hrows (j / 3) _ (qz hq)
   have hjr:j % 3 < (css[j / 3]).length:=by rw [hr.1];exact Nat.mod_lt _ (by omega)
   have hu:css.flatten[j / 3 * 3+j % 3]? =some (css[j / 3][j % 3]):=xl hk (qz hq) (qz hjr)
   have hjj:j / 3 * 3+j % 3=j:=by rw [jf];exact un j 3
   rw [hjj] at hu
   rw [hu] at hj
   have hcell:=hr.2 (j % 3) _ (qz hjr)
   rw [add_add,hjj] at hcell
   rw [hc1.cell (by rw [xr];exact ha) id,hcell]
   exact hj) (fun u hu=>by
    obtain ⟨cs,hcs,hu⟩:=List.mem_flatten.1 hu
    exact h1 cs hcs u hu) (by unfold maxLen;omega) (by omega) hc1.size
 simp only [jn,jq] at hown'
 have hfin:ClonePostRow w css (.returned v') w':=by
  refine ⟨v',rfl,⟨by rw [←hn];exact hown',hk⟩,hc1.trans (Chg.of_grown hgr) (fun k hk h=>?_)⟩
  simp only [Value.ownBlock,Option.some.injEq] at h
  omega
 have Hrun:=qq hrun
 have Hfin:=qq hfin
 have HW:=qq hw1
 clear hrun hfin hown' hgr hown1 hrows h1 hc1 hk hn hw1
 go_enter Tryz.func68,Tryz.ntmps68
 go_wp2_with (rw [←HW.out];(with_reducible refine xu rfl (.tmp 5) (.tmp 6) 31 31 rfl ?_ ?_ Hrun.out ?_);exact rfl;exact rfl)
 go_ret
 exact Hfin.out
def im (w:World) (A:Option Addr) (n c:Nat) (css:List (List Value)) (hn:n=css.length) (hrows:0 < css.length→∃ a,A=some a∧RowsAt w a 3 css) (hA:∀ a,A=some a→a.block < w.heap.size) (h1:∀ cs∈css,∀ u∈cs,u.oneCell'=true) (hb:n * 48≤140737488355328):
  Calls Tryz.prog 68 #[.slice A n c] w (ClonePostRow w css):=by
 cases A with
 |none=>
  have h0:css=[]:=by
   cases css with
   |nil=>rfl
   |cons x l=>
    obtain ⟨a,h,_⟩:=hrows (by simp)
    cases h
  subst h0
  exact et w n c
 |some a=>
  refine ao w a n c css hn ?_ h1 hb (hA a rfl)
  intro i cs hi
  obtain ⟨a',he,hr⟩:=hrows (by have:=(qv.1 hi).1;omega)
  injection he with he
  subst he
  exact hr i cs hi
def ClonePostValue (w:World) (css:List (List Value)) (e:Ending) (w':World):Prop:=
 ∃ v',e=.returned v'∧Own w' w.heap.size 62 4 v' css∧New w w'
def tt (w:World) (n c:Nat):Calls Tryz.prog 47 #[.slice none n c] w (ClonePostValue w []):=by
 have hnil:=fun w=>ug (P:=Tryz.prog) w 40 62 none n c 0 0 fz.und
 go_enter Tryz.func47,Tryz.ntmps47
 go_wp2_with fail
 go_ret
 exact ⟨_,rfl,Own.nil _ _ _ _,Chg.refl _ _⟩
def sh (w:World) (a:Addr) (n c:Nat) (css:List (List Value)) (hn:n=css.length) (hrows:RowsAt w a 4 css) (h1:∀ cs∈css,∀ u∈cs,u.oneCell'=true) (hb:n * 56≤140737488355328) (ha:a.block < w.heap.size):
  Calls Tryz.prog 47 #[.slice (some a) n c] w (ClonePostValue w css):=by
 have hsome:=fun w=>ug (P:=Tryz.prog) w 40 62 (some a) n c 0 0 fz.und
 obtain ⟨w1,hw1⟩:=qdq (w.alloc (.cells #[] 62))
 have hc1:New w w1:=by rw [hw1];exact (Chg.refl w _).alloc _
 have hk:∀ cs∈css,cs.length=4:=fun cs hc=>by
  obtain ⟨i,hi,rfl⟩:=zt hc
  exact (hrows i _ (qz hi)).1
 have hown1:w1.ownsRow w.heap.size 62 4 (.slice (some ⟨w.heap.size,0,none⟩) 0 0) 0 []:=
  ⟨by simp,.inr ⟨w.heap.size,0,#[],rfl,qh _,by rw [hw1];exact heap_alloc_new w _,qh _,qr _,by simp,by simp⟩⟩
 obtain ⟨v',w',hrun,hown',hgr,_,_⟩:=fz.append w1 40 w.heap.size _ 0 [] hown1 a n c css.flatten (by rw [xz hk,hn]) (fun j u hj=>by
   have hlt:j < css.flatten.length:=(qv.1 hj).1
   rw [xz hk] at hlt
   have hq:j / 4 < css.length:=ur (by rw [jf];exact hlt)
   have hr:=hrows (j / 4) _ (qz hq)
   have hjr:j % 4 < (css[j / 4]).length:=by rw [hr.1];exact Nat.mod_lt _ (by omega)
   have hu:css.flatten[j / 4 * 4+j % 4]? =some (css[j / 4][j % 4]):=xl hk (qz hq) (qz hjr)
   have hjj:j / 4 * 4+j % 4=j:=by rw [jf];exact un j 4
   rw [hjj] at hu
   rw [hu] at hj
   have hcell:=hr.2 (j % 4) _ (qz hjr)
   rw [add_add,hjj] at hcell
   rw [hc1.cell (by rw [xr];exact ha) id,hcell]
   exact hj) (fun u hu=>by
    obtain ⟨cs,hcs,hu⟩:=List.mem_flatten.1 hu
    exact h1 cs hcs u hu) (by unfold maxLen;omega) (by omega) hc1.size
 simp only [jn,jq] at hown'
 have hfin:ClonePostValue w css (.returned v') w':=by
  refine ⟨v',rfl,⟨by rw [←hn];exact hown',hk⟩,hc1.trans (Chg.of_grown hgr) (fun k hk h=>?_)⟩
  simp only [Value.ownBlock,Option.some.injEq] at h
  omega
 have Hrun:=qq hrun
 have Hfin:=qq hfin
 have HW:=qq hw1
 clear hrun hfin hown' hgr hown1 hrows h1 hc1 hk hn hw1
 go_enter Tryz.func47,Tryz.ntmps47
 go_wp2_with (rw [←HW.out];(with_reducible refine xu rfl (.tmp 5) (.tmp 6) 40 40 rfl ?_ ?_ Hrun.out ?_);exact rfl;exact rfl)
 go_ret
 exact Hfin.out
def fa (w:World) (A:Option Addr) (n c:Nat) (css:List (List Value)) (hn:n=css.length) (hrows:0 < css.length→∃ a,A=some a∧RowsAt w a 4 css) (hA:∀ a,A=some a→a.block < w.heap.size) (h1:∀ cs∈css,∀ u∈cs,u.oneCell'=true) (hb:n * 56≤140737488355328):
  Calls Tryz.prog 47 #[.slice A n c] w (ClonePostValue w css):=by
 cases A with
 |none=>
  have h0:css=[]:=by
   cases css with
   |nil=>rfl
   |cons x l=>
    obtain ⟨a,h,_⟩:=hrows (by simp)
    cases h
  subst h0
  exact tt w n c
 |some a=>
  refine sh w a n c css hn ?_ h1 hb (hA a rfl)
  intro i cs hi
  obtain ⟨a',he,hr⟩:=hrows (by have:=(qv.1 hi).1;omega)
  injection he with he
  subst he
  exact hr i cs hi
end Go.Proofs.YtbpgfnbhihklnaaGreat
