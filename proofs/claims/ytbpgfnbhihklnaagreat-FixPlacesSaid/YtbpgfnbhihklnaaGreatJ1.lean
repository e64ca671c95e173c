/- Part 1 of what stands beneath. -/
import Derived.WalkKit
import Derived.WalkSpells
import Derived.WalkLawsBesides
import Derived.Deep.RegionLaw
import Derived.Deep.AppendLies
import Derived.Deep.QuietTactic
import Derived.BigQuiet
import Derived.Lib.Overlaps
import Derived.Lib.Hide
import Derived.StillTailTactics
import Derived.Maps.AppendAt
import Derived.Shelf.Abstract
import Derived.Test.YtbpgfnbhihklnaaGreatRows
import Derived.ProofKit
import Derived.OpenShut
import Derived.Carry
import Derived.Deep.Slices
import Derived.Deep.Fields
import Derived.Deep.Strs
import Derived.Test.YtbpgfnbhihklnaaGreatProg
import Derived.Lib.Bytealg
set_option maxHeartbeats 8000000
set_option maxRecDepth 100000
set_option linter.all false
namespace Go.Proofs.YtbpgfnbhihklnaaGreat
def qdp.{u} {α:Sort u} (a:α):∃ b,a=b:=⟨_,rfl⟩
def qdq.{u} {α:Sort u} (a:α):∃ b,b=a:=⟨_,rfl⟩
def qdr.{u} {α:Sort u} {β:α→Prop} {γ:α→Prop} (a:α) (_:β a) (x:γ a):γ a:=x
def qq:=@Lib.hid
def qz:=@List.getElem?_eq_getElem
def qj:=@List.getElem?_cons_zero
def qx:=@List.getElem?_toArray
def qk:=@List.setIfInBounds_toArray
def qw:=@List.getElem?_cons_succ
def qv:=@List.getElem?_eq_some_iff
def qy:=@List.set_cons_zero
def qu:=@List.set_cons_succ
def qg:=@List.length_append
def qh:=@Nat.le_refl
def qf:=@List.mem_of_getElem?
def qd:=@List.length_map
def qp:=@List.mem_cons
def qb:=@Nat.le_trans
def qc:=@List.take_of_length_le
def qm:=@List.not_mem_nil
def qn:=@List.mem_singleton
def ql:=@List.length_take
def qr:=@Nat.zero_le
def qt:=@Bool.and_eq_true
def qa:=@List.getElem?_map
def qe:=@List.getElem?_append_left
def qi:=@List.getElem?_append_right
def qo:=@List.append_assoc
def zq:=@List.zip_cons_cons
def zz:=@List.zip_nil_right
def zj:=@List.zip_nil_left
def zk:=@List.mem_append
def zw:=@List.length_drop
def zv:=@List.all_eq_true
def zu:=@List.mem_range
def zg:=@Bool.or_eq_true
def zh:=@List.mem_cons_of_mem
def zf:=@List.length_cons
def zd:=@Nat.lt_of_lt_of_le
def zp:=@List.flatMap_append
def zb:=@List.mem_cons_self
def zc:=@List.mem_filter
def zm:=@List.take_append_drop
def zl:=@List.size_toArray
def zr:=@List.mem_filterMap
def zt:=@List.getElem_of_mem
def za:=@Array.length_toList
def ze:=@List.eq_nil_of_length_eq_zero
def zi:=@List.mem_map
def zo:=@Array.getElem?_eq_some_iff
def jq:=@List.nil_append
def jz:=@List.getElem?_of_mem
def jx:=@List.getElem?_set
def jk:=@List.length_set
def jw:=@List.map_append
def jv:=@List.length_dropLast
def jy:=@List.take_append_of_le_length
def ju:=@List.mem_flatMap
def jg:=@List.drop_eq_getElem_cons
def jh:=@Array.getElem?_eq_getElem
def jf:=@Nat.mul_comm
def jd:=@List.length_filterMap_le
def jp:=@Bool.false_ne_true
def jb:=@List.getElem?_drop
def jc:=@List.length_filter_le
def jm:=@List.getElem?_eq_none
def jn:=@Nat.zero_add
def jl:=@Nat.lt_or_ge
def jr:=@List.append_nil
def js:=@List.cons_append
def je:=@List.mem_of_mem_take
def jo:=@List.drop_of_length_le
def yq:=@List.getElem?_take
def yz:=@List.filterMap_append
def yj:=@List.length_nil
def yx:=@List.getD_eq_getElem?_getD
def yk:=@Int.le_refl
def yw:=@Array.replicate_succ
def yv:=@Array.replicate_zero
def yy:=@Nat.mul_le_mul_right
def yu:=@List.getElem?_zip_eq_some
def yg:=@List.getElem?_eq_none_iff
def yh:=@Nat.sub_self
def yf:=@List.findIdx?_eq_some_iff_getElem
def yd:=@List.append_toArray
def yp:=@List.length_singleton
def ym:=@Array.getD_eq_getD_getElem?
def yn:=@List.pairwise_cons
def yl:=@List.length_pos_of_mem
def yr:=@List.mem_or_eq_of_mem_set
def yt:=@List.push_toArray
def ye:=@Classical.choose_spec
def yi:=@List.map_cons
def yo:=@Nat.zero_mul
def uq:=@List.dropLast_subset
def uz:=@Nat.add_mul
def uj:=@List.length_eraseIdx
def ux:=@List.mem_append_left
def uw:=@List.contains_eq_mem
def uv:=@List.ext_getElem?
def uy:=@List.findIdx?_eq_none_iff
def ug:=@Lib.run_eql_slice_nil
def uh:=@List.find?_eq_none
def uf:=@List.filter_append
def ud:=@List.dropLast_concat_getLast
def ub:=@List.filter_eq_nil_iff
def uc:=@Int.tdiv_eq_ediv_of_nonneg
def um:=@List.set_eq_take_append_cons_drop
def un:=@Nat.div_add_mod
def ul:=@List.flatMap_cons
def ur:=@Nat.div_lt_of_lt_mul
def ua:=@List.mem_of_mem_drop
def ue:=@Bool.not_eq_true'
open Go.RowKit
structure Chg (w w':World) (T:Nat→Prop):Prop where
 os:w'.os=w.os
 tape:w'.tape=w.tape
 output:w'.output=w.output
 size:w.heap.size≤w'.heap.size
 block:∀ k,k < w.heap.size→¬ T k→w'.heap[k]? =w.heap[k]?
abbrev New (w w':World):Prop:=Chg w w' (fun _=>False)
section chg
variable {w w' w1 w2:World} {T T':Nat→Prop}
def Chg.refl (w:World) (T:Nat→Prop):Chg w w T:=⟨rfl,rfl,rfl,qh _,fun _ _ _=>rfl⟩
def Chg.trans (h:Chg w w1 T) (h':Chg w1 w2 T') (ht:∀ k,k < w.heap.size→T' k→T k):Chg w w2 T:=
 ⟨h'.os.trans h.os,h'.tape.trans h.tape,h'.output.trans h.output,qb h.size h'.size,fun k hk hn=>
  (h'.block k (zd hk h.size) (fun x=>hn (ht k hk x))).trans (h.block k hk hn)⟩
def Chg.mono (h:Chg w w1 T) (ht:∀ k,k < w.heap.size→T k→T' k):Chg w w1 T':=
 ⟨h.os,h.tape,h.output,h.size,fun k hk hn=>h.block k hk fun x=>hn (ht k hk x)⟩
def Chg.alloc (h:Chg w w1 T) (o:Obj):Chg w (w1.alloc o) T:=
 h.trans (T':=fun _=>False) ⟨rfl,rfl,rfl,by simp,fun k hk _=>Below.heap_alloc _ _ _ hk⟩ (fun _ _ x=>x.elim)
def Chg.drew (h:Chg w w1 T):Chg w w1.drew T:=⟨h.os,h.tape,h.output,h.size,h.block⟩
def Chg.drewN (h:Chg w w1 T) (n:Nat):Chg w (w1.drewN n) T:=⟨h.os,h.tape,h.output,h.size,h.block⟩
def Chg.setRow (h:Chg w w1 T) (g:Nat) (cs:Array Value) (hg:g < w.heap.size→T g):Chg w (w1.setRow g cs) T:=
 h.trans (T':=fun k=>k=g) ⟨rfl,rfl,rfl,by simp,fun k _ hk=>setRow_other w1 g k cs hk⟩ (fun k hk e=>by subst e;exact hg hk)
def Chg.setCell (h:Chg w w1 T) (p:Addr) (u:Value) (hg:p.block < w.heap.size→T p.block):Chg w (w1.setCell p u) T:=
 h.trans (T':=fun k=>k=p.block) ⟨rfl,rfl,rfl,by simp [World.setCell],fun k _ hk=>Below.heap_setCell _ _ _ _ hk⟩ (fun k hk e=>by subst e;exact hg hk)
def Chg.of_grown {row:Option Nat} (h:w.grownBy w' row):Chg w w' (fun k=>some k=row):=⟨h.os,h.tape,h.output,h.size,fun k hk hn=>h.block k hk hn⟩
def Chg.to_grown {row:Option Nat} (h:Chg w w' (fun k=>some k=row)):w.grownBy w' row:=⟨h.os,h.tape,h.output,h.size,fun k hk hn=>h.block k hk hn⟩
def Chg.below {B:Nat} (h:Chg w w' T) (hB:B≤w.heap.size) (ht:∀ k,k < B→¬ T k):Below B w w':=⟨h.os,h.tape,h.output,h.size,fun k hk=>h.block k (zd hk hB) (ht k hk)⟩
def Chg.cell (h:Chg w w' T) {a:Addr} (ha:a.block < w.heap.size) (hn:¬ T a.block):w'.cell? a=w.cell? a:=World.cell?_of_block (h.block _ ha hn)
def Chg.cellS (h:Chg w w' T) {a:Addr} {v:Value} (hc:w.cell? a=some v) (hn:¬ T a.block):w'.cell? a=some v:=(h.cell (World.block_lt_of_cell? w a hc) hn).trans hc
end chg
def xf {w:World} {g:Nat} {o:Obj} (h:w.heap[g]? =some o):g < w.heap.size:=(zo.1 h).1
def Blk (w:World) (g:Nat) (t:TypeId) (cs:Array Value):Prop:=w.heap[g]? =some (.cells cs t (0,0))
section blk
variable {w w':World} {g:Nat} {t:TypeId} {cs:Array Value} {T:Nat→Prop}
def Blk.lt (h:Blk w g t cs):g < w.heap.size:=xf h
def Blk.cell (h:Blk w g t cs) (i:Nat):w.cell? ⟨g,i,none⟩=cs[i]? :=cell_of_row w g i cs t (0,0) h
def Blk.frozen (h:Blk w g t cs) (i:Nat):w.frozen? ⟨g,i,none⟩=false:=frozen_of_row w g i cs t h
def Blk.chg (h:Blk w g t cs) (hc:Chg w w' T) (hn:¬ T g):Blk w' g t cs:=(hc.block g h.lt hn).trans h
def Blk.alloc (h:Blk w g t cs) (o:Obj):Blk (w.alloc o) g t cs:=(Below.heap_alloc w o g h.lt).trans h
def Blk.new (w:World) (t:TypeId) (cs:Array Value):Blk (w.alloc (.cells cs t)) w.heap.size t cs:=heap_alloc_new w _
def Blk.set (h:Blk w g t cs) (ds:Array Value):Blk (w.setRow g ds) g t ds:=setRow_heap w g cs ds t _ h
def Blk.other (h:Blk w g t cs) {g':Nat} (hne:g≠g') (ds:Array Value):Blk (w.setRow g' ds) g t cs:=(setRow_other w g' g ds hne).trans h
def Blk.setCell (h:Blk w g t cs) (i:Nat) (u:Value):Blk (w.setCell ⟨g,i,none⟩ u) g t (cs.setIfInBounds i u):=by
 unfold Blk at h⊢
 simp [World.setCell,Array.getElem?_modify,h]
def Blk.far (h:Blk w g t cs) {p:Addr} (hp:g≠p.block) (u:Value):Blk (w.setCell p u) g t cs:=(Below.heap_setCell w p u g hp).trans h
def Blk.ne {g':Nat} {t':TypeId} {cs':Array Value} (h:Blk w g t cs) (h':Blk w g' t' cs') (hne:t≠t'):g≠g':=by
 rintro rfl
 unfold Blk at h h'
 rw [h] at h'
 injection h' with h'
 injection h' with _ ht
 exact hne ht
end blk
structure ElT (P:Program) (t e:TypeId) (k bytes:Nat) (zs:List Value):Prop where
 und:P.underlying t=some (.slice e)
 info:∃ i z,P.info? e=some i∧i.zero=some z∧i.size=k∧i.bytes=bytes∧z.cells.toList=zs∧zs.length=k
 pos:0 < k
 one:∀ u∈zs,u.oneCell'=true
def ElT.mk' {P:Program} {t e:TypeId} {k bytes:Nat} {z:Value} (h:P.underlying t=some (.slice e)) (hi:(P.info? e).map (fun i=>(i.zero,i.size,i.bytes))=some (some z,k,bytes))
  (hz:z.cells.toList.length=k) (hk:0 < k) (h1:∀ u∈z.cells.toList,u.oneCell'=true):ElT P t e k bytes z.cells.toList:=by
 obtain ⟨i,a,b,c,d⟩:=info_parts hi
 exact ⟨h,⟨i,z,a,b,c,d,rfl,hz⟩,hk,h1⟩
section runs
variable {P:Program} {t e:TypeId} {k bytes:Nat} {zs:List Value} (hE:ElT P t e k bytes zs)
include hE
def ElT.zeros (n:Nat):∃ Z:Array Value,Z.size=n * k∧(∀ u∈Z.toList,u.oneCell'=true)∧∀ z:Value,z.cells.toList=zs→Builtin.zeroCells z.cells n=Z:=by
 obtain ⟨i,z,_,_,_,_,hz,hl⟩:=hE.info
 refine ⟨Builtin.zeroCells z.cells n,?_,?_,fun z' hz'=>?_⟩
 ·have:z.cells.size=k:=by rw [←za,hz,hl]
  simp [Builtin.zeroCells,this]
 ·intro u hu
  have hzs:z.cells.size=k:=by rw [←za,hz,hl]
  simp only [Builtin.zeroCells,Array.toList_map,zi] at hu
  obtain ⟨j,hj,rfl⟩:=hu
  have hlt:j % z.cells.size < z.cells.size:=Nat.mod_lt _ (by rw [hzs];exact hE.pos)
  rw [getElem!_pos z.cells _ hlt]
  exact hE.one _ (by rw [←hz];simp)
 ·have:z'.cells=z.cells:=by
   apply Array.ext'
   rw [hz,hz']
  rw [this]
def da (w:World) (ty:TypeId) (g o dLen dCap:Nat) (a:Addr) (sLen sCap:Nat) (cur:Array Value) (tb:TypeId) (cs:List Value)
  (hg:w.heap[g]? =some (.cells cur tb (0,0))) (m:Nat) (hm:Nat.min sLen dLen=m) (hn:cs.length=m * k)
  (hsrc:∀ j v,cs[j]? =some v→w.cell? (a.add j)=some v) (hfit:o+cs.length≤cur.size) (h1:∀ v∈cs,v.oneCell'=true):
  (Builtin.copy_ #[t,t] ty #[.slice (some ⟨g,o,none⟩) dLen dCap,.slice (some a) sLen sCap]).run P w=
   .ok (goInt m) (w.setRow g (cur.toList.take o++cs++cur.toList.drop (o+cs.length)).toArray):=by
 obtain ⟨i,z,hi,hz,hs,hb,_,_⟩:=hE.info
 have hf:=run_firstCells_some (P:=P) w i.size m a sLen sCap cs (by rw [hs];exact hn) hsrc
 have hst:=run_storeCells_at P g o tb cs 0 cur w hg (by simpa using hfit) h1
 simp only [Nat.add_zero] at hst
 simp [Builtin.copy_,run_underlying hE.und,sizeOf,typeInfo,hi,Builtin.lenOf,hm,hf,hst]
def sw (w:World) (ty:TypeId) (g o n c:Nat) (cur:Array Value) (tb:TypeId) (hg:w.heap[g]? =some (.cells cur tb (0,0))) (hfit:o+n * k≤cur.size):
  ∃ Z:List Value,Z.length=n * k∧(Builtin.clear_ #[t] ty #[.slice (some ⟨g,o,none⟩) n c]).run P w=
   .ok (.tuple #[]) (w.setRow g (cur.toList.take o++Z++cur.toList.drop (o+n * k)).toArray):=by
 obtain ⟨i,z,hi,hz,hs,hb,hzz,hzl⟩:=hE.info
 obtain ⟨Z,hZ,hZ1,hZe⟩:=hE.zeros n
 refine ⟨Z.toList,by simpa using hZ,?_⟩
 have hst:=run_storeCells_at P g o tb Z.toList 0 cur w hg (by simp [hZ];omega) hZ1
 simp only [Nat.add_zero,za,hZ] at hst
 cases n with
 |zero=>
  have:Z.toList=[]:=ze (by simp [hZ])
  simp [Builtin.clear_,run_underlying hE.und,this]
  rw [setRow_self w g cur tb (0,0) hg]
 |succ n=>simp [Builtin.clear_,run_underlying hE.und,zeroValue,typeInfo,hi,hz,hZe z hzz,hst]
def nh (w:World) (ty tI:TypeId) (ik:P.underlying tI=some (.int .i64)) (g i cap:Nat) (l:Nat) (hl:0 < l) (olds:List Value) (hlo:olds.length=i * k)
  (holds:∀ j v,olds[j]? =some v→w.cell? ((⟨g,0,none⟩:Addr).add j)=some v) (hgr:cap < i+l) (hb:(i+l) * bytes≤140737488355328) (hm:i+l≤maxLen):
  ∃ (C:Nat) (Z:List Value),i+l≤C∧C≤maxLen∧Z.length=(C - i) * k∧(∀ u∈Z,u.oneCell'=true)∧(Builtin.append_ #[t,tI] ty #[.slice (some ⟨g,0,none⟩) i cap,.int .i64 l]).run P w=
   .ok (.slice (some ⟨w.heap.size,0,none⟩) (i+l) C) (w.drew.alloc (.cells (olds++Z).toArray e)):=by
 obtain ⟨inf,z,hi,hz,hs,hby,hzz,hzl⟩:=hE.info
 have hzc:z.cells.size=k:=by rw [←za,hzz,hzl]
 have hge:=grownCap_ge w (i+l) cap e
 have hle:=grownCap_le_maxLen w (i+l) cap e hm
 obtain ⟨Z1,hZ1,hZ1o,hZe1⟩:=hE.zeros l
 obtain ⟨Z2,hZ2,hZ2o,hZe2⟩:=hE.zeros (grownCap w (i+l) cap e - (i+l))
 refine ⟨grownCap w (i+l) cap e,Z1.toList++Z2.toList,hge,hle,?_,?_,?_⟩
 ·simp [hZ1,hZ2, ←uz]
  congr 1
  omega
 ·intro u hu
  rcases zk.1 hu with h|h
  ·exact hZ1o u h
  ·exact hZ2o u h
 have hfirst:=run_firstCells_some (P:=P) w.drew inf.size i ⟨g,0,none⟩ i cap olds (by rw [hs];exact hlo) (by simpa using holds)
 have hm':=hm
 unfold maxLen at hm'
 have hlb:l * bytes≤140737488355328:=qb (yy _ (by omega)) hb
 have hwl:IntKind.i64.wrap (l:Int)=l:=by rw [IntKind.wrap_i64];omega
 have hx:(l:Int) * (inf.bytes:Int)=((l * bytes:Nat):Int):=by rw [hby];push_cast;rfl
 have h48:¬ (281474976710656 < (l:Int) * (inf.bytes:Int)):=by rw [hx];omega
 have hcapn:¬ (281474976710656 < Builtin.nextslicecap (i+l) cap * inf.bytes):=by rw [hby];have:=growslice_fits hgr hb;omega
 have h63:¬ (9223372036854775807 < (i:Int)+(l:Int)):=by omega
 have hneg:¬ ((l:Int) < 0):=by omega
 have hnc:¬ (i+l≤cap):=by omega
 have hls:¬ (l * inf.size=0):=by
  intro h
  rcases Nat.mul_eq_zero.1 h with h|h
  ·omega
  ·have:=hE.pos;omega
 clear hx hby hlb hb hm'
 have hZ2e:=hZe2 z hzz
 unfold grownCap at hZ2e
 simp [Builtin.append_,run_underlying hE.und,run_underlying ik,sizeOf,typeInfo,zeroValue,hi,hz,Builtin.lenOf,asInt,asIntOf,Question.forced,hfirst,newRow,hZe1 z hzz,hZ2e,hwl,h48,hneg,hnc,h63,hcapn,grownCap]
 rw [if_neg hls]
 have hA:olds.toArray++(Z1++Z2)=(olds++(Z1.toList++Z2.toList)).toArray:=by
  apply Array.ext'
  simp
 simp only [hA]
def ElT.zero:∃ i z,P.info? e=some i∧i.zero=some z∧z.cells.size=k:=by
 obtain ⟨i,z,hi,hz,_,_,hzz,hzl⟩:=hE.info
 exact ⟨i,z,hi,hz,by rw [←za,hzz,hzl]⟩
def ElT.append (w:World) (ty:TypeId) (base:Nat) (v:Value) (n:Nat) (xs:List Value) (hown:w.ownsRow base e k v n xs)
  (a:Addr) (m c:Nat) (news:List Value) (hl:news.length=m * k) (hnews:∀ j u,news[j]? =some u→w.cell? (a.add j)=some u) (h1:∀ u∈news,u.oneCell'=true)
  (h63:n+m≤maxLen) (hbytes:(n+m) * bytes≤140737488355328) (hbase:base≤w.heap.size):
  ∃ v' w',(Builtin.append_ #[t,t] ty #[v,.slice (some a) m c]).run P w=.ok v' w'∧w'.ownsRow base e k v' (n+m) (xs++news)∧w.grownBy w' v.ownBlock∧
   (v'=.slice none 0 0↔v=.slice none 0 0∧m=0)∧(v'.ownBlock=v.ownBlock∨v'.ownBlock=some w.heap.size):=by
 obtain ⟨i,z,hi,hz,hs,hb,hzz,hzl⟩:=hE.info
 exact run_append_own_at w base t ty e i z k bytes hE.und hi hz hs hb (by rw [←za,hzz,hzl]) hE.pos v n xs hown a m c news hl hnews h1 h63 hbytes hbase
end runs
section steps
variable {P:Program} {ops:Array Oper} {rest:List Oper} {o:Oper} {a:Act} {w w':World} {Q:Exit→Act→World→Prop} {K:Act→World→Prop} {E:Prop} {v x y:Value}
def qcf (s u:Operand) (t1 t2:TypeId) (ho:o.op=.call { callee:=.builtin .append,args:=#[s,u],argTypes:=#[t1,t2] }) (hs:a.eval s=x) (hu:a.eval u=y)
  (hrun:(Builtin.append_ #[t1,t2] o.type #[x,y]).run P w=.ok v w') (h:K (a.put o.dst v) w'):o.wp P a w K Q:=by
 unfold Oper.wp execOp
 simp only [ho,resolve,invoke,builtin,Sem.run_bind,Sem.run_pure,Result.andThen_ok,List.map_toArray,yi,List.map_nil,hs,hu,hrun]
 exact h
def wp_copy (s u:Operand) (t1 t2:TypeId) (ho:o.op=.call { callee:=.builtin .copy,args:=#[s,u],argTypes:=#[t1,t2] }) (hs:a.eval s=x) (hu:a.eval u=y)
  (hrun:(Builtin.copy_ #[t1,t2] o.type #[x,y]).run P w=.ok v w') (h:K (a.put o.dst v) w'):o.wp P a w K Q:=by
 unfold Oper.wp execOp
 simp only [ho,resolve,invoke,builtin,Sem.run_bind,Sem.run_pure,Result.andThen_ok,List.map_toArray,yi,List.map_nil,hs,hu,hrun]
 exact h
def xu (hg:o.guard=none) (s u:Operand) (t1 t2:TypeId) (ho:o.op=.call { callee:=.builtin .append,args:=#[s,u],argTypes:=#[t1,t2] }) (hs:a.eval s=x) (hu:a.eval u=y)
  (hrun:(Builtin.append_ #[t1,t2] o.type #[x,y]).run P w=.ok v w') (h:wpList P ops Q rest (a.put o.dst v) w'):wpList P ops Q (o::rest) a w:=
 wpList_plain hg fun _ hK=>qcf s u t1 t2 ho hs hu hrun (hK _ _ h)
def lz (hg:o.guard=none) (s u:Operand) (t1 t2:TypeId) (ho:o.op=.call { callee:=.builtin .copy,args:=#[s,u],argTypes:=#[t1,t2] }) (hs:a.eval s=x) (hu:a.eval u=y)
  (hrun:(Builtin.copy_ #[t1,t2] o.type #[x,y]).run P w=.ok v w') (h:wpList P ops Q rest (a.put o.dst v) w'):wpList P ops Q (o::rest) a w:=
 wpList_plain hg fun _ hK=>wp_copy s u t1 t2 ho hs hu hrun (hK _ _ h)
end steps
def add_add (a:Addr) (i j:Nat):(a.add i).add j=a.add (i+j):=by
 unfold Addr.add
 by_cases hi:i=0 <;> by_cases hj:j=0 <;> simp [hi,hj,Nat.add_assoc]
def xr (a:Addr) (i:Nat):(a.add i).block=a.block:=by unfold Addr.add;split <;> rfl
structure StT (P:Program) (e:TypeId) (k:Nat):Prop where
 und:∃ fs,P.underlying e=some (.struct fs)
 size:(P.info? e).map (·.size)=some k
def At (w:World) (a:Addr) (cs:List Value):Prop:=∀ j u,cs[j]? =some u→w.cell? (a.add j)=some u
def At.chg {w w':World} {T:Nat→Prop} {a:Addr} {cs:List Value} (h:At w a cs) (hc:Chg w w' T) (hn:¬ T a.block):At w' a cs:=
 fun j u hu=>hc.cellS (h j u hu) (by rw [xr];exact hn)
def Blk.at_ {w:World} {g:Nat} {t:TypeId} {cs:List Value} (h:Blk w g t cs.toArray):At w ⟨g,0,none⟩ cs:=fun j u hj=>by
 rw [Addr.add_lit,jn,h.cell]
 simpa using hj
def RowsAt (w:World) (a:Addr) (k:Nat) (css:List (List Value)):Prop:=∀ i cs,css[i]? =some cs→cs.length=k∧At w (a.add (i * k)) cs
def RowsAt.chg {w w':World} {T:Nat→Prop} {a:Addr} {k:Nat} {css:List (List Value)} (h:RowsAt w a k css) (hc:Chg w w' T) (hn:¬ T a.block):RowsAt w' a k css:=
 fun i cs hi=>⟨(h i cs hi).1,(h i cs hi).2.chg hc (by rw [xr];exact hn)⟩
def xz {k:Nat}:∀ {css:List (List Value)},(∀ cs∈css,cs.length=k)→css.flatten.length=css.length * k
 | [],_=>by simp
 |c::css,h=>by
  have ih:=xz (css:=css) (fun cs hc=>h cs (by simp [hc]))
  simp only [List.flatten_cons,qg,ih,h c (by simp),zf,uz]
  omega
def cj {k:Nat}:∀ {css:List (List Value)} (i:Nat),(∀ cs∈css,cs.length=k)→css.flatten.take (i * k)=(css.take i).flatten
 | [],_,_=>by simp
 |c::css,0,_=>by simp
 |c::css,i+1,h=>by
  have ih:=cj (css:=css) i (fun cs hc=>h cs (by simp [hc]))
  have hc:=h c (by simp)
  simp only [List.flatten_cons,List.take_succ_cons]
  rw [show (i+1) * k=c.length+i * k by rw [uz,hc];omega,List.take_length_add_append,ih]
def ko {k:Nat}:∀ {css:List (List Value)} (i:Nat),(∀ cs∈css,cs.length=k)→css.flatten.drop (i * k)=(css.drop i).flatten
 | [],_,_=>by simp
 |c::css,0,_=>by simp
 |c::css,i+1,h=>by
  have ih:=ko (css:=css) i (fun cs hc=>h cs (by simp [hc]))
  have hc:=h c (by simp)
  simp only [List.flatten_cons,List.drop_succ_cons]
  rw [show (i+1) * k=c.length+i * k by rw [uz,hc];omega,List.drop_length_add_append,ih]
def xl {k:Nat} {css:List (List Value)} (h:∀ cs∈css,cs.length=k) {i:Nat} {cs:List Value} (hi:css[i]? =some cs) {j:Nat} {u:Value} (hj:cs[j]? =some u):css.flatten[i * k+j]? =some u:=by
 have hd:=ko (css:=css) i h
 have hlt:i < css.length:=(qv.1 hi).1
 rw [←jb,hd,jg hlt,List.flatten_cons]
 have he:css[i]=cs:=by rw [qz hlt] at hi;exact Option.some.inj hi
 rw [he,qe (qv.1 hj).1]
 exact hj
section own
variable {w w':World} {base:Nat} {e:TypeId} {k:Nat} {v:Value} {css:List (List Value)}
def Own (w:World) (base:Nat) (e:TypeId) (k:Nat) (v:Value) (css:List (List Value)):Prop:=w.ownsRow base e k v css.length css.flatten∧∀ cs∈css,cs.length=k
def Own.rows (h:Own w base e k v css) {A:Option Addr} {n c:Nat} (hv:v=.slice A n c):n=css.length∧(0 < css.length→∃ a,A=some a∧RowsAt w a k css):=by
 rcases h.1.2 with ⟨h1,h2⟩| ⟨g,cap,cur,h1,hb,hg,hn,hm,hs,ht⟩
 ·rw [hv] at h1
  simp only [Value.slice.injEq] at h1
  exact ⟨by omega,fun hp=>by omega⟩
 ·rw [hv] at h1
  simp only [Value.slice.injEq] at h1
  refine ⟨h1.2.1,fun _=>⟨⟨g,0,none⟩,h1.1,fun i cs hi=>⟨h.2 cs (qf hi),fun j u hj=>?_⟩⟩⟩
  have hf:=xl h.2 hi hj
  rw [Addr.add_lit,jn,Addr.add_lit,cell_of_row w g _ cur e (0,0) hg]
  rw [←ht,yq] at hf
  split at hf
  ·simpa using hf
  ·cases hf
def Own.form (h:Own w base e k v css):∃ A cap,v=.slice A css.length cap∧css.length≤cap∧cap≤maxLen:=by
 rcases h.1.2 with ⟨h1,h2⟩| ⟨g,cap,cur,h1,hb,hg,hn,hm,hs,ht⟩
 ·exact ⟨none,0,by rw [h1,h2],by omega,qr _⟩
 ·exact ⟨_,cap,h1,hn,hm⟩
def Own.chg {T:Nat→Prop} (h:Own w base e k v css) (hc:Chg w w' T) (hne:∀ g,v.ownBlock=some g→¬ T g):Own w' base e k v css:=by
 refine ⟨⟨h.1.1,?_⟩,h.2⟩
 rcases h.1.2 with ⟨h1,h2⟩| ⟨g,cap,cur,h1,hb,hg,r⟩
 ·exact .inl ⟨h1,h2⟩
 ·exact .inr ⟨g,cap,cur,h1,hb,(hc.block g (xf hg) (hne g (by rw [h1];rfl))).trans hg,r⟩
def Own.lt (h:Own w base e k v css) {g:Nat} (hg:v.ownBlock=some g):base≤g∧g < w.heap.size:=h.1.lt g hg
def Own.nil (w:World) (base:Nat) (e:TypeId) (k:Nat):Own w base e k (.slice none 0 0) []:=⟨World.ownsRow_nil w base e k,by simp⟩
end own
section loads
variable {P:Program} {ops:Array Oper} {rest:List Oper} {o:Oper} {a:Act} {w:World} {Q:Exit→Act→World→Prop} {e:TypeId} {k:Nat}
def kg (hS:StT P e k) (ad:Addr) (cs:List Value) (hl:cs.length=k) (hc:At w ad cs):(loadVar e ad).run P w=.ok (.agg cs.toArray) w:=by
 obtain ⟨fs,hu⟩:=hS.und
 have hld:=run_loadCells_list (P:=P) w ad cs hc
 have hsz:=hS.size
 cases hq:P.info? e with
 |none=>simp [hq] at hsz
 |some i=>
  have hs:i.size=cs.length:=by simp [hq] at hsz;omega
  have hagg:(isAgg e).run P w=.ok true w:=by
   unfold isAgg
   rw [Sem.run_bind,run_underlying hu w]
   simp
  simp [loadVar,Sem.run_bind,hagg,sizeOf,typeInfo,hq,hs,hld]
def vq (hg:o.guard=none) (x:Operand) (e:TypeId) (ho:o.op=.load e x) (hS:StT P e k) (ad:Addr) (cs:List Value) (hx:a.eval x=.pointer (some ad)) (hl:cs.length=k) (hc:At w ad cs)
  (h:wpList P ops Q rest (a.put o.dst (.agg cs.toArray)) w):wpList P ops Q (o::rest) a w:=by
 refine wpList_plain hg fun K hK=>?_
 have hrun:=kg (P:=P) (w:=w) hS ad cs hl hc
 unfold Oper.wp execOp
 simp only [ho,hx,Instr.loadAt,Instr.sureAddr,Sem.run_bind,Sem.run_pure,Result.andThen_ok,hrun]
 exact hK _ _ h
def xe (hw:Region.wanted o (yielded ops a.tmps)=true) (x:Operand) (e:TypeId) (ho:o.op=.load e x) (hS:StT P e k) (ad:Addr) (cs:List Value) (hx:a.eval x=.pointer (some ad)) (hl:cs.length=k) (hc:At w ad cs)
  (h:wpList P ops Q rest (a.put o.dst (.agg cs.toArray)) w):wpList P ops Q (o::rest) a w:=by
 refine BigFrame.wpList_want hw fun K hK=>?_
 have hrun:=kg (P:=P) (w:=w) hS ad cs hl hc
 unfold Oper.wp execOp
 simp only [ho,hx,Instr.loadAt,Instr.sureAddr,Sem.run_bind,Sem.run_pure,Result.andThen_ok,hrun]
 exact hK _ _ h
end loads
def lay (L:List Value) (o:Nat) (cs:List Value):List Value:=L.take o++cs++L.drop (o+cs.length)
def layA (C:Array Value) (o:Nat) (cs:List Value):Array Value:=(lay C.toList o cs).toArray
section stores
variable {P:Program} {ops:Array Oper} {rest:List Oper} {o o1 o2:Oper} {a:Act} {w:World} {Q:Exit→Act→World→Prop} {e:TypeId} {k:Nat}
def td (hS:StT P e k) (g off:Nat) (t:TypeId) (cur:Array Value) (cs:List Value) (hB:Blk w g t cur) (hl:cs.length=k) (hfit:off+k≤cur.size) (h1:∀ u∈cs,u.oneCell'=true):
  (storeVar e ⟨g,off,none⟩ (.agg cs.toArray)).run P w=.ok () (w.setRow g (cur.toList.take off++cs++cur.toList.drop (off+cs.length)).toArray):=by
 have hsz:=hS.size
 have hst:=run_storeCells_at P g off t cs 0 cur w hB (by omega) h1
 simp only [Nat.add_zero] at hst
 cases hq:P.info? e with
 |none=>simp [hq] at hsz
 |some i=>
  have hs:i.size=cs.length:=by simp [hq] at hsz;omega
  simp [storeVar,sizeOf,typeInfo,hq,Value.cells,hs,hst]
def vf (hg:o.guard=none) (x y:Operand) (e:TypeId) (ho:o.op=.store e x y) (hS:StT P e k) (g off:Nat) (t:TypeId) (cur:Array Value) (cs:List Value) (hx:a.eval x=.pointer (some ⟨g,off,none⟩)) (hy:a.eval y=.agg cs.toArray)
  (hB:Blk w g t cur) (hl:cs.length=k) (hfit:off+k≤cur.size) (h1:∀ u∈cs,u.oneCell'=true)
  (h:wpList P ops Q rest (a.put o.dst undef) (w.setRow g (layA cur off cs))):wpList P ops Q (o::rest) a w:=by
 refine wpList_plain hg fun K hK=>?_
 have hrun:=td (P:=P) hS g off t cur cs hB hl hfit h1
 unfold Oper.wp execOp
 simp only [ho,hx,hy,Instr.storeAt,Instr.sureAddr,Sem.run_bind,Sem.run_pure,Result.andThen_ok,hrun]
 exact hK _ _ h
def xx (hg1:o1.guard=none) (hg2:o2.guard=none) (t:Tmp) (x:Operand) (e:TypeId) (ho1:o1.op=.alloc e) (hd1:o1.dst=some t) (ho2:o2.op=.store e (.tmp t) x) (hd2:o2.dst=none)
  (hS:StT P e k) (hz:∃ i z,P.info? e=some i∧i.zero=some z∧z.cells.size=k) (cs:List Value) (ht:t < a.tmps.size) (hx:(a.put (some t) (.pointer (some ⟨w.heap.size,0,none⟩))).eval x=.agg cs.toArray) (hl:cs.length=k) (h1:∀ u∈cs,u.oneCell'=true)
  (h:∀ w2,New w w2→Blk w2 w.heap.size e cs.toArray→w2.heap.size=w.heap.size+1→wpList P ops Q rest (a.put (some t) (.pointer (some ⟨w.heap.size,0,none⟩))) w2):wpList P ops Q (o1::o2::rest) a w:=by
 refine wpList_plain hg1 fun K hK=>?_
 obtain ⟨i,z,hi,hz,hzs⟩:=hz
 have hsz:i.size=k:=by have:=hS.size;simp [hi] at this;exact this
 have hrun:(execOp a.eval o1).run P w=.ok (.value (.pointer (some ⟨w.heap.size,0,none⟩))) (w.alloc (.cells z.cells e)):=by
  unfold execOp
  simp [ho1,Instr.alloc,newVar,newRow,zeroValue,typeInfo,hi,hz]
 unfold Oper.wp
 rw [hrun]
 simp only [Oper.upon,hd1]
 refine hK _ _ ?_
 refine vf hg2 (.tmp t) x e ho2 hS w.heap.size 0 e z.cells cs ?_ hx (Blk.new w e z.cells) hl (by omega) h1 ?_
 ·simp [Act.eval,Act.put,ht]
 ·simp only [hd2,Act.put]
  refine h _ (((Chg.refl w _).alloc _).setRow _ _ (fun h=>absurd h (by omega))) ?_ (by simp)
  have hb:=(Blk.new w e z.cells).set (layA z.cells 0 cs)
  have he:layA z.cells 0 cs=cs.toArray:=by
   unfold layA lay
   congr 1
   rw [jo (by simp;omega)]
   simp
  rw [he] at hb⊢
  exact hb
end stores
def Says (P:Program) (w:World) (T:Nat→Prop) (g:Nat) (lb args:Array Value) (r:Value):Prop:=∀ W,Chg w W T→Calls P g (args++lb) W fun e W'=>e=.returned r∧New W W'
def Says.chg {P:Program} {w w':World} {T:Nat→Prop} {g:Nat} {lb args:Array Value} {r:Value} (h:Says P w T g lb args r) (hc:Chg w w' T):Says P w' T g lb args r:=fun W hW=>h W (hc.trans hW qdr)
def vh {α:Type} {l:List α} {k:Nat} {x:α} (h:l[k]? =some x):l.take (k+1)=l.take k++[x]:=by
 obtain ⟨hlt,he⟩:=qv.1 h
 rw [List.take_succ_eq_append_getElem hlt,he]
def IntsAt (W:World) (v:Value) (k n:Nat) (X:Nat→Int):Prop:=
 (∃ A c,v=.slice A n c∧n≤c∧c≤maxLen∧(0 < n→∃ a,A=some a∧∀ q,q < n * k→W.cell? (a.add q)=some (.int .i64 (X q))))∧∀ q,-9223372036854775808≤X q∧X q≤9223372036854775807
def pm (a:Addr) (n:Nat):(a.add n).off=a.off+n:=by
 unfold Addr.add
 split
 ·rename_i h;rw [h];rfl
 ·rfl
def gk (a:Addr) (n:Nat):a.add (n+1)=⟨a.block,a.off+(n+1),none⟩:=by
 unfold Addr.add
 rw [if_neg (by omega)]
end Go.Proofs.YtbpgfnbhihklnaaGreat
namespace Go.Proofs.YtbpgfnbhihklnaaGreat
open Go.ChangeShapes Go.WideShapes Go.ChangeAt Go.RowKit
def fh {H:Type} {enc:TypeId×Value→H} {P:Program} (hl:laidOutB P=true) {W W':World} (hb:Below W.heap.size W W'):∀ {ts:List TypeId} {vs:List Value} {ds:List (DataW H)} {ps:List MemPlace},
  (∀ t∈ts,P.readableRec t=true∧t < P.types.size)→DataW.TrodAll enc P W 0 (fun _=>true) true ts vs ds ps→(∀ x∈ps,x.block < W.heap.size)→DataW.TrodAll enc P W' 0 (fun b=>decide (b < W.heap.size)) true ts vs ds ps
 | [],_,_,_,_,h,_=>by
  obtain ⟨rfl,rfl,rfl⟩:=trodAll_nil h
  exact trodAll_mk0
 |t::ts,_,_,_,ht,h,hx=>by
  obtain ⟨v,vs1,d,ds1,a,b,rfl,rfl,rfl,h1,h2⟩:=trodAll_cons h
  exact trodAll_cons_mk (Below.trod hl (ht t (by simp)).1 (ht t (by simp)).2 h1 hb (fun x hx'=>hx x (by simp [hx']))) (fh hl hb (fun t' ht'=>ht t' (by simp [ht'])) h2 (fun x hx'=>hx x (by simp [hx'])))
def mw {H:Type} {enc:TypeId×Value→H} {P:Program} (hl:laidOutB P=true) {f:Func} {s:ChangeSpec} (hv:s.vars=[]) {W W':World} {args:Array Value} {ds gs:List (DataW H)} {before:List MemPlace}
  (hW:DataW.Whole enc P f.params.toList s.vars false W args.toList ds gs before) (ht0:f.params.toList.all (fun t=>P.readableRec t&&decide (t < P.types.size))=true) (hc:New W W') {tb:TypeId} (hr:f.resultTypes=#[tb]) (hu:P.underlying tb=some .bool)
  (hs:(s.fn H (ds++gs)).results=[.lit (.bool true)]∧(s.fn H (ds++gs)).args=ds∧(s.fn H (ds++gs)).vars=[]):s.post enc P f false true false false W args (.bool true) W':=by
 have ht:∀ t∈f.params.toList,P.readableRec t=true∧t < P.types.size:=fun t h=>by
  have:=zv.1 ht0 t h
  simpa using this
 have hb:Below W.heap.size W W':=hc.below (qh _) qdr
 have hlt:=hW.lt
 have hW0:=hW
 obtain ⟨p,q,hA,hV,rfl,hfz,hnd⟩:=hW0
 rw [hv] at hV
 obtain ⟨rfl,rfl⟩:=trodVars_none hV
 refine ⟨ds,[],p++[],[],p,[],hW,?_,?_,?_,hb.frame _,fun h=>by cases h⟩
 ·rw [hs.1,hr]
  exact trodAll_cons_mk (shut_bool hu _) trodAll_mk0
 ·rw [hs.2.1]
  exact fh hl hb ht hA (fun x hx=>hlt x (by simp [hx]))
 ·rw [hs.2.2,hv]
  rfl
end Go.Proofs.YtbpgfnbhihklnaaGreat
namespace Go.Proofs.YtbpgfnbhihklnaaGreat
open Go.ChangeShapes Go.WideShapes Go.ChangeAt Go.RowKit Go.Deep
section
variable {H:Type} {enc:TypeId×Value→H} {P:Program} {w:World} {base:Nat} {spare:Nat→Bool} {held:Bool}
def AllInts (H:Type) (enc:TypeId×Value→H) (P:Program) (w:World) (base:Nat) (spare:Nat→Bool) (held:Bool) (e:TypeId) (C:Nat):Prop:=
 ∀ (n:Nat) (cs:List Value) (y:DataW H×List MemPlace),cs.length=C→DataW.trod enc P w base spare held n e cs=some y→∀ j,j < C→∃ x:Int,cs[j]? =some (.int .i64 x)∧-9223372036854775808≤x∧x≤9223372036854775807
def xi {e f:TypeId} {C:Nat} (he:P.underlying e=some (.array C f)) (hf:P.underlying f=some (.int .i64)) (hc:P.cellsOf f=1):AllInts H enc P w base spare held e C:=by
 intro n cs y hl h j hj
 obtain ⟨xs,m,_,_,_,hxl,hx⟩:=DataW.trod_array he h
 have h1:=hx j hj
 rw [hc,Nat.mul_one,jg (by omega)] at h1
 have hxs:xs[j]? =some (xs[j]'(by omega)):=qz _
 rw [hxs] at h1
 obtain ⟨q,hq,_,hw⟩:=DataW.trod_int hf h1
 simp only [List.take_succ_cons,List.take_zero,List.cons.injEq,and_true] at hq
 simp only [Lit.wf,qt,decide_eq_true_eq] at hw
 exact ⟨q,by rw [qz (by omega),hq],hw.1,hw.2⟩
def kh {r:Reach} {b0:Nat} {t e:TypeId} {C:Nat} {v:Value} {d:DataW H} {p:List MemPlace} (ht:P.underlying t=some (.slice e)) (hC:P.cellsOf e=C) (hp:0 < C) (hv:Value.okWide P w r b0 t v) (h:DataW.Trod enc P w base spare held t v d p) (hE:AllInts H enc P w base spare held e C):
  ∃ n X,IntsAt w v C n X:=by
 obtain ⟨a0,len0,cap0,rfl⟩:=okWide_slice ht hv
 obtain ⟨fuel,hf⟩:=h
 rcases open_slice ht hf with ⟨hcs,hx⟩| ⟨a,len,cap,m,n,D,Pl,hcs,hb,hl,hm,hmm,hx,hi⟩
 ·simp only [Value.cells,List.cons.injEq,and_true] at hcs
  rw [hcs]
  exact ⟨0,fun _=>0,⟨none,0,rfl,qh _,by unfold maxLen;omega,fun h=>absurd h (by omega)⟩,fun _=>by dsimp only;omega⟩
 ·simp only [Value.cells,List.cons.injEq,and_true] at hcs
  rw [hcs]
  have hlm:len≤m:=by rw [hmm];split <;> omega
  have hcell:∀ q,q < len * C→∃ x:Int,w.cell? (a.add q)=some (.int .i64 x)∧-9223372036854775808≤x∧x≤9223372036854775807:=by
   intro q hq
   have hqi:q / C < len:=by rw [Nat.div_lt_iff_lt_mul hp];exact hq
   have hqj:q % C < C:=Nat.mod_lt _ hp
   obtain ⟨cs',hc,ht'⟩:=hi (q / C) (by omega)
   rw [hC] at hc
   obtain ⟨_,hcl,hat⟩:=World.cells?_some hc
   obtain ⟨x,hx1,hx2⟩:=hE n cs' _ hcl ht' (q % C) hqj
   refine ⟨x,?_,hx2⟩
   have h2:=hat (q % C) hqj
   rw [hx1,Go.Deep.add_add,show q / C * C+q % C=q by rw [jf];exact un q C] at h2
   exact h2
  refine ⟨len,fun q=>if h:q < len * C then Classical.choose (hcell q h) else 0,⟨some a,cap,rfl,hl,hm,fun _=>⟨a,rfl,fun q hq=>?_⟩⟩,fun q=>?_⟩
  ·simp only [dif_pos hq]
   exact (ye (hcell q hq)).1
  ·by_cases hq:q < len * C
   ·simp only [dif_pos hq]
    exact (ye (hcell q hq)).2
   ·simp only [dif_neg hq]
    omega
end
section
variable {H:Type} {enc:TypeId×Value→H} {P:Program} {w:World} {base:Nat} {spare:Nat→Bool} {held:Bool}
def nk {f:TypeId} (hf:P.underlying f=some (.int .i64)) {n:Nat} {u:Value} {y:DataW H×List MemPlace} (h:DataW.trod enc P w base spare held n f [u]=some y):∃ x:Int,u=.int .i64 x∧-9223372036854775808≤x∧x≤9223372036854775807:=by
 obtain ⟨q,hq,_,hw⟩:=DataW.trod_int hf h
 simp only [List.cons.injEq,and_true] at hq
 simp only [Lit.wf,qt,decide_eq_true_eq] at hw
 exact ⟨q,hq,hw.1,hw.2⟩
def gw {e:TypeId} {g0 g1 g2:Field} (he:P.underlying e=some (.struct #[g0,g1,g2])) (h0:P.underlying g0.type=some (.int .i64)) (h1:P.underlying g1.type=some (.int .i64)) (ho:g0.offset=0∧g1.offset=1∧g2.offset=2) (hc:P.cellsOf g0.type=1∧P.cellsOf g1.type=1∧P.cellsOf g2.type=4)
  (h2:AllInts H enc P w base spare held g2.type 4):AllInts H enc P w base spare held e 6:=by
 intro n cs y hl h j hj
 obtain ⟨y0,y1,y2,n',_,_,t0,t1,t2⟩:=trod_struct3 he h
 rw [ho.1,hc.1] at t0
 rw [ho.2.1,hc.2.1] at t1
 rw [ho.2.2,hc.2.2] at t2
 match cs,hl with
 | [a,b,c0,c1,c2,c3],_=>
  obtain ⟨x0,rfl,e0⟩:=nk h0 t0
  obtain ⟨x1,rfl,e1⟩:=nk h1 t1
  match j,hj with
  |0,_=>exact ⟨x0,rfl,e0⟩
  |1,_=>exact ⟨x1,rfl,e1⟩
  |j+2,hj=>
   obtain ⟨x,hx,hb⟩:=h2 n' _ _ rfl t2 j (by omega)
   exact ⟨x,hx,hb⟩
end
end Go.Proofs.YtbpgfnbhihklnaaGreat
namespace Go.Proofs.YtbpgfnbhihklnaaGreat
section
variable {α:Type}
def Le (cf:α→α→Int) (x y:α):Prop:=¬ cf y x < 0
structure Ordr (cf:α→α→Int):Prop where
 asym:∀ x y,cf x y < 0→¬ cf y x < 0
 trans:∀ x y z,Le cf x y→Le cf y z→Le cf x z
def Srt (cf:α→α→Int) (e:List α) (a b:Nat):Prop:=∀ p q x y,a≤p→p < q→q < b→e[p]? =some x→e[q]? =some y→Le cf x y
def Same' (e d:List α) (a b:Nat):Prop:=∀ p,p < a∨b≤p→e[p]? =d[p]?
def Mix (e d:List α) (a b:Nat):Prop:=e.length=d.length∧Same' e d a b∧∀ p x,a≤p→p < b→e[p]? =some x→∃ q,a≤q∧q < b∧d[q]? =some x
def Mix.refl (d:List α) (a b:Nat):Mix d d a b:=⟨rfl,fun _ _=>rfl,fun p x h1 h2 h=>⟨p,h1,h2,h⟩⟩
def Mix.trans {e f d:List α} {a b:Nat} (h:Mix e f a b) (h':Mix f d a b):Mix e d a b:=⟨h.1.trans h'.1,fun p hp=>(h.2.1 p hp).trans (h'.2.1 p hp),fun p x h1 h2 h3=>by
 obtain ⟨q,q1,q2,q3⟩:=h.2.2 p x h1 h2 h3
 exact h'.2.2 q x q1 q2 q3⟩
def Mix.wide {e d:List α} {a b a' b':Nat} (h:Mix e d a b) (ha:a'≤a) (hb:b≤b'):Mix e d a' b':=⟨h.1,fun p hp=>h.2.1 p (by omega),fun p x h1 h2 h3=>by
 by_cases hp:a≤p∧p < b
 ·obtain ⟨q,q1,q2,q3⟩:=h.2.2 p x hp.1 hp.2 h3
  exact ⟨q,by omega,by omega,q3⟩
 ·exact ⟨p,h1,h2,by rw [←h.2.1 p (by omega)];exact h3⟩⟩
def swp (e:List α) (i j:Nat) (x y:α):List α:=(e.set i y).set j x
def dp (e:List α) (i j:Nat) (x y:α):(swp e i j x y).length=e.length:=by simp [swp]
def po {e:List α} {i j:Nat} {x y:α} (hi:e[i]? =some x) (hj:e[j]? =some y) (p:Nat):(swp e i j x y)[p]? =if p=j then some x else if p=i then some y else e[p]? :=by
 have h1:i < e.length:=(qv.1 hi).1
 have h2:j < e.length:=(qv.1 hj).1
 unfold swp
 rw [jx,jx,jk]
 by_cases hpj:p=j
 ·subst hpj
  simp [h2]
 ·rw [if_neg (Ne.symm hpj),if_neg hpj]
  by_cases hpi:p=i
  ·subst hpi
   simp [h1]
  ·rw [if_neg (Ne.symm hpi),if_neg hpi]
def lp {e:List α} {i j:Nat} {x y:α} (hi:e[i]? =some x) (hj:e[j]? =some y):(swp e i j x y).Perm e:=by
 obtain ⟨h1,rfl⟩:=qv.1 hi
 obtain ⟨h2,rfl⟩:=qv.1 hj
 exact List.set_set_perm h1 h2
def ak {e:List α} {i j:Nat} {x y:α} (hi:e[i]? =some x) (hj:e[j]? =some y) {a b:Nat} (hia:a≤i) (hib:i < b) (hja:a≤j) (hjb:j < b):Mix (swp e i j x y) e a b:=by
 refine ⟨dp ..,fun p hp=>?_,fun p z h1 h2 h3=>?_⟩
 ·rw [po hi hj,if_neg (by omega),if_neg (by omega)]
 ·rw [po hi hj] at h3
  split at h3
  ·cases h3;exact ⟨i,hia,hib,hi⟩
  ·split at h3
   ·cases h3;exact ⟨j,hja,hjb,hj⟩
   ·exact ⟨p,h1,h2,h3⟩
def swp_comm {e:List α} {i j:Nat} {x y:α} (h:i≠j):swp e i j x y=swp e j i y x:=by
 unfold swp
 rw [List.set_comm _ _ h]
def Srt.less {cf:α→α→Int} {e:List α} {a b a' b':Nat} (h:Srt cf e a b) (ha:a≤a') (hb:b'≤b):Srt cf e a' b':=fun p q x y h1 h2 h3=>h p q x y (by omega) h2 (by omega)
def Srt.short {cf:α→α→Int} (e:List α) {a b:Nat} (h:b≤a+1):Srt cf e a b:=fun p q x y h1 h2 h3=>by omega
def Srt.same {cf:α→α→Int} {e d:List α} {a b c c':Nat} (h:Srt cf d a b) (hs:Same' e d c c') (hd:b≤c∨c'≤a):Srt cf e a b:=fun p q x y h1 h2 h3 hx hy=>
 h p q x y h1 h2 h3 (by rw [←hs p (by omega)];exact hx) (by rw [←hs q (by omega)];exact hy)
def Srt.join {cf:α→α→Int} {e:List α} {a m b:Nat} (h1:Srt cf e a m) (h2:Srt cf e m b) (h:∀ p q x y,a≤p→p < m→m≤q→q < b→e[p]? =some x→e[q]? =some y→Le cf x y):Srt cf e a b:=fun p q x y hp hpq hq hx hy=>by
 by_cases hqm:q < m
 ·exact h1 p q x y hp hpq hqm hx hy
 ·by_cases hpm:p < m
  ·exact h p q x y hp hpm (by omega) hq hx hy
  ·exact h2 p q x y (by omega) hpq hq hx hy
structure Ins (cf:α→α→Int) (e:List α) (a i j:Nat):Prop where
 ja:a≤j
 ji:j≤i
 rest:∀ p q x y,a≤p→p < q→q≤i→p≠j→q≠j→e[p]? =some x→e[q]? =some y→Le cf x y
 up:∀ q x y,j < q→q≤i→e[j]? =some x→e[q]? =some y→Le cf x y
def Ins.start {cf:α→α→Int} {e:List α} {a i:Nat} (h:Srt cf e a i) (hai:a≤i):Ins cf e a i i:=⟨hai,qh _,fun p q x y h1 h2 h3 h4 h5=>h p q x y h1 h2 (by omega),fun q x y h1 h2=>by omega⟩
def Ins.step {cf:α→α→Int} (ho:Ordr cf) {e:List α} {a i j:Nat} {x y:α} (h:Ins cf e a i j) (hj:a < j) (hx:e[j]? =some x) (hy:e[j - 1]? =some y) (hc:cf x y < 0):Ins cf (swp e (j - 1) j y x) a i (j - 1):=by
 have hlt:=h.ji
 refine ⟨by omega,by omega,fun p q u v h1 h2 h3 h4 h5 hu hv=>?_,fun q u v h1 h2 hu hv=>?_⟩
 ·rw [po hy hx] at hu hv
  rw [if_neg h4] at hu
  rw [if_neg h5] at hv
  by_cases hpj:p=j
  ·rw [if_pos hpj] at hu
   cases hu
   rw [if_neg (by omega)] at hv
   exact h.rest (j - 1) q y v (by omega) (by omega) h3 (by omega) (by omega) hy hv
  ·rw [if_neg hpj] at hu
   by_cases hqj:q=j
   ·rw [if_pos hqj] at hv
    cases hv
    exact h.rest p (j - 1) u y h1 (by omega) (by omega) hpj (by omega) hu hy
   ·rw [if_neg hqj] at hv
    exact h.rest p q u v h1 h2 h3 hpj hqj hu hv
 ·rw [po hy hx] at hu hv
  rw [if_neg (by omega),if_pos rfl] at hu
  cases hu
  rw [if_neg (show ¬ q=j - 1 by omega)] at hv
  by_cases hqj:q=j
  ·rw [if_pos hqj] at hv
   cases hv
   exact ho.asym x y hc
  ·rw [if_neg hqj] at hv
   exact h.up q x v (by omega) h2 hx hv
def Ins.step' {cf:α→α→Int} (ho:Ordr cf) {e:List α} {a i j:Nat} {x y:α} (h:Ins cf e a i (j+1)) (hj:a < j+1) (hx:e[j+1]? =some x) (hy:e[j]? =some y) (hc:cf x y < 0):Ins cf (swp e (j+1) j x y) a i j:=by
 rw [swp_comm (by omega)]
 exact h.step ho hj hx hy hc
def Ins.done {cf:α→α→Int} (ho:Ordr cf) {e:List α} {a i j:Nat} (h:Ins cf e a i j) (hd:j=a∨∃ x y,e[j]? =some x∧e[j - 1]? =some y∧¬ cf x y < 0):Srt cf e a (i+1):=fun p q u v h1 h2 h3 hu hv=>by
 by_cases hpj:p=j
 ·subst hpj
  exact h.up q u v h2 (by omega) hu hv
 ·by_cases hqj:q=j
  ·subst hqj
   rcases hd with rfl| ⟨x,y,hx,hy,hc⟩
   ·omega
   ·rw [hv] at hx
    cases hx
    by_cases hpq:p=q - 1
    ·subst hpq
     rw [hu] at hy
     cases hy
     exact hc
    ·exact ho.trans u y v (h.rest p (q - 1) u y h1 (by omega) (by have:=h.ji;omega) hpj (by omega) hu hy) hc
  ·exact h.rest p q u v h1 h2 (by omega) hpj hqj hu hv
end
section
variable {α:Type}
def SwR (e d:List α) (a b k:Nat):Prop:=e.length=d.length∧∀ p,e[p]? =if a≤p∧p < a+k then d[p - a+b]? else if b≤p∧p < b+k then d[p - b+a]? else d[p]?
def SwR.refl (d:List α) (a b:Nat):SwR d d a b 0:=⟨rfl,fun p=>by rw [if_neg (by omega),if_neg (by omega)]⟩
def SwR.step {e d:List α} {a b k:Nat} {x y:α} (h:SwR e d a b k) (hab:a+k < b) (hx:e[a+k]? =some x) (hy:e[b+k]? =some y):SwR (swp e (a+k) (b+k) x y) d a b (k+1):=by
 refine ⟨(dp ..).trans h.1,fun p=>?_⟩
 have h1:=h.2 (a+k)
 have h2:=h.2 (b+k)
 rw [hx,if_neg (by omega),if_neg (by omega)] at h1
 rw [hy,if_neg (by omega),if_neg (by omega)] at h2
 rw [po hx hy,h.2 p]
 by_cases hb:p=b+k
 ·subst hb
  rw [if_pos rfl,if_neg (by omega),if_pos (by omega),h1]
  congr 1
  omega
 ·rw [if_neg hb]
  by_cases ha:p=a+k
  ·subst ha
   rw [if_pos rfl,if_pos (by omega),h2]
   congr 1
   omega
  ·rw [if_neg ha]
   by_cases c1:a≤p∧p < a+k
   ·rw [if_pos c1,if_pos (by omega)]
   ·rw [if_neg c1]
    rw [if_neg (show ¬ (a≤p∧p < a+(k+1)) by omega)]
    by_cases c2:b≤p∧p < b+k
    ·rw [if_pos c2,if_pos (by omega)]
    ·rw [if_neg c2,if_neg (by omega)]
def SwR.list {e P A X B S:List α} {a b k:Nat} (h:SwR e (P++A++X++B++S) a b k) (ha:P.length=a) (hA:A.length=k) (hB:B.length=k) (hb:a+k+X.length=b):e=P++B++X++A++S:=by
 apply uv
 intro p
 rw [h.2 p]
 simp only [List.getElem?_append,qg,ha,hA,hB]
 repeat' split
 all_goals first|rfl| (exfalso;omega)| (congr 1;omega)
def Rot (e fin:List α) (m i j:Nat):Prop:=∃ P U V S,e=P++U++V++S∧fin=P++V++U++S∧P.length+i=m∧U.length=i∧V.length=j
def Rot.left {e e' fin:List α} {m i j:Nat} (h:Rot e fin m i j) (hij:j < i) (hs:SwR e' e (m - i) m j):Rot e' fin m (i - j) j:=by
 obtain ⟨P,U,V,S,rfl,rfl,hp,hu,hv⟩:=h
 have h1:e'=P++V++U.drop j++U.take j++S:=by
  refine SwR.list (P:=P) (A:=U.take j) (X:=U.drop j) (B:=V) (S:=S) (a:=m - i) (b:=m) (k:=j) ?_ (by omega) (by rw [ql];omega) hv (by rw [zw];omega)
  have:P++U.take j++U.drop j++V++S=P++U++V++S:=by rw [qo P,zm]
  rw [this]
  exact hs
 refine ⟨P++V,U.drop j,U.take j,S,h1,?_,by rw [qg];omega,by rw [zw];omega,by rw [ql];omega⟩
 rw [qo (P++V) (U.take j),zm]
def Rot.right {e e' fin:List α} {m i j:Nat} (h:Rot e fin m i j) (hij:i < j) (hs:SwR e' e (m - i) (m+j - i) i):Rot e' fin m i (j - i):=by
 obtain ⟨P,U,V,S,rfl,rfl,hp,hu,hv⟩:=h
 have h1:e'=P++V.drop (j - i)++V.take (j - i)++U++S:=by
  refine SwR.list (P:=P) (A:=U) (X:=V.take (j - i)) (B:=V.drop (j - i)) (S:=S) (a:=m - i) (b:=m+j - i) (k:=i) ?_ (by omega) hu (by rw [zw];omega) (by rw [ql];omega)
  have:P++U++V.take (j - i)++V.drop (j - i)++S=P++U++V++S:=by rw [qo (P++U),zm]
  rw [this]
  exact hs
 refine ⟨P,V.drop (j - i),V.take (j - i),U++S,by rw [h1];simp [qo],?_,by omega,by rw [zw];omega,by rw [ql];omega⟩
 rw [qo P (V.take (j - i)),zm]
 simp [qo]
def Rot.last {e e' fin:List α} {m i:Nat} (h:Rot e fin m i i) (hs:SwR e' e (m - i) m i):e'=fin:=by
 obtain ⟨P,U,V,S,rfl,rfl,hp,hu,hv⟩:=h
 have:=SwR.list (P:=P) (A:=U) (X:=[]) (B:=V) (S:=S) (e:=e') (a:=m - i) (b:=m) (k:=i) (by simpa using hs) (by omega) hu hv (by simp;omega)
 simpa using this
def rotL (d:List α) (a m b:Nat):List α:=d.take a++(d.drop m).take (b - m)++(d.drop a).take (m - a)++d.drop b
def qaj {d:List α} {a m b:Nat} (h1:a≤m) (h2:m≤b) (h3:b≤d.length):Rot d (rotL d a m b) m (m - a) (b - m):=by
 refine ⟨d.take a,(d.drop a).take (m - a),(d.drop m).take (b - m),d.drop b,?_,rfl,by rw [ql];omega,by rw [ql,zw];omega,by rw [ql,zw];omega⟩
 have e1:d.take a++(d.drop a).take (m - a)=d.take m:=by
  rw [show m=a+(m - a) by omega,List.take_add]
  simp
 have e2:d.take m++(d.drop m).take (b - m)=d.take b:=by
  rw [show b=m+(b - m) by omega,List.take_add]
  simp
 rw [e1,e2,zm]
def iq {d:List α} {a m b:Nat} (h1:a≤m) (h2:m≤b) (h3:b≤d.length) (p:Nat):(rotL d a m b)[p]? =if p < a then d[p]? else if p < a+(b - m) then d[p - a+m]? else if p < b then d[p - (b - m)]? else d[p]? :=by
 unfold rotL
 have l1:(d.take a).length=a:=by rw [ql];omega
 have l2:((d.drop m).take (b - m)).length=b - m:=by rw [ql,zw];omega
 have l3:((d.drop a).take (m - a)).length=m - a:=by rw [ql,zw];omega
 simp only [List.getElem?_append,qg,l1,l2,l3]
 simp only [yq,jb]
 repeat' split
 all_goals first|rfl| (exfalso;omega)| (congr 1;omega)
end
section
variable {α:Type} {cf:α→α→Int}
structure Bin (L R:Nat→Prop) (p q i j:Nat):Prop where
 lo:p≤i
 ij:i≤j
 hi:j≤q
 l:i=p∨L (i - 1)
 r:j=q∨R j
def Bin.up {L R:Nat→Prop} {p q i j h:Nat} (b:Bin L R p q i j) (h1:i≤h) (h2:h < j) (hl:L h):Bin L R p q (h+1) j:=⟨qb b.lo (by omega),h2,b.hi,.inr hl,b.r⟩
def Bin.down {L R:Nat→Prop} {p q i j h:Nat} (b:Bin L R p q i j) (h1:i≤h) (h2:h < j) (hr:R h):Bin L R p q i h:=⟨b.lo,h1,qb (Nat.le_of_lt h2) b.hi,b.l,.inr hr⟩
def Mv (e d:List α) (a k:Nat):Prop:=e.length=d.length∧∀ p,e[p]? =if a≤p∧p < k then d[p+1]? else if p=k then d[a]? else d[p]?
def Mv.refl (d:List α) (a:Nat):Mv d d a a:=⟨rfl,fun p=>by
 rw [if_neg (by omega)]
 split
 ·rename_i h;rw [h]
 ·rfl⟩
def Mv.step {e d:List α} {a k:Nat} {x y:α} (h:Mv e d a k) (hak:a≤k) (hx:e[k]? =some x) (hy:e[k+1]? =some y):Mv (swp e k (k+1) x y) d a (k+1):=by
 refine ⟨(dp ..).trans h.1,fun p=>?_⟩
 have h1:=h.2 k
 have h2:=h.2 (k+1)
 rw [hx,if_neg (by omega),if_pos rfl] at h1
 rw [hy,if_neg (by omega),if_neg (by omega)] at h2
 rw [po hx hy,h.2 p]
 by_cases c1:p=k+1
 ·subst c1
  rw [if_pos rfl,if_neg (by omega),if_pos rfl,h1]
 ·rw [if_neg c1]
  by_cases c2:p=k
  ·subst c2
   rw [if_pos rfl,if_pos (by omega),h2]
  ·rw [if_neg c2]
   by_cases c3:a≤p∧p < k
   ·rw [if_pos c3,if_pos (by omega)]
   ·rw [if_neg c3,if_neg (by omega),if_neg (by omega),if_neg c1]
def Mv.sorted (ho:Ordr cf) {e d:List α} {a b i:Nat} {x:α} (hx:d[a]? =some x) (hs:Srt cf d (a+1) b) (h1:a+1≤i) (h2:i≤b) (hl:i=a+1∨∃ y,d[i - 1]? =some y∧cf y x < 0) (hr:i=b∨∃ y,d[i]? =some y∧¬ cf y x < 0) (h:Mv e d a (i - 1)):Srt cf e a b:=by
 intro p q u v hp hpq hq hu hv
 rw [h.2] at hu hv
 by_cases c1:p < i - 1
 ·rw [if_pos ⟨hp,c1⟩] at hu
  by_cases c2:q < i - 1
  ·rw [if_pos ⟨by omega,c2⟩] at hv
   exact hs (p+1) (q+1) u v (by omega) (by omega) (by omega) hu hv
  ·rw [if_neg (by omega)] at hv
   by_cases c3:q=i - 1
   ·rw [if_pos c3,hx] at hv
    cases hv
    obtain ⟨y,hy,hc⟩:=hl.resolve_left (by omega)
    have hyx:Le cf y x:=ho.asym _ _ hc
    by_cases c4:p+1=i - 1
    ·rw [c4,hy] at hu
     cases hu
     exact hyx
    ·exact ho.trans u y x (hs (p+1) (i - 1) u y (by omega) (by omega) (by omega) hu hy) hyx
   ·rw [if_neg c3] at hv
    exact hs (p+1) q u v (by omega) (by omega) hq hu hv
 ·rw [if_neg (by omega)] at hu
  rw [if_neg (by omega),if_neg (by omega)] at hv
  by_cases c3:p=i - 1
  ·rw [if_pos c3,hx] at hu
   cases hu
   obtain ⟨y,hy,hc⟩:=hr.resolve_left (by omega)
   by_cases c4:q=i
   ·subst c4
    rw [hy] at hv
    cases hv
    exact hc
   ·exact ho.trans x y v hc (hs i q y v (by omega) (by omega) hq hy hv)
  ·rw [if_neg c3] at hu
   exact hs p q u v (by omega) hpq hq hu hv
def Mw (e d:List α) (m k:Nat):Prop:=e.length=d.length∧∀ p,e[p]? =if k < p∧p≤m then d[p - 1]? else if p=k then d[m]? else d[p]?
def Mw.refl (d:List α) (m:Nat):Mw d d m m:=⟨rfl,fun p=>by
 rw [if_neg (by omega)]
 split
 ·rename_i h;rw [h]
 ·rfl⟩
def Mw.step {e d:List α} {m k:Nat} {x y:α} (h:Mw e d m (k+1)) (hk:k+1≤m) (hx:e[k+1]? =some x) (hy:e[k]? =some y):Mw (swp e (k+1) k x y) d m k:=by
 refine ⟨(dp ..).trans h.1,fun p=>?_⟩
 have h1:=h.2 (k+1)
 have h2:=h.2 k
 rw [hx,if_neg (by omega),if_pos rfl] at h1
 rw [hy,if_neg (by omega),if_neg (by omega)] at h2
 rw [po hx hy,h.2 p]
 by_cases c1:p=k
 ·subst c1
  rw [if_pos rfl,if_neg (by omega),if_pos rfl,h1]
 ·rw [if_neg c1]
  by_cases c2:p=k+1
  ·subst c2
   rw [if_pos rfl,if_pos (by omega),h2]
   rfl
  ·rw [if_neg c2]
   by_cases c3:k+1 < p∧p≤m
   ·rw [if_pos c3,if_pos (by omega)]
   ·rw [if_neg c3,if_neg (by omega),if_neg (by omega),if_neg c1]
def Mw.sorted (ho:Ordr cf) {e d:List α} {a m i:Nat} {x:α} (hx:d[m]? =some x) (hs:Srt cf d a m) (h1:a≤i) (h2:i≤m) (hl:i=a∨∃ y,d[i - 1]? =some y∧¬ cf x y < 0) (hr:i=m∨∃ y,d[i]? =some y∧cf x y < 0) (h:Mw e d m i):Srt cf e a (m+1):=by
 intro p q u v hp hpq hq hu hv
 rw [h.2] at hu hv
 by_cases c1:i < p
 ·rw [if_pos (by omega)] at hu
  rw [if_pos (by omega)] at hv
  exact hs (p - 1) (q - 1) u v (by omega) (by omega) (by omega) hu hv
 ·rw [if_neg (by omega)] at hu
  by_cases c2:p=i
  ·rw [if_pos c2,hx] at hu
   cases hu
   rw [if_pos (by omega)] at hv
   obtain ⟨y,hy,hc⟩:=hr.resolve_left (by omega)
   have hxy:Le cf x y:=ho.asym _ _ hc
   by_cases c3:q - 1=i
   ·rw [c3,hy] at hv
    cases hv
    exact hxy
   ·exact ho.trans x y v hxy (hs i (q - 1) y v (by omega) (by omega) (by omega) hy hv)
  ·rw [if_neg c2] at hu
   by_cases c3:q=i
   ·rw [if_neg (by omega),if_pos c3,hx] at hv
    cases hv
    obtain ⟨y,hy,hc⟩:=hl.resolve_left (by omega)
    by_cases c4:p=i - 1
    ·rw [c4,hy] at hu
     cases hu
     exact hc
    ·exact ho.trans u y x (hs p (i - 1) u y hp (by omega) (by omega) hu hy) hc
   ·by_cases c4:i < q
    ·rw [if_pos (by omega)] at hv
     exact hs p (q - 1) u v hp (by omega) (by omega) hu hv
    ·rw [if_neg (by omega),if_neg c3] at hv
     exact hs p q u v hp hpq (by omega) hu hv
structure Sym (cf:α→α→Int) (d1 d:List α) (a m b S E mid:Nat):Prop where
 s1:Srt cf d1 a S
 s2:Srt cf d1 S mid
 s3:Srt cf d1 mid E
 s4:Srt cf d1 E b
 cross:∀ p q x y,a≤p→p < mid→mid≤q→q < b→d1[p]? =some x→d1[q]? =some y→Le cf x y
 mix:Mix d1 d a b
def sym_turn (ho:Ordr cf) {d:List α} {a m b S E mid:Nat} (h1:Srt cf d a m) (h2:Srt cf d m b) (hlen:b≤d.length) (haS:a≤S) (hSm:S≤m) (hmE:m≤E) (hEb:E≤b) (hmid:mid=S+(E - m))
  (hl:S=a∨E=b∨∃ x y,d[S - 1]? =some x∧d[E]? =some y∧¬ cf y x < 0) (hr:S=m∨E=m∨∃ x y,d[S]? =some x∧d[E - 1]? =some y∧cf y x < 0):Sym cf (rotL d S m E) d a m b S E mid:=by
 have hg:=fun p=>iq (d:=d) (a:=S) (m:=m) (b:=E) hSm hmE (by omega) p
 have lll:∀ p q x y,a≤p→p≤q→q < m→d[p]? =some x→d[q]? =some y→Le cf x y∨x=y:=fun p q x y hp hpq hq hx hy=>by
  by_cases hpq':p=q
  ·subst hpq';rw [hx] at hy;exact .inr (Option.some.inj hy)
  ·exact .inl (h1 p q x y hp (by omega) hq hx hy)
 have rrr:∀ p q x y,m≤p→p≤q→q < b→d[p]? =some x→d[q]? =some y→Le cf x y∨x=y:=fun p q x y hp hpq hq hx hy=>by
  by_cases hpq':p=q
  ·subst hpq';rw [hx] at hy;exact .inr (Option.some.inj hy)
  ·exact .inl (h2 p q x y hp (by omega) hq hx hy)
 have chain:∀ x u v y,(Le cf x u∨x=u)→Le cf u v→(Le cf v y∨v=y)→Le cf x y:=fun x u v y h3 h4 h5=>by
  have h6:Le cf x v:=by
   rcases h3 with h|h
   ·exact ho.trans _ _ _ h h4
   ·rw [h];exact h4
  rcases h5 with h|h
  ·exact ho.trans _ _ _ h6 h
  ·rw [←h];exact h6
 subst hmid
 refine ⟨fun p q x y hp hpq hq hx hy=>?_,fun p q x y hp hpq hq hx hy=>?_,fun p q x y hp hpq hq hx hy=>?_,fun p q x y hp hpq hq hx hy=>?_,fun p q x y hp hpm hmq hq hx hy=>?_,?_⟩
 ·rw [hg,if_pos (by omega)] at hx hy
  exact h1 p q x y hp hpq (by omega) hx hy
 ·rw [hg,if_neg (by omega),if_pos (by omega)] at hx hy
  exact h2 _ _ x y (by omega) (by omega) (by omega) hx hy
 ·rw [hg,if_neg (by omega),if_neg (by omega),if_pos (by omega)] at hx hy
  exact h1 _ _ x y (by omega) (by omega) (by omega) hx hy
 ·rw [hg,if_neg (by omega),if_neg (by omega),if_neg (by omega)] at hx hy
  exact h2 p q x y (by omega) hpq hq hx hy
 ·rw [hg] at hx hy
  rw [if_neg (by omega),if_neg (by omega)] at hy
  by_cases c1:p < S
  ·rw [if_pos c1] at hx
   by_cases c2:q < E
   ·rw [if_pos c2] at hy
    exact h1 _ _ x y hp (by omega) (by omega) hx hy
   ·rw [if_neg c2] at hy
    obtain ⟨u,v,hu,hv,hc⟩:=(hl.resolve_left (by omega)).resolve_left (by omega)
    exact chain x u v y (lll p (S - 1) x u hp (by omega) (by omega) hx hu) hc (rrr E q v y (by omega) (by omega) hq hv hy)
  ·rw [if_neg c1,if_pos (by omega)] at hx
   by_cases c2:q < E
   ·rw [if_pos c2] at hy
    obtain ⟨u,v,hu,hv,hc⟩:=(hr.resolve_left (by omega)).resolve_left (by omega)
    exact chain x v u y (rrr _ (E - 1) x v (by omega) (by omega) (by omega) hx hv) (ho.asym _ _ hc) (lll S _ u y haS (by omega) (by omega) hu hy)
   ·rw [if_neg c2] at hy
    exact h2 _ _ x y (by omega) (by omega) hq hx hy
 ·have hlenr:(rotL d S m E).length=d.length:=by
   unfold rotL
   simp only [qg,ql,zw]
   omega
  refine ⟨hlenr,fun p hp=>?_,fun p x hp hpb hx=>?_⟩
  ·rw [hg]
   rcases hp with hp|hp
   ·rw [if_pos (by omega)]
   ·rw [if_neg (by omega),if_neg (by omega),if_neg (by omega)]
  ·rw [hg] at hx
   split at hx
   ·exact ⟨p,hp,hpb,hx⟩
   ·split at hx
    ·exact ⟨_,by omega,by omega,hx⟩
    ·split at hx
     ·exact ⟨_,by omega,by omega,hx⟩
     ·exact ⟨p,hp,hpb,hx⟩
def Sym.done {d3 d2 d1 d:List α} {a m b S E mid:Nat} (h:Sym cf d1 d a m b S E mid) (ham:a≤mid) (hmb:mid≤b) (m2:Mix d2 d1 a mid) (s2:Srt cf d2 a mid) (m3:Mix d3 d2 mid b) (s3:Srt cf d3 mid b):Srt cf d3 a b∧Mix d3 d a b:=by
 refine ⟨Srt.join (s2.same m3.2.1 (.inl (qh _))) s3 fun p q x y hp hpm hmq hq hx hy=>?_,((m3.wide ham (qh _)).trans (m2.wide (qh _) hmb)).trans h.mix⟩
 rw [m3.2.1 p (.inl hpm)] at hx
 obtain ⟨p',hp1,hp2,hx'⟩:=m2.2.2 p x hp hpm hx
 obtain ⟨q',hq1,hq2,hy'⟩:=m3.2.2 q y hmq hq hy
 rw [m2.2.1 q' (.inr hq1)] at hy'
 exact h.cross p' q' x y hp1 hp2 hq1 hq2 hx' hy'
end
section
variable {α:Type} {cf:α→α→Int}
def Blks (cf:α→α→Int) (e:List α) (s n i:Nat):Prop:=∀ r,i≤r * s→Srt cf e (r * s) (min (r * s+s) n)
def Done (cf:α→α→Int) (e:List α) (t i:Nat):Prop:=∀ r,r * t+t≤i→Srt cf e (r * t) (r * t+t)
def Done.zero (e:List α) {t:Nat} (ht:0 < t):Done cf e t 0:=fun r h=>by omega
def Done.step {e e':List α} {t q a:Nat} (ha:a=q * t) (ht:0 < t) (h:Done cf e t a) (hm:Mix e' e a (a+t)) (hs:Srt cf e' a (a+t)):Done cf e' t (a+t):=fun r hr=>by
 by_cases h1:r * t+t≤a
 ·exact (h r h1).same hm.2.1 (.inl h1)
 ·have e1:r≤q:=Nat.le_of_mul_le_mul_right (by omega:r * t≤q * t) ht
  have e2:q < r+1:=Nat.lt_of_mul_lt_mul_right (by rw [uz];omega:q * t < (r+1) * t)
  obtain rfl:r=q:=by omega
  rw [←ha]
  exact hs
def dh {e:List α} {s n q a:Nat} (ha:a=q * s) (hs0:0 < s) (h:Done cf e s a) (hb:n < a+s) (hl:Srt cf e a n):Blks cf e s n 0:=fun r _=>by
 by_cases h1:r * s+s≤a
 ·exact (h r h1).less (qh _) (by omega)
 ·have e2:q < r+1:=Nat.lt_of_mul_lt_mul_right (by rw [uz];omega:q * s < (r+1) * s)
  by_cases h2:r=q
  ·subst h2
   rw [←ha]
   exact hl.less (qh _) (by omega)
  ·have e3:(q+1) * s≤r * s:=yy s (by omega)
   rw [uz] at e3
   exact Srt.short _ (by omega)
def Blks.two {e:List α} {s n q a:Nat} (ha:a=q * (2 * s)) (h:Blks cf e s n a) (hb:a+2 * s≤n):Srt cf e a (a+s)∧Srt cf e (a+s) (a+2 * s):=by
 have h1:=h (2 * q) (by rw [ha,jf 2 q,Nat.mul_assoc];exact qh _)
 have h2:=h (2 * q+1) (by rw [ha,uz,jf 2 q,Nat.mul_assoc];omega)
 rw [uz,Nat.one_mul] at h2
 rw [show 2 * q * s=a by rw [ha,jf 2 q,Nat.mul_assoc]] at h1 h2
 exact ⟨h1.less (qh _) (by omega),h2.less (qh _) (by omega)⟩
def Blks.end_ {e:List α} {s n q a:Nat} (ha:a=q * (2 * s)) (h:Blks cf e s n a) (hb:n < a+2 * s):Srt cf e a (min (a+s) n)∧Srt cf e (a+s) n:=by
 have h1:=h (2 * q) (by rw [ha,jf 2 q,Nat.mul_assoc];exact qh _)
 have h2:=h (2 * q+1) (by rw [ha,uz,jf 2 q,Nat.mul_assoc];omega)
 rw [uz,Nat.one_mul] at h2
 rw [show 2 * q * s=a by rw [ha,jf 2 q,Nat.mul_assoc]] at h1 h2
 exact ⟨h1,h2.less (qh _) (by omega)⟩
def Blks.step {e e':List α} {s n a:Nat} (h:Blks cf e s n a) (hm:Mix e' e a (a+2 * s)):Blks cf e' s n (a+2 * s):=fun r hr=>(h r (by omega)).same hm.2.1 (.inr hr)
def Blks.whole {e:List α} {s n:Nat} (h:Blks cf e s n 0) (hs:n≤s):Srt cf e 0 n:=by
 have:=h 0 (qr _)
 rw [yo] at this
 exact this.less (qh _) (by omega)
end
structure Tri {α:Type} (c:α→α→Int):Prop where
 anti:∀ x y,c y x=- c x y
 trans:∀ x y z,c x y≤0→c y z≤0→c x z≤0
def Tri.ordr {α:Type} {c:α→α→Int} (h:Tri c):Ordr c:=⟨fun x y h1 h2=>by
 have:=h.anti x y
 omega,fun x y z h1 h2 h3=>by
 unfold Le at h1 h2
 have a1:=h.anti x y
 have a2:=h.anti y z
 have a3:=h.anti x z
 have:=h.trans x y z (by omega) (by omega)
 omega⟩
def Tri.refl {α:Type} {c:α→α→Int} (h:Tri c) (x:α):c x x=0:=by have:=h.anti x x;omega
def lex2 {α:Type} (c d:α→α→Int) (x y:α):Int:=if c x y=0 then d x y else c x y
def Tri.lex {α:Type} {c d:α→α→Int} (hc:Tri c) (hd:Tri d):Tri (lex2 c d):=by
 refine ⟨fun x y=>?_,fun x y z h1 h2=>?_⟩
 ·unfold lex2
  have a1:=hc.anti x y
  have a2:=hd.anti x y
  by_cases h:c x y=0
  ·rw [if_pos h,if_pos (by omega)];exact a2
  ·rw [if_neg h,if_neg (by omega)];exact a1
 ·unfold lex2 at *
  have a1:=hc.anti x y
  have a2:=hc.anti y z
  have a3:=hc.anti x z
  have t1:=hc.trans x y z
  have t2:=hc.trans z x y
  have t3:=hc.trans y z x
  have t4:=hc.trans z y x
  have t5:=hd.trans x y z
  by_cases e1:c x y=0 <;> by_cases e2:c y z=0 <;> by_cases e3:c x z=0 <;> simp only [e1,e2,e3,if_true,if_false,if_pos,if_neg,not_false_eq_true] at h1 h2⊢ <;> first|omega|exact t5 h1 h2
def Tri.pull {α β:Type} {c:α→α→Int} (h:Tri c) (f:β→α):Tri (fun x y=>c (f x) (f y)):=⟨fun x y=>h.anti _ _,fun x y z=>h.trans _ _ _⟩
def cmpI (a b:Int):Int:=if a < b then -1 else if b < a then 1 else 0
def tri_int:Tri cmpI:=⟨fun x y=>by unfold cmpI;repeat' split <;> omega,fun x y z=>by unfold cmpI;repeat' split <;> omega⟩
def ru {a b:Int}:cmpI a b=0↔a=b:=by unfold cmpI;repeat' split <;> omega
def cmpL {α:Type} (c:α→α→Int):List α→List α→Int
 | [],[]=>0
 | [],_::_=>-1
 |_::_,[]=>1
 |x::xs,y::ys=>if c x y=0 then cmpL c xs ys else c x y
def sd {α:Type} {c:α→α→Int} (h:Tri c):Tri (cmpL c):=by
 have ha:∀ x y,cmpL c y x=- cmpL c x y:=by
  intro x
  induction x with
  |nil=>intro y;cases y <;> rfl
  |cons a x ih=>
   intro y
   cases y with
   |nil=>rfl
   |cons b y=>
    simp only [cmpL]
    have:=h.anti a b
    by_cases e:c a b=0
    ·rw [if_pos e,if_pos (by omega)];exact ih y
    ·rw [if_neg e,if_neg (by omega)];exact this
 refine ⟨ha,?_⟩
 intro x
 induction x with
 |nil=>
  intro y z h1 h2
  cases z with
  |nil=>exact yk 0
  |cons d z=>show (-1:Int)≤0;omega
 |cons a x ih=>
  intro y z h1 h2
  cases y with
  |nil=>simp [cmpL] at h1
  |cons b y=>
   cases z with
   |nil=>simp [cmpL] at h2
   |cons d z=>
    simp only [cmpL] at h1 h2⊢
    have a1:=h.anti a b
    have a2:=h.anti b d
    have a3:=h.anti a d
    have t1:=h.trans a b d
    have t2:=h.trans d a b
    have t3:=h.trans b d a
    have t4:=h.trans d b a
    have t5:=ih y z
    by_cases e1:c a b=0 <;> by_cases e2:c b d=0 <;> by_cases e3:c a d=0 <;> simp only [e1,e2,e3,if_true,if_false,if_pos,if_neg,not_false_eq_true] at h1 h2⊢ <;> first|omega|exact t5 h1 h2
def qbo {α:Type} {c:α→α→Int} (h:∀ x y,c x y=0↔x=y):∀ {x y:List α},cmpL c x y=0↔x=y
 | [],[]=>by simp [cmpL]
 | [],_::_=>by simp [cmpL]
 |_::_,[]=>by simp [cmpL]
 |a::x,b::y=>by
  simp only [cmpL,List.cons.injEq]
  by_cases e:c a b=0
  ·rw [if_pos e,qbo h]
   have:=(h a b).1 e
   simp [this]
  ·rw [if_neg e]
   have:a≠b:=fun he=>e ((h a b).2 he)
   simp [this,e]
def cmpB (a b:UInt8):Int:=if a < b then -1 else if b < a then 1 else 0
def eh (a b:UInt8):cmpB a b=cmpI a.toNat b.toNat:=by
 unfold cmpB cmpI
 simp only [UInt8.lt_iff_toNat_lt]
 repeat' split <;> omega
def sy:∀ (a b:List UInt8),Lib.compareBytes a b=cmpL cmpB a b
 | [],[]=>rfl
 | [],_::_=>rfl
 |_::_,[]=>rfl
 |a::xs,b::ys=>by
  simp only [Lib.compareBytes,cmpL,cmpB]
  rw [sy xs ys]
  by_cases h1:a < b
  ·simp [h1]
  ·by_cases h2:b < a
   ·simp [h1,h2]
   ·simp [h1,h2]
def tri_byte:Tri cmpB:=by
 have:=tri_int.pull (fun a:UInt8=>(a.toNat:Int))
 have he:cmpB=fun x y=>cmpI (x.toNat:Int) (y.toNat:Int):=by funext x y;exact eh x y
 rw [he]
 exact this
def cmpS (a b:ByteArray):Int:=Lib.compareBytes a.data.toList b.data.toList
def tri_str:Tri cmpS:=by
 have:=(sd tri_byte).pull (fun a:ByteArray=>a.data.toList)
 have he:cmpS=fun x y=>cmpL cmpB x.data.toList y.data.toList:=by funext x y;exact sy _ _
 rw [he]
 exact this
def qbm {a b:ByteArray}:cmpS a b=0↔a=b:=by
 unfold cmpS
 rw [sy,qbo (fun x y=>by rw [eh,ru];exact ⟨fun h=>UInt8.toNat_inj.1 (by omega),fun h=>by rw [h]⟩)]
 exact ⟨fun h=>ByteArray.ext (Array.toList_inj.mp h),fun h=>by rw [h]⟩
structure Vl where
 k:Int
 i:Int
 t:ByteArray
 deriving DecidableEq
def keyI (v:Vl):Int:=if v.k=1 then v.i else 0
def keyT (v:Vl):ByteArray:=if v.k=2∨v.k=3 then v.t else ⟨#[]⟩
def cmpV:Vl→Vl→Int:=lex2 (fun a b=>cmpI a.k b.k) (lex2 (fun a b=>cmpI (keyI a) (keyI b)) (fun a b=>cmpS (keyT a) (keyT b)))
def no:Tri cmpV:=(tri_int.pull Vl.k).lex ((tri_int.pull keyI).lex (tri_str.pull keyT))
def sx (a b:Vl):cmpV a b=if cmpI a.k b.k=0 then (if a.k=1 then cmpI a.i b.i else if a.k=2∨a.k=3 then cmpS a.t b.t else 0) else cmpI a.k b.k:=by
 unfold cmpV lex2
 by_cases h:cmpI a.k b.k=0
 ·rw [if_pos h,if_pos h]
  have hk:=ru.1 h
  unfold keyI keyT
  simp only [←hk]
  by_cases h1:a.k=1
  ·have h2:¬ (a.k=2∨a.k=3):=by omega
   rw [if_pos h1,if_pos h1,if_pos h1,if_neg h2,if_neg h2,tri_str.refl]
   split
   ·rename_i h;exact h.symm
   ·rfl
  ·rw [if_neg h1,if_neg h1,if_neg h1,if_pos (tri_int.refl 0)]
   by_cases h2:a.k=2∨a.k=3
   ·rw [if_pos h2,if_pos h2,if_pos h2]
   ·rw [if_neg h2,if_neg h2,if_neg h2,tri_str.refl]
 ·rw [if_neg h,if_neg h]
structure Rw where
 name:ByteArray
 args:List Vl
 stamp:Int
 deriving DecidableEq
def cmpR:Rw→Rw→Int:=lex2 (fun a b=>cmpS a.name b.name) (fun a b=>cmpL cmpV a.args b.args)
def pp:Tri cmpR:=(tri_str.pull Rw.name).lex ((sd no).pull Rw.args)
def cmpM:Rw→Rw→Int:=lex2 cmpR (fun a b=>cmpI b.stamp a.stamp)
def tri_merge:Tri cmpM:=pp.lex ⟨fun x y=>tri_int.anti _ _,fun x y z h1 h2=>tri_int.trans _ _ _ h2 h1⟩
section
variable {α:Type}
def keepB (q:α→α→Bool) (d:List α) (t:Nat):Bool:=t == 0||match d[t]?,d[t - 1]? with|some y,some x=>!q y x|_,_=>true
def cptN (q:α→α→Bool) (d:List α) (t:Nat):List α:=((List.range t).filter (keepB q d)).filterMap (fun i=>d[i]?)
def qbu (q:α→α→Bool) (d:List α):cptN q d 0=[]:=rfl
def mm {q:α→α→Bool} {d:List α} {t:Nat} {y:α} (hy:d[t]? =some y):cptN q d (t+1)=cptN q d t++(if keepB q d t=true then [y] else []):=by
 unfold cptN
 rw [List.range_succ,uf,yz]
 by_cases h:keepB q d t=true
 ·rw [if_pos h]
  simp [h,hy]
 ·rw [if_neg h]
  simp [h]
def lq {q:α→α→Bool} {d:List α} {t:Nat} {x y:α} (hy:d[t+1]? =some y) (hx:d[t]? =some x):keepB q d (t+1)=!q y x:=by
 unfold keepB
 rw [hy,Nat.add_sub_cancel,hx]
 rfl
def mu {q:α→α→Bool} {d:List α}:∀ {t:Nat},t≤d.length→(∀ i,i < t→keepB q d i=true)→cptN q d t=d.take t
 |0,_,_=>by rw [qbu,List.take_zero]
 |t+1,ht,h=>by
  have hy:d[t]? =some d[t]:=qz (by omega)
  rw [mm hy,if_pos (h t (by omega)),mu (by omega) (fun i hi=>h i (by omega))]
  rw [List.take_add_one,hy]
  rfl
def cptN_le {q:α→α→Bool} {d:List α} (t:Nat):(cptN q d t).length≤t:=by
 unfold cptN
 refine qb (jd _ _) (qb (jc _ _) ?_)
 simp
def ii {q:α→α→Bool} {d:List α} {t:Nat} {x:α} (h:x∈cptN q d t):x∈d:=by
 unfold cptN at h
 obtain ⟨i,_,hi⟩:=zr.1 h
 exact qf hi
end
structure IsMerge (rs out:List Rw):Prop where
 up:out.Pairwise (fun a b=>cmpR a b < 0)
 sub:∀ r∈out,r∈rs
 all:∀ r∈rs,∃ s∈out,cmpR s r=0∧r.stamp≤s.stamp
def eqR (y x:Rw):Bool:=decide (cmpR y x=0)
def dt {x y z:Rw} (h1:cmpR x y=0) (h2:cmpR y z=0):cmpR x z=0:=by
 have a1:=pp.anti x y
 have a2:=pp.anti y z
 have a3:=pp.anti x z
 have t1:=pp.trans x y z (by omega) (by omega)
 have t2:=pp.trans z y x (by omega) (by omega)
 omega
def ej {x y:Rw} (h:cmpM x y≤0):cmpR x y≤0∧(cmpR x y=0→y.stamp≤x.stamp):=by
 unfold cmpM lex2 at h
 by_cases h0:cmpR x y=0
 ·rw [if_pos h0] at h
  refine ⟨by omega,fun _=>?_⟩
  change cmpI y.stamp x.stamp≤0 at h
  unfold cmpI at h
  by_cases c1:y.stamp < x.stamp
  ·omega
  ·rw [if_neg c1] at h
   by_cases c2:x.stamp < y.stamp
   ·rw [if_pos c2] at h;omega
   ·omega
 ·rw [if_neg h0] at h
  exact ⟨h,fun h1=>absurd h1 h0⟩
def qdi {d:List Rw} (hs:∀ (p q:Nat) (x y:Rw),p < q→d[p]? =some x→d[q]? =some y→cmpM x y≤0):IsMerge d (cptN eqR d d.length):=by
 have hmem:∀ {x:Rw} {i:Nat},d[i]? =some x→keepB eqR d i=true→x∈cptN eqR d d.length:=fun {x i} hx hk=>by
  unfold cptN
  exact zr.2 ⟨i,zc.2 ⟨zu.2 (qv.1 hx).1,hk⟩,hx⟩
 refine ⟨?_,fun r hr=>ii hr,fun r hr=>?_⟩
 ·unfold cptN
  have hp:((List.range d.length).filter (keepB eqR d)).Pairwise (fun (a b:Nat)=>a < b∧keepB eqR d b=true):=by
   have h1:((List.range d.length).filter (keepB eqR d)).Pairwise (fun (a b:Nat)=>a < b):=List.Pairwise.filter _ (List.pairwise_lt_range (n:=d.length))
   exact List.Pairwise.imp_of_mem (fun {a b} _ hb hab=>⟨hab,(zc.1 hb).2⟩) h1
  rw [List.pairwise_filterMap]
  refine hp.imp ?_
  rintro a b ⟨hab,hk⟩ x hx y hy
  obtain ⟨c,rfl⟩:∃ c,b=c+1:=⟨b - 1,by omega⟩
  have hlt:=(qv.1 hy).1
  have hz:d[c]? =some d[c]:=qz (by omega)
  rw [lq hy hz] at hk
  have hne:cmpR y d[c]≠0:=by
   unfold eqR at hk
   simpa using hk
  have h1:=(ej (hs c (c+1) d[c] y (by omega) hz hy)).1
  have a1:=pp.anti d[c] y
  by_cases hac:a=c
  ·subst hac
   rw [hx] at hz
   have:=Option.some.inj hz
   rw [←this] at h1 a1 hne
   omega
  ·have h2:=(ej (hs a c x d[c] (by omega) hx hz)).1
   have h3:=pp.trans x d[c] y h2 (by omega)
   have a2:=pp.anti x y
   have a3:=pp.anti x d[c]
   have h4:=pp.trans y x d[c]
   omega
 ·obtain ⟨i,hi,rfl⟩:=zt hr
  have key:∀ (i:Nat) (x:Rw),d[i]? =some x→∃ j y,d[j]? =some y∧keepB eqR d j=true∧cmpR y x=0∧x.stamp≤y.stamp:=by
   intro i
   induction i with
   |zero=>exact fun x hx=>⟨0,x,hx,rfl,pp.refl x,yk _⟩
   |succ i ih=>
    intro x hx
    by_cases hk:keepB eqR d (i+1)=true
    ·exact ⟨i+1,x,hx,hk,pp.refl x,yk _⟩
    ·have hlt:=(qv.1 hx).1
     have hz:d[i]? =some d[i]:=qz (by omega)
     rw [lq hx hz] at hk
     have he:cmpR x d[i]=0:=by
      unfold eqR at hk
      simpa using hk
     have he2:cmpR d[i] x=0:=by have:=pp.anti x d[i];omega
     have hst:=(ej (hs i (i+1) d[i] x (by omega) hz hx)).2 he2
     obtain ⟨j,y,hy,hkj,h1,h2⟩:=ih d[i] hz
     exact ⟨j,y,hy,hkj,dt h1 he2,by omega⟩
  obtain ⟨j,y,hy,hk,h1,h2⟩:=key i d[i] (qz hi)
  exact ⟨y,hmem hy hk,h1,h2⟩
def IsMerge.perm {rs d out:List Rw} (h:IsMerge d out) (hp:d.Perm rs):IsMerge rs out:=⟨h.up,fun r hr=>hp.mem_iff.1 (h.sub r hr),fun r hr=>h.all r (hp.mem_iff.2 hr)⟩
def cptN_map {α β:Type} {q:α→α→Bool} {q':β→β→Bool} {f:α→β} {d:List α} (h:∀ x y,q x y=q' (f x) (f y)) (t:Nat):(cptN q d t).map f=cptN q' (d.map f) t:=by
 unfold cptN
 have hk:∀ i,keepB q d i=keepB q' (d.map f) i:=by
  intro i
  unfold keepB
  rw [qa,qa]
  congr 1
  cases d[i]? <;> cases d[i - 1]? <;> simp [h]
 rw [List.map_filterMap,List.filter_congr (fun i _=>hk i)]
 congr 1
 funext i
 rw [qa]
def canon (v:Vl):Prop:=(v.k=3∧v.i=0)∨(v.k=1∧v.t=⟨#[]⟩)
def canonR (r:Rw):Prop:=∀ u∈r.args,canon u
def canon_eq {u v:Vl} (hu:canon u) (hv:canon v) (h:cmpV u v=0):u=v:=by
 rw [sx] at h
 by_cases hk:cmpI u.k v.k=0
 ·rw [if_pos hk] at h
  have hk':=ru.1 hk
  cases u with
  |mk uk ui ut=>
   cases v with
   |mk vk vi vt=>
    simp only at hk'
    rcases hu with ⟨h1,h2⟩| ⟨h1,h2⟩ <;> rcases hv with ⟨h3,h4⟩| ⟨h3,h4⟩ <;> simp only at h1 h2 h3 h4
    ·subst h1 h2 h3 h4
     rw [if_neg (by simp),if_pos (by simp)] at h
     have:=qbm.1 h
     simp only at this
     rw [this]
    ·omega
    ·omega
    ·subst h1 h2 h3 h4
     rw [if_pos (by simp)] at h
     have:=ru.1 h
     simp only at this
     rw [this]
 ·rw [if_neg hk] at h
  exact absurd h hk
def mo:∀ {x y:List Vl},(∀ u∈x,canon u)→(∀ u∈y,canon u)→cmpL cmpV x y=0→x=y
 | [],[],_,_,_=>rfl
 | [],_::_,_,_,h=>by simp [cmpL] at h
 |_::_,[],_,_,h=>by simp [cmpL] at h
 |a::x,b::y,hx,hy,h=>by
  simp only [cmpL] at h
  by_cases e:cmpV a b=0
  ·rw [if_pos e] at h
   rw [canon_eq (hx a (by simp)) (hy b (by simp)) e,mo (fun u hu=>hx u (by simp [hu])) (fun u hu=>hy u (by simp [hu])) h]
  ·rw [if_neg e] at h
   exact absurd h e
def de {r s:Rw} (hr:canonR r) (hs:canonR s) (h:cmpR r s=0):r.name=s.name∧r.args=s.args:=by
 unfold cmpR lex2 at h
 by_cases e:cmpS r.name s.name=0
 ·rw [if_pos e] at h
  exact ⟨qbm.1 e,mo hr hs h⟩
 ·rw [if_neg e] at h
  exact absurd h e
def ou {r s:Rw} (hr:canonR r) (hs:canonR s) (h:cmpR r s=0) (ht:r.stamp=s.stamp):r=s:=by
 obtain ⟨h1,h2⟩:=de hr hs h
 cases r;cases s
 simp only at h1 h2 ht
 rw [h1,h2,ht]
def ms {α:Type} {lt:α→α→Prop} (hi:∀ x,¬ lt x x) (hs:∀ x y,lt x y→¬ lt y x):∀ {a b:List α},a.Pairwise lt→b.Pairwise lt→(∀ x,x∈a↔x∈b)→a=b
 | [],[],_,_,_=>rfl
 | [],y::b,_,_,h=>by have:=(h y).2 (by simp);cases this
 |x::a,[],_,_,h=>by have:=(h x).1 (by simp);cases this
 |x::a,y::b,ha,hb,h=>by
  rw [yn] at ha hb
  have hxy:x=y:=by
   rcases qp.1 ((h x).1 (by simp)) with e|hx
   ·exact e
   ·rcases qp.1 ((h y).2 (by simp)) with e|hy
    ·exact e.symm
    ·exact absurd (ha.1 y hy) (hs _ _ (hb.1 x hx))
  subst hxy
  rw [ms hi hs ha.2 hb.2 (fun z=>?_)]
  constructor
  ·intro hz
   rcases qp.1 ((h z).1 (by simp [hz])) with e|h'
   ·subst e;exact absurd (ha.1 z hz) (hi z)
   ·exact h'
  ·intro hz
   rcases qp.1 ((h z).2 (by simp [hz])) with e|h'
   ·subst e;exact absurd (hb.1 z hz) (hi z)
   ·exact h'
def sk (x:Rw):¬ cmpR x x < 0:=by rw [pp.refl];omega
def io (x y:Rw) (h:cmpR x y < 0):¬ cmpR y x < 0:=by have:=pp.anti x y;omega
def aq {a:List Rw} (h:a.Pairwise (fun x y=>cmpR x y < 0)) {x y:Rw} (hx:x∈a) (hy:y∈a) (he:cmpR x y=0):x=y:=by
 induction a with
 |nil=>cases hx
 |cons z a ih=>
  rw [yn] at h
  have he':cmpR y x=0:=by have:=pp.anti x y;omega
  rcases qp.1 hx with e1|h1 <;> rcases qp.1 hy with e2|h2
  ·rw [e1,e2]
  ·subst e1;have:=h.1 y h2;omega
  ·subst e2;have:=h.1 x h1;omega
  ·exact ih h.2 h1 h2
def wi {rs a b:List Rw} (hc:∀ r∈rs,canonR r) (ha:IsMerge rs a) (hb:IsMerge rs b) {r:Rw} (hr:r∈a):r∈b:=by
 obtain ⟨s,hs,e1,l1⟩:=hb.all r (ha.sub r hr)
 obtain ⟨t,ht,e2,l2⟩:=ha.all s (hb.sub s hs)
 have e3:=dt e2 e1
 have:=aq ha.up ht hr e3
 subst this
 rw [←ou (hc s (hb.sub s hs)) (hc t (ha.sub t hr)) e1 (by omega)]
 exact hs
def cg {rs a b:List Rw} (hc:∀ r∈rs,canonR r) (ha:IsMerge rs a) (hb:IsMerge rs b):a=b:=
 ms (lt:=fun x y=>cmpR x y < 0) sk io ha.up hb.up (fun x=>⟨wi hc ha hb,wi hc hb ha⟩)
def ct {a:List Rw} (h:a.Pairwise (fun x y=>cmpR x y < 0)):IsMerge a a:=⟨h,fun _ h=>h,fun r hr=>⟨r,hr,pp.refl r,yk _⟩⟩
def findS (l:List Rw) (x:Rw):Int:=match l.find? (fun s=>decide (cmpR s x=0)) with|some s=>s.stamp|none=>-1
def qaq {l:List Rw} {x:Rw} (h:∀ s∈l,cmpR s x≠0):findS l x=-1:=by
 unfold findS
 rw [uh.2 (fun s hs=>by simpa using h s hs)]
open Go.RowKit
def slot (a:Act) (t:Nat):Value:=a.tmps.getD t undef
section
variable (md:Region.Mode) (ops:Array Oper)
def ahead:Nat→Nat→Nat→Bool
 |0,_,_=>false
 |f+1,i,j=>match ops[j]? with
  |some o=>o.after.any fun e=>Region.binds md e&&(e.on == i||ahead f i e.on)
  |none=>false
def dstOf (i:Nat):Option Tmp:=(ops[i]?).bind (·.dst)
def looks (i:Nat):List Tmp:=match ops[i]? with|some o=>o.looksAt ops|none=>[]
def headsB (n:Nat):Bool:=
 decide (n≤ops.size)&&
 (List.range ops.size).all (fun i=>match ops[i]? with|some o=>o.after.all fun e=>!Region.binds md e||decide (e.on < i)|none=>true)&&
 (List.range ops.size).all (fun t=>decide (t < n)||(List.range t).all fun i=>ahead md ops ops.size i t)&&
 (List.range n).all (fun i=>(List.range n).all fun j=>i == j||(dstOf ops i).isNone||dstOf ops i != dstOf ops j)&&
 (List.range n).all (fun i=>(match ops[i]? with|some o=>o.guard.isNone&&!(match o.op with| .select _ _=>true|_=>false)|none=>false)&&(List.range n).all fun j=>match dstOf ops j with|some d=>!(looks ops i).contains d||ahead md ops ops.size j i||ahead md ops ops.size i j|none=>true)
end
def Gives (P:Program) (o:Oper) (ρ:Operand→Value) (W:World) (R:Value→World→Prop):Prop:=
 (∃ v W',(execOp ρ o).run P W=.ok (.value v) W'∧R v W')∨(∃ W',(execOp ρ o).run P W=.ok .skip W'∧R undef W')∨
 (∃ f args W',(execOp ρ o).run P W=.ok (.enter f args) W'∧Calls P f args W' fun e W''=>∃ v,e=.returned v∧R v W'')
def Gives.wp {P:Program} {o:Oper} {a:Act} {W:World} {R:Value→World→Prop} {K:Act→World→Prop} {Q:Exit→Act→World→Prop} (h:Gives P o a.eval W R) (hk:∀ v W',R v W'→K (a.put o.dst v) W'):o.wp P a W K Q:=by
 unfold Oper.wp
 rcases h with ⟨v,W',hr,h⟩| ⟨W',hr,h⟩| ⟨f,args,W',hr,h⟩
 ·rw [hr]
  exact hk _ _ h
 ·rw [hr]
  exact hk _ _ h
 ·rw [hr]
  exact h.mono fun e W'' ⟨v,he,hR⟩=>by
   subst he
   exact hk _ _ hR
def Gives.value {P:Program} {o:Oper} {ρ:Operand→Value} {W W':World} {R:Value→World→Prop} {v:Value} (hr:(execOp ρ o).run P W=.ok (.value v) W') (h:R v W'):Gives P o ρ W R:=.inl ⟨v,W',hr,h⟩
def Gives.call {P:Program} {o:Oper} {ρ:Operand→Value} {W W':World} {R:Value→World→Prop} {f:FuncId} {args:Array Value} (hr:(execOp ρ o).run P W=.ok (.enter f args) W') (h:Calls P f args W' fun e W''=>∃ v,e=.returned v∧R v W''):Gives P o ρ W R:=.inr (.inr ⟨f,args,W',hr,h⟩)
section
variable {md:Region.Mode} {ops:Array Oper}
def xk {listed:Array Bool} (hc:∀ j oj,ops[j]? =some oj→listed.getD j false=true→∀ e∈oj.after,Region.binds md e=true→listed.getD e.on false=true):
  ∀ (f i j:Nat),ahead md ops f i j=true→(∀ oj,ops[j]? =some oj→∀ e∈oj.after,Region.binds md e=true→listed.getD e.on false=true)→listed.getD i false=true
 |0,_,_,h,_=>by simp [ahead] at h
 |f+1,i,j,h,hj=>by
  unfold ahead at h
  split at h
  ·rename_i o ho
   obtain ⟨e,he,hb⟩:=Array.any_eq_true'.1 h
   simp only [qt,zg,beq_iff_eq] at hb
   have hl:=hj o ho e he hb.1
   rcases hb.2 with h1|h1
   ·rw [←h1];exact hl
   ·exact xk hc f i e.on h1 (fun oj hoj=>hc e.on oj hoj hl)
  ·cases h
end
section
variable {P:Program} {md:Region.Mode} {ops:Array Oper} {Q:Exit→Act→World→Prop} {n:Nat} {Φ:Nat→Value→World→Prop} {a0:Act} {w0:World}
def gh {a:Act} {d:Nat} {v:Value} (h:d < a.tmps.size):slot (a.put (some d) v) d=v:=by simp [slot,Act.put,h]
def gp {a:Act} {dst:Option Tmp} {t:Nat} {v:Value} (h:dst≠some t):slot (a.put dst v) t=slot a t:=by
 cases dst with
 |none=>rfl
 |some d=>
  have hne:d≠t:=fun e=>h (by rw [e])
  simp [slot,Act.put,Array.getElem?_setIfInBounds_ne hne]
def pv (a:Act) (dst:Option Tmp) (v:Value):(a.put dst v).defers=a.defers:=by cases dst <;> rfl
def dc (a:Act) (dst:Option Tmp) (v:Value):(a.put dst v).tmps.size=a.tmps.size:=by cases dst <;> simp [Act.put]
def xj {l:Array Bool} {i j:Nat} (hi:i < l.size):(l.setIfInBounds i true).getD j false=if i=j then true else l.getD j false:=by
 by_cases h:i=j
 ·subst h
  simp [hi]
 ·simp [h,Array.getElem?_setIfInBounds_ne h]
def py:∀ (l:List Nat) (p q:Nat→Bool) (i:Nat),l.Nodup→i∈l→p i=true→q i=false→(∀ j,j≠i→q j=p j)→(l.filter q).length+1=(l.filter p).length
 | [],_,_,_,_,h,_,_,_=>by cases h
 |x::l,p,q,i,hn,hi,hp,hq,hj=>by
  rw [List.nodup_cons] at hn
  by_cases hx:x=i
  ·subst hx
   have he:l.filter q=l.filter p:=List.filter_congr fun y hy=>hj y fun e=>hn.1 (e▸hy)
   rw [List.filter_cons_of_neg (by simp [hq]),List.filter_cons_of_pos hp,he,zf]
  ·have hil:i∈l:=by
    rcases qp.1 hi with h|h
    ·exact absurd h.symm hx
    ·exact h
   have ih:=py l p q i hn.2 hil hp hq hj
   have hqx:=hj x hx
   by_cases hpx:p x=true
   ·rw [List.filter_cons_of_pos (by rw [hqx];exact hpx),List.filter_cons_of_pos hpx,zf,zf]
    omega
   ·rw [List.filter_cons_of_neg (by rw [hqx];exact hpx),List.filter_cons_of_neg hpx]
    exact ih
def Gives.same {o:Oper} {ρ:Operand→Value} {W:World} {Φ:Value→World→Prop} {v:Value} (hr:(execOp ρ o).run P W=.ok (.value v) W) (h:Φ v W):Gives P o ρ W fun v W'=>New W W'∧Φ v W':=.value hr ⟨Chg.refl _ _,h⟩
end
def qbs (a:Act) (n:Nat) (d:List Deferred) (h:a.tmps.size=n) (hd:a.defers=d):a=⟨((List.range n).map (slot a)).toArray,d⟩:=by
 obtain ⟨tmps,defers⟩:=a
 subst hd
 simp only [Act.mk.injEq,and_true]
 apply Array.ext
 ·simpa using h
 ·intro i h1 h2
  simp [slot,h1]
def ga {fn:Func} {p:Tmp} {ty:TypeId} (h:fn.results=#[.cell p ty]) (tmps:Array Value) (P:Program) (w:World):
  (results fn tmps).run P w=((asAddr (tmps.getD p undef)).run P w).andThen fun a w₁=>(loadVar ty a).run P w₁:=by
 simp only [results,h]
 simp [Sem.run_bind,Result.andThen]
def AtN (P:Program) (ops:Array Oper) (Q:Exit→Act→World→Prop) (n:Nat) (a:Act) (w:World):Prop:=
 ∀ fuel (listed:Array Bool),listed.size=ops.size→(∀ i,listed.getD i false=decide (i < n))→ops.size≤n+fuel→wpAny P .any ops Q fuel listed a w
def backB (ops:Array Oper):Bool:=(List.range ops.size).all (fun i=>match ops[i]? with|some o=>o.after.all fun e=>!Region.binds .any e||decide (e.on < i)|none=>true)
def wallB (ops:Array Oper) (n m:Nat):Bool:=(List.range ops.size).all fun t=>decide (t < m)||(List.range m).all fun i=>decide (i < n)||ahead .any ops ops.size i t
section
variable {P:Program} {ops:Array Oper} {Q:Exit→Act→World→Prop} {a:Act} {w:World}
def vj {id:Nat} (hm:P.follows .mixedOrders=true) (h:AtN P ops Q 0 a w.drew):(Code.region id ops true).wp P Q a w:=by
 refine wp_region_any hm ?_
 refine h _ _ (by simp) (fun i=>?_) (by omega)
 rcases jl i ops.size with h|h <;> simp [h]
def AtN.done {n:Nat} (hn:n=ops.size) (h:Q .normal a w):AtN P ops Q n a w:=by
 subst hn
 intro fuel listed hls hl hf
 have hr:Region.ready .any ops listed=[]:=by
  cases hr:Region.ready .any ops listed with
  |nil=>rfl
  |cons x l=>
   have hx:x∈Region.ready .any ops listed:=by rw [hr];simp
   obtain ⟨h1,o,ho,_⟩:=mem_ready.1 hx
   have hxz:=(zo.1 ho).1
   have:=hl x
   have hxs:x < listed.size:=by rw [hls];exact hxz
   simp [hxs] at h1 this
   simp [this,hxz] at h1
 cases fuel with
 |zero=>exact ⟨hr,h⟩
 |succ f=>exact ⟨fun _=>h,by rw [hr];simp⟩
def ph (hb:backB ops=true) {j:Nat} {oj:Oper} (hj:ops[j]? =some oj) {e:Edge} (he:e∈oj.after) (hbd:Region.binds .any e=true):e.on < j:=by
 simp only [backB,zv,zu] at hb
 have hb0:=hb j (zo.1 hj).1
 rw [hj] at hb0
 have:=Array.all_eq_true'.1 hb0 e he
 simp only [hbd,Bool.not_true,Bool.false_or,decide_eq_true_eq] at this
 exact this
def rf {n m:Nat} (hw:wallB ops n m=true) {t i:Nat} (ht:t < ops.size) (hm:m≤t) (hn:n≤i) (hi:i < m):ahead .any ops ops.size i t=true:=by
 simp only [wallB,zv,zu,zg,decide_eq_true_eq] at hw
 exact ((hw t ht).resolve_left (by omega) i hi).resolve_left (by omega)
def AtN.one {n:Nat} (hb:backB ops=true) (hw:wallB ops n (n+1)=true) {o:Oper} (ho:ops[n]? =some o)
  (h:if Region.wanted o (yielded ops a.tmps) then o.wp P a w (AtN P ops Q (n+1)) Q∨(o.asks P a w∧LetsOut Q) else AtN P ops Q (n+1) (a.put o.dst undef) w):AtN P ops Q n a w:=by
 intro fuel listed hls hl hf
 have htz:n < ops.size:=(zo.1 ho).1
 obtain ⟨fuel,rfl⟩:∃ f,fuel=f+1:=⟨fuel - 1,by omega⟩
 have hclosed:∀ j oj,ops[j]? =some oj→listed.getD j false=true→∀ e∈oj.after,Region.binds .any e=true→listed.getD e.on false=true:=by
  intro j oj hj hjl e he hbd
  have:=ph hb hj he hbd
  rw [hl] at hjl⊢
  simp only [decide_eq_true_eq] at hjl⊢
  omega
 have hrt:n∈Region.ready .any ops listed:=mem_ready.2 ⟨by
  have:=hl n
  have hxs:n < listed.size:=by omega
  simp [hxs] at this⊢
  exact this,o,ho,fun e he hbd=>by
   have:=ph hb ho he hbd
   rw [hl]
   simpa using this⟩
 refine ⟨fun hr=>(by rw [hr] at hrt;cases hrt),fun i hi=>?_⟩
 obtain ⟨hun,o',ho',hdeps⟩:=mem_ready.1 hi
 have hiz:=(zo.1 ho').1
 have hige:n≤i:=by
  have:=hl i
  have hxs:i < listed.size:=by omega
  simp [hxs] at hun this
  rw [hun] at this
  simpa using this.symm
 obtain rfl:i=n:=by
  rcases jl n i with h|h
  ·exfalso
   have ha:=rf hw hiz h (qh n) (Nat.lt_succ_self n)
   have:=xk hclosed _ n i ha (fun oj hoj=>by rw [ho'] at hoj;cases hoj;exact hdeps)
   rw [hl] at this
   simp at this
  ·omega
 have hnext:∀ a' W',AtN P ops Q (i+1) a' W'→wpAny P .any ops Q fuel (listed.setIfInBounds i true) a' W':=fun a' W' h=>
  h fuel _ (by simp [hls]) (fun j=>by
   rw [xj (by omega),hl]
   by_cases hij:i=j
   ·subst hij;simp
   ·rw [if_neg hij]
    have:(j < i)↔(j < i+1):=by omega
    simp [this]) (by omega)
 unfold wpOp
 rw [ho]
 simp only []
 split at h
 ·rename_i hwt
  rw [if_pos hwt]
  exact h.imp (Oper.wp_mono hnext) id
 ·rename_i hwt
  rw [if_neg hwt]
  exact hnext _ _ h
def upto (P:Program) (ops:Array Oper) (Q:Exit→Act→World→Prop) (m:Nat):Exit→Act→World→Prop:=fun e a w=>match e with
 | .normal=>AtN P ops Q m a w
 | .exit i=>Q (.exit i) a w
 | .ret=>Q .ret a w
 | .panic c=>Q (.panic c) a w
 | .outgrown=>Q .outgrown a w
 |e=>Q e a w
def lu {m:Nat}:LetsOut (upto P ops Q m)→LetsOut Q:=fun ⟨a,w,h⟩=>⟨a,w,h⟩
def wp_upto {o:Oper} {m:Nat} {K:Act→World→Prop} (h:o.wp P a w K (upto P ops Q m)):o.wp P a w K Q:=by
 unfold Oper.wp at *
 generalize (execOp a.eval o).run P w=r at *
 cases r with
 |ok n w'=>
  cases n with
  |enter f args=>
   refine Calls.mono h fun e w'' h=>?_
   cases e with
   |returned v=>exact h
   |panicked c=>exact h
   |outgrown=>exact lu h
  |value v=>exact h
  |skip=>exact h
  |defer d=>exact h
  |row r args=>exact h
  |_=>exact h
 |halt x w'=>cases x <;> exact h
def qax (hb:backB ops=true):∀ (l:List Oper) (n m:Nat),m=n+l.length→(∀ t,n≤t→t < m→wallB ops t (t+1)=true)→(∀ j,j < l.length→ops[n+j]? =l[j]?)→∀ a w,wpList P ops (upto P ops Q m) l a w→AtN P ops Q n a w
 | [],n,m,hm,_,_,a,w,h=>by
  simp only [yj,Nat.add_zero] at hm
  subst hm
  exact h
 |o::l,n,m,hm,hw,hl,a,w,h=>by
  simp only [zf] at hm
  have ih:=qax hb l (n+1) m (by omega) (fun t h1 h2=>hw t (by omega) h2) (fun j hj=>by
   have:=hl (j+1) (by simp;omega)
   rw [qw] at this
   rw [←this]
   congr 1
   omega)
  refine AtN.one hb (hw n (qh n) (by omega)) (by simpa using hl 0 (by simp)) ?_
  unfold wpList at h
  split at h
  ·rename_i hwt
   rw [if_pos hwt]
   exact h.imp (fun h=>Oper.wp_mono ih (wp_upto h)) (fun h=>⟨h.1,lu h.2⟩)
  ·rename_i hwt
   rw [if_neg hwt]
   exact ih _ _ h
def listB (ops:Array Oper) (n m:Nat):Bool:=decide (n≤m)&&decide (m≤ops.size)&&backB ops&&(List.range m).all fun t=>decide (t < n)||wallB ops t (t+1)
def AtN.list (n m:Nat) (hh:listB ops n m=true) (h:wpList P ops (upto P ops Q m) ((ops.toList.drop n).take (m - n)) a w):AtN P ops Q n a w:=by
 simp only [listB,qt,decide_eq_true_eq,zv,zu,zg] at hh
 obtain ⟨⟨⟨h1,h2⟩,h3⟩,h4⟩:=hh
 have hlen:((ops.toList.drop n).take (m - n)).length=m - n:=by simp;omega
 refine qax h3 _ n m (by rw [hlen];omega) (fun t ht1 ht2=>(h4 t ht2).resolve_left (by omega)) (fun j hj=>?_) _ _ h
 rw [hlen] at hj
 rw [yq,if_pos hj,jb]
 simp
def segB (ops:Array Oper) (n m:Nat):Bool:=
 decide (n≤m)&&decide (m≤ops.size)&&backB ops&&wallB ops n m&&
 (List.range m).all (fun i=>decide (i < n)||((List.range m).all fun j=>decide (j < n)||i == j||(dstOf ops i).isNone||dstOf ops i != dstOf ops j))&&
 (List.range m).all (fun i=>decide (i < n)||((match ops[i]? with|some o=>(match o.guard with|some (g,_)=>decide (g < n)&&(List.range m).all (fun j=>decide (j < n)||(dstOf ops j).isNone||dstOf ops j != dstOf ops g)|none=>true)&&!(match o.op with| .select _ _=>true|_=>false)|none=>false)&&(List.range m).all fun j=>decide (j < n)||match dstOf ops j with|some d=>!(looks ops i).contains d||ahead .any ops ops.size j i||ahead .any ops ops.size i j|none=>true))
def wantB (ops:Array Oper) (n m:Nat) (tmps:Array Value):Bool:=(List.range m).all fun i=>decide (i < n)||match ops[i]? with|some o=>Region.wanted o (yielded ops tmps)|none=>true
structure InvS (P:Program) (ops:Array Oper) (n m μ:Nat) (Φ:Nat→Value→World→Prop) (J:Bool→World→Prop) (a0:Act) (listed:Array Bool) (a:Act) (w:World):Prop where
 size:listed.size=ops.size
 below:∀ t,t < n→listed.getD t false=true
 tail:∀ t,m≤t→listed.getD t false=false
 closed:∀ j oj,ops[j]? =some oj→listed.getD j false=true→∀ e∈oj.after,Region.binds .any e=true→listed.getD e.on false=true
 st:J (decide (n≤μ)&&listed.getD μ false) w
 defers:a.defers=a0.defers
 tsize:a.tmps.size=a0.tmps.size
 told:∀ i d,n≤i→i < m→listed.getD i false=true→dstOf ops i=some d→Φ i (slot a d) w
 kept:∀ t,(∀ i,n≤i→i < m→listed.getD i false=true→dstOf ops i≠some t)→slot a t=slot a0 t
def df {a a0:Act} {g:Nat} (hs:a.tmps.size=a0.tmps.size) (h:∀ d,dstOf ops g=some d→slot a d=slot a0 d):yielded ops a.tmps g=yielded ops a0.tmps g:=by
 unfold yielded
 cases hd:(ops[g]?).bind (·.dst) with
 |none=>rfl
 |some d=>
  simp only [Option.bind_some]
  have h':=h d hd
  unfold slot at h'
  rcases jl d a.tmps.size with hlt|hge
  ·have hlt0:d < a0.tmps.size:=hs▸hlt
   simp only [ym,jh hlt,jh hlt0,Option.getD_some] at h'⊢
   rw [h']
  ·rw [Array.getElem?_eq_none hge,Array.getElem?_eq_none (hs▸hge)]
def seg_run {n m μ:Nat} {Φ:Nat→Value→World→Prop} {J:Bool→World→Prop} {a0:Act} (hh:segB ops n m=true) (hsk:∀ i o,n≤i→i < m→ops[i]? =some o→Region.wanted o (yielded ops a0.tmps)=false→i≠μ∧∀ W,Φ i undef W) (hd:∀ i d,n≤i→i < m→dstOf ops i=some d→d < a0.tmps.size)
  (hstep:∀ i o,n≤i→i < m→ops[i]? =some o→Region.wanted o (yielded ops a0.tmps)=true→∀ (a:Act) (W:World) (b:Bool),J b W→(i=μ→b=false)→(∀ j d,n≤j→j < m→ahead .any ops ops.size j i=true→dstOf ops j=some d→Φ j (slot a d) W)→
   (∀ t,t∈looks ops i→(∀ j,n≤j→j < m→dstOf ops j=some t→ahead .any ops ops.size j i=false)→slot a t=slot a0 t)→Gives P o a.eval W fun v W'=>J (b||i == μ) W'∧Φ i v W'∧∀ k u,Φ k u W→Φ k u W')
  (htail:∀ (a:Act) (W:World),J (decide (n≤μ)&&decide (μ < m)) W→a.defers=a0.defers→a.tmps.size=a0.tmps.size→(∀ i d,n≤i→i < m→dstOf ops i=some d→Φ i (slot a d) W)→(∀ t,(∀ i,n≤i→i < m→dstOf ops i≠some t)→slot a t=slot a0 t)→
   AtN P ops Q m a W):
  ∀ (c fuel:Nat) (listed:Array Bool) (a:Act) (w:World),InvS P ops n m μ Φ J a0 listed a w→((List.range m).filter fun i=>!listed.getD i false).length=c→ops.size+c≤m+fuel→wpAny P .any ops Q fuel listed a w:=by
 simp only [segB,qt,decide_eq_true_eq] at hh
 obtain ⟨⟨⟨⟨⟨hnm,hms⟩,hB⟩,hT⟩,hD⟩,hL⟩:=hh
 simp only [zv,zu,zg,decide_eq_true_eq,qt] at hD hL
 intro c
 induction c with
 |zero=>
  intro fuel listed a w inv hm hf
  have hall:∀ i,i < m→listed.getD i false=true:=by
   intro i hi
   have h0:=ze hm
   have:=(ub.1 h0) i (zu.2 hi)
   simpa using this
  have hst:=inv.st
  have hlm:listed.getD μ false=decide (μ < m):=by
   rcases jl μ m with h|h
   ·rw [hall μ h];simp [h]
   ·rw [inv.tail μ h];simp;omega
  rw [hlm] at hst
  refine htail a w hst inv.defers inv.tsize (fun i d hn hi hd'=>inv.told i d hn hi (hall i hi) hd') (fun t ht=>inv.kept t fun i hn hi _=>ht i hn hi) fuel listed inv.size (fun i=>?_) (by omega)
  rcases jl i m with h|h
  ·rw [hall i h];simp [h]
  ·rw [inv.tail i h];simp;omega
 |succ c ih=>
  intro fuel listed a w inv hm hf
  have hmn:c+1≤m:=by
   rw [←hm]
   exact qb (jc _ _) (by simp)
  obtain ⟨fuel,rfl⟩:∃ f,fuel=f+1:=⟨fuel - 1,by omega⟩
  have hex:∃ i,i < m∧listed.getD i false=false:=by
   cases hl:(List.range m).filter fun i=>!listed.getD i false with
   |nil=>rw [hl] at hm;cases hm
   |cons x l=>
    have hx:x∈(List.range m).filter fun i=>!listed.getD i false:=by rw [hl];simp
    obtain ⟨h1,h2⟩:=zc.1 hx
    exact ⟨x,zu.1 h1,by simpa using h2⟩
  refine ⟨fun hr=>?_,fun i hi=>?_⟩
  ·exfalso
   obtain ⟨i,hin,hil⟩:=hex
   have key:∀ k,k < m→listed.getD k false=true:=by
    intro k
    induction k using Nat.strongRecOn with
    |_ k ihk=>
     intro hk
     cases hkl:listed.getD k false with
     |true=>rfl
     |false=>
      have hks:k < ops.size:=by omega
      have hmem:k∈Region.ready .any ops listed:=mem_ready.2 ⟨by
       have:k < listed.size:=by rw [inv.size];exact hks
       simp [this] at hkl⊢
       exact hkl,ops[k],jh hks,fun e he hb=>by
       have:=ph hB (jh hks) he hb
       exact ihk e.on this (by omega)⟩
      rw [hr] at hmem
      cases hmem
   rw [key i hin] at hil
   cases hil
  ·obtain ⟨hun,o,ho,hdeps⟩:=mem_ready.1 hi
   have hiz:i < ops.size:=(zo.1 ho).1
   have hunl:listed.getD i false=false:=by
    have:i < listed.size:=by rw [inv.size];exact hiz
    simp [this] at hun⊢
    exact hun
   have hni:n≤i:=by
    rcases jl i n with h|h
    ·rw [inv.below i h] at hunl;cases hunl
    ·exact h
   have hin:i < m:=by
    rcases jl i m with h|h
    ·exact h
    ·exfalso
     obtain ⟨k,hkn,hkl⟩:=hex
     have hkn':n≤k:=by
      rcases jl k n with h|h
      ·rw [inv.below k h] at hkl;cases hkl
      ·exact h
     have ht:=rf hT hiz h hkn' hkn
     have:=xk inv.closed _ k i ht (fun oj hoj=>by rw [ho] at hoj;cases hoj;exact hdeps)
     rw [this] at hkl
     cases hkl
   have hL':=(hL i hin).resolve_left (by omega)
   rw [ho] at hL'
   simp only [qt] at hL'
   have hgive:=fun hw0=>hstep i o hni hin ho hw0 a w _ inv.st (fun e=>by subst e;simp [hunl]) (fun j d hnj hj haj hdj=>inv.told j d hnj hj (xk inv.closed _ j i haj (fun oj hoj=>by rw [ho] at hoj;cases hoj;exact hdeps)) hdj)
    (fun t ht hno=>inv.kept t fun j hnj hj hjl hdj=>by
     have h3:=(hL'.2 j hj).resolve_left (by omega)
     rw [hdj] at h3
     simp only [zg,ue,uw,decide_eq_false_iff_not] at h3
     rcases h3 with (h3|h3)|h3
     ·exact h3 ht
     ·rw [hno j hnj hj hdj] at h3;cases h3
     ·have:=xk inv.closed _ i j h3 (fun oj hoj=>inv.closed j oj hoj hjl)
      rw [this] at hunl
      cases hunl)
   have hwant:Region.wanted o (yielded ops a.tmps)=Region.wanted o (yielded ops a0.tmps):=by
    have hg:=hL'.1.1
    cases hgo:o.guard with
    |none=>simp only [Region.wanted,hgo]
    |some gb=>
     obtain ⟨g,b⟩:=gb
     rw [hgo] at hg
     simp only [qt,decide_eq_true_eq,zv,zu,zg,bne_iff_ne] at hg
     have hyy:=df (ops:=ops) (g:=g) inv.tsize (fun d hdg=>inv.kept d fun j hnj hj _ hdj=>by
      rcases hg.2 j hj with (h5|h5)|h5
      ·omega
      ·rw [hdj] at h5;cases h5
      ·exact h5 (hdj.trans hdg.symm))
     simp only [Region.wanted,hgo,hyy]
   have hili:i < listed.size:=by rw [inv.size];exact hiz
   unfold wpOp
   rw [ho]
   simp only []
   have hdst:dstOf ops i=o.dst:=by simp [dstOf,ho]
   suffices hgo:∀ v W',(J (decide (n≤μ)&&listed.getD μ false||i == μ) W'∧Φ i v W'∧∀ k u,Φ k u w→Φ k u W')→wpAny P .any ops Q fuel (listed.setIfInBounds i true) (a.put o.dst v) W' by
    rw [hwant]
    split
    ·rename_i hw1
     exact .inl ((hgive hw1).wp fun v W' hR=>hgo v W' hR)
    ·rename_i hw1
     have h8:=hsk i o hni hin ho (by simpa using hw1)
     refine hgo undef w ⟨?_,h8.2 w,fun _ _ h=>h⟩
     rw [show (i == μ)=false by simpa using h8.1,Bool.or_false]
     exact inv.st
   intro v W' hR
   refine ih fuel _ _ _ ⟨?_,?_,?_,?_,?_,?_,?_,?_,?_⟩ ?_ (by omega)
   ·simp [inv.size]
   ·intro t ht
    rw [xj hili,if_neg (by omega)]
    exact inv.below t ht
   ·intro t ht
    rw [xj hili,if_neg (by omega)]
    exact inv.tail t ht
   ·intro j oj hj hjl e he hb
    rw [xj hili] at hjl⊢
    by_cases hij:i=j
    ·subst hij
     rw [ho] at hj
     cases hj
     have:=hdeps e he hb
     simp [this]
    ·rw [if_neg hij] at hjl
     have:=inv.closed j oj hj hjl e he hb
     simp [this]
   ·have h6:=hR.1
    rw [xj hili]
    by_cases hiμ:i=μ
    ·subst hiμ
     simpa [hni,hunl] using h6
    ·rw [if_neg hiμ]
     rw [show (i == μ)=false by simpa using hiμ,Bool.or_false] at h6
     exact h6
   ·rw [pv,inv.defers]
   ·rw [dc,inv.tsize]
   ·intro j d hnj hj hjl hdj
    rw [xj hili] at hjl
    by_cases hij:i=j
    ·subst hij
     have hdd:o.dst=some d:=by rw [←hdst];exact hdj
     rw [hdd,gh (by rw [inv.tsize];exact hd i d hni hin hdj)]
     exact hR.2.1
    ·rw [if_neg hij] at hjl
     have h4:=(((hD i hin).resolve_left (by omega)) j hj)
     simp only [zg,beq_iff_eq,bne_iff_ne,decide_eq_true_eq] at h4
     rw [gp (by
      intro e
      rw [←hdst] at e
      rcases h4 with ((h4|h4)|h4)|h4
      ·omega
      ·exact hij h4
      ·rw [e] at h4;cases h4
      ·exact h4 (e.trans hdj.symm))]
     exact hR.2.2 _ _ (inv.told j d hnj hj hjl hdj)
   ·intro t ht
    have hne:o.dst≠some t:=by
     rw [←hdst]
     exact ht i hni hin (by rw [xj hili,if_pos rfl])
    rw [gp hne]
    exact inv.kept t fun j hnj hj hjl=>ht j hnj hj (by
     rw [xj hili]
     by_cases hij:i=j
     ·rw [if_pos hij]
     ·rw [if_neg hij];exact hjl)
   ·have hff:=py (List.range m) (fun j=>!listed.getD j false) (fun j=>!(listed.setIfInBounds i true).getD j false) i List.nodup_range (zu.2 hin) (by simp only [hunl];rfl) (by simp only [xj hili];simp) (fun j hj=>by simp only [xj hili,if_neg (Ne.symm hj)])
    omega
def sKeptB (ops:Array Oper) (n m i t:Nat):Bool:=(looks ops i).contains t&&(List.range m).all fun j=>decide (j < n)||dstOf ops j != some t||!ahead .any ops ops.size j i
def sInB (ops:Array Oper) (n m i j d:Nat):Bool:=decide (n≤j)&&decide (j < m)&&ahead .any ops ops.size j i&&dstOf ops j == some d
def sOutB (ops:Array Oper) (n m i d:Nat):Bool:=decide (n≤i)&&decide (i < m)&&dstOf ops i == some d
def sOldB (ops:Array Oper) (n m t:Nat):Bool:=(List.range m).all fun j=>decide (j < n)||dstOf ops j != some t
def sDstB (ops:Array Oper) (n m s:Nat):Bool:=(List.range m).all fun i=>decide (i < n)||match dstOf ops i with|some d=>decide (d < s)|none=>true
def AtN.seg' (n m μ:Nat) (Φ:Nat→Value→World→Prop) (J:Bool→World→Prop) (hh:segB ops n m=true) (hsk:∀ i o,n≤i→i < m→ops[i]? =some o→Region.wanted o (yielded ops a.tmps)=false→i≠μ∧∀ W,Φ i undef W) (hd:sDstB ops n m a.tmps.size=true) (h0:J false w)
  (hstep:∀ i,n≤i→i < m→∀ o,ops[i]? =some o→Region.wanted o (yielded ops a.tmps)=true→∀ (A:Act) (W:World) (b:Bool),J b W→(i=μ→b=false)→(∀ j d,sInB ops n m i j d=true→Φ j (A.tmps[d]?.getD undef) W)→
   (∀ t,sKeptB ops n m i t=true→A.tmps[t]?.getD undef=slot a t)→Gives P o A.eval W fun v W'=>J (b||i == μ) W'∧Φ i v W'∧∀ k u,Φ k u W→Φ k u W')
  (htail:∀ (A:Act) (W:World),J (decide (n≤μ)&&decide (μ < m)) W→A.defers=a.defers→A.tmps.size=a.tmps.size→(∀ i d,sOutB ops n m i d=true→Φ i (slot A d) W)→(∀ t,sOldB ops n m t=true→slot A t=slot a t)→
   AtN P ops Q m A W):AtN P ops Q n a w:=by
 intro fuel listed hls hl hf
 have hh':=hh
 simp only [segB,qt,decide_eq_true_eq] at hh'
 obtain ⟨⟨⟨⟨⟨hnm,hms⟩,hB⟩,hT⟩,hD⟩,hL⟩:=hh'
 simp only [sDstB,zv,zu,zg,decide_eq_true_eq] at hd
 refine seg_run (n:=n) (m:=m) (μ:=μ) (Φ:=Φ) (J:=J) (a0:=a) hh hsk (fun i d hn hi hdi=>?_) (fun i o hn hi ho hw0 A W b hJ hμ hin hk=>hstep i hn hi o ho hw0 A W b hJ hμ (fun j d h=>?_) (fun t h=>?_)) (fun A W h1 h2 h3 h4 h5=>htail A W h1 h2 h3 (fun i d h=>?_) (fun t h=>?_)) (m - n) fuel listed a w ⟨hls,?_,?_,?_,?_,rfl,rfl,?_,fun _ _=>rfl⟩ ?_ (by omega)
 ·have:=(hd i hi).resolve_left (by omega)
  rw [hdi] at this
  simpa using this
 ·simp only [sInB,qt,decide_eq_true_eq,beq_iff_eq] at h
  have:=hin j d h.1.1.1 h.1.1.2 h.1.2 h.2
  simp only [slot,ym] at this
  exact this
 ·simp only [sKeptB,qt,uw,decide_eq_true_eq,zv,zu,zg,bne_iff_ne,ue] at h
  have:=hk t h.1 (fun j hnj hj hdj=>by
   rcases h.2 j hj with (h7|h7)|h7
   ·omega
   ·exact absurd hdj h7
   ·exact h7)
  simp only [slot,ym] at this⊢
  exact this
 ·simp only [sOutB,qt,decide_eq_true_eq,beq_iff_eq] at h
  exact h4 i d h.1.1 h.1.2 h.2
 ·simp only [sOldB,zv,zu,zg,decide_eq_true_eq,bne_iff_ne] at h
  exact h5 t fun i hn hi=>(h i hi).resolve_left (by omega)
 ·intro t ht
  rw [hl];simpa using ht
 ·intro t ht
  rw [hl];simp;omega
 ·intro j oj hj hjl e he hb
  have:=ph hB hj he hb
  rw [hl] at hjl⊢
  simp only [decide_eq_true_eq] at hjl⊢
  omega
 ·rw [hl]
  have:(decide (n≤μ)&&decide (μ < n))=false:=by simp
  rw [this]
  exact h0
 ·intro i d hn hi hil
  rw [hl] at hil
  simp at hil
  omega
 ·have hcong:((List.range m).filter fun i=>!listed.getD i false)=(List.range m).filter fun i=>decide (n≤i):=List.filter_congr fun i _=>by
   rw [hl]
   by_cases h:i < n
   ·simp [h]
   ·simp [h];omega
  rw [hcong]
  clear hcong
  have:∀ m,((List.range m).filter fun i=>decide (n≤i)).length=m - n:=by
   intro m
   induction m with
   |zero=>simp
   |succ m ih=>
    rw [List.range_succ,uf,qg,ih]
    by_cases h:n≤m
    ·simp [h];omega
    ·simp [h];omega
  exact this m
def rq {n m:Nat} (hwn:wantB ops n m a.tmps=true) {i:Nat} {o:Oper} (hn:n≤i) (hi:i < m) (ho:ops[i]? =some o) (h:Region.wanted o (yielded ops a.tmps)=false):False:=by
 simp only [wantB,zv,zu,zg,decide_eq_true_eq] at hwn
 have h0:=(hwn i hi).resolve_left (by omega)
 rw [ho] at h0
 simp only [h] at h0
 cases h0
def AtN.seg (n m μ:Nat) (Φ:Nat→Value→World→Prop) (J:Bool→World→Prop) (hh:segB ops n m=true) (hwn:wantB ops n m a.tmps=true) (hd:sDstB ops n m a.tmps.size=true) (h0:J false w)
  (hstep:∀ i,n≤i→i < m→∀ o,ops[i]? =some o→∀ (A:Act) (W:World) (b:Bool),J b W→(i=μ→b=false)→(∀ j d,sInB ops n m i j d=true→Φ j (A.tmps[d]?.getD undef) W)→
   (∀ t,sKeptB ops n m i t=true→A.tmps[t]?.getD undef=slot a t)→Gives P o A.eval W fun v W'=>J (b||i == μ) W'∧Φ i v W'∧∀ k u,Φ k u W→Φ k u W')
  (htail:∀ (A:Act) (W:World),J (decide (n≤μ)&&decide (μ < m)) W→A.defers=a.defers→A.tmps.size=a.tmps.size→(∀ i d,sOutB ops n m i d=true→Φ i (slot A d) W)→(∀ t,sOldB ops n m t=true→slot A t=slot a t)→
   AtN P ops Q m A W):AtN P ops Q n a w:=
 AtN.seg' n m μ Φ J hh (fun i o hn hi ho h=>(rq hwn hn hi ho h).elim) hd h0 (fun i hn hi o ho _=>hstep i hn hi o ho) htail
def AtN.segV (n m μ:Nat) (vs:Nat→Value) (J:Bool→World→Prop) (hh:segB ops n m=true) (hwn:wantB ops n m a.tmps=true) (hd:sDstB ops n m a.tmps.size=true) (h0:J false w)
  (hstep:∀ i,n≤i→i < m→∀ o,ops[i]? =some o→∀ (A:Act) (W:World) (b:Bool),J b W→(i=μ→b=false)→(∀ j d,sInB ops n m i j d=true→A.tmps[d]?.getD undef=vs j)→
   (∀ t,sKeptB ops n m i t=true→A.tmps[t]?.getD undef=slot a t)→Gives P o A.eval W fun v W'=>J (b||i == μ) W'∧v=vs i)
  (htail:∀ (A:Act) (W:World),J (decide (n≤μ)&&decide (μ < m)) W→A.defers=a.defers→A.tmps.size=a.tmps.size→(∀ i d,sOutB ops n m i d=true→slot A d=vs i)→(∀ t,sOldB ops n m t=true→slot A t=slot a t)→
   AtN P ops Q m A W):AtN P ops Q n a w:=by
 refine AtN.seg n m μ (fun i v _=>v=vs i) J hh hwn hd h0 (fun i hn hi o ho A W b hJ hμ hin hk=>?_) htail
 rcases hstep i hn hi o ho A W b hJ hμ hin hk with ⟨v,W',hr,h1,h2⟩| ⟨W',hr,h1,h2⟩| ⟨f,args,W',hr,hc⟩
 ·exact .inl ⟨v,W',hr,h1,h2,fun _ _ h=>h⟩
 ·exact .inr (.inl ⟨W',hr,h1,h2,fun _ _ h=>h⟩)
 ·refine .inr (.inr ⟨f,args,W',hr,hc.mono ?_⟩)
  rintro e W'' ⟨v,he,h1,h2⟩
  exact ⟨v,he,h1,h2,fun _ _ h=>h⟩
def AtN.segN (n m:Nat) (Φ:Nat→Value→World→Prop) (hh:segB ops n m=true) (hwn:wantB ops n m a.tmps=true) (hd:sDstB ops n m a.tmps.size=true) (hst:∀ i v w1 w2,New w1 w2→Φ i v w1→Φ i v w2)
  (hstep:∀ i,n≤i→i < m→∀ o,ops[i]? =some o→∀ (A:Act) (W:World),New w W→(∀ j d,sInB ops n m i j d=true→Φ j (A.tmps[d]?.getD undef) W)→
   (∀ t,sKeptB ops n m i t=true→A.tmps[t]?.getD undef=slot a t)→Gives P o A.eval W fun v W'=>New W W'∧Φ i v W')
  (htail:∀ (A:Act) (W:World),New w W→A.defers=a.defers→A.tmps.size=a.tmps.size→(∀ i d,sOutB ops n m i d=true→Φ i (slot A d) W)→(∀ t,sOldB ops n m t=true→slot A t=slot a t)→AtN P ops Q m A W):AtN P ops Q n a w:=by
 refine AtN.seg n m m Φ (fun _ W=>New w W) hh hwn hd (Chg.refl _ _) (fun i hn hi o ho A W b hJ _ hin hk=>?_) (fun A W hJ h1 h2 h3 h4=>htail A W hJ h1 h2 h3 h4)
 have hg:=hstep i hn hi o ho A W hJ hin hk
 rcases hg with ⟨v,W',hr,h1,h2⟩| ⟨W',hr,h1,h2⟩| ⟨f,args,W',hr,hc⟩
 ·exact .inl ⟨v,W',hr,hJ.trans h1 qdr,h2,fun k u h=>hst k u _ _ h1 h⟩
 ·exact .inr (.inl ⟨W',hr,hJ.trans h1 qdr,h2,fun k u h=>hst k u _ _ h1 h⟩)
 ·refine .inr (.inr ⟨f,args,W',hr,hc.mono ?_⟩)
  rintro e W'' ⟨v,he,h1,h2⟩
  exact ⟨v,he,hJ.trans h1 qdr,h2,fun k u h=>hst k u _ _ h1 h⟩
end
section
variable {P:Program} {o:Oper} {A:Act} {W:World}
def uo (t:Nat) (v:Value) (ho:o.op=.move (.tmp t)) (h:A.tmps[t]?.getD undef=v):(execOp A.eval o).run P W=.ok (.value v) W:=by
 subst h
 unfold execOp
 rw [ho]
 simp [Act.eval]
def Gives.quiet {ρ:Operand→Value} {J:Bool→World→Prop} {b c:Bool} {u:Value} (hr:(execOp ρ o).run P W=.ok (.value u) W) (hJ:J b W) (hc:c=false:=by rfl):Gives P o ρ W fun v W'=>J (b||c) W'∧v=u:=by
 subst hc
 exact .inl ⟨u,W,hr,by rw [Bool.or_false];exact hJ,rfl⟩
def Gives.enter {ρ:Operand→Value} {R:Value→World→Prop} {f:FuncId} {args:Array Value} {v:Value} (hr:(execOp ρ o).run P W=.ok (.enter f args) W) (h:Calls P f args W fun e W''=>e=.returned v∧R v W''):Gives P o ρ W R:=
 .call hr (h.mono fun _ _ h=>⟨v,h⟩)
def vu {k:Nat} (t:Nat) (e:TypeId) (ho:o.op=.load e (.tmp t)) (hS:StT P e k) (ad:Addr) (cs:List Value) (hx:A.tmps[t]?.getD undef=.pointer (some ad)) (hl:cs.length=k) (hc:At W ad cs):(execOp A.eval o).run P W=.ok (.value (.agg cs.toArray)) W:=by
 have hrun:=kg (P:=P) hS ad cs hl hc
 have hx':A.eval (.tmp t)=.pointer (some ad):=by simpa [Act.eval] using hx
 unfold execOp
 simp only [ho,hx',Instr.loadAt,Instr.sureAddr,Sem.run_bind,Sem.run_pure,Result.andThen_ok,hrun]
end
def putsL:List (Nat×Value)→Act→Act
 | [],a=>a
 |p::l,a=>putsL l (a.put (some p.1) p.2)
def fc:∀ (l:List (Nat×Value)) (a:Act),(putsL l a).tmps.size=a.tmps.size
 | [],_=>rfl
 |p::l,a=>by rw [putsL,fc l,dc]
def cp:∀ (l:List (Nat×Value)) (a:Act),(putsL l a).defers=a.defers
 | [],_=>rfl
 |p::l,a=>by rw [putsL,cp l,pv]
def di:∀ (l:List (Nat×Value)) (a:Act) (t:Nat),t ∉ l.map (·.1)→slot (putsL l a) t=slot a t
 | [],_,_,_=>rfl
 |p::l,a,t,h=>by
  simp only [yi,qp,not_or] at h
  rw [putsL,di l _ t h.2,gp (fun e=>h.1 (Option.some.inj e).symm)]
def tk:∀ (l:List (Nat×Value)) (a:Act) (d:Nat) (v:Value),(l.map (·.1)).Nodup→(d,v)∈l→d < a.tmps.size→slot (putsL l a) d=v
 | [],_,_,_,_,h,_=>by cases h
 |p::l,a,d,v,hn,h,hd=>by
  simp only [yi,List.nodup_cons] at hn
  rcases qp.1 h with h|h
  ·subst h
   rw [putsL,di l _ d hn.1,gh hd]
  ·rw [putsL]
   exact tk l _ d v hn.2 h (by rw [dc];exact hd)
def qaz {A B:Act} (h1:A.defers=B.defers) (h2:A.tmps.size=B.tmps.size) (h:∀ t,slot A t=slot B t):A=B:=by
 rw [qbs A _ _ rfl h1,qbs B B.tmps.size _ rfl rfl,h2]
 congr 2
 exact List.map_congr_left fun t _=>h t
def dsB (ops:Array Oper) (n m:Nat) (ds:List Nat):Bool:=decide (ds.length=m - n)&&decide ds.Nodup&&(List.range (m - n)).all fun j=>dstOf ops (n+j) == ds[j]?
def tl {ops:Array Oper} {n m:Nat} {ds:List Nat} (h:dsB ops n m ds=true) {i:Nat} (hn:n≤i) (hi:i < m):∃ d,dstOf ops i=some d∧ds[i - n]? =some d:=by
 simp only [dsB,qt,decide_eq_true_eq,zv,zu,beq_iff_eq] at h
 have h1:=h.2 (i - n) (by omega)
 rw [show n+(i - n)=i by omega] at h1
 have h2:ds[i - n]? =some (ds[i - n]'(by omega)):=qz _
 exact ⟨_,h1.trans h2,h2⟩
section
variable {P:Program} {ops:Array Oper} {Q:Exit→Act→World→Prop} {a:Act} {w:World}
def lx {n m:Nat} {ds:List Nat} (hds:dsB ops n m ds=true) (hd:sDstB ops n m a.tmps.size=true) {A:Act} {l:List (Nat×Value)} (hl:l.map (·.1)=ds) (h1:A.defers=a.defers) (h2:A.tmps.size=a.tmps.size)
  (h3:∀ i d,sOutB ops n m i d=true→∀ v,l[i - n]? =some (d,v)→slot A d=v) (h4:∀ t,sOldB ops n m t=true→slot A t=slot a t):A=putsL l a:=by
 have hds':=hds
 simp only [dsB,qt,decide_eq_true_eq,zv,zu,beq_iff_eq] at hds'
 obtain ⟨⟨hlen,hnd⟩,_⟩:=hds'
 refine qaz (by rw [cp,h1]) (by rw [fc,h2]) fun t=>?_
 by_cases ht:t∈ds
 ·obtain ⟨j,hj,he⟩:=zt ht
  have hll:l.length=m - n:=by rw [←hlen, ←hl,qd]
  have hjl:l[j]? =some (l[j]'(by omega)):=qz _
  have hfst:(l[j]'(by omega)).1=t:=by
   have h7:(l.map (·.1))[j]? =some t:=by rw [hl,qz hj,he]
   rw [qa,hjl] at h7
   exact Option.some.inj h7
  have hpair:l[j]'(by omega)=(t,(l[j]'(by omega)).2):=by rw [←hfst]
  obtain ⟨d,hd1,hd2⟩:=tl hds (i:=n+j) (by omega) (by omega)
  rw [show n+j - n=j by omega,qz hj,he] at hd2
  obtain rfl:=Option.some.inj hd2
  have hout:=h3 (n+j) t (by simp [sOutB,hd1];omega) (l[j]'(by omega)).2 (by rw [show n+j - n=j by omega,hjl, ←hpair])
  rw [hout]
  symm
  have hsz:t < a.tmps.size:=by
   simp only [sDstB,zv,zu,zg,decide_eq_true_eq] at hd
   have:=(hd (n+j) (by omega)).resolve_left (by omega)
   rw [hd1] at this
   simpa using this
  refine tk l a t _ (by rw [hl];exact hnd) ?_ hsz
  rw [←hpair]
  exact List.getElem_mem _
 ·rw [di l a t (by rw [hl];exact ht)]
  refine h4 t ?_
  simp only [sOldB,zv,zu,zg,decide_eq_true_eq,bne_iff_ne]
  intro j hj
  by_cases hjn:j < n
  ·exact .inl hjn
  ·refine .inr fun he=>ht ?_
   obtain ⟨d,hd1,hd2⟩:=tl hds (i:=j) (by omega) hj
   rw [he] at hd1
   obtain rfl:=Option.some.inj hd1
   exact qf hd2
def AtN.segV2 (n m μ:Nat) (vs:Nat→Value) (l:List (Nat×Value)) (J:Bool→World→Prop) (hh:segB ops n m=true) (hwn:wantB ops n m a.tmps=true) (hd:sDstB ops n m a.tmps.size=true) (hds:dsB ops n m (l.map (·.1))=true) (hl:l.map (·.2)=(List.range (m - n)).map fun j=>vs (n+j)) (h0:J false w)
  (hstep:∀ i,n≤i→i < m→∀ o,ops[i]? =some o→∀ (A:Act) (W:World) (b:Bool),J b W→(i=μ→b=false)→(∀ j d,(h:sInB ops n m i j d=true:=by kernel_rfl)→A.tmps[d]?.getD undef=vs j)→
   (∀ t,(h:sKeptB ops n m i t=true:=by kernel_rfl)→A.tmps[t]?.getD undef=slot a t)→Gives P o A.eval W fun v W'=>J (b||i == μ) W'∧v=vs i)
  (htail:∀ (W:World),J (decide (n≤μ)&&decide (μ < m)) W→AtN P ops Q m (putsL l a) W):AtN P ops Q n a w:=by
 refine AtN.segV n m μ vs J hh hwn hd h0 hstep (fun A W hJ h1 h2 h3 h4=>?_)
 rw [lx hds hd rfl h1 h2 (fun i d hid v hv=>?_) h4]
 ·exact htail W hJ
 ·rw [h3 i d hid]
  simp only [sOutB,qt,decide_eq_true_eq,beq_iff_eq] at hid
  have h5:(l.map (·.2))[i - n]? =some v:=by rw [qa,hv];rfl
  rw [hl,qa,List.getElem?_range (by omega)] at h5
  have h6:vs (n+(i - n))=v:=Option.some.inj h5
  rw [←h6,show n+(i - n)=i by omega]
def AtN.segQ2 (n m:Nat) (vs:Nat→Value) (l:List (Nat×Value)) (hh:segB ops n m=true) (hwn:wantB ops n m a.tmps=true) (hd:sDstB ops n m a.tmps.size=true) (hds:dsB ops n m (l.map (·.1))=true) (hl:l.map (·.2)=(List.range (m - n)).map fun j=>vs (n+j))
  (hstep:∀ i,n≤i→i < m→∀ o,ops[i]? =some o→∀ (A:Act),(∀ j d,(h:sInB ops n m i j d=true:=by kernel_rfl)→A.tmps[d]?.getD undef=vs j)→
   (∀ t,(h:sKeptB ops n m i t=true:=by kernel_rfl)→A.tmps[t]?.getD undef=slot a t)→(execOp A.eval o).run P w=.ok (.value (vs i)) w)
  (htail:AtN P ops Q m (putsL l a) w):AtN P ops Q n a w:=by
 refine AtN.segV2 n m m vs l (fun _ W=>W=w) hh hwn hd hds hl rfl (fun i hn hi o ho A W b hJ _ hin hk=>?_) (fun W hJ=>?_)
 ·subst hJ
  exact .inl ⟨_,_,hstep i hn hi o ho A @hin @hk,rfl,rfl⟩
 ·subst hJ
  exact htail
def AtN.segS2 (n m:Nat) (l:List (Nat×Value)) (hh:segB ops n m=true) (hwn:(List.range m).all (fun i=>decide (i < n)||match ops[i]? with|some o=>!Region.wanted o (yielded ops a.tmps)|none=>true)=true) (hd:sDstB ops n m a.tmps.size=true) (hds:dsB ops n m (l.map (·.1))=true) (hl:l.map (·.2)=(List.range (m - n)).map fun _=>undef)
  (htail:AtN P ops Q m (putsL l a) w):AtN P ops Q n a w:=by
 refine AtN.seg' n m m (fun _ v _=>v=undef) (fun _ W=>W=w) hh (fun i o hn hi ho h=>⟨by omega,fun _=>rfl⟩) hd rfl (fun i hn hi o ho hw0 A W b hJ _ hin hk=>?_) (fun A W hJ h1 h2 h3 h4=>?_)
 ·exfalso
  simp only [zv,zu,zg,decide_eq_true_eq] at hwn
  have h0:=(hwn i hi).resolve_left (by omega)
  rw [ho] at h0
  simp only [hw0] at h0
  cases h0
 ·subst hJ
  rw [lx hds hd rfl h1 h2 (fun i d hid v hv=>?_) h4]
  ·exact htail
  ·rw [h3 i d hid]
   simp only [sOutB,qt,decide_eq_true_eq,beq_iff_eq] at hid
   have h5:(l.map (·.2))[i - n]? =some v:=by rw [qa,hv];rfl
   rw [hl,qa,List.getElem?_range (by omega)] at h5
   exact Option.some.inj h5
def AtN.segN2 (n m:Nat) (ds:List Nat) (Φ:Nat→Value→World→Prop) (hh:segB ops n m=true) (hwn:wantB ops n m a.tmps=true) (hd:sDstB ops n m a.tmps.size=true) (hds:dsB ops n m ds=true) (hst:∀ i v w1 w2,New w1 w2→Φ i v w1→Φ i v w2)
  (hstep:∀ i,n≤i→i < m→∀ o,ops[i]? =some o→∀ (A:Act) (W:World),New w W→(∀ j d,(h:sInB ops n m i j d=true:=by kernel_rfl)→Φ j (A.tmps[d]?.getD undef) W)→
   (∀ t,(h:sKeptB ops n m i t=true:=by kernel_rfl)→A.tmps[t]?.getD undef=slot a t)→Gives P o A.eval W fun v W'=>New W W'∧Φ i v W')
  (htail:∀ (l:List Value) (W:World),New w W→l.length=m - n→(∀ j,j < m - n→Φ (n+j) (l.getD j undef) W)→AtN P ops Q m (putsL (ds.zip l) a) W):AtN P ops Q n a w:=by
 refine AtN.segN n m Φ hh hwn hd hst hstep (fun A W hN h1 h2 h3 h4=>?_)
 have hds':=hds
 simp only [dsB,qt,decide_eq_true_eq] at hds'
 obtain ⟨⟨hlen,hnd⟩,_⟩:=hds'
 have hz:(ds.zip (ds.map (slot A))).map (·.1)=ds:=List.map_fst_zip (by simp)
 rw [lx (l:=ds.zip (ds.map (slot A))) hds hd hz h1 h2 (fun i d hid v hv=>?_) h4]
 ·refine htail _ W hN (by simpa using hlen) (fun j hj=>?_)
  obtain ⟨d,hd1,hd2⟩:=tl hds (i:=n+j) (by omega) (by omega)
  rw [show n+j - n=j by omega] at hd2
  have:=h3 (n+j) d (by simp [sOutB,hd1];omega)
  rw [yx,qa,hd2]
  exact this
 ·rw [yu] at hv
  obtain ⟨e1,e2⟩:=hv
  rw [qa,e1] at e2
  exact Option.some.inj e2
end
def gj {P:Program} {o:Oper} {ρ:Operand→Value} {w w':World} {v x y:Value} (s u:Operand) (t1 t2:TypeId) (ho:o.op=.call { callee:=.builtin .append,args:=#[s,u],argTypes:=#[t1,t2] }) (hs:ρ s=x) (hu:ρ u=y)
  (hrun:(Builtin.append_ #[t1,t2] o.type #[x,y]).run P w=.ok v w'):(execOp ρ o).run P w=.ok (.value v) w':=by
 unfold execOp
 simp only [ho,resolve,invoke,builtin,Sem.run_bind,Sem.run_pure,Result.andThen_ok,List.map_toArray,yi,List.map_nil,hs,hu,hrun]
section
variable {P:Program} {ops:Array Oper} {Q:Exit→Act→World→Prop} {a:Act} {w:World}
structure InvX (P:Program) (ops:Array Oper) (n m μ:Nat) (ex:Nat→Nat) (Φ:Nat→Value→World→Prop) (J:Bool→World→Prop) (a0:Act) (listed:Array Bool) (a:Act) (w:World):Prop where
 size:listed.size=ops.size
 below:∀ t,t < n→listed.getD t false=true
 tail:∀ t,m≤t→listed.getD t false=false
 closed:∀ j oj,ops[j]? =some oj→listed.getD j false=true→∀ e∈oj.after,Region.binds .any e=true→listed.getD e.on false=true
 st:J (decide (n≤μ)&&listed.getD μ false) w
 defers:a.defers=a0.defers
 tsize:a.tmps.size=a0.tmps.size
 told:∀ i d,n≤i→i < m→listed.getD i false=true→dstOf ops i=some d→(m≤ex i∨listed.getD (ex i) false=false)→Φ i (slot a d) w
 kept:∀ t,(∀ i,n≤i→i < m→listed.getD i false=true→dstOf ops i≠some t)→slot a t=slot a0 t
def seg_runX {n m μ:Nat} {ex:Nat→Nat} {Φ:Nat→Value→World→Prop} {J:Bool→World→Prop} {a0:Act} (hh:segB ops n m=true) (hsk:∀ i o,n≤i→i < m→ops[i]? =some o→Region.wanted o (yielded ops a0.tmps)=false→i≠μ∧∀ W,Φ i undef W) (hd:∀ i d,n≤i→i < m→dstOf ops i=some d→d < a0.tmps.size)
  (hstep:∀ i o,n≤i→i < m→ops[i]? =some o→Region.wanted o (yielded ops a0.tmps)=true→∀ (a:Act) (W:World) (b:Bool),J b W→(i=μ∨ahead .any ops ops.size i μ=true→b=false)→(∀ j d,n≤j→j < m→ahead .any ops ops.size j i=true→dstOf ops j=some d→(m≤ex j∨ex j=i∨ahead .any ops ops.size i (ex j)=true)→Φ j (slot a d) W)→
   (∀ t,t∈looks ops i→(∀ j,n≤j→j < m→dstOf ops j=some t→ahead .any ops ops.size j i=false)→slot a t=slot a0 t)→Gives P o a.eval W fun v W'=>J (b||i == μ) W'∧Φ i v W'∧∀ k u,k≠i→ex k≠i→ahead .any ops ops.size i k=false→(m≤ex k∨ahead .any ops ops.size (ex k) i=false)→Φ k u W→Φ k u W')
  (htail:∀ (a:Act) (W:World),J (decide (n≤μ)&&decide (μ < m)) W→a.defers=a0.defers→a.tmps.size=a0.tmps.size→(∀ i d,n≤i→i < m→dstOf ops i=some d→m≤ex i→Φ i (slot a d) W)→(∀ t,(∀ i,n≤i→i < m→dstOf ops i≠some t)→slot a t=slot a0 t)→
   AtN P ops Q m a W):
  ∀ (c fuel:Nat) (listed:Array Bool) (a:Act) (w:World),InvX P ops n m μ ex Φ J a0 listed a w→((List.range m).filter fun i=>!listed.getD i false).length=c→ops.size+c≤m+fuel→wpAny P .any ops Q fuel listed a w:=by
 simp only [segB,qt,decide_eq_true_eq] at hh
 obtain ⟨⟨⟨⟨⟨hnm,hms⟩,hB⟩,hT⟩,hD⟩,hL⟩:=hh
 simp only [zv,zu,zg,decide_eq_true_eq,qt] at hD hL
 intro c
 induction c with
 |zero=>
  intro fuel listed a w inv hm hf
  have hall:∀ i,i < m→listed.getD i false=true:=by
   intro i hi
   have h0:=ze hm
   have:=(ub.1 h0) i (zu.2 hi)
   simpa using this
  have hst:=inv.st
  have hlm:listed.getD μ false=decide (μ < m):=by
   rcases jl μ m with h|h
   ·rw [hall μ h];simp [h]
   ·rw [inv.tail μ h];simp;omega
  rw [hlm] at hst
  refine htail a w hst inv.defers inv.tsize (fun i d hn hi hd' he=>inv.told i d hn hi (hall i hi) hd' (.inl he)) (fun t ht=>inv.kept t fun i hn hi _=>ht i hn hi) fuel listed inv.size (fun i=>?_) (by omega)
  rcases jl i m with h|h
  ·rw [hall i h];simp [h]
  ·rw [inv.tail i h];simp;omega
 |succ c ih=>
  intro fuel listed a w inv hm hf
  have hmn:c+1≤m:=by
   rw [←hm]
   exact qb (jc _ _) (by simp)
  obtain ⟨fuel,rfl⟩:∃ f,fuel=f+1:=⟨fuel - 1,by omega⟩
  have hex:∃ i,i < m∧listed.getD i false=false:=by
   cases hl:(List.range m).filter fun i=>!listed.getD i false with
   |nil=>rw [hl] at hm;cases hm
   |cons x l=>
    have hx:x∈(List.range m).filter fun i=>!listed.getD i false:=by rw [hl];simp
    obtain ⟨h1,h2⟩:=zc.1 hx
    exact ⟨x,zu.1 h1,by simpa using h2⟩
  refine ⟨fun hr=>?_,fun i hi=>?_⟩
  ·exfalso
   obtain ⟨i,hin,hil⟩:=hex
   have key:∀ k,k < m→listed.getD k false=true:=by
    intro k
    induction k using Nat.strongRecOn with
    |_ k ihk=>
     intro hk
     cases hkl:listed.getD k false with
     |true=>rfl
     |false=>
      have hks:k < ops.size:=by omega
      have hmem:k∈Region.ready .any ops listed:=mem_ready.2 ⟨by
       have:k < listed.size:=by rw [inv.size];exact hks
       simp [this] at hkl⊢
       exact hkl,ops[k],jh hks,fun e he hb=>by
       have:=ph hB (jh hks) he hb
       exact ihk e.on this (by omega)⟩
      rw [hr] at hmem
      cases hmem
   rw [key i hin] at hil
   cases hil
  ·obtain ⟨hun,o,ho,hdeps⟩:=mem_ready.1 hi
   have hiz:i < ops.size:=(zo.1 ho).1
   have hunl:listed.getD i false=false:=by
    have:i < listed.size:=by rw [inv.size];exact hiz
    simp [this] at hun⊢
    exact hun
   have hni:n≤i:=by
    rcases jl i n with h|h
    ·rw [inv.below i h] at hunl;cases hunl
    ·exact h
   have hin:i < m:=by
    rcases jl i m with h|h
    ·exact h
    ·exfalso
     obtain ⟨k,hkn,hkl⟩:=hex
     have hkn':n≤k:=by
      rcases jl k n with h|h
      ·rw [inv.below k h] at hkl;cases hkl
      ·exact h
     have ht:=rf hT hiz h hkn' hkn
     have:=xk inv.closed _ k i ht (fun oj hoj=>by rw [ho] at hoj;cases hoj;exact hdeps)
     rw [this] at hkl
     cases hkl
   have hL':=(hL i hin).resolve_left (by omega)
   rw [ho] at hL'
   simp only [qt] at hL'
   have hgive:=fun hw0=>hstep i o hni hin ho hw0 a w _ inv.st (fun e=>by
     rcases e with e|e
     ·subst e;simp [hunl]
     ·cases hxl:listed.getD μ false with
      |false=>simp
      |true=>
       have:=xk inv.closed _ i μ e (fun oj hoj=>inv.closed μ oj hoj hxl)
       rw [this] at hunl
       cases hunl) (fun j d hnj hj haj hdj hex=>inv.told j d hnj hj (xk inv.closed _ j i haj (fun oj hoj=>by rw [ho] at hoj;cases hoj;exact hdeps)) hdj (by
     rcases hex with h9|h9|h9
     ·exact .inl h9
     ·exact .inr (by rw [h9];exact hunl)
     ·refine .inr ?_
      cases hxl:listed.getD (ex j) false with
      |false=>rfl
      |true=>
       have:=xk inv.closed _ i (ex j) h9 (fun oj hoj=>inv.closed (ex j) oj hoj hxl)
       rw [this] at hunl
       cases hunl))
    (fun t ht hno=>inv.kept t fun j hnj hj hjl hdj=>by
     have h3:=(hL'.2 j hj).resolve_left (by omega)
     rw [hdj] at h3
     simp only [zg,ue,uw,decide_eq_false_iff_not] at h3
     rcases h3 with (h3|h3)|h3
     ·exact h3 ht
     ·rw [hno j hnj hj hdj] at h3;cases h3
     ·have:=xk inv.closed _ i j h3 (fun oj hoj=>inv.closed j oj hoj hjl)
      rw [this] at hunl
      cases hunl)
   have hwant:Region.wanted o (yielded ops a.tmps)=Region.wanted o (yielded ops a0.tmps):=by
    have hg:=hL'.1.1
    cases hgo:o.guard with
    |none=>simp only [Region.wanted,hgo]
    |some gb=>
     obtain ⟨g,b⟩:=gb
     rw [hgo] at hg
     simp only [qt,decide_eq_true_eq,zv,zu,zg,bne_iff_ne] at hg
     have hyy:=df (ops:=ops) (g:=g) inv.tsize (fun d hdg=>inv.kept d fun j hnj hj _ hdj=>by
      rcases hg.2 j hj with (h5|h5)|h5
      ·omega
      ·rw [hdj] at h5;cases h5
      ·exact h5 (hdj.trans hdg.symm))
     simp only [Region.wanted,hgo,hyy]
   have hili:i < listed.size:=by rw [inv.size];exact hiz
   unfold wpOp
   rw [ho]
   simp only []
   have hdst:dstOf ops i=o.dst:=by simp [dstOf,ho]
   suffices hgo:∀ v W',(J (decide (n≤μ)&&listed.getD μ false||i == μ) W'∧Φ i v W'∧∀ k u,k≠i→ex k≠i→ahead .any ops ops.size i k=false→(m≤ex k∨ahead .any ops ops.size (ex k) i=false)→Φ k u w→Φ k u W')→wpAny P .any ops Q fuel (listed.setIfInBounds i true) (a.put o.dst v) W' by
    rw [hwant]
    split
    ·rename_i hw1
     exact .inl ((hgive hw1).wp fun v W' hR=>hgo v W' hR)
    ·rename_i hw1
     have h8:=hsk i o hni hin ho (by simpa using hw1)
     refine hgo undef w ⟨?_,h8.2 w,fun _ _ _ _ _ _ h=>h⟩
     rw [show (i == μ)=false by simpa using h8.1,Bool.or_false]
     exact inv.st
   intro v W' hR
   refine ih fuel _ _ _ ⟨?_,?_,?_,?_,?_,?_,?_,?_,?_⟩ ?_ (by omega)
   ·simp [inv.size]
   ·intro t ht
    rw [xj hili,if_neg (by omega)]
    exact inv.below t ht
   ·intro t ht
    rw [xj hili,if_neg (by omega)]
    exact inv.tail t ht
   ·intro j oj hj hjl e he hb
    rw [xj hili] at hjl⊢
    by_cases hij:i=j
    ·subst hij
     rw [ho] at hj
     cases hj
     have:=hdeps e he hb
     simp [this]
    ·rw [if_neg hij] at hjl
     have:=inv.closed j oj hj hjl e he hb
     simp [this]
   ·have h6:=hR.1
    rw [xj hili]
    by_cases hiμ:i=μ
    ·subst hiμ
     simpa [hni,hunl] using h6
    ·rw [if_neg hiμ]
     rw [show (i == μ)=false by simpa using hiμ,Bool.or_false] at h6
     exact h6
   ·rw [pv,inv.defers]
   ·rw [dc,inv.tsize]
   ·intro j d hnj hj hjl hdj hexp
    rw [xj hili] at hjl hexp
    by_cases hij:i=j
    ·subst hij
     have hdd:o.dst=some d:=by rw [←hdst];exact hdj
     rw [hdd,gh (by rw [inv.tsize];exact hd i d hni hin hdj)]
     exact hR.2.1
    ·rw [if_neg hij] at hjl
     have h4:=(((hD i hin).resolve_left (by omega)) j hj)
     simp only [zg,beq_iff_eq,bne_iff_ne,decide_eq_true_eq] at h4
     rw [gp (by
      intro e
      rw [←hdst] at e
      rcases h4 with ((h4|h4)|h4)|h4
      ·omega
      ·exact hij h4
      ·rw [e] at h4;cases h4
      ·exact h4 (e.trans hdj.symm))]
     have hxi:ex j≠i:=by
      rintro e
      rcases hexp with h9|h9
      ·omega
      ·rw [if_pos e.symm] at h9;cases h9
     have hah:ahead .any ops ops.size i j=false:=by
      cases haj:ahead .any ops ops.size i j with
      |false=>rfl
      |true=>
       have:=xk inv.closed _ i j haj (fun oj hoj=>inv.closed j oj hoj hjl)
       rw [this] at hunl
       cases hunl
     have hbh:m≤ex j∨ahead .any ops ops.size (ex j) i=false:=by
      rcases hexp with h9|h9
      ·exact .inl h9
      ·rw [if_neg (Ne.symm hxi)] at h9
       cases haj:ahead .any ops ops.size (ex j) i with
       |false=>exact .inr rfl
       |true=>
        have:=xk inv.closed _ (ex j) i haj (fun oj hoj=>by rw [ho] at hoj;cases hoj;exact hdeps)
        rw [this] at h9
        cases h9
     refine hR.2.2 _ _ (Ne.symm hij) hxi hah hbh (inv.told j d hnj hj hjl hdj (hexp.imp id fun h9=>?_))
     rw [if_neg (Ne.symm hxi)] at h9
     exact h9
   ·intro t ht
    have hne:o.dst≠some t:=by
     rw [←hdst]
     exact ht i hni hin (by rw [xj hili,if_pos rfl])
    rw [gp hne]
    exact inv.kept t fun j hnj hj hjl=>ht j hnj hj (by
     rw [xj hili]
     by_cases hij:i=j
     ·rw [if_pos hij]
     ·rw [if_neg hij];exact hjl)
   ·have hff:=py (List.range m) (fun j=>!listed.getD j false) (fun j=>!(listed.setIfInBounds i true).getD j false) i List.nodup_range (zu.2 hin) (by simp only [hunl];rfl) (by simp only [xj hili];simp) (fun j hj=>by simp only [xj hili,if_neg (Ne.symm hj)])
    omega
def sInX (ops:Array Oper) (n m:Nat) (ex:Nat→Nat) (i j d:Nat):Bool:=sInB ops n m i j d&&(decide (m≤ex j)||ex j == i||ahead .any ops ops.size i (ex j))
def AtN.segX' (n m μ:Nat) (ex:Nat→Nat) (Φ:Nat→Value→World→Prop) (J:Bool→World→Prop) (hh:segB ops n m=true) (hsk:∀ i o,n≤i→i < m→ops[i]? =some o→Region.wanted o (yielded ops a.tmps)=false→i≠μ∧∀ W,Φ i undef W) (hd:sDstB ops n m a.tmps.size=true) (h0:J false w)
  (hstep:∀ i,n≤i→i < m→∀ o,ops[i]? =some o→Region.wanted o (yielded ops a.tmps)=true→∀ (A:Act) (W:World) (b:Bool),J b W→(i=μ∨ahead .any ops ops.size i μ=true→b=false)→(∀ j d,sInX ops n m ex i j d=true→Φ j (A.tmps[d]?.getD undef) W)→
   (∀ t,sKeptB ops n m i t=true→A.tmps[t]?.getD undef=slot a t)→Gives P o A.eval W fun v W'=>J (b||i == μ) W'∧Φ i v W'∧∀ k u,k≠i→ex k≠i→ahead .any ops ops.size i k=false→(m≤ex k∨ahead .any ops ops.size (ex k) i=false)→Φ k u W→Φ k u W')
  (htail:∀ (A:Act) (W:World),J (decide (n≤μ)&&decide (μ < m)) W→A.defers=a.defers→A.tmps.size=a.tmps.size→(∀ i d,sOutB ops n m i d=true→m≤ex i→Φ i (slot A d) W)→(∀ t,sOldB ops n m t=true→slot A t=slot a t)→
   AtN P ops Q m A W):AtN P ops Q n a w:=by
 intro fuel listed hls hl hf
 have hh':=hh
 simp only [segB,qt,decide_eq_true_eq] at hh'
 obtain ⟨⟨⟨⟨⟨hnm,hms⟩,hB⟩,hT⟩,hD⟩,hL⟩:=hh'
 simp only [sDstB,zv,zu,zg,decide_eq_true_eq] at hd
 refine seg_runX (n:=n) (m:=m) (μ:=μ) (ex:=ex) (Φ:=Φ) (J:=J) (a0:=a) hh hsk (fun i d hn hi hdi=>?_) (fun i o hn hi ho hw0 A W b hJ hμ hin hk=>hstep i hn hi o ho hw0 A W b hJ hμ (fun j d h=>?_) (fun t h=>?_)) (fun A W h1 h2 h3 h4 h5=>htail A W h1 h2 h3 (fun i d h hx=>?_) (fun t h=>?_)) (m - n) fuel listed a w ⟨hls,?_,?_,?_,?_,rfl,rfl,?_,fun _ _=>rfl⟩ ?_ (by omega)
 ·have:=(hd i hi).resolve_left (by omega)
  rw [hdi] at this
  simpa using this
 ·simp only [sInX,sInB,qt,zg,decide_eq_true_eq,beq_iff_eq] at h
  obtain ⟨h,hx⟩:=h
  have:=hin j d h.1.1.1 h.1.1.2 h.1.2 h.2 (by rcases hx with (h7|h7)|h7 <;> simp [h7])
  simp only [slot,ym] at this
  exact this
 ·simp only [sKeptB,qt,uw,decide_eq_true_eq,zv,zu,zg,bne_iff_ne,ue] at h
  have:=hk t h.1 (fun j hnj hj hdj=>by
   rcases h.2 j hj with (h7|h7)|h7
   ·omega
   ·exact absurd hdj h7
   ·exact h7)
  simp only [slot,ym] at this⊢
  exact this
 ·simp only [sOutB,qt,decide_eq_true_eq,beq_iff_eq] at h
  exact h4 i d h.1.1 h.1.2 h.2 hx
 ·simp only [sOldB,zv,zu,zg,decide_eq_true_eq,bne_iff_ne] at h
  exact h5 t fun i hn hi=>(h i hi).resolve_left (by omega)
 ·intro t ht
  rw [hl];simpa using ht
 ·intro t ht
  rw [hl];simp;omega
 ·intro j oj hj hjl e he hb
  have:=ph hB hj he hb
  rw [hl] at hjl⊢
  simp only [decide_eq_true_eq] at hjl⊢
  omega
 ·rw [hl]
  have:(decide (n≤μ)&&decide (μ < n))=false:=by simp
  rw [this]
  exact h0
 ·intro i d hn hi hil
  rw [hl] at hil
  simp at hil
  omega
 ·have hcong:((List.range m).filter fun i=>!listed.getD i false)=(List.range m).filter fun i=>decide (n≤i):=List.filter_congr fun i _=>by
   rw [hl]
   by_cases h:i < n
   ·simp [h]
   ·simp [h];omega
  rw [hcong]
  clear hcong
  have:∀ m,((List.range m).filter fun i=>decide (n≤i)).length=m - n:=by
   intro m
   induction m with
   |zero=>simp
   |succ m ih=>
    rw [List.range_succ,uf,qg,ih]
    by_cases h:n≤m
    ·simp [h];omega
    ·simp [h];omega
  exact this m
def JX (w:World) (T:Nat→Prop) (b:Bool) (W:World):Prop:=Chg w W T∧(b=false→New w W)
def AtN.segX2 (n m μ:Nat) (ds:List Nat) (T:Nat→Prop) (ex:Nat→Nat) (Φ:Nat→Value→World→Prop) (hh:segB ops n m=true) (hwn:wantB ops n m a.tmps=true) (hd:sDstB ops n m a.tmps.size=true) (hds:dsB ops n m ds=true)
  (hstep:∀ i,n≤i→i < m→∀ o,ops[i]? =some o→∀ (A:Act) (W:World) (b:Bool),JX w T b W→(i=μ→b=false)→(∀ j d,(h:sInX ops n m ex i j d=true:=by kernel_rfl)→Φ j (A.tmps[d]?.getD undef) W)→
   (∀ t,(h:sKeptB ops n m i t=true:=by kernel_rfl)→A.tmps[t]?.getD undef=slot a t)→Gives P o A.eval W fun v W'=>JX w T (b||i == μ) W'∧Φ i v W'∧∀ k u,k≠i→ex k≠i→ahead .any ops ops.size i k=false→(m≤ex k∨ahead .any ops ops.size (ex k) i=false)→Φ k u W→Φ k u W')
  (htail:∀ (l:List Value) (W:World),JX w T (decide (n≤μ)&&decide (μ < m)) W→l.length=m - n→(∀ j,j < m - n→m≤ex (n+j)→Φ (n+j) (l.getD j undef) W)→AtN P ops Q m (putsL (ds.zip l) a) W):AtN P ops Q n a w:=by
 refine AtN.segX' n m μ ex Φ (JX w T) hh (fun i o hn hi ho h=>(rq hwn hn hi ho h).elim) hd ⟨Chg.refl _ _,fun _=>Chg.refl _ _⟩ (fun i hn hi o ho _ A W b hJ hμ hin hk=>hstep i hn hi o ho A W b hJ (fun h=>hμ (.inl h)) hin hk) (fun A W hN h1 h2 h3 h4=>?_)
 have hds':=hds
 simp only [dsB,qt,decide_eq_true_eq] at hds'
 obtain ⟨⟨hlen,hnd⟩,_⟩:=hds'
 have hz:(ds.zip (ds.map (slot A))).map (·.1)=ds:=List.map_fst_zip (by simp)
 rw [lx (l:=ds.zip (ds.map (slot A))) hds hd hz h1 h2 (fun i d hid v hv=>?_) h4]
 ·refine htail _ W hN (by simpa using hlen) (fun j hj hx=>?_)
  obtain ⟨d,hd1,hd2⟩:=tl hds (i:=n+j) (by omega) (by omega)
  rw [show n+j - n=j by omega] at hd2
  have:=h3 (n+j) d (by simp [sOutB,hd1];omega) hx
  rw [yx,qa,hd2]
  exact this
 ·rw [yu] at hv
  obtain ⟨e1,e2⟩:=hv
  rw [qa,e1] at e2
  exact Option.some.inj e2
def JX.new {w W W':World} {T:Nat→Prop} {b c:Bool} (h:JX w T b W) (hN:New W W'):JX w T (b||c) W':=
 ⟨h.1.trans hN (fun _ _ x=>x.elim),fun hb=>(h.2 (by cases b <;> simp_all)).trans hN qdr⟩
def JX.turn {w W W':World} {T T':Nat→Prop} {b:Bool} (h:JX w T b W) (hc:Chg W W' T') (hT:∀ k,k < w.heap.size→T' k→T k):JX w T (b||true) W':=
 ⟨h.1.trans hc hT,fun hb=>by cases b <;> simp at hb⟩
def my {b:Bool} {p:Prop} (h:b=false) (h':b=true):p:=by rw [h] at h';cases h'
def Gives.newX {m:Nat} {o:Oper} {ρ:Operand→Value} {w W:World} {T:Nat→Prop} {Φ:Nat→Value→World→Prop} {ex:Nat→Nat} {i:Nat} {b c:Bool} (hJ:JX w T b W) (hst:∀ i v w1 w2,New w1 w2→Φ i v w1→Φ i v w2) (h:Gives P o ρ W fun v W'=>New W W'∧Φ i v W'):
  Gives P o ρ W fun v W'=>JX w T (b||c) W'∧Φ i v W'∧∀ k u,k≠i→ex k≠i→ahead .any ops ops.size i k=false→(m≤ex k∨ahead .any ops ops.size (ex k) i=false)→Φ k u W→Φ k u W':=by
 rcases h with ⟨v,W',hr,h1,h2⟩| ⟨W',hr,h1,h2⟩| ⟨f,args,W',hr,hc⟩
 ·exact .inl ⟨v,W',hr,hJ.new h1,h2,fun k u _ _ _ _ h=>hst k u _ _ h1 h⟩
 ·exact .inr (.inl ⟨W',hr,hJ.new h1,h2,fun k u _ _ _ _ h=>hst k u _ _ h1 h⟩)
 ·refine .inr (.inr ⟨f,args,W',hr,hc.mono ?_⟩)
  rintro e W'' ⟨v,he,h1,h2⟩
  exact ⟨v,he,hJ.new h1,h2,fun k u _ _ _ _ h=>hst k u _ _ h1 h⟩
end
def dsB3 (ops:Array Oper) (n m:Nat) (ds:List (Nat×Nat)):Bool:=decide (ds.map (·.2)).Nodup&&ds.all (fun p=>decide (n≤p.1)&&decide (p.1 < m)&&dstOf ops p.1 == some p.2)&&
 (List.range m).all fun i=>decide (i < n)||(match dstOf ops i with|some d=>ds.contains (i,d)|none=>true)
section
variable {P:Program} {ops:Array Oper} {Q:Exit→Act→World→Prop} {a:Act} {w:World}
def puts_eq3 {n m:Nat} {ds:List (Nat×Nat)} (hds:dsB3 ops n m ds=true) (hd:sDstB ops n m a.tmps.size=true) {A:Act} (vs:Nat→Value) (h1:A.defers=a.defers) (h2:A.tmps.size=a.tmps.size)
  (h3:∀ i d,sOutB ops n m i d=true→slot A d=vs i) (h4:∀ t,sOldB ops n m t=true→slot A t=slot a t):A=putsL (ds.map fun p=>(p.2,vs p.1)) a:=by
 simp only [dsB3,qt,decide_eq_true_eq,zv,zu,zg,beq_iff_eq] at hds
 obtain ⟨⟨hnd,hin⟩,hall⟩:=hds
 have hmap:(ds.map fun p=>(p.2,vs p.1)).map (·.1)=ds.map (·.2):=by rw [List.map_map];rfl
 refine qaz (by rw [cp,h1]) (by rw [fc,h2]) fun t=>?_
 by_cases ht:t∈ds.map (·.2)
 ·obtain ⟨p,hp,rfl⟩:=zi.1 ht
  obtain ⟨⟨hp1,hp2⟩,hp3⟩:=hin p hp
  rw [h3 p.1 p.2 (by simp [sOutB,hp1,hp2,hp3])]
  symm
  have hsz:p.2 < a.tmps.size:=by
   simp only [sDstB,zv,zu,zg,decide_eq_true_eq] at hd
   have:=(hd p.1 hp2).resolve_left (by omega)
   rw [hp3] at this
   simpa using this
  exact tk _ a _ _ (by rw [hmap];exact hnd) (zi.2 ⟨p,hp,rfl⟩) hsz
 ·rw [di _ a t (by rw [hmap];exact ht)]
  refine h4 t ?_
  simp only [sOldB,zv,zu,zg,decide_eq_true_eq,bne_iff_ne]
  intro j hj
  by_cases hjn:j < n
  ·exact .inl hjn
  ·refine .inr fun he=>ht ?_
   have h5:=(hall j hj).resolve_left hjn
   rw [he] at h5
   simp only [uw,decide_eq_true_eq] at h5
   exact zi.2 ⟨_,h5,rfl⟩
def AtN.segV3 (n m μ:Nat) (vs:Nat→Value) (ds:List (Nat×Nat)) (l:List (Nat×Value)) (J:Bool→World→Prop) (hh:segB ops n m=true) (hwn:wantB ops n m a.tmps=true) (hd:sDstB ops n m a.tmps.size=true) (hds:dsB3 ops n m ds=true) (hl:l=ds.map fun p=>(p.2,vs p.1)) (h0:J false w)
  (hstep:∀ i,n≤i→i < m→∀ o,ops[i]? =some o→∀ (A:Act) (W:World) (b:Bool),J b W→(i=μ∨ahead .any ops ops.size i μ=true→b=false)→(∀ j d,(h:sInB ops n m i j d=true:=by kernel_rfl)→A.tmps[d]?.getD undef=vs j)→
   (∀ t,(h:sKeptB ops n m i t=true:=by kernel_rfl)→A.tmps[t]?.getD undef=slot a t)→Gives P o A.eval W fun v W'=>J (b||i == μ) W'∧v=vs i)
  (htail:∀ (W:World),J (decide (n≤μ)&&decide (μ < m)) W→AtN P ops Q m (putsL l a) W):AtN P ops Q n a w:=by
 refine AtN.segX' n m μ (fun _=>m) (fun i v _=>v=vs i) J hh (fun i o hn hi ho h=>(rq hwn hn hi ho h).elim) hd h0 (fun i hn hi o ho _ A W b hJ hμ hin hk=>?_) (fun A W hJ h1 h2 h3 h4=>?_)
 ·rcases hstep i hn hi o ho A W b hJ hμ (fun j d h=>hin j d (by simp [sInX,h])) hk with ⟨v,W',hr,h1,h2⟩| ⟨W',hr,h1,h2⟩| ⟨f,args,W',hr,hc⟩
  ·exact .inl ⟨v,W',hr,h1,h2,fun _ _ _ _ _ _ h=>h⟩
  ·exact .inr (.inl ⟨W',hr,h1,h2,fun _ _ _ _ _ _ h=>h⟩)
  ·refine .inr (.inr ⟨f,args,W',hr,hc.mono ?_⟩)
   rintro e W'' ⟨v,he,h1,h2⟩
   exact ⟨v,he,h1,h2,fun _ _ _ _ _ _ h=>h⟩
 ·rw [puts_eq3 hds hd vs h1 h2 (fun i d h=>h3 i d h (qh _)) h4, ←hl]
  exact htail W hJ
end
def JTwo (w1 w2:World) (d:Bool) (W:World):Prop:=(d=false→W=w1)∧(d=true→W=w2)
def cq {P:Program} {o:Oper} {A:Act} {W:World} {k:Nat} (x y:Operand) (e:TypeId) (ho:o.op=.store e x y) (hS:StT P e k) (g off:Nat) (t:TypeId) (cur:Array Value) (cs:List Value) (hx:A.eval x=.pointer (some ⟨g,off,none⟩)) (hy:A.eval y=.agg cs.toArray)
  (hB:Blk W g t cur) (hl:cs.length=k) (hfit:off+k≤cur.size) (h1:∀ u∈cs,u.oneCell'=true):(execOp A.eval o).run P W=.ok .skip (W.setRow g (layA cur off cs)):=by
 have hrun:=td (P:=P) hS g off t cur cs hB hl hfit h1
 unfold execOp
 simp only [ho,hx,hy,Instr.storeAt,Instr.sureAddr,Sem.run_bind,Sem.run_pure,Result.andThen_ok,hrun]
 rfl
def Gives.skip {P:Program} {o:Oper} {ρ:Operand→Value} {W W':World} {R:Value→World→Prop} (hr:(execOp ρ o).run P W=.ok .skip W') (h:R undef W'):Gives P o ρ W R:=.inr (.inl ⟨W',hr,h⟩)
section
variable {P:Program} {ops:Array Oper} {Q:Exit→Act→World→Prop} {a:Act} {w:World}
end
end Go.Proofs.YtbpgfnbhihklnaaGreat
