/- Part 9 of what stands beneath. -/
import Derived.Test.YtbpgfnbhihklnaaGreatJ8
set_option maxHeartbeats 8000000
set_option maxRecDepth 100000
set_option linter.all false
namespace Go.Proofs.YtbpgfnbhihklnaaGreat
open Go.RowKit Go.Shelf
def alikeB (r s:Rw):Bool:=decide (r.name=s.name)&&(decide (r.args.length=s.args.length)&&decide (cmpL cmpV r.args.dropLast s.args.dropLast=0))
def qbv (w:World) (xc yc:List Value) (r s:Rw) (hx:RowAt w xc r) (hy:RowAt w yc s) (h1:1≤r.args.length) (h2:1≤s.args.length):
  Calls Tryz.prog 80 #[.agg xc.toArray,.agg yc.toArray] w fun e w'=>e=.returned (.bool (alikeB r s))∧New w w':=by
 obtain ⟨A,c,rfl,g2,g3,g4,g5,g6⟩:=hx
 obtain ⟨B,d,rfl,f2,f3,f4,f5,f6⟩:=hy
 obtain ⟨la,hla⟩:=qdp (r.args.length)
 obtain ⟨lb,hlb⟩:=qdp (s.args.length)
 obtain ⟨l0,hl0⟩:∃ l,la=l+1:=⟨la - 1,by omega⟩
 obtain ⟨m0,hm0⟩:∃ l,lb=l+1:=⟨lb - 1,by omega⟩
 obtain ⟨us,hus⟩:=qdp (r.args.dropLast)
 obtain ⟨vs,hvs⟩:=qdp (s.args.dropLast)
 have hul:us.length=l0:=by rw [←hus,jv,hla,hl0];rfl
 have hvl:vs.length=m0:=by rw [←hvs,jv,hlb,hm0];rfl
 have hsu:SrcAt w A 4 (us.map vcs):=by
  have:=g5.take l0
  rw [←List.map_take,show r.args.take l0=us by rw [←hus,List.dropLast_eq_take,hla,hl0];rfl] at this
  exact this
 have hsv:SrcAt w B 4 (vs.map vcs):=by
  have:=f5.take m0
  rw [←List.map_take,show s.args.take m0=vs by rw [←hvs,List.dropLast_eq_take,hlb,hm0];rfl] at this
  exact this
 rw [show alikeB r s=(decide (r.name=s.name)&&(decide (r.args.length=s.args.length)&&decide (cmpL cmpV r.args.dropLast s.args.dropLast=0))) from rfl]
 rw [hla] at h1 g2 g3⊢
 rw [hlb] at h2 f2 f3⊢
 rw [hus,hvs]
 obtain ⟨bc,hbc⟩:=qdp (decide (cmpL cmpV us vs=0))
 rw [hbc]
 have Hbc:=qq hbc
 obtain ⟨w1,hw1⟩:=qdq ((w.alloc (.cells #[.string r.name,.slice A la c,.int .i64 r.stamp] 42)).alloc (.cells #[.string s.name,.slice B lb d,.int .i64 s.stamp] 42))
 have hN1:New w w1:=by rw [hw1];exact ((Chg.refl _ _).alloc _).alloc _
 have b0:Blk w1 w.heap.size 42 #[.string r.name,.slice A la c,.int .i64 r.stamp]:=by rw [hw1];exact (Blk.new w _ _).alloc _
 have b1:Blk w1 (w.heap.size+1) 42 #[.string s.name,.slice B lb d,.int .i64 s.stamp]:=by
  have:=Blk.new (w.alloc (.cells #[.string r.name,.slice A la c,.int .i64 r.stamp] 42)) 42 #[.string s.name,.slice B lb d,.int .i64 s.stamp]
  simp only [World.size_alloc] at this
  rw [hw1];exact this
 have hnd:New w1 w1.drew:=(Chg.refl _ _).drew
 have hND:=hN1.trans hnd qdr
 have B0:=qq (b0.chg hnd id)
 have B1:=qq (b1.chg hnd id)
 have HND:=qq hND
 have HSu:=qq (hsu.chg hND qdr)
 have HSv:=qq (hsv.chg hND qdr)
 have HW1:=qq hw1
 have Hul:=qq hul
 have Hvl:=qq hvl
 clear b0 b1 hnd hN1 hND hw1 hsu hsv hus hvs hul hvl g5 f5 g6 f6 hla hlb hbc
 have eg1:=enters_of Tryz.func121 (by kernel_rfl) rfl
 unfold Enters at eg1
 obtain ⟨bn,hbn⟩:=qdp (decide (r.name=s.name))
 have hbe:(r.name.toList == s.name.toList)=bn:=by
  rw [←hbn]
  by_cases h:r.name=s.name
  ·simp [h]
  ·rw [decide_eq_false h,beq_eq_false_iff_ne]
   exact fun e=>h (tl_eq'.1 e)
 rw [hbn]
 obtain ⟨bl,hbl⟩:=qdp (decide (la=lb))
 have hbl2:((la:Int) == (lb:Int))=bl:=by
  rw [←hbl]
  by_cases h:la=lb
  ·simp [h]
  ·rw [decide_eq_false (by omega),beq_eq_false_iff_ne];omega
 have hbl3:(la == lb)=bl:=by
  rw [←hbl]
  by_cases h:la=lb
  ·simp [h]
  ·rw [decide_eq_false (by omega),beq_eq_false_iff_ne];omega
 rw [hbl]
 have Hbl:=qq hbl
 have Hl0:=qq hl0
 have Hm0:=qq hm0
 clear hbn hbl hl0 hm0
 go_enter Tryz.func80,Tryz.ntmps80
 go_upto_region 1 with fail
 rw [←HW1.out]
 refine vj (by kernel_rfl) ?_
 clear HW1
 generalize w1.drew=wd at B0 B1 HND HSu HSv⊢
 cases bn with
 |false=>
  refine AtN.segQ2 0 6 (fun
   |0=>.pointer (some ⟨w.heap.size,0,none⟩)
   |1=>.string r.name
   |2=>.pointer (some ⟨w.heap.size+1,0,none⟩)
   |3=>.string s.name
   |4=>.bool false
   |_=>.bool false)
   [(5,.pointer (some ⟨w.heap.size,0,none⟩)),(6,.string r.name),(7,.pointer (some ⟨w.heap.size+1,0,none⟩)),(8,.string s.name),(9,.bool false),(10,.bool false)] (by kernel_rfl) (by kernel_rfl) (by kernel_rfl) (by kernel_rfl) rfl (fun i hn hi o ho A0 hin hk=>?_) ?_
  ·rcases (show i=0∨i=1∨i=2∨i=3∨i=4∨i=5 by omega) with rfl|rfl|rfl|rfl|rfl|rfl<;>cases ho
   ·have h2:A0.tmps[2]?.getD undef=.pointer (some ⟨w.heap.size,0,none⟩):=hk 2
    exact by simp [go_sem,h2]
   ·have h5:A0.tmps[5]?.getD undef=.pointer (some ⟨w.heap.size,0,none⟩):=hin 0 5
    have hcx:wd.cell? ⟨w.heap.size,0,none⟩=some (.string r.name):=B0.out.cell 0
    exact by simp [go_sem,h5,hcx]
   ·have h3:A0.tmps[3]?.getD undef=.pointer (some ⟨w.heap.size+1,0,none⟩):=hk 3
    exact by simp [go_sem,h3]
   ·have h7:A0.tmps[7]?.getD undef=.pointer (some ⟨w.heap.size+1,0,none⟩):=hin 2 7
    have hcx:wd.cell? ⟨w.heap.size+1,0,none⟩=some (.string s.name):=B1.out.cell 0
    exact by simp [go_sem,h7,hcx]
   ·have h6:A0.tmps[6]?.getD undef=.string r.name:=hin 1 6
    have h8:A0.tmps[8]?.getD undef=.string s.name:=hin 3 8
    exact by simp [go_sem,h6,h8,hbe]
   ·exact uo 9 _ rfl (hin 4 9)
  simp only [putsL,Act.put,qk,qu,qy]
  refine AtN.segS2 6 13 [(11,undef),(12,undef),(13,undef),(14,undef),(15,undef),(16,undef),(17,undef)] (by kernel_rfl) (by kernel_rfl) (by kernel_rfl) (by kernel_rfl) rfl ?_
  simp only [putsL,Act.put,qk,qu,qy]
  refine AtN.segQ2 13 15 (fun
   |13=>.bool false
   |_=>.bool false)
   [(18,.bool false),(19,.bool false)] (by kernel_rfl) (by kernel_rfl) (by kernel_rfl) (by kernel_rfl) rfl (fun i hn hi o ho A0 hin hk=>?_) ?_
  ·rcases (show i=13∨i=14 by omega) with rfl|rfl<;>cases ho
   ·have h10:A0.tmps[10]?.getD undef=.bool false:=hk 10
    have h17:A0.tmps[17]?.getD undef=undef:=hk 17
    exact by simp [go_sem,h10,h17]
   ·exact uo 18 _ rfl (hin 13 18)
  simp only [putsL,Act.put,qk,qu,qy]
  refine AtN.segS2 15 30 [(20,undef),(21,undef),(22,undef),(23,undef),(24,undef),(25,undef),(26,undef),(27,undef),(28,undef),(29,undef),(30,undef),(31,undef),(32,undef),(33,undef),(34,undef)] (by kernel_rfl) (by kernel_rfl) (by kernel_rfl) (by kernel_rfl) rfl ?_
  simp only [putsL,Act.put,qk,qu,qy]
  refine AtN.segQ2 30 32 (fun
   |30=>.bool false
   |_=>.bool false)
   [(35,.bool false),(4,.bool false)] (by kernel_rfl) (by kernel_rfl) (by kernel_rfl) (by kernel_rfl) rfl (fun i hn hi o ho A0 hin hk=>?_) ?_
  ·rcases (show i=30∨i=31 by omega) with rfl|rfl<;>cases ho
   ·have h19:A0.tmps[19]?.getD undef=.bool false:=hk 19
    have h34:A0.tmps[34]?.getD undef=undef:=hk 34
    exact by simp [go_sem,h19,h34]
   ·have h35:A0.tmps[35]?.getD undef=.bool false:=hin 30 35
    exact by simp [go_sem,h35]
  simp only [putsL,Act.put,qk,qu,qy]
  refine AtN.done rfl ?_
  go_wp2_with fail
  go_ret
  exact ⟨rfl,HND.out⟩
 |true=>
  refine AtN.segQ2 0 6 (fun
   |0=>.pointer (some ⟨w.heap.size,0,none⟩)
   |1=>.string r.name
   |2=>.pointer (some ⟨w.heap.size+1,0,none⟩)
   |3=>.string s.name
   |4=>.bool true
   |_=>.bool true)
   [(5,.pointer (some ⟨w.heap.size,0,none⟩)),(6,.string r.name),(7,.pointer (some ⟨w.heap.size+1,0,none⟩)),(8,.string s.name),(9,.bool true),(10,.bool true)] (by kernel_rfl) (by kernel_rfl) (by kernel_rfl) (by kernel_rfl) rfl (fun i hn hi o ho A0 hin hk=>?_) ?_
  ·rcases (show i=0∨i=1∨i=2∨i=3∨i=4∨i=5 by omega) with rfl|rfl|rfl|rfl|rfl|rfl<;>cases ho
   ·have h2:A0.tmps[2]?.getD undef=.pointer (some ⟨w.heap.size,0,none⟩):=hk 2
    exact by simp [go_sem,h2]
   ·have h5:A0.tmps[5]?.getD undef=.pointer (some ⟨w.heap.size,0,none⟩):=hin 0 5
    have hcx:wd.cell? ⟨w.heap.size,0,none⟩=some (.string r.name):=B0.out.cell 0
    exact by simp [go_sem,h5,hcx]
   ·have h3:A0.tmps[3]?.getD undef=.pointer (some ⟨w.heap.size+1,0,none⟩):=hk 3
    exact by simp [go_sem,h3]
   ·have h7:A0.tmps[7]?.getD undef=.pointer (some ⟨w.heap.size+1,0,none⟩):=hin 2 7
    have hcx:wd.cell? ⟨w.heap.size+1,0,none⟩=some (.string s.name):=B1.out.cell 0
    exact by simp [go_sem,h7,hcx]
   ·have h6:A0.tmps[6]?.getD undef=.string r.name:=hin 1 6
    have h8:A0.tmps[8]?.getD undef=.string s.name:=hin 3 8
    exact by simp [go_sem,h6,h8,hbe]
   ·exact uo 9 _ rfl (hin 4 9)
  simp only [putsL,Act.put,qk,qu,qy]
  cases bl with
  |false=>
   refine AtN.segQ2 6 13 (fun
    |6=>.pointer (some ⟨w.heap.size,1,none⟩)
    |7=>.slice A la c
    |8=>.int .i64 la
    |9=>.pointer (some ⟨w.heap.size+1,1,none⟩)
    |10=>.slice B lb d
    |11=>.int .i64 lb
    |_=>.bool false)
    [(11,.pointer (some ⟨w.heap.size,1,none⟩)),(12,.slice A la c),(13,.int .i64 la),(14,.pointer (some ⟨w.heap.size+1,1,none⟩)),(15,.slice B lb d),(16,.int .i64 lb),(17,.bool false)] (by kernel_rfl) (by kernel_rfl) (by kernel_rfl) (by kernel_rfl) rfl (fun i hn hi o ho A0 hin hk=>?_) ?_
   ·rcases (show i=6∨i=7∨i=8∨i=9∨i=10∨i=11∨i=12 by omega) with rfl|rfl|rfl|rfl|rfl|rfl|rfl<;>cases ho
    ·have h2:A0.tmps[2]?.getD undef=.pointer (some ⟨w.heap.size,0,none⟩):=hk 2
     exact by simp [go_sem,h2]
    ·have h11:A0.tmps[11]?.getD undef=.pointer (some ⟨w.heap.size,1,none⟩):=hin 6 11
     have hcx:wd.cell? ⟨w.heap.size,1,none⟩=some (.slice A la c):=B0.out.cell 1
     exact by simp [go_sem,h11,hcx]
    ·have h12:A0.tmps[12]?.getD undef=.slice A la c:=hin 7 12
     exact by simp [go_sem,h12]
    ·have h3:A0.tmps[3]?.getD undef=.pointer (some ⟨w.heap.size+1,0,none⟩):=hk 3
     exact by simp [go_sem,h3]
    ·have h14:A0.tmps[14]?.getD undef=.pointer (some ⟨w.heap.size+1,1,none⟩):=hin 9 14
     have hcx:wd.cell? ⟨w.heap.size+1,1,none⟩=some (.slice B lb d):=B1.out.cell 1
     exact by simp [go_sem,h14,hcx]
    ·have h15:A0.tmps[15]?.getD undef=.slice B lb d:=hin 10 15
     exact by simp [go_sem,h15]
    ·have h13:A0.tmps[13]?.getD undef=.int .i64 la:=hin 8 13
     have h16:A0.tmps[16]?.getD undef=.int .i64 lb:=hin 11 16
     exact by simp [go_sem,h13,h16,hbl2,hbl3]
   simp only [putsL,Act.put,qk,qu,qy]
   refine AtN.segQ2 13 15 (fun
    |13=>.bool false
    |_=>.bool false)
    [(18,.bool false),(19,.bool false)] (by kernel_rfl) (by kernel_rfl) (by kernel_rfl) (by kernel_rfl) rfl (fun i hn hi o ho A0 hin hk=>?_) ?_
   ·rcases (show i=13∨i=14 by omega) with rfl|rfl<;>cases ho
    ·have h10:A0.tmps[10]?.getD undef=.bool true:=hk 10
     have h17:A0.tmps[17]?.getD undef=.bool false:=hk 17
     exact by simp [go_sem,h10,h17]
    ·exact uo 18 _ rfl (hin 13 18)
   simp only [putsL,Act.put,qk,qu,qy]
   refine AtN.segS2 15 30 [(20,undef),(21,undef),(22,undef),(23,undef),(24,undef),(25,undef),(26,undef),(27,undef),(28,undef),(29,undef),(30,undef),(31,undef),(32,undef),(33,undef),(34,undef)] (by kernel_rfl) (by kernel_rfl) (by kernel_rfl) (by kernel_rfl) rfl ?_
   simp only [putsL,Act.put,qk,qu,qy]
   refine AtN.segQ2 30 32 (fun
    |30=>.bool false
    |_=>.bool false)
    [(35,.bool false),(4,.bool false)] (by kernel_rfl) (by kernel_rfl) (by kernel_rfl) (by kernel_rfl) rfl (fun i hn hi o ho A0 hin hk=>?_) ?_
   ·rcases (show i=30∨i=31 by omega) with rfl|rfl<;>cases ho
    ·have h19:A0.tmps[19]?.getD undef=.bool false:=hk 19
     have h34:A0.tmps[34]?.getD undef=undef:=hk 34
     exact by simp [go_sem,h19,h34]
    ·have h35:A0.tmps[35]?.getD undef=.bool false:=hin 30 35
     exact by simp [go_sem,h35]
   simp only [putsL,Act.put,qk,qu,qy]
   refine AtN.done rfl ?_
   go_wp2_with fail
   go_ret
   exact ⟨rfl,HND.out⟩
  |true=>
   refine AtN.segQ2 6 13 (fun
    |6=>.pointer (some ⟨w.heap.size,1,none⟩)
    |7=>.slice A la c
    |8=>.int .i64 la
    |9=>.pointer (some ⟨w.heap.size+1,1,none⟩)
    |10=>.slice B lb d
    |11=>.int .i64 lb
    |_=>.bool true)
    [(11,.pointer (some ⟨w.heap.size,1,none⟩)),(12,.slice A la c),(13,.int .i64 la),(14,.pointer (some ⟨w.heap.size+1,1,none⟩)),(15,.slice B lb d),(16,.int .i64 lb),(17,.bool true)] (by kernel_rfl) (by kernel_rfl) (by kernel_rfl) (by kernel_rfl) rfl (fun i hn hi o ho A0 hin hk=>?_) ?_
   ·rcases (show i=6∨i=7∨i=8∨i=9∨i=10∨i=11∨i=12 by omega) with rfl|rfl|rfl|rfl|rfl|rfl|rfl<;>cases ho
    ·have h2:A0.tmps[2]?.getD undef=.pointer (some ⟨w.heap.size,0,none⟩):=hk 2
     exact by simp [go_sem,h2]
    ·have h11:A0.tmps[11]?.getD undef=.pointer (some ⟨w.heap.size,1,none⟩):=hin 6 11
     have hcx:wd.cell? ⟨w.heap.size,1,none⟩=some (.slice A la c):=B0.out.cell 1
     exact by simp [go_sem,h11,hcx]
    ·have h12:A0.tmps[12]?.getD undef=.slice A la c:=hin 7 12
     exact by simp [go_sem,h12]
    ·have h3:A0.tmps[3]?.getD undef=.pointer (some ⟨w.heap.size+1,0,none⟩):=hk 3
     exact by simp [go_sem,h3]
    ·have h14:A0.tmps[14]?.getD undef=.pointer (some ⟨w.heap.size+1,1,none⟩):=hin 9 14
     have hcx:wd.cell? ⟨w.heap.size+1,1,none⟩=some (.slice B lb d):=B1.out.cell 1
     exact by simp [go_sem,h14,hcx]
    ·have h15:A0.tmps[15]?.getD undef=.slice B lb d:=hin 10 15
     exact by simp [go_sem,h15]
    ·have h13:A0.tmps[13]?.getD undef=.int .i64 la:=hin 8 13
     have h16:A0.tmps[16]?.getD undef=.int .i64 lb:=hin 11 16
     exact by simp [go_sem,h13,h16,hbl2,hbl3]
   simp only [putsL,Act.put,qk,qu,qy]
   refine AtN.segQ2 13 15 (fun
    |13=>.bool true
    |_=>.bool true)
    [(18,.bool true),(19,.bool true)] (by kernel_rfl) (by kernel_rfl) (by kernel_rfl) (by kernel_rfl) rfl (fun i hn hi o ho A0 hin hk=>?_) ?_
   ·rcases (show i=13∨i=14 by omega) with rfl|rfl<;>cases ho
    ·have h10:A0.tmps[10]?.getD undef=.bool true:=hk 10
     have h17:A0.tmps[17]?.getD undef=.bool true:=hk 17
     exact by simp [go_sem,h10,h17]
    ·exact uo 18 _ rfl (hin 13 18)
   simp only [putsL,Act.put,qk,qu,qy]
   have hlm:la=lb:=of_decide_eq_true Hbl.out
   subst hlm
   have hm00:m0=l0:=by have:=Hl0.out;have:=Hm0.out;omega
   subst hm00
   clear hbl2 hbl3 hbe
   have hl1:=Hl0.out
   have q0:(0:Int)≤(m0:Int):=by omega
   have q1:(m0:Int)≤(c:Int):=by omega
   have q2:m0≤c:=by omega
   have q3:(m0:Int)≤(d:Int):=by omega
   have q4:m0≤d:=by omega
   have q6:m0≤100000000:=by omega
   have q5:IntKind.i64.wrap ((la:Int) - 1)=(m0:Int):=by rw [IntKind.wrap_i64];omega
   clear hl1
   refine AtN.segN2 15 32 [20,21,22,23,24,25,26,27,28,29,30,31,32,33,34,35,4] (fun
    |15=>fun v _=>v=.pointer (some ⟨w.heap.size,1,none⟩)
    |16=>fun v _=>v=.slice A la c
    |17=>fun v _=>v=.pointer (some ⟨w.heap.size,1,none⟩)
    |18=>fun v _=>v=.slice A la c
    |19=>fun v _=>v=.int .i64 la
    |20=>fun v _=>v=.int .i64 m0
    |21=>fun v _=>v=.slice A m0 c
    |22=>fun v _=>v=.pointer (some ⟨w.heap.size+1,1,none⟩)
    |23=>fun v _=>v=.slice B la d
    |24=>fun v _=>v=.pointer (some ⟨w.heap.size+1,1,none⟩)
    |25=>fun v _=>v=.slice B la d
    |26=>fun v _=>v=.int .i64 la
    |27=>fun v _=>v=.int .i64 m0
    |28=>fun v _=>v=.slice B m0 d
    |29=>fun v _=>v=.bool bc
    |30=>fun v _=>v=.bool bc
    |31=>fun v _=>v=.bool bc
    |_=>fun _ _=>True) (by kernel_rfl) (by kernel_rfl) (by kernel_rfl) (by kernel_rfl) (fun j v w1 w2 hc h=>?_) (fun i hn hi o ho A0 W hN hin hk=>?_) (fun l W5 hN hl hΦ=>?_)
   ·match j with
    |15|16|17|18|19|20|21|22|23|24|25|26|27|28|29|30|31=>exact h
    |0|1|2|3|4|5|6|7|8|9|10|11|12|13|14=>trivial
    |_+32=>trivial
   ·rcases (show i=15∨i=16∨i=17∨i=18∨i=19∨i=20∨i=21∨i=22∨i=23∨i=24∨i=25∨i=26∨i=27∨i=28∨i=29∨i=30∨i=31 by omega) with rfl|rfl|rfl|rfl|rfl|rfl|rfl|rfl|rfl|rfl|rfl|rfl|rfl|rfl|rfl|rfl|rfl<;>cases ho
    ·have h2:A0.tmps[2]?.getD undef=.pointer (some ⟨w.heap.size,0,none⟩):=hk 2
     exact .same (by simp [go_sem,h2]) rfl
    ·have h20:A0.tmps[20]?.getD undef=.pointer (some ⟨w.heap.size,1,none⟩):=hin 15 20
     have hcx:W.cell? ⟨w.heap.size,1,none⟩=some (.slice A la c):=(B0.out.chg hN id).cell 1
     exact .same (v:=.slice A la c) (by simp [go_sem,h20,hcx]) rfl
    ·have h2:A0.tmps[2]?.getD undef=.pointer (some ⟨w.heap.size,0,none⟩):=hk 2
     exact .same (by simp [go_sem,h2]) rfl
    ·have h22:A0.tmps[22]?.getD undef=.pointer (some ⟨w.heap.size,1,none⟩):=hin 17 22
     have hcx:W.cell? ⟨w.heap.size,1,none⟩=some (.slice A la c):=(B0.out.chg hN id).cell 1
     exact .same (v:=.slice A la c) (by simp [go_sem,h22,hcx]) rfl
    ·have h23:A0.tmps[23]?.getD undef=.slice A la c:=hin 18 23
     exact .same (by simp [go_sem,h23]) rfl
    ·have h24:A0.tmps[24]?.getD undef=.int .i64 la:=hin 19 24
     exact .same (by simp [go_sem,h24,q0,q1,q2,q3,q4,q5]) rfl
    ·have h21:A0.tmps[21]?.getD undef=.slice A la c:=hin 16 21
     have h25:A0.tmps[25]?.getD undef=.int .i64 m0:=hin 20 25
     exact .same (by simp [go_sem,h21,h25,q0,q1,q2,q3,q4,q5]) rfl
    ·have h3:A0.tmps[3]?.getD undef=.pointer (some ⟨w.heap.size+1,0,none⟩):=hk 3
     exact .same (by simp [go_sem,h3]) rfl
    ·have h27:A0.tmps[27]?.getD undef=.pointer (some ⟨w.heap.size+1,1,none⟩):=hin 22 27
     have hcx:W.cell? ⟨w.heap.size+1,1,none⟩=some (.slice B la d):=(B1.out.chg hN id).cell 1
     exact .same (v:=.slice B la d) (by simp [go_sem,h27,hcx]) rfl
    ·have h3:A0.tmps[3]?.getD undef=.pointer (some ⟨w.heap.size+1,0,none⟩):=hk 3
     exact .same (by simp [go_sem,h3]) rfl
    ·have h29:A0.tmps[29]?.getD undef=.pointer (some ⟨w.heap.size+1,1,none⟩):=hin 24 29
     have hcx:W.cell? ⟨w.heap.size+1,1,none⟩=some (.slice B la d):=(B1.out.chg hN id).cell 1
     exact .same (v:=.slice B la d) (by simp [go_sem,h29,hcx]) rfl
    ·have h30:A0.tmps[30]?.getD undef=.slice B la d:=hin 25 30
     exact .same (by simp [go_sem,h30]) rfl
    ·have h31:A0.tmps[31]?.getD undef=.int .i64 la:=hin 26 31
     exact .same (by simp [go_sem,h31,q0,q1,q2,q3,q4,q5]) rfl
    ·have h28:A0.tmps[28]?.getD undef=.slice B la d:=hin 23 28
     have h32:A0.tmps[32]?.getD undef=.int .i64 m0:=hin 27 32
     exact .same (by simp [go_sem,h28,h32,q0,q1,q2,q3,q4,q5]) rfl
    ·have h26:A0.tmps[26]?.getD undef=.slice A m0 c:=hin 21 26
     have h33:A0.tmps[33]?.getD undef=.slice B m0 d:=hin 28 33
     refine .call (f:=121) (args:=#[.slice A m0 c,.slice B m0 d,.func (.func 122) #[] #[]]) (W':=W) ?_ ((eq_vals W A m0 c B d us vs Hul.out.symm Hvl.out.symm q6 (HSu.out.chg hN qdr) (HSv.out.chg hN qdr)).mono ?_)
     ·simp [go_sem,h26,h33,eg1]
     ·rintro e w' ⟨rfl,hc⟩
      exact ⟨_,rfl,hc,by rw [Hbc.out];rfl⟩
    ·have h19:A0.tmps[19]?.getD undef=.bool true:=hk 19
     have h34:A0.tmps[34]?.getD undef=.bool bc:=hin 29 34
     exact .same (by simp [go_sem,h19,h34]) rfl
    ·have h35:A0.tmps[35]?.getD undef=.bool bc:=hin 30 35
     exact .same (by simp [go_sem,h35]) rfl
   obtain ⟨x20,x21,x22,x23,x24,x25,x26,x27,x28,x29,x30,x31,x32,x33,x34,x35,x4,rfl⟩:∃ x20 x21 x22 x23 x24 x25 x26 x27 x28 x29 x30 x31 x32 x33 x34 x35 x4,l=[x20,x21,x22,x23,x24,x25,x26,x27,x28,x29,x30,x31,x32,x33,x34,x35,x4]:=by
    match l,hl with
    | [x20,x21,x22,x23,x24,x25,x26,x27,x28,x29,x30,x31,x32,x33,x34,x35,x4],_=>exact ⟨_,_,_,_,_,_,_,_,_,_,_,_,_,_,_,_,_,rfl⟩
   obtain rfl:x20=.pointer (some ⟨w.heap.size,1,none⟩):=hΦ 0 (by decide)
   obtain rfl:x21=.slice A la c:=hΦ 1 (by decide)
   obtain rfl:x22=.pointer (some ⟨w.heap.size,1,none⟩):=hΦ 2 (by decide)
   obtain rfl:x23=.slice A la c:=hΦ 3 (by decide)
   obtain rfl:x24=.int .i64 la:=hΦ 4 (by decide)
   obtain rfl:x25=.int .i64 m0:=hΦ 5 (by decide)
   obtain rfl:x26=.slice A m0 c:=hΦ 6 (by decide)
   obtain rfl:x27=.pointer (some ⟨w.heap.size+1,1,none⟩):=hΦ 7 (by decide)
   obtain rfl:x28=.slice B la d:=hΦ 8 (by decide)
   obtain rfl:x29=.pointer (some ⟨w.heap.size+1,1,none⟩):=hΦ 9 (by decide)
   obtain rfl:x30=.slice B la d:=hΦ 10 (by decide)
   obtain rfl:x31=.int .i64 la:=hΦ 11 (by decide)
   obtain rfl:x32=.int .i64 m0:=hΦ 12 (by decide)
   obtain rfl:x33=.slice B m0 d:=hΦ 13 (by decide)
   obtain rfl:x34=.bool bc:=hΦ 14 (by decide)
   obtain rfl:x35=.bool bc:=hΦ 15 (by decide)
   obtain rfl:x4=.bool bc:=hΦ 16 (by decide)
   simp only [putsL,zq,zj,zz,List.zip,List.zipWith,Act.put,qk,qu,qy]
   clear hΦ hl
   refine AtN.done rfl ?_
   have HN5:=qq (HND.out.trans hN qdr)
   clear hN
   go_wp2_with fail
   go_ret
   exact ⟨rfl,HN5.out⟩
def qck (w:World) (bx:Nat) (sign:Int) (hs:sign=1∨sign=-1) (hc:w.cell? ⟨bx,0,none⟩=some (.int .i64 sign)) (so xv:Vl) (first:Bool):
  Calls Tryz.prog 117 #[.agg #[.int .i64 so.k,.int .i64 so.i,.string so.t,.slice none 0 0],.agg #[.int .i64 xv.k,.int .i64 xv.i,.string xv.t,.slice none 0 0],.bool first,.pointer (some ⟨bx,0,none⟩)] w fun e w'=>e=.returned (vval (bestV sign so xv first))∧New w w':=by
 obtain ⟨w1,hw1⟩:=qdq (((w.alloc (.cells #[.int .i64 so.k,.int .i64 so.i,.string so.t,.slice none 0 0] 62)).alloc (.cells #[.int .i64 xv.k,.int .i64 xv.i,.string xv.t,.slice none 0 0] 62)).alloc (.cells #[.int .i64 0,.int .i64 0,.string ⟨#[]⟩,.slice none 0 0] 62))
 have hN1:New w w1:=by rw [hw1];exact (((Chg.refl _ _).alloc _).alloc _).alloc _
 have b0:Blk w1 w.heap.size 62 #[.int .i64 so.k,.int .i64 so.i,.string so.t,.slice none 0 0]:=by rw [hw1];exact ((Blk.new w _ _).alloc _).alloc _
 have b1:Blk w1 (w.heap.size+1) 62 #[.int .i64 xv.k,.int .i64 xv.i,.string xv.t,.slice none 0 0]:=by
  have:=Blk.new (w.alloc (.cells #[.int .i64 so.k,.int .i64 so.i,.string so.t,.slice none 0 0] 62)) 62 #[.int .i64 xv.k,.int .i64 xv.i,.string xv.t,.slice none 0 0]
  simp only [World.size_alloc] at this
  rw [hw1];exact this.alloc _
 have b2:Blk w1 (w.heap.size+1+1) 62 #[.int .i64 0,.int .i64 0,.string ⟨#[]⟩,.slice none 0 0]:=by
  have:=Blk.new ((w.alloc (.cells #[.int .i64 so.k,.int .i64 so.i,.string so.t,.slice none 0 0] 62)).alloc (.cells #[.int .i64 xv.k,.int .i64 xv.i,.string xv.t,.slice none 0 0] 62)) 62 #[.int .i64 0,.int .i64 0,.string ⟨#[]⟩,.slice none 0 0]
  simp only [World.size_alloc] at this
  rw [hw1];exact this
 have hnd:New w1 w1.drew:=(Chg.refl _ _).drew
 have B0:=qq (b0.chg hnd id)
 have B1:=qq (b1.chg hnd id)
 have B2:=qq (b2.chg hnd id)
 have HW1:=qq hw1
 have HNd:=qq (hN1.trans hnd qdr)
 have Hc:=qq hc
 clear b0 b1 b2 hw1 hN1 hnd hc
 obtain ⟨c,hcv⟩:=qdp (cmpV xv so)
 have hcb:=cmpV_bd xv so
 rw [hcv] at hcb
 have kw:IntKind.i64.wrap (c * sign)=c * sign:=by rw [IntKind.wrap_i64];rcases hs with rfl|rfl <;> omega
 obtain ⟨b,hb⟩:∃ b:Bool,decide (0 < c * sign)=b:=⟨_,rfl⟩
 have hbest:bestV sign so xv first=if first||b then xv else so:=by unfold bestV;rw [hcv,hb]
 rw [hbest]
 have Hcv:=qq hcv
 clear hbest hcv
 have eg1:=enters_of Tryz.func51 (by kernel_rfl) rfl
 unfold Enters at eg1
 go_enter Tryz.func117,Tryz.ntmps117
 go_upto_region 1 with fail
 rw [←HW1.out]
 refine vj (by kernel_rfl) ?_
 clear HW1
 generalize w1.drew=wd at B0 B1 B2 HNd⊢
 cases first with
 |true=>
  refine AtN.segQ2 0 2 (fun
   |0=>.bool true
   |_=>.bool true)
   [(8,.bool true),(9,.bool true)] (by kernel_rfl) (by kernel_rfl) (by kernel_rfl) (by kernel_rfl) rfl (fun i hn hi o ho A0 hin hk=>?_) ?_
  ·rcases (show i=0∨i=1 by omega) with rfl|rfl<;>cases ho
   ·exact uo 2 _ rfl (hk 2)
   ·exact uo 8 _ rfl (hin 0 8)
  simp only [putsL,Act.put,qk,qu,qy]
  refine AtN.segS2 2 8 [(10,undef),(11,undef),(12,undef),(13,undef),(14,undef),(15,undef)] (by kernel_rfl) (by kernel_rfl) (by kernel_rfl) (by kernel_rfl) rfl ?_
  simp only [putsL,Act.put,qk,qu,qy]
  refine AtN.segQ2 8 9 (fun _=>.bool true)
   [(16,.bool true)] (by kernel_rfl) (by kernel_rfl) (by kernel_rfl) (by kernel_rfl) rfl (fun i hn hi o ho A0 hin hk=>?_) ?_
  ·obtain rfl:i=8:=by omega
   cases ho
   have h9:A0.tmps[9]?.getD undef=.bool true:=hk 9
   have h15:A0.tmps[15]?.getD undef=undef:=hk 15
   exact by simp [go_sem,h9,h15]
  simp only [putsL,Act.put,qk,qu,qy]
  refine AtN.done rfl ?_
  have A1:=qq (show At wd ⟨w.heap.size+1,0,none⟩ [.int .i64 xv.k,.int .i64 xv.i,.string xv.t,.slice none 0 0] from (B1.out).at_)
  have B22:=qq (B2.out)
  have hst:=(B22.out).set #[.int .i64 xv.k,.int .i64 xv.i,.string xv.t,.slice none 0 0]
  have Hst:=qq (show At (wd.setRow (w.heap.size+1+1) #[.int .i64 xv.k,.int .i64 xv.i,.string xv.t,.slice none 0 0]) ⟨w.heap.size+1+1,0,none⟩ [.int .i64 xv.k,.int .i64 xv.i,.string xv.t,.slice none 0 0] from (show Blk _ _ 62 ([.int .i64 xv.k,.int .i64 xv.i,.string xv.t,.slice none 0 0]:List Value).toArray from hst).at_)
  have HNf:=qq ((HNd.out).setRow (w.heap.size+1+1) #[.int .i64 xv.k,.int .i64 xv.i,.string xv.t,.slice none 0 0] (fun h=>by omega))
  have hlay:layA #[.int .i64 0,.int .i64 0,.string ⟨#[]⟩,.slice none 0 0] 0 [.int .i64 xv.k,.int .i64 xv.i,.string xv.t,.slice none 0 0]=#[.int .i64 xv.k,.int .i64 xv.i,.string xv.t,.slice none 0 0]:=rfl
  clear hst
  go_wp2_with (first| ((with_reducible refine vq rfl (.tmp 5) 62 rfl vz ⟨w.heap.size+1,0,none⟩ [.int .i64 xv.k,.int .i64 xv.i,.string xv.t,.slice none 0 0] ?_ rfl A1.out ?_);exact rfl)| ((with_reducible refine vf rfl (.tmp 7) (.tmp 17) 62 rfl vz (w.heap.size+1+1) 0 62 #[.int .i64 0,.int .i64 0,.string ⟨#[]⟩,.slice none 0 0] [.int .i64 xv.k,.int .i64 xv.i,.string xv.t,.slice none 0 0] ?_ ?_ B22.out rfl (by decide) (gc [xv] _ (by simp [vcs])) ?_);exact rfl;exact rfl))
  refine bodyPost_ret (v:=vval xv) (xh vz rfl _ _ ⟨w.heap.size+1+1,0,none⟩ [.int .i64 xv.k,.int .i64 xv.i,.string xv.t,.slice none 0 0] rfl Hst.out rfl) rfl ⟨rfl,HNf.out⟩
 |false=>
  refine AtN.segQ2 0 2 (fun
   |0=>.bool false
   |_=>.bool false)
   [(8,.bool false),(9,.bool false)] (by kernel_rfl) (by kernel_rfl) (by kernel_rfl) (by kernel_rfl) rfl (fun i hn hi o ho A0 hin hk=>?_) ?_
  ·rcases (show i=0∨i=1 by omega) with rfl|rfl<;>cases ho
   ·exact uo 2 _ rfl (hk 2)
   ·exact uo 8 _ rfl (hin 0 8)
  simp only [putsL,Act.put,qk,qu,qy]
  refine AtN.segN2 2 9 [10,11,12,13,14,15,16] (fun
   |2=>fun v _=>v=.agg #[.int .i64 xv.k,.int .i64 xv.i,.string xv.t,.slice none 0 0]
   |3=>fun v _=>v=.agg #[.int .i64 so.k,.int .i64 so.i,.string so.t,.slice none 0 0]
   |4=>fun v _=>v=.int .i64 c
   |5=>fun v _=>v=.int .i64 sign
   |6=>fun v _=>v=.int .i64 (c * sign)
   |7=>fun v _=>v=.bool b
   |8=>fun v _=>v=.bool b
   |_=>fun _ _=>True) (by kernel_rfl) (by kernel_rfl) (by kernel_rfl) (by kernel_rfl) (fun j v w1 w2 hc h=>?_) (fun i hn hi o ho A0 W hN hin hk=>?_) (fun l W2 hN hl hΦ=>?_)
  ·match j with
   |2|3|4|5|6|7|8=>exact h
   |0|1=>trivial
   |_+9=>trivial
  ·rcases (show i=2∨i=3∨i=4∨i=5∨i=6∨i=7∨i=8 by omega) with rfl|rfl|rfl|rfl|rfl|rfl|rfl<;>cases ho
   ·have h5:A0.tmps[5]?.getD undef=.pointer (some ⟨w.heap.size+1,0,none⟩):=hk 5
    exact .same (vu 5 _ rfl vz ⟨w.heap.size+1,0,none⟩ [.int .i64 xv.k,.int .i64 xv.i,.string xv.t,.slice none 0 0] h5 rfl (B1.out.chg hN id).at_) rfl
   ·have h4:A0.tmps[4]?.getD undef=.pointer (some ⟨w.heap.size,0,none⟩):=hk 4
    exact .same (vu 4 _ rfl vz ⟨w.heap.size,0,none⟩ [.int .i64 so.k,.int .i64 so.i,.string so.t,.slice none 0 0] h4 rfl (B0.out.chg hN id).at_) rfl
   ·have h10:A0.tmps[10]?.getD undef=.agg #[.int .i64 xv.k,.int .i64 xv.i,.string xv.t,.slice none 0 0]:=hin 2 10
    have h11:A0.tmps[11]?.getD undef=.agg #[.int .i64 so.k,.int .i64 so.i,.string so.t,.slice none 0 0]:=hin 3 11
    refine .call (f:=51) (args:=#[.agg #[.int .i64 xv.k,.int .i64 xv.i,.string xv.t,.slice none 0 0],.agg #[.int .i64 so.k,.int .i64 so.i,.string so.t,.slice none 0 0]]) (W':=W) ?_ ((ke xv so W).mono ?_)
    ·simp [go_sem,h10,h11,eg1]
    ·rintro e w' ⟨rfl,hc⟩
     exact ⟨_,rfl,hc,by rw [Hcv.out];rfl⟩
   ·have h3:A0.tmps[3]?.getD undef=.pointer (some ⟨bx,0,none⟩):=hk 3
    have hcx:=(HNd.out.trans hN qdr).cellS Hc.out id
    exact .same (by simp [go_sem,h3,hcx]) rfl
   ·have h12:A0.tmps[12]?.getD undef=.int .i64 c:=hin 4 12
    have h13:A0.tmps[13]?.getD undef=.int .i64 sign:=hin 5 13
    exact .same (by simp [go_sem,h12,h13,kw]) rfl
   ·have h14:A0.tmps[14]?.getD undef=.int .i64 (c * sign):=hin 6 14
    exact .same (by simp [go_sem,h14,hb]) rfl
   ·have h9:A0.tmps[9]?.getD undef=.bool false:=hk 9
    have h15:A0.tmps[15]?.getD undef=.bool b:=hin 7 15
    exact .same (by simp [go_sem,h9,h15]) rfl
  obtain ⟨x10,x11,x12,x13,x14,x15,x16,rfl⟩:∃ x10 x11 x12 x13 x14 x15 x16,l=[x10,x11,x12,x13,x14,x15,x16]:=by
   match l,hl with
   | [x10,x11,x12,x13,x14,x15,x16],_=>exact ⟨_,_,_,_,_,_,_,rfl⟩
  obtain rfl:x10=.agg #[.int .i64 xv.k,.int .i64 xv.i,.string xv.t,.slice none 0 0]:=hΦ 0 (by decide)
  obtain rfl:x11=.agg #[.int .i64 so.k,.int .i64 so.i,.string so.t,.slice none 0 0]:=hΦ 1 (by decide)
  obtain rfl:x12=.int .i64 c:=hΦ 2 (by decide)
  obtain rfl:x13=.int .i64 sign:=hΦ 3 (by decide)
  obtain rfl:x14=.int .i64 (c * sign):=hΦ 4 (by decide)
  obtain rfl:x15=.bool b:=hΦ 5 (by decide)
  obtain rfl:x16=.bool b:=hΦ 6 (by decide)
  simp only [putsL,zq,zj,zz,List.zip,List.zipWith,Act.put,qk,qu,qy]
  clear hΦ hl
  refine AtN.done rfl ?_
  have HN2:=qq (HNd.out.trans hN qdr)
  have D0:=qq (B0.out.chg hN id)
  have D1:=qq (B1.out.chg hN id)
  have D2:=qq (B2.out.chg hN id)
  have hsz:=HNd.out.size
  clear hN hb
  cases b with
  |true=>
   have A1:=qq (show At W2 ⟨w.heap.size+1,0,none⟩ [.int .i64 xv.k,.int .i64 xv.i,.string xv.t,.slice none 0 0] from (D1.out).at_)
   have B22:=qq (D2.out)
   have hst:=(B22.out).set #[.int .i64 xv.k,.int .i64 xv.i,.string xv.t,.slice none 0 0]
   have Hst:=qq (show At (W2.setRow (w.heap.size+1+1) #[.int .i64 xv.k,.int .i64 xv.i,.string xv.t,.slice none 0 0]) ⟨w.heap.size+1+1,0,none⟩ [.int .i64 xv.k,.int .i64 xv.i,.string xv.t,.slice none 0 0] from (show Blk _ _ 62 ([.int .i64 xv.k,.int .i64 xv.i,.string xv.t,.slice none 0 0]:List Value).toArray from hst).at_)
   have HNf:=qq ((HN2.out).setRow (w.heap.size+1+1) #[.int .i64 xv.k,.int .i64 xv.i,.string xv.t,.slice none 0 0] (fun h=>by omega))
   have hlay:layA #[.int .i64 0,.int .i64 0,.string ⟨#[]⟩,.slice none 0 0] 0 [.int .i64 xv.k,.int .i64 xv.i,.string xv.t,.slice none 0 0]=#[.int .i64 xv.k,.int .i64 xv.i,.string xv.t,.slice none 0 0]:=rfl
   clear hst
   go_wp2_with (first| ((with_reducible refine vq rfl (.tmp 5) 62 rfl vz ⟨w.heap.size+1,0,none⟩ [.int .i64 xv.k,.int .i64 xv.i,.string xv.t,.slice none 0 0] ?_ rfl A1.out ?_);exact rfl)| ((with_reducible refine vf rfl (.tmp 7) (.tmp 17) 62 rfl vz (w.heap.size+1+1) 0 62 #[.int .i64 0,.int .i64 0,.string ⟨#[]⟩,.slice none 0 0] [.int .i64 xv.k,.int .i64 xv.i,.string xv.t,.slice none 0 0] ?_ ?_ B22.out rfl (by decide) (gc [xv] _ (by simp [vcs])) ?_);exact rfl;exact rfl))
   refine bodyPost_ret (v:=vval xv) (xh vz rfl _ _ ⟨w.heap.size+1+1,0,none⟩ [.int .i64 xv.k,.int .i64 xv.i,.string xv.t,.slice none 0 0] rfl Hst.out rfl) rfl ⟨rfl,HNf.out⟩
  |false=>
   have A1:=qq (show At W2 ⟨w.heap.size,0,none⟩ [.int .i64 so.k,.int .i64 so.i,.string so.t,.slice none 0 0] from (D0.out).at_)
   have B22:=qq (D2.out)
   have hst:=(B22.out).set #[.int .i64 so.k,.int .i64 so.i,.string so.t,.slice none 0 0]
   have Hst:=qq (show At (W2.setRow (w.heap.size+1+1) #[.int .i64 so.k,.int .i64 so.i,.string so.t,.slice none 0 0]) ⟨w.heap.size+1+1,0,none⟩ [.int .i64 so.k,.int .i64 so.i,.string so.t,.slice none 0 0] from (show Blk _ _ 62 ([.int .i64 so.k,.int .i64 so.i,.string so.t,.slice none 0 0]:List Value).toArray from hst).at_)
   have HNf:=qq ((HN2.out).setRow (w.heap.size+1+1) #[.int .i64 so.k,.int .i64 so.i,.string so.t,.slice none 0 0] (fun h=>by omega))
   have hlay:layA #[.int .i64 0,.int .i64 0,.string ⟨#[]⟩,.slice none 0 0] 0 [.int .i64 so.k,.int .i64 so.i,.string so.t,.slice none 0 0]=#[.int .i64 so.k,.int .i64 so.i,.string so.t,.slice none 0 0]:=rfl
   clear hst
   go_wp2_with (first| ((with_reducible refine vq rfl (.tmp 4) 62 rfl vz ⟨w.heap.size,0,none⟩ [.int .i64 so.k,.int .i64 so.i,.string so.t,.slice none 0 0] ?_ rfl A1.out ?_);exact rfl)| ((with_reducible refine vf rfl (.tmp 7) (.tmp 18) 62 rfl vz (w.heap.size+1+1) 0 62 #[.int .i64 0,.int .i64 0,.string ⟨#[]⟩,.slice none 0 0] [.int .i64 so.k,.int .i64 so.i,.string so.t,.slice none 0 0] ?_ ?_ B22.out rfl (by decide) (gc [so] _ (by simp [vcs])) ?_);exact rfl;exact rfl))
   refine bodyPost_ret (v:=vval so) (xh vz rfl _ _ ⟨w.heap.size+1+1,0,none⟩ [.int .i64 so.k,.int .i64 so.i,.string so.t,.slice none 0 0] rfl Hst.out rfl) rfl ⟨rfl,HNf.out⟩
def FoldAt (w:World) (fv:Value) (ag:Ag):Prop:=∃ g lb,fv=.func (.func g) #[] lb∧Enters Tryz.prog g∧∀ W,New w W→∀ so xv first,(ag=.count→first=false→0≤so.i∧so.i≤100000000)→
 Calls Tryz.prog g (#[vval so,vval xv,.bool first]++lb) W fun e w'=>e=.returned (vval (foldV ag so xv first))∧New W w'
def FoldPost (w:World) (ag:Ag) (e:Ending) (w':World):Prop:=∃ fv,e=.returned fv∧FoldAt w' fv ag∧New w w'
def qcm (w:World) (ag:Ag) (sign:Int) (hs:(ag=.max∧sign=1)∨(ag=.min∧sign=-1)):Calls Tryz.prog 116 #[.int .i64 sign] w (FoldPost w ag):=by
 have hb:Blk (w.alloc (.cells #[.int .i64 sign] 3)) w.heap.size 3 #[.int .i64 sign]:=Blk.new w _ _
 have hN:New w (w.alloc (.cells #[.int .i64 sign] 3)):=(Chg.refl _ _).alloc _
 have HB:=qq hb
 have HN:=qq hN
 have Hs:=qq hs
 clear hb hN hs
 go_enter Tryz.func116,Tryz.ntmps116
 go_wp2_with fail
 go_ret
 refine ⟨_,rfl,⟨117,_,rfl,enters_of Tryz.func117 (by kernel_rfl) rfl,fun W hW so xv first _=>?_⟩,HN.out⟩
 have hc:=hW.cellS (HB.out.cell 0) id
 have hb:=qck W w.heap.size sign (Hs.out.imp (fun h=>h.2) (fun h=>h.2)) hc so xv first
 rcases Hs.out with ⟨rfl,rfl⟩| ⟨rfl,rfl⟩
 ·rw [best_max] at hb;exact hb
 ·rw [best_min] at hb;exact hb
def od (w:World) (so xv:Vl) (first:Bool) (hb:first=false→0≤so.i∧so.i≤100000000):
  Calls Tryz.prog 118 #[.agg #[.int .i64 so.k,.int .i64 so.i,.string so.t,.slice none 0 0],.agg #[.int .i64 xv.k,.int .i64 xv.i,.string xv.t,.slice none 0 0],.bool first] w fun e w'=>e=.returned (vval (foldV .count so xv first))∧New w w':=by
 obtain ⟨w1,hw1⟩:=qdq (((w.alloc (.cells #[.int .i64 so.k,.int .i64 so.i,.string so.t,.slice none 0 0] 62)).alloc (.cells #[.int .i64 xv.k,.int .i64 xv.i,.string xv.t,.slice none 0 0] 62)).alloc (.cells #[.int .i64 0,.int .i64 0,.string ⟨#[]⟩,.slice none 0 0] 62))
 have hN1:New w w1:=by rw [hw1];exact (((Chg.refl _ _).alloc _).alloc _).alloc _
 have b0:Blk w1 w.heap.size 62 #[.int .i64 so.k,.int .i64 so.i,.string so.t,.slice none 0 0]:=by rw [hw1];exact ((Blk.new w _ _).alloc _).alloc _
 have b2:Blk w1 (w.heap.size+1+1) 62 #[.int .i64 0,.int .i64 0,.string ⟨#[]⟩,.slice none 0 0]:=by
  have:=Blk.new ((w.alloc (.cells #[.int .i64 so.k,.int .i64 so.i,.string so.t,.slice none 0 0] 62)).alloc (.cells #[.int .i64 xv.k,.int .i64 xv.i,.string xv.t,.slice none 0 0] 62)) 62 #[.int .i64 0,.int .i64 0,.string ⟨#[]⟩,.slice none 0 0]
  simp only [World.size_alloc] at this
  rw [hw1];exact this
 have HW1:=qq hw1
 cases first with
 |true=>
  have HNm:=qq (dw w1 1)
  have HN1:=qq hN1
  have B2:=qq b2
  clear hw1 hN1 b0 b2 hb
  go_enter Tryz.func118,Tryz.ntmps118
  go_wp2_with fail
  rw [←HW1.out]
  refine HNm.out.mono ?_
  rintro e w2 ⟨rfl,hN2⟩
  have B22:=qq (B2.out.chg hN2 id)
  have hst:=(B22.out).set #[.int .i64 1,.int .i64 1,.string ⟨#[]⟩,.slice none 0 0]
  have Hst:=qq (show At (w2.setRow (w.heap.size+1+1) #[.int .i64 1,.int .i64 1,.string ⟨#[]⟩,.slice none 0 0]) ⟨w.heap.size+1+1,0,none⟩ [.int .i64 1,.int .i64 1,.string ⟨#[]⟩,.slice none 0 0] from (show Blk _ _ 62 ([.int .i64 1,.int .i64 1,.string ⟨#[]⟩,.slice none 0 0]:List Value).toArray from hst).at_)
  have HNf:=qq ((HN1.out.trans hN2 qdr).setRow (w.heap.size+1+1) #[.int .i64 1,.int .i64 1,.string ⟨#[]⟩,.slice none 0 0] (fun h=>by omega))
  have hlay:layA #[.int .i64 0,.int .i64 0,.string ⟨#[]⟩,.slice none 0 0] 0 [.int .i64 1,.int .i64 1,.string ⟨#[]⟩,.slice none 0 0]=#[.int .i64 1,.int .i64 1,.string ⟨#[]⟩,.slice none 0 0]:=rfl
  clear hst hN2
  go_wp2_with (((with_reducible refine vf rfl (.tmp 6) (.tmp 8) 62 rfl vz (w.heap.size+1+1) 0 62 #[.int .i64 0,.int .i64 0,.string ⟨#[]⟩,.slice none 0 0] [.int .i64 1,.int .i64 1,.string ⟨#[]⟩,.slice none 0 0] ?_ ?_ B22.out rfl (by decide) (gc [⟨1,1,⟨#[]⟩⟩] _ (by simp [vcs])) ?_);exact rfl;exact rfl))
  refine bodyPost_ret (v:=vval ⟨1,1,⟨#[]⟩⟩) (xh vz rfl _ _ ⟨w.heap.size+1+1,0,none⟩ [.int .i64 1,.int .i64 1,.string ⟨#[]⟩,.slice none 0 0] rfl Hst.out rfl) rfl ⟨rfl,HNf.out⟩
 |false=>
  obtain ⟨hb0,hb1⟩:=hb rfl
  have kw:IntKind.i64.wrap (so.i+1)=so.i+1:=by rw [IntKind.wrap_i64];omega
  have HNm:=qq (dw w1 (so.i+1))
  have c1:=b0.cell 1
  have hf:=b0.frozen 1
  simp only [qx,qj,qw] at c1
  have HC:=qq c1
  have HN1:=qq hN1
  have B2:=qq b2
  rw [hw1] at c1
  clear hw1 hN1 b0 b2 hf c1
  go_enter Tryz.func118,Tryz.ntmps118
  go_wp2_with fail
  rw [←HW1.out]
  refine HNm.out.mono ?_
  rintro e w2 ⟨rfl,hN2⟩
  have B22:=qq (B2.out.chg hN2 id)
  have hst:=(B22.out).set #[.int .i64 1,.int .i64 (so.i+1),.string ⟨#[]⟩,.slice none 0 0]
  have Hst:=qq (show At (w2.setRow (w.heap.size+1+1) #[.int .i64 1,.int .i64 (so.i+1),.string ⟨#[]⟩,.slice none 0 0]) ⟨w.heap.size+1+1,0,none⟩ [.int .i64 1,.int .i64 (so.i+1),.string ⟨#[]⟩,.slice none 0 0] from (show Blk _ _ 62 ([.int .i64 1,.int .i64 (so.i+1),.string ⟨#[]⟩,.slice none 0 0]:List Value).toArray from hst).at_)
  have HNf:=qq ((HN1.out.trans hN2 qdr).setRow (w.heap.size+1+1) #[.int .i64 1,.int .i64 (so.i+1),.string ⟨#[]⟩,.slice none 0 0] (fun h=>by omega))
  have hlay:layA #[.int .i64 0,.int .i64 0,.string ⟨#[]⟩,.slice none 0 0] 0 [.int .i64 1,.int .i64 (so.i+1),.string ⟨#[]⟩,.slice none 0 0]=#[.int .i64 1,.int .i64 (so.i+1),.string ⟨#[]⟩,.slice none 0 0]:=rfl
  clear hst hN2
  go_wp2_with (((with_reducible refine vf rfl (.tmp 6) (.tmp 12) 62 rfl vz (w.heap.size+1+1) 0 62 #[.int .i64 0,.int .i64 0,.string ⟨#[]⟩,.slice none 0 0] [.int .i64 1,.int .i64 (so.i+1),.string ⟨#[]⟩,.slice none 0 0] ?_ ?_ B22.out rfl (by decide) (gc [⟨1,so.i+1,⟨#[]⟩⟩] _ (by simp [vcs])) ?_);exact rfl;exact rfl))
  refine bodyPost_ret (v:=vval ⟨1,so.i+1,⟨#[]⟩⟩) (xh vz rfl _ _ ⟨w.heap.size+1+1,0,none⟩ [.int .i64 1,.int .i64 (so.i+1),.string ⟨#[]⟩,.slice none 0 0] rfl Hst.out rfl) rfl ⟨rfl,HNf.out⟩
def qcc (w:World) (ag:Ag):Calls Tryz.prog 76 #[.string (agName ag)] w (FoldPost w ag):=by
 have Hb:=qq (fun ag sign hs=>qcm w ag sign hs)
 cases ag with
 |min=>
  unfold agName
  go_enter Tryz.func76,Tryz.ntmps76
  go_wp2_with fail
  refine (Hb.out .min (-1) (.inr ⟨rfl,rfl⟩)).mono ?_
  intro e w' hp
  have Hp:=qq hp
  obtain ⟨fv,rfl,_⟩:=hp
  go_wp2_with fail
  go_ret
  exact Hp.out
 |max=>
  unfold agName
  go_enter Tryz.func76,Tryz.ntmps76
  go_wp2_with fail
  refine (Hb.out .max 1 (.inl ⟨rfl,rfl⟩)).mono ?_
  intro e w' hp
  have Hp:=qq hp
  obtain ⟨fv,rfl,_⟩:=hp
  go_wp2_with fail
  go_ret
  exact Hp.out
 |count=>
  unfold agName
  go_enter Tryz.func76,Tryz.ntmps76
  go_wp2_with fail
  go_ret
  exact ⟨_,rfl,⟨118,_,rfl,enters_of Tryz.func118 (by kernel_rfl) rfl,fun W hW so xv first hb=>od W so xv first (hb rfl)⟩,Chg.refl _ _⟩
def oq {k:Nat} {css:List (List Value)} {cs:List Value} {i:Nat} (hi:css[i]? =some cs):css.flatten=(css.take i).flatten++(cs++(css.drop (i+1)).flatten)∧∀ cs',(css.set i cs').flatten=(css.take i).flatten++(cs'++(css.drop (i+1)).flatten):=by
 obtain ⟨hlt,he⟩:=qv.1 hi
 have h2:∀ cs',(css.set i cs').flatten=(css.take i).flatten++(cs'++(css.drop (i+1)).flatten):=fun cs'=>by
  rw [um,if_pos hlt]
  simp
 refine ⟨?_,h2⟩
 have:=h2 cs
 rwa [←he,List.set_getElem_self,he] at this
def te {k:Nat} {css:List (List Value)} (hk:∀ cs∈css,cs.length=k) {i:Nat} (hi:i≤css.length):(css.take i).flatten.length=i * k:=by
 rw [xz (k:=k) (fun cs hc=>hk cs (je hc)),ql,Nat.min_eq_left hi]
section
variable {W W':World} {B k:Nat} {e:TypeId} {v:Value} {css:List (List Value)}
def Own.block (h:Own W B e k v css) (hp:0 < css.length):∃ g cap rest,v=.slice (some ⟨g,0,none⟩) css.length cap∧B≤g∧Blk W g e (css.flatten++rest).toArray∧
  ∀ (W':World) (css':List (List Value)),css'.length=css.length→(∀ cs∈css',cs.length=k)→Blk W' g e (css'.flatten++rest).toArray→Own W' B e k v css':=by
 obtain ⟨⟨h0,h1⟩,h2⟩:=h
 rcases h1 with ⟨h3,h4⟩| ⟨g,cap,cur,rfl,hb,hg,hn,hm,hs,ht⟩
 ·omega
 ·have hcur:cur=(css.flatten++cur.toList.drop (css.length * k)).toArray:=by
   rw [←ht,zm]
  refine ⟨g,cap,cur.toList.drop (css.length * k),rfl,hb,by rw [←hcur];exact hg,fun W' css' hl hk hb'=>⟨⟨?_,.inr ⟨g,cap,_,by rw [hl],hb,hb',by omega,hm,?_,?_⟩⟩,hk⟩⟩
  ·rw [xz hk]
  ·simp only [zl,qg,xz hk,zw,za,hs,hl]
   have:css.length * k≤cap * k:=yy _ hn
   omega
  ·simp only []
   rw [List.take_left' (by rw [xz hk])]
def Own.get (h:Own W B e k v css) {i:Nat} {cs:List Value} (hi:css[i]? =some cs):∃ g cap rest,v=.slice (some ⟨g,0,none⟩) css.length cap∧B≤g∧Blk W g e (css.flatten++rest).toArray∧At W ⟨g,i * k,none⟩ cs∧i * k+k≤(css.flatten++rest).toArray.size∧
  (∀ cs',cs'.length=k→Own (W.setRow g (layA (css.flatten++rest).toArray (i * k) cs')) B e k v (css.set i cs'))∧
  (∀ j u,j < k→Own (W.setCell ⟨g,i * k+j,none⟩ u) B e k v (css.set i (cs.set j u))):=by
 have hlt:=(qv.1 hi).1
 obtain ⟨g,cap,rest,hv,hb,hblk,hmk⟩:=h.block (by omega)
 have hk:=h.2
 have hcl:=hk cs (qf hi)
 obtain ⟨e1,e2⟩:=oq (k:=k) hi
 have hl:=te hk (i:=i) (by omega)
 have hset:∀ cs',cs'.length=k→∀ c∈css.set i cs',c.length=k:=fun cs' hc c hm=>by
  rcases yr hm with h1|h1
  ·exact hk c h1
  ·rw [h1];exact hc
 refine ⟨g,cap,rest,hv,hb,hblk,fun j u hj=>?_,?_,fun cs' hc=>?_,fun j u hj=>?_⟩
 ·rw [Addr.add_lit,hblk.cell,qx]
  have:=xl hk hi hj
  rw [qe (qv.1 this).1]
  exact this
 ·simp only [zl,qg,xz hk]
  have:(i+1) * k≤css.length * k:=yy _ hlt
  rw [uz,Nat.one_mul] at this
  omega
 ·refine hmk _ _ (by rw [jk]) (hset cs' hc) ?_
  have:layA (css.flatten++rest).toArray (i * k) cs'=((css.set i cs').flatten++rest).toArray:=by
   unfold layA lay
   congr 1
   simp only []
   rw [e1,e2,hc]
   generalize (css.take i).flatten=L1 at hl
   generalize (css.drop (i+1)).flatten=L2
   have h1:L1++(cs++L2)++rest=L1++(cs++(L2++rest)):=by simp
   have h2:L1++(cs++L2)++rest=(L1++cs)++(L2++rest):=by simp
   have h3:(L1++(cs++L2)++rest).take (i * k)=L1:=by rw [h1,List.take_left' hl]
   have h4:(L1++(cs++L2)++rest).drop (i * k+k)=L2++rest:=by rw [h2,List.drop_left' (by rw [qg,hl,hcl])]
   rw [h3,h4]
   simp
  rw [this]
  exact hblk.set _
 ·refine hmk _ _ (by rw [jk]) (hset _ (by rw [jk];exact hcl)) ?_
  have hb1:=hblk.setCell (i * k+j) u
  have:(css.flatten++rest).toArray.setIfInBounds (i * k+j) u=((css.set i (cs.set j u)).flatten++rest).toArray:=by
   apply Array.ext'
   simp only [Array.toList_setIfInBounds]
   rw [e1,e2,qo,qo,List.set_append_right _ _ (by rw [hl];omega),hl,show i * k+j - i * k=j by omega,qo,qo,List.set_append_left _ _ (by omega)]
  rw [this] at hb1
  exact hb1
end
def last_set {us:List Vl} {x:Vl} (hp:us≠[]):us.set (us.length - 1) x=us.dropLast++[x]:=by
 have h:=ud hp
 have hl:us.length - 1=us.dropLast.length:=by rw [jv]
 conv=>lhs;rw [←h,qg]
 rw [show us.dropLast.length+[us.getLast hp].length - 1=us.dropLast.length by simp,List.set_append_right _ _ (qh _),yh]
 rfl
def OwnRow.last {W:World} {B:Nat} {cs:List Value} {r:Rw} {v:Value} (h:OwnRow W B cs r v) {last:Nat} (hl:r.args.length=last+1):∃ g cap cur y,v=.slice (some ⟨g,0,none⟩) (last+1) cap∧B≤g∧r.args[last]? =some y∧r.args=r.args.dropLast++[y]∧Blk W g 62 cur∧At W ⟨g,last * 4,none⟩ (vcs y)∧last * 4+4≤cur.size∧
  ∀ x,OwnRow (W.setRow g (layA cur (last * 4) (vcs x))) B cs ⟨r.name,r.args.dropLast++[x],r.stamp⟩ v:=by
 obtain ⟨h1,h2,h3⟩:=h
 obtain ⟨y,hy⟩:∃ y,r.args[last]? =some y:=⟨_,qz (by omega)⟩
 obtain ⟨g,cap,rest,hv,hb,hblk,hat,hfit,hset,_⟩:=h3.get (i:=last) (cs:=vcs y) (by rw [qa,hy];rfl)
 have hne:r.args≠[]:=by intro e;rw [e] at hl;simp at hl
 have hyl:r.args=r.args.dropLast++[y]:=by
  have:=ud hne
  rw [List.getLast_eq_getElem] at this
  rw [qz (by omega)] at hy
  have e:r.args[r.args.length - 1]'(by omega)=y:=by
   rw [←Option.some.inj hy]
   congr 1
   omega
  rw [e] at this
  exact this.symm
 refine ⟨g,cap,_,y,by rw [hv,qd,hl],hb,hy,hyl,hblk,hat,hfit,fun x=>⟨h1,?_,?_⟩⟩
 ·show (r.args.dropLast++[x]).length≤1000
  rw [qg,jv]
  simp
  omega
 ·have:=hset (vcs x) rfl
  rw [←List.map_set,show last=r.args.length - 1 by omega,last_set hne] at this
  rw [show last=r.args.length - 1 by omega]
  exact this
structure GrpSt (W:World) (B0 B:Nat) (css:List (List Value)) (m:List Rw) (vs:List Value) (i:Nat) (vo:Value) (cso:List (List Value)) (gs:List Rw) (us:List Value):Prop where
 mrg:∀ (j:Nat) (cs:List Value),i≤j→css[j]? =some cs→∃ r v,m[j]? =some r∧vs[j]? =some v∧OwnRow W B cs r v
 out:Own W B0 42 3 vo cso
 len:cso.length=gs.length∧us.length=gs.length
 row:∀ (q:Nat) (r:Rw),gs[q]? =some r→∃ cs v,cso[q]? =some cs∧us[q]? =some v∧OwnRow W B cs r v
 up:∀ (p q:Nat) (u v:Value) (a b:Nat),p < q→us[p]? =some u→us[q]? =some v→u.ownBlock=some a→v.ownBlock=some b→a < b
 low:∀ (q j:Nat) (u v:Value) (a b:Nat),i≤j→us[q]? =some u→vs[j]? =some v→u.ownBlock=some a→v.ownBlock=some b→a < b
 vup:∀ (i j:Nat) (u v:Value) (a b:Nat),i < j→vs[i]? =some u→vs[j]? =some v→u.ownBlock=some a→v.ownBlock=some b→a < b
 blk:∀ (j:Nat) (v:Value) (b:Nat),vs[j]? =some v→v.ownBlock=some b→b < B0
 ublk:∀ (q:Nat) (u:Value) (a:Nat),us[q]? =some u→u.ownBlock=some a→a < B0
section
variable {W W':World} {B0 B i:Nat} {css cso:List (List Value)} {m gs:List Rw} {vs us:List Value} {vo:Value}
def GrpSt.chg {T:Nat→Prop} (h:GrpSt W B0 B css m vs i vo cso gs us) (hc:Chg W W' T) (h1:∀ (j:Nat) (v:Value) (b:Nat),i≤j→vs[j]? =some v→v.ownBlock=some b→¬ T b) (h2:∀ (q:Nat) (u:Value) (a:Nat),us[q]? =some u→u.ownBlock=some a→¬ T a) (h3:∀ g,vo.ownBlock=some g→¬ T g):GrpSt W' B0 B css m vs i vo cso gs us where
 mrg:=fun j cs hj hcs=>by
  obtain ⟨r,v,e1,e2,e3⟩:=h.mrg j cs hj hcs
  exact ⟨r,v,e1,e2,e3.chg hc (fun g hg=>h1 j v g hj e2 hg)⟩
 out:=h.out.chg hc h3
 len:=h.len
 row:=fun q r hq=>by
  obtain ⟨cs,v,e1,e2,e3⟩:=h.row q r hq
  exact ⟨cs,v,e1,e2,e3.chg hc (fun g hg=>h2 q v g e2 hg)⟩
 up:=h.up
 low:=h.low
 vup:=h.vup
 blk:=h.blk
 ublk:=h.ublk
def GrpSt.new (h:GrpSt W B0 B css m vs i vo cso gs us) (hc:New W W'):GrpSt W' B0 B css m vs i vo cso gs us:=h.chg hc (fun _ _ _ _ _ _ x=>x) (fun _ _ _ _ _ x=>x) qdr
def GrpSt.stamp (h:GrpSt W B0 B css m vs i vo cso gs us) {q:Nat} {y:Rw} (hq:gs[q]? =some y) (s:Int):∃ go co cs v,vo=.slice (some ⟨go,0,none⟩) gs.length co∧B0≤go∧cso[q]? =some cs∧us[q]? =some v∧OwnRow W B cs y v∧At W ⟨go,q * 3,none⟩ cs∧(∃ t cur,Blk W go t cur)∧
  GrpSt (W.setCell ⟨go,q * 3+2,none⟩ (.int .i64 s)) B0 B css m vs i vo (cso.set q [.string y.name,v,.int .i64 s]) (gs.set q ⟨y.name,y.args,s⟩) us:=by
 obtain ⟨cs,v,e1,e2,e3⟩:=h.row q y hq
 have hql:=(qv.1 hq).1
 obtain ⟨go,co,rest,hv,hb,hblk,hat,hfit,_,hset⟩:=h.out.get e1
 have hbo:∀ b,vo.ownBlock=some b→b=go:=fun b hb=>by rw [hv] at hb;exact (Option.some.inj hb).symm
 have hc:Chg W (W.setCell ⟨go,q * 3+2,none⟩ (.int .i64 s)) (fun k=>k=go):=(Chg.refl _ _).setCell _ _ (fun _=>rfl)
 have hs2:=hset 2 (.int .i64 s) (by omega)
 have hcs:=e3.1
 rw [hcs] at hs2
 have hs3:Own (W.setCell ⟨go,q * 3+2,none⟩ (.int .i64 s)) B0 42 3 vo (cso.set q [.string y.name,v,.int .i64 s]):=hs2
 refine ⟨go,co,cs,v,by rw [hv,h.len.1],hb,e1,e2,e3,hat,⟨_,_,hblk⟩,⟨fun j cs' hj hcs'=>?_,hs3,?_,fun p r hp=>?_,h.up,h.low,h.vup,h.blk,h.ublk⟩⟩
 ·obtain ⟨r,v',f1,f2,f3⟩:=h.mrg j cs' hj hcs'
  exact ⟨r,v',f1,f2,f3.chg hc (fun g hg e=>by have:=h.blk j v' g f2 hg;omega)⟩
 ·rw [jk,jk];exact h.len
 ·rw [jx] at hp
  by_cases hpq:q=p
  ·subst hpq
   rw [if_pos rfl,if_pos hql] at hp
   cases hp
   refine ⟨_,v,by rw [jx,if_pos rfl,if_pos (by rw [h.len.1];exact hql)],e2,rfl,e3.2.1,e3.2.2.chg hc (fun g hg e=>by have:=h.ublk q v g e2 hg;omega)⟩
  ·rw [if_neg hpq] at hp
   obtain ⟨cs',v',f1,f2,f3⟩:=h.row p r hp
   exact ⟨cs',v',by rw [jx,if_neg hpq];exact f1,f2,f3.chg hc (fun g hg e=>by have:=h.ublk p v' g f2 hg;omega)⟩
def GrpSt.fold (h:GrpSt W B0 B css m vs i vo cso gs us) {q:Nat} {y:Rw} (hq:gs[q]? =some y) {last:Nat} (hl:y.args.length=last+1):∃ cs v g cap cur z,cso[q]? =some cs∧us[q]? =some v∧OwnRow W B cs y v∧v=.slice (some ⟨g,0,none⟩) (last+1) cap∧B≤g∧g < B0∧y.args=y.args.dropLast++[z]∧Blk W g 62 cur∧At W ⟨g,last * 4,none⟩ (vcs z)∧last * 4+4≤cur.size∧
  ∀ x,GrpSt (W.setRow g (layA cur (last * 4) (vcs x))) B0 B css m vs i vo cso (gs.set q ⟨y.name,y.args.dropLast++[x],y.stamp⟩) us:=by
 obtain ⟨cs,v,e1,e2,e3⟩:=h.row q y hq
 have hql:=(qv.1 hq).1
 obtain ⟨g,cap,cur,z,hv,hB,hz,hyl,hblk,hat,hfit,hset⟩:=e3.last hl
 have hvb:v.ownBlock=some g:=by rw [hv];rfl
 have hg0:=h.ublk q v g e2 hvb
 refine ⟨cs,v,g,cap,cur,z,e1,e2,e3,hv,hB,hg0,hyl,hblk,hat,hfit,fun x=>?_⟩
 have hc:Chg W (W.setRow g (layA cur (last * 4) (vcs x))) (fun k=>k=g):=(Chg.refl _ _).setRow _ _ (fun _=>rfl)
 refine ⟨fun j cs' hj hcs'=>?_,h.out.chg hc (fun go hgo e=>?_),?_,fun p r hp=>?_,h.up,h.low,h.vup,h.blk,h.ublk⟩
 ·obtain ⟨r,v',f1,f2,f3⟩:=h.mrg j cs' hj hcs'
  exact ⟨r,v',f1,f2,f3.chg hc (fun g' hg' e=>by have:=h.low q j v v' g g' hj e2 f2 hvb hg';omega)⟩
 ·have:=(h.out.lt hgo).1
  omega
 ·rw [jk];exact h.len
 ·rw [jx] at hp
  by_cases hpq:q=p
  ·subst hpq
   rw [if_pos rfl,if_pos hql] at hp
   cases hp
   exact ⟨cs,v,e1,e2,hset x⟩
  ·rw [if_neg hpq] at hp
   obtain ⟨cs',v',f1,f2,f3⟩:=h.row p r hp
   refine ⟨cs',v',f1,f2,f3.chg hc (fun g' hg' e=>?_)⟩
   rcases Nat.lt_or_gt_of_ne hpq with h9|h9
   ·have:=h.up q p v v' g g' h9 e2 f2 hvb hg';omega
   ·have:=h.up p q v' v g' g h9 f2 e2 hg' hvb;omega
def GrpSt.take (h:GrpSt W B0 B css m vs i vo cso gs us) {cs:List Value} (hcs:css[i]? =some cs) {last:Nat} (hl:∀ r,m[i]? =some r→r.args.length=last+1):∃ r v g cap cur z,m[i]? =some r∧vs[i]? =some v∧OwnRow W B cs r v∧v=.slice (some ⟨g,0,none⟩) (last+1) cap∧B≤g∧g < B0∧r.args=r.args.dropLast++[z]∧Blk W g 62 cur∧At W ⟨g,last * 4,none⟩ (vcs z)∧last * 4+4≤cur.size∧
  ∀ x,GrpSt (W.setRow g (layA cur (last * 4) (vcs x))) B0 B css m vs (i+1) vo cso gs us∧OwnRow (W.setRow g (layA cur (last * 4) (vcs x))) B cs ⟨r.name,r.args.dropLast++[x],r.stamp⟩ v:=by
 obtain ⟨r,v,e1,e2,e3⟩:=h.mrg i cs (qh _) hcs
 obtain ⟨g,cap,cur,z,hv,hB,hz,hyl,hblk,hat,hfit,hset⟩:=e3.last (hl r e1)
 have hvb:v.ownBlock=some g:=by rw [hv];rfl
 have hg0:=h.blk i v g e2 hvb
 refine ⟨r,v,g,cap,cur,z,e1,e2,e3,hv,hB,hg0,hyl,hblk,hat,hfit,fun x=>⟨?_,hset x⟩⟩
 have hc:Chg W (W.setRow g (layA cur (last * 4) (vcs x))) (fun k=>k=g):=(Chg.refl _ _).setRow _ _ (fun _=>rfl)
 refine ⟨fun j cs' hj hcs'=>?_,h.out.chg hc (fun go hgo e=>?_),h.len,fun p r' hp=>?_,h.up,fun q j u v' a b hj=>h.low q j u v' a b (by omega),h.vup,h.blk,h.ublk⟩
 ·obtain ⟨r',v',f1,f2,f3⟩:=h.mrg j cs' (by omega) hcs'
  exact ⟨r',v',f1,f2,f3.chg hc (fun g' hg' e=>by have:=h.vup i j v v' g g' (by omega) e2 f2 hvb hg';omega)⟩
 ·have:=(h.out.lt hgo).1
  omega
 ·obtain ⟨cs',v',f1,f2,f3⟩:=h.row p r' hp
  exact ⟨cs',v',f1,f2,f3.chg hc (fun g' hg' e=>by have:=h.low p i v' v g' g (qh _) f2 e2 hg' hvb;omega)⟩
def GrpSt.add {vo':Value} (h:GrpSt W B0 B css m vs (i+1) vo cso gs us) {cs:List Value} {r:Rw} {v:Value} (hr:OwnRow W B cs r v) (hv:vs[i]? =some v) (hlow:∀ (q:Nat) (u:Value) (a b:Nat),us[q]? =some u→u.ownBlock=some a→v.ownBlock=some b→a < b)
  (ho:Own W' B0 42 3 vo' (cso++[cs])) (hc:Chg W W' (fun k=>vo.ownBlock=some k)):GrpSt W' B0 B css m vs (i+1) vo' (cso++[cs]) (gs++[r]) (us++[v]):=by
 have hvo:∀ (g a:Nat),vo.ownBlock=some g→a < B0→a≠g:=fun g a hg ha e=>by have:=(h.out.lt hg).1;omega
 have hus:∀ (q:Nat) (u:Value),(us++[v])[q]? =some u→(us[q]? =some u∧q < us.length)∨(q=us.length∧u=v):=fun q u hq=>by
  by_cases hl:q < us.length
  ·rw [qe hl] at hq;exact .inl ⟨hq,hl⟩
  ·rw [qi (by omega)] at hq
   have h0:=(qv.1 hq).1
   simp at h0
   have:q=us.length:=by omega
   subst this
   rw [yh] at hq
   exact .inr ⟨rfl,by simpa using hq.symm⟩
 refine ⟨fun j cs' hj hcs'=>?_,ho,?_,fun q r' hq=>?_,fun p q u u' a b hpq h1 h2 h3 h4=>?_,fun q j u v' a b hj h1 h2 h3 h4=>?_,h.vup,h.blk,fun q u a h1 h2=>?_⟩
 ·obtain ⟨r',v',f1,f2,f3⟩:=h.mrg j cs' hj hcs'
  exact ⟨r',v',f1,f2,f3.chg hc (fun g hg e=>hvo g g e (h.blk j v' g f2 hg) rfl)⟩
 ·rw [qg,qg,qg,h.len.1,h.len.2];exact ⟨rfl,rfl⟩
 ·by_cases hl:q < gs.length
  ·rw [qe hl] at hq
   obtain ⟨cs',v',f1,f2,f3⟩:=h.row q r' hq
   exact ⟨cs',v',by rw [qe (by rw [h.len.1];exact hl)];exact f1,by rw [qe (by rw [h.len.2];exact hl)];exact f2,f3.chg hc (fun g hg e=>hvo g g e (h.ublk q v' g f2 hg) rfl)⟩
  ·rw [qi (by omega)] at hq
   have h0:=(qv.1 hq).1
   simp at h0
   have:q=gs.length:=by omega
   subst this
   rw [yh] at hq
   obtain rfl:r=r':=by simpa using hq
   refine ⟨cs,v,?_,?_,hr.chg hc (fun g hg e=>hvo g g e (h.blk i v g hv hg) rfl)⟩
   ·rw [qi (by rw [h.len.1];exact qh _),h.len.1,yh];rfl
   ·rw [qi (by rw [h.len.2];exact qh _),h.len.2,yh];rfl
 ·rcases hus p u h1 with ⟨g1,g2⟩| ⟨g1,rfl⟩ <;> rcases hus q u' h2 with ⟨g3,g4⟩| ⟨g3,rfl⟩
  ·exact h.up p q u u' a b hpq g1 g3 h3 h4
  ·exact hlow p u a b g1 h3 h4
  ·omega
  ·omega
 ·rcases hus q u h1 with ⟨g1,g2⟩| ⟨g1,rfl⟩
  ·exact h.low q j u v' a b hj g1 h2 h3 h4
  ·exact h.vup i j u v' a b (by omega) hv h2 h3 h4
 ·rcases hus q u h1 with ⟨g1,g2⟩| ⟨g1,rfl⟩
  ·exact h.ublk q u a g1 h2
  ·exact h.blk i u a hv h2
end
def zeroV:Vl:=⟨0,0,⟨#[]⟩⟩
def lastV (r:Rw):Vl:=r.args.getLastD zeroV
def trn (k:Nat) (rs:List Rw):List Rw:=rs.filterMap fun r=>(r.args[k]?).map (ahd r k)
def bck (k:Nat) (r:Rw):Rw:=⟨r.name,r.args.dropLast.take k++lastV r::r.args.dropLast.drop k,r.stamp⟩
def gmerge (ag:Ag) (y x:Rw):Rw:=⟨y.name,y.args.dropLast++[foldV ag (lastV y) (lastV x) false],if y.stamp < x.stamp then x.stamp else y.stamp⟩
def gfirst (ag:Ag) (x:Rw):Rw:=⟨x.name,x.args.dropLast++[foldV ag zeroV (lastV x) true],x.stamp⟩
def gstep (ag:Ag) (gs:List Rw) (x:Rw):List Rw:=match gs.findIdx? (alikeB x) with
 |some q=>match gs[q]? with
  |some y=>gs.set q (gmerge ag y x)
  |none=>gs
 |none=>gs++[gfirst ag x]
def grp (ag:Ag) (m:List Rw):List Rw:=m.foldl (gstep ag) []
def sj {ag:Ag} {m:List Rw} {i:Nat} {x:Rw} (h:m[i]? =some x):grp ag (m.take (i+1))=gstep ag (grp ag (m.take i)) x:=by
 unfold grp
 rw [vh h,List.foldl_append]
 rfl
def trn_take {k:Nat} {rs:List Rw} {i:Nat} {r:Rw} (h:rs[i]? =some r):trn k (rs.take (i+1))=trn k (rs.take i)++((r.args[k]?).map (ahd r k)).toList:=by
 unfold trn
 rw [vh h,yz]
 have:List.filterMap (fun r:Rw=>(r.args[k]?).map (ahd r k)) [r]=((r.args[k]?).map (ahd r k)).toList:=by
  simp only [List.filterMap_cons,List.filterMap_nil]
  generalize (r.args[k]?).map (ahd r k)=o
  cases o <;> rfl
 rw [this]
def nc (k:Nat) (rs:List Rw):(trn k rs).length≤rs.length:=jd _ _
def dx (n:ByteArray) (l:List Vl) (x:Vl) (s:Int):lastV ⟨n,l++[x],s⟩=x:=by simp [lastV]
def qby (ag:Ag) (gs:List Rw) (x:Rw):(gstep ag gs x).length≤gs.length+1:=by
 unfold gstep
 split
 ·split
  ·rw [jk];omega
  ·omega
 ·rw [qg];simp
def be (ag:Ag) (m:List Rw) (i:Nat):(grp ag (m.take i)).length≤i:=by
 induction i with
 |zero=>simp [grp]
 |succ i ih=>
  cases h:m[i]? with
  |none=>
   have:=yg.1 h
   rw [qc (by omega)]
   rw [qc (by omega)] at ih
   omega
  |some x=>
   rw [sj h]
   have:=qby ag (grp ag (m.take i)) x
   omega
structure GOk (k:Nat) (ag:Ag) (i:Nat) (y:Rw):Prop where
 two:k < y.args.length
 le:y.args.length≤1000
 cnt:ag=.count→0≤(lastV y).i∧(lastV y).i≤i
def gstep_ok {k:Nat} {ag:Ag} {gs:List Rw} {x:Rw} {i:Nat} (h:∀ y∈gs,GOk k ag i y) (hx:k < x.args.length) (hx2:x.args.length≤1000):∀ y∈gstep ag gs x,GOk k ag (i+1) y:=by
 have hmono:∀ y,GOk k ag i y→GOk k ag (i+1) y:=fun y hy=>⟨hy.two,hy.le,fun e=>by have:=hy.cnt e;omega⟩
 unfold gstep
 split
 ·split
  ·rename_i q hq y hy
   intro z hz
   rcases yr hz with h1|h1
   ·exact hmono z (h z h1)
   ·subst h1
    have hyk:=h y (qf hy)
    refine ⟨?_,?_,fun e=>?_⟩
    ·show k < (y.args.dropLast++[_]).length
     rw [qg,jv]
     have:=hyk.two
     simp;omega
    ·show (y.args.dropLast++[_]).length≤1000
     rw [qg,jv]
     have:=hyk.le
     simp;omega
    ·unfold gmerge
     rw [dx]
     subst e
     have:=hyk.cnt rfl
     simp only [foldV,Bool.false_eq_true,if_false]
     omega
  ·intro z hz
   exact hmono z (h z hz)
 ·intro z hz
  rcases zk.1 hz with h1|h1
  ·exact hmono z (h z h1)
  ·rw [qn.1 h1]
   refine ⟨?_,?_,fun e=>?_⟩
   ·show k < (x.args.dropLast++[_]).length
    rw [qg,jv]
    simp;omega
   ·show (x.args.dropLast++[_]).length≤1000
    rw [qg,jv]
    simp;omega
   ·unfold gfirst
    rw [dx]
    subst e
    simp only [foldV,if_true]
    omega
def grp_ok {k:Nat} {ag:Ag} {m:List Rw} (hm:∀ x∈m,k < x.args.length∧x.args.length≤1000) (i:Nat):∀ y∈grp ag (m.take i),GOk k ag i y:=by
 induction i with
 |zero=>intro y hy;simp [grp] at hy
 |succ i ih=>
  cases h:m[i]? with
  |none=>
   have:=yg.1 h
   intro y hy
   rw [qc (by omega)] at hy
   rw [qc (by omega)] at ih
   have:=ih y hy
   exact ⟨this.two,this.le,fun e=>by have:=this.cnt e;omega⟩
  |some x=>
   rw [sj h]
   have:=hm x (qf h)
   exact gstep_ok ih this.1 this.2
def trn_args {k:Nat} {rs:List Rw} (hk:1≤k) (h:∀ r∈rs,r.args.length≤1000):∀ x∈trn k rs,k < x.args.length∧x.args.length≤1000:=by
 intro x hx
 obtain ⟨r,hr,he⟩:=zr.1 hx
 cases hy:r.args[k]? with
 |none=>rw [hy] at he;cases he
 |some y=>
  rw [hy] at he
  have hlt:=(qv.1 hy).1
  cases he
  have:=h r hr
  show k < (r.args.eraseIdx k++[y]).length∧_≤1000
  rw [qg,uj,if_pos hlt]
  show _∧(r.args.eraseIdx k++[y]).length≤1000
  rw [qg,uj,if_pos hlt]
  simp only [zf,yj]
  omega
def qaf {x y:Rw} (h:alikeB x y=true):x.args.length=y.args.length:=by
 unfold alikeB at h
 simp only [qt,decide_eq_true_eq] at h
 exact h.2.1
def nj {gs:List Rw} {x:Rw} {q:Nat} (h:gs.findIdx? (alikeB x)=some q):∃ y,gs[q]? =some y∧alikeB x y=true:=by
 rw [yf] at h
 obtain ⟨h1,h2,_⟩:=h
 exact ⟨_,qz h1,h2⟩
def look_row (w:World) (bx:Nat) (xc yc:List Value) (r s:Rw) (hb:At w ⟨bx,0,none⟩ xc) (hx:RowAt w xc r) (hy:RowAt w yc s) (h1:1≤r.args.length) (h2:1≤s.args.length):
  Calls Tryz.prog 79 #[.agg yc.toArray,.pointer (some ⟨bx,0,none⟩)] w fun e w'=>e=.returned (.bool (alikeB r s))∧New w w':=by
 obtain ⟨w1,hw1⟩:=qdq (w.alloc (.cells yc.toArray 42))
 have hN1:New w w1:=by rw [hw1];exact (Chg.refl _ _).alloc _
 have hB1:Blk w1 w.heap.size 42 yc.toArray:=by rw [hw1];exact Blk.new w _ _
 have hal:=qbv w1 xc yc r s (hx.chg hN1) (hy.chg hN1) h1 h2
 have hbt:=hb.chg hN1 id
 obtain ⟨b,hbe⟩:=qdp (alikeB r s)
 rw [hbe] at hal⊢
 obtain ⟨A,c,rfl,_⟩:=hx
 obtain ⟨B,d,rfl,_⟩:=hy
 have Hal:=qq hal
 have Hbt:=qq hbt
 have HB1:=qq (show At w1 ⟨w.heap.size,0,none⟩ [.string s.name,.slice B s.args.length d,.int .i64 s.stamp] from hB1.at_)
 have HN1:=qq hN1
 have HW1:=qq hw1
 clear hal hbt hB1 hN1 hw1 hb hbe
 go_enter Tryz.func79,Tryz.ntmps79
 go_upto_region 1 with fail
 rw [←HW1.out]
 go_wp2_with (first| ((with_reducible refine vq rfl (.tmp 1) 42 rfl vd ⟨bx,0,none⟩ [.string r.name,.slice A r.args.length c,.int .i64 r.stamp] ?_ rfl Hbt.out ?_);exact rfl)| ((with_reducible refine vq rfl (.tmp 2) 42 rfl vd ⟨w.heap.size,0,none⟩ [.string s.name,.slice B s.args.length d,.int .i64 s.stamp] ?_ rfl HB1.out ?_);exact rfl))
 refine Hal.out.mono ?_
 rintro e w2 ⟨rfl,hN2⟩
 have HN2:=qq (HN1.out.trans hN2 qdr)
 clear hN2
 go_wp2_with fail
 go_ret
 exact ⟨rfl,HN2.out⟩
def qbw (w:World) (v:Value) (rs:List Rw) (h:RowSl w v rs):Calls Tryz.prog 22 #[v] w (MergePost w rs):=by
 obtain ⟨A,c,css,rfl,h2,h3,h4,h5,h6,h7⟩:=h
 exact rl w A c css rs h2 h3 h4 h5 h6 h7
def lastV_of {r:Rw} {l:List Vl} {z:Vl} (h:r.args=l++[z]):lastV r=z:=by unfold lastV;rw [h];simp
def pq {r:Rw} {z:Vl} (h:r.args=r.args.dropLast++[z]):lastV r=z:=lastV_of h
section
variable {W W':World} {B0 B i:Nat} {css cso:List (List Value)} {m gs:List Rw} {vs us:List Value} {vo:Value}
def GrpSt.next (h:GrpSt W B0 B css m vs i vo cso gs us):GrpSt W B0 B css m vs (i+1) vo cso gs us:=
 ⟨fun j cs hj=>h.mrg j cs (by omega),h.out,h.len,h.row,h.up,fun q j u v a b hj=>h.low q j u v a b (by omega),h.vup,h.blk,h.ublk⟩
def GrpSt.cs (h:GrpSt W B0 B css m vs i vo cso gs us):RowsCs W cso gs:=⟨h.len.1,fun q cs hq=>by
 have hlt:=(qv.1 hq).1
 obtain ⟨r,hr⟩:∃ r,gs[q]? =some r:=⟨_,qz (by rw [←h.len.1];exact hlt)⟩
 obtain ⟨cs',v,e1,e2,e3⟩:=h.row q r hr
 rw [hq] at e1
 cases e1
 exact ⟨r,hr,e3.row⟩⟩
def GrpSt.start {g n c:Nat} {rest:List Value} (ht:OwnTab W B g n css rest m vs) (hv:vs.length=n) (hm:m.length=n):GrpSt W W.heap.size B css m vs 0 (.slice none 0 0) [] [] [] where
 mrg:=fun j cs _ hcs=>by
  have hlt:=(qv.1 hcs).1
  rw [ht.tab.len] at hlt
  obtain ⟨cs',r,e1,e2,e3⟩:=ht.own j vs[j] (qz (by omega))
  rw [hcs] at e1
  cases e1
  exact ⟨r,_,e2,qz (by omega),e3⟩
 out:=Own.nil _ _ _ _
 len:=⟨rfl,rfl⟩
 row:=fun q r h=>by simp at h
 up:=fun p q u v a b _ h=>by simp at h
 low:=fun q j u v a b _ h=>by simp at h
 vup:=ht.up
 blk:=fun j v b hj hb=>by
  obtain ⟨cs',r,e1,e2,e3⟩:=ht.own j v hj
  exact (e3.2.2.lt hb).2
 ublk:=fun q u a h=>by simp at h
def GrpSt.rows {B':Nat} (h:GrpSt W B0 B css m vs i vo cso gs us) (hB:B'≤B):RowsOwn W B' cso gs:=⟨h.len.1,fun q cs hq=>by
 have hlt:=(qv.1 hq).1
 obtain ⟨r,hr⟩:∃ r,gs[q]? =some r:=⟨_,qz (by rw [←h.len.1];exact hlt)⟩
 obtain ⟨cs',v,e1,e2,e3⟩:=h.row q r hr
 rw [hq] at e1
 cases e1
 exact ⟨r,v,hr,e3.1,e3.2.1,e3.2.2.base hB⟩⟩
end
def RowsOwn.set {W:World} {B:Nat} {cso:List (List Value)} {rs:List Rw} (h:RowsOwn W B cso rs) {i:Nat} {cs:List Value} {r:Rw} {v:Value} (hi:i < rs.length) (hr:OwnRow W B cs r v):RowsOwn W B (cso.set i cs) (rs.set i r):=by
 refine ⟨by rw [jk,jk,h.1],fun q c hq=>?_⟩
 rw [jx] at hq
 by_cases he:i=q
 ·subst he
  rw [if_pos rfl,if_pos (by rw [h.1];exact hi)] at hq
  cases hq
  exact ⟨r,v,by rw [jx,if_pos rfl,if_pos hi],hr⟩
 ·rw [if_neg he] at hq
  obtain ⟨r',v',h1,h2⟩:=h.2 q c hq
  exact ⟨r',v',by rw [jx,if_neg he];exact h1,h2⟩
def mix_get {f:Rw→Rw} {gs:List Rw} {i:Nat} {r:Rw} (h:gs[i]? =some r):((gs.take i).map f++gs.drop i)[i]? =some r∧((gs.take i).map f++gs.drop i).set i (f r)=(gs.take (i+1)).map f++gs.drop (i+1):=by
 have hlt:=(qv.1 h).1
 have hl:((gs.take i).map f).length=i:=by rw [qd,ql];omega
 have hd:gs.drop i=r::gs.drop (i+1):=by
  rw [jg hlt]
  congr 1
  rw [qz hlt] at h
  exact Option.some.inj h
 constructor
 ·rw [qi (by omega),hl,yh,hd];rfl
 ·rw [List.set_append_right _ _ (by omega),hl,yh,hd,vh h,jw]
  simp
def GroupPost (w:World) (rs:List Rw) (ag:Ag) (k:Nat) (e:Ending) (w':World):Prop:=∃ v' m res,e=.returned v'∧IsMerge (trn k rs) m∧IsMerge ((grp ag m).map (bck k)) res∧RowSl w' v' res∧New w w'
def oc (w:World) (ag:Ag) (k:Nat) (hk:1≤k) (hk2:k≤1000) (v:Value) (rs:List Rw) (h:RowSl w v rs):
  Calls Tryz.prog 44 #[.string (agName ag),.int .i64 k,v] w (GroupPost w rs ag k):=by
 obtain ⟨ld,cd,hvd,hn1000⟩:=h.form
 subst hvd
 obtain ⟨n,hn⟩:=qdp (rs.length)
 rw [hn] at h hn1000⊢
 obtain ⟨nm,hnm⟩:=qdp (agName ag)
 have hf:=qcc w ag
 rw [hnm] at hf⊢
 have HF:=qq hf
 have Hn:=qq hn
 have HR:=qq h
 have dk:decide ((k:Int) < 1)=false:=decide_eq_false (by omega)
 clear hf hn h hnm
 go_enter Tryz.func44,Tryz.ntmps44
 go_wp2_with fail
 refine HF.out.mono ?_
 rintro e w1 ⟨fv,rfl,hfa,hN1⟩
 have hfa0:=hfa
 obtain ⟨gf,lbf,rfl,hgf⟩:=hfa0
 clear hgf
 have HFa:=qq hfa
 have HR1:=qq (HR.out.chg hN1)
 have HN1:=qq hN1
 have hnf:∀ w,(binOp BinOp.eql 127 (.func (.func gf) #[] lbf) .nilFunc).run Tryz.prog w=.ok (.bool false) w:=fun _=>by kernel_rfl
 clear hfa hN1 HF HR
 go_wp2_with fail
 go_loopw [8,29] (fun u8 u29 wr=>∃ (i:Nat) (cso:List (List Value)),i≤n∧u29=.int .i64 i∧Own wr w1.heap.size 42 3 u8 cso∧RowsOwn wr w1.heap.size cso (trn k (rs.take i))∧New w1 wr) (fun _ u _=>n - (intOf u).toNat)
 case atStart=>exact ⟨0,[],qr _,rfl,Own.nil _ _ _ _,⟨rfl,fun i cs h=>by simp at h⟩,Chg.refl _ _⟩
 case round=>
  obtain ⟨i,cso,hin,rfl,hov,hro,hN⟩:=hrel
  have hcl:cso.length≤100000000:=by
   rw [hro.1]
   have h1:=nc k (rs.take i)
   have h2:(rs.take i).length≤i:=List.length_take_le _ _
   omega
  have HOv:=qq hov
  have HRo:=qq hro
  have HNw:=qq hN
  clear hov hro hN
  by_cases hlt:i < n
  ·obtain ⟨r,hr⟩:∃ r,rs[i]? =some r:=⟨_,qz (by rw [Hn.out];exact hlt)⟩
   obtain ⟨ad,cs,rfl,hat,hk3,hrow⟩:=HR1.out.row hr
   have hrw:=hrow.chg HNw.out
   have hatw:=hat.chg HNw.out id
   have htt:=trn_take (k:=k) hr
   obtain ⟨X,xd,rfl,hla1000,hlax,hxm,_⟩:=hrow
   obtain ⟨la,hla⟩:=qdp (r.args.length)
   rw [hla] at hatw hrw hla1000 hlax
   obtain ⟨w2,hw2⟩:=qdq (wr.alloc (.cells #[.string r.name,.slice X la xd,.int .i64 r.stamp] 42))
   have hN2:New wr w2:=by rw [hw2];exact (Chg.refl _ _).alloc _
   have hB2:Blk w2 wr.heap.size 42 #[.string r.name,.slice X la xd,.int .i64 r.stamp]:=by rw [hw2];exact Blk.new wr _ _
   have e1:=hB2.cell 1
   simp only [qx,qj,qw] at e1
   have Hat:=qq hatw
   have Htt:=qq htt
   have HN2:=qq (HNw.out.trans hN2 qdr)
   have HNa:=qq hN2
   have HRw:=qq (hrw.chg hN2)
   have Hbt:=qq (show At w2 ⟨wr.heap.size,0,none⟩ [.string r.name,.slice X la xd,.int .i64 r.stamp] from hB2.at_)
   have HW2:=qq hw2
   have Hla:=qq hla
   have q0:(0:Int)≤(i:Int):=by omega
   have q1:(i:Int) < (n:Int):=by omega
   clear hat hatw hrw htt hN2 hB2 hw2 hr hla
   go_upto_region 8 with ((with_reducible refine vq rfl (.tmp 31) 42 rfl vd (ad.add (i * 3)) [.string r.name,.slice X la xd,.int .i64 r.stamp] ?_ rfl Hat.out ?_);exact rfl)
   rw [←HW2.out]
   by_cases hka:k < la
   ·obtain ⟨x,hx⟩:∃ x,r.args[k]? =some x:=⟨_,qz (by rw [Hla.out];exact hka)⟩
    have hah:Calls Tryz.prog 77 #[.agg #[.string r.name,.slice X la xd,.int .i64 r.stamp],.int .i64 k] w2 fun e w'=>∃ v,e=.returned (.agg #[.string r.name,v,.int .i64 r.stamp])∧Own w' w2.heap.size 62 4 v ((ahd r k x).args.map vcs)∧New w2 w':=qcb w2 [.string r.name,.slice X la xd,.int .i64 r.stamp] r HRw.out k x hx
    have hal:(ahd r k x).args.length≤1000:=by
     have hxl:=(qv.1 hx).1
     show (r.args.eraseIdx k++[x]).length≤1000
     rw [qg,uj,if_pos hxl,Hla.out]
     simp;omega
    have HT2:=qq (show trn k (rs.take (i+1))=trn k (rs.take i)++[ahd r k x] by rw [Htt.out,hx];rfl)
    have HAh:=qq hah
    have d1:decide ((k:Int) < (la:Int))=true:=decide_eq_true (by omega)
    have d2:decide (k < la)=true:=decide_eq_true hka
    clear hah hx
    have hsz2:=HN2.out.size
    go_wp2_with ((with_reducible refine vq rfl (.tmp 10) 42 rfl vd ⟨wr.heap.size,0,none⟩ [.string r.name,.slice X la xd,.int .i64 r.stamp] ?_ rfl Hbt.out ?_);exact rfl)
    refine HAh.out.mono ?_
    rintro e w3 ⟨v',rfl,hov',hN3⟩
    obtain ⟨A',c',hv',_,_⟩:=hov'.form
    obtain ⟨la',hla'⟩:=qdp ((List.map vcs (ahd r k x).args).length)
    rw [hla'] at hv'
    subst hv'
    obtain ⟨w4,hw4⟩:=qdq (w3.alloc (.cells #[.string r.name,.slice A' la' c',.int .i64 r.stamp] 42))
    have hN4:New w3 w4:=by rw [hw4];exact (Chg.refl _ _).alloc _
    have hB4:Blk w4 w3.heap.size 42 [Value.string r.name,.slice A' la' c',.int .i64 r.stamp].toArray:=by rw [hw4];exact Blk.new w3 _ _
    have hN34:=hN3.trans hN4 qdr
    have hN24:=HNa.out.trans hN34 qdr
    have hN14:=HN2.out.trans hN34 qdr
    have hov4:=HOv.out.chg hN24 qdr
    obtain ⟨v1,W',hrun,hown,hchg,hblk⟩:=elRow.appendS hov4 hN14.size (some ⟨w3.heap.size,0,none⟩) 1 1 [[.string r.name,.slice A' la' c',.int .i64 r.stamp]] rfl (fun cs hc=>by simp only [qp,qm,or_false] at hc;subst hc;rfl) (fun cs hc u hu=>by
     simp only [qp,qm,or_false] at hc
     subst hc
     simp only [qp,qm,or_false] at hu
     rcases hu with rfl|rfl|rfl <;> rfl) (fun _=>⟨_,rfl,fun j cs hj=>by
     match j,hj with
     |0,hj=>cases hj;exact ⟨rfl,by rw [yo];exact hB4.at_⟩
     |j+1,hj=>simp at hj⟩) (by omega) (by unfold maxLen;omega) 31
    have hor:OwnRow w4 w1.heap.size [.string r.name,.slice A' la' c',.int .i64 r.stamp] (ahd r k x) (.slice A' la' c'):=⟨rfl,hal,(hov'.base hsz2).chg hN4 qdr⟩
    have hro4:=(HRo.out.new hN24)
    have HRn:=qq (show RowsOwn W' w1.heap.size (cso++[[.string r.name,.slice A' la' c',.int .i64 r.stamp]]) (trn k (rs.take (i+1))) by
     rw [HT2.out]
     exact (hro4.chg hov4 (by decide) hchg).snoc (hor.chg hchg (fun g hg hg'=>dy hov4 hor.2.2 (by decide) hg' hg)))
    have HOn:=qq hown
    have HNn:=qq (hN14.trans hchg (fun g hg h=>absurd ((hov4.lt h).1) (by omega)))
    have Hrun:=qq hrun
    have HW4:=qq hw4
    clear hN4 hB4 hN34 hN24 hN14 hov4 hrun hown hchg hblk hor hro4 hw4 hov' hN3 hla'
    go_wp2_with (first| (rw [←HW4.out];((with_reducible refine xu rfl (.tmp 38) (.tmp 42) 31 31 rfl ?_ ?_ Hrun.out ?_);exact rfl;exact rfl)))
    go_roundw
    case rel=>exact ⟨i+1,_,by omega,by go_num,HOn.out,HRn.out,HNn.out⟩
    case measure=>simp only [intOf];omega
   ·have d1:decide ((k:Int) < (la:Int))=false:=decide_eq_false (by omega)
    have d2:decide (k < la)=false:=decide_eq_false hka
    have hx:r.args[k]? =none:=jm (by rw [Hla.out];omega)
    have HT2:=qq (show RowsOwn w2 w1.heap.size cso (trn k (rs.take (i+1))) by rw [Htt.out,hx];simp only [Option.map_none,Option.toList_none,jr];exact HRo.out.new HNa.out)
    have HOn:=qq (HOv.out.chg HNa.out qdr)
    clear hx
    go_wp2_with fail
    go_roundw
    case rel=>exact ⟨i+1,cso,by omega,by go_num,HOn.out,HT2.out,HN2.out⟩
    case measure=>simp only [intOf];omega
  ·have HT:=qq (show RowsOwn wr w1.heap.size cso (trn k rs) by
    have:=HRo.out
    rw [qc (by rw [Hn.out];omega)] at this
    exact this)
   have hlt':(trn k rs).length≤100000000:=by have:=nc k rs;have:=Hn.out;omega
   have HM:=qq (qbw wr u8 (trn k rs) (HOv.out.rowSl HT.out.cs hlt'))
   clear HRo HT HOv hlt'
   go_wp2_with fail
   refine HM.out.mono ?_
   intro e w5 hp
   obtain ⟨m,hm,hN5,hcase⟩:=hp
   have HMm:=qq hm
   have HN5:=qq (HNw.out.trans hN5 qdr)
   have hm1000:m.length≤100000000:=me hm 100000000 (by have:=nc k rs;have:=Hn.out;omega)
   have hsz5:=HNw.out.size
   rcases hcase with ⟨rfl,rfl⟩| ⟨g,c5,css5,rest5,vs5,B5,rfl,hl5,hc5m,hg5,hv5,htab⟩
   ·clear hm hN5 HM
    go_wp2_with fail
    go_loopw [11,48] (fun u11 u48 wx=>u11=.slice none 0 0∧u48=.int .i64 0∧wx=w5) (fun _ _ _=>0)
    case atStart=>exact ⟨rfl,rfl,rfl⟩
    case round=>
     obtain ⟨rfl,rfl,rfl⟩:=hrel
     go_wp2_with fail
     go_loopw [113] (fun u113 wx=>u113=.int .i64 0∧wx=wr) (fun _ _=>0)
     case atStart=>exact ⟨rfl,rfl⟩
     case round=>
      obtain ⟨rfl,rfl⟩:=hrel
      have HMl:=qq (db wr _ [] (RowSl.nil _))
      go_wp2_with fail
      refine HMl.out.mono ?_
      rintro e w6 ⟨v',res,rfl,hres,hrsl,hN6⟩
      have HRes:=qq hres
      have HRsl:=qq hrsl
      have HN6:=qq ((HN1.out.trans HN5.out qdr).trans hN6 qdr)
      clear hres hrsl hN6
      go_wp2_with fail
      go_ret
      exact ⟨_,[],res,rfl,HMm.out,HRes.out,HRsl.out,HN6.out⟩
   ·obtain ⟨n2,hn2⟩:=qdp (m.length)
    rw [hn2] at hl5 hv5 htab hm1000⊢
    have hst:=GrpSt.start (c:=c5) htab hv5 hn2
    have HTab:=qq htab.tab
    have hgB:=htab.gB
    have hg5s:=htab.tab.blk.lt
    have Hn2:=qq hn2
    have hmb:=trn_args (rs:=rs) hk (fun r hr=>by
     obtain ⟨i',hi',rfl⟩:=zt hr
     obtain ⟨_,_,_,_,_,hrow⟩:=HR1.out.row (qz hi')
     obtain ⟨_,_,_,h9,_⟩:=hrow
     exact h9)
    have HMb:=qq (show ∀ x∈m,k < x.args.length∧x.args.length≤1000 from fun x hx=>hmb x (hm.sub x hx))
    have HSt:=qq hst
    clear hst htab hm hN5 HM hn2 hmb
    go_wp2_with fail
    go_loopw [11,48] (fun u11 u48 wx=>∃ (i:Nat) (cso:List (List Value)) (us:List Value),i≤n2∧u48=.int .i64 i∧GrpSt wx w5.heap.size B5 css5 m vs5 i u11 cso (grp ag (m.take i)) us∧Tab wx g n2 css5 rest5∧New w1 wx∧w5.heap.size≤wx.heap.size) (fun _ u _=>n2 - (intOf u).toNat)
    case atStart=>exact ⟨0,[],[],qr _,rfl,HSt.out,HTab.out,HN5.out,qh _⟩
    case round=>
     obtain ⟨i,cso,us,hi2,rfl,hst,htab,hN,hszw⟩:=hrel
     have HSw:=qq hst
     have HTw:=qq htab
     have HNw:=qq hN
     clear hst htab hN HSt HTab
     by_cases hlt2:i < n2
     ·obtain ⟨x,hx⟩:∃ x,m[i]? =some x:=⟨_,qz (by rw [Hn2.out];exact hlt2)⟩
      obtain ⟨cs,hcs,_,_⟩:=HTw.out.cs hlt2
      obtain ⟨hx2,hx1000⟩:=HMb.out x (qf hx)
      obtain ⟨last,hlast⟩:∃ l,x.args.length=l+1:=⟨x.args.length - 1,by omega⟩
      have htk:=HSw.out.take hcs (last:=last) (fun r hr=>by rw [hx] at hr;cases hr;exact hlast)
      obtain ⟨x',vx,gx,capx,curx,zx,e1,hvx,hor,hvxe,hBx,hgx,hxz,hblkx,hatx,hfitx,htake⟩:=htk
      obtain rfl:x=x':=by rw [hx] at e1;exact Option.some.inj e1
      have hcsx:=hor.1
      have hat:=HTw.out.get hcs
      have hrowx:=hor.row
      have hgt:=sj (ag:=ag) hx
      subst hvxe
      subst hcsx
      obtain ⟨Ao,co,hvo,hco,hcm⟩:=HSw.out.out.form
      have hlo:=HSw.out.len.1
      obtain ⟨gs,hgs⟩:=qdp (grp ag (m.take i))
      have hgk:=grp_ok (ag:=ag) HMb.out i
      rw [hgs] at hgk hlo
      rw [hgs] at HSw htake hgt
      obtain ⟨lo,hloe⟩:=qdp (cso.length)
      rw [hloe] at hvo hco hlo
      subst hvo
      have hgl:gs.length≤i:=by rw [←hgs];exact be ag m i
      obtain ⟨w2,hw2⟩:=qdq (wr.alloc (.cells #[.string x.name,.slice (some ⟨gx,0,none⟩) (last+1) capx,.int .i64 x.stamp] 42))
      have hN2:New wr w2:=by rw [hw2];exact (Chg.refl _ _).alloc _
      have hB2:Blk w2 wr.heap.size 42 #[.string x.name,.slice (some ⟨gx,0,none⟩) (last+1) capx,.int .i64 x.stamp]:=by rw [hw2];exact Blk.new wr _ _
      have hs2:=HSw.out.new hN2
      have ec1:=hB2.cell 1
      simp only [qx,qj,qw] at ec1
      have hbt:At w2 ⟨wr.heap.size,0,none⟩ [.string x.name,.slice (some ⟨gx,0,none⟩) (last+1) capx,.int .i64 x.stamp]:=hB2.at_
      have hrow2:=hrowx.chg hN2
      have hsl:=hs2.cs
      have eg65:=enters_of Tryz.func79 (by kernel_rfl) rfl
      have hidx:=idxRow w2 Ao lo co cso hloe.symm (by unfold maxLen;omega) (hs2.out.rows (by rw [←hloe])).2 79 #[.pointer (some ⟨wr.heap.size,0,none⟩)] eg65 (fun cs'=>alikeB x (rowOf w2 cs')) (fun _=>False) (fun cs' hcs' W hW=>by
       have hra:=hsl.at_ hcs'
       obtain ⟨q',hq',rfl⟩:=zt hcs'
       obtain ⟨r',hr',hrow'⟩:=hsl.2 q' _ (qz hq')
       have:=(hgk r' (qf hr')).two
       rw [hrow'.of]
       exact look_row W wr.heap.size [.string x.name,.slice (some ⟨gx,0,none⟩) (last+1) capx,.int .i64 x.stamp] _ x r' (hbt.chg hW id) (hrow2.chg hW) (hrow'.chg hW) (by omega) (by omega))
      have hfi:cso.findIdx? (fun cs'=>alikeB x (rowOf w2 cs'))=gs.findIdx? (alikeB x):=by
       rw [←hsl.map,List.findIdx?_map]
       rfl
      have HIdx:=qq hidx
      have HFi:=qq hfi
      have HHat:=qq hat
      have HS2:=qq hs2
      have HB2:=qq hB2
      have HN2:=qq hN2
      have HW2:=qq hw2
      have HGt:=qq hgt
      have HGk:=qq hgk
      have HXz:=qq hxz
      have HAtx:=qq hatx
      have HVx:=qq hvx
      have HXl:=qq hlast
      have HCs:=qq hcs
      have HX:=qq hx
      have Hlo:=qq hlo
      have Hloe:=qq hloe
      have HSl:=qq hsl
      have hl999:last≤999:=by omega
      have hwrs:=hszw
      have hboxlt:wr.heap.size < w2.heap.size:=hB2.lt
      have q0:(0:Int)≤(i:Int):=by omega
      have q1:(i:Int) < (n2:Int):=by omega
      clear hidx hfi hat hs2 hB2 hN2 hw2 hgt hgk hxz hatx hvx hlast hcs hx hsl hbt hrow2 hrowx hor e1 htake hblkx eg65 hlo hloe hgs
      go_upto_region 15 with ((with_reducible refine vq rfl (.tmp 50) 42 rfl vd ⟨g,i * 3,none⟩ [.string x.name,.slice (some ⟨gx,0,none⟩) (last+1) capx,.int .i64 x.stamp] ?_ rfl HHat.out ?_);exact rfl)
      rw [←HW2.out]
      go_wp2_with fail
      refine HIdx.out.mono ?_
      intro e w3 hp
      rcases hp with ⟨q,hq,rfl,hN3⟩| ⟨hq,rfl,hN3⟩
      ·rw [HFi.out] at hq
       clear HIdx HHat HSl
       obtain ⟨y,hy,hyal⟩:=nj hq
       have hyl:y.args.length=last+1:=by rw [←qaf hyal,HXl.out]
       have hql:=(qv.1 hy).1
       obtain ⟨st,hst⟩:=qdq (if y.stamp < x.stamp then x.stamp else y.stamp)
       have hs3:=(HS2.out.new hN3).new (show New w3 w3.drew from (Chg.refl _ _).drew)
       have hN3d:=hN3.trans (show New w3 w3.drew from (Chg.refl _ _).drew) qdr
       obtain ⟨go,co',csy,vy,hvo',hgo,hcq,huq,hory,haty,⟨tgo,curo,hblko⟩,hst4⟩:=hs3.stamp hy st
       simp only [Value.slice.injEq] at hvo'
       obtain ⟨rfl,hlg,rfl⟩:=hvo'
       clear hlg
       have hgoW:=hs3.out.lt (g:=go) rfl
       have hcsy:=hory.1
       subst hcsy
       have hbx3:=HB2.out.chg hN3d id
       have hco2:=haty 2 _ rfl
       rw [Addr.add_lit] at hco2
       have hfo2:=hblko.frozen (q * 3+2)
       have hcx2:=hbx3.cell 2
       simp only [qx,qj,qw] at hcx2
       have hgoR:=(HSw.out.out.lt (g:=go) rfl)
       have HN3d:=qq hN3d
       have HS3:=qq hs3
       have HS4:=qq hst4
       have Hst:=qq hst
       have Hco2:=qq hco2
       have Hcx2:=qq hcx2
       have Hbx3:=qq hbx3
       have HY:=qq hy
       have HYl:=qq hyl
       have HQ:=qq hq
       have p0:(0:Int)≤(q:Int):=by omega
       have p1:(q:Int) < (lo:Int):=by have:=Hlo.out;omega
       have p2:q < lo:=by have:=Hlo.out;omega
       have p3:decide (0≤(q:Int))=true:=decide_eq_true p0
       clear hN3d hs3 hst4 hst hco2 hcx2 hbx3 hy hyl hq hN3 haty hory hyal hcq huq hblko
       go_upto_region 19 with fail
       refine vj (by kernel_rfl) ?_
       generalize w3.drew=wd3 at HN3d HS3 HS4 Hco2 Hcx2 Hbx3 hfo2 hgoW⊢
       refine AtN.segQ2 0 10 (fun
        |0=>.pointer (some ⟨go,q * 3,none⟩)
        |1=>.pointer (some ⟨go,q * 3,none⟩)
        |2=>.pointer (some ⟨go,q * 3,none⟩)
        |3=>.pointer (some ⟨go,q * 3+2,none⟩)
        |4=>.int .i64 y.stamp
        |5=>.pointer (some ⟨wr.heap.size,2,none⟩)
        |6=>.int .i64 x.stamp
        |7=>.int .i64 st
        |8=>.pointer (some ⟨go,q * 3,none⟩)
        |_=>.pointer (some ⟨go,q * 3+2,none⟩))
        [(64,.pointer (some ⟨go,q * 3,none⟩)),(65,.pointer (some ⟨go,q * 3,none⟩)),(66,.pointer (some ⟨go,q * 3,none⟩)),(67,.pointer (some ⟨go,q * 3+2,none⟩)),(68,.int .i64 y.stamp),(69,.pointer (some ⟨wr.heap.size,2,none⟩)),(70,.int .i64 x.stamp),(71,.int .i64 st),(72,.pointer (some ⟨go,q * 3,none⟩)),(73,.pointer (some ⟨go,q * 3+2,none⟩))] (by kernel_rfl) (by kernel_rfl) (by kernel_rfl) (by kernel_rfl) rfl (fun i hn hi o ho A0 hin hk=>?_) ?_
       ·rcases (show i=0∨i=1∨i=2∨i=3∨i=4∨i=5∨i=6∨i=7∨i=8∨i=9 by omega) with rfl|rfl|rfl|rfl|rfl|rfl|rfl|rfl|rfl|rfl<;>cases ho
        ·exact uo 16 _ rfl (hk 16)
        ·exact uo 16 _ rfl (hk 16)
        ·have h65:A0.tmps[65]?.getD undef=.pointer (some ⟨go,q * 3,none⟩):=hin 1 65
         exact by simp [go_sem,h65]
        ·have h66:A0.tmps[66]?.getD undef=.pointer (some ⟨go,q * 3,none⟩):=hin 2 66
         exact by simp [go_sem,h66]
        ·have h67:A0.tmps[67]?.getD undef=.pointer (some ⟨go,q * 3+2,none⟩):=hin 3 67
         exact by simp [go_sem,h67,Hco2.out]
        ·have h13:A0.tmps[13]?.getD undef=.pointer (some ⟨wr.heap.size,0,none⟩):=hk 13
         exact by simp [go_sem,h13]
        ·have h69:A0.tmps[69]?.getD undef=.pointer (some ⟨wr.heap.size,2,none⟩):=hin 5 69
         exact by simp [go_sem,h69,Hcx2.out]
        ·have h68:A0.tmps[68]?.getD undef=.int .i64 y.stamp:=hin 4 68
         have h70:A0.tmps[70]?.getD undef=.int .i64 x.stamp:=hin 6 70
         exact by simp [go_sem,h68,h70,Hst.out]
        ·have h64:A0.tmps[64]?.getD undef=.pointer (some ⟨go,q * 3,none⟩):=hin 0 64
         exact by simp [go_sem,h64]
        ·have h72:A0.tmps[72]?.getD undef=.pointer (some ⟨go,q * 3,none⟩):=hin 8 72
         exact by simp [go_sem,h72]
       simp only [putsL,Act.put,qk,qu,qy]
       refine AtN.list 10 11 (by kernel_rfl) ?_
       change wpList _ _ _ [_] _ _
       have c9:=Hco2.out
       go_wp2_with fail
       change AtN _ _ _ 11 _ _
       refine AtN.done rfl ?_
       obtain ⟨w4,hw4⟩:=qdq (wd3.setCell ⟨go,q * 3+2,none⟩ (.int .i64 st))
       have hN14:=(HNw.out.trans HN2.out qdr).trans HN3d.out qdr
       have hc34:Chg wd3 w4 (fun b=>b=go):=by rw [hw4];exact (Chg.refl _ _).setCell _ _ (fun _=>rfl)
       have hNd4:New w4 w4.drew:=(Chg.refl _ _).drew
       have hN15:New w1 w4.drew:=(hN14.trans hc34 (fun b hb e=>by omega)).trans hNd4 qdr
       have hs5:=HS4.out
       rw [←hw4] at hs5
       have hs5:=hs5.new hNd4
       have htab5:=(((HTw.out.chg HN2.out id).chg HN3d.out id).chg hc34 (by omega)).chg hNd4 id
       have hbx5:=(Hbx3.out.chg hc34 (by omega)).chg hNd4 id
       have hatx5:=((((HAtx.out.chg HN2.out id).chg HN3d.out id).chg hc34 (by show ¬ gx=go;omega)).chg hNd4 id)
       change At _ _ [.int .i64 zx.k,.int .i64 zx.i,.string zx.t,.slice none 0 0] at hatx5
       have hcx1:=hbx5.cell 1
       simp only [qx,qj,qw] at hcx1
       obtain ⟨y',hy'⟩:=qdq ((⟨y.name,y.args,st⟩:Rw))
       have hgq:(gs.set q ⟨y.name,y.args,st⟩)[q]? =some y':=by rw [jx,if_pos rfl,if_pos hql,hy']
       have hyl':y'.args.length=last+1:=by rw [hy'];exact HYl.out
       obtain ⟨cs5,v5,gy,capy,cury,zy,hc5,hu5,ho5,hv5,hBy,hgy,hyz,hblky,haty5,hfity,_⟩:=hs5.fold hgq hyl'
       change At _ _ [.int .i64 zy.k,.int .i64 zy.i,.string zy.t,.slice none 0 0] at haty5
       obtain ⟨go2,cap2,rest2,hv2,_,_,hat2,_,_⟩:=hs5.out.get hc5
       simp only [Value.slice.injEq,Option.some.injEq,Addr.mk.injEq,and_true] at hv2
       obtain ⟨rfl,_,_⟩:=hv2
       have hcs5:=ho5.1
       subst hv5
       subst hcs5
       have hco1:=hat2 1 _ rfl
       rw [Addr.add_lit] at hco1
       obtain ⟨zn,hzn⟩:=qdp (foldV ag zy zx false)
       have hfold:=HFa.out
       obtain ⟨gf',lbf',hfe,egf,hcall⟩:=hfold
       simp only [Value.func.injEq,Fn.func.injEq,true_and] at hfe
       obtain ⟨rfl,rfl⟩:=hfe
       have hcnt:ag=.count→(false=false)→0≤zy.i∧zy.i≤100000000:=fun e _=>by
        have h9:=(HGk.out y (qf HY.out)).cnt e
        have h8:lastV y=zy:=by rw [←pq hyz,hy'];rfl
        rw [h8] at h9
        omega
       have HCall:=qq (fun W hW=>hcall W hW zy zx false hcnt)
       have HN15:=qq hN15
       have HS5:=qq hs5
       have HTab5:=qq htab5
       have HBx5:=qq hbx5
       have HAx5:=qq hatx5
       have HAy5:=qq haty5
       have Hcx1:=qq hcx1
       have Hco1:=qq hco1
       have Hzn:=qq hzn
       have HGq:=qq hgq
       have HYe:=qq hy'
       have HYl':=qq hyl'
       have HYz:=qq hyz
       have HU5:=qq hu5
       have HBky:=qq hblky
       have HW4:=qq hw4
       unfold Enters at egf
       clear hw4 hN14 hc34 hNd4 hN15 hs5 htab5 hbx5 hatx5 hcx1 hy' hgq hyl' hyz ho5 hc5 hu5 haty5 hat2 hco1 hzn hcall hcnt hblky HS3 HS4 Hco2 Hcx2 Hbx3 hfo2 c9
       go_upto_region 20 with fail
       rw [←HW4.out]
       refine vj (by kernel_rfl) ?_
       clear HW4
       generalize w4.drew=wd4 at HN15 HS5 HTab5 HBx5 HAx5 HAy5 Hcx1 Hco1 HBky⊢
       have z0:(0:Int)≤(last:Int):=by omega
       have z1:(last:Int) < ((last+1:Nat):Int):=by omega
       have z2:(last:Int) < (last:Int)+1:=by omega
       have z3:last < last+1:=by omega
       refine AtN.segN2 0 20 [74,75,76,77,78,79,80,81,82,83,84,85,86,87,88,89,90,91,92,93] (fun
        |0=>fun v _=>v=.pointer (some ⟨go,q * 3,none⟩)
        |1=>fun v _=>v=.pointer (some ⟨go,q * 3,none⟩)
        |2=>fun v _=>v=.pointer (some ⟨go,q * 3+1,none⟩)
        |3=>fun v _=>v=.slice (some ⟨gy,0,none⟩) (last+1) capy
        |4=>fun v _=>v=.int .i64 last
        |5=>fun v _=>v=.func (.func gf) #[] lbf
        |6=>fun v _=>v=.pointer (some ⟨go,q * 3,none⟩)
        |7=>fun v _=>v=.pointer (some ⟨go,q * 3,none⟩)
        |8=>fun v _=>v=.pointer (some ⟨go,q * 3+1,none⟩)
        |9=>fun v _=>v=.slice (some ⟨gy,0,none⟩) (last+1) capy
        |10=>fun v _=>v=.int .i64 last
        |11=>fun v _=>v=.pointer (some ⟨gy,last * 4,none⟩)
        |12=>fun v _=>v=.agg #[.int .i64 zy.k,.int .i64 zy.i,.string zy.t,.slice none 0 0]
        |13=>fun v _=>v=.pointer (some ⟨wr.heap.size,1,none⟩)
        |14=>fun v _=>v=.slice (some ⟨gx,0,none⟩) (last+1) capx
        |15=>fun v _=>v=.int .i64 last
        |16=>fun v _=>v=.pointer (some ⟨gx,last * 4,none⟩)
        |17=>fun v _=>v=.agg #[.int .i64 zx.k,.int .i64 zx.i,.string zx.t,.slice none 0 0]
        |18=>fun v _=>v=.agg #[.int .i64 zn.k,.int .i64 zn.i,.string zn.t,.slice none 0 0]
        |19=>fun v _=>v=.pointer (some ⟨gy,last * 4,none⟩)
        |_=>fun _ _=>True) (by kernel_rfl) (by kernel_rfl) (by kernel_rfl) (by kernel_rfl) (fun j v w1 w2 hc h=>?_) (fun i hn hi o ho A0 W hN hin hk=>?_) (fun l W6 hN hl hΦ=>?_)
       ·match j with
        |0|1|2|3|4|5|6|7|8|9|10|11|12|13|14|15|16|17|18|19=>exact h
        |_+20=>trivial
       ·rcases (show i=0∨i=1∨i=2∨i=3∨i=4∨i=5∨i=6∨i=7∨i=8∨i=9∨i=10∨i=11∨i=12∨i=13∨i=14∨i=15∨i=16∨i=17∨i=18∨i=19 by omega) with rfl|rfl|rfl|rfl|rfl|rfl|rfl|rfl|rfl|rfl|rfl|rfl|rfl|rfl|rfl|rfl|rfl|rfl|rfl|rfl<;>cases ho
        ·exact .same (uo 16 _ rfl (hk 16)) rfl
        ·have h74:A0.tmps[74]?.getD undef=.pointer (some ⟨go,q * 3,none⟩):=hin 0 74
         exact .same (by simp [go_sem,h74]) rfl
        ·have h75:A0.tmps[75]?.getD undef=.pointer (some ⟨go,q * 3,none⟩):=hin 1 75
         exact .same (by simp [go_sem,h75]) rfl
        ·have h76:A0.tmps[76]?.getD undef=.pointer (some ⟨go,q * 3+1,none⟩):=hin 2 76
         have hcc:=hN.cellS Hco1.out id
         exact .same (v:=.slice (some ⟨gy,0,none⟩) (last+1) capy) (by simp [go_sem,h76,hcc]) rfl
        ·exact .same (uo 14 _ rfl (hk 14)) rfl
        ·exact .same (uo 7 _ rfl (hk 7)) rfl
        ·exact .same (uo 16 _ rfl (hk 16)) rfl
        ·have h80:A0.tmps[80]?.getD undef=.pointer (some ⟨go,q * 3,none⟩):=hin 6 80
         exact .same (by simp [go_sem,h80]) rfl
        ·have h81:A0.tmps[81]?.getD undef=.pointer (some ⟨go,q * 3,none⟩):=hin 7 81
         exact .same (by simp [go_sem,h81]) rfl
        ·have h82:A0.tmps[82]?.getD undef=.pointer (some ⟨go,q * 3+1,none⟩):=hin 8 82
         have hcc:=hN.cellS Hco1.out id
         exact .same (v:=.slice (some ⟨gy,0,none⟩) (last+1) capy) (by simp [go_sem,h82,hcc]) rfl
        ·exact .same (uo 14 _ rfl (hk 14)) rfl
        ·have h83:A0.tmps[83]?.getD undef=.slice (some ⟨gy,0,none⟩) (last+1) capy:=hin 9 83
         have h84:A0.tmps[84]?.getD undef=.int .i64 last:=hin 10 84
         exact .same (by simp [go_sem,h83,h84,z0,z1,z2,z3]) rfl
        ·have h85:A0.tmps[85]?.getD undef=.pointer (some ⟨gy,last * 4,none⟩):=hin 11 85
         exact .same (vu 85 _ rfl vz ⟨gy,last * 4,none⟩ [.int .i64 zy.k,.int .i64 zy.i,.string zy.t,.slice none 0 0] h85 rfl (HAy5.out.chg hN id)) rfl
        ·have h13:A0.tmps[13]?.getD undef=.pointer (some ⟨wr.heap.size,0,none⟩):=hk 13
         exact .same (by simp [go_sem,h13]) rfl
        ·have h87:A0.tmps[87]?.getD undef=.pointer (some ⟨wr.heap.size,1,none⟩):=hin 13 87
         have hcc:=hN.cellS Hcx1.out id
         exact .same (v:=.slice (some ⟨gx,0,none⟩) (last+1) capx) (by simp [go_sem,h87,hcc]) rfl
        ·exact .same (uo 14 _ rfl (hk 14)) rfl
        ·have h88:A0.tmps[88]?.getD undef=.slice (some ⟨gx,0,none⟩) (last+1) capx:=hin 14 88
         have h89:A0.tmps[89]?.getD undef=.int .i64 last:=hin 15 89
         exact .same (by simp [go_sem,h88,h89,z0,z1,z2,z3]) rfl
        ·have h90:A0.tmps[90]?.getD undef=.pointer (some ⟨gx,last * 4,none⟩):=hin 16 90
         exact .same (vu 90 _ rfl vz ⟨gx,last * 4,none⟩ [.int .i64 zx.k,.int .i64 zx.i,.string zx.t,.slice none 0 0] h90 rfl (HAx5.out.chg hN id)) rfl
        ·have h79:A0.tmps[79]?.getD undef=.func (.func gf) #[] lbf:=hin 5 79
         have h86:A0.tmps[86]?.getD undef=.agg #[.int .i64 zy.k,.int .i64 zy.i,.string zy.t,.slice none 0 0]:=hin 12 86
         have h91:A0.tmps[91]?.getD undef=.agg #[.int .i64 zx.k,.int .i64 zx.i,.string zx.t,.slice none 0 0]:=hin 17 91
         refine .call (f:=gf) (args:=#[vval zy,vval zx,.bool false]++lbf) (W':=W) ?_ ((HCall.out W (HN15.out.trans hN qdr)).mono ?_)
         ·have e86:A0.tmps[86]?.getD undef=vval zy:=h86
          have e91:A0.tmps[91]?.getD undef=vval zx:=h91
          clear h86 h91
          simp [go_sem,h79,e86,e91,egf]
         ·rintro e w' ⟨rfl,hc⟩
          exact ⟨_,rfl,hc,by rw [Hzn.out];rfl⟩
        ·have h77:A0.tmps[77]?.getD undef=.slice (some ⟨gy,0,none⟩) (last+1) capy:=hin 3 77
         have h78:A0.tmps[78]?.getD undef=.int .i64 last:=hin 4 78
         exact .same (by simp [go_sem,h77,h78,z0,z1,z2,z3]) rfl
       obtain ⟨x74,x75,x76,x77,x78,x79,x80,x81,x82,x83,x84,x85,x86,x87,x88,x89,x90,x91,x92,x93,rfl⟩:∃ x74 x75 x76 x77 x78 x79 x80 x81 x82 x83 x84 x85 x86 x87 x88 x89 x90 x91 x92 x93,l=[x74,x75,x76,x77,x78,x79,x80,x81,x82,x83,x84,x85,x86,x87,x88,x89,x90,x91,x92,x93]:=by
        match l,hl with
        | [x74,x75,x76,x77,x78,x79,x80,x81,x82,x83,x84,x85,x86,x87,x88,x89,x90,x91,x92,x93],_=>exact ⟨_,_,_,_,_,_,_,_,_,_,_,_,_,_,_,_,_,_,_,_,rfl⟩
       obtain rfl:x74=.pointer (some ⟨go,q * 3,none⟩):=hΦ 0 (by decide)
       obtain rfl:x75=.pointer (some ⟨go,q * 3,none⟩):=hΦ 1 (by decide)
       obtain rfl:x76=.pointer (some ⟨go,q * 3+1,none⟩):=hΦ 2 (by decide)
       obtain rfl:x77=.slice (some ⟨gy,0,none⟩) (last+1) capy:=hΦ 3 (by decide)
       obtain rfl:x78=.int .i64 last:=hΦ 4 (by decide)
       obtain rfl:x79=.func (.func gf) #[] lbf:=hΦ 5 (by decide)
       obtain rfl:x80=.pointer (some ⟨go,q * 3,none⟩):=hΦ 6 (by decide)
       obtain rfl:x81=.pointer (some ⟨go,q * 3,none⟩):=hΦ 7 (by decide)
       obtain rfl:x82=.pointer (some ⟨go,q * 3+1,none⟩):=hΦ 8 (by decide)
       obtain rfl:x83=.slice (some ⟨gy,0,none⟩) (last+1) capy:=hΦ 9 (by decide)
       obtain rfl:x84=.int .i64 last:=hΦ 10 (by decide)
       obtain rfl:x85=.pointer (some ⟨gy,last * 4,none⟩):=hΦ 11 (by decide)
       obtain rfl:x86=.agg #[.int .i64 zy.k,.int .i64 zy.i,.string zy.t,.slice none 0 0]:=hΦ 12 (by decide)
       obtain rfl:x87=.pointer (some ⟨wr.heap.size,1,none⟩):=hΦ 13 (by decide)
       obtain rfl:x88=.slice (some ⟨gx,0,none⟩) (last+1) capx:=hΦ 14 (by decide)
       obtain rfl:x89=.int .i64 last:=hΦ 15 (by decide)
       obtain rfl:x90=.pointer (some ⟨gx,last * 4,none⟩):=hΦ 16 (by decide)
       obtain rfl:x91=.agg #[.int .i64 zx.k,.int .i64 zx.i,.string zx.t,.slice none 0 0]:=hΦ 17 (by decide)
       obtain rfl:x92=.agg #[.int .i64 zn.k,.int .i64 zn.i,.string zn.t,.slice none 0 0]:=hΦ 18 (by decide)
       obtain rfl:x93=.pointer (some ⟨gy,last * 4,none⟩):=hΦ 19 (by decide)
       simp only [putsL,zq,zj,zz,List.zip,List.zipWith,Act.put,qk,qu,qy]
       clear hΦ hl
       have hs6:=HS5.out.new hN
       obtain ⟨cs6,v6,gy6,cap6,cur6,z6,hc6,hu6,ho6,hv6,_,_,_,hblk6,_,hfit6,hset6⟩:=hs6.fold HGq.out HYl'.out
       obtain rfl:v6=.slice (some ⟨gy,0,none⟩) (last+1) capy:=by rw [HU5.out] at hu6;exact (Option.some.inj hu6).symm
       simp only [Value.slice.injEq,Option.some.injEq,Addr.mk.injEq,and_true,true_and] at hv6
       obtain ⟨rfl,_⟩:=hv6
       have hs7:=(hset6 zn).next
       have hgl7:(gs.set q ⟨y.name,y.args,st⟩).set q ⟨y'.name,y'.args.dropLast++[zn],y'.stamp⟩=grp ag (m.take (i+1)):=by
        rw [HGt.out,List.set_set]
        unfold gstep
        rw [HQ.out]
        simp only [HY.out]
        unfold gmerge
        have h8:lastV y=zy:=by rw [←pq HYz.out,HYe.out];rfl
        rw [h8,pq HXz.out,Hzn.out,HYe.out, ←Hst.out]
       rw [hgl7] at hs7
       have HS7:=qq hs7
       have hcW:Chg W6 (W6.setRow gy (layA cur6 (last * 4) (vcs zn))) (fun b=>b=gy):=(Chg.refl _ _).setRow _ _ (fun _=>rfl)
       have HT7:=qq ((HTab5.out.chg hN id).chg hcW (by omega))
       have hN17:=HN15.out.trans hN qdr
       have HN17:=qq (hN17.trans hcW (fun b hb e=>by omega))
       have HBk6:=qq hblk6
       have hszf:w5.heap.size≤(W6.setRow gy (layA cur6 (last * 4) (vcs zn))).heap.size:=by
        have h1:=HN2.out.size
        have h2:=HN3d.out.size
        have h3:=hgoW
        have h4:=(HBx5.out.chg hN id).lt
        have h5:=hcW.size
        omega
       clear hs6 hc6 hu6 ho6 hset6 hs7 hgl7 hcW hN17 hN hblk6
       refine AtN.list 20 21 (by kernel_rfl) ?_
       change wpList _ _ _ [_] _ _
       refine vf rfl (.tmp 93) (.tmp 92) 62 rfl vz gy (last * 4) 62 cur6 (vcs zn) rfl rfl HBk6.out rfl hfit6 (gc [zn] _ (by simp)) ?_
       refine AtN.done rfl ?_
       simp only [Act.put]
       go_wp2_with fail
       go_roundw
       case rel=>exact ⟨i+1,_,us,by omega,by go_num,HS7.out,HT7.out,HN17.out,hszf⟩
       case measure=>simp only [intOf];omega
      ·rw [HFi.out] at hq
       have hN3d:=hN3.trans (show New w3 w3.drew from (Chg.refl _ _).drew) qdr
       have hs3:=HS2.out.new hN3d
       have hbx3:=HB2.out.chg hN3d id
       have hcx1:=hbx3.cell 1
       simp only [qx,qj,qw] at hcx1
       have hN15:=(HNw.out.trans HN2.out qdr).trans hN3d qdr
       have hatx5:=((HAtx.out.chg HN2.out id).chg hN3d id)
       change At _ _ [.int .i64 zx.k,.int .i64 zx.i,.string zx.t,.slice none 0 0] at hatx5
       have htab5:=((HTw.out.chg HN2.out id).chg hN3d id)
       obtain ⟨zn,hzn⟩:=qdp (foldV ag zeroV zx true)
       have hfold:=HFa.out
       obtain ⟨gf',lbf',hfe,egf,hcall⟩:=hfold
       simp only [Value.func.injEq,Fn.func.injEq,true_and] at hfe
       obtain ⟨rfl,rfl⟩:=hfe
       have HCall:=qq (fun W hW=>hcall W hW zeroV zx true (fun _ h=>by cases h))
       have HN15:=qq hN15
       have HS5:=qq hs3
       have HTab5:=qq htab5
       have HBx5:=qq hbx3
       have HAx5:=qq hatx5
       have Hcx1:=qq hcx1
       have Hzn:=qq hzn
       have HQ:=qq hq
       have hsz3:=HN2.out.size
       have hsz4:=hN3d.size
       unfold Enters at egf
       clear hN15 hs3 htab5 hbx3 hatx5 hcx1 hzn hcall hq hN3 hN3d HIdx HHat HSl
       go_upto_region 21 with fail
       refine vj (by kernel_rfl) ?_
       generalize w3.drew=wd4 at HN15 HS5 HTab5 HBx5 HAx5 Hcx1 hsz4⊢
       have z0:(0:Int)≤(last:Int):=by omega
       have z1:(last:Int) < ((last+1:Nat):Int):=by omega
       have z2:(last:Int) < (last:Int)+1:=by omega
       have z3:last < last+1:=by omega
       refine AtN.segN2 0 12 [94,95,96,97,98,99,100,101,102,103,104,105] (fun
        |0=>fun v _=>v=.pointer (some ⟨wr.heap.size,1,none⟩)
        |1=>fun v _=>v=.slice (some ⟨gx,0,none⟩) (last+1) capx
        |2=>fun v _=>v=.int .i64 last
        |3=>fun v _=>v=.func (.func gf) #[] lbf
        |4=>fun v _=>v=.agg #[.int .i64 0,.int .i64 0,.string ⟨#[]⟩,.slice none 0 0]
        |5=>fun v _=>v=.pointer (some ⟨wr.heap.size,1,none⟩)
        |6=>fun v _=>v=.slice (some ⟨gx,0,none⟩) (last+1) capx
        |7=>fun v _=>v=.int .i64 last
        |8=>fun v _=>v=.pointer (some ⟨gx,last * 4,none⟩)
        |9=>fun v _=>v=.agg #[.int .i64 zx.k,.int .i64 zx.i,.string zx.t,.slice none 0 0]
        |10=>fun v _=>v=.agg #[.int .i64 zn.k,.int .i64 zn.i,.string zn.t,.slice none 0 0]
        |11=>fun v _=>v=.pointer (some ⟨gx,last * 4,none⟩)
        |_=>fun _ _=>True) (by kernel_rfl) (by kernel_rfl) (by kernel_rfl) (by kernel_rfl) (fun j v w1 w2 hc h=>?_) (fun i hn hi o ho A0 W hN hin hk=>?_) (fun l W6 hN hl hΦ=>?_)
       ·match j with
        |0|1|2|3|4|5|6|7|8|9|10|11=>exact h
        |_+12=>trivial
       ·rcases (show i=0∨i=1∨i=2∨i=3∨i=4∨i=5∨i=6∨i=7∨i=8∨i=9∨i=10∨i=11 by omega) with rfl|rfl|rfl|rfl|rfl|rfl|rfl|rfl|rfl|rfl|rfl|rfl<;>cases ho
        ·have h13:A0.tmps[13]?.getD undef=.pointer (some ⟨wr.heap.size,0,none⟩):=hk 13
         exact .same (by simp [go_sem,h13]) rfl
        ·have h94:A0.tmps[94]?.getD undef=.pointer (some ⟨wr.heap.size,1,none⟩):=hin 0 94
         have hcc:=hN.cellS Hcx1.out id
         exact .same (v:=.slice (some ⟨gx,0,none⟩) (last+1) capx) (by simp [go_sem,h94,hcc]) rfl
        ·exact .same (uo 14 _ rfl (hk 14)) rfl
        ·exact .same (uo 7 _ rfl (hk 7)) rfl
        ·exact .same (by simp [go_sem,]) rfl
        ·have h13:A0.tmps[13]?.getD undef=.pointer (some ⟨wr.heap.size,0,none⟩):=hk 13
         exact .same (by simp [go_sem,h13]) rfl
        ·have h99:A0.tmps[99]?.getD undef=.pointer (some ⟨wr.heap.size,1,none⟩):=hin 5 99
         have hcc:=hN.cellS Hcx1.out id
         exact .same (v:=.slice (some ⟨gx,0,none⟩) (last+1) capx) (by simp [go_sem,h99,hcc]) rfl
        ·exact .same (uo 14 _ rfl (hk 14)) rfl
        ·have h100:A0.tmps[100]?.getD undef=.slice (some ⟨gx,0,none⟩) (last+1) capx:=hin 6 100
         have h101:A0.tmps[101]?.getD undef=.int .i64 last:=hin 7 101
         exact .same (by simp [go_sem,h100,h101,z0,z1,z2,z3]) rfl
        ·have h102:A0.tmps[102]?.getD undef=.pointer (some ⟨gx,last * 4,none⟩):=hin 8 102
         exact .same (vu 102 _ rfl vz ⟨gx,last * 4,none⟩ [.int .i64 zx.k,.int .i64 zx.i,.string zx.t,.slice none 0 0] h102 rfl (HAx5.out.chg hN id)) rfl
        ·have h97:A0.tmps[97]?.getD undef=.func (.func gf) #[] lbf:=hin 3 97
         have h98:A0.tmps[98]?.getD undef=.agg #[.int .i64 0,.int .i64 0,.string ⟨#[]⟩,.slice none 0 0]:=hin 4 98
         have h103:A0.tmps[103]?.getD undef=.agg #[.int .i64 zx.k,.int .i64 zx.i,.string zx.t,.slice none 0 0]:=hin 9 103
         refine .call (f:=gf) (args:=#[vval zeroV,vval zx,.bool true]++lbf) (W':=W) ?_ ((HCall.out W (HN15.out.trans hN qdr)).mono ?_)
         ·have e98:A0.tmps[98]?.getD undef=vval zeroV:=h98
          have e103:A0.tmps[103]?.getD undef=vval zx:=h103
          clear h98 h103
          simp [go_sem,h97,e98,e103,egf]
         ·rintro e w' ⟨rfl,hc⟩
          exact ⟨_,rfl,hc,by rw [Hzn.out];rfl⟩
        ·have h95:A0.tmps[95]?.getD undef=.slice (some ⟨gx,0,none⟩) (last+1) capx:=hin 1 95
         have h96:A0.tmps[96]?.getD undef=.int .i64 last:=hin 2 96
         exact .same (by simp [go_sem,h95,h96,z0,z1,z2,z3]) rfl
       obtain ⟨x94,x95,x96,x97,x98,x99,x100,x101,x102,x103,x104,x105,rfl⟩:∃ x94 x95 x96 x97 x98 x99 x100 x101 x102 x103 x104 x105,l=[x94,x95,x96,x97,x98,x99,x100,x101,x102,x103,x104,x105]:=by
        match l,hl with
        | [x94,x95,x96,x97,x98,x99,x100,x101,x102,x103,x104,x105],_=>exact ⟨_,_,_,_,_,_,_,_,_,_,_,_,rfl⟩
       obtain rfl:x94=.pointer (some ⟨wr.heap.size,1,none⟩):=hΦ 0 (by decide)
       obtain rfl:x95=.slice (some ⟨gx,0,none⟩) (last+1) capx:=hΦ 1 (by decide)
       obtain rfl:x96=.int .i64 last:=hΦ 2 (by decide)
       obtain rfl:x97=.func (.func gf) #[] lbf:=hΦ 3 (by decide)
       obtain rfl:x98=.agg #[.int .i64 0,.int .i64 0,.string ⟨#[]⟩,.slice none 0 0]:=hΦ 4 (by decide)
       obtain rfl:x99=.pointer (some ⟨wr.heap.size,1,none⟩):=hΦ 5 (by decide)
       obtain rfl:x100=.slice (some ⟨gx,0,none⟩) (last+1) capx:=hΦ 6 (by decide)
       obtain rfl:x101=.int .i64 last:=hΦ 7 (by decide)
       obtain rfl:x102=.pointer (some ⟨gx,last * 4,none⟩):=hΦ 8 (by decide)
       obtain rfl:x103=.agg #[.int .i64 zx.k,.int .i64 zx.i,.string zx.t,.slice none 0 0]:=hΦ 9 (by decide)
       obtain rfl:x104=.agg #[.int .i64 zn.k,.int .i64 zn.i,.string zn.t,.slice none 0 0]:=hΦ 10 (by decide)
       obtain rfl:x105=.pointer (some ⟨gx,last * 4,none⟩):=hΦ 11 (by decide)
       simp only [putsL,zq,zj,zz,List.zip,List.zipWith,Act.put,qk,qu,qy]
       clear hΦ hl
       have hs6:=HS5.out.new hN
       have htk6:=hs6.take HCs.out (last:=last) (fun r hr=>by rw [HX.out] at hr;cases hr;exact HXl.out)
       obtain ⟨x6,v6,gx6,capx6,curx6,zx6,e6,hvx6,hor6,hvxe6,_,_,hxz6,hblk6,_,hfit6,htake6⟩:=htk6
       obtain rfl:x=x6:=by rw [HX.out] at e6;exact Option.some.inj e6
       have hve:v6=.slice (some ⟨gx,0,none⟩) (last+1) capx:=by rw [HVx.out] at hvx6;exact (Option.some.inj hvx6).symm
       subst hve
       simp only [Value.slice.injEq,Option.some.injEq,Addr.mk.injEq,and_true,true_and] at hvxe6
       obtain ⟨rfl,rfl⟩:=hvxe6
       obtain ⟨w7,hw7⟩:=qdq (W6.setRow gx (layA curx6 (last * 4) (vcs zn)))
       have hcW:Chg W6 w7 (fun b=>b=gx):=by rw [hw7];exact (Chg.refl _ _).setRow _ _ (fun _=>rfl)
       obtain ⟨hst7,hor7⟩:=htake6 zn
       rw [←hw7] at hst7 hor7
       have hbx7:=(HBx5.out.chg hN id).chg hcW (by omega)
       obtain ⟨w8,hw8⟩:=qdq (w7.alloc (.cells #[.string x.name,.slice (some ⟨gx,0,none⟩) (last+1) capx,.int .i64 x.stamp] 42))
       have hN8:New w7 w8:=by rw [hw8];exact (Chg.refl _ _).alloc _
       have hB8:Blk w8 w7.heap.size 42 ([.string x.name,.slice (some ⟨gx,0,none⟩) (last+1) capx,.int .i64 x.stamp]:List Value).toArray:=by rw [hw8];exact Blk.new w7 _ _
       have hst8:=hst7.new hN8
       have hbx8lt:=hbx7.lt
       have hsz8:=hN8.size
       obtain ⟨v1,W9,hrun,hown,hchg,hblk⟩:=elRow.appendS hst8.out (by omega) (some ⟨w7.heap.size,0,none⟩) 1 1 [[.string x.name,.slice (some ⟨gx,0,none⟩) (last+1) capx,.int .i64 x.stamp]] rfl (fun cs hc=>by simp only [qp,qm,or_false] at hc;subst hc;rfl) (fun cs hc u hu=>by
        simp only [qp,qm,or_false] at hc
        subst hc
        simp only [qp,qm,or_false] at hu
        rcases hu with rfl|rfl|rfl <;> rfl) (fun _=>⟨_,rfl,fun j cs hj=>by
        match j,hj with
        |0,hj=>cases hj;exact ⟨rfl,by rw [yo];exact hB8.at_⟩
        |j+1,hj=>simp at hj⟩) (by rw [Hloe.out,Hlo.out];omega) (by rw [Hloe.out,Hlo.out];unfold maxLen;omega) 31
       have hst9:=hst8.add (vo':=v1) (hor7.chg hN8 qdr) HVx.out (fun q u a b h1 h2 h3=>hs6.low q i u _ a b (qh _) h1 HVx.out h2 h3) hown hchg
       have hgl9:gs++[⟨x.name,x.args.dropLast++[zn],x.stamp⟩]=grp ag (m.take (i+1)):=by
        rw [HGt.out]
        unfold gstep
        rw [HQ.out]
        simp only []
        unfold gfirst
        rw [pq HXz.out,Hzn.out]
       rw [hgl9] at hst9
       have hvlt:∀ b,(Value.slice Ao lo co).ownBlock=some b→w5.heap.size≤b:=fun b hb=>(hst8.out.lt hb).1
       have HT9:=qq ((((HTab5.out.chg hN id).chg hcW (by omega)).chg hN8 id).chg hchg (fun h=>by have:=hvlt g h;omega))
       have HN19:=qq ((((HN15.out.trans hN qdr).trans hcW (fun b hb e=>by omega)).trans hN8 qdr).trans hchg (fun b hb h=>by have:=hvlt b h;omega))
       have hszf:w5.heap.size≤W9.heap.size:=by
        have:=hchg.size
        omega
       have HS9:=qq hst9
       have HBk6:=qq hblk6
       have Hbt7:=qq (show At w7 ⟨wr.heap.size,0,none⟩ [.string x.name,.slice (some ⟨gx,0,none⟩) (last+1) capx,.int .i64 x.stamp] from hbx7.at_)
       have Hrun:=qq hrun
       have HW7:=qq hw7
       have HW8:=qq hw8
       clear hs6 hor6 hst7 hor7 hbx7 hN8 hB8 hst8 hrun hown hchg hblk hst9 hgl9 hvlt hcW hw7 hw8 htake6 hN hblk6 e6 hvx6 hxz6
       refine AtN.list 12 13 (by kernel_rfl) ?_
       change wpList _ _ _ [_] _ _
       refine vf rfl (.tmp 105) (.tmp 104) 62 rfl vz gx (last * 4) 62 curx6 (vcs zn) rfl rfl HBk6.out rfl hfit6 (gc [zn] _ (by simp)) ?_
       refine AtN.done rfl ?_
       simp only [Act.put]
       rw [←HW7.out]
       go_wp2_with (first| ((with_reducible refine vq rfl (.tmp 13) 42 rfl vd ⟨wr.heap.size,0,none⟩ [.string x.name,.slice (some ⟨gx,0,none⟩) (last+1) capx,.int .i64 x.stamp] ?_ rfl Hbt7.out ?_);exact rfl)| (rw [←HW8.out];((with_reducible refine xu rfl (.tmp 106) (.tmp 108) 31 31 rfl ?_ ?_ Hrun.out ?_);exact rfl;exact rfl)))
       go_roundw
       case rel=>exact ⟨i+1,_,_,by omega,by go_num,HS9.out,HT9.out,HN19.out,hszf⟩
       case measure=>simp only [intOf];omega
     ·have hgm:m.take i=m:=qc (by rw [Hn2.out];omega)
      rw [hgm] at HSw
      obtain ⟨gs,hgs⟩:=qdp (grp ag m)
      have hgk:=grp_ok (ag:=ag) HMb.out i
      rw [hgm,hgs] at hgk
      rw [hgs] at HSw
      have hgl:gs.length≤100000000:=by
       have:=be ag m i
       rw [hgm,hgs] at this
       omega
      obtain ⟨Ao,co,hvo,hco,hcm⟩:=HSw.out.out.form
      have hlo:=HSw.out.len.1
      obtain ⟨lo,hloe⟩:=qdp (cso.length)
      rw [hloe] at hvo hco hlo
      subst hvo
      have hlo1000:lo≤100000000:=by omega
      have HRs:=qq (HSw.out.rows (B':=w1.heap.size) (by omega))
      have HOs:=qq (HSw.out.out.base (b:=w1.heap.size) (by omega))
      have HGs:=qq hgs
      have HGk:=qq hgk
      have Hlo:=qq hlo
      have Hloe:=qq hloe
      clear hgm hgs hgk hlo hloe HSw HTw
      go_wp2_with fail
      go_loopw [113] (fun u113 wx=>∃ (i:Nat) (cso':List (List Value)),i≤lo∧u113=.int .i64 i∧Own wx w1.heap.size 42 3 (.slice Ao lo co) cso'∧RowsOwn wx w1.heap.size cso' ((gs.take i).map (bck k)++gs.drop i)∧New w1 wx) (fun u _=>lo - (intOf u).toNat)
      case atStart=>exact ⟨0,cso,qr _,rfl,HOs.out,HRs.out,HNw.out⟩
      case round=>
       obtain ⟨i,cso',hi3,rfl,hov,hro,hN⟩:=hrel
       have HOv3:=qq hov
       have HRo3:=qq hro
       have HN3:=qq hN
       clear hov hro hN HNw
       by_cases hlt3:i < lo
       ·obtain ⟨r,hr⟩:∃ r,gs[i]? =some r:=⟨_,qz (by have:=Hlo.out;omega)⟩
        obtain ⟨hmg,hms⟩:=mix_get (f:=bck k) hr
        obtain ⟨cs,hcs⟩:∃ cs,cso'[i]? =some cs:=⟨_,qz (by rw [HRo3.out.1];exact (qv.1 hmg).1)⟩
        obtain ⟨r',v,hr',hor⟩:=HRo3.out.2 i cs hcs
        obtain rfl:r=r':=by rw [hmg] at hr';exact Option.some.inj hr'
        obtain ⟨go,cap,rest,hve,_,_,hat,_,_⟩:=HOv3.out.get hcs
        simp only [Value.slice.injEq] at hve
        obtain ⟨rfl,hl9,rfl⟩:=hve
        clear hl9
        have hcse:=hor.1
        have hrow:=hor.row
        obtain ⟨hk3,hk4,_⟩:=HGk.out r (qf hr)
        obtain ⟨Av,cv,hvf,_,_⟩:=hor.2.2.form
        rw [qd] at hvf
        obtain ⟨lr,hlr⟩:=qdp (r.args.length)
        rw [hlr] at hvf hk3 hk4
        subst hvf
        subst hcse
        have hne:r.args≠[]:=by intro e;rw [e] at hlr;simp at hlr;omega
        have hlz:r.args=r.args.dropLast++[lastV r]:=by
         have h9:=(ud hne).symm
         rw [pq h9]
         exact h9
        obtain ⟨w2,hw2⟩:=qdq (wr.alloc (.cells #[.string r.name,.slice Av lr cv,.int .i64 r.stamp] 42))
        have hN2:New wr w2:=by rw [hw2];exact (Chg.refl _ _).alloc _
        have hbt:At w2 ⟨wr.heap.size,0,none⟩ [.string r.name,.slice Av lr cv,.int .i64 r.stamp]:=(show Blk w2 wr.heap.size 42 ([.string r.name,.slice Av lr cv,.int .i64 r.stamp]:List Value).toArray by rw [hw2];exact Blk.new wr _ _).at_
        have hbk:=back_row w2 [.string r.name,.slice Av lr cv,.int .i64 r.stamp] r (hrow.chg hN2) r.args.dropLast (lastV r) hlz k (by rw [jv,hlr];omega)
        have hbk2:Calls Tryz.prog 81 #[.agg #[.string r.name,.slice Av lr cv,.int .i64 r.stamp],.int .i64 k] w2 fun e w'=>∃ v,e=.returned (.agg #[.string r.name,v,.int .i64 r.stamp])∧Own w' w2.heap.size 62 4 v ((bck k r).args.map vcs)∧New w2 w':=hbk
        have hbl:(bck k r).args.length≤1000:=by
         show (r.args.dropLast.take k++lastV r::r.args.dropLast.drop k).length≤1000
         rw [qg,zf,ql,zw,jv,hlr]
         omega
        have HBk:=qq hbk2
        have Hbt:=qq hbt
        have Hat:=qq hat
        have HN2:=qq hN2
        have HW2:=qq hw2
        have Hms:=qq hms
        have Hmg:=qq hmg
        have HCs:=qq hcs
        have q0:(0:Int)≤(i:Int):=by omega
        have q1:(i:Int) < (lo:Int):=by omega
        clear hr hmg hms hcs hr' hor hat hrow hlr hne hlz hw2 hN2 hbt hbk hbk2
        go_upto_region 27 with ((with_reducible refine vq rfl (.tmp 116) 42 rfl vd ⟨go,i * 3,none⟩ [.string r.name,.slice Av lr cv,.int .i64 r.stamp] ?_ rfl Hat.out ?_);exact rfl)
        rw [←HW2.out]
        go_wp2_with ((with_reducible refine vq rfl (.tmp 18) 42 rfl vd ⟨wr.heap.size,0,none⟩ [.string r.name,.slice Av lr cv,.int .i64 r.stamp] ?_ rfl Hbt.out ?_);exact rfl)
        refine HBk.out.mono ?_
        rintro e w3 ⟨v',rfl,hov',hN23⟩
        obtain ⟨A',c',hv',_,_⟩:=hov'.form
        obtain ⟨la',hla'⟩:=qdp ((List.map vcs (bck k r).args).length)
        rw [hla'] at hv'
        subst hv'
        have hN13:=HN2.out.trans hN23 qdr
        have hov3:=HOv3.out.chg hN13 qdr
        obtain ⟨go2,cap2,rest2,hve2,_,hblk3,_,hfit3,hset3,_⟩:=hov3.get HCs.out
        simp only [Value.slice.injEq,Option.some.injEq,Addr.mk.injEq,and_true] at hve2
        obtain ⟨rfl,hl9,hl10⟩:=hve2
        clear hl9 hl10
        have hown4:=hset3 [.string r.name,.slice A' la' c',.int .i64 r.stamp] rfl
        obtain ⟨cur3,hcur3⟩:=qdp ((cso'.flatten++rest2).toArray)
        rw [hcur3] at hown4 hblk3 hfit3
        have hcW:Chg w3 (w3.setRow go (layA cur3 (i * 3) [.string r.name,.slice A' la' c',.int .i64 r.stamp])) (fun g=>(Value.slice (some ⟨go,0,none⟩) lo co).ownBlock=some g):=(Chg.refl _ _).setRow _ _ (fun _=>rfl)
        have hor4:OwnRow w3 w1.heap.size [.string r.name,.slice A' la' c',.int .i64 r.stamp] (bck k r) (.slice A' la' c'):=⟨rfl,hbl,hov'.base (by have:=HN3.out.size;have:=HN2.out.size;omega)⟩
        have hro4:=((HRo3.out.new hN13).set (i:=i) (by have:=(qv.1 Hmg.out).1;exact this) hor4).chg hov3 (by decide) hcW
        rw [Hms.out] at hro4
        have HRo4:=qq hro4
        have HOv4:=qq hown4
        have HBk3:=qq hblk3
        have HN4:=qq ((HN3.out.trans hN13 qdr).trans hcW (fun b hb h=>by
         have h1:=(HOv3.out.lt (g:=b) h).1
         omega))
        have Hone:=qq (show ∀ u∈[Value.string r.name,.slice A' la' c',.int .i64 r.stamp],u.oneCell'=true from fun u hu=>by
         simp only [qp,qm,or_false] at hu
         rcases hu with rfl|rfl|rfl <;> rfl)
        clear hN13 hov3 hblk3 hset3 hown4 hcur3 hcW hor4 hro4 hov' hN23 hla'
        go_wp2_with ((with_reducible refine vf rfl (.tmp 123) (.tmp 122) 42 rfl vd go (i * 3) 42 cur3 [.string r.name,.slice A' la' c',.int .i64 r.stamp] ?_ ?_ HBk3.out rfl hfit3 Hone.out ?_);exact rfl;exact rfl)
        go_roundw
        case rel=>exact ⟨i+1,_,by omega,by go_num,HOv4.out,HRo4.out,HN4.out⟩
        case measure=>simp only [intOf];omega
       ·have hLe:(gs.take i).map (bck k)++gs.drop i=gs.map (bck k):=by
         have h1:gs.length≤i:=by have:=Hlo.out;omega
         rw [qc h1,jo h1,jr]
        rw [hLe] at HRo3
        have HMl:=qq (db wr _ _ (HOv3.out.rowSl HRo3.out.cs (by rw [qd];exact hgl)))
        clear hLe
        go_wp2_with fail
        refine HMl.out.mono ?_
        rintro e w6 ⟨v',res,rfl,hres,hrsl,hN6⟩
        have HRes:=qq (show IsMerge ((grp ag m).map (bck k)) res by rw [HGs.out];exact hres)
        have HRsl:=qq hrsl
        have HN6:=qq ((HN1.out.trans HN3.out qdr).trans hN6 qdr)
        clear hres hrsl hN6
        go_wp2_with fail
        go_ret
        exact ⟨_,m,res,rfl,HMm.out,HRes.out,HRsl.out,HN6.out⟩
end Go.Proofs.YtbpgfnbhihklnaaGreat
