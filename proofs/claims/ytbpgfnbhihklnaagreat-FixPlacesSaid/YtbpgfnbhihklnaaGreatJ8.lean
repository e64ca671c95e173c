/- Part 8 of what stands beneath. -/
import Derived.Test.YtbpgfnbhihklnaaGreatJ7
set_option maxHeartbeats 8000000
set_option maxRecDepth 100000
set_option linter.all false
namespace Go.Proofs.YtbpgfnbhihklnaaGreat
open Go.RowKit Go.Shelf
def zTuple:∃ i z,Tryz.prog.info? 60=some i∧i.zero=some z∧z.cells.size=2:=dq (z:=.agg #[.string ⟨#[]⟩,.slice none 0 0]) (by kernel_rfl) rfl
def zDecl:∃ i z,Tryz.prog.info? 106=some i∧i.zero=some z∧z.cells.size=2:=dq (z:=.agg #[.string ⟨#[]⟩,.int .i64 0]) (by kernel_rfl) rfl
def ae:∃ i z,Tryz.prog.info? 47=some i∧i.zero=some z∧z.cells.size=6:=dq (z:=.agg #[.string ⟨#[]⟩,.string ⟨#[]⟩,.slice none 0 0,.string ⟨#[]⟩,.int .i64 0,.slice none 0 0]) (by kernel_rfl) rfl
def qci (w:World) (A:Option Addr) (n c:Nat) (css:List (List Value)) (hn:n=css.length) (hm:n≤1000000) (hA:SrcAt w A 2 css) (g:Nat) (lb:Array Value) (eg:Enters Tryz.prog g) (hp:∀ cs∈css,Says Tryz.prog w (fun _=>False) g lb #[.agg cs.toArray] (.bool false)):
  Calls Tryz.prog 160 #[.slice A n c,.func (.func g) #[] lb] w fun e w'=>e=.returned (.int .i64 (-1))∧New w w':=by
 unfold Enters at eg
 have HN:=qq hn
 have Hp:=qq hp
 have HA:=qq hA
 clear hn hp hA
 go_enter Tryz.func160,Tryz.ntmps160
 go_wp2
 go_loopw [5,8] (fun _ i wr=>∃ k:Nat,k≤n∧i=.int .i64 k∧New w wr) (fun _ i _=>n - (intOf i).toNat)
 case atStart=>exact ⟨0,qr _,rfl,Chg.refl w _⟩
 case round=>
  obtain ⟨k,hk,rfl,hc⟩:=hrel
  have Hc:=qq hc
  clear hc
  by_cases hlt:k < n
  ·obtain ⟨ad,rfl,hrw⟩:=HA.out (by rw [←HN.out];omega)
   obtain ⟨cs,hcs⟩:∃ cs,css[k]? =some cs:=⟨_,qz (by rw [←HN.out];exact hlt)⟩
   have Hat:=qq ((hrw k cs hcs).2.chg Hc.out id)
   have Hl:=qq (hrw k cs hcs).1
   have Hs:=qq (Hp.out cs (qf hcs) wr (Hc.out.mono fun _ _ x=>x.elim))
   clear hrw hcs
   go_wp2_with ((with_reducible refine vq rfl (.tmp 14) 60 rfl cc (ad.add (k * 2)) cs ?_ Hl.out Hat.out ?_);exact rfl)
   refine Hs.out.mono ?_
   rintro e w2 ⟨rfl,hc2⟩
   have Hc2:=qq (Hc.out.trans hc2 qdr)
   clear hc2
   go_wp2_with fail
   go_roundw
   case rel=>exact ⟨k+1,by omega,by go_num,Hc2.out⟩
   case measure=>simp [intOf];omega
  ·go_wp2_with fail
   go_ret
   exact ⟨rfl,Hc.out⟩
def conTuple (w:World) (A:Option Addr) (n c:Nat) (css:List (List Value)) (hn:n=css.length) (hm:n≤1000000) (hA:SrcAt w A 2 css) (g:Nat) (lb:Array Value) (eg:Enters Tryz.prog g) (hp:∀ cs∈css,Says Tryz.prog w (fun _=>False) g lb #[.agg cs.toArray] (.bool false)):
  Calls Tryz.prog 131 #[.slice A n c,.func (.func g) #[] lb] w fun e w'=>e=.returned (.bool false)∧New w w':=by
 have Hi:=qq (qci w A n c css hn hm hA g lb eg hp)
 clear hn hA hp eg
 go_enter Tryz.func131,Tryz.ntmps131
 go_wp2_with (go_at_call 160;refine Hi.out.mono ?_;rintro e w2 ⟨rfl,hc2⟩;have Hc2:=qq hc2;clear hc2)
 go_ret
 exact ⟨rfl,Hc2.out⟩
def allTuple (w:World) (A:Option Addr) (n c:Nat) (css:List (List Value)) (hn:n=css.length) (hm:n≤1000000) (hA:SrcAt w A 2 css) (g:Nat) (lb:Array Value) (eg:Enters Tryz.prog g) (hp:∀ cs∈css,Says Tryz.prog w (fun _=>False) g lb #[.agg cs.toArray] (.bool true)):
  Calls Tryz.prog 99 #[.slice A n c,.func (.func g) #[] lb] w fun e w'=>e=.returned (.bool true)∧New w w':=by
 unfold Enters at eg
 have key:∀ W b,New w W→Blk W b 148 #[.func (.func g) #[] lb]→∀ cs∈css,cs.length=2→Calls Tryz.prog 132 (#[.agg cs.toArray]++#[.pointer (some ⟨b,0,none⟩)]) W fun e W'=>e=.returned (.bool false)∧New W W':=by
  intro W b hW hb cs hcs hl
  have Hl:=qq hl
  have Hb:=qq hb
  have Hs:=qq (fun W2 (h:New W W2)=>hp cs hcs W2 (hW.trans h qdr))
  have e0:=(hb.alloc (.cells cs.toArray 60)).cell 0
  simp only [qx,qj] at e0
  have Hb2:=qq (Blk.new W 60 cs.toArray)
  have Hc2:=qq (show New W (W.alloc (.cells cs.toArray 60)) from (Chg.refl _ _).alloc _)
  clear hp hA hcs hl hb
  go_enter Tryz.func132,Tryz.ntmps132
  go_wp2_with ((with_reducible refine vq rfl (.tmp 2) 60 rfl cc ⟨W.heap.size,0,none⟩ cs ?_ Hl.out Hb2.out.at_ ?_);exact rfl)
  refine (Hs.out _ Hc2.out).mono ?_
  rintro e w3 ⟨rfl,hc3⟩
  have Hc3:=qq (Hc2.out.trans hc3 qdr)
  clear hc3
  go_wp2_with fail
  go_ret
  exact ⟨rfl,Hc3.out⟩
 have Key:=qq key
 have HA:=qq hA
 have HN:=qq hn
 have HL:∀ cs∈css,cs.length=2:=fun cs hcs=>by
  obtain ⟨i,hi⟩:=jz hcs
  obtain ⟨a,ha,hr⟩:=hA (yl hcs)
  exact (hr i cs hi).1
 have eg2:=enters_of Tryz.func132 (by kernel_rfl) rfl
 have hcon:=fun W b (hW:New w W) (hb:Blk W b 148 #[.func (.func g) #[] lb])=>conTuple W A n c css HN.out hm (HA.out.chg hW (fun _ _=>id)) 132 #[.pointer (some ⟨b,0,none⟩)] eg2 (fun cs hcs W2 h2=>Key.out W2 b (hW.trans h2 qdr) (hb.chg h2 id) cs hcs (HL cs hcs))
 have Hcon:=qq hcon
 clear hcon hp hA hn key HL
 go_enter Tryz.func99,Tryz.ntmps99
 go_wp2_with (go_at_call 131;refine (Hcon.out _ w.heap.size ((Chg.refl w _).alloc _) (Blk.new w _ _)).mono ?_;rintro e w2 ⟨rfl,hc2⟩;have Hc2:=qq (((Chg.refl w _).alloc _).trans hc2 qdr);clear hc2)
 go_ret
 exact ⟨rfl,Hc2.out⟩
def idxNRule (w:World) (A:Option Addr) (n c:Nat) (css:List (List Value)) (hn:n=css.length) (hm:n≤1000000) (hA:SrcAt w A 6 css) (g:Nat) (lb:Array Value) (eg:Enters Tryz.prog g) (hp:∀ cs∈css,Says Tryz.prog w (fun _=>False) g lb #[.agg cs.toArray] (.bool false)):
  Calls Tryz.prog 164 #[.slice A n c,.func (.func g) #[] lb] w fun e w'=>e=.returned (.int .i64 (-1))∧New w w':=by
 unfold Enters at eg
 have HN:=qq hn
 have Hp:=qq hp
 have HA:=qq hA
 clear hn hp hA
 go_enter Tryz.func164,Tryz.ntmps164
 go_wp2
 go_loopw [5,8] (fun _ i wr=>∃ k:Nat,k≤n∧i=.int .i64 k∧New w wr) (fun _ i _=>n - (intOf i).toNat)
 case atStart=>exact ⟨0,qr _,rfl,Chg.refl w _⟩
 case round=>
  obtain ⟨k,hk,rfl,hc⟩:=hrel
  have Hc:=qq hc
  clear hc
  by_cases hlt:k < n
  ·obtain ⟨ad,rfl,hrw⟩:=HA.out (by rw [←HN.out];omega)
   obtain ⟨cs,hcs⟩:∃ cs,css[k]? =some cs:=⟨_,qz (by rw [←HN.out];exact hlt)⟩
   have Hat:=qq ((hrw k cs hcs).2.chg Hc.out id)
   have Hl:=qq (hrw k cs hcs).1
   have Hs:=qq (Hp.out cs (qf hcs) wr (Hc.out.mono fun _ _ x=>x.elim))
   clear hrw hcs
   go_wp2_with ((with_reducible refine vq rfl (.tmp 14) 47 rfl xt (ad.add (k * 6)) cs ?_ Hl.out Hat.out ?_);exact rfl)
   refine Hs.out.mono ?_
   rintro e w2 ⟨rfl,hc2⟩
   have Hc2:=qq (Hc.out.trans hc2 qdr)
   clear hc2
   go_wp2_with fail
   go_roundw
   case rel=>exact ⟨k+1,by omega,by go_num,Hc2.out⟩
   case measure=>simp [intOf];omega
  ·go_wp2_with fail
   go_ret
   exact ⟨rfl,Hc.out⟩
def conRule (w:World) (A:Option Addr) (n c:Nat) (css:List (List Value)) (hn:n=css.length) (hm:n≤1000000) (hA:SrcAt w A 6 css) (g:Nat) (lb:Array Value) (eg:Enters Tryz.prog g) (hp:∀ cs∈css,Says Tryz.prog w (fun _=>False) g lb #[.agg cs.toArray] (.bool false)):
  Calls Tryz.prog 135 #[.slice A n c,.func (.func g) #[] lb] w fun e w'=>e=.returned (.bool false)∧New w w':=by
 have Hi:=qq (idxNRule w A n c css hn hm hA g lb eg hp)
 clear hn hA hp eg
 go_enter Tryz.func135,Tryz.ntmps135
 go_wp2_with (go_at_call 164;refine Hi.out.mono ?_;rintro e w2 ⟨rfl,hc2⟩;have Hc2:=qq hc2;clear hc2)
 go_ret
 exact ⟨rfl,Hc2.out⟩
def allRule (w:World) (A:Option Addr) (n c:Nat) (css:List (List Value)) (hn:n=css.length) (hm:n≤1000000) (hA:SrcAt w A 6 css) (g:Nat) (lb:Array Value) (eg:Enters Tryz.prog g) (hp:∀ cs∈css,Says Tryz.prog w (fun _=>False) g lb #[.agg cs.toArray] (.bool true)):
  Calls Tryz.prog 101 #[.slice A n c,.func (.func g) #[] lb] w fun e w'=>e=.returned (.bool true)∧New w w':=by
 unfold Enters at eg
 have key:∀ W b,New w W→Blk W b 150 #[.func (.func g) #[] lb]→∀ cs∈css,cs.length=6→Calls Tryz.prog 136 (#[.agg cs.toArray]++#[.pointer (some ⟨b,0,none⟩)]) W fun e W'=>e=.returned (.bool false)∧New W W':=by
  intro W b hW hb cs hcs hl
  have Hl:=qq hl
  have Hb:=qq hb
  have Hs:=qq (fun W2 (h:New W W2)=>hp cs hcs W2 (hW.trans h qdr))
  have e0:=(hb.alloc (.cells cs.toArray 47)).cell 0
  simp only [qx,qj] at e0
  have Hb2:=qq (Blk.new W 47 cs.toArray)
  have Hc2:=qq (show New W (W.alloc (.cells cs.toArray 47)) from (Chg.refl _ _).alloc _)
  clear hp hA hcs hl hb
  go_enter Tryz.func136,Tryz.ntmps136
  go_wp2_with ((with_reducible refine vq rfl (.tmp 2) 47 rfl xt ⟨W.heap.size,0,none⟩ cs ?_ Hl.out Hb2.out.at_ ?_);exact rfl)
  refine (Hs.out _ Hc2.out).mono ?_
  rintro e w3 ⟨rfl,hc3⟩
  have Hc3:=qq (Hc2.out.trans hc3 qdr)
  clear hc3
  go_wp2_with fail
  go_ret
  exact ⟨rfl,Hc3.out⟩
 have Key:=qq key
 have HA:=qq hA
 have HN:=qq hn
 have HL:∀ cs∈css,cs.length=6:=fun cs hcs=>by
  obtain ⟨i,hi⟩:=jz hcs
  obtain ⟨a,ha,hr⟩:=hA (yl hcs)
  exact (hr i cs hi).1
 have eg2:=enters_of Tryz.func136 (by kernel_rfl) rfl
 have hcon:=fun W b (hW:New w W) (hb:Blk W b 150 #[.func (.func g) #[] lb])=>conRule W A n c css HN.out hm (HA.out.chg hW (fun _ _=>id)) 136 #[.pointer (some ⟨b,0,none⟩)] eg2 (fun cs hcs W2 h2=>Key.out W2 b (hW.trans h2 qdr) (hb.chg h2 id) cs hcs (HL cs hcs))
 have Hcon:=qq hcon
 clear hcon hp hA hn key HL
 go_enter Tryz.func101,Tryz.ntmps101
 go_wp2_with (go_at_call 135;refine (Hcon.out _ w.heap.size ((Chg.refl w _).alloc _) (Blk.new w _ _)).mono ?_;rintro e w2 ⟨rfl,hc2⟩;have Hc2:=qq (((Chg.refl w _).alloc _).trans hc2 qdr);clear hc2)
 go_ret
 exact ⟨rfl,Hc2.out⟩
def idxNDecl (w:World) (A:Option Addr) (n c:Nat) (css:List (List Value)) (hn:n=css.length) (hm:n≤1000000) (hA:SrcAt w A 2 css) (g:Nat) (lb:Array Value) (eg:Enters Tryz.prog g) (hp:∀ cs∈css,Says Tryz.prog w (fun _=>False) g lb #[.agg cs.toArray] (.bool false)):
  Calls Tryz.prog 106 #[.slice A n c,.func (.func g) #[] lb] w fun e w'=>e=.returned (.int .i64 (-1))∧New w w':=by
 unfold Enters at eg
 have HN:=qq hn
 have Hp:=qq hp
 have HA:=qq hA
 clear hn hp hA
 go_enter Tryz.func106,Tryz.ntmps106
 go_wp2
 go_loopw [5,8] (fun _ i wr=>∃ k:Nat,k≤n∧i=.int .i64 k∧New w wr) (fun _ i _=>n - (intOf i).toNat)
 case atStart=>exact ⟨0,qr _,rfl,Chg.refl w _⟩
 case round=>
  obtain ⟨k,hk,rfl,hc⟩:=hrel
  have Hc:=qq hc
  clear hc
  by_cases hlt:k < n
  ·obtain ⟨ad,rfl,hrw⟩:=HA.out (by rw [←HN.out];omega)
   obtain ⟨cs,hcs⟩:∃ cs,css[k]? =some cs:=⟨_,qz (by rw [←HN.out];exact hlt)⟩
   have Hat:=qq ((hrw k cs hcs).2.chg Hc.out id)
   have Hl:=qq (hrw k cs hcs).1
   have Hs:=qq (Hp.out cs (qf hcs) wr (Hc.out.mono fun _ _ x=>x.elim))
   clear hrw hcs
   go_wp2_with ((with_reducible refine vq rfl (.tmp 14) 106 rfl pj (ad.add (k * 2)) cs ?_ Hl.out Hat.out ?_);exact rfl)
   refine Hs.out.mono ?_
   rintro e w2 ⟨rfl,hc2⟩
   have Hc2:=qq (Hc.out.trans hc2 qdr)
   clear hc2
   go_wp2_with fail
   go_roundw
   case rel=>exact ⟨k+1,by omega,by go_num,Hc2.out⟩
   case measure=>simp [intOf];omega
  ·go_wp2_with fail
   go_ret
   exact ⟨rfl,Hc.out⟩
def conDecl (w:World) (A:Option Addr) (n c:Nat) (css:List (List Value)) (hn:n=css.length) (hm:n≤1000000) (hA:SrcAt w A 2 css) (g:Nat) (lb:Array Value) (eg:Enters Tryz.prog g) (hp:∀ cs∈css,Says Tryz.prog w (fun _=>False) g lb #[.agg cs.toArray] (.bool false)):
  Calls Tryz.prog 140 #[.slice A n c,.func (.func g) #[] lb] w fun e w'=>e=.returned (.bool false)∧New w w':=by
 have Hi:=qq (idxNDecl w A n c css hn hm hA g lb eg hp)
 clear hn hA hp eg
 go_enter Tryz.func140,Tryz.ntmps140
 go_wp2_with (go_at_call 106;refine Hi.out.mono ?_;rintro e w2 ⟨rfl,hc2⟩;have Hc2:=qq hc2;clear hc2)
 go_ret
 exact ⟨rfl,Hc2.out⟩
def allDecl (w:World) (A:Option Addr) (n c:Nat) (css:List (List Value)) (hn:n=css.length) (hm:n≤1000000) (hA:SrcAt w A 2 css) (g:Nat) (lb:Array Value) (eg:Enters Tryz.prog g) (hp:∀ cs∈css,Says Tryz.prog w (fun _=>False) g lb #[.agg cs.toArray] (.bool true)):
  Calls Tryz.prog 103 #[.slice A n c,.func (.func g) #[] lb] w fun e w'=>e=.returned (.bool true)∧New w w':=by
 unfold Enters at eg
 have key:∀ W b,New w W→Blk W b 153 #[.func (.func g) #[] lb]→∀ cs∈css,cs.length=2→Calls Tryz.prog 141 (#[.agg cs.toArray]++#[.pointer (some ⟨b,0,none⟩)]) W fun e W'=>e=.returned (.bool false)∧New W W':=by
  intro W b hW hb cs hcs hl
  have Hl:=qq hl
  have Hb:=qq hb
  have Hs:=qq (fun W2 (h:New W W2)=>hp cs hcs W2 (hW.trans h qdr))
  have e0:=(hb.alloc (.cells cs.toArray 106)).cell 0
  simp only [qx,qj] at e0
  have Hb2:=qq (Blk.new W 106 cs.toArray)
  have Hc2:=qq (show New W (W.alloc (.cells cs.toArray 106)) from (Chg.refl _ _).alloc _)
  clear hp hA hcs hl hb
  go_enter Tryz.func141,Tryz.ntmps141
  go_wp2_with ((with_reducible refine vq rfl (.tmp 2) 106 rfl pj ⟨W.heap.size,0,none⟩ cs ?_ Hl.out Hb2.out.at_ ?_);exact rfl)
  refine (Hs.out _ Hc2.out).mono ?_
  rintro e w3 ⟨rfl,hc3⟩
  have Hc3:=qq (Hc2.out.trans hc3 qdr)
  clear hc3
  go_wp2_with fail
  go_ret
  exact ⟨rfl,Hc3.out⟩
 have Key:=qq key
 have HA:=qq hA
 have HN:=qq hn
 have HL:∀ cs∈css,cs.length=2:=fun cs hcs=>by
  obtain ⟨i,hi⟩:=jz hcs
  obtain ⟨a,ha,hr⟩:=hA (yl hcs)
  exact (hr i cs hi).1
 have eg2:=enters_of Tryz.func141 (by kernel_rfl) rfl
 have hcon:=fun W b (hW:New w W) (hb:Blk W b 153 #[.func (.func g) #[] lb])=>conDecl W A n c css HN.out hm (HA.out.chg hW (fun _ _=>id)) 141 #[.pointer (some ⟨b,0,none⟩)] eg2 (fun cs hcs W2 h2=>Key.out W2 b (hW.trans h2 qdr) (hb.chg h2 id) cs hcs (HL cs hcs))
 have Hcon:=qq hcon
 clear hcon hp hA hn key HL
 go_enter Tryz.func103,Tryz.ntmps103
 go_wp2_with (go_at_call 140;refine (Hcon.out _ w.heap.size ((Chg.refl w _).alloc _) (Blk.new w _ _)).mono ?_;rintro e w2 ⟨rfl,hc2⟩;have Hc2:=qq (((Chg.refl w _).alloc _).trans hc2 qdr);clear hc2)
 go_ret
 exact ⟨rfl,Hc2.out⟩
def qcq (w:World) (A:Option Addr) (n c:Nat) (css:List (List Value)) (hn:n=css.length) (hm:n≤1000000) (hA:SrcAt w A 4 css) (g:Nat) (lb:Array Value) (eg:Enters Tryz.prog g) (hp:∀ cs∈css,Says Tryz.prog w (fun _=>False) g lb #[.agg cs.toArray] (.bool false)):
  Calls Tryz.prog 186 #[.slice A n c,.func (.func g) #[] lb] w fun e w'=>e=.returned (.int .i64 (-1))∧New w w':=by
 unfold Enters at eg
 have HN:=qq hn
 have Hp:=qq hp
 have HA:=qq hA
 clear hn hp hA
 go_enter Tryz.func186,Tryz.ntmps186
 go_wp2
 go_loopw [5,8] (fun _ i wr=>∃ k:Nat,k≤n∧i=.int .i64 k∧New w wr) (fun _ i _=>n - (intOf i).toNat)
 case atStart=>exact ⟨0,qr _,rfl,Chg.refl w _⟩
 case round=>
  obtain ⟨k,hk,rfl,hc⟩:=hrel
  have Hc:=qq hc
  clear hc
  by_cases hlt:k < n
  ·obtain ⟨ad,rfl,hrw⟩:=HA.out (by rw [←HN.out];omega)
   obtain ⟨cs,hcs⟩:∃ cs,css[k]? =some cs:=⟨_,qz (by rw [←HN.out];exact hlt)⟩
   have Hat:=qq ((hrw k cs hcs).2.chg Hc.out id)
   have Hl:=qq (hrw k cs hcs).1
   have Hs:=qq (Hp.out cs (qf hcs) wr (Hc.out.mono fun _ _ x=>x.elim))
   clear hrw hcs
   go_wp2_with ((with_reducible refine vq rfl (.tmp 14) 62 rfl vz (ad.add (k * 4)) cs ?_ Hl.out Hat.out ?_);exact rfl)
   refine Hs.out.mono ?_
   rintro e w2 ⟨rfl,hc2⟩
   have Hc2:=qq (Hc.out.trans hc2 qdr)
   clear hc2
   go_wp2_with fail
   go_roundw
   case rel=>exact ⟨k+1,by omega,by go_num,Hc2.out⟩
   case measure=>simp [intOf];omega
  ·go_wp2_with fail
   go_ret
   exact ⟨rfl,Hc.out⟩
def conValue (w:World) (A:Option Addr) (n c:Nat) (css:List (List Value)) (hn:n=css.length) (hm:n≤1000000) (hA:SrcAt w A 4 css) (g:Nat) (lb:Array Value) (eg:Enters Tryz.prog g) (hp:∀ cs∈css,Says Tryz.prog w (fun _=>False) g lb #[.agg cs.toArray] (.bool false)):
  Calls Tryz.prog 161 #[.slice A n c,.func (.func g) #[] lb] w fun e w'=>e=.returned (.bool false)∧New w w':=by
 have Hi:=qq (qcq w A n c css hn hm hA g lb eg hp)
 clear hn hA hp eg
 go_enter Tryz.func161,Tryz.ntmps161
 go_wp2_with (go_at_call 186;refine Hi.out.mono ?_;rintro e w2 ⟨rfl,hc2⟩;have Hc2:=qq hc2;clear hc2)
 go_ret
 exact ⟨rfl,Hc2.out⟩
def allValue (w:World) (A:Option Addr) (n c:Nat) (css:List (List Value)) (hn:n=css.length) (hm:n≤1000000) (hA:SrcAt w A 4 css) (g:Nat) (lb:Array Value) (eg:Enters Tryz.prog g) (hp:∀ cs∈css,Says Tryz.prog w (fun _=>False) g lb #[.agg cs.toArray] (.bool true)):
  Calls Tryz.prog 133 #[.slice A n c,.func (.func g) #[] lb] w fun e w'=>e=.returned (.bool true)∧New w w':=by
 unfold Enters at eg
 have key:∀ W b,New w W→Blk W b 180 #[.func (.func g) #[] lb]→∀ cs∈css,cs.length=4→Calls Tryz.prog 162 (#[.agg cs.toArray]++#[.pointer (some ⟨b,0,none⟩)]) W fun e W'=>e=.returned (.bool false)∧New W W':=by
  intro W b hW hb cs hcs hl
  have Hl:=qq hl
  have Hb:=qq hb
  have Hs:=qq (fun W2 (h:New W W2)=>hp cs hcs W2 (hW.trans h qdr))
  have e0:=(hb.alloc (.cells cs.toArray 62)).cell 0
  simp only [qx,qj] at e0
  have Hb2:=qq (Blk.new W 62 cs.toArray)
  have Hc2:=qq (show New W (W.alloc (.cells cs.toArray 62)) from (Chg.refl _ _).alloc _)
  clear hp hA hcs hl hb
  go_enter Tryz.func162,Tryz.ntmps162
  go_wp2_with ((with_reducible refine vq rfl (.tmp 2) 62 rfl vz ⟨W.heap.size,0,none⟩ cs ?_ Hl.out Hb2.out.at_ ?_);exact rfl)
  refine (Hs.out _ Hc2.out).mono ?_
  rintro e w3 ⟨rfl,hc3⟩
  have Hc3:=qq (Hc2.out.trans hc3 qdr)
  clear hc3
  go_wp2_with fail
  go_ret
  exact ⟨rfl,Hc3.out⟩
 have Key:=qq key
 have HA:=qq hA
 have HN:=qq hn
 have HL:∀ cs∈css,cs.length=4:=fun cs hcs=>by
  obtain ⟨i,hi⟩:=jz hcs
  obtain ⟨a,ha,hr⟩:=hA (yl hcs)
  exact (hr i cs hi).1
 have eg2:=enters_of Tryz.func162 (by kernel_rfl) rfl
 have hcon:=fun W b (hW:New w W) (hb:Blk W b 180 #[.func (.func g) #[] lb])=>conValue W A n c css HN.out hm (HA.out.chg hW (fun _ _=>id)) 162 #[.pointer (some ⟨b,0,none⟩)] eg2 (fun cs hcs W2 h2=>Key.out W2 b (hW.trans h2 qdr) (hb.chg h2 id) cs hcs (HL cs hcs))
 have Hcon:=qq hcon
 clear hcon hp hA hn key HL
 go_enter Tryz.func133,Tryz.ntmps133
 go_wp2_with (go_at_call 161;refine (Hcon.out _ w.heap.size ((Chg.refl w _).alloc _) (Blk.new w _ _)).mono ?_;rintro e w2 ⟨rfl,hc2⟩;have Hc2:=qq (((Chg.refl w _).alloc _).trans hc2 qdr);clear hc2)
 go_ret
 exact ⟨rfl,Hc2.out⟩
def idxNTerm (w:World) (A:Option Addr) (n c:Nat) (css:List (List Value)) (hn:n=css.length) (hm:n≤1000000) (hA:SrcAt w A 7 css) (g:Nat) (lb:Array Value) (eg:Enters Tryz.prog g) (hp:∀ cs∈css,Says Tryz.prog w (fun _=>False) g lb #[.agg cs.toArray] (.bool false)):
  Calls Tryz.prog 210 #[.slice A n c,.func (.func g) #[] lb] w fun e w'=>e=.returned (.int .i64 (-1))∧New w w':=by
 unfold Enters at eg
 have HN:=qq hn
 have Hp:=qq hp
 have HA:=qq hA
 clear hn hp hA
 go_enter Tryz.func210,Tryz.ntmps210
 go_wp2
 go_loopw [5,8] (fun _ i wr=>∃ k:Nat,k≤n∧i=.int .i64 k∧New w wr) (fun _ i _=>n - (intOf i).toNat)
 case atStart=>exact ⟨0,qr _,rfl,Chg.refl w _⟩
 case round=>
  obtain ⟨k,hk,rfl,hc⟩:=hrel
  have Hc:=qq hc
  clear hc
  by_cases hlt:k < n
  ·obtain ⟨ad,rfl,hrw⟩:=HA.out (by rw [←HN.out];omega)
   obtain ⟨cs,hcs⟩:∃ cs,css[k]? =some cs:=⟨_,qz (by rw [←HN.out];exact hlt)⟩
   have Hat:=qq ((hrw k cs hcs).2.chg Hc.out id)
   have Hl:=qq (hrw k cs hcs).1
   have Hs:=qq (Hp.out cs (qf hcs) wr (Hc.out.mono fun _ _ x=>x.elim))
   clear hrw hcs
   go_wp2_with ((with_reducible refine vq rfl (.tmp 14) 64 rfl xy (ad.add (k * 7)) cs ?_ Hl.out Hat.out ?_);exact rfl)
   refine Hs.out.mono ?_
   rintro e w2 ⟨rfl,hc2⟩
   have Hc2:=qq (Hc.out.trans hc2 qdr)
   clear hc2
   go_wp2_with fail
   go_roundw
   case rel=>exact ⟨k+1,by omega,by go_num,Hc2.out⟩
   case measure=>simp [intOf];omega
  ·go_wp2_with fail
   go_ret
   exact ⟨rfl,Hc.out⟩
def conTerm (w:World) (A:Option Addr) (n c:Nat) (css:List (List Value)) (hn:n=css.length) (hm:n≤1000000) (hA:SrcAt w A 7 css) (g:Nat) (lb:Array Value) (eg:Enters Tryz.prog g) (hp:∀ cs∈css,Says Tryz.prog w (fun _=>False) g lb #[.agg cs.toArray] (.bool false)):
  Calls Tryz.prog 190 #[.slice A n c,.func (.func g) #[] lb] w fun e w'=>e=.returned (.bool false)∧New w w':=by
 have Hi:=qq (idxNTerm w A n c css hn hm hA g lb eg hp)
 clear hn hA hp eg
 go_enter Tryz.func190,Tryz.ntmps190
 go_wp2_with (go_at_call 210;refine Hi.out.mono ?_;rintro e w2 ⟨rfl,hc2⟩;have Hc2:=qq hc2;clear hc2)
 go_ret
 exact ⟨rfl,Hc2.out⟩
def br (w:World) (A:Option Addr) (n c:Nat) (css:List (List Value)) (hn:n=css.length) (hm:n≤1000000) (hA:SrcAt w A 7 css) (g:Nat) (lb:Array Value) (eg:Enters Tryz.prog g) (hp:∀ cs∈css,Says Tryz.prog w (fun _=>False) g lb #[.agg cs.toArray] (.bool true)):
  Calls Tryz.prog 165 #[.slice A n c,.func (.func g) #[] lb] w fun e w'=>e=.returned (.bool true)∧New w w':=by
 unfold Enters at eg
 have key:∀ W b,New w W→Blk W b 204 #[.func (.func g) #[] lb]→∀ cs∈css,cs.length=7→Calls Tryz.prog 191 (#[.agg cs.toArray]++#[.pointer (some ⟨b,0,none⟩)]) W fun e W'=>e=.returned (.bool false)∧New W W':=by
  intro W b hW hb cs hcs hl
  have Hl:=qq hl
  have Hb:=qq hb
  have Hs:=qq (fun W2 (h:New W W2)=>hp cs hcs W2 (hW.trans h qdr))
  have e0:=(hb.alloc (.cells cs.toArray 64)).cell 0
  simp only [qx,qj] at e0
  have Hb2:=qq (Blk.new W 64 cs.toArray)
  have Hc2:=qq (show New W (W.alloc (.cells cs.toArray 64)) from (Chg.refl _ _).alloc _)
  clear hp hA hcs hl hb
  go_enter Tryz.func191,Tryz.ntmps191
  go_wp2_with ((with_reducible refine vq rfl (.tmp 2) 64 rfl xy ⟨W.heap.size,0,none⟩ cs ?_ Hl.out Hb2.out.at_ ?_);exact rfl)
  refine (Hs.out _ Hc2.out).mono ?_
  rintro e w3 ⟨rfl,hc3⟩
  have Hc3:=qq (Hc2.out.trans hc3 qdr)
  clear hc3
  go_wp2_with fail
  go_ret
  exact ⟨rfl,Hc3.out⟩
 have Key:=qq key
 have HA:=qq hA
 have HN:=qq hn
 have HL:∀ cs∈css,cs.length=7:=fun cs hcs=>by
  obtain ⟨i,hi⟩:=jz hcs
  obtain ⟨a,ha,hr⟩:=hA (yl hcs)
  exact (hr i cs hi).1
 have eg2:=enters_of Tryz.func191 (by kernel_rfl) rfl
 have hcon:=fun W b (hW:New w W) (hb:Blk W b 204 #[.func (.func g) #[] lb])=>conTerm W A n c css HN.out hm (HA.out.chg hW (fun _ _=>id)) 191 #[.pointer (some ⟨b,0,none⟩)] eg2 (fun cs hcs W2 h2=>Key.out W2 b (hW.trans h2 qdr) (hb.chg h2 id) cs hcs (HL cs hcs))
 have Hcon:=qq hcon
 clear hcon hp hA hn key HL
 go_enter Tryz.func165,Tryz.ntmps165
 go_wp2_with (go_at_call 190;refine (Hcon.out _ w.heap.size ((Chg.refl w _).alloc _) (Blk.new w _ _)).mono ?_;rintro e w2 ⟨rfl,hc2⟩;have Hc2:=qq (((Chg.refl w _).alloc _).trans hc2 qdr);clear hc2)
 go_ret
 exact ⟨rfl,Hc2.out⟩
def ei (w:World) (A:Option Addr) (n c:Nat) (css:List (List Value)) (hn:n=css.length) (hm:n≤1000000) (hA:SrcAt w A 3 css) (g:Nat) (lb:Array Value) (eg:Enters Tryz.prog g) (hp:∀ cs∈css,Says Tryz.prog w (fun _=>False) g lb #[.agg cs.toArray] (.bool false)):
  Calls Tryz.prog 93 #[.slice A n c,.func (.func g) #[] lb] w fun e w'=>e=.returned (.int .i64 (-1))∧New w w':=by
 unfold Enters at eg
 have HN:=qq hn
 have Hp:=qq hp
 have HA:=qq hA
 clear hn hp hA
 go_enter Tryz.func93,Tryz.ntmps93
 go_wp2
 go_loopw [5,8] (fun _ i wr=>∃ k:Nat,k≤n∧i=.int .i64 k∧New w wr) (fun _ i _=>n - (intOf i).toNat)
 case atStart=>exact ⟨0,qr _,rfl,Chg.refl w _⟩
 case round=>
  obtain ⟨k,hk,rfl,hc⟩:=hrel
  have Hc:=qq hc
  clear hc
  by_cases hlt:k < n
  ·obtain ⟨ad,rfl,hrw⟩:=HA.out (by rw [←HN.out];omega)
   obtain ⟨cs,hcs⟩:∃ cs,css[k]? =some cs:=⟨_,qz (by rw [←HN.out];exact hlt)⟩
   have Hat:=qq ((hrw k cs hcs).2.chg Hc.out id)
   have Hl:=qq (hrw k cs hcs).1
   have Hs:=qq (Hp.out cs (qf hcs) wr (Hc.out.mono fun _ _ x=>x.elim))
   clear hrw hcs
   go_wp2_with ((with_reducible refine vq rfl (.tmp 14) 53 rfl gn (ad.add (k * 3)) cs ?_ Hl.out Hat.out ?_);exact rfl)
   refine Hs.out.mono ?_
   rintro e w2 ⟨rfl,hc2⟩
   have Hc2:=qq (Hc.out.trans hc2 qdr)
   clear hc2
   go_wp2_with fail
   go_roundw
   case rel=>exact ⟨k+1,by omega,by go_num,Hc2.out⟩
   case measure=>simp [intOf];omega
  ·go_wp2_with fail
   go_ret
   exact ⟨rfl,Hc.out⟩
def rt (w:World) (A:Option Addr) (n c:Nat) (css:List (List Value)) (hn:n=css.length) (hm:n≤1000000) (hA:SrcAt w A 3 css) (g:Nat) (lb:Array Value) (eg:Enters Tryz.prog g) (hp:∀ cs∈css,Says Tryz.prog w (fun _=>False) g lb #[.agg cs.toArray] (.bool false)):
  Calls Tryz.prog 61 #[.slice A n c,.func (.func g) #[] lb] w fun e w'=>e=.returned (.bool false)∧New w w':=by
 have Hi:=qq (ei w A n c css hn hm hA g lb eg hp)
 clear hn hA hp eg
 go_enter Tryz.func61,Tryz.ntmps61
 go_wp2_with (go_at_call 93;refine Hi.out.mono ?_;rintro e w2 ⟨rfl,hc2⟩;have Hc2:=qq hc2;clear hc2)
 go_ret
 exact ⟨rfl,Hc2.out⟩
def qar (w:World) (A:Option Addr) (n c:Nat) (css:List (List Value)) (hn:n=css.length) (hm:n≤1000000) (hA:SrcAt w A 3 css) (g:Nat) (lb:Array Value) (eg:Enters Tryz.prog g) (hp:∀ cs∈css,Says Tryz.prog w (fun _=>False) g lb #[.agg cs.toArray] (.bool true)):
  Calls Tryz.prog 138 #[.slice A n c,.func (.func g) #[] lb] w fun e w'=>e=.returned (.bool true)∧New w w':=by
 unfold Enters at eg
 have key:∀ W b,New w W→Blk W b 103 #[.func (.func g) #[] lb]→∀ cs∈css,cs.length=3→Calls Tryz.prog 167 (#[.agg cs.toArray]++#[.pointer (some ⟨b,0,none⟩)]) W fun e W'=>e=.returned (.bool false)∧New W W':=by
  intro W b hW hb cs hcs hl
  have Hl:=qq hl
  have Hb:=qq hb
  have Hs:=qq (fun W2 (h:New W W2)=>hp cs hcs W2 (hW.trans h qdr))
  have e0:=(hb.alloc (.cells cs.toArray 53)).cell 0
  simp only [qx,qj] at e0
  have Hb2:=qq (Blk.new W 53 cs.toArray)
  have Hc2:=qq (show New W (W.alloc (.cells cs.toArray 53)) from (Chg.refl _ _).alloc _)
  clear hp hA hcs hl hb
  go_enter Tryz.func167,Tryz.ntmps167
  go_wp2_with ((with_reducible refine vq rfl (.tmp 2) 53 rfl gn ⟨W.heap.size,0,none⟩ cs ?_ Hl.out Hb2.out.at_ ?_);exact rfl)
  refine (Hs.out _ Hc2.out).mono ?_
  rintro e w3 ⟨rfl,hc3⟩
  have Hc3:=qq (Hc2.out.trans hc3 qdr)
  clear hc3
  go_wp2_with fail
  go_ret
  exact ⟨rfl,Hc3.out⟩
 have Key:=qq key
 have HA:=qq hA
 have HN:=qq hn
 have HL:∀ cs∈css,cs.length=3:=fun cs hcs=>by
  obtain ⟨i,hi⟩:=jz hcs
  obtain ⟨a,ha,hr⟩:=hA (yl hcs)
  exact (hr i cs hi).1
 have eg2:=enters_of Tryz.func167 (by kernel_rfl) rfl
 have hcon:=fun W b (hW:New w W) (hb:Blk W b 103 #[.func (.func g) #[] lb])=>rt W A n c css HN.out hm (HA.out.chg hW (fun _ _=>id)) 167 #[.pointer (some ⟨b,0,none⟩)] eg2 (fun cs hcs W2 h2=>Key.out W2 b (hW.trans h2 qdr) (hb.chg h2 id) cs hcs (HL cs hcs))
 have Hcon:=qq hcon
 clear hcon hp hA hn key HL
 go_enter Tryz.func138,Tryz.ntmps138
 go_wp2_with (go_at_call 61;refine (Hcon.out _ w.heap.size ((Chg.refl w _).alloc _) (Blk.new w _ _)).mono ?_;rintro e w2 ⟨rfl,hc2⟩;have Hc2:=qq (((Chg.refl w _).alloc _).trans hc2 qdr);clear hc2)
 go_ret
 exact ⟨rfl,Hc2.out⟩
open Go.RowKit
def ee {w:World} {g cap n:Nat} {cur:Array Value} {tb:TypeId} (hg:w.heap[g]? =some (.cells cur tb (0,0))) (hcs:cur.size=cap * 4) (j:Nat) (hj:j≤n) (hnc:n≤cap) (xs:List Value) (hx:cur.toList.take (n * 4)=xs):
  ∃ A:Addr,(if cap=j then some (⟨g,0,none⟩:Addr) else some ⟨g,j * 4,none⟩)=some A∧∀ q u,(xs.drop (j * 4))[q]? =some u→w.cell? (A.add q)=some u:=by
 by_cases h:cap=j
 ·refine ⟨⟨g,0,none⟩,by simp [h],fun q u hu=>?_⟩
  have:(xs.drop (j * 4)).length=0:=by
   rw [←hx]
   simp
   omega
  rw [ze this] at hu
  simp at hu
 ·refine ⟨⟨g,j * 4,none⟩,by simp [h],fun q u hu=>?_⟩
  rw [Addr.add_lit,cell_of_row w g _ cur tb (0,0) hg]
  rw [jb, ←hx,yq] at hu
  split at hu
  ·simpa using hu
  ·simp at hu
def bb (w:World) (base:Nat) (g n cap:Nat) (xs:List Value) (hown:w.ownsRow base 62 4 (.slice (some ⟨g,0,none⟩) n cap) n xs) (h1:∀ u∈xs,u.oneCell'=true) (i j:Nat) (hij:i < j) (hj:j≤n):
  Calls Tryz.prog 120 #[.slice (some ⟨g,0,none⟩) n cap,.int .i64 i,.int .i64 j] w fun e w'=>e=.returned (.slice (some ⟨g,0,none⟩) (i+(n - j)) cap)∧
   w'.ownsRow base 62 4 (.slice (some ⟨g,0,none⟩) (i+(n - j)) cap) (i+(n - j)) (xs.take (i * 4)++xs.drop (j * 4))∧w.grownBy w' (some g):=by
 have hijb:((i:Int) == (j:Int))=false:=by simp;omega
 rcases hown.2 with ⟨h,_⟩| ⟨g',cap',cur,hv,hbg,hg,hnc,hcm,hcs,htake⟩
 ·simp at h
 ·simp only [Value.slice.injEq,Option.some.injEq,Addr.mk.injEq,and_true,true_and] at hv
  obtain ⟨rfl,rfl⟩:=hv
  have hxl:=hown.1
  have hcm':=hcm
  unfold maxLen at hcm'
  obtain ⟨A,hA,hnews⟩:=ee hg hcs j hj hnc xs htake
  obtain ⟨inf,z,hi,hz,hs,hby,hzz,hzl⟩:=fz.info
  have hrun:=fun ty=>run_append_room (P:=Tryz.prog) w.drew 40 ty 62 inf fz.und hi g i cap cur hg A (n - j) (cap - j) (xs.drop (j * 4)) (by rw [hs,zw,hxl];omega) hnews (fun u hu=>h1 u (ua hu)) (by omega) (by rw [hs,zw,hxl,hcs];omega)
  rw [hs] at hrun
  have hic:i≤cap:=by omega
  have Hrun:=qq hrun
  clear hrun hnews
  have HT:=qq htake
  have Hx:=qq hxl
  have Hc:=qq hcs
  clear htake hxl hcs hi hz hs hby hzz hzl
  go_enter Tryz.func120,Tryz.ntmps120
  go_wp2_with fail
  go_still_tail 6,(by kernel_rfl)
  change wpList _ _ _ _ _ w.drew
  refine xu rfl (.tmp 22) (.tmp 25) 40 40 rfl rfl rfl (Hrun.out _) ?_
  obtain ⟨L2,hL2⟩:=qdq ((cur.toList.take (i * 4)++xs.drop (j * 4)++cur.toList.drop (i * 4+(xs.drop (j * 4)).length)).toArray)
  rw [←hL2]
  have HL2:=qq hL2
  clear hL2
  obtain ⟨w2,hw2⟩:=qdq (w.drew.setRow g L2)
  rw [←hw2]
  have HW:=qq hw2
  clear hw2
  have hne:¬ (cap=i+(n - j)):=by omega
  have hb1:i+(n - j)≤n:=by omega
  have hL2s:L2.size=cur.size:=by
   rw [HL2.out]
   simp only [zl,qg,ql,zw,za,Hx.out,Hc.out]
   omega
  have hg2:w2.heap[g]? =some (.cells L2 62 (0,0)):=by
   rw [HW.out]
   exact setRow_heap w.drew g cur L2 62 _ hg
  obtain ⟨Z,hZ,hcl⟩:=sw fz w2 0 g ((i+(n - j)) * 4) (n - (i+(n - j))) (cap - (i+(n - j))) L2 62 hg2 (by rw [hL2s,Hc.out];omega)
  have HZ:=qq hZ
  have HLs:=qq hL2s
  clear hZ hL2s hown h1
  go_wp2_with fail
  go_ret
  refine ⟨rfl,⟨?_,Or.inr ⟨g,cap,_,rfl,hbg,setRow_heap w2 g L2 _ 62 _ hg2,by omega,hcm,?_,?_⟩⟩,?_⟩
  ·simp only [qg,ql,zw,Hx.out]
   omega
  ·simp only [zl,qg,ql,zw,za,HZ.out,HLs.out,Hc.out]
   omega
  ·have hlen:(xs.take (i * 4)++xs.drop (j * 4)).length=(i+(n - j)) * 4:=by
    simp only [qg,ql,zw,Hx.out]
    omega
   have e1:L2.toList.take ((i+(n - j)) * 4)=xs.take (i * 4)++xs.drop (j * 4):=by
    rw [HL2.out, ←hlen]
    simp only []
    rw [show cur.toList.take (i * 4)=xs.take (i * 4) from by rw [←HT.out,List.take_take];congr 1;omega]
    exact List.take_left
   simp only []
   rw [jy (by simp only [ql,za,HLs.out,Hc.out];omega),List.take_take,Nat.min_self]
   exact e1
  ·rw [HW.out]
   exact ⟨rfl,rfl,rfl,by simp,fun q _ hq=>by rw [setRow_other _ _ _ _ (fun e=>hq (by rw [e])),setRow_other _ _ _ _ (fun e=>hq (by rw [e]))];rfl⟩
def ww (w:World) (A:Option Addr) (n cap i j:Nat) (hij:j≤i) (hi:i≤j) (hj:j≤n) (hnc:n≤cap) (hcm:cap≤maxLen):
  Calls Tryz.prog 120 #[.slice A n cap,.int .i64 i,.int .i64 j] w fun e w'=>e=.returned (.slice A n cap)∧w=w':=by
 unfold maxLen at hcm
 have hb:((i:Int) == (j:Int))=true:=by simp;omega
 go_enter Tryz.func120,Tryz.ntmps120
 go_wp2_with fail
 all_goals (go_ret;exact ⟨rfl,rfl⟩)
def delValue (w:World) (base:Nat) (v:Value) (n:Nat) (xs:List Value) (hown:w.ownsRow base 62 4 v n xs) (h1:∀ u∈xs,u.oneCell'=true) (i j:Nat) (hij:i≤j) (hj:j≤n):
  Calls Tryz.prog 120 #[v,.int .i64 i,.int .i64 j] w fun e w'=>∃ v',e=.returned v'∧w'.ownsRow base 62 4 v' (n - (j - i)) (xs.take (i * 4)++xs.drop (j * 4))∧w.grownBy w' v.ownBlock∧v'.ownBlock=v.ownBlock:=by
 by_cases he:i=j
 ·subst he
  obtain ⟨A,cap,rfl,hnc,hcm⟩:∃ A cap,v=.slice A n cap∧n≤cap∧cap≤maxLen:=by
   rcases hown.2 with ⟨rfl,rfl⟩| ⟨g,cap,cur,rfl,_,_,hnc,hcm,_⟩
   ·exact ⟨none,0,rfl,qh _,qr _⟩
   ·exact ⟨_,cap,rfl,hnc,hcm⟩
  refine (ww w A n cap i i (qh _) (qh _) hj hnc hcm).mono ?_
  rintro e w' ⟨rfl,rfl⟩
  exact ⟨_,rfl,by simpa using hown,World.grownBy.refl w _,rfl⟩
 ·obtain ⟨g,cap,rfl,_⟩:=hown.form (by omega)
  refine (bb w base g n cap xs hown h1 i j (by omega) hj).mono ?_
  rintro e w' ⟨rfl,h,hg⟩
  exact ⟨_,rfl,by rw [show n - (j - i)=i+(n - j) by omega];exact h,hg,rfl⟩
def InsPostValue (w:World) (base n:Nat) (bk:Option Nat) (ys:List Value) (e:Ending) (w':World):Prop:=
 ∃ v',e=.returned v'∧w'.ownsRow base 62 4 v' (n+1) ys∧w.grownBy w' bk∧(v'.ownBlock=bk∨∃ g,v'.ownBlock=some g∧w.heap.size≤g)
def ac (w:World) (base:Nat) (v:Value) (n:Nat) (xs:List Value) (hown:w.ownsRow base 62 4 v n xs) (ad:Addr) (vc:Nat) (x:List Value) (hx:x.length=4)
  (hxc:∀ j u,x[j]? =some u→w.cell? (ad.add j)=some u) (h1x:∀ u∈x,u.oneCell'=true) (hb:(n+1) * 56≤140737488355328) (hbase:base≤w.heap.size):
  Calls Tryz.prog 123 #[v,.int .i64 n,.slice (some ad) 1 vc] w (InsPostValue w base n v.ownBlock (xs++x)):=by
 obtain ⟨A,cap,rfl,hnc,hcm⟩:∃ A cap,v=.slice A n cap∧n≤cap∧cap≤maxLen:=by
  rcases hown.2 with ⟨rfl,rfl⟩| ⟨g,cap,cur,rfl,_,_,hnc,hcm,_⟩
  ·exact ⟨none,0,rfl,qh _,qr _⟩
  ·exact ⟨_,cap,rfl,hnc,hcm⟩
 obtain ⟨v',w',hrun,hown',hgr,_,hblk⟩:=fz.append w 40 base _ n xs hown ad 1 vc x (by omega) hxc h1x (by unfold maxLen;omega) hb hbase
 obtain ⟨bk,hbk⟩:=qdq ((Value.slice A n cap).ownBlock)
 rw [←hbk] at hgr hblk⊢
 clear hbk
 have Hown:=qq hown'
 have Hgr:=qq hgr
 have Hblk:=qq hblk
 have Hrun:=qq hrun
 clear hown hown' hgr hblk hrun hxc h1x hx
 unfold maxLen at hcm
 go_enter Tryz.func123,Tryz.ntmps123
 go_wp2_with ((with_reducible refine xu rfl (.tmp 23) (.tmp 24) 40 40 rfl ?_ ?_ Hrun.out ?_);exact rfl;exact rfl)
 all_goals (go_ret;exact ⟨v',rfl,Hown.out,Hgr.out,Hblk.out.imp id fun h=>⟨_,h,qh _⟩⟩)
def wv (w:World) (base g n cap:Nat) (xs:List Value) (hown:w.ownsRow base 62 4 (.slice (some ⟨g,0,none⟩) n cap) n xs) (h1:∀ u∈xs,u.oneCell'=true) (i:Nat) (hi:i < n) (hgr:cap < n+1) (ad:Addr) (vc:Nat) (x:List Value) (hx:x.length=4)
  (hxc:∀ j u,x[j]? =some u→w.cell? (ad.add j)=some u) (h1x:∀ u∈x,u.oneCell'=true) (hb:(n+1) * 56≤140737488355328) (hbase:base≤w.heap.size):
  Calls Tryz.prog 123 #[.slice (some ⟨g,0,none⟩) n cap,.int .i64 i,.slice (some ad) 1 vc] w (InsPostValue w base n (some g) (xs.take (i * 4)++x++xs.drop (i * 4))):=by
 have hxl:=hown.1
 obtain ⟨hnc,hcm,hbg,cur,hg,hcs,htake⟩:n≤cap∧cap≤maxLen∧base≤g∧∃ cur,w.heap[g]? =some (.cells cur 62 (0,0))∧cur.size=cap * 4∧cur.toList.take (n * 4)=xs:=by
  rcases hown.2 with ⟨h,_⟩| ⟨g',cap',cur,hv,hbg,hg,hnc,hcm,hcs,htake⟩
  ·simp at h
  ·simp only [Value.slice.injEq,Option.some.injEq,Addr.mk.injEq,and_true,true_and] at hv
   obtain ⟨rfl,rfl⟩:=hv
   exact ⟨hnc,hcm,hbg,cur,hg,hcs,htake⟩
 have hcm':=hcm
 unfold maxLen at hcm'
 have hcells:∀ j u,xs[j]? =some u→w.cell? ((⟨g,0,none⟩:Addr).add j)=some u:=hown.cells rfl
 obtain ⟨C,Z,hC,hCm,hZ,hZ1,hrun⟩:=nh fz w 40 3 (by kernel_rfl) g i cap (n+1 - i) (by omega) (xs.take (i * 4)) (by rw [ql,hxl];omega)
  (fun j u hu=>hcells j u (by rw [yq] at hu;split at hu;exact hu;cases hu)) (by omega) (by rw [show i+(n+1 - i)=n+1 by omega];exact hb) (by unfold maxLen;omega)
 rw [show i+(n+1 - i)=n+1 by omega] at hC hrun
 rw [show ((n+1 - i:Nat):Int)=(n:Int)+1 - (i:Int) by omega] at hrun
 have hCi:¬ C=i:=by omega
 have hCi1:¬ C=i+1:=by omega
 have hin:((i:Int) == (n:Int))=false:=by simp;omega
 have hcapi:¬ cap=i:=by omega
 obtain ⟨N,hN⟩:=qdq (w.heap.size)
 rw [←hN] at hrun
 obtain ⟨L1,hL1⟩:=qdq ((xs.take (i * 4)++Z).toArray)
 rw [←hL1] at hrun
 obtain ⟨w1,hw1⟩:=qdq (w.drew.alloc (.cells L1 62))
 rw [←hw1] at hrun
 have hc1:New w w1:=by rw [hw1];exact ((Chg.refl w _).drew).alloc _
 have hg1:Blk w1 N 62 L1:=by rw [hw1,hN];exact Blk.new w.drew _ _
 have hL1s:L1.size=C * 4:=by rw [hL1];simp only [zl,qg,ql,hxl,hZ];omega
 have hr2:=fun ty=>da fz w1 ty N (i * 4) (n+1 - i) (C - i) ad 1 vc L1 62 x hg1 1 (by show min 1 _=1;omega) (by omega) (fun j v hv=>hc1.cellS (hxc j v hv) id) (by omega) h1x
 obtain ⟨L2,hL2⟩:=qdq ((L1.toList.take (i * 4)++x++L1.toList.drop (i * 4+x.length)).toArray)
 rw [←hL2] at hr2
 obtain ⟨w2,hw2⟩:=qdq (w1.setRow N L2)
 rw [←hw2] at hr2
 have hc2:New w w2:=by rw [hw2];exact hc1.setRow _ _ (fun h=>by omega)
 have hg2:Blk w2.drew N 62 L2:=by rw [hw2];exact hg1.set _
 have hL2s:L2.size=C * 4:=by rw [hL2];simp only [zl,qg,ql,zw,za,hL1s,hx];omega
 have hr3:=fun ty=>da fz w2.drew ty N ((i+1) * 4) (n - i) (C - (i+1)) ⟨g,i * 4,none⟩ (n - i) (cap - i) L2 62 (xs.drop (i * 4)) hg2 (n - i) (by show min _ _=_;omega) (by rw [zw,hxl];omega)
  (fun j v hv=>by
   have h0:=hcells (i * 4+j) v (by rw [←hv,jb])
   rw [Addr.add_lit,jn] at h0
   rw [Addr.add_lit]
   exact hc2.cellS h0 id) (by rw [zw,hxl,hL2s];omega) (fun u hu=>h1 u (ua hu))
 obtain ⟨L3,hL3⟩:=qdq ((L2.toList.take ((i+1) * 4)++xs.drop (i * 4)++L2.toList.drop ((i+1) * 4+(xs.drop (i * 4)).length)).toArray)
 rw [←hL3] at hr3
 obtain ⟨w3,hw3⟩:=qdq (w2.drew.setRow N L3)
 rw [←hw3] at hr3
 have hc3:New w w3:=by rw [hw3];exact (hc2.drew).setRow _ _ (fun h=>by omega)
 have hg3:Blk w3 N 62 L3:=by rw [hw3];exact hg2.set _
 have hL3s:L3.size=C * 4:=by rw [hL3];simp only [zl,qg,ql,zw,za,hL2s,hxl];omega
 have hfin:InsPostValue w base n (some g) (xs.take (i * 4)++x++xs.drop (i * 4)) (.returned (.slice (some ⟨N,0,none⟩) (n+1) C)) w3:=by
  have e1:L1.toList.take (i * 4)=xs.take (i * 4):=by
   rw [hL1]
   simp only []
   rw [jy (by rw [ql,hxl];omega),List.take_take,Nat.min_self]
  have hlt:(xs.take (i * 4)).length=i * 4:=by rw [ql,hxl];omega
  have e2:L2.toList.take ((i+1) * 4)=xs.take (i * 4)++x:=by
   rw [hL2,e1]
   simp only []
   rw [jy (by rw [qg,hlt,hx];omega)]
   exact qc (by rw [qg,hlt,hx];omega)
  refine ⟨_,rfl,⟨?_,Or.inr ⟨N,C,L3,rfl,by omega,hg3,hC,hCm,hL3s,?_⟩⟩,((hc3.mono fun k _ h=>h.elim)).to_grown,Or.inr ⟨N,rfl,by omega⟩⟩
  ·rw [qg,qg,hlt,hx,zw,hxl]
   omega
  ·rw [hL3,e2]
   simp only []
   rw [jy (by rw [qg,qg,hlt,hx,zw,hxl];omega)]
   exact qc (by rw [qg,qg,hlt,hx,zw,hxl];omega)
 have Hrun:=qq hrun
 have Hr2:=qq hr2
 have Hr3:=qq hr3
 have Hfin:=qq hfin
 clear hrun hr2 hr3 hfin hcells hxl hZ hZ1 h1 h1x hx hxc hown htake hcs hg hN hL1 hw1 hc1 hg1 hL1s hL2 hw2 hc2 hg2 hL2s hL3 hw3 hc3 hg3 hL3s
 go_enter Tryz.func123,Tryz.ntmps123
 go_wp2_with (first| ((with_reducible refine xu rfl (.tmp 34) (.tmp 39) 40 3 rfl ?_ ?_ Hrun.out ?_);exact rfl;exact rfl)| ((with_reducible refine lz rfl (.tmp 43) (.tmp 44) 40 40 rfl ?_ ?_ (Hr2.out _) ?_);exact rfl;exact rfl))
 have s1:IntKind.i64.wrap ((i:Int)+1)=(i:Int)+1:=by rw [IntKind.wrap_i64];omega
 have s2:(0:Int)≤(i:Int)+1:=by omega
 have s3:((i:Int)+1).toNat=i+1:=by omega
 have s4:(i:Int)+1≤(n:Int)+1:=by omega
 have s5:i≤n:=by omega
 go_still_tail 8,(by kernel_rfl)
 clear s1 s2 s3 s4 s5
 change wpList _ _ _ _ _ w2.drew
 refine lz rfl (.tmp 50) (.tmp 53) 40 40 rfl rfl rfl (Hr3.out _) ?_
 go_wp2_with fail
 go_ret
 exact Hfin.out
def wj (w:World) (vb g vc o n cap:Nat) (tb:TypeId) (vs cur:Array Value) (hv:Blk w vb tb vs) (hg:Blk w g 62 cur) (hne:vb≠g) (h0:cur.size≠0):
  (callFunc 153 #[.slice (some ⟨vb,0,none⟩) 1 vc,.slice (some ⟨g,o,none⟩) n cap]).run Tryz.prog w=.ok (.value (.bool false)) w:=by
 rw [run_callFunc_extern (P:=Tryz.prog) (f:=153) (fn:=Tryz.f153) (by kernel_rfl) (by kernel_rfl) (by kernel_rfl) (by kernel_rfl) (e:=Extern.SlicesOverlaps.overlaps #[40,40] #[4]) (by kernel_rfl),
  Lib.run_overlaps_apart w 40 4 62 (by kernel_rfl) 4 (fun _=>by kernel_rfl) ⟨vb,0,none⟩ ⟨g,o,none⟩ 1 vc n cap hne tb 62 vs.size cur.size (by simp [World.shape?,show w.heap[vb]? =_ from hv]) (by simp [World.shape?,show w.heap[g]? =_ from hg]) h0 (hv.frozen 0) (hv.frozen _)]
 rfl
def tm (w:World) (base g n cap:Nat) (xs:List Value) (hown:w.ownsRow base 62 4 (.slice (some ⟨g,0,none⟩) n cap) n xs) (h1:∀ u∈xs,u.oneCell'=true) (i:Nat) (hi:i < n) (hgr:n+1≤cap) (vb vc:Nat) (x:List Value) (hx:x.length=4) (tb:TypeId)
  (hv:Blk w vb tb x.toArray) (hne:vb≠g) (h1x:∀ u∈x,u.oneCell'=true):
  Calls Tryz.prog 123 #[.slice (some ⟨g,0,none⟩) n cap,.int .i64 i,.slice (some ⟨vb,0,none⟩) 1 vc] w (InsPostValue w base n (some g) (xs.take (i * 4)++x++xs.drop (i * 4))):=by
 have hxl:=hown.1
 obtain ⟨hnc,hcm,hbg,cur,hg,hcs,htake⟩:n≤cap∧cap≤maxLen∧base≤g∧∃ cur,Blk w g 62 cur∧cur.size=cap * 4∧cur.toList.take (n * 4)=xs:=by
  rcases hown.2 with ⟨h,_⟩| ⟨g',cap',cur,hv,hbg,hg,hnc,hcm,hcs,htake⟩
  ·simp at h
  ·simp only [Value.slice.injEq,Option.some.injEq,Addr.mk.injEq,and_true,true_and] at hv
   obtain ⟨rfl,rfl⟩:=hv
   exact ⟨hnc,hcm,hbg,cur,hg,hcs,htake⟩
 have hcm':=hcm
 unfold maxLen at hcm'
 have hcells:∀ j u,xs[j]? =some u→w.cell? ((⟨g,0,none⟩:Addr).add j)=some u:=hown.cells rfl
 have hin:((i:Int) == (n:Int))=false:=by simp;omega
 have hcapi:¬ cap=i:=by omega
 have hcapi1:¬ cap=i+1:=by omega
 have hov:=wj w vb g vc ((i+1) * 4) (n - i) (cap - (i+1)) tb x.toArray cur hv hg hne (by rw [hcs];omega)
 have hg0:Blk w.drew g 62 cur:=hg
 have hr2:=fun ty=>da fz w.drew ty g ((i+1) * 4) (n - i) (cap - (i+1)) ⟨g,i * 4,none⟩ (n+1 - i) (cap - i) cur 62 (xs.drop (i * 4)) hg0 (n - i) (by show min _ _=_;omega) (by rw [zw,hxl];omega)
  (fun j v hv=>by
   have h0:=hcells (i * 4+j) v (by rw [←hv,jb])
   rw [Addr.add_lit,jn] at h0
   rw [Addr.add_lit]
   exact h0) (by rw [zw,hxl,hcs];omega) (fun u hu=>h1 u (ua hu))
 obtain ⟨L2,hL2⟩:=qdq ((cur.toList.take ((i+1) * 4)++xs.drop (i * 4)++cur.toList.drop ((i+1) * 4+(xs.drop (i * 4)).length)).toArray)
 rw [←hL2] at hr2
 obtain ⟨w2,hw2⟩:=qdq (w.drew.setRow g L2)
 rw [←hw2] at hr2
 have hc2:Chg w w2 (fun k=>some k=some g):=by rw [hw2];exact ((Chg.refl w _).drew).setRow _ _ (fun _=>rfl)
 have hg2:Blk w2 g 62 L2:=by rw [hw2];exact hg0.set _
 have hL2s:L2.size=cap * 4:=by rw [hL2];simp only [zl,qg,ql,zw,za,hcs,hxl];omega
 have hv2:Blk w2 vb tb x.toArray:=hv.chg hc2 (by simpa using hne)
 have hr3:=fun ty=>da fz w2 ty g (i * 4) (n+1 - i) (cap - i) ⟨vb,0,none⟩ 1 vc L2 62 x hg2 1 (by show min 1 _=1;omega) (by omega) (fun j v hj=>by rw [Addr.add_lit,jn,hv2.cell];simpa using hj) (by omega) h1x
 obtain ⟨L3,hL3⟩:=qdq ((L2.toList.take (i * 4)++x++L2.toList.drop (i * 4+x.length)).toArray)
 rw [←hL3] at hr3
 obtain ⟨w3,hw3⟩:=qdq (w2.setRow g L3)
 rw [←hw3] at hr3
 have hc3:Chg w w3 (fun k=>some k=some g):=by rw [hw3];exact hc2.setRow _ _ (fun _=>rfl)
 have hg3:Blk w3 g 62 L3:=by rw [hw3];exact hg2.set _
 have hL3s:L3.size=cap * 4:=by rw [hL3];simp only [zl,qg,ql,zw,za,hL2s,hx];omega
 have hfin:InsPostValue w base n (some g) (xs.take (i * 4)++x++xs.drop (i * 4)) (.returned (.slice (some ⟨g,0,none⟩) (n+1) cap)) w3:=by
  have hcl:cur.toList.length=cap * 4:=by rw [za,hcs]
  have e1:L2.toList.take (i * 4)=xs.take (i * 4):=by
   rw [hL2]
   simp only []
   rw [qo,jy (by rw [ql,hcl];omega),List.take_take, ←htake,List.take_take]
   congr 1
   omega
  have e2:(L2.toList.drop (i * 4+x.length)).take ((n - i) * 4)=xs.drop (i * 4):=by
   rw [hL2,hx]
   simp only []
   rw [qo,show i * 4+4=((cur.toList.take ((i+1) * 4)).length) from by rw [ql,hcl];omega,List.drop_left]
   rw [jy (by rw [zw,hxl];omega)]
   exact qc (by rw [zw,hxl];omega)
  have hlt:(xs.take (i * 4)).length=i * 4:=by rw [ql,hxl];omega
  refine ⟨_,rfl,⟨?_,Or.inr ⟨g,cap,L3,rfl,hbg,hg3,by omega,hcm,hL3s,?_⟩⟩,hc3.to_grown,Or.inl rfl⟩
  ·rw [qg,qg,hlt,hx,zw,hxl]
   omega
  ·rw [hL3,e1]
   simp only []
   rw [show (n+1) * 4=(xs.take (i * 4)++x).length+(n - i) * 4 from by rw [qg,hlt,hx];omega,List.take_length_add_append,e2]
 have hdc:decide ((cap:Int) < (n:Int)+1)=false:=by simp;omega
 have Hr2:=qq hr2
 have Hr3:=qq hr3
 have Hfin:=qq hfin
 clear hr2 hr3 hfin hcells hxl h1 h1x hx hown htake hcs hg hg0 hL2 hw2 hc2 hg2 hL2s hL3 hw3 hc3 hg3 hL3s hv hv2 hne
 go_enter Tryz.func123,Tryz.ntmps123
 go_wp2_with fail
 have s1:IntKind.i64.wrap ((i:Int)+1)=(i:Int)+1:=by rw [IntKind.wrap_i64];omega
 have s2:(0:Int)≤(i:Int)+1:=by omega
 have s3:((i:Int)+1).toNat=i+1:=by omega
 have s4:(i:Int)+1≤(n:Int)+1:=by omega
 have s5:i≤n:=by omega
 have s6:(i:Int)≤(n:Int)+1:=by omega
 go_still_tail 8,(by kernel_rfl)
 clear s1 s2 s3 s4 s5 s6
 change wpList _ _ _ _ _ w.drew
 refine lz rfl (.tmp 73) (.tmp 76) 40 40 rfl ?_ ?_ (Hr2.out _) ?_
 ·rfl
 ·rfl
 go_wp2_with ((with_reducible refine lz rfl (.tmp 80) (.tmp 81) 40 40 rfl ?_ ?_ (Hr3.out _) ?_);exact rfl;exact rfl)
 go_ret
 exact Hfin.out
def insValue (w:World) (base:Nat) (v:Value) (n:Nat) (xs:List Value) (hown:w.ownsRow base 62 4 v n xs) (h1:∀ u∈xs,u.oneCell'=true) (i:Nat) (hi:i≤n) (vb vc:Nat) (x:List Value) (hx:x.length=4) (tb:TypeId)
  (hv:Blk w vb tb x.toArray) (hne:v.ownBlock≠some vb) (h1x:∀ u∈x,u.oneCell'=true) (hb:(n+1) * 56≤140737488355328) (hbase:base≤w.heap.size):
  Calls Tryz.prog 123 #[v,.int .i64 i,.slice (some ⟨vb,0,none⟩) 1 vc] w (InsPostValue w base n v.ownBlock (xs.take (i * 4)++x++xs.drop (i * 4))):=by
 have hxc:∀ j u,x[j]? =some u→w.cell? ((⟨vb,0,none⟩:Addr).add j)=some u:=fun j u hj=>by rw [Addr.add_lit,jn,hv.cell];simpa using hj
 by_cases hin:i=n
 ·subst hin
  have h:=ac w base v i xs hown ⟨vb,0,none⟩ vc x hx hxc h1x hb hbase
  have e1:xs.take (i * 4)=xs:=qc (by rw [hown.1];exact qh _)
  have e2:xs.drop (i * 4)=[]:=List.drop_eq_nil_of_le (by rw [hown.1];exact qh _)
  rw [e1,e2,jr]
  exact h
 ·obtain ⟨g,cap,rfl,_⟩:=hown.form (by omega)
  by_cases hc:n+1≤cap
  ·exact tm w base g n cap xs hown h1 i (by omega) hc vb vc x hx tb hv (fun e=>hne (by simp [Value.ownBlock,e])) h1x
  ·exact wv w base g n cap xs hown h1 i (by omega) (by omega) ⟨vb,0,none⟩ vc x hx hxc h1x hb hbase
def idxPostRow (css:List (List Value)) (p:List Value→Bool) (w:World) (e:Ending) (w':World):Prop:=
 (∃ i,css.findIdx? p=some i∧e=.returned (.int .i64 i)∧New w w')∨(css.findIdx? p=none∧e=.returned (.int .i64 (-1))∧New w w')
def idxRow (w:World) (A:Option Addr) (n c:Nat) (css:List (List Value)) (hn:n=css.length) (hm:n≤maxLen) (hrows:0 < css.length→∃ a,A=some a∧RowsAt w a 3 css) (g:Nat) (lb:Array Value) (eg:Enters Tryz.prog g) (p:List Value→Bool)
  (T:Nat→Prop) (hp:∀ cs∈css,Says Tryz.prog w T g lb #[.agg cs.toArray] (.bool (p cs))):
  Calls Tryz.prog 78 #[.slice A n c,.func (.func g) #[] lb] w (idxPostRow css p w):=by
 unfold maxLen at hm
 unfold Enters at eg
 have HN:=qq hn
 have Hp:=qq hp
 have Hrows:=qq hrows
 clear hn hp hrows
 go_enter Tryz.func78,Tryz.ntmps78
 go_wp2
 go_loopw [5,8] (fun _ i wr=>∃ k:Nat,k≤n∧i=.int .i64 k∧New w wr∧∀ j cs,j < k→css[j]? =some cs→p cs=false) (fun _ i _=>n - (intOf i).toNat)
 case atStart=>exact ⟨0,qr _,rfl,Chg.refl w _,fun j cs h=>absurd h (by omega)⟩
 case round=>
  obtain ⟨k,hk,rfl,hc,hno⟩:=hrel
  have Hc:=qq hc
  have Hno:=qq hno
  clear hc hno
  by_cases hlt:k < n
  ·obtain ⟨ad,rfl,hrw⟩:=Hrows.out (by rw [←HN.out];omega)
   obtain ⟨cs,hcs⟩:∃ cs,css[k]? =some cs:=⟨_,qz (by rw [←HN.out];exact hlt)⟩
   have hat:=(hrw k cs hcs).2.chg Hc.out id
   have hl:=(hrw k cs hcs).1
   have hs:=Hp.out cs (qf hcs) wr (Hc.out.mono fun _ _ x=>x.elim)
   have Hat:=qq hat
   have Hl:=qq hl
   have Hs:=qq hs
   have Hcs:=qq hcs
   clear hat hl hs hrw hcs
   go_wp2_with ((with_reducible refine vq rfl (.tmp 14) 42 rfl vd (ad.add (k * 3)) cs ?_ Hl.out Hat.out ?_);exact rfl)
   refine Hs.out.mono ?_
   rintro e w2 ⟨rfl,hc2⟩
   have Hc2:=qq (Hc.out.trans hc2 qdr)
   clear hc2
   obtain ⟨b,hb⟩:=qdp (p cs)
   rw [hb]
   have Hb:=qq hb
   clear hb
   cases b with
   |true=>
    go_wp2_with fail
    go_ret
    refine Or.inl ⟨k,?_,rfl,Hc2.out⟩
    obtain ⟨hlt',he⟩:=qv.1 Hcs.out
    rw [yf]
    refine ⟨hlt',by rw [he];exact Hb.out,fun j hj=>?_⟩
    have:=Hno.out j _ hj (qz (by omega))
    simp [this]
   |false=>
    go_wp2_with fail
    go_roundw
    case rel=>
     refine ⟨k+1,by omega,by go_num,Hc2.out,fun j cs' hj hcs'=>?_⟩
     by_cases hjk:j=k
     ·subst hjk
      have:=Hcs.out.symm.trans hcs'
      simp only [Option.some.injEq] at this
      subst this
      exact Hb.out
     ·exact Hno.out j cs' (by omega) hcs'
    case measure=>simp [intOf];omega
  ·go_wp2_with fail
   go_ret
   refine Or.inr ⟨?_,rfl,Hc.out⟩
   rw [uy]
   intro cs hcs
   obtain ⟨j,hj,rfl⟩:=zt hcs
   exact Hno.out j _ (by have:=HN.out;omega) (qz hj)
section
variable {P:Program} {ops:Array Oper} {Q:Exit→Act→World→Prop} {a:Act} {w:World}
def seg_runK {K:Array Bool→Act→World→Prop} {n m μ:Nat} {ex:Nat→Nat} {Φ:Nat→Value→World→Prop} {J:Bool→World→Prop} {a0:Act} (hh:segB ops n m=true) (hsk:∀ i o,n≤i→i < m→ops[i]? =some o→Region.wanted o (yielded ops a0.tmps)=false→False) (hd:∀ i d,n≤i→i < m→dstOf ops i=some d→d < a0.tmps.size)
  (hstep:∀ i o,n≤i→i < m→ops[i]? =some o→Region.wanted o (yielded ops a0.tmps)=true→∀ (a:Act) (W:World) (b:Bool),J b W→(i=μ∨ahead .any ops ops.size i μ=true→b=false)→(∀ j d,n≤j→j < m→ahead .any ops ops.size j i=true→dstOf ops j=some d→(m≤ex j∨ex j=i∨ahead .any ops ops.size i (ex j)=true)→Φ j (slot a d) W)→
   (∀ t,t∈looks ops i→(∀ j,n≤j→j < m→dstOf ops j=some t→ahead .any ops ops.size j i=false)→slot a t=slot a0 t)→∀ listed:Array Bool,InvX P ops n m μ ex Φ J a0 listed a W→b=(decide (n≤μ)&&listed.getD μ false)→listed.getD i false=false→(∀ e∈o.after,Region.binds .any e=true→listed.getD e.on false=true)→K listed a W→
   Gives P o a.eval W fun v W'=>J (b||i == μ) W'∧Φ i v W'∧(∀ k d,n≤k→k < m→listed.getD k false=true→dstOf ops k=some d→k≠i→ex k≠i→(m≤ex k∨listed.getD (ex k) false=false)→Φ k (slot a d) W→Φ k (slot a d) W')∧K (listed.setIfInBounds i true) (a.put o.dst v) W')
  (htail:∀ (a:Act) (W:World) (listed:Array Bool),(∀ i,i < m→listed.getD i false=true)→(∀ i,m≤i→listed.getD i false=false)→K listed a W→J (decide (n≤μ)&&decide (μ < m)) W→a.defers=a0.defers→a.tmps.size=a0.tmps.size→(∀ i d,n≤i→i < m→dstOf ops i=some d→m≤ex i→Φ i (slot a d) W)→(∀ t,(∀ i,n≤i→i < m→dstOf ops i≠some t)→slot a t=slot a0 t)→
   AtN P ops Q m a W):
  ∀ (c fuel:Nat) (listed:Array Bool) (a:Act) (w:World),InvX P ops n m μ ex Φ J a0 listed a w→K listed a w→((List.range m).filter fun i=>!listed.getD i false).length=c→ops.size+c≤m+fuel→wpAny P .any ops Q fuel listed a w:=by
 simp only [segB,qt,decide_eq_true_eq] at hh
 obtain ⟨⟨⟨⟨⟨hnm,hms⟩,hB⟩,hT⟩,hD⟩,hL⟩:=hh
 simp only [zv,zu,zg,decide_eq_true_eq,qt] at hD hL
 intro c
 induction c with
 |zero=>
  intro fuel listed a w inv hK hm hf
  have hall:∀ i,i < m→listed.getD i false=true:=by
   intro i hi
   have h0:=ze hm
   have:=(ub.1 h0) i (zu.2 hi)
   simpa using this
  have hst:=inv.st
  have hlm:listed.getD μ false=decide (μ < m):=by
   rcases jl μ m with h|h
   ·rw [hall μ h];simp [h]
   ·rw [inv.tail μ h];simp;omega
  rw [hlm] at hst
  refine htail a w listed hall (fun i h=>inv.tail i h) hK hst inv.defers inv.tsize (fun i d hn hi hd' he=>inv.told i d hn hi (hall i hi) hd' (.inl he)) (fun t ht=>inv.kept t fun i hn hi _=>ht i hn hi) fuel listed inv.size (fun i=>?_) (by omega)
  rcases jl i m with h|h
  ·rw [hall i h];simp [h]
  ·rw [inv.tail i h];simp;omega
 |succ c ih=>
  intro fuel listed a w inv hK hm hf
  have hmn:c+1≤m:=by
   rw [←hm]
   exact qb (jc _ _) (by simp)
  obtain ⟨fuel,rfl⟩:∃ f,fuel=f+1:=⟨fuel - 1,by omega⟩
  have hex:∃ i,i < m∧listed.getD i false=false:=by
   cases hl:(List.range m).filter fun i=>!listed.getD i false with
   |nil=>rw [hl] at hm;cases hm
   |cons x l=>
    have hx:x∈(List.range m).filter fun i=>!listed.getD i false:=by rw [hl];simp
    obtain ⟨h1,h2⟩:=zc.1 hx
    exact ⟨x,zu.1 h1,by simpa using h2⟩
  refine ⟨fun hr=>?_,fun i hi=>?_⟩
  ·exfalso
   obtain ⟨i,hin,hil⟩:=hex
   have key:∀ k,k < m→listed.getD k false=true:=by
    intro k
    induction k using Nat.strongRecOn with
    |_ k ihk=>
     intro hk
     cases hkl:listed.getD k false with
     |true=>rfl
     |false=>
      have hks:k < ops.size:=by omega
      have hmem:k∈Region.ready .any ops listed:=mem_ready.2 ⟨by
       have:k < listed.size:=by rw [inv.size];exact hks
       simp [this] at hkl⊢
       exact hkl,ops[k],jh hks,fun e he hb=>by
       have:=ph hB (jh hks) he hb
       exact ihk e.on this (by omega)⟩
      rw [hr] at hmem
      cases hmem
   rw [key i hin] at hil
   cases hil
  ·obtain ⟨hun,o,ho,hdeps⟩:=mem_ready.1 hi
   have hiz:i < ops.size:=(zo.1 ho).1
   have hunl:listed.getD i false=false:=by
    have:i < listed.size:=by rw [inv.size];exact hiz
    simp [this] at hun⊢
    exact hun
   have hni:n≤i:=by
    rcases jl i n with h|h
    ·rw [inv.below i h] at hunl;cases hunl
    ·exact h
   have hin:i < m:=by
    rcases jl i m with h|h
    ·exact h
    ·exfalso
     obtain ⟨k,hkn,hkl⟩:=hex
     have hkn':n≤k:=by
      rcases jl k n with h|h
      ·rw [inv.below k h] at hkl;cases hkl
      ·exact h
     have ht:=rf hT hiz h hkn' hkn
     have:=xk inv.closed _ k i ht (fun oj hoj=>by rw [ho] at hoj;cases hoj;exact hdeps)
     rw [this] at hkl
     cases hkl
   have hL':=(hL i hin).resolve_left (by omega)
   rw [ho] at hL'
   simp only [qt] at hL'
   have hgive:=fun hw0=>hstep i o hni hin ho hw0 a w _ inv.st (fun e=>by
     rcases e with e|e
     ·subst e;simp [hunl]
     ·cases hxl:listed.getD μ false with
      |false=>simp
      |true=>
       have:=xk inv.closed _ i μ e (fun oj hoj=>inv.closed μ oj hoj hxl)
       rw [this] at hunl
       cases hunl) (fun j d hnj hj haj hdj hex=>inv.told j d hnj hj (xk inv.closed _ j i haj (fun oj hoj=>by rw [ho] at hoj;cases hoj;exact hdeps)) hdj (by
     rcases hex with h9|h9|h9
     ·exact .inl h9
     ·exact .inr (by rw [h9];exact hunl)
     ·refine .inr ?_
      cases hxl:listed.getD (ex j) false with
      |false=>rfl
      |true=>
       have:=xk inv.closed _ i (ex j) h9 (fun oj hoj=>inv.closed (ex j) oj hoj hxl)
       rw [this] at hunl
       cases hunl))
    (fun t ht hno=>inv.kept t fun j hnj hj hjl hdj=>by
     have h3:=(hL'.2 j hj).resolve_left (by omega)
     rw [hdj] at h3
     simp only [zg,ue,uw,decide_eq_false_iff_not] at h3
     rcases h3 with (h3|h3)|h3
     ·exact h3 ht
     ·rw [hno j hnj hj hdj] at h3;cases h3
     ·have:=xk inv.closed _ i j h3 (fun oj hoj=>inv.closed j oj hoj hjl)
      rw [this] at hunl
      cases hunl) listed inv rfl hunl hdeps hK
   have hwant:Region.wanted o (yielded ops a.tmps)=Region.wanted o (yielded ops a0.tmps):=by
    have hg:=hL'.1.1
    cases hgo:o.guard with
    |none=>simp only [Region.wanted,hgo]
    |some gb=>
     obtain ⟨g,b⟩:=gb
     rw [hgo] at hg
     simp only [qt,decide_eq_true_eq,zv,zu,zg,bne_iff_ne] at hg
     have hyy:=df (ops:=ops) (g:=g) inv.tsize (fun d hdg=>inv.kept d fun j hnj hj _ hdj=>by
      rcases hg.2 j hj with (h5|h5)|h5
      ·omega
      ·rw [hdj] at h5;cases h5
      ·exact h5 (hdj.trans hdg.symm))
     simp only [Region.wanted,hgo,hyy]
   have hili:i < listed.size:=by rw [inv.size];exact hiz
   unfold wpOp
   rw [ho]
   simp only []
   have hdst:dstOf ops i=o.dst:=by simp [dstOf,ho]
   suffices hgo:∀ v W',(J (decide (n≤μ)&&listed.getD μ false||i == μ) W'∧Φ i v W'∧(∀ k d,n≤k→k < m→listed.getD k false=true→dstOf ops k=some d→k≠i→ex k≠i→(m≤ex k∨listed.getD (ex k) false=false)→Φ k (slot a d) w→Φ k (slot a d) W')∧K (listed.setIfInBounds i true) (a.put o.dst v) W')→wpAny P .any ops Q fuel (listed.setIfInBounds i true) (a.put o.dst v) W' by
    rw [hwant]
    split
    ·rename_i hw1
     exact .inl ((hgive hw1).wp fun v W' hR=>hgo v W' hR)
    ·rename_i hw1
     exact (hsk i o hni hin ho (by simpa using hw1)).elim
   intro v W' hR
   refine ih fuel _ _ _ ⟨?_,?_,?_,?_,?_,?_,?_,?_,?_⟩ hR.2.2.2 ?_ (by omega)
   ·simp [inv.size]
   ·intro t ht
    rw [xj hili,if_neg (by omega)]
    exact inv.below t ht
   ·intro t ht
    rw [xj hili,if_neg (by omega)]
    exact inv.tail t ht
   ·intro j oj hj hjl e he hb
    rw [xj hili] at hjl⊢
    by_cases hij:i=j
    ·subst hij
     rw [ho] at hj
     cases hj
     have:=hdeps e he hb
     simp [this]
    ·rw [if_neg hij] at hjl
     have:=inv.closed j oj hj hjl e he hb
     simp [this]
   ·have h6:=hR.1
    rw [xj hili]
    by_cases hiμ:i=μ
    ·subst hiμ
     simpa [hni,hunl] using h6
    ·rw [if_neg hiμ]
     rw [show (i == μ)=false by simpa using hiμ,Bool.or_false] at h6
     exact h6
   ·rw [pv,inv.defers]
   ·rw [dc,inv.tsize]
   ·intro j d hnj hj hjl hdj hexp
    rw [xj hili] at hjl hexp
    by_cases hij:i=j
    ·subst hij
     have hdd:o.dst=some d:=by rw [←hdst];exact hdj
     rw [hdd,gh (by rw [inv.tsize];exact hd i d hni hin hdj)]
     exact hR.2.1
    ·rw [if_neg hij] at hjl
     have h4:=(((hD i hin).resolve_left (by omega)) j hj)
     simp only [zg,beq_iff_eq,bne_iff_ne,decide_eq_true_eq] at h4
     rw [gp (by
      intro e
      rw [←hdst] at e
      rcases h4 with ((h4|h4)|h4)|h4
      ·omega
      ·exact hij h4
      ·rw [e] at h4;cases h4
      ·exact h4 (e.trans hdj.symm))]
     have hxi:ex j≠i:=by
      rintro e
      rcases hexp with h9|h9
      ·omega
      ·rw [if_pos e.symm] at h9;cases h9
     have hexp':m≤ex j∨listed.getD (ex j) false=false:=hexp.imp id fun h9=>by
      rw [if_neg (Ne.symm hxi)] at h9
      exact h9
     exact hR.2.2.1 j d hnj hj hjl hdj (Ne.symm hij) hxi hexp' (inv.told j d hnj hj hjl hdj hexp')
   ·intro t ht
    have hne:o.dst≠some t:=by
     rw [←hdst]
     exact ht i hni hin (by rw [xj hili,if_pos rfl])
    rw [gp hne]
    exact inv.kept t fun j hnj hj hjl=>ht j hnj hj (by
     rw [xj hili]
     by_cases hij:i=j
     ·rw [if_pos hij]
     ·rw [if_neg hij];exact hjl)
   ·have hff:=py (List.range m) (fun j=>!listed.getD j false) (fun j=>!(listed.setIfInBounds i true).getD j false) i List.nodup_range (zu.2 hin) (by simp only [hunl];rfl) (by simp only [xj hili];simp) (fun j hj=>by simp only [xj hili,if_neg (Ne.symm hj)])
    omega
def fpv:Value→Option Nat
 | .slice (some a) _ _=>some a.block
 | .pointer (some a)=>some a.block
 |_=>none
def Alive (ops:Array Oper) (n m:Nat) (ex:Nat→Nat) (tr:Nat→Bool) (listed:Array Bool) (j d:Nat):Prop:=n≤j∧j < m∧tr j=true∧listed.getD j false=true∧(m≤ex j∨listed.getD (ex j) false=false)∧dstOf ops j=some d
structure KF (ops:Array Oper) (n m μ:Nat) (ex:Nat→Nat) (tr:Nat→Bool) (T:Nat→Prop) (w0:World) (listed:Array Bool) (a:Act) (W:World):Prop where
 own:∀ j d g,Alive ops n m ex tr listed j d→fpv (slot a d)=some g→(w0.heap.size≤g∨(T g∧listed.getD μ false=true))∧g < W.heap.size
 apart:∀ j d k d' g,Alive ops n m ex tr listed j d→Alive ops n m ex tr listed k d'→j≠k→fpv (slot a d)=some g→fpv (slot a d')≠some g
def sConB (ops:Array Oper) (n m:Nat) (ex:Nat→Nat) (tr:Nat→Bool) (i k d:Nat):Bool:=decide (n≤k)&&decide (k < m)&&ahead .any ops ops.size k i&&dstOf ops k == some d&&ex k == i&&tr k&&decide (k≠i)
def Con (ops:Array Oper) (n m:Nat) (ex:Nat→Nat) (tr:Nat→Bool) (A:Act) (i g:Nat):Prop:=∃ k d,sConB ops n m ex tr i k d=true∧fpv (A.tmps[d]?.getD undef)=some g
def GivesF (P:Program) (ops:Array Oper) (n m μ:Nat) (ex:Nat→Nat) (tr:Nat→Bool) (T:Nat→Prop) (Φ:Nat→Value→World→Prop) (i:Nat) (o:Oper) (A:Act) (W:World):Prop:=
 Gives P o A.eval W fun v W'=>Φ i v W'∧∃ T':Nat→Prop,Chg W W' T'∧(∀ g,g < W.heap.size→T' g→Con ops n m ex tr A i g∨(i=μ∧T g))∧(tr i=true→∀ g,fpv v=some g→g < W'.heap.size∧(Con ops n m ex tr A i g∨W.heap.size≤g∨(i=μ∧T g)))
def nt (A:Act) (d:Nat):A.tmps[d]?.getD undef=slot A d:=by simp only [slot,ym]
def AtN.segF (n m μ:Nat) (ds:List Nat) (T:Nat→Prop) (tr:Nat→Bool) (ex:Nat→Nat) (Φ:Nat→Value→World→Prop) (hh:segB ops n m=true) (hwn:wantB ops n m a.tmps=true) (hd:sDstB ops n m a.tmps.size=true) (hds:dsB ops n m ds=true) (hμb:decide (n≤μ)&&decide (μ < m)=true) (hT:∀ g,T g→g < w.heap.size)
  (hst:∀ k u W W' (T':Nat→Prop),Φ k u W→Chg W W' T'→(tr k=true→∀ g,fpv u=some g→¬ T' g)→(∀ g,g < W.heap.size→T' g→w.heap.size≤g∨T g)→Φ k u W')
  (hstep:∀ i,n≤i→i < m→∀ o,ops[i]? =some o→∀ (A:Act) (W:World) (b:Bool),JX w T b W→(i=μ→b=false)→(∀ j d,(h:sInX ops n m ex i j d=true:=by kernel_rfl)→Φ j (A.tmps[d]?.getD undef) W)→
   (∀ t,(h:sKeptB ops n m i t=true:=by kernel_rfl)→A.tmps[t]?.getD undef=slot a t)→(∀ k d k' d' g,sConB ops n m ex tr i k d=true→sConB ops n m ex tr i k' d'=true→k≠k'→fpv (A.tmps[d]?.getD undef)=some g→fpv (A.tmps[d']?.getD undef)≠some g)→GivesF P ops n m μ ex tr T Φ i o A W)
  (htail:∀ (l:List Value) (W:World),Chg w W T→l.length=m - n→(∀ j,j < m - n→m≤ex (n+j)→Φ (n+j) (l.getD j undef) W)→(∀ j k g,j < m - n→k < m - n→tr (n+j)=true→tr (n+k)=true→m≤ex (n+j)→m≤ex (n+k)→j≠k→fpv (l.getD j undef)=some g→fpv (l.getD k undef)≠some g)→AtN P ops Q m (putsL (ds.zip l) a) W):AtN P ops Q n a w:=by
 intro fuel listed hls hl hf
 have hh':=hh
 simp only [segB,qt,decide_eq_true_eq] at hh' hμb
 obtain ⟨⟨⟨⟨⟨hnm,hms⟩,hB⟩,hTw⟩,hD⟩,hL⟩:=hh'
 simp only [zv,zu,zg,decide_eq_true_eq,qt] at hD
 have hd':=hd
 simp only [sDstB,zv,zu,zg,decide_eq_true_eq] at hd'
 have hdlt:∀ i d,n≤i→i < m→dstOf ops i=some d→d < a.tmps.size:=fun i d hn hi hdi=>by
  have:=(hd' i hi).resolve_left (by omega)
  rw [hdi] at this
  simpa using this
 have hdne:∀ i j d d',n≤i→i < m→n≤j→j < m→i≠j→dstOf ops i=some d→dstOf ops j=some d'→d≠d':=fun i j d d' hn hi hn' hj hij h1 h2 e=>by
  have h4:=(((hD i hi).resolve_left (by omega)) j hj)
  simp only [zg,beq_iff_eq,bne_iff_ne,decide_eq_true_eq] at h4
  rcases h4 with ((h4|h4)|h4)|h4
  ·omega
  ·exact hij h4
  ·rw [h1] at h4;cases h4
  ·exact h4 (h1.trans (e▸h2.symm))
 refine seg_runK (K:=KF ops n m μ ex tr T w) (n:=n) (m:=m) (μ:=μ) (ex:=ex) (Φ:=Φ) (J:=JX w T) (a0:=a) hh (fun i o hn hi ho h=>rq hwn hn hi ho h) hdlt (fun i o hn hi ho hw0 A W b hJ hμ hin hk lst inv hb hil hdeps hK=>?_) (fun A W lst hall htl hK hJ h2 h3 h4 h5=>?_) (m - n) fuel listed a w ⟨hls,?_,?_,?_,?_,rfl,rfl,?_,fun _ _=>rfl⟩ ⟨?_,?_⟩ ?_ (by omega)
 ·
  have hal:∀ k d,sConB ops n m ex tr i k d=true→Alive ops n m ex tr lst k d∧k≠i∧ex k=i:=by
   intro k d hc
   simp only [sConB,qt,decide_eq_true_eq,beq_iff_eq] at hc
   obtain ⟨⟨⟨⟨⟨⟨c1,c2⟩,c3⟩,c4⟩,c5⟩,c6⟩,c7⟩:=hc
   exact ⟨⟨c1,c2,c6,xk inv.closed _ k i c3 (fun oj hoj=>by rw [ho] at hoj;cases hoj;exact hdeps),.inr (by rw [c5];exact hil),c4⟩,c7,c5⟩
  have hg:=hstep i hn hi o ho A W b hJ (fun h=>hμ (.inl h)) (fun j d h=>?_) (fun t h=>?_) (fun k d k' d' g c1 c2 hkk f1 f2=>by
   rw [nt] at f1 f2
   exact hK.apart k d k' d' g (hal k d c1).1 (hal k' d' c2).1 hkk f1 f2)
  ·
   have hcon:∀ g,Con ops n m ex tr A i g→∃ k d,Alive ops n m ex tr lst k d∧k≠i∧ex k=i∧fpv (slot A d)=some g:=by
    rintro g ⟨k,d,hc,hf⟩
    obtain ⟨h1,h2,h3⟩:=hal k d hc
    exact ⟨k,d,h1,h2,h3,by rw [←nt];exact hf⟩
   have himp:∀ v W',(Φ i v W'∧∃ T':Nat→Prop,Chg W W' T'∧(∀ g,g < W.heap.size→T' g→Con ops n m ex tr A i g∨(i=μ∧T g))∧(tr i=true→∀ g,fpv v=some g→g < W'.heap.size∧(Con ops n m ex tr A i g∨W.heap.size≤g∨(i=μ∧T g))))→
     (JX w T (b||i == μ) W'∧Φ i v W'∧(∀ k d,n≤k→k < m→lst.getD k false=true→dstOf ops k=some d→k≠i→ex k≠i→(m≤ex k∨lst.getD (ex k) false=false)→Φ k (slot A d) W→Φ k (slot A d) W')∧KF ops n m μ ex tr T w (lst.setIfInBounds i true) (A.put o.dst v) W'):=by
    rintro v W' ⟨hΦ,T',hchg,hTT,hres⟩
    have hbμ:lst.getD μ false=b:=by rw [hb];simp [hμb.1]
    have hili:i < lst.size:=by
     rw [inv.size]
     exact (zo.1 ho).1
    have hμl:i=μ→lst.getD μ false=false:=fun e=>by rw [←e];exact hil
    have hdst:dstOf ops i=o.dst:=by simp [dstOf,ho]
    have hT1:∀ g,g < W.heap.size→T' g→w.heap.size≤g∨T g:=fun g hgl hg'=>by
     rcases hTT g hgl hg' with h| ⟨_,h⟩
     ·obtain ⟨k,d,ha,_,_,hf⟩:=hcon g h
      exact ((hK.own k d g ha hf).1).imp id (fun h=>h.1)
     ·exact .inr h
    have hne:∀ k d g,Alive ops n m ex tr lst k d→ex k≠i→fpv (slot A d)=some g→T' g→False:=fun k d g ha hx hf hg'=>by
     have ho:=hK.own k d g ha hf
     rcases hTT g ho.2 hg' with h| ⟨h1,h2⟩
     ·obtain ⟨k',d',ha',_,hx',hf'⟩:=hcon g h
      by_cases hkk:k=k'
      ·subst hkk;exact hx hx'
      ·exact hK.apart k d k' d' g ha ha' hkk hf hf'
     ·rcases ho.1 with h3| ⟨_,h3⟩
      ·have:=hT g h2;omega
      ·rw [hμl h1] at h3;cases h3
    have hput:∀ j d,n≤j→j < m→j≠i→dstOf ops j=some d→slot (A.put o.dst v) d=slot A d:=fun j d h1 h2 h3 h4=>by
     refine gp ?_
     intro e
     rw [←hdst] at e
     exact hdne i j d d hn hi h1 h2 (Ne.symm h3) e h4 rfl
    have halive:∀ j d,j≠i→Alive ops n m ex tr (lst.setIfInBounds i true) j d→Alive ops n m ex tr lst j d∧ex j≠i:=by
     rintro j d hji ⟨h1,h2,h3,h4,h5,h6⟩
     rw [xj hili,if_neg (Ne.symm hji)] at h4
     rw [xj hili] at h5
     have hxi:ex j≠i:=by
      rintro e
      rcases h5 with h9|h9
      ·omega
      ·rw [if_pos e.symm] at h9;cases h9
     rw [if_neg (Ne.symm hxi)] at h5
     exact ⟨⟨h1,h2,h3,h4,h5,h6⟩,hxi⟩
    refine ⟨⟨hJ.1.trans hchg (fun k hk hk'=>(hT1 k (zd hk hJ.1.size) hk').resolve_left (by omega)),fun hb'=>?_⟩,hΦ,fun k d h1 h2 h3 h4 h5 h6 h7 h8=>?_,⟨fun j d g ha hf=>?_,fun j d k d' g ha ha' hjk hf hf'=>?_⟩⟩
    ·have hb0:b=false∧i≠μ:=by
      rw [Bool.or_eq_false_iff] at hb'
      exact ⟨hb'.1,by simpa using hb'.2⟩
     refine (hJ.2 hb0.1).trans hchg (fun g hg hg'=>?_)
     rcases hTT g (zd hg hJ.1.size) hg' with h| ⟨h,_⟩
     ·obtain ⟨k,d,ha,_,_,hf⟩:=hcon g h
      rcases (hK.own k d g ha hf).1 with h9| ⟨_,h9⟩
      ·omega
      ·rw [hbμ,hb0.1] at h9;cases h9
     ·exact hb0.2 h
    ·exact hst k _ W W' T' h8 hchg (fun htr g hf hg'=>hne k d g ⟨h1,h2,htr,h3,h7,h4⟩ h6 hf hg') hT1
    ·by_cases hji:j=i
     ·subst hji
      obtain ⟨a1,a2,a3,a4,a5,a6⟩:=ha
      have hdd:o.dst=some d:=by rw [←hdst];exact a6
      rw [hdd,gh (by rw [inv.tsize];exact hdlt j d a1 a2 a6)] at hf
      obtain ⟨hl1,hl2⟩:=hres a3 g hf
      refine ⟨?_,hl1⟩
      rcases hl2 with h|h| ⟨h,h'⟩
      ·obtain ⟨k,d',ha',hkj,_,hf'⟩:=hcon g h
       rcases (hK.own k d' g ha' hf').1 with h9| ⟨h8,h9⟩
       ·exact .inl h9
       ·refine .inr ⟨h8,?_⟩
        rw [xj hili]
        split
        ·rfl
        ·exact h9
      ·exact .inl (qb hJ.1.size h)
      ·exact .inr ⟨h',by rw [xj hili,if_pos h]⟩
     ·obtain ⟨ha0,hx⟩:=halive j d hji ha
      rw [hput j d ha0.1 ha0.2.1 hji ha0.2.2.2.2.2] at hf
      obtain ⟨h8,h9⟩:=hK.own j d g ha0 hf
      refine ⟨h8.imp id (fun h=>⟨h.1,?_⟩),zd h9 hchg.size⟩
      rw [xj hili]
      split
      ·rfl
      ·exact h.2
    ·
     have key:∀ d,dstOf ops i=some d→tr i=true→fpv v=some g→∀ k d',k≠i→Alive ops n m ex tr lst k d'→ex k≠i→fpv (slot A d')=some g→False:=fun d hd1 htr hfv k d' hki hak hxk hfk=>by
      have hok:=hK.own k d' g hak hfk
      rcases (hres htr g hfv).2 with h|h| ⟨h1,h2⟩
      ·obtain ⟨k',d'',ha',_,hx',hf''⟩:=hcon g h
       by_cases hkk:k=k'
       ·subst hkk;exact hxk hx'
       ·exact hK.apart k d' k' d'' g hak ha' hkk hfk hf''
      ·omega
      ·rcases hok.1 with h3| ⟨_,h3⟩
       ·have:=hT g h2;omega
       ·rw [hμl h1] at h3;cases h3
     by_cases hji:j=i
     ·subst hji
      have hki:k≠j:=Ne.symm hjk
      obtain ⟨hak,hxk⟩:=halive k d' hki ha'
      rw [hput k d' hak.1 hak.2.1 hki hak.2.2.2.2.2] at hf'
      obtain ⟨a1,a2,a3,a4,a5,a6⟩:=ha
      have hdd:o.dst=some d:=by rw [←hdst];exact a6
      rw [hdd,gh (by rw [inv.tsize];exact hdlt j d a1 a2 a6)] at hf
      exact key d a6 a3 hf k d' hki hak hxk hf'
     ·obtain ⟨haj,hxj⟩:=halive j d hji ha
      rw [hput j d haj.1 haj.2.1 hji haj.2.2.2.2.2] at hf
      by_cases hki:k=i
      ·subst hki
       obtain ⟨a1,a2,a3,a4,a5,a6⟩:=ha'
       have hdd:o.dst=some d':=by rw [←hdst];exact a6
       rw [hdd,gh (by rw [inv.tsize];exact hdlt k d' a1 a2 a6)] at hf'
       exact key d' a6 a3 hf' j d hji haj hxj hf
      ·obtain ⟨hak,hxk⟩:=halive k d' hki ha'
       rw [hput k d' hak.1 hak.2.1 hki hak.2.2.2.2.2] at hf'
       exact hK.apart j d k d' g haj hak hjk hf hf'
   rcases hg with ⟨v,W',hr,h⟩| ⟨W',hr,h⟩| ⟨f,args,W',hr,hc⟩
   ·exact .inl ⟨v,W',hr,himp v W' h⟩
   ·exact .inr (.inl ⟨W',hr,himp undef W' h⟩)
   ·refine .inr (.inr ⟨f,args,W',hr,hc.mono ?_⟩)
    rintro e W'' ⟨v,he,h⟩
    exact ⟨v,he,himp v W'' h⟩
  ·simp only [sInX,sInB,qt,zg,decide_eq_true_eq,beq_iff_eq] at h
   obtain ⟨h,hx⟩:=h
   have:=hin j d h.1.1.1 h.1.1.2 h.1.2 h.2 (by rcases hx with (h7|h7)|h7 <;> simp [h7])
   rw [nt]
   exact this
  ·simp only [sKeptB,qt,uw,decide_eq_true_eq,zv,zu,zg,bne_iff_ne,ue] at h
   have:=hk t h.1 (fun j hnj hj hdj=>by
    rcases h.2 j hj with (h7|h7)|h7
    ·omega
    ·exact absurd hdj h7
    ·exact h7)
   rw [nt]
   exact this
 ·
  have hds':=hds
  simp only [dsB,qt,decide_eq_true_eq] at hds'
  obtain ⟨⟨hlen,hnd⟩,_⟩:=hds'
  have hz:(ds.zip (ds.map (slot A))).map (·.1)=ds:=List.map_fst_zip (by simp)
  have hget:∀ j,j < m - n→∃ d,dstOf ops (n+j)=some d∧(ds.map (slot A)).getD j undef=slot A d:=fun j hj=>by
   obtain ⟨d,hd1,hd2⟩:=tl hds (i:=n+j) (by omega) (by omega)
   rw [show n+j - n=j by omega] at hd2
   refine ⟨d,hd1,?_⟩
   rw [yx,qa,hd2]
   rfl
  rw [lx (l:=ds.zip (ds.map (slot A))) hds hd hz h2 h3 (fun i d hid v hv=>?_) (fun t h=>h5 t fun i hn hi=>by
   simp only [sOldB,zv,zu,zg,decide_eq_true_eq,bne_iff_ne] at h
   exact (h i hi).resolve_left (by omega))]
  ·refine htail _ W hJ.1 (by simpa using hlen) (fun j hj hx=>?_) (fun j k g hj hk t1 t2 x1 x2 hjk f1 f2=>?_)
   ·obtain ⟨d,hd1,hd2⟩:=hget j hj
    rw [hd2]
    exact h4 (n+j) d (by omega) (by omega) hd1 hx
   ·obtain ⟨d,hd1,hd2⟩:=hget j hj
    obtain ⟨d',hd1',hd2'⟩:=hget k hk
    rw [hd2] at f1
    rw [hd2'] at f2
    exact hK.apart (n+j) d (n+k) d' g ⟨by omega,by omega,t1,hall _ (by omega),.inl x1,hd1⟩ ⟨by omega,by omega,t2,hall _ (by omega),.inl x2,hd1'⟩ (by omega) f1 f2
  ·rw [yu] at hv
   obtain ⟨e1,e2⟩:=hv
   rw [qa,e1] at e2
   exact Option.some.inj e2
 ·intro t ht
  rw [hl];simpa using ht
 ·intro t ht
  rw [hl];simp;omega
 ·intro j oj hj hjl e he hb
  have:=ph hB hj he hb
  rw [hl] at hjl⊢
  simp only [decide_eq_true_eq] at hjl⊢
  omega
 ·rw [hl]
  have:(decide (n≤μ)&&decide (μ < n))=false:=by simp
  rw [this]
  exact ⟨Chg.refl _ _,fun _=>Chg.refl _ _⟩
 ·intro i d hn hi hil
  rw [hl] at hil
  simp at hil
  omega
 ·rintro j d g ⟨h1,h2,h3,h4,_⟩
  rw [hl] at h4
  simp at h4
  omega
 ·rintro j d k d' g ⟨h1,h2,h3,h4,_⟩
  rw [hl] at h4
  simp at h4
  omega
 ·have hcong:((List.range m).filter fun i=>!listed.getD i false)=(List.range m).filter fun i=>decide (n≤i):=List.filter_congr fun i _=>by
   rw [hl]
   by_cases h:i < n
   ·simp [h]
   ·simp [h];omega
  rw [hcong]
  clear hcong
  have:∀ m,((List.range m).filter fun i=>decide (n≤i)).length=m - n:=by
   intro m
   induction m with
   |zero=>simp
   |succ m ih=>
    rw [List.range_succ,uf,qg,ih]
    by_cases h:n≤m
    ·simp [h];omega
    ·simp [h];omega
  exact this m
def GivesF.new {n m μ:Nat} {ex:Nat→Nat} {tr:Nat→Bool} {T:Nat→Prop} {Φ:Nat→Value→World→Prop} {i:Nat} {o:Oper} {A:Act} {W:World} (ht:tr i=false) (h:Gives P o A.eval W fun v W'=>New W W'∧Φ i v W'):GivesF P ops n m μ ex tr T Φ i o A W:=by
 have himp:∀ v W',(New W W'∧Φ i v W')→(Φ i v W'∧∃ T':Nat→Prop,Chg W W' T'∧(∀ g,g < W.heap.size→T' g→Con ops n m ex tr A i g∨(i=μ∧T g))∧(tr i=true→∀ g,fpv v=some g→g < W'.heap.size∧(Con ops n m ex tr A i g∨W.heap.size≤g∨(i=μ∧T g)))):=
  fun v W' h=>⟨h.2,fun _=>False,h.1,fun _ _ h=>h.elim,fun h=>by rw [ht] at h;cases h⟩
 rcases h with ⟨v,W',hr,h⟩| ⟨W',hr,h⟩| ⟨f,args,W',hr,hc⟩
 ·exact .inl ⟨v,W',hr,himp v W' h⟩
 ·exact .inr (.inl ⟨W',hr,himp undef W' h⟩)
 ·refine .inr (.inr ⟨f,args,W',hr,hc.mono ?_⟩)
  rintro e W'' ⟨v,he,h⟩
  exact ⟨v,he,himp v W'' h⟩
def GivesF.make {n m μ:Nat} {ex:Nat→Nat} {tr:Nat→Bool} {T:Nat→Prop} {Φ:Nat→Value→World→Prop} {i:Nat} {o:Oper} {A:Act} {W:World} (h:Gives P o A.eval W fun v W'=>New W W'∧Φ i v W'∧∀ g,fpv v=some g→W.heap.size≤g∧g < W'.heap.size):GivesF P ops n m μ ex tr T Φ i o A W:=by
 have himp:∀ v W',(New W W'∧Φ i v W'∧∀ g,fpv v=some g→W.heap.size≤g∧g < W'.heap.size)→(Φ i v W'∧∃ T':Nat→Prop,Chg W W' T'∧(∀ g,g < W.heap.size→T' g→Con ops n m ex tr A i g∨(i=μ∧T g))∧(tr i=true→∀ g,fpv v=some g→g < W'.heap.size∧(Con ops n m ex tr A i g∨W.heap.size≤g∨(i=μ∧T g)))):=
  fun v W' h=>⟨h.2.1,fun _=>False,h.1,fun _ _ h=>h.elim,fun _ g hg=>⟨(h.2.2 g hg).2,.inr (.inl (h.2.2 g hg).1)⟩⟩
 rcases h with ⟨v,W',hr,h⟩| ⟨W',hr,h⟩| ⟨f,args,W',hr,hc⟩
 ·exact .inl ⟨v,W',hr,himp v W' h⟩
 ·exact .inr (.inl ⟨W',hr,himp undef W' h⟩)
 ·refine .inr (.inr ⟨f,args,W',hr,hc.mono ?_⟩)
  rintro e W'' ⟨v,he,h⟩
  exact ⟨v,he,himp v W'' h⟩
def GivesF.value {n m μ:Nat} {ex:Nat→Nat} {tr:Nat→Bool} {T:Nat→Prop} {Φ:Nat→Value→World→Prop} {i:Nat} {o:Oper} {A:Act} {W W':World} {v:Value} (T':Nat→Prop) (hr:(execOp A.eval o).run P W=.ok (.value v) W') (hΦ:Φ i v W') (hc:Chg W W' T') (h1:∀ g,g < W.heap.size→T' g→Con ops n m ex tr A i g∨(i=μ∧T g))
  (h2:∀ g,fpv v=some g→g < W'.heap.size∧(Con ops n m ex tr A i g∨W.heap.size≤g∨(i=μ∧T g))):GivesF P ops n m μ ex tr T Φ i o A W:=.inl ⟨v,W',hr,hΦ,T',hc,h1,fun _=>h2⟩
def GivesF.call {n m μ:Nat} {ex:Nat→Nat} {tr:Nat→Bool} {T:Nat→Prop} {Φ:Nat→Value→World→Prop} {i:Nat} {o:Oper} {A:Act} {W:World} (f:FuncId) (args:Array Value) (hr:(execOp A.eval o).run P W=.ok (.enter f args) W)
  (hc:Calls P f args W fun e W'=>∃ v,e=.returned v∧Φ i v W'∧∃ T':Nat→Prop,Chg W W' T'∧(∀ g,g < W.heap.size→T' g→Con ops n m ex tr A i g∨(i=μ∧T g))∧(tr i=true→∀ g,fpv v=some g→g < W'.heap.size∧(Con ops n m ex tr A i g∨W.heap.size≤g∨(i=μ∧T g)))):GivesF P ops n m μ ex tr T Φ i o A W:=
 .inr (.inr ⟨f,args,W,hr,hc⟩)
def gd {v:Value} {g:Nat} (h:v.ownBlock=some g):fpv v=some g:=by
 unfold Value.ownBlock at h
 split at h
 ·exact h
 ·cases h
def Own.fpv {W:World} {B k:Nat} {e:TypeId} {v:Value} {css:List (List Value)} (h:Own W B e k v css):fpv v=v.ownBlock:=by
 obtain ⟨A,c,rfl,_⟩:=h.form
 cases A <;> rfl
end
inductive Ag where
 |min|max|count
 deriving DecidableEq
def agName:Ag→ByteArray
 | .min=>⟨#[109,105,110]⟩
 | .max=>⟨#[109,97,120]⟩
 | .count=>⟨#[99,111,117,110,116]⟩
def foldV:Ag→Vl→Vl→Bool→Vl
 | .min,so,v,first=>if first||decide (cmpV v so < 0) then v else so
 | .max,so,v,first=>if first||decide (0 < cmpV v so) then v else so
 | .count,so,_,first=>if first then ⟨1,1,⟨#[]⟩⟩ else ⟨1,so.i+1,⟨#[]⟩⟩
def cmpV_bd (a b:Vl):-1≤cmpV a b∧cmpV a b≤1:=by
 have hi:∀ a b,-1≤cmpI a b∧cmpI a b≤1:=fun a b=>by unfold cmpI;repeat' split <;> omega
 have hl:∀ x y:List UInt8,-1≤Lib.compareBytes x y∧Lib.compareBytes x y≤1:=by
  intro x
  induction x with
  |nil=>intro y;cases y <;> simp [Lib.compareBytes]
  |cons a x ih=>
   intro y
   cases y with
   |nil=>simp [Lib.compareBytes]
   |cons b y=>
    simp only [Lib.compareBytes]
    have:=ih y
    repeat' split <;> omega
 rw [sx]
 have h1:=hi a.k b.k
 have h2:=hi a.i b.i
 have h3:-1≤cmpS a.t b.t∧cmpS a.t b.t≤1:=hl _ _
 repeat' split <;> omega
def bestV (sign:Int) (so v:Vl) (first:Bool):Vl:=if first||decide (0 < cmpV v so * sign) then v else so
def best_min (so v:Vl) (first:Bool):bestV (-1) so v first=foldV .min so v first:=by
 unfold bestV foldV
 have:decide (0 < cmpV v so * -1)=decide (cmpV v so < 0):=by congr 1;apply propext;omega
 rw [this]
def best_max (so v:Vl) (first:Bool):bestV 1 so v first=foldV .max so v first:=by
 unfold bestV foldV
 have:decide (0 < cmpV v so * 1)=decide (0 < cmpV v so):=by congr 1;apply propext;omega
 rw [this]
def fd (us:List Vl) (i:Nat):(us.map vcs).flatten.take (i * 4)=((us.take i).map vcs).flatten:=by
 rw [cj i (rv us),List.map_take]
def ff (us:List Vl) (i:Nat):(us.map vcs).flatten.drop (i * 4)=((us.drop i).map vcs).flatten:=by
 rw [ko i (rv us),List.map_drop]
def ll (us:List Vl):∀ u∈(us.map vcs).flatten,u.oneCell'=true:=fun u hu=>by
 obtain ⟨cs,hc,h⟩:=List.mem_flatten.1 hu
 exact gc us cs hc u h
def ng {W:World} {B n:Nat} {v:Value} {us:List Vl} (hn:n=us.length) (h:W.ownsRow B 62 4 v n (us.map vcs).flatten):Own W B 62 4 v (us.map vcs):=by
 subst hn
 exact ⟨by rw [qd];exact h,rv us⟩
def del_own {W:World} {B:Nat} {v:Value} {us:List Vl} (ho:Own W B 62 4 v (us.map vcs)) (k:Nat) (hk:k < us.length):
  Calls Tryz.prog 120 #[v,.int .i64 k,.int .i64 ((k:Int)+1)] W fun e W'=>∃ v',e=.returned v'∧Own W' B 62 4 v' ((us.eraseIdx k).map vcs)∧Chg W W' (fun g=>v.ownBlock=some g)∧v'.ownBlock=v.ownBlock:=by
 have h:=delValue W B v (us.map vcs).length (us.map vcs).flatten ho.1 (ll us) k (k+1) (by omega) (by rw [qd];omega)
 rw [show ((k:Int)+1)=((k+1:Nat):Int) by omega]
 refine h.mono ?_
 rintro e W' ⟨v',rfl,h1,h2,h3⟩
 refine ⟨v',rfl,?_,(Chg.of_grown h2).mono (fun g _ hg=>hg.symm),h3⟩
 rw [fd,ff, ←List.flatten_append, ←jw, ←List.eraseIdx_eq_take_drop_succ] at h1
 exact ng (by rw [qd,uj];split <;> omega) h1
def ins_own {W:World} {B:Nat} {v:Value} {us:List Vl} (ho:Own W B 62 4 v (us.map vcs)) (k:Nat) (hk:k≤us.length) (hl:us.length≤100000) (hB:B≤W.heap.size) (x:Vl) (rb vc:Nat) (hb:Blk W rb 62 (vcs x).toArray) (hne:v.ownBlock≠some rb):
  Calls Tryz.prog 123 #[v,.int .i64 k,.slice (some ⟨rb,0,none⟩) 1 vc] W fun e W'=>∃ v',e=.returned v'∧Own W' B 62 4 v' ((us.take k++x::us.drop k).map vcs)∧Chg W W' (fun g=>v.ownBlock=some g)∧∀ g,v'.ownBlock=some g→v.ownBlock=some g∨W.heap.size≤g:=by
 have h:=insValue W B v (us.map vcs).length (us.map vcs).flatten ho.1 (ll us) k (by rw [qd];exact hk) rb vc (vcs x) rfl 62 hb hne (gc [x] _ (by simp)) (by rw [qd];omega) hB
 refine h.mono ?_
 rintro e W' ⟨v',rfl,h1,h2,h3⟩
 refine ⟨v',rfl,?_,(Chg.of_grown h2).mono (fun g _ hg=>hg.symm),fun g hg=>?_⟩
 ·rw [fd,ff,show ((us.take k).map vcs).flatten++vcs x++((us.drop k).map vcs).flatten=((us.take k++x::us.drop k).map vcs).flatten by simp] at h1
  exact ng (by rw [qd,qg,zf,ql,zw];omega) h1
 ·rcases h3 with h3| ⟨g',h4,h5⟩
  ·exact .inl (h3▸hg)
  ·rw [hg] at h4
   cases h4
   exact .inr h5
def ahd (r:Rw) (k:Nat) (x:Vl):Rw:=⟨r.name,r.args.eraseIdx k++[x],r.stamp⟩
def AheadPost (w:World) (r:Rw) (e:Ending) (w':World):Prop:=∃ v,e=.returned (.agg #[.string r.name,v,.int .i64 r.stamp])∧Own w' w.heap.size 62 4 v (r.args.map vcs)∧New w w'
def qcb (w:World) (xc:List Value) (r:Rw) (hx:RowAt w xc r) (k:Nat) (x:Vl) (hk:r.args[k]? =some x):
  Calls Tryz.prog 77 #[.agg xc.toArray,.int .i64 k] w (AheadPost w (ahd r k x)):=by
 have hlt:=(qv.1 hk).1
 obtain ⟨X,c,rfl,hl1000,hlc,hcm,hsrc,hXv⟩:=hx
 have hXl:∀ a,X=some a→a.block < w.heap.size:=fun a ha=>(hXv a ha).lt
 clear hXv
 obtain ⟨ax,hax,hrows⟩:=hsrc (by rw [qd];omega)
 subst hax
 obtain ⟨la,hla⟩:=qdp (r.args.length)
 rw [hla] at hlt hl1000 hlc⊢
 have Hla:=qq hla
 have hat:=(hrows k (vcs x) (by rw [qa,hk];rfl)).2
 change At _ _ [.int .i64 x.k,.int .i64 x.i,.string x.t,.slice none 0 0] at hat
 obtain ⟨w1,hw1⟩:=qdq (((w.alloc (.cells #[.string r.name,.slice (some ax) la c,.int .i64 r.stamp] 42)).alloc (.cells #[.string ⟨#[]⟩,.slice none 0 0,.int .i64 0] 42)).alloc (.cells #[.int .i64 x.k,.int .i64 x.i,.string x.t,.slice none 0 0] 62))
 have hN1:New w w1:=by rw [hw1];exact (((Chg.refl _ _).alloc _).alloc _).alloc _
 have b0:Blk w1 w.heap.size 42 #[.string r.name,.slice (some ax) la c,.int .i64 r.stamp]:=by rw [hw1];exact ((Blk.new w _ _).alloc _).alloc _
 have b1:Blk w1 (w.heap.size+1) 42 #[.string ⟨#[]⟩,.slice none 0 0,.int .i64 0]:=by
  have:=Blk.new (w.alloc (.cells #[.string r.name,.slice (some ax) la c,.int .i64 r.stamp] 42)) 42 #[.string ⟨#[]⟩,.slice none 0 0,.int .i64 0]
  simp only [World.size_alloc] at this
  rw [hw1];exact this.alloc _
 have b2:Blk w1 (w.heap.size+1+1) 62 #[.int .i64 x.k,.int .i64 x.i,.string x.t,.slice none 0 0]:=by
  have:=Blk.new ((w.alloc (.cells #[.string r.name,.slice (some ax) la c,.int .i64 r.stamp] 42)).alloc (.cells #[.string ⟨#[]⟩,.slice none 0 0,.int .i64 0] 42)) 62 #[.int .i64 x.k,.int .i64 x.i,.string x.t,.slice none 0 0]
  simp only [World.size_alloc] at this
  rw [hw1];exact this
 have hnd:New w1 w1.drew:=(Chg.refl _ _).drew
 have B0:=qq (b0.chg hnd id)
 have B1:=qq (b1.chg hnd id)
 have B2:=qq (b2.chg hnd id)
 have HND:=qq (hN1.trans hnd qdr)
 have HSd:=qq (hsrc.chg (hN1.trans hnd qdr) qdr)
 have Hat:=qq ((hat.chg ((Chg.refl _ (fun _=>False)).alloc (.cells #[.string r.name,.slice (some ax) la c,.int .i64 r.stamp] 42)) id).chg ((Chg.refl _ (fun _=>False)).alloc (.cells #[.string ⟨#[]⟩,.slice none 0 0,.int .i64 0] 42)) id)
 have HW1:=qq hw1
 have HK:=qq hk
 have q0:(0:Int)≤(k:Int):=by omega
 have q1:(k:Int) < (la:Int):=by omega
 have hXl':=hXl ax rfl
 clear b0 b1 b2 hnd hN1 hw1 hat hsrc hrows hk hXl hla
 go_enter Tryz.func77,Tryz.ntmps77
 go_upto_region 2 with ((with_reducible refine vq rfl (.tmp 9) 62 rfl vz (ax.add (k * 4)) [.int .i64 x.k,.int .i64 x.i,.string x.t,.slice none 0 0] ?_ rfl Hat.out ?_);exact rfl)
 rw [←HW1.out]
 refine vj (by kernel_rfl) ?_
 clear HW1 Hat
 generalize w1.drew=wd at B0 B1 B2 HND HSd⊢
 have hsz:=HND.out.size
 have kw:IntKind.i64.wrap ((k:Int)+1)=(k:Int)+1:=by rw [IntKind.wrap_i64];omega
 have eg1:=enters_of Tryz.func47 (by kernel_rfl) rfl
 have eg2:=enters_of Tryz.func120 (by kernel_rfl) rfl
 unfold Enters at eg1 eg2
 refine AtN.segF 0 11 0 [11,12,13,14,15,16,17,18,19,20,21] (fun _=>False) (fun
   |2=>true
   |6=>true
   |8=>true
   |9=>true
   |_=>false) (fun
   |2=>6
   |6=>9
   |8=>9
   |_=>999) (fun
   |0=>fun v _=>v=.pointer (some ⟨w.heap.size,1,none⟩)
   |1=>fun v _=>v=.slice (some ax) la c
   |2=>fun u W=>Own W w.heap.size 62 4 u ((r.args).map vcs)
   |3=>fun v _=>v=.int .i64 k
   |4=>fun v _=>v=.int .i64 k
   |5=>fun v _=>v=.int .i64 ((k:Int)+1)
   |6=>fun u W=>Own W w.heap.size 62 4 u ((r.args.eraseIdx k).map vcs)
   |7=>fun v _=>v=.agg #[.int .i64 x.k,.int .i64 x.i,.string x.t,.slice none 0 0]
   |8=>fun u W=>∃ rb,u=.slice (some ⟨rb,0,none⟩) 1 1∧Blk W rb 62 #[.int .i64 x.k,.int .i64 x.i,.string x.t,.slice none 0 0]
   |9=>fun u W=>Own W w.heap.size 62 4 u ((r.args.eraseIdx k++[x]).map vcs)
   |10=>fun v _=>v=.pointer (some ⟨w.heap.size,1,none⟩)
   |_=>fun _ _=>True:Nat→Value→World→Prop) (by kernel_rfl) (by kernel_rfl) (by kernel_rfl) (by kernel_rfl) (by kernel_rfl) (fun g hg=>hg.elim) (fun k u W1 W2 T' h hc ht hT=>?_) (fun i hn hi o ho A0 W b hJ hμ hin hkp hcn=>?_) (fun l W3 hN hl hΦ hap=>?_)
 ·match k with
  |2=>exact h.chg hc (fun g hg=>ht rfl g (gd hg))
  |6=>exact h.chg hc (fun g hg=>ht rfl g (gd hg))
  |8=>exact h.imp fun rb h=>⟨h.1,h.2.chg hc (ht rfl rb (by rw [h.1];rfl))⟩
  |9=>exact h.chg hc (fun g hg=>ht rfl g (gd hg))
  |0|1|3|4|5|7|10=>exact h
  |_+11=>trivial
 ·rcases (show i=0∨i=1∨i=2∨i=3∨i=4∨i=5∨i=6∨i=7∨i=8∨i=9∨i=10 by omega) with rfl|rfl|rfl|rfl|rfl|rfl|rfl|rfl|rfl|rfl|rfl<;>cases ho
  ·have h2:A0.tmps[2]?.getD undef=.pointer (some ⟨w.heap.size,0,none⟩):=hkp 2 (by kernel_rfl)
   refine .new rfl ?_
   exact .same (v:=.pointer (some ⟨w.heap.size,1,none⟩)) (by simp [go_sem,h2]) rfl
  ·have h11:A0.tmps[11]?.getD undef=.pointer (some ⟨w.heap.size,1,none⟩):=hin 0 11
   refine .new rfl ?_
   have hcx:W.cell? ⟨w.heap.size,1,none⟩=some (.slice (some ax) la c):=(B0.out.chg hJ.1 id).cell 1
   exact .same (v:=.slice (some ax) la c) (by simp [go_sem,h11,hcx]) rfl
  ·have h12:A0.tmps[12]?.getD undef=.slice (some ax) la c:=hin 1 12
   refine .make (.call (f:=47) (args:=#[.slice (some ax) la c]) (W':=W) ?_ ((fa W (some ax) la c (r.args.map vcs) (by rw [qd];exact Hla.out.symm) (HSd.out.chg hJ.1 qdr) (fun a ha=>by
    cases ha
    have:=hJ.1.size
    omega) (gc _) (by omega)).mono ?_))
   ·simp [go_sem,h12,eg1]
   ·rintro e w' ⟨v',rfl,hov,hc⟩
    exact ⟨v',rfl,hc,hov.base (qb hsz hJ.1.size),fun g hg=>by
     rw [hov.fpv] at hg
     exact hov.lt hg⟩
  ·refine .new rfl ?_
   exact .same (uo 1 (.int .i64 k) rfl (hkp 1 (by kernel_rfl))) rfl
  ·refine .new rfl ?_
   exact .same (uo 1 (.int .i64 k) rfl (hkp 1 (by kernel_rfl))) rfl
  ·have h15:A0.tmps[15]?.getD undef=.int .i64 k:=hin 4 15
   refine .new rfl ?_
   exact .same (v:=.int .i64 ((k:Int)+1)) (by simp [go_sem,h15,kw]) rfl
  ·have h13:(fun u W=>Own W w.heap.size 62 4 u ((r.args).map vcs):Value→World→Prop) (A0.tmps[13]?.getD undef) W:=hin 2 13
   have h14:A0.tmps[14]?.getD undef=.int .i64 k:=hin 3 14
   have h16:A0.tmps[16]?.getD undef=.int .i64 ((k:Int)+1):=hin 5 16
   refine GivesF.call 120 #[A0.tmps[13]?.getD undef,.int .i64 k,.int .i64 ((k:Int)+1)] ?_ ((del_own h13 k (by rw [Hla.out];exact hlt)).mono ?_)
   ·simp [go_sem,h14,h16,eg2]
   ·rintro e w' ⟨v',rfl,hov,hc,hob⟩
    refine ⟨v',rfl,hov,_,hc,fun g _ hg=>.inl ⟨2,13,by kernel_rfl,gd hg⟩,fun _ g hg=>?_⟩
    rw [hov.fpv] at hg
    exact ⟨(hov.lt hg).2,.inl ⟨2,13,by kernel_rfl,by rw [hob] at hg;exact gd hg⟩⟩
  ·have h5:A0.tmps[5]?.getD undef=.pointer (some ⟨w.heap.size+1+1,0,none⟩):=hkp 5 (by kernel_rfl)
   refine .new rfl ?_
   exact .same (vu 5 _ rfl vz ⟨w.heap.size+1+1,0,none⟩ [.int .i64 x.k,.int .i64 x.i,.string x.t,.slice none 0 0] h5 rfl (B2.out.chg hJ.1 id).at_) rfl
  ·have h18:A0.tmps[18]?.getD undef=.agg #[.int .i64 x.k,.int .i64 x.i,.string x.t,.slice none 0 0]:=hin 7 18
   exact .make (.value (W':=W.alloc (.cells #[.int .i64 x.k,.int .i64 x.i,.string x.t,.slice none 0 0] 62)) (v:=.slice (some ⟨W.heap.size,0,none⟩) 1 1) (by simp [go_sem,h18]) ⟨(Chg.refl _ _).alloc _,⟨_,rfl,Blk.new _ _ _⟩,fun g hg=>by cases hg;exact ⟨qh _,by simp⟩⟩)
  ·have h17:(fun u W=>Own W w.heap.size 62 4 u ((r.args.eraseIdx k).map vcs):Value→World→Prop) (A0.tmps[17]?.getD undef) W:=hin 6 17
   have h19:(fun u W=>∃ rb,u=.slice (some ⟨rb,0,none⟩) 1 1∧Blk W rb 62 #[.int .i64 x.k,.int .i64 x.i,.string x.t,.slice none 0 0]:Value→World→Prop) (A0.tmps[19]?.getD undef) W:=hin 8 19
   obtain ⟨ro,eo,hb8⟩:=h19
   obtain ⟨v1,W',hrun,hown,hchg,hblk⟩:=fz.appendS h17 (qb hsz hJ.1.size) (some ⟨ro,0,none⟩) 1 1 [vcs x] rfl (fun cs hc=>by simp only [qp,qm,or_false] at hc;subst hc;rfl) (fun cs hc=>by simp only [qp,qm,or_false] at hc;subst hc;exact gc [x] _ (by simp)) (fun _=>⟨_,rfl,fun j cs hj=>by
    match j,hj with
    |0,hj=>cases hj;exact ⟨rfl,by rw [yo];exact (show Blk W ro _ (vcs x).toArray from hb8).at_⟩
    |j+1,hj=>simp at hj⟩) (by rw [qd,uj];have:=Hla.out;split <;> omega) (by rw [qd,uj];have:=Hla.out;unfold maxLen;split <;> omega) 40
   have hown':Own W' w.heap.size 62 4 v1 ((r.args.eraseIdx k++[x]).map vcs):=by rw [jw];exact hown
   refine GivesF.value _ (gj _ _ _ _ rfl (by simp [Act.eval]) (by simpa [Act.eval] using eo) hrun) hown' hchg (fun g _ hg=>.inl ⟨6,17,by kernel_rfl,gd hg⟩) (fun g hg=>?_)
   rw [hown'.fpv] at hg
   exact ⟨(hown'.lt hg).2,(hblk g hg).elim (fun h=>.inl ⟨6,17,by kernel_rfl,gd h⟩) (fun h=>.inr (.inl h))⟩
  ·have h2:A0.tmps[2]?.getD undef=.pointer (some ⟨w.heap.size,0,none⟩):=hkp 2 (by kernel_rfl)
   refine .new rfl ?_
   exact .same (v:=.pointer (some ⟨w.heap.size,1,none⟩)) (by simp [go_sem,h2]) rfl
 obtain ⟨x11,x12,x13,x14,x15,x16,x17,x18,x19,x20,x21,rfl⟩:∃ x11 x12 x13 x14 x15 x16 x17 x18 x19 x20 x21,l=[x11,x12,x13,x14,x15,x16,x17,x18,x19,x20,x21]:=by
  match l,hl with
  | [x11,x12,x13,x14,x15,x16,x17,x18,x19,x20,x21],_=>exact ⟨_,_,_,_,_,_,_,_,_,_,_,rfl⟩
 obtain rfl:x11=.pointer (some ⟨w.heap.size,1,none⟩):=hΦ 0 (by decide) (by decide)
 obtain rfl:x12=.slice (some ax) la c:=hΦ 1 (by decide) (by decide)
 obtain rfl:x14=.int .i64 k:=hΦ 3 (by decide) (by decide)
 obtain rfl:x15=.int .i64 k:=hΦ 4 (by decide) (by decide)
 obtain rfl:x16=.int .i64 ((k:Int)+1):=hΦ 5 (by decide) (by decide)
 obtain rfl:x18=.agg #[.int .i64 x.k,.int .i64 x.i,.string x.t,.slice none 0 0]:=hΦ 7 (by decide) (by decide)
 have hx20:(fun u W=>Own W w.heap.size 62 4 u ((r.args.eraseIdx k++[x]).map vcs):Value→World→Prop) x20 W3:=hΦ 9 (by decide) (by decide)
 obtain rfl:x21=.pointer (some ⟨w.heap.size,1,none⟩):=hΦ 10 (by decide) (by decide)
 simp only [putsL,zq,zj,zz,List.zip,List.zipWith,Act.put,qk,qu,qy]
 clear hΦ hl
 obtain ⟨An,cn,hvn,_,_⟩:=hx20.form
 obtain ⟨nn,hnn⟩:=qdp ((List.map vcs (r.args.eraseIdx k++[x])).length)
 rw [hnn] at hvn
 clear hnn
 have hb0:=B0.out.chg hN id
 have hb1:=B1.out.chg hN id
 have hNn:New w W3:=HND.out.trans hN qdr
 have c1:=hb0.cell 1
 have f1:=hb0.frozen 1
 simp only [qx,qj,qw] at c1
 have hb0':Blk (W3.setCell ⟨w.heap.size,1,none⟩ x20) w.heap.size 42 #[.string r.name,x20,.int .i64 r.stamp]:=by simpa using hb0.setCell 1 x20
 have hne:∀ g,x20.ownBlock=some g→g≠w.heap.size:=fun g hg e=>xg hx20 hb0 (by decide) (by rw [hg,e])
 have hne1:∀ g,x20.ownBlock=some g→g≠w.heap.size+1:=fun g hg e=>xg hx20 hb1 (by decide) (by rw [hg,e])
 have hb1':Blk (W3.setCell ⟨w.heap.size,1,none⟩ x20) (w.heap.size+1) 42 #[.string ⟨#[]⟩,.slice none 0 0,.int .i64 0]:=hb1.far (p:=⟨w.heap.size,1,none⟩) (by simp) x20
 have hov':Own (W3.setCell ⟨w.heap.size,1,none⟩ x20) w.heap.size 62 4 x20 ((r.args.eraseIdx k++[x]).map vcs):=hx20.chg (T:=fun k=>k=w.heap.size) ((Chg.refl _ _).setCell _ _ (fun _=>rfl)) (fun g hg e=>hne g hg e)
 have hN':New w (W3.setCell ⟨w.heap.size,1,none⟩ x20):=hNn.setCell ⟨w.heap.size,1,none⟩ x20 (fun h=>absurd h (by simp))
 subst hvn
 have Hat0:=qq (show At (W3.setCell ⟨w.heap.size,1,none⟩ (.slice An nn cn)) ⟨w.heap.size,0,none⟩ [.string r.name,.slice An nn cn,.int .i64 r.stamp] from hb0'.at_)
 have HB1:=qq hb1'
 have HOv:=qq (hov'.chg (T:=fun k=>k=w.heap.size+1) ((Chg.refl _ _).setRow (w.heap.size+1) #[.string r.name,.slice An nn cn,.int .i64 r.stamp] (fun _=>rfl)) (fun g hg e=>hne1 g hg e))
 have HNf:=qq (hN'.setRow (w.heap.size+1) #[.string r.name,.slice An nn cn,.int .i64 r.stamp] (fun h=>by omega))
 have Hst:=qq (show At ((W3.setCell ⟨w.heap.size,1,none⟩ (.slice An nn cn)).setRow (w.heap.size+1) #[.string r.name,.slice An nn cn,.int .i64 r.stamp]) ⟨w.heap.size+1,0,none⟩ [.string r.name,.slice An nn cn,.int .i64 r.stamp] from (show Blk _ _ 42 ([.string r.name,.slice An nn cn,.int .i64 r.stamp]:List Value).toArray from hb1'.set _).at_)
 have hlay:layA #[.string ⟨#[]⟩,.slice none 0 0,.int .i64 0] 0 [.string r.name,.slice An nn cn,.int .i64 r.stamp]=#[.string r.name,.slice An nn cn,.int .i64 r.stamp]:=rfl
 have Hone:=qq (show ∀ u∈[Value.string r.name,.slice An nn cn,.int .i64 r.stamp],u.oneCell'=true from fun u hu=>by
  simp only [qp,qm,or_false] at hu
  rcases hu with rfl|rfl|rfl <;> rfl)
 clear hx20 hb0 hb1 hb0' hb1' hov' hN' hne hne1 hNn hN B0 B1 B2 HND HSd hap
 refine AtN.list 11 12 (by kernel_rfl) ?_
 change wpList _ _ _ [_] _ _
 go_wp2_with fail
 change AtN _ _ _ 12 _ _
 refine AtN.done rfl ?_
 go_wp2_with (first| ((with_reducible refine vq rfl (.tmp 2) 42 rfl vd ⟨w.heap.size,0,none⟩ [.string r.name,.slice An nn cn,.int .i64 r.stamp] ?_ rfl Hat0.out ?_);exact rfl)| ((with_reducible refine vf rfl (.tmp 4) (.tmp 22) 42 rfl vd (w.heap.size+1) 0 42 #[.string ⟨#[]⟩,.slice none 0 0,.int .i64 0] [.string r.name,.slice An nn cn,.int .i64 r.stamp] ?_ ?_ HB1.out rfl (by decide) Hone.out ?_);exact rfl;exact rfl))
 refine bodyPost_ret (v:=.agg #[.string r.name,.slice An nn cn,.int .i64 r.stamp]) (xh vd rfl _ _ ⟨w.heap.size+1,0,none⟩ [.string r.name,.slice An nn cn,.int .i64 r.stamp] rfl Hst.out rfl) rfl ⟨_,rfl,HOv.out,HNf.out⟩
def back_row (w:World) (xc:List Value) (r:Rw) (hx:RowAt w xc r) (us:List Vl) (x:Vl) (hr:r.args=us++[x]) (k:Nat) (hk:k≤us.length):
  Calls Tryz.prog 81 #[.agg xc.toArray,.int .i64 k] w (AheadPost w ⟨r.name,us.take k++x::us.drop k,r.stamp⟩):=by
 obtain ⟨l0,hl0⟩:=qdp (us.length)
 have hla:r.args.length=l0+1:=by rw [hr,qg,hl0];rfl
 have hgx:r.args[l0]? =some x:=by rw [hr, ←hl0,qi (qh _),yh];rfl
 obtain ⟨X,c,rfl,hl1000,hlc,hcm,hsrc,hXv⟩:=hx
 have hXl:∀ a,X=some a→a.block < w.heap.size:=fun a ha=>(hXv a ha).lt
 clear hXv
 obtain ⟨ax,hax,hrows⟩:=hsrc (by rw [qd];omega)
 subst hax
 rw [hla] at hl1000 hlc⊢
 rw [hl0] at hk
 have hat:=(hrows l0 (vcs x) (by rw [qa,hgx];rfl)).2
 change At _ _ [.int .i64 x.k,.int .i64 x.i,.string x.t,.slice none 0 0] at hat
 have hsu:SrcAt w (some ax) 4 (us.map vcs):=by
  have:=hsrc.take l0
  rw [hr,jw,List.take_left' (by rw [qd,hl0])] at this
  exact this
 obtain ⟨w1,hw1⟩:=qdq ((w.alloc (.cells #[.string r.name,.slice (some ax) (l0+1) c,.int .i64 r.stamp] 42)).alloc (.cells #[.string ⟨#[]⟩,.slice none 0 0,.int .i64 0] 42))
 have hN1:New w w1:=by rw [hw1];exact ((Chg.refl _ _).alloc _).alloc _
 have b0:Blk w1 w.heap.size 42 #[.string r.name,.slice (some ax) (l0+1) c,.int .i64 r.stamp]:=by rw [hw1];exact (Blk.new w _ _).alloc _
 have b1:Blk w1 (w.heap.size+1) 42 #[.string ⟨#[]⟩,.slice none 0 0,.int .i64 0]:=by
  have:=Blk.new (w.alloc (.cells #[.string r.name,.slice (some ax) (l0+1) c,.int .i64 r.stamp] 42)) 42 #[.string ⟨#[]⟩,.slice none 0 0,.int .i64 0]
  simp only [World.size_alloc] at this
  rw [hw1];exact this
 have hnd:New w1 w1.drew:=(Chg.refl _ _).drew
 have hND:=hN1.trans hnd qdr
 have B0:=qq (b0.chg hnd id)
 have B1:=qq (b1.chg hnd id)
 have HND:=qq hND
 have HSd:=qq (hsu.chg hND qdr)
 have Hat:=qq (hat.chg hND id)
 have HW1:=qq hw1
 have Hl0:=qq hl0
 have hXl':=hXl ax rfl
 clear b0 b1 hnd hN1 hND hw1 hat hsrc hsu hrows hXl hla hgx hl0 hr
 go_enter Tryz.func81,Tryz.ntmps81
 go_upto_region 2 with fail
 rw [←HW1.out]
 refine vj (by kernel_rfl) ?_
 clear HW1
 generalize w1.drew=wd at B0 B1 HND HSd Hat⊢
 have hsz:=HND.out.size
 have eg1:=enters_of Tryz.func47 (by kernel_rfl) rfl
 have eg2:=enters_of Tryz.func123 (by kernel_rfl) rfl
 unfold Enters at eg1 eg2
 have q0:(0:Int)≤(l0:Int):=by omega
 have q1:(l0:Int)≤(c:Int):=by omega
 have q2:(l0:Int) < ((l0+1:Nat):Int):=by omega
 have q3:l0≤c:=by omega
 have q4:l0 < l0+1:=by omega
 have q5:(l0:Int) < (l0:Int)+1:=by omega
 refine AtN.segF 0 14 0 [10,11,12,13,14,15,16,17,18,19,20,21,22,23] (fun _=>False) (fun
   |4=>true
   |11=>true
   |12=>true
   |_=>false) (fun
   |4=>12
   |11=>12
   |_=>999) (fun
   |0=>fun v _=>v=.pointer (some ⟨w.heap.size,1,none⟩)
   |1=>fun v _=>v=.slice (some ax) (l0+1) c
   |2=>fun v _=>v=.int .i64 l0
   |3=>fun v _=>v=.slice (some ax) l0 c
   |4=>fun u W=>Own W w.heap.size 62 4 u ((us).map vcs)
   |5=>fun v _=>v=.int .i64 k
   |6=>fun v _=>v=.pointer (some ⟨w.heap.size,1,none⟩)
   |7=>fun v _=>v=.slice (some ax) (l0+1) c
   |8=>fun v _=>v=.int .i64 l0
   |9=>fun v _=>v=.pointer (some (ax.add (l0 * 4)))
   |10=>fun v _=>v=.agg #[.int .i64 x.k,.int .i64 x.i,.string x.t,.slice none 0 0]
   |11=>fun u W=>∃ rb,u=.slice (some ⟨rb,0,none⟩) 1 1∧Blk W rb 62 #[.int .i64 x.k,.int .i64 x.i,.string x.t,.slice none 0 0]
   |12=>fun u W=>Own W w.heap.size 62 4 u ((us.take k++x::us.drop k).map vcs)
   |13=>fun v _=>v=.pointer (some ⟨w.heap.size,1,none⟩)
   |_=>fun _ _=>True:Nat→Value→World→Prop) (by kernel_rfl) (by kernel_rfl) (by kernel_rfl) (by kernel_rfl) (by kernel_rfl) (fun g hg=>hg.elim) (fun k u W1 W2 T' h hc ht hT=>?_) (fun i hn hi o ho A0 W b hJ hμ hin hkp hcn=>?_) (fun l W3 hN hl hΦ hap=>?_)
 ·match k with
  |4=>exact h.chg hc (fun g hg=>ht rfl g (gd hg))
  |11=>exact h.imp fun rb h=>⟨h.1,h.2.chg hc (ht rfl rb (by rw [h.1];rfl))⟩
  |12=>exact h.chg hc (fun g hg=>ht rfl g (gd hg))
  |0|1|2|3|5|6|7|8|9|10|13=>exact h
  |_+14=>trivial
 ·rcases (show i=0∨i=1∨i=2∨i=3∨i=4∨i=5∨i=6∨i=7∨i=8∨i=9∨i=10∨i=11∨i=12∨i=13 by omega) with rfl|rfl|rfl|rfl|rfl|rfl|rfl|rfl|rfl|rfl|rfl|rfl|rfl|rfl<;>cases ho
  ·have h2:A0.tmps[2]?.getD undef=.pointer (some ⟨w.heap.size,0,none⟩):=hkp 2 (by kernel_rfl)
   refine .new rfl ?_
   exact .same (v:=.pointer (some ⟨w.heap.size,1,none⟩)) (by simp [go_sem,h2]) rfl
  ·have h10:A0.tmps[10]?.getD undef=.pointer (some ⟨w.heap.size,1,none⟩):=hin 0 10
   refine .new rfl ?_
   have hcx:W.cell? ⟨w.heap.size,1,none⟩=some (.slice (some ax) (l0+1) c):=(B0.out.chg hJ.1 id).cell 1
   exact .same (v:=.slice (some ax) (l0+1) c) (by simp [go_sem,h10,hcx]) rfl
  ·refine .new rfl ?_
   exact .same (uo 5 (.int .i64 l0) rfl (hkp 5 (by kernel_rfl))) rfl
  ·have h11:A0.tmps[11]?.getD undef=.slice (some ax) (l0+1) c:=hin 1 11
   have h12:A0.tmps[12]?.getD undef=.int .i64 l0:=hin 2 12
   refine .new rfl ?_
   exact .same (v:=.slice (some ax) l0 c) (by simp [go_sem,h11,h12,q0,q1,q2,q3,q4,q5]) rfl
  ·have h13:A0.tmps[13]?.getD undef=.slice (some ax) l0 c:=hin 3 13
   refine .make (.call (f:=47) (args:=#[.slice (some ax) l0 c]) (W':=W) ?_ ((fa W (some ax) l0 c (us.map vcs) (by rw [qd];exact Hl0.out.symm) (HSd.out.chg hJ.1 qdr) (fun a ha=>by
    cases ha
    have:=hJ.1.size
    omega) (gc _) (by omega)).mono ?_))
   ·simp [go_sem,h13,eg1]
   ·rintro e w' ⟨v',rfl,hov,hc⟩
    exact ⟨v',rfl,hc,hov.base (qb hsz hJ.1.size),fun g hg=>by
     rw [hov.fpv] at hg
     exact hov.lt hg⟩
  ·refine .new rfl ?_
   exact .same (uo 1 (.int .i64 k) rfl (hkp 1 (by kernel_rfl))) rfl
  ·have h2:A0.tmps[2]?.getD undef=.pointer (some ⟨w.heap.size,0,none⟩):=hkp 2 (by kernel_rfl)
   refine .new rfl ?_
   exact .same (v:=.pointer (some ⟨w.heap.size,1,none⟩)) (by simp [go_sem,h2]) rfl
  ·have h16:A0.tmps[16]?.getD undef=.pointer (some ⟨w.heap.size,1,none⟩):=hin 6 16
   refine .new rfl ?_
   have hcx:W.cell? ⟨w.heap.size,1,none⟩=some (.slice (some ax) (l0+1) c):=(B0.out.chg hJ.1 id).cell 1
   exact .same (v:=.slice (some ax) (l0+1) c) (by simp [go_sem,h16,hcx]) rfl
  ·refine .new rfl ?_
   exact .same (uo 5 (.int .i64 l0) rfl (hkp 5 (by kernel_rfl))) rfl
  ·have h17:A0.tmps[17]?.getD undef=.slice (some ax) (l0+1) c:=hin 7 17
   have h18:A0.tmps[18]?.getD undef=.int .i64 l0:=hin 8 18
   refine .new rfl ?_
   exact .same (v:=.pointer (some (ax.add (l0 * 4)))) (by simp [go_sem,h17,h18,q0,q1,q2,q3,q4,q5]) rfl
  ·have h19:A0.tmps[19]?.getD undef=.pointer (some (ax.add (l0 * 4))):=hin 9 19
   refine .new rfl ?_
   exact .same (vu 19 _ rfl vz (ax.add (l0 * 4)) [.int .i64 x.k,.int .i64 x.i,.string x.t,.slice none 0 0] h19 rfl (Hat.out.chg hJ.1 id)) rfl
  ·have h20:A0.tmps[20]?.getD undef=.agg #[.int .i64 x.k,.int .i64 x.i,.string x.t,.slice none 0 0]:=hin 10 20
   exact .make (.value (W':=W.alloc (.cells #[.int .i64 x.k,.int .i64 x.i,.string x.t,.slice none 0 0] 62)) (v:=.slice (some ⟨W.heap.size,0,none⟩) 1 1) (by simp [go_sem,h20]) ⟨(Chg.refl _ _).alloc _,⟨_,rfl,Blk.new _ _ _⟩,fun g hg=>by cases hg;exact ⟨qh _,by simp⟩⟩)
  ·have h14:(fun u W=>Own W w.heap.size 62 4 u ((us).map vcs):Value→World→Prop) (A0.tmps[14]?.getD undef) W:=hin 4 14
   have h15:A0.tmps[15]?.getD undef=.int .i64 k:=hin 5 15
   have h21:(fun u W=>∃ rb,u=.slice (some ⟨rb,0,none⟩) 1 1∧Blk W rb 62 #[.int .i64 x.k,.int .i64 x.i,.string x.t,.slice none 0 0]:Value→World→Prop) (A0.tmps[21]?.getD undef) W:=hin 11 21
   obtain ⟨ro,eo,hb8⟩:=h21
   have hdis:(A0.tmps[14]?.getD undef).ownBlock≠some ro:=by
    intro he
    exact hcn 4 14 11 21 ro (by kernel_rfl) (by kernel_rfl) (by decide) (gd he) (by rw [eo];rfl)
   refine GivesF.call 123 #[A0.tmps[14]?.getD undef,.int .i64 k,.slice (some ⟨ro,0,none⟩) 1 1] ?_ ((ins_own h14 k (by rw [Hl0.out];exact hk) (by rw [Hl0.out];omega) (qb hsz hJ.1.size) x ro 1 hb8 hdis).mono ?_)
   ·simp [go_sem,h15,eo,eg2]
   ·rintro e w' ⟨v',rfl,hov,hc,hob⟩
    refine ⟨v',rfl,hov,_,hc,fun g _ hg=>.inl ⟨4,14,by kernel_rfl,gd hg⟩,fun _ g hg=>?_⟩
    rw [hov.fpv] at hg
    exact ⟨(hov.lt hg).2,(hob g hg).elim (fun h=>.inl ⟨4,14,by kernel_rfl,gd h⟩) (fun h=>.inr (.inl h))⟩
  ·have h2:A0.tmps[2]?.getD undef=.pointer (some ⟨w.heap.size,0,none⟩):=hkp 2 (by kernel_rfl)
   refine .new rfl ?_
   exact .same (v:=.pointer (some ⟨w.heap.size,1,none⟩)) (by simp [go_sem,h2]) rfl
 obtain ⟨x10,x11,x12,x13,x14,x15,x16,x17,x18,x19,x20,x21,x22,x23,rfl⟩:∃ x10 x11 x12 x13 x14 x15 x16 x17 x18 x19 x20 x21 x22 x23,l=[x10,x11,x12,x13,x14,x15,x16,x17,x18,x19,x20,x21,x22,x23]:=by
  match l,hl with
  | [x10,x11,x12,x13,x14,x15,x16,x17,x18,x19,x20,x21,x22,x23],_=>exact ⟨_,_,_,_,_,_,_,_,_,_,_,_,_,_,rfl⟩
 obtain rfl:x10=.pointer (some ⟨w.heap.size,1,none⟩):=hΦ 0 (by decide) (by decide)
 obtain rfl:x11=.slice (some ax) (l0+1) c:=hΦ 1 (by decide) (by decide)
 obtain rfl:x12=.int .i64 l0:=hΦ 2 (by decide) (by decide)
 obtain rfl:x13=.slice (some ax) l0 c:=hΦ 3 (by decide) (by decide)
 obtain rfl:x15=.int .i64 k:=hΦ 5 (by decide) (by decide)
 obtain rfl:x16=.pointer (some ⟨w.heap.size,1,none⟩):=hΦ 6 (by decide) (by decide)
 obtain rfl:x17=.slice (some ax) (l0+1) c:=hΦ 7 (by decide) (by decide)
 obtain rfl:x18=.int .i64 l0:=hΦ 8 (by decide) (by decide)
 obtain rfl:x19=.pointer (some (ax.add (l0 * 4))):=hΦ 9 (by decide) (by decide)
 obtain rfl:x20=.agg #[.int .i64 x.k,.int .i64 x.i,.string x.t,.slice none 0 0]:=hΦ 10 (by decide) (by decide)
 have hx22:(fun u W=>Own W w.heap.size 62 4 u ((us.take k++x::us.drop k).map vcs):Value→World→Prop) x22 W3:=hΦ 12 (by decide) (by decide)
 obtain rfl:x23=.pointer (some ⟨w.heap.size,1,none⟩):=hΦ 13 (by decide) (by decide)
 simp only [putsL,zq,zj,zz,List.zip,List.zipWith,Act.put,qk,qu,qy]
 clear hΦ hl
 obtain ⟨An,cn,hvn,_,_⟩:=hx22.form
 obtain ⟨nn,hnn⟩:=qdp ((List.map vcs (us.take k++x::us.drop k)).length)
 rw [hnn] at hvn
 clear hnn
 have hb0:=B0.out.chg hN id
 have hb1:=B1.out.chg hN id
 have hNn:New w W3:=HND.out.trans hN qdr
 have c1:=hb0.cell 1
 have f1:=hb0.frozen 1
 simp only [qx,qj,qw] at c1
 have hb0':Blk (W3.setCell ⟨w.heap.size,1,none⟩ x22) w.heap.size 42 #[.string r.name,x22,.int .i64 r.stamp]:=by simpa using hb0.setCell 1 x22
 have hne:∀ g,x22.ownBlock=some g→g≠w.heap.size:=fun g hg e=>xg hx22 hb0 (by decide) (by rw [hg,e])
 have hne1:∀ g,x22.ownBlock=some g→g≠w.heap.size+1:=fun g hg e=>xg hx22 hb1 (by decide) (by rw [hg,e])
 have hb1':Blk (W3.setCell ⟨w.heap.size,1,none⟩ x22) (w.heap.size+1) 42 #[.string ⟨#[]⟩,.slice none 0 0,.int .i64 0]:=hb1.far (p:=⟨w.heap.size,1,none⟩) (by simp) x22
 have hov':Own (W3.setCell ⟨w.heap.size,1,none⟩ x22) w.heap.size 62 4 x22 ((us.take k++x::us.drop k).map vcs):=hx22.chg (T:=fun k=>k=w.heap.size) ((Chg.refl _ _).setCell _ _ (fun _=>rfl)) (fun g hg e=>hne g hg e)
 have hN':New w (W3.setCell ⟨w.heap.size,1,none⟩ x22):=hNn.setCell ⟨w.heap.size,1,none⟩ x22 (fun h=>absurd h (by simp))
 subst hvn
 have Hat0:=qq (show At (W3.setCell ⟨w.heap.size,1,none⟩ (.slice An nn cn)) ⟨w.heap.size,0,none⟩ [.string r.name,.slice An nn cn,.int .i64 r.stamp] from hb0'.at_)
 have HB1:=qq hb1'
 have HOv:=qq (hov'.chg (T:=fun k=>k=w.heap.size+1) ((Chg.refl _ _).setRow (w.heap.size+1) #[.string r.name,.slice An nn cn,.int .i64 r.stamp] (fun _=>rfl)) (fun g hg e=>hne1 g hg e))
 have HNf:=qq (hN'.setRow (w.heap.size+1) #[.string r.name,.slice An nn cn,.int .i64 r.stamp] (fun h=>by omega))
 have Hst:=qq (show At ((W3.setCell ⟨w.heap.size,1,none⟩ (.slice An nn cn)).setRow (w.heap.size+1) #[.string r.name,.slice An nn cn,.int .i64 r.stamp]) ⟨w.heap.size+1,0,none⟩ [.string r.name,.slice An nn cn,.int .i64 r.stamp] from (show Blk _ _ 42 ([.string r.name,.slice An nn cn,.int .i64 r.stamp]:List Value).toArray from hb1'.set _).at_)
 have hlay:layA #[.string ⟨#[]⟩,.slice none 0 0,.int .i64 0] 0 [.string r.name,.slice An nn cn,.int .i64 r.stamp]=#[.string r.name,.slice An nn cn,.int .i64 r.stamp]:=rfl
 have Hone:=qq (show ∀ u∈[Value.string r.name,.slice An nn cn,.int .i64 r.stamp],u.oneCell'=true from fun u hu=>by
  simp only [qp,qm,or_false] at hu
  rcases hu with rfl|rfl|rfl <;> rfl)
 clear hx22 hb0 hb1 hb0' hb1' hov' hN' hne hne1 hNn hN B0 B1 HND HSd Hat hap
 refine AtN.list 14 15 (by kernel_rfl) ?_
 change wpList _ _ _ [_] _ _
 go_wp2_with fail
 change AtN _ _ _ 15 _ _
 refine AtN.done rfl ?_
 go_wp2_with (first| ((with_reducible refine vq rfl (.tmp 2) 42 rfl vd ⟨w.heap.size,0,none⟩ [.string r.name,.slice An nn cn,.int .i64 r.stamp] ?_ rfl Hat0.out ?_);exact rfl)| ((with_reducible refine vf rfl (.tmp 4) (.tmp 24) 42 rfl vd (w.heap.size+1) 0 42 #[.string ⟨#[]⟩,.slice none 0 0,.int .i64 0] [.string r.name,.slice An nn cn,.int .i64 r.stamp] ?_ ?_ HB1.out rfl (by decide) Hone.out ?_);exact rfl;exact rfl))
 refine bodyPost_ret (v:=.agg #[.string r.name,.slice An nn cn,.int .i64 r.stamp]) (xh vd rfl _ _ ⟨w.heap.size+1,0,none⟩ [.string r.name,.slice An nn cn,.int .i64 r.stamp] rfl Hst.out rfl) rfl ⟨_,rfl,HOv.out,HNf.out⟩
def eq_val (a b:Vl) (w:World):Calls Tryz.prog 122 #[.agg #[.int .i64 a.k,.int .i64 a.i,.string a.t,.slice none 0 0],.agg #[.int .i64 b.k,.int .i64 b.i,.string b.t,.slice none 0 0]] w fun e w'=>e=.returned (.bool (decide (cmpV a b=0)))∧New w w':=by
 obtain ⟨w1,hw1⟩:=qdq ((w.alloc (.cells #[.int .i64 a.k,.int .i64 a.i,.string a.t,.slice none 0 0] 62)).alloc (.cells #[.int .i64 b.k,.int .i64 b.i,.string b.t,.slice none 0 0] 62))
 have hN1:New w w1:=by rw [hw1];exact ((Chg.refl _ _).alloc _).alloc _
 obtain ⟨q,hq⟩:=qdp (cmpV a b)
 have hc:=ke a b w1
 rw [hq] at hc⊢
 have Hc:=qq hc
 have HN1:=qq hN1
 have HW1:=qq hw1
 clear hc hN1 hw1 hq
 go_enter Tryz.func122,Tryz.ntmps122
 go_wp2_with fail
 rw [←HW1.out]
 refine Hc.out.mono ?_
 rintro e w2 ⟨rfl,hN2⟩
 have HN2:=qq (HN1.out.trans hN2 qdr)
 clear hN2
 have hd:(q == 0)=decide (q=0):=by by_cases h:q=0 <;> simp [h]
 have Hd:=qq hd
 clear hd
 go_wp2_with fail
 go_ret
 exact ⟨congrArg (fun z=>Ending.returned (.bool z)) (by first|exact Hd.out|rfl),HN2.out⟩
def eq_vals (w:World) (A:Option Addr) (n c:Nat) (B:Option Addr) (d:Nat) (us vs:List Vl) (hn:n=us.length) (hm:n=vs.length) (hnb:n≤100000000) (hA:SrcAt w A 4 (us.map vcs)) (hB:SrcAt w B 4 (vs.map vcs)):
  Calls Tryz.prog 121 #[.slice A n c,.slice B n d,.func (.func 122) #[] #[]] w fun e w'=>e=.returned (.bool (decide (cmpL cmpV us vs=0)))∧New w w':=by
 have eg:=enters_of Tryz.func122 (by kernel_rfl) rfl
 unfold Enters at eg
 obtain ⟨R,hR⟩:=qdp (cmpL cmpV us vs)
 rw [hR]
 have hnn:((n:Int) != (n:Int))=false:=by simp
 have HA:=qq hA
 have HB:=qq hB
 have HN:=qq hn
 have HM:=qq hm
 have HR:=qq hR
 clear hA hB hn hm hR
 go_enter Tryz.func121,Tryz.ntmps121
 go_wp2_with fail
 go_loopw [17] (fun u17 wr=>∃ k:Nat,k≤n∧u17=.int .i64 k∧New w wr∧cmpL cmpV (us.drop k) (vs.drop k)=R) (fun u _=>n - (intOf u).toNat)
 case atStart=>exact ⟨0,qr _,rfl,Chg.refl _ _,by rw [List.drop_zero,List.drop_zero];exact HR.out⟩
 case round=>
  obtain ⟨k,hkn,rfl,hN,hr⟩:=hrel
  have HNw:=qq hN
  have Hr:=qq hr
  clear hN hr
  by_cases hlt:k < n
  ·obtain ⟨x,hx⟩:∃ x,us[k]? =some x:=⟨_,qz (by rw [←HN.out];exact hlt)⟩
   obtain ⟨ad,rfl,hrA⟩:=HA.out (by rw [qd, ←HN.out];omega)
   have hat:=(hrA k (vcs x) (by rw [qa,hx];rfl)).2.chg HNw.out id
   change At _ _ [.int .i64 x.k,.int .i64 x.i,.string x.t,.slice none 0 0] at hat
   have Hat:=qq hat
   have Hx:=qq hx
   clear hat hx hrA
   have k0:(0:Int)≤(k:Int):=by omega
   have k1:(k:Int) < (n:Int):=by omega
   obtain ⟨y,hy⟩:∃ y,vs[k]? =some y:=⟨_,qz (by rw [←HM.out];exact hlt)⟩
   obtain ⟨bd,rfl,hrB⟩:=HB.out (by rw [qd, ←HM.out];omega)
   obtain ⟨w1,hw1⟩:=qdq (wr.alloc (.cells #[.int .i64 x.k,.int .i64 x.i,.string x.t,.slice none 0 0] 62))
   have hN1:New wr w1:=by rw [hw1];exact (Chg.refl _ _).alloc _
   have hB1:Blk w1 wr.heap.size 62 #[.int .i64 x.k,.int .i64 x.i,.string x.t,.slice none 0 0]:=by rw [hw1];exact Blk.new wr _ _
   have hbt:=((hrB k (vcs y) (by rw [qa,hy];rfl)).2.chg HNw.out id).chg hN1 id
   change At _ _ [.int .i64 y.k,.int .i64 y.i,.string y.t,.slice none 0 0] at hbt
   obtain ⟨w2,hw2⟩:=qdq (w1.alloc (.cells #[.int .i64 y.k,.int .i64 y.i,.string y.t,.slice none 0 0] 62))
   have hN2:New w1 w2:=by rw [hw2];exact (Chg.refl _ _).alloc _
   have hB2:Blk w2 w1.heap.size 62 #[.int .i64 y.k,.int .i64 y.i,.string y.t,.slice none 0 0]:=by rw [hw2];exact Blk.new w1 _ _
   have HB1:=qq (show At w2 ⟨wr.heap.size,0,none⟩ [.int .i64 x.k,.int .i64 x.i,.string x.t,.slice none 0 0] from (hB1.chg hN2 id).at_)
   have HB2:=qq (show At w2 ⟨w1.heap.size,0,none⟩ [.int .i64 y.k,.int .i64 y.i,.string y.t,.slice none 0 0] from hB2.at_)
   have HNn:=qq ((HNw.out.trans hN1 qdr).trans hN2 qdr)
   have Hy:=qq hy
   have Hbt:=qq hbt
   have HW1:=qq hw1
   have HW2:=qq hw2
   obtain ⟨q,hq⟩:=qdp (cmpV x y)
   have hcv:=eq_val x y w2
   rw [hq] at hcv
   have Hq:=qq hq
   have hdr:=qq ((bv (c:=cmpV) Hx.out Hy.out).symm.trans Hr.out)
   obtain ⟨b,hb⟩:=qdp (decide (q=0))
   rw [hb] at hcv
   have Hcv:=qq hcv
   have Hb:=qq hb
   clear hy hrB hN1 hB1 hbt hN2 hB2 hw1 hw2 hq hcv hb
   go_upto_region 6 with ((with_reducible refine vq rfl (.tmp 20) 62 rfl vz (ad.add (k * 4)) [.int .i64 x.k,.int .i64 x.i,.string x.t,.slice none 0 0] ?_ rfl Hat.out ?_);exact rfl)
   rw [←HW1.out]
   go_upto_region 7 with ((with_reducible refine vq rfl (.tmp 24) 62 rfl vz (bd.add (k * 4)) [.int .i64 y.k,.int .i64 y.i,.string y.t,.slice none 0 0] ?_ rfl Hbt.out ?_);exact rfl)
   rw [←HW2.out]
   go_wp2_with (first| ((with_reducible refine vq rfl (.tmp 8) 62 rfl vz ⟨wr.heap.size,0,none⟩ [.int .i64 x.k,.int .i64 x.i,.string x.t,.slice none 0 0] ?_ rfl HB1.out ?_);exact rfl)| ((with_reducible refine vq rfl (.tmp 9) 62 rfl vz ⟨w1.heap.size,0,none⟩ [.int .i64 y.k,.int .i64 y.i,.string y.t,.slice none 0 0] ?_ rfl HB2.out ?_);exact rfl))
   refine Hcv.out.mono ?_
   rintro e W ⟨rfl,hN3⟩
   have HN3:=qq (HNn.out.trans hN3 qdr)
   clear hN3
   cases b with
   |true=>
    have HR2:=qq (show cmpL cmpV (us.drop (k+1)) (vs.drop (k+1))=R by have:=hdr.out;rw [Hq.out,if_pos (of_decide_eq_true Hb.out)] at this;exact this)
    go_wp2_with fail
    go_roundw
    case rel=>exact ⟨k+1,by omega,by go_num,HN3.out,HR2.out⟩
    case measure=>simp only [intOf];omega
   |false=>
    have HR2:=qq (show q=R by have:=hdr.out;rw [Hq.out,if_neg (of_decide_eq_false Hb.out)] at this;exact this)
    go_wp2_with fail
    go_ret
    exact ⟨congrArg (fun z=>Ending.returned (.bool z)) (by rw [←HR2.out];exact Hb.out.symm),HN3.out⟩
  ·have HR2:=qq (show R=0 by
    have:=Hr.out
    rw [jo (by rw [←HN.out];omega),jo (by rw [←HM.out];omega)] at this
    exact this.symm)
   go_wp2_with fail
   go_ret
   exact ⟨by rw [HR2.out];rfl,HNw.out⟩
end Go.Proofs.YtbpgfnbhihklnaaGreat
