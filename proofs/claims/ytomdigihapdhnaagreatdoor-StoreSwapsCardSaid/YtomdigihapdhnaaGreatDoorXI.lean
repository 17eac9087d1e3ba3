import Derived.Test.YtomdigihapdhnaaGreatDoorXH
set_option linter.all false
set_option maxRecDepth 99999
set_option maxHeartbeats 0
open Go.IntKind(i64)
open Go.Proofs.Tryz
namespace Go.Proofs.YtomdigihapdhnaaGreatDoor
namespace G
open Go SL
variable{B:World}{ro I:AH}
variable{a1:Int}{Q:Int->Value->AH->Prop}{a0:Option Addr}
def zH(B:World)(ro:AH)(a0:Option Addr)(a1:ByteArray)(Q:Int->Value->AH->Prop)(u0:Int)(I:AH):=
 ∃p1,a0=some p1/\
 ∃u2,qa ro I p1=some (Sl.v u2)/\
 cutOk (some u0) none u2.len u2.cap/\
 awp prog ro (Builtin.copy_ #[24,9] 3 #[Sl.v (⟨wu u2.a (Int.toNat u0) u2.cap 1,u2.len - Int.toNat u0,u2.cap - Int.toNat u0⟩:Sl),.string a1]) (fun v I=> ∃(u3:Int),v= .int .i64 u3/\
 Q u3 .nilIface I) I
def yo(B:World)(ro:AH)(a0:Option Addr)(a1:ByteArray)(I:AH)(Q:Int->Value->AH->Prop):=
 ∃p0,a0=some p0/\
 stN (p0.add 2) (fun I=>
 zK B ro a0 (a1.size:Int) I fun u1 u2 I=>
 if¬(u2=true)then
  po B ro a0 (a1.size:Int) I fun u3 I=>
  zH B ro a0 a1 Q u3 I
 else
 zH B ro a0 a1 Q u1 I) [.int .i8 0] 0 I
theorem ad5{a1:ByteArray}(h:Sep ro I->yo B ro a0 a1 I Q):yi B ro a0 a1 I Q:=by
 refine zb h func115 ntmps115 fun h=>?_;unfold yo at h;refine z3 ?_;iterate 2 refine zp ?_
 refine z4 ?_;refine zp ?_;refine zN h fun p0 h=>?_;refine zf underlying217 alZ ?_;refine zs alZ h fun I h=>?_;refine z4 ?_;iterate 2 refine zp ?_
 refine zm (aaV rfl rfl underlying9 rfl rfl) ?_;refine zc func176 h ?_;rintro v I ⟨u1,u2,rfl,h⟩;iterate 5 refine zp ?_
 refine z2 ?_;refine AW.seqJ (fun fr I=> ∃(u3:Int),qo [(0,.pointer a0),(1,.string a1),(6,.int .i64 u3)] fr/\zH B ro a0 a1 Q u3 I) ?_ ?_
 rotate_left
 .refine z3 ?_;iterate 2 refine zp ?_
  refine z2 ?_;refine AW.iff rfl (qu Iff.rfl) h (fun h=>?_) (fun h=>?_)
  rotate_left
  .refine AW.skip ?_;refine qd ?_;exact⟨_,FL,h⟩
  refine AW.reg ?_;iterate 2 refine zp ?_
  refine zm (aaV rfl rfl underlying9 rfl rfl) ?_;refine zc func177 h ?_;rintro v I ⟨u4,rfl,h⟩;refine zp ?_;refine z2 ?_;exact⟨_,FL,h⟩
 rintro fr I ⟨u3,hl,h⟩;refine AW.weaken ?_ hl (HLe.refl _)
 unfold zH at h;refine z3 ?_;refine zp ?_;refine zN h fun p5 h=>?_;refine zf underlying217 wO ?_;refine zL underlying24 h fun u6 h=>?_;refine zp ?_;obtain⟨hc,h⟩:=h
 refine zm (uP (lo:=(some u3)) (hi:=none) rfl underlying24 ty5 rfl (zQ rfl) zP hc) ?_;refine zp ?_;refine zl (je (s:=Builtin.copy_ #[24,9] 3 #[Sl.v (⟨wu u6.a (Int.toNat u3) u6.cap 1,u6.len - Int.toNat u3,u6.cap - Int.toNat u3⟩:Sl),.string a1]) rfl rfl (fun _=>rfl) (qm _ h ?_))
 rintro v I ⟨u7,rfl,h⟩;iterate 2 refine zp ?_
 refine z2 ?_;refine AW.ret ?_;exact bR2 results115 rfl rfl ⟨_,_,rfl,h⟩
def ke(B:World)(ro:AH)(a0:Option Addr)(a1:Sl)(Q:Int->Value->AH->Prop)(u0:Int)(I:AH):=
 ∃p1,a0=some p1/\
 ∃u2,qa ro I p1=some (Sl.v u2)/\
 cutOk (some u0) none u2.len u2.cap/\
 awp prog ro (Builtin.copy_ #[24,24] 3 #[Sl.v (⟨wu u2.a (Int.toNat u0) u2.cap 1,u2.len - Int.toNat u0,u2.cap - Int.toNat u0⟩:Sl),Sl.v a1]) (fun v I=> ∃(u3:Int),v= .int .i64 u3/\
 Q u3 .nilIface I) I
def aaa(B:World)(ro:AH)(a0:Option Addr)(a1:Sl)(I:AH)(Q:Int->Value->AH->Prop):=
 ∃p0,a0=some p0/\
 stN (p0.add 2) (fun I=>
 zK B ro a0 (a1.len:Int) I fun u1 u2 I=>
 if¬(u2=true)then
  po B ro a0 (a1.len:Int) I fun u3 I=>
  ke B ro a0 a1 Q u3 I
 else
 ke B ro a0 a1 Q u1 I) [.int .i8 0] 0 I
theorem agc{a1:Sl}(h:Sep ro I->aaa B ro a0 a1 I Q):yu B ro a0 a1 I Q:=by
 refine zb h func116 ntmps116 fun h=>?_;unfold aaa at h;refine z3 ?_;iterate 2 refine zp ?_
 refine z4 ?_;refine zp ?_;refine zN h fun p0 h=>?_;refine zf underlying217 alZ ?_;refine zs alZ h fun I h=>?_;refine z4 ?_;iterate 2 refine zp ?_
 refine zm (qT rfl rfl underlying24 rfl rfl) ?_;refine zc func176 h ?_;rintro v I ⟨u1,u2,rfl,h⟩;iterate 5 refine zp ?_
 refine z2 ?_;refine AW.seqJ (fun fr I=> ∃(u3:Int),qo [(0,.pointer a0),(1,Sl.v a1),(6,.int .i64 u3)] fr/\ke B ro a0 a1 Q u3 I) ?_ ?_
 rotate_left
 .refine z3 ?_;iterate 2 refine zp ?_
  refine z2 ?_;refine AW.iff rfl (qu Iff.rfl) h (fun h=>?_) (fun h=>?_)
  rotate_left
  .refine AW.skip ?_;refine qd ?_;exact⟨_,FL,h⟩
  refine AW.reg ?_;iterate 2 refine zp ?_
  refine zm (qT rfl rfl underlying24 rfl rfl) ?_;refine zc func177 h ?_;rintro v I ⟨u4,rfl,h⟩;refine zp ?_;refine z2 ?_;exact⟨_,FL,h⟩
 rintro fr I ⟨u3,hl,h⟩;refine AW.weaken ?_ hl (HLe.refl _)
 unfold ke at h;refine z3 ?_;refine zp ?_;refine zN h fun p5 h=>?_;refine zf underlying217 wO ?_;refine zL underlying24 h fun u6 h=>?_;refine zp ?_;obtain⟨hc,h⟩:=h
 refine zm (uP (lo:=(some u3)) (hi:=none) rfl underlying24 ty5 rfl (zQ rfl) zP hc) ?_;refine zp ?_;refine zl (je (s:=Builtin.copy_ #[24,24] 3 #[Sl.v (⟨wu u6.a (Int.toNat u3) u6.cap 1,u6.len - Int.toNat u3,u6.cap - Int.toNat u3⟩:Sl),Sl.v a1]) rfl rfl (fun _=>rfl) (qm _ h ?_))
 rintro v I ⟨u7,rfl,h⟩;iterate 2 refine zp ?_
 refine z2 ?_;refine AW.ret ?_;exact bR2 results116 rfl rfl ⟨_,_,rfl,h⟩
def aab(B:World)(ro:AH)(a0:Option Addr)(I:AH)(Q:Sl->AH->Prop):=
 ∃p0,a0=some p0/\
 ∃p1,a0=some p1/\
 ∃u2,qa ro I p0=some (Sl.v u2)/\
 ∃u3,qa ro I (p1.add 1)=some (.int .i64 u3)/\
 cutOk (some u3) none u2.len u2.cap/\
 Q (⟨wu u2.a (Int.toNat u3) u2.cap 1,u2.len - Int.toNat u3,u2.cap - Int.toNat u3⟩:Sl) I
theorem agd{Q:Sl->AH->Prop}(h:Sep ro I->aab B ro a0 I Q):ac6 B ro a0 I Q:=by
 refine zb h func117 ntmps117 fun h=>?_;unfold aab at h;refine z3 ?_;refine zp ?_;refine z2 (AW.seq ?_)
 refine AW.drawn0 (fun i=>([0,0,0,3,0,0,0,3,0,0]:List Nat).getD i 2) [] [0,1,2,4,5,6,3,7,8,9] mixed (by decide+kernel) ?_
 refine zq ?_;obtain⟨p0,hc,h⟩:=h
 refine Dp rfl rfl rfl rfl (qr rfl (by rw[<-hc];try rfl)) ?_
 refine zg underlying217 wO ?_;refine zq ?_;obtain⟨p1,hc,h⟩:=h
 refine Dp rfl rfl rfl rfl (qr rfl (by rw[<-hc];try rfl)) ?_
 refine zg underlying217 ty3 ?_;obtain⟨u2,hc,h⟩:=h
 refine Dr rfl rfl rfl rfl (qA rfl underlying24 rfl rfl hc) ?_
 obtain⟨u3,hc,h⟩:=h
 refine Dr rfl rfl rfl rfl (qA rfl underlying3 rfl rfl hc) ?_
 obtain⟨hc,h⟩:=h
 refine Dp rfl rfl rfl rfl (uP (lo:=(some u3)) (hi:=none) rfl underlying24 ty5 rfl (zQ rfl) zP hc) ?_
 refine zq ?_;refine wH ?_
 refine qd ?_;refine AW.ret ?_;exact bR1 results117 rfl ⟨_,rfl,h⟩
def xF(B:World)(ro:AH)(a0:Option Addr)(a1:Int)(I:AH)(Q:Int->Bool->AH->Prop):=
 ∃p0,a0=some p0/\
 ∃u1,qa ro I p0=some (Sl.v u1)/\
 ∃p2,a0=some p2/\
 ∃u3,qa ro I p2=some (Sl.v u3)/\
 awp prog ro (Builtin.cap_ #[24] 3 #[Sl.v u3]) (fun v I=> ∃(u4:Int),v= .int .i64 u4/\
 if a1<=(i64.wrap (u4 - (u1.len:Int)))then
  ∃p5,a0=some p5/\
  ∃u6,qa ro I p5=some (Sl.v u6)/\
  cutOk none (some (i64.wrap ((u1.len:Int)+a1))) u6.len u6.cap/\
  ∃p7,a0=some p7/\
  stN p7 (fun I=>
  Q (u1.len:Int) true I) [Sl.v (⟨wu u6.a (0) u6.cap 1,Int.toNat (i64.wrap ((u1.len:Int)+a1)) - 0,u6.cap - 0⟩:Sl)] 0 I
 else
 Q 0 false I) I
theorem acy{Q:Int->Bool->AH->Prop}(h:Sep ro I->xF B ro a0 a1 I Q):zK B ro a0 a1 I Q:=by
 refine zb h func176 ntmps176 fun h=>?_;unfold xF at h;refine z3 ?_;iterate 2 refine zp ?_
 refine z2 (AW.seq (z3 ?_))
 refine zp ?_;refine zN h fun p0 h=>?_;refine zf underlying217 wO ?_;refine zL underlying24 h fun u1 h=>?_;refine zm (qT rfl rfl underlying24 rfl rfl) ?_;refine zp ?_;refine z4 ?_;iterate 2 refine zp ?_
 refine zN h fun p2 h=>?_;refine zf underlying217 wO ?_;refine zL underlying24 h fun u3 h=>?_;refine zl (je (s:=Builtin.cap_ #[24] 3 #[Sl.v u3]) rfl rfl (fun _=>rfl) (qm _ h ?_))
 rintro v I ⟨u4,rfl,h⟩;iterate 3 refine zp ?_
 refine z2 ?_;refine zi h (fun h=>?_) fun h=>?_
 rotate_left
 .refine AW.skip ?_;refine qd (z3 ?_);iterate 2 refine zp ?_
  refine z2 ?_;refine AW.ret ?_;exact bR2 results176 rfl rfl ⟨_,_,rfl,h⟩
 refine z3 ?_;iterate 2 refine zp ?_
 refine zN h fun p5 h=>?_;refine zf underlying217 wO ?_;refine zL underlying24 h fun u6 h=>?_;iterate 3 refine zp ?_
 obtain⟨hc,h⟩:=h
 refine zm (uP (lo:=none) (hi:=(some (i64.wrap ((u1.len:Int)+a1)))) rfl underlying24 ty5 rfl zP (zQ rfl) hc) ?_;refine zN h fun p7 h=>?_;refine zf underlying217 wO ?_;refine zs wO h fun I h=>?_;refine z4 ?_;iterate 3 refine zp ?_
 refine z2 ?_;refine AW.ret ?_;refine qi ?_;exact bR2 results176 rfl rfl ⟨_,_,rfl,h⟩
def xt(B:World)(ro:AH)(a0:Option Addr)(a1 u0:Int)(Q:Int->AH->Prop)(I:AH):=
 ∃p1,a0=some p1/\
 stN (p1.add 1) (fun I=>
 ∃p2,a0=some p2/\
 ∃u3,qa ro I p2=some (Sl.v u3)/\
 cutOk none (some (i64.wrap (u0+a1))) u3.len u3.cap/\
 ∃p4,a0=some p4/\
 stN p4 (fun I=>
  Q u0 I) [Sl.v (⟨wu u3.a (0) u3.cap 1,Int.toNat (i64.wrap (u0+a1)) - 0,u3.cap - 0⟩:Sl)] 0 I) [.int .i64 0] 0 I
def kq(B:World)(ro:AH)(a0:Option Addr)(a1 u0:Int)(Q:Int->AH->Prop)(I:AH):=
 zK B ro a0 a1 I fun u1 u2 I=>
 if u2=true then
 Q u1 I
 else
 ∃p3,a0=some p3/\
 ∃u4,qa ro I p3=some (Sl.v u4)/\
 if(u4.a=none)/\(a1<=64)then
 ((0:Int)<=a1/\a1<=64/\(64:Int)<=281474976710656/\1*(64:Int)<=281474976710656)/\
 nw ro I (.cells (aaL (.int .u8 0) (Int.toNat 64*1)) 5) fun u5 I=>
 ∃p6,a0=some p6/\
 stN p6 (fun I=>
  Q 0 I) [Sl.v (⟨some ⟨u5,0,none⟩,Int.toNat a1,Int.toNat 64⟩:Sl)] 0 I
 else
 ∃p7,a0=some p7/\
 ∃u8,qa ro I p7=some (Sl.v u8)/\
 awp prog ro (Builtin.cap_ #[24] 3 #[Sl.v u8]) (fun v I=> ∃(u9:Int),v= .int .i64 u9/\
 if a1<=(i64.wrap ((i64.wrap (Int.tdiv u9 2)) - u0))then
  ∃p10,a0=some p10/\
  ∃p11,a0=some p11/\
  ∃p12,a0=some p12/\
  ∃u13,qa ro I p10=some (Sl.v u13)/\
  ∃u14,qa ro I p11=some (Sl.v u14)/\
  ∃u15,qa ro I (p12.add 1)=some (.int .i64 u15)/\
  cutOk (some u15) none u14.len u14.cap/\
  awp prog ro (Builtin.copy_ #[24,24] 3 #[Sl.v u13,Sl.v (⟨wu u14.a (Int.toNat u15) u14.cap 1,u14.len - Int.toNat u15,u14.cap - Int.toNat u15⟩:Sl)]) (fun v I=> ∃(u16:Int),v= .int .i64 u16/\
  xt B ro a0 a1 u0 Q I) I
 else
 if(i64.wrap ((i64.wrap (9223372036854775807 - u9)) - a1))<u9 then
  False
 else
 ∃p17,a0=some p17/\
 ∃p18,a0=some p18/\
 ∃p19,a0=some p19/\
 ∃u20,qa ro I p17=some (Sl.v u20)/\
 ∃u21,qa ro I (p18.add 1)=some (.int .i64 u21)/\
 cutOk (some u21) none u20.len u20.cap/\
 ∃u22,qa ro I (p19.add 1)=some (.int .i64 u22)/\
 aey B ro (⟨wu u20.a (Int.toNat u21) u20.cap 1,u20.len - Int.toNat u21,u20.cap - Int.toNat u21⟩:Sl) (i64.wrap (u22+a1)) I fun u23 I=>
 ∃p24,a0=some p24/\
 stN p24 (fun I=>
  xt B ro a0 a1 u0 Q I) [Sl.v u23] 0 I) I
def kf(B:World)(ro:AH)(a0:Option Addr)(a1 u0:Int)(Q:Int->AH->Prop)(u1:Bool)(I:AH):=
 if u1=true then
 agK B ro a0 I fun I=>
 kq B ro a0 a1 u0 Q I
 else
 kq B ro a0 a1 u0 Q I
def aaE(B:World)(ro:AH)(a0:Option Addr)(a1:Int)(I:AH)(Q:Int->AH->Prop):=
 ad1 B ro a0 I fun u0 I=>
 if u0=0 then
 ∃p1,a0=some p1/\
 ∃u2,qa ro I (p1.add 1)=some (.int .i64 u2)/\
 kf B ro a0 a1 u0 Q (!(decide (u2=0))) I
 else
 kf B ro a0 a1 u0 Q false I
theorem agW{Q:Int->AH->Prop}(h:Sep ro I->aaE B ro a0 a1 I Q):po B ro a0 a1 I Q:=by
 refine zb h func177 ntmps177 fun h=>?_;unfold aaE at h;refine z3 ?_;refine zp ?_;refine z4 ?_;refine zp ?_;refine zc func224 h ?_;rintro v I ⟨u0,rfl,h⟩;refine zp ?_;refine z2 ?_;refine AW.seqJ (fun fr I=>qo [(0,.pointer a0),(1,.int .i64 a1),(5,.int .i64 u0)] fr/\kq B ro a0 a1 u0 Q I) ?_ ?_
 rotate_left
 .refine z3 ?_;iterate 3 refine zp ?_
  refine qO 6 (decide (u0=0)) decide_eq_true_iff h (fun fr I=> ∃(u1:Bool),qo [(0,.pointer a0),(1,.int .i64 a1),(5,.int .i64 u0),(19,.bool u1)] fr/\kf B ro a0 a1 u0 Q u1 I) ?_ ?_ ?_
  .intro h e2 hk2;refine zy e2 ?_;obtain⟨p2,hc,h⟩:=h
   refine qX (qr rfl (by rw[<-hc];try rfl)) rfl rfl rfl rfl e2 ?_
   refine qX (wm rfl underlying217 rfl ty3 (by decide) rfl) rfl rfl rfl rfl e2 ?_
   obtain⟨u3,hc,h⟩:=h
   refine Lyb rfl rfl rfl rfl e2 (vG rfl underlying3 rfl rfl hc ?_)
   refine zy e2 ?_;refine zk e2 ?_;exact hk2 _ _ ⟨_,FL,h⟩
  .intro h e2 hk2;iterate 5 refine zn e2 ?_
   refine zk e2 ?_;exact hk2 _ _ ⟨_,FL,h⟩
  rintro fr I ⟨u1,hl,h⟩;unfold kf at h;refine Lfr hl ?_
  refine z2 ?_;refine zj h (fun h=>?_) fun h=>?_
  rotate_left
  .refine AW.skip ?_;refine qd ?_;exact⟨FL,h⟩
  refine AW.reg ?_;refine zp ?_;refine zc func225 h ?_;rintro v I ⟨rfl,h⟩;refine z2 ?_;exact⟨FL,h⟩
 rintro fr I ⟨hl,h⟩;refine AW.weaken ?_ hl (HLe.refl _)
 unfold kq at h;refine AW.seq (z3 ?_);iterate 2 refine zp ?_
 refine zc func176 h ?_;rintro v I ⟨u4,u5,rfl,h⟩;iterate 5 refine zp ?_
 refine z4 ?_;refine zp ?_;refine z2 ?_;refine zj h (fun h=>?_) fun h=>?_
 .refine z3 ?_;iterate 2 refine zp ?_
  refine z2 ?_;refine AW.ret ?_;refine qi ?_;exact bR1 results177 rfl ⟨_,rfl,h⟩
 refine AW.skip ?_;refine qd (AW.seq (z3 ?_));refine zp ?_;refine zN h fun p6 h=>?_;refine zf underlying217 wO ?_;refine zL underlying24 h fun u7 h=>?_;refine zm (alV rfl underlying24 rfl rfl) ?_;refine zp ?_;refine wW 3 u7.a.isNone [(0,.pointer a0),(1,.int .i64 a1),(5,.int .i64 u0),(38,.bool (u7.a.isNone && (decide (a1<=64))))] ?_ ?_ ?_
 .intro e5 hk5
  refine zy e5 ?_;refine zy e5 ?_;refine zk e5 ?_;exact hk5 _ (Fe e5)
 .intro e5 hk5
  iterate 2 refine zn e5 ?_
  refine zk e5 ?_;exact hk5 _ (Fe e5)
 intro fr hl
 refine Lfr hl ?_
 refine z2 ?_;refine AW.iff rfl (acj zt decide_eq_true_iff) h (fun h=>?_) (fun h=>?_)
 .refine z3 ?_;iterate 2 refine zp ?_
  obtain⟨⟨h0,h1,h2,h3⟩,h⟩:=h
  refine zA (arD rfl underlying24 ty5 rfl rfl h0 h1 h2 h3) h fun u8 h=>?_;refine zN h fun p9 h=>?_;refine zf underlying217 wO ?_;refine zs wO h fun I h=>?_;refine z4 ?_;refine zp ?_;refine z2 ?_;refine AW.ret ?_;refine qi ?_;exact bR1 results177 rfl ⟨_,rfl,h⟩
 refine AW.skip ?_;refine qd (z3 ?_);refine zp ?_;refine zN h fun p10 h=>?_;refine zf underlying217 wO ?_;refine zL underlying24 h fun u11 h=>?_;refine zl (je (s:=Builtin.cap_ #[24] 3 #[Sl.v u11]) rfl rfl (fun _=>rfl) (qm _ h ?_))
 rintro v I ⟨u12,rfl,h⟩;refine zp ?_;refine z2 ?_;refine AW.seqJ (fun fr I=>qo [(0,.pointer a0),(1,.int .i64 a1),(5,.int .i64 u0)] fr/\xt B ro a0 a1 u0 Q I) ?_ ?_
 .rintro fr I ⟨hl,h⟩;refine AW.weaken ?_ hl (HLe.refl _)
  unfold xt at h;refine z3 ?_;refine zp ?_;refine zN h fun p13 h=>?_;refine zf underlying217 ty3 ?_;refine zs ty3 h fun I h=>?_;refine z4 ?_;iterate 2 refine zp ?_
  refine zN h fun p14 h=>?_;refine zf underlying217 wO ?_;refine zL underlying24 h fun u15 h=>?_;iterate 3 refine zp ?_
  obtain⟨hc,h⟩:=h
  refine zm (uP (lo:=none) (hi:=(some (i64.wrap (u0+a1)))) rfl underlying24 ty5 rfl zP (zQ rfl) hc) ?_;refine zN h fun p16 h=>?_;refine zf underlying217 wO ?_;refine zs wO h fun I h=>?_;refine z4 ?_;iterate 2 refine zp ?_
  refine z2 ?_;refine AW.ret ?_;exact bR1 results177 rfl ⟨_,rfl,h⟩
 refine z3 ?_;iterate 2 refine zp ?_
 refine zm (atn rfl rfl rfl (by decide)) ?_;iterate 3 refine zp ?_
 refine z2 ?_;refine zi h (fun h=>?_) fun h=>?_
 .refine AW.drawn0 (fun i=>([0,0,0,3,0,0,0,3,0,0,0,3,0,2]:List Nat).getD i 2) [(7,12),(7,13),(11,12),(11,13)] [0,1,2,4,5,6,8,9,10,3,7,11,12,13] mixed (by decide+kernel) ?_
  refine zq ?_;obtain⟨p17,hc,h⟩:=h
  refine Dp rfl rfl rfl rfl (qr rfl (by rw[<-hc];try rfl)) ?_
  refine zg underlying217 wO ?_;refine zq ?_;obtain⟨p18,hc,h⟩:=h
  refine Dp rfl rfl rfl rfl (qr rfl (by rw[<-hc];try rfl)) ?_
  refine zg underlying217 wO ?_;refine zq ?_;obtain⟨p19,hc,h⟩:=h
  refine Dp rfl rfl rfl rfl (qr rfl (by rw[<-hc];try rfl)) ?_
  refine zg underlying217 ty3 ?_;obtain⟨u20,hc,h⟩:=h
  refine Dr rfl rfl rfl rfl (qA rfl underlying24 rfl rfl hc) ?_
  obtain⟨u21,hc,h⟩:=h
  refine Dr rfl rfl rfl rfl (qA rfl underlying24 rfl rfl hc) ?_
  obtain⟨u22,hc,h⟩:=h
  refine Dr rfl rfl rfl rfl (qA rfl underlying3 rfl rfl hc) ?_
  obtain⟨hc,h⟩:=h
  refine Dp rfl rfl rfl rfl (uP (lo:=(some u22)) (hi:=none) rfl underlying24 ty5 rfl (zQ rfl) zP hc) ?_
  refine Dg rfl rfl rfl rfl (je (s:=Builtin.copy_ #[24,24] 3 #[Sl.v u20,Sl.v (⟨wu u21.a (Int.toNat u22) u21.cap 1,u21.len - Int.toNat u22,u21.cap - Int.toNat u22⟩:Sl)]) rfl rfl (fun _=>rfl) (qm _ h ?_))
  rintro v I ⟨u23,rfl,h⟩;refine wH ?_
  refine qd ?_;exact⟨FL,h⟩
 refine z3 ?_;iterate 6 refine zp ?_
 refine z2 ?_;refine zi h (fun h=>?_) fun h=>?_
 .exact h.elim
 refine AW.drawn0 (fun i=>([0,0,0,0,3,0,0,0,3,0,0,0,0,3,0,0,2,0,0,2]:List Nat).getD i 2) [(4,9),(4,16),(8,9),(8,16),(13,15),(13,16)] [0,1,2,3,5,6,7,10,11,12,14,4,8,9,13,15,16,17,18,19] mixed (by decide+kernel) ?_
 iterate 2 refine zq ?_
 obtain⟨p24,hc,h⟩:=h
 refine Dp rfl rfl rfl rfl (qr rfl (by rw[<-hc];try rfl)) ?_
 refine zg underlying217 wO ?_;refine zq ?_;obtain⟨p25,hc,h⟩:=h
 refine Dp rfl rfl rfl rfl (qr rfl (by rw[<-hc];try rfl)) ?_
 refine zg underlying217 ty3 ?_;refine zq ?_;obtain⟨p26,hc,h⟩:=h
 refine Dp rfl rfl rfl rfl (qr rfl (by rw[<-hc];try rfl)) ?_
 refine zg underlying217 ty3 ?_;refine zq ?_;obtain⟨u27,hc,h⟩:=h
 refine Dr rfl rfl rfl rfl (qA rfl underlying24 rfl rfl hc) ?_
 obtain⟨u28,hc,h⟩:=h
 refine Dr rfl rfl rfl rfl (qA rfl underlying3 rfl rfl hc) ?_
 obtain⟨hc,h⟩:=h
 refine Dp rfl rfl rfl rfl (uP (lo:=(some u28)) (hi:=none) rfl underlying24 ty5 rfl (zQ rfl) zP hc) ?_
 obtain⟨u29,hc,h⟩:=h
 refine Dr rfl rfl rfl rfl (qA rfl underlying3 rfl rfl hc) ?_
 refine zq ?_;refine Dg rfl rfl rfl rfl (qF rfl func226 rfl rfl rfl (qc.mono h ?_))
 rintro v I ⟨u30,rfl,h⟩;obtain⟨p31,hc,h⟩:=h
 refine Dp rfl rfl rfl rfl (qr rfl (by rw[<-hc];try rfl)) ?_
 refine zg underlying217 wO ?_;refine Dg rfl rfl rfl rfl (yR rfl wO rfl rfl rfl rfl (zD h fun I h=>?_))
 refine wH ?_
 refine qd ?_;exact⟨FL,h⟩
def abb(B:World)(ro:AH)(a0:Option Addr)(I:AH)(Q:Int->AH->Prop):=
 ∃p0,a0=some p0/\
 ∃p1,a0=some p1/\
 ∃u2,qa ro I p0=some (Sl.v u2)/\
 ∃u3,qa ro I (p1.add 1)=some (.int .i64 u3)/\
 Q (i64.wrap ((u2.len:Int) - u3)) I
theorem ahy{Q:Int->AH->Prop}(h:Sep ro I->abb B ro a0 I Q):ad1 B ro a0 I Q:=by
 refine zb h func224 ntmps224 fun h=>?_;unfold abb at h;refine z3 ?_;refine zp ?_;refine z2 (AW.seq ?_)
 refine AW.drawn0 (fun i=>([0,0,0,3,0,0,0,0,3,0,0]:List Nat).getD i 2) [] [0,1,2,5,6,7,3,4,8,9,10] mixed (by decide+kernel) ?_
 refine zq ?_;obtain⟨p0,hc,h⟩:=h
 refine Dp rfl rfl rfl rfl (qr rfl (by rw[<-hc];try rfl)) ?_
 refine zg underlying217 wO ?_;refine zq ?_;obtain⟨p1,hc,h⟩:=h
 refine Dp rfl rfl rfl rfl (qr rfl (by rw[<-hc];try rfl)) ?_
 refine zg underlying217 ty3 ?_;obtain⟨u2,hc,h⟩:=h
 refine Dr rfl rfl rfl rfl (qA rfl underlying24 rfl rfl hc) ?_
 refine Dp rfl rfl rfl rfl (qT rfl rfl underlying24 rfl rfl) ?_
 obtain⟨u3,hc,h⟩:=h
 refine Dr rfl rfl rfl rfl (qA rfl underlying3 rfl rfl hc) ?_
 iterate 2 refine zq ?_
 refine wH ?_
 refine qd ?_;refine AW.ret ?_;exact bR1 results224 rfl ⟨_,rfl,h⟩
end G
namespace Wi
open Go SL G Zt
variable{B:World}{ro I I':AH}{tag tag':Nat->Nat}
variable{bad:Bool}{Q:Int->Value->AH->Prop}{R:List Nat}{l xs:List Value}{W n r:Nat}{s:Sl}{acc d:Str}
theorem apk(d:Str):∀ v∈d.map vU,v.oneCell'=true:=fun v hv=>by
 obtain⟨c,_,rfl⟩:=List.mem_map.1 hv;rfl
theorem al3(d:Str):∀ v∈d.map vU,qh v=true:=fun v hv=>by
 obtain⟨c,_,rfl⟩:=List.mem_map.1 hv;rfl
theorem amr{q:Nat}{Q:Sl->AH->Prop}(h:Row tag I q 5 s l)(hn:1<=n)(hl:l.length+n<=140737488355328)(hc:s.cap<=140737488355328)(h1:∀ v∈l,v.oneCell'=true)
  (hQ:∀ s' tag' I',(∀R,qe R ro tag I tag' I')->Row tag' I' q 5 s' l->l.length+n<=s'.cap->s'.cap<=9223372036854775807->Q s' I'):aey B ro s (n:Int) I Q:=by
 refine qc.of_calls fun w hw hsep=>?_
 rcases h with⟨rfl,rfl⟩ | ⟨b,cs,ha,htg,hbk,hln,hcp,hle,hg⟩
 .refine(Tryz.bytes_growSlice_nil n w hn (by simpa using hl)).mono ?_
  rintro e w' ⟨cap2,cells,he,hw',hsz,hroom,hmx,hb⟩
  obtain⟨N,tag',hN,hst,hrow⟩:=af6 (tag:=tag) q hw hsep (Nat.le_refl _) hw'
  exact⟨_,N,he,hb,hN,⟨some ⟨w.heap.size,0,none⟩,0,cap2⟩,rfl,hQ _ tag' _ hst (hrow 0 cap2 [] rfl hsz.symm (Nat.zero_le _) (by simp)) (by simpa using hroom) (by simpa [maxLen]using hmx)⟩
 .have hcur:w.heap[b]?=some (.cells cs 5 (0,0)):=hw b _ (by unfold rd;rw[hsep b _ hbk];exact hbk)
  have htake:cs.toList.take s.len=l:=by
   apply List.ext_getElem?
   intro i
   rw[List.getElem?_take]
   split
   .rw[Array.getElem?_toList];exact hg i (by omega)
   .rw[List.getElem?_eq_none (by omega)]
  have:=Tryz.bytes_growSlice_row b s.len s.cap n cs w hcur hcp.symm hle hn (by rw[hln];exact hl) hc (by rw[htake];exact h1)
  unfold Sl.v
  rw[ha]
  refine this.mono ?_
  rintro e w' ⟨cap2,cells,he,hw',hsz,htk,hroom,hmx,hb⟩
  obtain⟨N,tag',hN,hst,hrow⟩:=af6 (tag:=tag) q hw hsep (Nat.le_refl _) hw'
  exact⟨_,N,he,hb,hN,⟨some ⟨w.heap.size,0,none⟩,s.len,cap2⟩,rfl,hQ _ tag' _ hst (hrow s.len cap2 l hln hsz.symm (by omega) (by rw[htk,htake])) (by simp only;omega) (by simpa [maxLen]using hmx)⟩
def ae9(tag:Nat->Nat)(I:AH)(r W:Nat)(s:Sl)(l:List Value)(bad:Bool):Prop:=
 s.cap<=9223372036854775807/\∃ lr:Int,Row tag I r 221 ⟨some ⟨W,0,none⟩,4,4⟩ [Sl.v s,.int .i64 0,.int .i8 lr,.bool bad]/\Row tag I (r+64) 5 s l
def vl(tag:Nat->Nat)(I:AH)(r W:Nat)(acc:Str)(bad:Bool):Prop:= ∃s,ae9 tag I r W s (acc.map vU) bad
theorem ae9.keep(h:ae9 tag I r W s l bad)(k:qe R ro tag I tag' I')(h1:r∉R:=by simp)(h2:r+64∉R:=by simp):ae9 tag' I' r W s l bad:=by
 obtain⟨hc,lr,a,b⟩:=h
 exact⟨hc,lr,a.keep k h1,b.keep k h2⟩
theorem vl.keep(h:vl tag I r W acc bad)(k:qe R ro tag I tag' I')(h1:r∉R:=by simp)(h2:r+64∉R:=by simp):vl tag' I' r W acc bad:=by
 obtain⟨s,h⟩:=h
 exact⟨s,h.keep k h1 h2⟩
theorem agX{Q:Int->Bool->AH->Prop}(h:ae9 tag I r W s l bad)(hs:SL.Sep ro I)(hl:l.length+n<=140737488355328)
  (hyes:l.length+n<=s.cap->∀ s' xs I',qe [r] ro tag I tag I'->xs.length=n->ae9 tag I' r W s' (l++xs) bad->Q l.length true I') (hno:s.cap<l.length+n->Q 0 false I):
  zK B ro (some ⟨W,0,none⟩) (n:Int) I Q:=by
 refine acy fun _=>?_
 unfold xF
 obtain⟨hcap,lr,h1,h2⟩:=h
 obtain⟨p,hp,hg⟩:=h1.ptr hs (by simp)
 cases hp
 have hln:=h2.len
 have hc:=h2.capAt
 refine⟨_,rfl,s,hg 0 _ rfl,_,rfl,s,hg 0 _ rfl,?_⟩
 refine anv u30 ⟨_,rfl,?_⟩
 rw[wb (by omega) (by omega)]
 by_cases hroom:l.length+n<=s.cap
 .rw[if_pos (by omega)]
  have e:(⟨wu s.a 0 s.cap 1,Int.toNat (i64.wrap ((s.len:Int)+(n:Int))) - 0,s.cap - 0⟩:Sl)=⟨s.a,l.length+n,s.cap⟩:=by
   rw[pR,hln,wb (by omega) (by omega)]
   simp only[Nat.sub_zero,Sl.mk.injEq,true_and,and_true];omega
  refine⟨_,rfl,s,hg 0 _ rfl,⟨?_,trivial⟩,_,rfl,?_⟩
  .simp only
   rw[wb (by omega) (by omega)];omega
  rw[e,hln]
  refine h1.st (i:=0) hs rfl (by simp) rfl fun I2 st2 r2=>?_
  obtain⟨xs,hx,h3⟩:=h2.more hroom
  exact hyes hroom ⟨s.a,l.length+n,s.cap⟩ xs I2 st2 hx ⟨hcap,lr,r2,h3.keep st2⟩
 .rw[if_neg (by omega)]
  exact hno (by omega)
theorem anF{Q:Int->AH->Prop}(h:ae9 tag I r W s l bad)(hs:SL.Sep ro I)(hl:l.length+n<=140737488355328)(hfull:s.cap<l.length+n)(h1c:∀ v∈l,v.oneCell'=true)
  (hQ:∀ s' xs tag' I',qe [r,r+64] ro tag I tag' I'->xs.length=n->ae9 tag' I' r W s' (l++xs) bad->Q l.length I'):
  po B ro (some ⟨W,0,none⟩) (n:Int) I Q:=by
 refine agW fun _=>?_
 unfold aaE
 obtain⟨hcap,lr,h1,h2⟩:=id h
 obtain⟨p,hp,hg⟩:=h1.ptr hs (by simp)
 cases hp
 have hln:=h2.len
 have hc:=h2.capAt
 refine ahy fun _=>?_
 unfold abb
 refine⟨_,rfl,_,rfl,s,hg 0 _ rfl,0,hg 1 _ rfl,?_⟩
 rw[Int.sub_zero,wb (by omega) (by omega),hln]
 dsimp only
 suffices hj:kq B ro (some ⟨W,0,none⟩) (n:Int) (l.length:Int) Q I by
  by_cases h0:(l.length:Int)=0
  .rw[if_pos h0]
   refine⟨_,rfl,0,hg 1 _ rfl,?_⟩
   unfold kf
   rw[if_neg (by decide)]
   exact hj
  .rw[if_neg h0]
   unfold kf
   rw[if_neg (by decide)]
   exact hj
 unfold kq
 refine agX h hs hl (fun hroom=>absurd hroom (by omega)) fun _=>?_
 rw[if_neg (by decide)]
 refine⟨_,rfl,s,hg 0 _ rfl,?_⟩
 by_cases hsmall:s.a=none/\(n:Int)<=64
 .rw[if_pos hsmall]
  have hnil:s=⟨none,0,0⟩/\l=[]:=by
   rcases h2 with h | ⟨b,cs,ha,_⟩
   .exact h
   .rw[hsmall.1]at ha;cases ha
  obtain⟨rfl,rfl⟩:=hnil
  have hn64:=hsmall.2
  refine⟨⟨by omega,hn64,by decide,by decide⟩,?_⟩
  refine asP (tag:=tag) (r+64) (zv:= .int .u8 0) (n:=64) hs rfl fun x tag1 I1 st1 r1=>?_
  refine⟨_,rfl,?_⟩
  have r1':Row tag1 I1 (r+64) 5 ⟨some ⟨x,0,none⟩,n,64⟩ ([]++(List.replicate 64 (Value.int .u8 0)).take n):=r1.take (n:=n) (by simp;omega)
  have hx64:(64:Nat)<=9223372036854775807:=by decide
  rw[Int.toNat_natCast]
  refine(h1.keep (st1 [])).st (i:=0) (st1 []).sep rfl (by simp) rfl fun I2 st2 r2=>?_
  refine hQ ⟨some ⟨x,0,none⟩,n,64⟩ ((List.replicate 64 (Value.int .u8 0)).take n) tag1 I2 (((st1 _).trans (st2.mono (by simp)))) (by simp;omega) ⟨hx64,lr,r2,r1'.keep st2⟩
 .rw[if_neg hsmall]
  refine⟨_,rfl,s,hg 0 _ rfl,?_⟩
  refine anv u30 ⟨_,rfl,?_⟩
  have hd:Int.tdiv (s.cap:Int) 2=((s.cap / 2:Nat):Int):=by
   rw[Int.tdiv_eq_ediv_of_nonneg (by omega)];omega
  rw[hd,wb (n:=((s.cap / 2:Nat):Int)) (by omega) (by omega),wb (n:=((s.cap / 2:Nat):Int) - (l.length:Int)) (by omega) (by omega),if_neg (by omega),wb (n:=9223372036854775807 - (s.cap:Int)) (by omega) (by omega),wb (n:=9223372036854775807 - (s.cap:Int) - (n:Int)) (by omega) (by omega),if_neg (by omega)]
  refine⟨_,rfl,_,rfl,_,rfl,s,hg 0 _ rfl,0,hg 1 _ rfl,?_,0,hg 1 _ rfl,?_⟩
  .exact⟨trivial,by decide,by simp only[cutHi];omega⟩
  rw[Int.zero_add,wb (by omega) (by omega),show(⟨wu s.a (Int.toNat 0) s.cap 1,s.len - Int.toNat 0,s.cap - Int.toNat 0⟩:Sl)=s from by rw[show Int.toNat 0=0 from rfl,pR];try rfl]
  refine amr h2 (by omega) hl (by omega) h1c fun s1 tag1 I1 st1 r1 hc1 hc2=>?_
  refine⟨_,rfl,?_⟩
  refine(h1.keep (st1 [])).st (i:=0) (st1 []).sep rfl (by simp) rfl fun I2 st2 r2=>?_
  unfold xt
  refine⟨_,rfl,?_⟩
  refine r2.st (i:=1) st2.sep rfl (by simp) rfl fun I3 st3 r3=>?_
  obtain⟨p3,hp3,hg3⟩:=r3.ptr st3.sep (by simp)
  cases hp3
  have e:(⟨wu s1.a 0 s1.cap 1,Int.toNat (i64.wrap ((l.length:Int)+(n:Int))) - 0,s1.cap - 0⟩:Sl)=⟨s1.a,l.length+n,s1.cap⟩:=by
   rw[pR,wb (by omega) (by omega)]
   simp only[Nat.sub_zero,Sl.mk.injEq,true_and,and_true];omega
  refine⟨_,rfl,s1,hg3 0 _ rfl,⟨?_,trivial⟩,_,rfl,?_⟩
  .simp only
   rw[wb (by omega) (by omega)];omega
  rw[e]
  refine r3.st (i:=0) st3.sep rfl (by simp) rfl fun I4 st4 r4=>?_
  obtain⟨xs,hx,r5⟩:=r1.more (n:=n) hc1
  refine hQ ⟨s1.a,l.length+n,s1.cap⟩ xs tag1 I4 ((st1 _).trans ((st2.mono (by simp)).trans ((st3.mono (by simp)).trans (st4.mono (by simp))))) hx ⟨hc2,lr,r4,((r5.keep st2).keep st3).keep st4⟩
theorem auc:qp prog 5 (.int .u8 0) 1 1:=qp.of (by kernel_rfl)
theorem aiz{x:Value}{t2:TypeId}{Q:Int->AH->Prop}(h:ae9 tag I r W s (acc.map vU++xs) bad)(hs:SL.Sep ro I)(hx:xs.length=d.length)(hsrc:Src prog ro I x (d.map vU))
  (hQ:∀ n I',qe [r+64] ro tag I tag I'->vl tag I' r W (acc++d) bad->Q n I'):
  ∃p25_6:Addr,(some ⟨W,0,none⟩:Option Addr)=some p25_6/\∃ (x27_7:Sl),qa ro I p25_6=some (Sl.v x27_7)/\cutOk (some (acc.length:Int)) none x27_7.len x27_7.cap/\
   awp prog ro (Builtin.copy_ #[24,t2] 3 #[Sl.v (⟨wu x27_7.a (Int.toNat (acc.length:Int)) x27_7.cap 1,x27_7.len - Int.toNat (acc.length:Int),x27_7.cap - Int.toNat (acc.length:Int)⟩:Sl),x]) (fun v I=> ∃(x31_8:Int),v= .int .i64 x31_8/\Q x31_8 I) I:=by
 obtain⟨hcap,lr,h1,h2⟩:=h
 obtain⟨p,hp,hg⟩:=h1.ptr hs (by simp)
 cases hp
 have hln:=h2.len
 simp only[List.length_append,List.length_map]at hln
 refine⟨_,rfl,s,hg 0 _ rfl,⟨trivial,by omega,by simp only[cutHi];omega⟩,?_⟩
 rw[Int.toNat_natCast]
 refine amg h2 hs u30 auc hsrc (by simp;omega) (al3 d) fun I1 st1 r1=>?_
 refine⟨_,rfl,hQ _ I1 st1 ⟨s,hcap,lr,h1.keep st1,?_⟩⟩
 rw[List.take_left' (by simp)]at r1
 rw[List.map_append];exact r1
theorem ai7(h:vl tag I r W acc bad)(hs:SL.Sep ro I)(hl:acc.length+d.length<=140737488355328)(hd:s.len=d.length)
  (hsrc:∀ tag' I',qe [r,r+64] ro tag I tag' I'->SL.zw ro I' s (d.map vU)) (hQ:∀ n v tag' I',qe [r,r+64] ro tag I tag' I'->vl tag' I' r W (acc++d) bad->Q n v I'):
  yu B ro (some ⟨W,0,none⟩) s I Q:=by
 refine agc fun _=>?_
 unfold aaa
 obtain⟨s0,hcap,lr,h1,h2⟩:=h
 refine⟨_,rfl,?_⟩
 refine h1.st (i:=2) hs rfl (by simp) rfl fun I1 st1 r1=>?_
 have hb:ae9 tag I1 r W s0 (acc.map vU) bad:=⟨hcap,0,r1,h2.keep st1⟩
 rw[hd]
 refine agX hb st1.sep (by simpa using hl) (fun hroom s2 xs I2 st2 hx hb2=>?_) fun hno=>?_
 .rw[if_neg (by simp)]
  unfold ke
  have st12:qe [r,r+64] ro tag I tag I2:=(st1.mono (by simp)).trans (st2.mono (by simp))
  rw[List.length_map]
  exact aiz (t2:=24) (Q:=fun n I=>Q n .nilIface I) hb2 st2.sep hx (hsrc _ _ st12).src fun n I3 st3 h3=>hQ n _ tag I3 (st12.trans (st3.mono (by simp))) h3
 .rw[if_pos (by simp)]
  refine anF hb st1.sep (by simpa using hl) hno (apk acc) fun s2 xs tag2 I2 st2 hx hb2=>?_
  unfold ke
  have st12:qe [r,r+64] ro tag I tag2 I2:=(st1.mono (by simp)).trans st2
  rw[List.length_map]
  exact aiz (t2:=24) (Q:=fun n I=>Q n .nilIface I) hb2 st2.sep hx (hsrc _ _ st12).src fun n I3 st3 h3=>hQ n _ tag2 I3 (st12.trans (st3.mono (by simp))) h3
theorem age{b:ByteArray}(h:vl tag I r W acc bad)(hs:SL.Sep ro I)(hl:acc.length+(L b).length<=140737488355328)
  (hQ:∀ n v tag' I',qe [r,r+64] ro tag I tag' I'->vl tag' I' r W (acc++L b) bad->Q n v I'):
  yi B ro (some ⟨W,0,none⟩) b I Q:=by
 refine ad5 fun _=>?_
 unfold yo
 obtain⟨s0,hcap,lr,h1,h2⟩:=h
 refine⟨_,rfl,?_⟩
 refine h1.st (i:=2) hs rfl (by simp) rfl fun I1 st1 r1=>?_
 have hb:ae9 tag I1 r W s0 (acc.map vU) bad:=⟨hcap,0,r1,h2.keep st1⟩
 rw[show(b.size:Int)=((L b).length:Nat)from rfl]
 refine agX hb st1.sep (by simpa using hl) (fun hroom s2 xs I2 st2 hx hb2=>?_) fun hno=>?_
 .rw[if_neg (by simp)]
  unfold zH
  have st12:qe [r,r+64] ro tag I tag I2:=(st1.mono (by simp)).trans (st2.mono (by simp))
  rw[List.length_map]
  exact aiz (t2:=9) (Q:=fun n I=>Q n .nilIface I) hb2 st2.sep hx (anw b) fun n I3 st3 h3=>hQ n _ tag I3 (st12.trans (st3.mono (by simp))) h3
 .rw[if_pos (by simp)]
  refine anF hb st1.sep (by simpa using hl) hno (apk acc) fun s2 xs tag2 I2 st2 hx hb2=>?_
  unfold zH
  have st12:qe [r,r+64] ro tag I tag2 I2:=(st1.mono (by simp)).trans st2
  rw[List.length_map]
  exact aiz (t2:=9) (Q:=fun n I=>Q n .nilIface I) hb2 st2.sep hx (anw b) fun n I3 st3 h3=>hQ n _ tag2 I3 (st12.trans (st3.mono (by simp))) h3
end Wi
namespace G
open Go SL
variable{B:World}{ro I:AH}
variable{a1:Int}{Q:Int->AH->Prop}{a0:Option Addr}
def acz(B:World)(ro I:AH)(Q:Option Addr->AH->Prop):Prop:=
 nw ro I (.cells #[Sl.v (⟨none,0,0⟩:Sl),.int .i64 0,.int .i8 0,.bool false] 221) fun u0 I=>
 Q (some ⟨u0,0,none⟩) I
theorem aiN{Q:Option Addr->AH->Prop}(h:Sep ro I->acz B ro I Q):uR B ro I Q:=by
 refine zb h func43 ntmps43 fun h=>?_;unfold acz at h;refine z3 ?_;refine zp ?_;refine z4 ?_;refine zm (wz (vs:=[]) (cs:= #[Sl.v (⟨none,0,0⟩:Sl),.int .i64 0,.int .i8 0,.bool false]) rfl underlying221 atw atH rfl rfl) ?_;refine zA (wI rfl rfl) h fun u0 h=>?_;refine zp ?_;refine z2 ?_;refine AW.ret ?_;exact bR1 results43 rfl ⟨_,rfl,h⟩
def jp(B:World)(ro:AH)(a0:Option Addr)(a1:Sl)(Q:AH->Prop):Int->AH->(Int->AH->Prop)->Prop:=fun u0 I Y1=>
 if u0<(a1.len:Int)then
 ∃p1,a1.a=some p1/\(0:Int)<=u0/\u0<(a1.len:Int)/\
 ∃u2,qa ro I (p1.add (Int.toNat u0*1))=some (.int .i64 u2)/\
 ∃p3,a0=some p3/\
 yq B ro (some p3) u2 I fun I=>
 Y1 (i64.wrap (u0+1)) I
 else
 Q I
def abc(B:World)(ro:AH)(a0:Option Addr)(a1:Sl)(I:AH)(Q:AH->Prop):=
 lfpD (jp B ro a0 a1 Q) (0) I
theorem ahz{a1:Sl}{Q:AH->Prop}(h:Sep ro I->abc B ro a0 a1 I Q):wX B ro a0 a1 I Q:=by
 refine zb h func44 ntmps44 fun h=>?_;unfold abc at h;refine z3 ?_;refine zp ?_;refine zm (qT rfl rfl underlying55 rfl rfl) ?_;refine zp ?_;refine z2 (AW.block ?_)
 refine qk.loop (fr':=[(0,.pointer a0),(6,Sl.v a1),(7,.int .i64 (a1.len:Int)),(8,.int .i64 0)]) ?_ FL
 refine h (fun u0 I=>qk _ _ _ _ _ _ [(0,.pointer a0),(6,Sl.v a1),(7,.int .i64 (a1.len:Int)),(8,.int .i64 u0)] I) ?_
 rintro u0 I Y1 hY1 h
 show AW _ _ _ _ _ _ _ _
 unfold jp at h;refine z3 ?_;refine zp ?_;refine z2 (AW.seq ?_)
 refine zi h (fun h=>?_) fun h=>?_
 rotate_left
 .refine AW.exit ?_;refine qH (qH ?_);refine wB ?_
  exact bN0 results44 ⟨rfl,h⟩
 refine AW.skip ?_;refine qd (AW.seq (AW.block (z3 ?_)));obtain⟨p1,ha,h0,h1,h⟩:=h
 refine zm (vv rfl underlying55 ty3 (ixL rfl ha) rfl h0 h1) ?_;refine zL underlying3 h fun u2 h=>?_;refine zp ?_;refine z2 (AW.reg ?_)
 refine zp ?_;refine zN h fun p3 h=>?_;refine zf underlying221 afs ?_;refine zp ?_;refine zc func114 h ?_;rintro v I ⟨rfl,h⟩;refine ju (qD (qd (AW.reg ?_)));iterate 2 refine zp ?_
 refine z2 ?_;refine qk.head (fr':=[(0,.pointer a0),(6,Sl.v a1),(7,.int .i64 (a1.len:Int)),(8,.int .i64 (i64.wrap (u0+1)))]) ?_ FL
 exact hY1 _ _ h
def ku(B:World)(ro:AH)(a0:Option Addr)(a1:Sl)(Q:AH->Prop):Int->AH->(Int->AH->Prop)->Prop:=fun u0 I Y1=>
 if u0<(a1.len:Int)then
 ∃p1,a1.a=some p1/\(0:Int)<=u0/\u0<(a1.len:Int)/\
 ∃u2,qa ro I (p1.add (Int.toNat u0*1))=some (.string u2)/\
 ∃p3,a0=some p3/\
 yq B ro (some p3) (u2.size:Int) I fun I=>
 ∃p4,a0=some p4/\
 yi B ro (some p4) u2 I fun u5 u6 I=>
 Y1 (i64.wrap (u0+1)) I
 else
 Q I
def pu(B:World)(ro:AH)(a0:Option Addr)(a1:Sl)(I:AH)(Q:AH->Prop):=
 lfpD (ku B ro a0 a1 Q) (0) I
theorem adf{a1:Sl}{Q:AH->Prop}(h:Sep ro I->pu B ro a0 a1 I Q):vh B ro a0 a1 I Q:=by
 refine zb h func45 ntmps45 fun h=>?_;unfold pu at h;refine z3 ?_;refine zp ?_;refine zm (qT rfl rfl underlying27 rfl rfl) ?_;refine zp ?_;refine z2 (AW.block ?_)
 refine qk.loop (fr':=[(0,.pointer a0),(6,Sl.v a1),(7,.int .i64 (a1.len:Int)),(8,.int .i64 0)]) ?_ FL
 refine h (fun u0 I=>qk _ _ _ _ _ _ [(0,.pointer a0),(6,Sl.v a1),(7,.int .i64 (a1.len:Int)),(8,.int .i64 u0)] I) ?_
 rintro u0 I Y1 hY1 h
 show AW _ _ _ _ _ _ _ _
 unfold ku at h;refine z3 ?_;refine zp ?_;refine z2 (AW.seq ?_)
 refine zi h (fun h=>?_) fun h=>?_
 rotate_left
 .refine AW.exit ?_;refine qH (qH ?_);refine wB ?_
  exact bN0 results45 ⟨rfl,h⟩
 refine AW.skip ?_;refine qd (AW.seq (AW.block (z3 ?_)));obtain⟨p1,ha,h0,h1,h⟩:=h
 refine zm (vv rfl underlying27 ty9 (ixL rfl ha) rfl h0 h1) ?_;refine zL underlying9 h fun u2 h=>?_;refine zp ?_;refine z4 ?_;refine zp ?_;refine zN h fun p3 h=>?_;refine zf underlying221 afs ?_;refine zp ?_;refine zm (aaV rfl rfl underlying9 rfl rfl) ?_;refine zc func114 h ?_;rintro v I ⟨rfl,h⟩;refine z2 (AW.reg ?_)
 refine zp ?_;refine zN h fun p4 h=>?_;refine zf underlying221 afs ?_;refine zf underlying219 al0 ?_;refine zp ?_;refine zc func115 h ?_;rintro v I ⟨u5,u6,rfl,h⟩;refine ju (qD (qd (AW.reg ?_)));iterate 2 refine zp ?_
 refine z2 ?_;refine qk.head (fr':=[(0,.pointer a0),(6,Sl.v a1),(7,.int .i64 (a1.len:Int)),(8,.int .i64 (i64.wrap (u0+1)))]) ?_ FL
 exact hY1 _ _ h
def aac(B:World)(ro:AH)(a0:Option Addr)(a1:Sl)(Q:AH->Prop):Int->AH->(Int->AH->Prop)->Prop:=fun u0 I Y1=>
 if u0<(a1.len:Int)then
 ∃p1,a1.a=some p1/\(0:Int)<=u0/\u0<(a1.len:Int)/\
 ∃u2,qa ro I (p1.add (Int.toNat u0*1))=some (Sl.v u2)/\
 ∃p3,a0=some p3/\
 yq B ro (some p3) (u2.len:Int) I fun I=>
 ∃p4,a0=some p4/\
 yu B ro (some p4) u2 I fun u5 u6 I=>
 Y1 (i64.wrap (u0+1)) I
 else
 Q I
def aaF(B:World)(ro:AH)(a0:Option Addr)(a1:Sl)(I:AH)(Q:AH->Prop):=
 lfpD (aac B ro a0 a1 Q) (0) I
theorem agY{a1:Sl}{Q:AH->Prop}(h:Sep ro I->aaF B ro a0 a1 I Q):jm B ro a0 a1 I Q:=by
 refine zb h func46 ntmps46 fun h=>?_;unfold aaF at h;refine z3 ?_;refine zp ?_;refine zm (qT rfl rfl underlying227 rfl rfl) ?_;refine zp ?_;refine z2 (AW.block ?_)
 refine qk.loop (fr':=[(0,.pointer a0),(6,Sl.v a1),(7,.int .i64 (a1.len:Int)),(8,.int .i64 0)]) ?_ FL
 refine h (fun u0 I=>qk _ _ _ _ _ _ [(0,.pointer a0),(6,Sl.v a1),(7,.int .i64 (a1.len:Int)),(8,.int .i64 u0)] I) ?_
 rintro u0 I Y1 hY1 h
 show AW _ _ _ _ _ _ _ _
 unfold aac at h;refine z3 ?_;refine zp ?_;refine z2 (AW.seq ?_)
 refine zi h (fun h=>?_) fun h=>?_
 rotate_left
 .refine AW.exit ?_;refine qH (qH ?_);refine wB ?_
  exact bN0 results46 ⟨rfl,h⟩
 refine AW.skip ?_;refine qd (AW.seq (AW.block (z3 ?_)));obtain⟨p1,ha,h0,h1,h⟩:=h
 refine zm (vv rfl underlying227 wO (ixL rfl ha) rfl h0 h1) ?_;refine zL underlying24 h fun u2 h=>?_;refine zp ?_;refine z4 ?_;refine zp ?_;refine zN h fun p3 h=>?_;refine zf underlying221 afs ?_;refine zp ?_;refine zm (qT rfl rfl underlying24 rfl rfl) ?_;refine zc func114 h ?_;rintro v I ⟨rfl,h⟩;refine z2 (AW.reg ?_)
 refine zp ?_;refine zN h fun p4 h=>?_;refine zf underlying221 afs ?_;refine zf underlying219 al0 ?_;refine zp ?_;refine zc func116 h ?_;rintro v I ⟨u5,u6,rfl,h⟩;refine ju (qD (qd (AW.reg ?_)));iterate 2 refine zp ?_
 refine z2 ?_;refine qk.head (fr':=[(0,.pointer a0),(6,Sl.v a1),(7,.int .i64 (a1.len:Int)),(8,.int .i64 (i64.wrap (u0+1)))]) ?_ FL
 exact hY1 _ _ h
def abF(B:World)(ro:AH)(a0:Option Addr)(I:AH)(Q:Sl->Int->AH->Prop):=
 ∃p0,a0=some p0/\
 ∃u1,qa ro I (p0.add 3)=some (.bool u1)/\
 if u1=true then
 Q (⟨none,0,0⟩:Sl) 10 I
 else
 ∃p2,a0=some p2/\
 ac6 B ro (some p2) I fun u3 I=>
 kn B ro u3 I fun u4 I=>
 Q u4 0 I
theorem ah3{Q:Sl->Int->AH->Prop}(h:Sep ro I->abF B ro a0 I Q):uq B ro a0 I Q:=by
 refine zb h func47 ntmps47 fun h=>?_;unfold abF at h;refine z3 ?_;iterate 2 refine zp ?_
 refine z2 (AW.seq (z3 ?_))
 refine zp ?_;refine zN h fun p0 h=>?_;refine zf underlying221 afs ?_;refine zf underlying219 ty4 ?_;refine zL underlying4 h fun u1 h=>?_;refine z2 ?_;refine zj h (fun h=>?_) fun h=>?_
 .refine z3 ?_;iterate 2 refine zp ?_
  refine z2 ?_;refine AW.ret ?_;refine qi ?_;exact bR2 results47 rfl rfl ⟨_,_,rfl,h⟩
 refine AW.skip ?_;refine qd (z3 ?_);refine zp ?_;refine zN h fun p2 h=>?_;refine zf underlying221 afs ?_;refine zf underlying219 al0 ?_;refine zc func117 h ?_;rintro v I ⟨u3,rfl,h⟩;refine zc func80 h ?_;rintro v I ⟨u4,rfl,h⟩;iterate 2 refine zp ?_
 refine z2 ?_;refine AW.ret ?_;exact bR2 results47 rfl rfl ⟨_,_,rfl,h⟩
def acA(B:World)(ro:AH)(a0:Sl)(I:AH)(Q:Option Addr->AH->Prop):=
 kn B ro a0 I fun u0 I=>
 nw ro I (.cells #[Sl.v u0,.int .i64 0] 231) fun u1 I=>
 Q (some ⟨u1,0,none⟩) I
theorem aiO{a0:Sl}{Q:Option Addr->AH->Prop}(h:Sep ro I->acA B ro a0 I Q):uS B ro a0 I Q:=by
 refine zb h func53 ntmps53 fun h=>?_;unfold acA at h;refine z3 ?_;refine zp ?_;refine z4 ?_;refine zp ?_;refine zc func80 h ?_;rintro v I ⟨u0,rfl,h⟩;refine zm (wz (vs:=[(0,Sl.v u0)]) (cs:= #[Sl.v u0,.int .i64 0]) rfl underlying231 atx atI rfl rfl) ?_;refine zA (wI rfl rfl) h fun u1 h=>?_;refine zp ?_;refine z2 ?_;refine AW.ret ?_;exact bR1 results53 rfl ⟨_,rfl,h⟩
def abG(B:World)(ro:AH)(a0:Option Addr)(I:AH)(Q:Int->AH->Prop):=
 ∃p0,a0=some p0/\
 ∃u1,qa ro I (p0.add 1)=some (.int .i64 u1)/\
 if¬(u1=0)then
 Q 0 I
 else
 ∃p2,a0=some p2/\
 ∃u3,qa ro I p2=some (Sl.v u3)/\
 aeg B ro u3 0 I fun u4 u5 u6 I=>
 ∃p7,a0=some p7/\
 stN (p7.add 1) (fun I=>
 ∃p8,a0=some p8/\
 ∃u9,qa ro I p8=some (Sl.v u9)/\
 cutOk (some u5) none u9.len u9.cap/\
 ∃p10,a0=some p10/\
 stN p10 (fun I=>
  Q u4 I) [Sl.v (⟨wu u9.a (Int.toNat u5) u9.cap 1,u9.len - Int.toNat u5,u9.cap - Int.toNat u5⟩:Sl)] 0 I) [.int .i64 u6] 0 I
theorem ah4(h:Sep ro I->abG B ro a0 I Q):qN B ro a0 I Q:=by
 refine zb h func54 ntmps54 fun h=>?_;unfold abG at h;refine z3 ?_;refine zp ?_;refine z2 (AW.seq (z3 ?_))
 refine zp ?_;refine zN h fun p0 h=>?_;refine zf underlying231 adv ?_;refine zL underlying22 h fun u1 h=>?_;refine zp ?_;refine z2 ?_;refine AW.iff rfl (qu decide_eq_true_iff) h (fun h=>?_) (fun h=>?_)
 .refine z3 ?_;refine zp ?_;refine z2 ?_;refine AW.ret ?_;refine qi ?_;exact bR1 results54 rfl ⟨_,rfl,h⟩
 refine AW.skip ?_;refine qd (z3 ?_);refine zp ?_;refine zN h fun p2 h=>?_;refine zf underlying231 wO ?_;refine zL underlying24 h fun u3 h=>?_;refine zc func119 h ?_;rintro v I ⟨u4,u5,u6,rfl,h⟩;iterate 7 refine zp ?_
 refine z4 ?_;iterate 2 refine zp ?_
 refine zN h fun p7 h=>?_;refine zf underlying231 adv ?_;refine zs adv h fun I h=>?_;refine z4 ?_;iterate 2 refine zp ?_
 refine zN h fun p8 h=>?_;refine zf underlying231 wO ?_;refine zL underlying24 h fun u9 h=>?_;refine zp ?_;obtain⟨hc,h⟩:=h
 refine zm (uP (lo:=(some u5)) (hi:=none) rfl underlying24 ty5 rfl (zQ rfl) zP hc) ?_;refine zN h fun p10 h=>?_;refine zf underlying231 wO ?_;refine zs wO h fun I h=>?_;refine z4 ?_;iterate 2 refine zp ?_
 refine z2 ?_;refine AW.ret ?_;exact bR1 results54 rfl ⟨_,rfl,h⟩
def abd(B:World)(ro:AH)(a0:Option Addr)(I:AH)(Q:ByteArray->AH->Prop):=
 jM B ro a0 I fun u0 I=>
 awp prog ro (convert 24 9 (Sl.v u0)) (fun v I=>
 (∃(u1:ByteArray),v= .string u1/\
  Q u1 I)) I
theorem ahA{Q:ByteArray->AH->Prop}(h:Sep ro I->abd B ro a0 I Q):xn B ro a0 I Q:=by
 refine zb h func55 ntmps55 fun h=>?_;unfold abd at h;refine z3 ?_;refine zp ?_;refine z4 ?_;refine zp ?_;refine zc func56 h ?_;rintro v I ⟨u0,rfl,h⟩;refine zl (arH rfl rfl (qm _ h ?_))
 rintro v I ⟨u1,rfl,h⟩;refine zp ?_;refine z2 ?_;refine AW.ret ?_;exact bR1 results55 rfl ⟨_,rfl,h⟩
def abe(B:World)(ro:AH)(a0:Option Addr)(I:AH)(Q:Sl->AH->Prop):=
 ∃p0,a0=some p0/\
 ∃u1,qa ro I p0=some (Sl.v u1)/\
 qN B ro a0 I fun u2 I=>
 ∃p3,a0=some p3/\
 ∃u4,qa ro I (p3.add 1)=some (.int .i64 u4)/\
 if¬(u4=0)then
 Q (⟨none,0,0⟩:Sl) I
 else
 ∃p5,a0=some p5/\
 ∃u6,qa ro I p5=some (Sl.v u6)/\
 if(u6.len:Int)<u2 then
 ∃p7,a0=some p7/\
 stN (p7.add 1) (fun I=>
  ∃p8,a0=some p8/\
  stN p8 (fun I=>
  Q (⟨none,0,0⟩:Sl) I) [Sl.v u1] 0 I) [.int .i64 12] 0 I
 else
 ∃p9,a0=some p9/\
 ∃u10,qa ro I p9=some (Sl.v u10)/\
 cutOk none (some u2) u10.len u10.cap/\
 kn B ro (⟨wu u10.a (0) u10.cap 1,Int.toNat u2 - 0,u10.cap - 0⟩:Sl) I fun u11 I=>
 ∃p12,a0=some p12/\
 ∃u13,qa ro I p12=some (Sl.v u13)/\
 cutOk (some u2) none u13.len u13.cap/\
 ∃p14,a0=some p14/\
 stN p14 (fun I=>
 Q u11 I) [Sl.v (⟨wu u13.a (Int.toNat u2) u13.cap 1,u13.len - Int.toNat u2,u13.cap - Int.toNat u2⟩:Sl)] 0 I
theorem ahB{Q:Sl->AH->Prop}(h:Sep ro I->abe B ro a0 I Q):jM B ro a0 I Q:=by
 refine zb h func56 ntmps56 fun h=>?_;unfold abe at h;refine z3 ?_;refine zp ?_;refine z4 ?_;refine zp ?_;refine zN h fun p0 h=>?_;refine zf underlying231 wO ?_;refine zL underlying24 h fun u1 h=>?_;refine zp ?_;refine z4 ?_;refine zp ?_;refine zc func54 h ?_;rintro v I ⟨u2,rfl,h⟩;refine zp ?_;refine z2 (AW.seq (z3 ?_))
 refine zp ?_;refine zN h fun p3 h=>?_;refine zf underlying231 adv ?_;refine zL underlying22 h fun u4 h=>?_;refine zp ?_;refine z2 ?_;refine AW.iff rfl (qu decide_eq_true_iff) h (fun h=>?_) (fun h=>?_)
 .refine z3 ?_;refine zp ?_;refine z2 ?_;refine AW.ret ?_;refine qi ?_;exact bR1 results56 rfl ⟨_,rfl,h⟩
 refine AW.skip ?_;refine qd (AW.seq (z3 ?_));iterate 2 refine zp ?_
 refine zN h fun p5 h=>?_;refine zf underlying231 wO ?_;refine zL underlying24 h fun u6 h=>?_;refine zm (qT rfl rfl underlying24 rfl rfl) ?_;refine zp ?_;refine z2 ?_;refine zi h (fun h=>?_) fun h=>?_
 .refine z3 ?_;iterate 3 refine zp ?_
  refine zN h fun p7 h=>?_;refine zf underlying231 adv ?_;refine zs adv h fun I h=>?_;refine zN h fun p8 h=>?_;refine zf underlying231 wO ?_;refine zs wO h fun I h=>?_;refine z4 ?_;refine zp ?_;refine z2 ?_;refine AW.ret ?_;refine qi ?_;exact bR1 results56 rfl ⟨_,rfl,h⟩
 refine AW.skip ?_;refine qd (z3 ?_);refine zp ?_;refine zN h fun p9 h=>?_;refine zf underlying231 wO ?_;refine zL underlying24 h fun u10 h=>?_;refine zp ?_;obtain⟨hc,h⟩:=h
 refine zm (uP (lo:=none) (hi:=(some u2)) rfl underlying24 ty5 rfl zP (zQ rfl) hc) ?_;refine zc func80 h ?_;rintro v I ⟨u11,rfl,h⟩;refine zp ?_;refine z4 ?_;iterate 2 refine zp ?_
 refine zN h fun p12 h=>?_;refine zf underlying231 wO ?_;refine zL underlying24 h fun u13 h=>?_;refine zp ?_;obtain⟨hc,h⟩:=h
 refine zm (uP (lo:=(some u2)) (hi:=none) rfl underlying24 ty5 rfl (zQ rfl) zP hc) ?_;refine zN h fun p14 h=>?_;refine zf underlying231 wO ?_;refine zs wO h fun I h=>?_;refine z4 ?_;iterate 2 refine zp ?_
 refine z2 ?_;refine AW.ret ?_;exact bR1 results56 rfl ⟨_,rfl,h⟩
def abH(B:World)(ro:AH)(a0:Option Addr)(I:AH)(Q:Int->AH->Prop):=
 ∃p0,a0=some p0/\
 ∃u1,qa ro I (p0.add 1)=some (.int .i64 u1)/\
 Q u1 I
theorem ah5(h:Sep ro I->abH B ro a0 I Q):ur B ro a0 I Q:=by
 refine zb h func57 ntmps57 fun h=>?_;unfold abH at h;refine z3 ?_;refine zp ?_;refine z4 ?_;refine zp ?_;refine zN h fun p0 h=>?_;refine zf underlying231 adv ?_;refine zL underlying22 h fun u1 h=>?_;refine zp ?_;refine z2 ?_;refine AW.ret ?_;exact bR1 results57 rfl ⟨_,rfl,h⟩
def abf(B:World)(ro:AH)(a0:Option Addr)(I:AH)(Q:Int->AH->Prop):=
 ∃p0,a0=some p0/\
 ∃u1,qa ro I p0=some (Sl.v u1)/\
 Q (u1.len:Int) I
theorem ahC(h:Sep ro I->abf B ro a0 I Q):pM B ro a0 I Q:=by
 refine zb h func58 ntmps58 fun h=>?_;unfold abf at h;refine z3 ?_;refine zp ?_;refine z4 ?_;refine zp ?_;refine zN h fun p0 h=>?_;refine zf underlying231 wO ?_;refine zL underlying24 h fun u1 h=>?_;refine zm (qT rfl rfl underlying24 rfl rfl) ?_;refine zp ?_;refine z2 ?_;refine AW.ret ?_;exact bR1 results58 rfl ⟨_,rfl,h⟩
def abI(B:World)(ro:AH)(a0:Option Addr)(a1:Int)(I:AH)(Q:AH->Prop):=
 ac8 B ro a1 I fun u0 I=>
 if¬(u0=true)then
 ∃p1,a0=some p1/\
 stN (p1.add 3) (fun I=>
  Q I) [.bool true] 0 I
 else
 ∃p2,a0=some p2/\
 agJ B ro (⟨none,0,0⟩:Sl) a1 I fun u3 I=>
 yu B ro (some p2) u3 I fun u4 u5 I=>
 Q I
theorem ah6{Q:AH->Prop}(h:Sep ro I->abI B ro a0 a1 I Q):yq B ro a0 a1 I Q:=by
 refine zb h func114 ntmps114 fun h=>?_;unfold abI at h;refine AW.seq (z3 ?_);refine zp ?_;refine zc func174 h ?_;rintro v I ⟨u0,rfl,h⟩;refine zp ?_;refine z2 ?_;refine AW.iff rfl (qu Iff.rfl) h (fun h=>?_) (fun h=>?_)
 .refine z3 ?_;refine zp ?_;refine zN h fun p1 h=>?_;refine zf underlying219 ty4 ?_;refine zs ty4 h fun I h=>?_;refine z2 ?_;refine AW.ret ?_;refine qi ?_;exact bR0 results114 ⟨rfl,h⟩
 refine AW.skip ?_;refine qd ?_;refine AW.drawn0 (fun i=>([0,0,0,0,2,2]:List Nat).getD i 2) [] [0,1,2,3,4,5] mixed (by decide+kernel) ?_
 refine zq ?_;obtain⟨p2,hc,h⟩:=h
 refine Dp rfl rfl rfl rfl (qr rfl (by rw[<-hc];try rfl)) ?_
 refine zg underlying219 al0 ?_;refine zq ?_;refine Dg rfl rfl rfl rfl (qF rfl func175 rfl rfl rfl (qc.mono h ?_))
 rintro v I ⟨u3,rfl,h⟩;refine Dg rfl rfl rfl rfl (qF rfl func116 rfl rfl rfl (qc.mono h ?_))
 rintro v I ⟨u4,u5,rfl,h⟩;refine wH ?_
 exact bN0 results114 ⟨rfl,h⟩
def jy(B:World)(ro:AH)(a0:Sl)(a1:Int)(Q:Int->Int->Int->AH->Prop)(I:AH):=
 if 9<=(i64.wrap ((a0.len:Int) - a1))then
 Q 0 0 13 I
 else
 Q 0 0 12 I
def yL(B:World)(ro:AH)(a1 u0 u1 u2:Int)(Q:Int->Int->Int->AH->Prop)(Y2:(Int×Int)->AH->Prop)(u3:Bool)(I:AH):=
 if u3=true then
 Q 0 0 13 I
 else
 Q (uO .i64 u0 (i64.wrap ((i64.wrap (aaU .u8 u2 127))*2 ^ (min (Int.toNat (i64.wrap (7*u1))) 64)))) (i64.wrap ((i64.wrap (a1+u1))+1)) 0 I
def uF(B:World)(ro:AH)(a0:Sl)(a1:Int)(Q:Int->Int->Int->AH->Prop):(Int×Int)->AH->((Int×Int)->AH->Prop)->Prop:=fun⟨u0,u1⟩ I Y2=>
 if u1<((⟨wu a0.a (Int.toNat a1) a0.cap 1,a0.len - Int.toNat a1,a0.cap - Int.toNat a1⟩:Sl).len:Int)then
 ∃p2:Addr,(⟨wu a0.a (Int.toNat a1) a0.cap 1,a0.len - Int.toNat a1,a0.cap - Int.toNat a1⟩:Sl).a=some p2/\(0:Int)<=u1/\u1<((⟨wu a0.a (Int.toNat a1) a0.cap 1,a0.len - Int.toNat a1,a0.cap - Int.toNat a1⟩:Sl).len:Int)/\
 ∃u3,qa ro I (p2.add (Int.toNat u1*1))=some (.int .u8 u3)/\
 if u1=9 then
  jy B ro a0 a1 Q I
 else
 (0:Int)<=(i64.wrap (7*u1))/\
 if u3<128 then
  if(u3=0)/\(0<u1)then
  yL B ro a1 u0 u1 u3 Q Y2 true I
  else
  ac8 B ro (uO .i64 u0 (i64.wrap ((i64.wrap (aaU .u8 u3 127))*2 ^ (min (Int.toNat (i64.wrap (7*u1))) 64)))) I fun u4 I=>
  yL B ro a1 u0 u1 u3 Q Y2 (!u4) I
 else
 Y2 (uO .i64 u0 (i64.wrap ((i64.wrap (aaU .u8 u3 127))*2 ^ (min (Int.toNat (i64.wrap (7*u1))) 64))),i64.wrap (u1+1)) I
 else
 jy B ro a0 a1 Q I
def aep(B:World)(ro:AH)(a0:Sl)(a1:Int)(I:AH)(Q:Int->Int->Int->AH->Prop):=
 if(a1<0)\/((a0.len:Int)<a1)then
 Q 0 0 11 I
 else
 cutOk (some a1) none a0.len a0.cap/\
 lfpD (uF B ro a0 a1 Q) (0,0) I
theorem akG{a0:Sl}{Q:Int->Int->Int->AH->Prop}(h:Sep ro I->aep B ro a0 a1 I Q):aeg B ro a0 a1 I Q:=by
 refine zb h func119 ntmps119 fun h=>?_;unfold aep at h;refine z3 ?_;iterate 3 refine zp ?_
 refine z2 (AW.seq (z3 ?_))
 iterate 3 refine zp ?_
 refine wW 5 (decide (a1<0)) [(0,Sl.v a0),(1,.int .i64 a1),(4,.int .i64 0),(16,.bool ((decide (a1<0)) || (decide ((a0.len:Int)<a1))))] ?_ ?_ ?_
 .intro e2 hk2
  iterate 4 refine zn e2 ?_
  refine zk e2 ?_;exact hk2 _ (Fe e2)
 .intro e2 hk2
  refine zy e2 ?_;refine zy e2 ?_;refine qX (qT rfl rfl underlying24 rfl rfl) rfl rfl rfl rfl e2 ?_
  refine zy e2 ?_;refine zk e2 ?_;exact hk2 _ (Fe e2)
 intro fr hl
 refine Lfr hl ?_
 refine z2 ?_;refine AW.iff rfl (zG decide_eq_true_iff decide_eq_true_iff) h (fun h=>?_) (fun h=>?_)
 .refine z3 ?_;iterate 3 refine zp ?_
  refine z2 ?_;refine AW.ret ?_;refine qi ?_;exact bR3 results119 rfl rfl rfl ⟨_,_,_,rfl,h⟩
 refine AW.skip ?_;refine qd ?_;refine AW.seqJ (fun fr I=>qo [(0,Sl.v a0),(1,.int .i64 a1)] fr/\jy B ro a0 a1 Q I) ?_ ?_
 .rintro fr I ⟨hl,h⟩;refine AW.weaken ?_ hl (HLe.refl _)
  unfold jy at h;refine AW.seq (z3 ?_);refine zp ?_;refine zm (qT rfl rfl underlying24 rfl rfl) ?_;iterate 3 refine zp ?_
  refine z2 ?_;refine zi h (fun h=>?_) fun h=>?_
  .refine z3 ?_;iterate 3 refine zp ?_
   refine z2 ?_;refine AW.ret ?_;refine qi ?_;exact bR3 results119 rfl rfl rfl ⟨_,_,_,rfl,h⟩
  refine AW.skip ?_;refine qd (z3 ?_);iterate 3 refine zp ?_
  refine z2 ?_;refine AW.ret ?_;exact bR3 results119 rfl rfl rfl ⟨_,_,_,rfl,h⟩
 refine z3 ?_;iterate 2 refine zp ?_
 obtain⟨hc,h⟩:=h
 refine zm (uP (lo:=(some a1)) (hi:=none) rfl underlying24 ty5 rfl (zQ rfl) zP hc) ?_;refine zm (qT rfl rfl underlying24 rfl rfl) ?_;refine zp ?_;refine z2 (AW.block ?_)
 refine qk.loop (fr':=[(0,Sl.v a0),(1,.int .i64 a1),(19,Sl.v (⟨wu a0.a (Int.toNat a1) a0.cap 1,a0.len - Int.toNat a1,a0.cap - Int.toNat a1⟩:Sl)),(20,.int .i64 ((⟨wu a0.a (Int.toNat a1) a0.cap 1,a0.len - Int.toNat a1,a0.cap - Int.toNat a1⟩:Sl).len:Int)),(4,.int .i64 0),(21,.int .i64 0)]) ?_ FL
 refine h (fun⟨u0,u1⟩ I=>qk _ _ _ _ _ _ [(0,Sl.v a0),(1,.int .i64 a1),(19,Sl.v (⟨wu a0.a (Int.toNat a1) a0.cap 1,a0.len - Int.toNat a1,a0.cap - Int.toNat a1⟩:Sl)),(20,.int .i64 ((⟨wu a0.a (Int.toNat a1) a0.cap 1,a0.len - Int.toNat a1,a0.cap - Int.toNat a1⟩:Sl).len:Int)),(4,.int .i64 u0),(21,.int .i64 u1)] I) ?_
 rintro⟨u0,u1⟩ I Y2 hY2 h
 show AW _ _ _ _ _ _ _ _
 unfold uF at h;dsimp only at h;refine z3 ?_;refine zp ?_;refine z2 (AW.seq ?_)
 refine zi h (fun h=>?_) fun h=>?_
 rotate_left
 .refine AW.exit ?_;refine qH (qH ?_);refine wB ?_
  refine qd ?_;exact⟨FL,h⟩
 refine AW.skip ?_;refine qd (AW.seq (AW.block (z3 ?_)));refine zp ?_;obtain⟨p2,ha,h0,h1,h⟩:=h
 refine zm (vv rfl underlying24 ty5 (ixL rfl ha) rfl h0 h1) ?_;refine zL underlying5 h fun u3 h=>?_;iterate 2 refine zp ?_
 refine z2 (AW.seq (z3 ?_))
 iterate 2 refine zp ?_
 refine z2 ?_;refine zi h (fun h=>?_) fun h=>?_
 .refine AW.exit ?_;refine qH ?_;refine asO rfl ?_
  refine qH (qH ?_);refine wB ?_
  refine qd ?_;exact⟨FL,h⟩
 refine AW.skip ?_;refine qd (z3 ?_);iterate 2 refine zp ?_
 refine zm (ato rfl rfl rfl) ?_;refine zm (an2 rfl rfl underlying5 underlying3) ?_;iterate 2 refine zp ?_
 obtain⟨hc,h⟩:=h
 refine zm (atp rfl rfl rfl hc) ?_;refine zm (asJ rfl rfl rfl) ?_;refine zp ?_;refine z4 ?_;iterate 2 refine zp ?_
 refine z2 ?_;refine zi h (fun h=>?_) fun h=>?_
 rotate_left
 .refine AW.skip ?_;refine qD (qd (AW.reg ?_));iterate 2 refine zp ?_
  refine z2 ?_;refine qk.head (fr':=[(0,Sl.v a0),(1,.int .i64 a1),(19,Sl.v (⟨wu a0.a (Int.toNat a1) a0.cap 1,a0.len - Int.toNat a1,a0.cap - Int.toNat a1⟩:Sl)),(20,.int .i64 ((⟨wu a0.a (Int.toNat a1) a0.cap 1,a0.len - Int.toNat a1,a0.cap - Int.toNat a1⟩:Sl).len:Int)),(4,.int .i64 (uO .i64 u0 (i64.wrap ((i64.wrap (aaU .u8 u3 127))*2 ^ (min (Int.toNat (i64.wrap (7*u1))) 64))))),(21,.int .i64 (i64.wrap (u1+1)))]) ?_ FL
  exact hY2 _ _ h
 refine AW.seq (z3 ?_);iterate 3 refine zp ?_
 refine wW 3 (decide (u3=0)) [(1,.int .i64 a1),(4,.int .i64 (uO .i64 u0 (i64.wrap ((i64.wrap (aaU .u8 u3 127))*2 ^ (min (Int.toNat (i64.wrap (7*u1))) 64))))),(7,.int .i64 u1),(43,.bool ((decide (u3=0)) && (decide (0<u1))))] ?_ ?_ ?_
 .intro e2 hk2
  refine zy e2 ?_;refine zy e2 ?_;refine zk e2 ?_;exact hk2 _ (Fe e2)
 .intro e2 hk2
  iterate 2 refine zn e2 ?_
  refine zk e2 ?_;exact hk2 _ (Fe e2)
 intro fr hl
 refine Lfr hl ?_
 refine zp ?_;refine qO 4 ((decide (u3=0)) && (decide (0<u1))) (acj decide_eq_true_iff decide_eq_true_iff) h (fun fr I=> ∃(u4:Bool),qo [(1,.int .i64 a1),(4,.int .i64 (uO .i64 u0 (i64.wrap ((i64.wrap (aaU .u8 u3 127))*2 ^ (min (Int.toNat (i64.wrap (7*u1))) 64))))),(7,.int .i64 u1),(48,.bool u4)] fr/\yL B ro a1 u0 u1 u3 Q Y2 u4 I) ?_ ?_ ?_
 .intro h e6 hk6;iterate 3 refine zn e6 ?_
  refine zk e6 ?_;exact hk6 _ _ ⟨_,FL,h⟩
 .intro h e6 hk6;refine zy e6 ?_;refine Lyb rfl rfl rfl rfl e6 (qF rfl func174 rfl rfl rfl (qc.mono h ?_))
  rintro v I ⟨u5,rfl,h⟩;refine zy e6 ?_;refine zk e6 ?_;exact hk6 _ _ ⟨_,FL,h⟩
 rintro fr I ⟨u4,hl,h⟩;unfold yL at h;refine Lfr hl ?_
 refine z2 ?_;refine zj h (fun h=>?_) fun h=>?_
 .refine z3 ?_;iterate 3 refine zp ?_
  refine z2 ?_;refine AW.ret ?_;refine qi (qx (qi (qi (qx (qi ?_)))));exact bR3 results119 rfl rfl rfl ⟨_,_,_,rfl,h⟩
 refine AW.skip ?_;refine qd (z3 ?_);iterate 8 refine zp ?_
 refine z2 ?_;refine AW.ret ?_;refine qx (qi (qi (qx (qi ?_))));exact bR3 results119 rfl rfl rfl ⟨_,_,_,rfl,h⟩
def afa(B:World)(ro:AH)(a0:Int)(I:AH)(Q:Bool->AH->Prop):=
 Q ((decide (0<=a0)) && (decide (a0<=4611686018427387903))) I
theorem alI{a0:Int}{Q:Bool->AH->Prop}(h:Sep ro I->afa B ro a0 I Q):ac8 B ro a0 I Q:=by
 refine zb h func174 ntmps174 fun h=>?_;unfold afa at h;refine z3 ?_;refine zp ?_;refine z4 ?_;iterate 3 refine zp ?_
 refine wW 3 (decide (0<=a0)) [(8,.bool ((decide (0<=a0)) && (decide (a0<=4611686018427387903))))] ?_ ?_ ?_
 .intro e2 hk2
  refine zy e2 ?_;refine zy e2 ?_;refine zk e2 ?_;exact hk2 _ (Fe e2)
 .intro e2 hk2
  iterate 2 refine zn e2 ?_
  refine zk e2 ?_;exact hk2 _ (Fe e2)
 intro fr hl
 refine Lfr hl ?_
 refine zp ?_;refine z2 ?_;refine AW.ret ?_;exact bR1 results174 rfl ⟨_,rfl,h⟩
def ab0(B:World)(ro:AH)(Q:Sl->AH->Prop)(u0:Sl)(u1:Int)(I:AH):=
 nw ro I (.cells #[.int .u8 (IntKind.u8.wrap u1)] 5) fun u2 I=>
 awp prog ro (Builtin.append_ #[24,24] 24 #[Sl.v u0,Sl.v (⟨some ⟨u2,0,none⟩,1,1⟩:Sl)]) (fun v I=> ∃(u3:Sl),v=Sl.v u3/\
 Q u3 I) I
def ab1(B:World)(ro:AH)(Q:Sl->AH->Prop):(Sl×Int)->AH->((Sl×Int)->AH->Prop)->Prop:=fun⟨u0,u1⟩ I Y6=>
 if 128<=u1 then
 nw ro I (.cells #[.int .u8 (uO .u8 (IntKind.u8.wrap u1) 128)] 5) fun u2 I=>
 awp prog ro (Builtin.append_ #[24,24] 24 #[Sl.v u0,Sl.v (⟨some ⟨u2,0,none⟩,1,1⟩:Sl)]) (fun v I=> ∃(u3:Sl),v=Sl.v u3/\
  Y6 (u3,Int.fdiv u1 (2 ^ (min (Int.toNat 7) 64))) I) I
 else
 ab0 B ro Q u0 u1 I
def agZ(B:World)(ro:AH)(a0:Sl)(a1:Int)(I:AH)(Q:Sl->AH->Prop):=
 lfpD (ab1 B ro Q) (a0,a1) I
theorem am1{a0:Sl}{Q:Sl->AH->Prop}(h:Sep ro I->agZ B ro a0 a1 I Q):agJ B ro a0 a1 I Q:=by
 refine zb h func175 ntmps175 fun h=>?_;unfold agZ at h;refine z3 ?_;refine zp ?_;refine z2 ?_;refine AW.seqJ (fun fr I=> ∃(u0:Sl) (u1:Int),qo [(0,Sl.v u0),(1,.int .i64 u1)] fr/\ab0 B ro Q u0 u1 I) ?_ ?_
 .rintro fr I ⟨u0,u1,hl,h⟩;refine AW.weaken ?_ hl (HLe.refl _)
  unfold ab0 at h;refine z3 ?_;iterate 2 refine zp ?_
  refine zm (an2 rfl rfl underlying3 underlying5) ?_;refine zA (zR (vs:=[(0,.int .u8 (IntKind.u8.wrap u1))]) (cs:= #[.int .u8 (IntKind.u8.wrap u1)]) rfl underlying24 ty5 (by decide) rfl rfl) h fun u2 h=>?_;refine zl (je (s:=Builtin.append_ #[24,24] 24 #[Sl.v u0,Sl.v (⟨some ⟨u2,0,none⟩,1,1⟩:Sl)]) rfl rfl (fun _=>rfl) (qm _ h ?_))
  rintro v I ⟨u3,rfl,h⟩;refine zp ?_;refine z2 ?_;refine AW.ret ?_;exact bR1 results175 rfl ⟨_,rfl,h⟩
 refine AW.block ?_;refine qk.loop (fr':=[(0,Sl.v a0),(1,.int .i64 a1)]) ?_ FL
 refine h (fun⟨u4,u5⟩ I=>qk _ _ _ _ _ _ [(0,Sl.v u4),(1,.int .i64 u5)] I) ?_
 rintro⟨u4,u5⟩ I Y6 hY6 h
 show AW _ _ _ _ _ _ _ _
 unfold ab1 at h;dsimp only at h;refine AW.seq (z3 ?_);iterate 2 refine zp ?_
 refine z2 ?_;refine zi h (fun h=>?_) fun h=>?_
 rotate_left
 .refine AW.exit ?_;refine qH (qH ?_);refine wB ?_
  refine qd ?_;exact⟨_,_,FL,h⟩
 refine AW.skip ?_;refine qd (AW.seq (AW.block (AW.reg ?_)));iterate 2 refine zp ?_
 refine zm (an2 rfl rfl underlying3 underlying5) ?_;refine zm (asJ rfl rfl rfl) ?_;refine zA (zR (vs:=[(0,.int .u8 (uO .u8 (IntKind.u8.wrap u5) 128))]) (cs:= #[.int .u8 (uO .u8 (IntKind.u8.wrap u5) 128)]) rfl underlying24 ty5 (by decide) rfl rfl) h fun u6 h=>?_;refine zl (je (s:=Builtin.append_ #[24,24] 24 #[Sl.v u4,Sl.v (⟨some ⟨u6,0,none⟩,1,1⟩:Sl)]) rfl rfl (fun _=>rfl) (qm _ h ?_))
 rintro v I ⟨u7,rfl,h⟩;refine zp ?_;refine ju (qD (qd (AW.reg ?_)));refine zp ?_;refine zm (atq rfl rfl rfl (by decide)) ?_;refine zp ?_;refine z2 ?_;refine qk.head (fr':=[(0,Sl.v u7),(1,.int .i64 (Int.fdiv u5 (2 ^ (min (Int.toNat 7) 64))))]) ?_ FL
 exact hY6 _ _ h
end G
namespace Wi
open Go SL G Zt
variable{B:World}{ro I I':AH}{tag tag':Nat->Nat}
variable{Q:AH->Prop}{W n q r x:Nat}{s:Sl}{l p:Str}{a:Str×Bool}
theorem aud(n:Nat):uO .u8 (IntKind.u8.wrap (n:Int)) 128=((n%128+128:Nat):Int):=by
 have h:∀ c:Fin 256,uO .u8 ((c.val:Nat):Int) 128=((c.val%128+128:Nat):Int):=by decide+kernel
 have e:IntKind.u8.wrap (n:Int)=((n%256:Nat):Int):=by
  simp[IntKind.wrap,IntKind.bits,IntKind.signed]
 rw[e,h ⟨n%256,Nat.mod_lt _ (by decide)⟩]
 simp only
 omega
theorem apl(h:n<256):IntKind.u8.wrap (n:Int)=(n:Int):=by
 simp[IntKind.wrap,IntKind.bits,IntKind.signed];omega
theorem aoo(h:n<256):vU (UInt8.ofNat n)= .int .u8 (n:Int):=by
 unfold vU;rw[aeG n h]
theorem ams{n:Int}{Q:Bool->AH->Prop}(hQ:Q (qQ n) I):ac8 B ro n I Q:=by
 refine alI fun _=>?_
 unfold afa
 exact hQ
theorem asX{Q:Sl->AH->Prop}(hs:SL.Sep ro I)(hn:n<4611686018427387904)(hQ:∀ s tag' I',qe [1] ro tag I tag' I'->Row tag' I' 1 5 s ((wg n).map vU)->Q s I'):agJ B ro ⟨none,0,0⟩ (n:Int) I Q:=by
 refine am1 fun _=>?_
 unfold agZ
 suffices∀(m k:Nat) (acc:Str) (s:Sl) (tag1:Nat->Nat) (I1:AH),k<128 ^ (m+1)->acc.length+m<20->acc++wg k=wg n->qe [1] ro tag I tag1 I1->Row tag1 I1 1 5 s (acc.map vU)->lfpD (ab1 B ro Q) (s,(k:Int)) I1 from
  this 8 n [] ⟨none,0,0⟩ tag I (by omega) (by decide) rfl (qe.refl hs) (Row.nil 1 5)
 intro m
 induction m with
 | zero=>
  intro k acc s tag1 I1 hk ha he st r1
  have hk:k<128:=by simpa using hk
  refine lfpD.intro ?_
  unfold ab1
  simp only
  rw[if_neg (by omega)]
  unfold ab0
  refine qj (tag:=tag1) 0 st.sep fun x tag2 I2 st2 r2=>?_
  rw[apl (by omega)]at r2
  refine abP (l2:=[vU (UInt8.ofNat k)]) (r1.keep (st2 [])) (st2 []).sep (by rw[aoo (by omega)];exact r2.read (st2 []).sep) u30 ty5 rfl (by simp[qh]) (by simp;omega) (by decide) fun s' tag3 I3 st3 r3=>?_
  refine⟨s',rfl,hQ s' tag3 I3 (st.trans ((st2 _).trans (st3 _ (.inr (by simp))))) ?_⟩
  rw[<-he]
  rw[wg,if_pos hk,List.map_append]
  exact r3
 | succ m ih=>
  intro k acc s tag1 I1 hk ha he st r1
  refine lfpD.intro ?_
  unfold ab1
  simp only
  by_cases h128:128<=k
  .rw[if_pos (by omega)]
   refine qj (tag:=tag1) 0 st.sep fun x tag2 I2 st2 r2=>?_
   rw[aud]at r2
   refine abP (l2:=[vU (UInt8.ofNat (k%128+128))]) (r1.keep (st2 [])) (st2 []).sep (by rw[aoo (by omega)];exact r2.read (st2 []).sep) u30 ty5 rfl (by simp[qh]) (by simp;omega) (by decide) fun s' tag3 I3 st3 r3=>?_
   refine⟨s',rfl,?_⟩
   rw[show Int.fdiv (k:Int) (2 ^ (min (Int.toNat 7) 64))=((k / 128:Nat):Int) by
    rw[show(2:Int) ^ (min (Int.toNat 7) 64)=128 from by decide,Int.fdiv_eq_ediv_of_nonneg _ (by decide)];omega]
   refine ih (k / 128) (acc++[UInt8.ofNat (k%128+128)]) s' tag3 I3 (by rw[Nat.pow_succ]at hk;exact Nat.div_lt_of_lt_mul (by rw[Nat.mul_comm];exact hk)) (by simp;omega) ?_ (st.trans ((st2 _).trans (st3 _ (.inr (by simp))))) (by rw[List.map_append];exact r3)
   rw[<-he,List.append_assoc]
   conv=>rhs;rw[wg,if_neg (by omega)]
   rfl
  .rw[if_neg (by omega)]
   unfold ab0
   refine qj (tag:=tag1) 0 st.sep fun x tag2 I2 st2 r2=>?_
   rw[apl (by omega)]at r2
   refine abP (l2:=[vU (UInt8.ofNat k)]) (r1.keep (st2 [])) (st2 []).sep (by rw[aoo (by omega)];exact r2.read (st2 []).sep) u30 ty5 rfl (by simp[qh]) (by simp;omega) (by decide) fun s' tag3 I3 st3 r3=>?_
   refine⟨s',rfl,hQ s' tag3 I3 (st.trans ((st2 _).trans (st3 _ (.inr (by simp))))) ?_⟩
   rw[<-he]
   rw[wg,if_pos (by omega),List.map_append]
   exact r3
def wS(a:Str×Bool)(n:Int):Str×Bool:=if qQ n then(a.1++wg n.toNat,a.2)else(a.1,true)
theorem kN(a:Str×Bool)(n:Int):(wS a n).1.length<=a.1.length+9:=by
 unfold wS
 split
 .rename_i h
  unfold qQ at h
  simp only[Bool.and_eq_true,decide_eq_true_eq]at h
  have:=(uZ 8 n.toNat (by omega)).2
  simp;omega
 .simp
theorem aj2{n:Int}(h:vl tag I r W a.1 a.2)(hr:r≠1)(hs:SL.Sep ro I)(hl:a.1.length+9<=140737488355328)
  (hQ:∀ tag' I',qe [r,r+64,1] ro tag I tag' I'->vl tag' I' r W (wS a n).1 (wS a n).2->Q I'):yq B ro (some ⟨W,0,none⟩) n I Q:=by
 refine ah6 fun _=>?_
 unfold abI
 refine ams ?_
 unfold wS at hQ
 by_cases hn:qQ n=true
 .rw[if_neg (by simp[hn])]
  simp only[hn,if_true]at hQ
  have hn':=hn
  unfold qQ at hn'
  simp only[Bool.and_eq_true,decide_eq_true_eq]at hn'
  refine⟨_,rfl,?_⟩
  obtain⟨k,rfl⟩:=Int.eq_ofNat_of_zero_le hn'.1
  rw[Int.toNat_natCast]at hQ
  refine asX (tag:=tag) hs (by omega) fun s tag1 I1 st1 r1=>?_
  have hk:=(uZ 8 k (by omega)).2
  refine ai7 (d:=wg k) (h.keep st1 (by simpa using hr) (by simp)) st1.sep (by omega) (by rw[r1.len];simp) (fun tag2 I2 st2=>(r1.keep st2 (by simp;omega)).read st2.sep) fun _ _ tag2 I2 st2 h2=>?_
  exact hQ tag2 I2 ((st1.mono (by simp)).trans (st2.mono (by simp))) h2
 .rw[if_pos (by simpa using hn)]
  simp only[hn]at hQ
  obtain⟨s0,hcap,lr,h1,h2⟩:=h
  refine⟨_,rfl,?_⟩
  refine h1.st (i:=3) hs rfl (by simp) rfl fun I1 st1 r1=>?_
  exact hQ tag I1 (st1.mono (by simp)) ⟨s0,hcap,lr,r1,h2.keep st1⟩
theorem ah7{Q:Option Addr->AH->Prop}(hQ:∀ W tag' I',(∀R,qe R ro tag I tag' I')->vl tag' I' r W [] false->Q (some ⟨W,0,none⟩) I'):uR B ro I Q:=by
 refine aiN fun hs=>?_
 unfold acz
 refine qj (tag:=tag) r hs fun W tag1 I1 st1 r1=>?_
 exact hQ W tag1 I1 st1 ⟨⟨none,0,0⟩,by decide,0,r1,Row.nil _ _⟩
theorem asY:¬ (i64.wrap (0+1)<((1:Nat):Int)):=by decide
def wq(a:Str×Bool)(p:Str):Str×Bool:=((wS a p.length).1++p,(wS a p.length).2)
theorem yF(a:Str×Bool)(p:Str):(wq a p).1.length<=a.1.length+9+p.length:=by
 have:=kN a p.length
 unfold wq;simp;omega
theorem alj(h:vl tag I r W a.1 a.2)(hr:r≠1)(hq:q≠r/\q≠r+64/\q≠1)(hs:SL.Sep ro I)(hl:a.1.length+9+p.length<=140737488355328)(hx:Row tag I q 9 ⟨some ⟨x,0,none⟩,1,1⟩ [Pa.vS p])
  (hQ:∀ tag' I',qe [r,r+64,1] ro tag I tag' I'->vl tag' I' r W (wq a p).1 (wq a p).2->Q I'):vh B ro (some ⟨W,0,none⟩) ⟨some ⟨x,0,none⟩,1,1⟩ I Q:=by
 refine adf fun _=>?_
 unfold pu
 refine lfpD.intro ?_
 unfold ku
 rw[if_pos (by simp)]
 refine⟨_,rfl,by decide,by simp,S p,hx.cell1 hs,_,rfl,?_⟩
 have hlen:=kN a p.length
 rw[show((S p).size:Int)=(p.length:Nat)from by rw[<-xz,L_S]]
 refine aj2 h hr hs (by omega) fun tag1 I1 st1 h1=>?_
 refine⟨_,rfl,?_⟩
 refine age h1 st1.sep (by rw[L_S];omega) fun _ _ tag2 I2 st2 h2=>?_
 rw[L_S]at h2
 refine lfpD.intro ?_
 rw[if_neg (show¬(i64.wrap (0+1)<((⟨some ⟨x,0,none⟩,1,1⟩:Sl).len:Int))from asY)]
 exact hQ tag2 I2 (st1.trans (st2.mono (by simp))) h2
theorem alk(h:vl tag I r W a.1 a.2)(hr:r≠1)(hq:q≠r/\q≠r+64/\q≠1)(hs:SL.Sep ro I)(hl:a.1.length+9+p.length<=140737488355328)(hx:Row tag I q 24 ⟨some ⟨x,0,none⟩,1,1⟩ [Sl.v s])(hsl:s.len=p.length)
  (hsrc:∀ tag' I',qe [r,r+64,1] ro tag I tag' I'->SL.zw ro I' s (p.map vU)) (hQ:∀ tag' I',qe [r,r+64,1] ro tag I tag' I'->vl tag' I' r W (wq a p).1 (wq a p).2->Q I'):
  jm B ro (some ⟨W,0,none⟩) ⟨some ⟨x,0,none⟩,1,1⟩ I Q:=by
 refine agY fun _=>?_
 unfold aaF
 refine lfpD.intro ?_
 unfold aac
 rw[if_pos (by simp)]
 refine⟨_,rfl,by decide,by simp,s,hx.cell1 hs,_,rfl,?_⟩
 have hlen:=kN a p.length
 rw[hsl]
 refine aj2 h hr hs (by omega) fun tag1 I1 st1 h1=>?_
 refine⟨_,rfl,?_⟩
 have wid:∀ x∈[r,r+64],x∈[r,r+64,1]:=fun x hx=>by
  simp only[List.mem_cons,List.not_mem_nil,or_false]at hx⊢
  rcases hx with h | h<;>simp[h]
 refine ai7 (d:=p) h1 st1.sep (by omega) hsl (fun tag2 I2 st2=>hsrc tag2 I2 (st1.trans (st2.mono wid))) fun _ _ tag2 I2 st2 h2=>?_
 refine lfpD.intro ?_
 rw[if_neg (show¬(i64.wrap (0+1)<((⟨some ⟨x,0,none⟩,1,1⟩:Sl).len:Int))from asY)]
 exact hQ tag2 I2 (st1.trans (st2.mono wid)) h2
theorem anG(hr:r≠1)(hq:q≠r/\q≠r+64/\q≠1){ns:List Int}(h:vl tag I r W a.1 a.2)(hs:SL.Sep ro I)(hl:a.1.length+9*ns.length<=140737488355328)(hx:Row tag I q 3 s (ns.map Zt.vI))
  (hQ:∀ tag' I',qe [r,r+64,1] ro tag I tag' I'->vl tag' I' r W (ns.foldl wS a).1 (ns.foldl wS a).2->Q I'):wX B ro (some ⟨W,0,none⟩) s I Q:=by
 refine ahz fun _=>?_
 unfold abc
 have hsl:s.len=ns.length:=by rw[hx.len,List.length_map]
 suffices∀(m j:Nat) (tag1:Nat->Nat) (I1:AH),j+m=ns.length->qe [r,r+64,1] ro tag I tag1 I1->((ns.take j).foldl wS a).1.length<=a.1.length+9*j->vl tag1 I1 r W ((ns.take j).foldl wS a).1 ((ns.take j).foldl wS a).2->lfpD (jp B ro (some ⟨W,0,none⟩) s Q) (j:Int) I1 from
  this _ 0 tag I (Nat.zero_add _) (qe.refl hs) (by simp) (by simpa using h)
 intro m
 induction m with
 | zero=>
  intro j tag1 I1 hj st _ h1
  refine lfpD.intro ?_
  unfold jp
  rw[if_neg (by omega)]
  rw[List.take_of_length_le (by omega)]at h1
  exact hQ tag1 I1 st h1
 | succ m ih=>
  intro j tag1 I1 hj st hln h1
  have hjl:j<ns.length:=by omega
  have hx1:=hx.keep st (by simp;omega)
  obtain⟨p,hp,hg⟩:=hx1.ptr st.sep (by simp;omega)
  refine lfpD.intro ?_
  unfold jp
  rw[if_pos (by omega)]
  refine⟨p,hp,by omega,by omega,ns[j],?_,_,rfl,?_⟩
  .have:=hg j (Zt.vI ns[j]) (by rw[List.getElem?_map,List.getElem?_eq_getElem hjl];try rfl)
   rw[Int.toNat_natCast];exact this
  .refine aj2 h1 hr st.sep (by omega) fun tag2 I2 st2 h2=>?_
   rw[Pa.inc j (by omega)]
   have e:(ns.take (j+1)).foldl wS a=wS ((ns.take j).foldl wS a) ns[j]:=by
    rw[List.take_add_one,List.getElem?_eq_getElem hjl,List.foldl_append];try rfl
   have:=kN ((ns.take j).foldl wS a) ns[j]
   exact ih (j+1) tag2 I2 (by omega) (st.trans st2) (by rw[e];omega) (by rw[e];exact h2)
theorem apm{Q:Sl->Int->AH->Prop}(h:vl tag I r W a.1 a.2)(hs:SL.Sep ro I)(hl:a.1.length<=140737488355328)
  (hbad:a.2=true->Q ⟨none,0,0⟩ 10 I) (hgood:a.2=false->∀ s tag' I',(∀R,qe R ro tag I tag' I')->Row tag' I' 6 5 s (a.1.map vU)->Q s 0 I'):uq B ro (some ⟨W,0,none⟩) I Q:=by
 refine ah3 fun _=>?_
 unfold abF
 obtain⟨s0,hcap,lr,h1,h2⟩:=h
 obtain⟨p,hp,hg⟩:=h1.ptr hs (by simp)
 cases hp
 refine⟨_,rfl,a.2,hg 3 _ rfl,?_⟩
 by_cases hb:a.2=true
 .rw[if_pos hb];exact hbad hb
 .rw[if_neg hb]
  refine⟨_,rfl,?_⟩
  refine agd fun _=>?_
  unfold aab
  refine⟨_,rfl,_,rfl,s0,hg 0 _ rfl,0,hg 1 _ rfl,⟨trivial,by decide,by simp only[cutHi];omega⟩,?_⟩
  rw[show(⟨wu s0.a (Int.toNat 0) s0.cap 1,s0.len - Int.toNat 0,s0.cap - Int.toNat 0⟩:Sl)=s0 from by rw[show Int.toNat 0=0 from rfl,pR];try rfl]
  refine aba (tag:=tag) (h2.read hs) hs (by simp;omega) (al3 _) fun s' tag1 I1 st1 r1=>?_
  exact hgood (by simpa using hb) s' tag1 I1 st1 r1
theorem atQ(c:UInt8):aaU .u8 (c.toNat:Int) 127=((c.toNat%128:Nat):Int):=by
 have h:∀ c:Fin 256,aaU .u8 ((c.val:Nat):Int) 127=((c.val%128:Nat):Int):=by decide+kernel
 exact h ⟨c.toNat,arP c⟩
theorem anH{i:Nat}(c:UInt8)(hi:i<=8)(hn:n<128 ^ i):
  uO .i64 (n:Int) (i64.wrap ((i64.wrap (aaU .u8 (c.toNat:Int) 127))*2 ^ (min (Int.toNat (i64.wrap (7*(i:Int)))) 64)))=((n+128 ^ i*(c.toNat%128):Nat):Int):=by
 have hm:c.toNat%128<128:=Nat.mod_lt _ (by decide)
 rw[atQ]
 generalize c.toNat%128=m at hm
 rw[wb (n:=(m:Int)) (by omega) (by omega),wb (n:=7*(i:Int)) (by omega) (by omega)]
 have hp:(2:Int) ^ (min (Int.toNat (7*(i:Int))) 64)=((128 ^ i:Nat):Int):=by
  have:i=0\/i=1\/i=2\/i=3\/i=4\/i=5\/i=6\/i=7\/i=8:=by omega
  rcases this with rfl | rfl | rfl | rfl | rfl | rfl | rfl | rfl | rfl<;>decide
 rw[hp]
 have h8:128 ^ i<=128 ^ 8:=Nat.pow_le_pow_right (by decide) hi
 have h9:m*128 ^ i<=127*128 ^ 8:=Nat.mul_le_mul (by omega) h8
 have h9':m*128 ^ i<=9151314442816847872:=by simpa using h9
 have hn':n<72057594037927936:=Nat.lt_of_lt_of_le hn (by simpa using h8)
 rw[<-Int.natCast_mul,wb (by omega) (by omega)]
 unfold uO
 have e:(BitVec.ofInt IntKind.i64.bits (n:Int) ||| BitVec.ofInt IntKind.i64.bits ((m*128 ^ i:Nat):Int)).toNat=n+128 ^ i*m:=by
  rw[BitVec.toNat_or,BitVec.ofInt_natCast,BitVec.ofInt_natCast,BitVec.toNat_ofNat,BitVec.toNat_ofNat]
  rw[show IntKind.i64.bits=64 from rfl,Nat.mod_eq_of_lt (by omega),Nat.mod_eq_of_lt (by omega)]
  have e2:128 ^ i=2 ^ (7*i):=by rw[Nat.pow_mul]
  rw[Nat.or_comm,Nat.mul_comm m,e2,<-Nat.two_pow_add_eq_or_of_lt (by rw[<-e2];exact hn)]
  omega
 rw[e]
 have:128 ^ i*m=m*128 ^ i:=Nat.mul_comm _ _
 rw[wb (by omega) (by omega)]
theorem apn{Q:Int->Int->Int->AH->Prop}(h:SL.zw ro I s (l.map vU))(hl:l.length<=140737488355328)(hQ:Q (num l).1 (num l).2.1 (num l).2.2 I):aeg B ro s 0 I Q:=by
 refine akG fun _=>?_
 unfold aep
 have hln:s.len=l.length:=by rw[h.1,List.length_map]
 rw[if_neg (by omega)]
 refine⟨⟨trivial,by decide,by simp only[cutHi];omega⟩,?_⟩
 have e0:(⟨wu s.a (Int.toNat 0) s.cap 1,s.len - Int.toNat 0,s.cap - Int.toNat 0⟩:Sl)=s:=by rw[show Int.toNat 0=0 from rfl,pR];try rfl
 suffices∀(m i:Nat),i+m=9->i<=l.length->(∀j c,j<i->l[j]?=some c->128<=c.toNat)->lfpD (uF B ro s 0 Q) (((val (l.take i):Nat):Int),(i:Int)) I from
  this 9 0 rfl (Nat.zero_le _) (fun j c h=>by omega)
 intro m
 induction m with
 | zero=>
  intro i hi hil hall
  have hi9:i=9:=by omega
  subst hi9
  refine lfpD.intro ?_
  unfold uF
  simp only[e0]
  have hnum:num l=(0,0,if l.length<9 then 12 else 13):=by unfold num;rw[ahX 9 l hall]
  have hj:jy B ro s 0 Q I:=by
   unfold jy
   rw[Int.sub_zero,wb (by omega) (by omega),if_pos (by omega)]
   rw[hnum,if_neg (by omega)]at hQ
   exact hQ
  by_cases hlt:9<l.length
  .rw[if_pos (by omega)]
   have ha:s.a≠none:=fun hn=>by have:=h.2.1 hn;simp at this;subst this;simp at hlt
   obtain⟨p,hs⟩:∃ p,s.a=some p:=by
    cases hs:s.a with
    | none=>exact absurd hs ha
    | some p=>exact⟨p,rfl⟩
   .skip
    refine⟨p,by rw[show Int.toNat 0=0 from rfl,pR,hs],by decide,by omega,(l[9].toNat:Int),?_,?_⟩
    .have:=h.2.2 p hs 9 (vU l[9]) (by rw[List.getElem?_map,List.getElem?_eq_getElem hlt];try rfl)
     exact this
    .rw[if_pos (by decide)];exact hj
  .rw[if_neg (by omega)];exact hj
 | succ m ih=>
  intro i hi hil hall
  refine lfpD.intro ?_
  unfold uF
  simp only[e0]
  by_cases hlt:i<l.length
  .rw[if_pos (by omega)]
   have ha:s.a≠none:=fun hn=>by have:=h.2.1 hn;simp at this;subst this;simp at hlt
   obtain⟨p,hs⟩:∃ p,s.a=some p:=by
    cases hs:s.a with
    | none=>exact absurd hs ha
    | some p=>exact⟨p,rfl⟩
   .skip
    refine⟨p,by rw[show Int.toNat 0=0 from rfl,pR,hs],by omega,by omega,(l[i].toNat:Int),?_,?_⟩
    .have:=h.2.2 p hs i (vU l[i]) (by rw[List.getElem?_map,List.getElem?_eq_getElem hlt];try rfl)
     rw[Int.toNat_natCast,Nat.mul_one];exact this
    .rw[if_neg (by omega)]
     refine⟨by rw[wb (by omega) (by omega)];omega,?_⟩
     rw[anH l[i] (by omega) (amn l i)]
     have hlen:(l.take i).length=i:=by simp;omega
     have hval:val (l.take i)+128 ^ i*(l[i].toNat%128)=val (l.take (i+1)):=by
      have e:l.take (i+1)=l.take i++[l[i]]:=by rw[List.take_add_one,List.getElem?_eq_getElem hlt];try rfl
      rw[e,aqA,hlen]
     rw[hval]
     by_cases hc:l[i].toNat<128
     .rw[if_pos (by omega)]
      have hscan:aaD 9 l=some i:=asa 9 l i l[i] (by omega) hall (List.getElem?_eq_getElem hlt) hc
      have hz:(l[i]?=some 0)↔l[i].toNat=0:=by
       rw[List.getElem?_eq_getElem hlt]
       refine⟨fun h=>by rw[Option.some.inj h];try rfl,fun h=>congrArg some (aol h)⟩
      unfold num at hQ
      rw[hscan]at hQ
      simp only at hQ
      by_cases hz0:((l[i].toNat:Int)=0)/\((0:Int)<(i:Int))
      .rw[if_pos hz0]
       unfold yL
       rw[if_pos rfl]
       rw[if_pos (.inl ⟨by omega,hz.2 (by omega)⟩)]at hQ
       exact hQ
      .rw[if_neg hz0]
       refine ams ?_
       unfold yL
       by_cases hr:4611686018427387904<=val (l.take (i+1))
       .rw[if_pos (by simp[qQ];omega)]
        rw[if_pos (.inr hr)]at hQ
        exact hQ
       .rw[if_neg (by simp[qQ];omega)]
        rw[if_neg (fun h=>by
         rcases h with⟨h1,h2⟩ | h
         .exact hz0 ⟨by rw[hz.1 h2];try rfl,by omega⟩
         .exact hr h)]at hQ
        rw[Int.zero_add,anH l[i] (by omega) (amn l i),hval,wb (n:=(i:Int)) (by omega) (by omega),wb (by omega) (by omega)]
        exact hQ
     .rw[if_neg (by omega)]
      rw[Pa.inc i (by omega)]
      refine ih (i+1) (by omega) (by omega) fun j c hj hjc=>?_
      rcases Nat.lt_or_ge j i with h1 | h1
      .exact hall j c h1 hjc
      .have:j=i:=by omega
       subst this
       rw[List.getElem?_eq_getElem hlt]at hjc
       cases hjc;omega
  .rw[if_neg (by omega)]
   have hnone:aaD 9 l=none:=ahX 9 l fun j c _ hjc=>hall j c (by
    rcases Nat.lt_or_ge j l.length with h | h
    .omega
    .rw[List.getElem?_eq_none h]at hjc;cases hjc) hjc
   unfold num at hQ
   rw[hnone]at hQ
   simp only at hQ
   unfold jy
   rw[Int.sub_zero,wb (by omega) (by omega),if_neg (by omega)]
   rw[if_pos (by omega)]at hQ
   exact hQ
end Wi
namespace Zt
open Go SL G Pa Wi
variable{B:World}{ro I I':AH}{tag tag':Nat->Nat}
theorem asZ:prog.underlying 5=some (.int .u8):=by kernel_rfl
theorem am2{P:Program}{f:Value->ByteArray->Sem (ForInStep ByteArray)}(hf:∀ (c:UInt8) (r:ByteArray),f (vU c) r=Sem.pure (.yield (r.push c))):
  ∀(l:Str) (s:Str),(forIn (l.map vU) (S s) f:Sem ByteArray)=Sem.pure (S (s++l)):=by
 intro l
 induction l with
 | nil=>intro s;simp;rfl
 | cons c l ih=>
  intro s
  simp only[List.map_cons,List.forIn_cons]
  rw[hf]
  show(match ForInStep.yield ((S s).push c)with | _=>_:Sem ByteArray)=_
  have e:(S s).push c=S (s++[c]):=by unfold S;simp[ByteArray.push]
  show forIn (l.map vU) ((S s).push c) f=_
  rw[e,ih]
  simp
theorem asf{s:Sl}{l:Str}{K:Value->AH->Prop}(h:SL.zw ro I s (l.map vU))(hK:K (.string (S l)) I):awp prog ro (convert 24 9 (Sl.v s)) K I:=by
 unfold convert
 simp only[qy]
 rw[qw u30,qw u9]
 simp only[Sl.v]
 rw[qw asZ]
 simp only
 unfold Conv.bytesToString
 cases hs:s.a with
 | none=>
  have:l=[]:=by have:=h.2.1 hs;simpa using this
  subst this
  exact hK
 | some p=>
  simp only
  rw[h.1]
  refine(vA _ _).2 ?_
  refine jc (l.map vU) 0 #[] (zu 0 fun j v hj=>by rw[Nat.zero_add];exact h.2.2 p hs j v hj) ?_
  simp only[List.nil_append,List.forIn_toArray,Array.empty_append]
  refine(vA _ _).2 ?_
  refine cast (congrArg (fun z=>awp prog ro z _ I) (am2 (P:=prog) ?_ l [])).symm ?_
  .intro c r
   simp only[vU]
   show Sem.pure (ForInStep.yield (r.push (UInt8.ofNat (Int.toNat (c.toNat:Int)))))=_
   rw[Int.toNat_natCast];simp
  .exact hK
def xO(a:Str×Bool)(p:Str×Nd):Str×Bool:=[p.2.ver,p.2.ctr,p.2.own].foldl wS (wq (wq a p.1) p.2.data)
theorem acB(a:Str×Bool)(n:Int)(h:a.2=true):(wS a n).2=true:=by unfold wS;split<;>simp[h]
theorem alm(a:Str×Bool)(p:Str)(h:a.2=true):(wq a p).2=true:=by unfold wq;exact acB _ _ h
theorem apo(a:Str×Bool)(p:Str×Nd)(h:a.2=true):(xO a p).2=true:=by
 unfold xO
 simp only[List.foldl_cons,List.foldl_nil]
 exact acB _ _ (acB _ _ (acB _ _ (alm _ _ (alm _ _ h))))
theorem amt(a:Str×Bool)(p:Str)(h:p.length<=4611686018427387903):wq a p=(a.1++yZ p,a.2):=by
 have hr:qQ (p.length:Int)=true:=by simp[qQ];omega
 unfold wq wS
 rw[if_pos hr]
 simp[yZ]
theorem aqH(a:Str×Bool)(p:Str×Nd)(h1:p.1.length<=4611686018427387903)(h2:p.2.data.length<=4611686018427387903)(h:jO p.2=true):xO a p=(a.1++afT p,a.2):=by
 unfold jO at h
 simp only[Bool.and_eq_true]at h
 unfold xO
 rw[amt _ _ h1,amt _ _ h2]
 simp only[List.foldl_cons,List.foldl_nil]
 unfold wS
 rw[if_pos h.1.1,if_pos h.1.2,if_pos h.2]
 simp[afT]
theorem aqI(a:Str×Bool)(p:Str×Nd)(h:jO p.2=false):(xO a p).2=true:=by
 unfold xO
 simp only[List.foldl_cons,List.foldl_nil]
 unfold jO at h
 by_cases h1:qQ p.2.ver=true
 .by_cases h2:qQ p.2.ctr=true
  .have h3:¬ qQ p.2.own=true:=by simpa [h1,h2]using h
   unfold wS;rw[if_neg h3]
  .refine acB _ _ ?_
   unfold wS;rw[if_neg h2]
 .refine acB _ _ (acB _ _ ?_)
  unfold wS;rw[if_neg h1]
theorem apq(a:Str×Bool)(p:Str×Nd):(xO a p).1.length<=a.1.length+45+p.1.length+p.2.data.length:=by
 unfold xO
 simp only[List.foldl_cons,List.foldl_nil]
 have h1:=yF a p.1
 have h2:=yF (wq a p.1) p.2.data
 have h3:=kN (wq (wq a p.1) p.2.data) p.2.ver
 have h4:=kN (wS (wq (wq a p.1) p.2.data) p.2.ver) p.2.ctr
 have h5:=kN (wS (wS (wq (wq a p.1) p.2.data) p.2.ver) p.2.ctr) p.2.own
 omega
theorem apr(x:St)(a:Str×Bool)(h:a.2=true):(x.foldl xO a).2=true:=by
 induction x generalizing a with
 | nil=>exact h
 | cons p x ih=>exact ih _ (apo a p h)
theorem atR(x:St)(hx:∀ p∈x,p.1.length<=4611686018427387903/\p.2.data.length<=4611686018427387903)(a:Str×Bool):
  (x.all (fun p=>jO p.2)=true->x.foldl xO a=(a.1++abE x,a.2))/\(x.all (fun p=>jO p.2)=false->(x.foldl xO a).2=true):=by
 induction x generalizing a with
 | nil=>exact⟨fun _=>by simp[abE],fun h=>by simp at h⟩
 | cons p x ih=>
  have hp:=hx p (by simp)
  have:=ih (fun q hq=>hx q (by simp[hq])) (xO a p)
  refine⟨fun h=>?_,fun h=>?_⟩
  .simp only[List.all_cons,Bool.and_eq_true]at h
   rw[List.foldl_cons,this.1 h.2,aqH a p hp.1 hp.2 h.1]
   simp[abE]
  .rw[List.foldl_cons]
   cases hn:jO p.2 with
   | false=>exact apr _ _ (aqI a p hn)
   | true=>exact this.2 (by simpa [hn]using h)
theorem aln{r T M:Nat}{bs:List Nat}{st:St}{Q:Sl->AH->Prop}(hr:r<64)(hr0:r≠0)(hr1:r≠1)(hr6:r≠6)(hr3:r≠30)(h:qZ tag I r T M bs st)(hl:∀ p∈st,p.1.length<=128/\p.2.data.length<=256)(hn:st.length<=4294967296)
  (hQ:∀ (s:Sl) (tag':Nat->Nat) (I':AH),qe [30,94,1] ro tag I tag' I'->Row tag' I' 6 5 s ((akF st).map vU)->Q s I'):pi B ro (some ⟨T,0,none⟩) I Q:=by
 refine agN fun hs=>?_
 unfold aaA
 have hR:∀ x∈[30,94,1],x%64≠r%64/\x≠6:=fun x hx=>by
  simp only[List.mem_cons,List.not_mem_nil,or_false]at hx
  omega
 refine ah7 (tag:=tag) (r:=30) fun W tag1 I1 st1 b1=>?_
 refine agV (q:=22) (h.keep (st1 [])) (fun p hp=>(hl p hp).1) (by omega) fun s tag2 I2 ks st2 hpm hsrt hr2=>?_
 have hks:=agU h.keys hpm hsrt
 have hsl:s.len=ks.length:=by rw[hr2.len,List.length_map]
 have hkl:ks.length=(srt st).length:=by rw[hks,List.length_map]
 have hkn:ks.length=st.length:=by rw[hpm.length_eq,List.length_map]
 have hmem:∀ p∈srt st,p.1.length<=128/\p.2.data.length<=256:=fun p hp=>hl p ((vr st).mem_iff.1 hp)
 suffices∀(m j:Nat) (tag3:Nat->Nat) (I3:AH),j+m=ks.length->qe [30,94,1] ro tag I tag3 I3->qZ tag3 I3 r T M bs st->Row tag3 I3 22 9 s (ks.map Pa.vS)->(((srt st).take j).foldl xO ([],false)).1.length<=429*j->
   vl tag3 I3 30 W (((srt st).take j).foldl xO ([],false)).1 (((srt st).take j).foldl xO ([],false)).2->lfpD (xN B ro (some ⟨T,0,none⟩) (some ⟨W,0,none⟩) s Q) (j:Int) I3 from
  this _ 0 tag2 I2 (Nat.zero_add _) ((st1 _).trans (st2 _)) ((h.keep (st1 [])).keep (st2 [])) hr2 (by simp) (b1.keep (st2 []))
 intro m
 induction m with
 | zero=>
  intro j tag3 I3 hj hst hA hrow hlen hb
  refine lfpD.intro ?_
  unfold xN
  rw[if_neg (by omega)]
  unfold yx
  rw[List.take_of_length_le (by omega)]at hb hlen
  have hw:=atR (srt st) (fun p hp=>by have:=hmem p hp;omega) ([],false)
  have hes:akF st=if(srt st).all (fun p=>jO p.2)=true then abE (srt st)else []:=rfl
  refine apm hb hst.sep (by omega) (fun hbad=>?_) fun hgood s' tag4 I4 st4 r4=>?_
  .refine hQ _ tag3 I3 hst ?_
   rw[hes,if_neg (fun hall=>by rw[hw.1 hall]at hbad;cases hbad)]
   exact Row.nil 6 5
  .refine hQ s' tag4 I4 (hst.trans (st4 _)) ?_
   have hall:(srt st).all (fun p=>jO p.2)=true:=by
    cases e:(srt st).all (fun p=>jO p.2)with
    | true=>rfl
    | false=>rw[hw.2 e]at hgood;cases hgood
   rw[hes,if_pos hall]
   rw[hw.1 hall]at r4
   simpa using r4
 | succ m ih=>
  intro j tag3 I3 hj hst hA hrow hlen hb
  have hjl:j<ks.length:=by omega
  have hjs:j<(srt st).length:=by omega
  obtain⟨pp,hpp,_,hget⟩:=Row.sget hrow hst.sep hjl
  have hs3:=hst.sep
  refine lfpD.intro ?_
  unfold xN
  rw[if_pos (by omega)]
  refine⟨pp,hpp,by omega,by omega,S ks[j],by rw[Int.toNat_natCast];exact hget j hjl,_,rfl,_,Row.cell1 hA.cell hs3,?_⟩
  refine jv hA.map hs3 u126 u9 agR ?_
  have hkj:ks[j]=(srt st)[j].1:=by simp only[hks,List.getElem_map]
  have hnj:st.lookup ks[j]=some (srt st)[j].2:=by
   rw[qW h.keys,<-(vr st).mem_iff,hkj]
   exact List.getElem_mem hjs
  have hdl:=hmem _ (List.getElem_mem hjs)
  rcases aa9 st bs ks[j] h.len with⟨a,_⟩ | ⟨i,b,n,a1,a2,a3,e⟩
  .rw[hnj]at a;cases a
  .rw[e]
   rw[hnj]at a3
   have hn:n=(srt st)[j].2:=(Option.some.inj a3).symm
   refine⟨some ⟨b,0,none⟩,rfl,?_⟩
   refine qj (tag:=tag3) 0 hs3 fun x tag4 I4 st4 r4=>?_
   refine alj (r:=30) (q:=0) (p:=ks[j]) (hb.keep (st4 [])) (by decide) (by decide) (st4 []).sep (by rw[hkj];omega) r4 fun tag5 I5 st5 b5=>?_
   have hA5:=(hA.keep (st4 [])).keep st5 hR
   obtain⟨ds,hn1,hn2⟩:=hA5.nodes i b _ a1 a2
   obtain⟨q5,hq5,hg5⟩:=hn1.ptr st5.sep (by simp)
   cases hq5
   refine⟨_,rfl,ds,hg5 4 _ rfl,?_⟩
   refine qj (tag:=tag5) 0 st5.sep fun y tag6 I6 st6 r6=>?_
   have hn26:=hn2.keep (st6 [])
   have hdn:n.data.length<=256:=by rw[hn];exact hdl.2
   have l5:=yF (((srt st).take j).foldl xO ([],false)) ks[j]
   refine alk (r:=30) (q:=0) (p:=n.data) (b5.keep (st6 [])) (by decide) (by decide) (st6 []).sep (by rw[hkj]at l5 ⊢;omega) r6 (by rw[hn2.len,List.length_map]) (fun tag7 I7 st7=>(hn26.keep st7 (by decide)).read st7.sep) fun tag7 I7 st7 b7=>?_
   have hA7:=(hA5.keep (st6 [])).keep st7 hR
   obtain⟨ds7,hn17,hn27⟩:=hA7.nodes i b _ a1 a2
   obtain⟨q7,hq7,hg7⟩:=hn17.ptr st7.sep (by simp)
   cases hq7
   refine⟨_,rfl,_,rfl,_,rfl,n.ver,hg7 0 _ rfl,n.ctr,hg7 1 _ rfl,n.own,hg7 2 _ rfl,?_⟩
   refine qj (tag:=tag7) 0 st7.sep fun z tag8 I8 st8 r8=>?_
   have l7:=yF (wq (((srt st).take j).foldl xO ([],false)) ks[j]) n.data
   refine anG (r:=30) (q:=0) (ns:=[n.ver,n.ctr,n.own]) (by decide) (by decide) (b7.keep (st8 [])) (st8 []).sep (by rw[hkj]at l5 l7 ⊢;simp;omega) r8 fun tag9 I9 st9 b9=>?_
   rw[Pa.inc j (by omega)]
   have e1:((srt st).take (j+1)).foldl xO ([],false)=[n.ver,n.ctr,n.own].foldl wS (wq (wq (((srt st).take j).foldl xO ([],false)) ks[j]) n.data):=by
    rw[List.take_add_one,List.getElem?_eq_getElem hjs,List.foldl_append,hn,hkj];try rfl
   have l9:=apq (((srt st).take j).foldl xO ([],false)) (srt st)[j]
   have e2:xO (((srt st).take j).foldl xO ([],false)) (srt st)[j]=((srt st).take (j+1)).foldl xO ([],false):=by
    rw[List.take_add_one,List.getElem?_eq_getElem hjs,List.foldl_append];try rfl
   refine ih (j+1) tag9 I9 (by omega) (((((((hst.trans (st4 _)).trans st5).trans (st6 _)).trans st7).trans (st8 _)).trans st9)) ((hA7.keep (st8 [])).keep st9 hR) ((((((hrow.keep (st4 [])).keep st5 (by decide)).keep (st6 [])).keep st7 (by decide)).keep (st8 [])).keep st9 (by decide)) ?_ ?_
   .rw[<-e2];omega
   .rw[e1];exact b9