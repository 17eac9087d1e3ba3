import Derived.Test.YtomdigihapdhnaaGreatDoorXP
set_option linter.all false
set_option maxRecDepth 99999
set_option maxHeartbeats 0
open Go.IntKind(i64)
open Go.Proofs.Tryz
namespace Go.Proofs.YtomdigihapdhnaaGreatDoor
namespace G
open Go SL
variable{B:World}{ro I:AH}
def ach(B:World)(ro I:AH)(Q:Option Addr->AH->Prop):Prop:=
 nw ro I (.map #[] 0) fun u0 I=>
 nw ro I (.cells #[.map (some u0)] 242) fun u1 I=>
 Q (some ⟨u1,0,none⟩) I
theorem agq{Q:Option Addr->AH->Prop}(h:Sep ro I->ach B ro I Q):ahr B ro I Q:=by
 refine zb h func67 ntmps67 fun h=>?_;unfold ach at h;refine z3 ?_;refine zp ?_;refine z4 ?_;refine zA (af3 rfl) h fun u0 h=>?_;refine zm (wz (vs:=[(0,.map (some u0))]) (cs:= #[.map (some u0)]) rfl underlying242 aty atJ rfl rfl) ?_;refine zA (wI rfl rfl) h fun u1 h=>?_;refine zp ?_;refine z2 ?_;refine AW.ret ?_;exact bR1 results67 rfl ⟨_,rfl,h⟩
def vz(B:World)(ro:AH)(a0:Option Addr)(u0:Nat)(Q:Bool->AH->Prop)(u1:Bool)(I:AH):=
 if u1=true then
 Q false I
 else
 yP I fun ψ I=>
 ∃p2,a0=some p2/\
 ∃u3,qa (join ro ψ) (fun _=>none) ((⟨u0,0,none⟩:Addr).add 1)=some (.int .i64 u3)/\
 ∃u4,qa (join ro ψ) I p2=some (.map u4)/\
 ∃u5,qa (join ro ψ) I ⟨u0,0,none⟩=some (.string u5)/\
 awp prog (join ro ψ) (Instr.lookup 240 (.map u4) (.string u5) false) (fun v I=>
  (∃(u6:Option Addr),v= .pointer u6/\
  ∃p7,u6=some p7/\
  ∃u8,qa (join ro ψ) I (p7.add 1)=some (.map u8)/\
  awp prog (join ro ψ) (Builtin.delete_ #[252,3] 0 #[.map u8,.int .i64 u3]) (fun v I=>v= .tuple #[]/\
   (qP ψ I->(fun I=>
   Q true I) (join ψ I))) I)) I
def um(B:World)(ro:AH)(a0:Option Addr)(a1_0:ByteArray)(a1_1 a2:Int)(I:AH)(Q:Bool->AH->Prop):=
 nw ro I (.cells #[.string a1_0,.int .i64 a1_1] 81) fun u0 I=>
 ∃u1 u2,qg ro I ⟨u0,0,none⟩ 0 [.string u1,.int .i64 u2]/\
 vC B ro a0 u1 u2 I fun u3 u4 I=>
 if¬(u4=0)then
 vz B ro a0 u0 Q true I
 else
 ∃p5,u3=some p5/\
 ∃u6,qa ro I (p5.add 4)=some (.int .i64 u6)/\
 vz B ro a0 u0 Q (!(decide (u6=a2))) I
theorem afn{a0:Option Addr}{a1_0:ByteArray}{a1_1 a2:Int}{Q:Bool->AH->Prop}(h:Sep ro I->um B ro a0 a1_0 a1_1 a2 I Q):ud B ro a0 a1_0 a1_1 a2 I Q:=by
 refine zb h func70 ntmps70 fun h=>?_;unfold um at h;refine z3 ?_;refine zA (wI rfl rfl) h fun u0 h=>?_;refine zp ?_;refine z4 ?_;refine zp ?_;obtain⟨u1,u2,hc,h⟩:=h
 refine zl (wY rfl underlying81 rfl zX rfl hc ?_)
 refine zc func123 h ?_;rintro v I ⟨u3,u4,rfl,h⟩;iterate 5 refine zp ?_
 refine z2 (AW.seq (z3 ?_))
 iterate 3 refine zp ?_
 refine qO 7 (!(decide (u4=0))) (qu decide_eq_true_iff) h (fun fr I=> ∃(u5:Bool),qo [(0,.pointer a0),(4,.pointer (some ⟨u0,0,none⟩)),(24,.bool u5)] fr/\vz B ro a0 u0 Q u5 I) ?_ ?_ ?_
 .intro h e2 hk2;iterate 6 refine zn e2 ?_
  refine zk e2 ?_;exact hk2 _ _ ⟨_,FL,h⟩
 .intro h e2 hk2;refine zy e2 ?_;obtain⟨p6,hc,h⟩:=h
  refine qX (qr rfl (by rw[<-hc];try rfl)) rfl rfl rfl rfl e2 ?_
  refine qX (wm rfl underlying83 rfl ty3 (by decide) rfl) rfl rfl rfl rfl e2 ?_
  obtain⟨u7,hc,h⟩:=h
  refine Lyb rfl rfl rfl rfl e2 (vG rfl underlying3 rfl rfl hc ?_)
  refine zy e2 ?_;refine zy e2 ?_;refine zk e2 ?_;exact hk2 _ _ ⟨_,FL,h⟩
 rintro fr I ⟨u5,hl,h⟩;unfold vz at h;refine Lfr hl ?_
 refine z2 ?_;refine zj h (fun h=>?_) fun h=>?_
 .refine z3 ?_;refine zp ?_;refine z2 ?_;refine AW.ret ?_;refine qi ?_;exact bR1 results70 rfl ⟨_,rfl,h⟩
 refine AW.skip ?_;refine qd (AW.seq ?_);refine AW.drawnL (fun i=>([0,0,0,3,0,3,2,0,0,3,0,0,2]:List Nat).getD i 2) [(3,6),(3,7),(3,8),(3,9),(3,12),(5,6),(5,7),(5,8),(5,9),(5,12),(6,7),(6,8),(6,9),(6,12)] [0,1,2,4,10,11,3,5,6,7,8,9,12] mixed h (by decide+kernel) ?_
 clear h
 intro ψ I h
 refine zq ?_;obtain⟨p8,hc,h⟩:=h
 refine Dp rfl rfl rfl rfl (qr rfl (by rw[<-hc];try rfl)) ?_
 refine zg underlying242 agG ?_;refine zg underlying81 ty9 ?_;refine zg underlying81 ty3 ?_;obtain⟨u9,hc,h⟩:=h
 refine Dp rfl rfl rfl rfl (yQ rfl underlying3 rfl rfl hc) ?_
 obtain⟨u10,hc,h⟩:=h
 refine Dr rfl rfl rfl rfl (qA rfl underlying240 rfl rfl hc) ?_
 obtain⟨u11,hc,h⟩:=h
 refine Dr rfl rfl rfl rfl (qA rfl underlying9 rfl rfl hc) ?_
 refine Dg rfl rfl rfl rfl (jC rfl rfl rfl (qm _ h ?_))
 rintro v I ⟨u12,rfl,h⟩;obtain⟨p13,hc,h⟩:=h
 refine Dp rfl rfl rfl rfl (qr rfl (by rw[<-hc];try rfl)) ?_
 refine zg underlying254 aeE ?_;obtain⟨u14,hc,h⟩:=h
 refine Dr rfl rfl rfl rfl (qA rfl underlying252 rfl rfl hc) ?_
 refine Dg rfl rfl rfl rfl (je (s:=Builtin.delete_ #[252,3] 0 #[.map u14,.int .i64 u9]) rfl rfl (fun _=>rfl) (qm _ h ?_))
 rintro v I ⟨rfl,h⟩;refine⟨_,zr.refl _,fun hdj=>?_⟩
 replace h:=h hdj
 refine qd (z3 ?_);refine zp ?_;refine z2 ?_;refine AW.ret ?_;exact bR1 results70 rfl ⟨_,rfl,h⟩
def vd(B:World)(ro:AH)(a0:Option Addr)(a1:ByteArray)(a2 a3:Int)(u0:Option Addr)(Q:Int->Bool->Int->AH->Prop)(u1:Bool)(I:AH):=
 if u1=true then
 Q 0 false 61 I
 else
 ∃p2,u0=some p2/\
 ∃u3,qa ro I p2=some (.int .i64 u3)/\
 ∃p4,u0=some p4/\
 stN p4 (fun I=>
 ∃p5,u0=some p5/\
 ∃p6,u0=some p6/\
 ∃p7,u0=some p7/\
 ∃u8,qa ro I (p5.add 1)=some (.map u8)/\
 ∃u9,qa ro I p6=some (.int .i64 u9)/\
 ∃u10,qa ro I p7=some (.int .i64 u10)/\
 nw ro I (.cells #[.string a1,.int .i64 u10,.int .i64 a2,.int .i64 a3,.int .i64 0,.int .i64 0,Sl.v (⟨none,0,0⟩:Sl)] 83) fun u11 I=>
 awp prog ro (Instr.mapUpdate 252 (.map u8) (.int .i64 u9) (.pointer (some ⟨u11,0,none⟩))) (fun _ I=>
  ∃p12,a0=some p12/\
  ∃u13,qa ro I p12=some (.map u13)/\
  awp prog ro (Instr.mapUpdate 240 (.map u13) (.string a1) (.pointer u0)) (fun _ I=>
  ∃p14,u0=some p14/\
  ∃u15,qa ro I p14=some (.int .i64 u15)/\
  Q u15 true 0 I) I) I) [.int .i64 (i64.wrap (u3+1))] 0 I
def xw(B:World)(ro:AH)(a0:Option Addr)(a1:ByteArray)(a2 a3:Int)(u0:Option Addr)(Q:Int->Bool->Int->AH->Prop)(I:AH):=
 ∃p1,u0=some p1/\
 ∃u2,qa ro I (p1.add 1)=some (.map u2)/\
 awp prog ro (Builtin.len_ #[252] 3 #[.map u2]) (fun v I=> ∃(u3:Int),v= .int .i64 u3/\
 if 64<=u3 then
  vd B ro a0 a1 a2 a3 u0 Q true I
 else
 ∃p4,u0=some p4/\
 ∃u5,qa ro I p4=some (.int .i64 u5)/\
 vd B ro a0 a1 a2 a3 u0 Q (decide (u5=4611686018427387903)) I) I
def jH(B:World)(ro:AH)(a0:Option Addr)(a1:ByteArray)(a2 a3:Int)(p0:Addr)(u1:Option Addr)(Q:Int->Bool->Int->AH->Prop):(Unit)->AH->((Unit)->AH->Prop)->Prop:=fun _ I Y33=>
 awp prog ro (Instr.next (.pointer (some p0)) false 0) (fun v I=>
 (v= .tuple #[.bool false]/\
  xw B ro a0 a1 a2 a3 u1 Q I)\/
 (∃(u2:Value) (u3:Value),v= .tuple #[.bool true,u2,u3]/\
  awp prog ro (Instr.entry (.pointer (some p0))) (fun v I=>
  (∃(u4:Int) (u5:Option Addr),v= .tuple #[.int .i64 u4,.pointer u5]/\
   ∃p6,u5=some p6/\
   ∃u7,qa ro I (p6.add 2)=some (.int .i64 u7)/\
   if u7=a2 then
   Q u4 false 0 I
   else
   Y33 () I)) I)) I
def vu(B:World)(ro:AH)(a0:Option Addr)(a1:ByteArray)(a2 a3:Int)(Q:Int->Bool->Int->AH->Prop)(u0:Option Addr)(I:AH):=
 ∃p1,u0=some p1/\
 ∃u2,qa ro I (p1.add 1)=some (.map u2)/\
 awp prog ro (Instr.range 252 (.map u2)) (fun v I=>
 (∃(p3:Addr),v= .pointer (some p3)/\
  lfpD (jH B ro a0 a1 a2 a3 p3 u0 Q) () I)) I
def yB(B:World)(ro:AH)(a0:Option Addr)(a1:ByteArray)(a2 a3:Int)(I:AH)(Q:Int->Bool->Int->AH->Prop):=
 yE B ro a1 I fun u0 I=>
 if¬(u0=true)then
 Q 0 false 82 I
 else
 uW B ro a2 I fun u1 I=>
 if¬(u1=true)then
 Q 0 false 10 I
 else
 if(a3<1)\/(1048576<a3)then
 Q 0 false 153 I
 else
 ∃p2,a0=some p2/\
 ∃u3,qa ro I p2=some (.map u3)/\
 awp prog ro (Instr.lookup 240 (.map u3) (.string a1) false) (fun v I=>
 (∃(u4:Option Addr),v= .pointer u4/\
  if u4=none then
  nw ro I (.map #[] 0) fun u5 I=>
  nw ro I (.cells #[.int .i64 0,.map (some u5)] 254) fun u6 I=>
  vu B ro a0 a1 a2 a3 Q (some ⟨u6,0,none⟩) I
  else
  vu B ro a0 a1 a2 a3 Q u4 I)) I
theorem acU{a0:Option Addr}{a1:ByteArray}{a2 a3:Int}{Q:Int->Bool->Int->AH->Prop}(h:Sep ro I->yB B ro a0 a1 a2 a3 I Q):xK B ro a0 a1 a2 a3 I Q:=by
 refine zb h func121 ntmps121 fun h=>?_;unfold yB at h;refine z3 ?_;iterate 3 refine zp ?_
 refine z2 (AW.seq (AW.block (z3 ?_)))
 refine zp ?_;refine zc func99 h ?_;rintro v I ⟨u0,rfl,h⟩;iterate 2 refine zp ?_
 refine z2 ?_;refine AW.iff rfl (qu Iff.rfl) h (fun h=>?_) (fun h=>?_)
 .refine z3 ?_;iterate 3 refine zp ?_
  refine z2 ?_;refine AW.ret ?_;refine qx (qi ?_);exact bR3 results121 rfl rfl rfl ⟨_,_,_,rfl,h⟩
 refine z3 ?_;refine zp ?_;refine zc func178 h ?_;rintro v I ⟨u1,rfl,h⟩;iterate 2 refine zp ?_
 refine z2 ?_;refine AW.iff rfl (qu Iff.rfl) h (fun h=>?_) (fun h=>?_)
 .refine z3 ?_;iterate 3 refine zp ?_
  refine z2 ?_;refine AW.ret ?_;refine qx (qi ?_);exact bR3 results121 rfl rfl rfl ⟨_,_,_,rfl,h⟩
 refine z3 ?_;iterate 3 refine zp ?_
 refine wW 3 (decide (a3<1)) [(0,.pointer a0),(1,.string a1),(2,.int .i64 a2),(3,.int .i64 a3),(28,.bool ((decide (a3<1)) || (decide (1048576<a3))))] ?_ ?_ ?_
 .intro e2 hk2
  iterate 2 refine zn e2 ?_
  refine zk e2 ?_;exact hk2 _ (Fe e2)
 .intro e2 hk2
  refine zy e2 ?_;refine zy e2 ?_;refine zk e2 ?_;exact hk2 _ (Fe e2)
 intro fr hl
 refine Lfr hl ?_
 refine zp ?_;refine z2 ?_;refine AW.iff rfl (zG decide_eq_true_iff decide_eq_true_iff) h (fun h=>?_) (fun h=>?_)
 .refine z3 ?_;iterate 3 refine zp ?_
  refine z2 ?_;refine AW.ret ?_;refine qx (qi ?_);exact bR3 results121 rfl rfl rfl ⟨_,_,_,rfl,h⟩
 refine AW.skip ?_;refine qD (qd (z3 ?_));refine zp ?_;refine zN h fun p2 h=>?_;refine zf underlying242 agG ?_;refine zL underlying240 h fun u3 h=>?_;refine zp ?_;refine zl (jC rfl rfl rfl (qm _ h ?_))
 rintro v I ⟨u4,rfl,h⟩;refine zp ?_;refine z2 ?_;refine AW.seqJ (fun fr I=> ∃(u5:Option Addr),qo [(0,.pointer a0),(1,.string a1),(2,.int .i64 a2),(3,.int .i64 a3),(11,.pointer u5)] fr/\vu B ro a0 a1 a2 a3 Q u5 I) ?_ ?_
 rotate_left
 .refine z3 ?_;refine zp ?_;refine zm (adK rfl underlying255 rfl rfl) ?_;refine z2 ?_;refine AW.iff rfl zt h (fun h=>?_) (fun h=>?_)
  rotate_left
  .refine AW.skip ?_;refine qd ?_;exact⟨_,FL,h⟩
  refine AW.reg ?_;refine zA (af3 rfl) h fun u6 h=>?_;refine zm (wz (vs:=[(1,.map (some u6))]) (cs:= #[.int .i64 0,.map (some u6)]) rfl underlying254 atA atL rfl rfl) ?_;refine zA (wI rfl rfl) h fun u7 h=>?_;refine zp ?_;refine z2 ?_;exact⟨_,FL,h⟩
 rintro fr I ⟨u5,hl,h⟩;refine AW.weaken ?_ hl (HLe.refl _)
 unfold vu at h;refine AW.seqJ (fun fr I=>qo [(0,.pointer a0),(1,.string a1),(2,.int .i64 a2),(3,.int .i64 a3),(11,.pointer u5)] fr/\xw B ro a0 a1 a2 a3 u5 Q I) ?_ ?_
 rotate_left
 .refine z3 ?_;refine zp ?_;refine zN h fun p8 h=>?_;refine zf underlying254 aeE ?_;refine zL underlying252 h fun u9 h=>?_;refine zl (alW rfl rfl (qm _ h ?_))
  rintro v I ⟨p10,rfl,h⟩;refine z2 (AW.block ?_)
  refine qk.loop (fr':=[(0,.pointer a0),(1,.string a1),(2,.int .i64 a2),(3,.int .i64 a3),(11,.pointer u5),(44,.pointer (some p10))]) ?_ FL
  refine h (fun _ I=>qk _ _ _ _ _ _ [(0,.pointer a0),(1,.string a1),(2,.int .i64 a2),(3,.int .i64 a3),(11,.pointer u5),(44,.pointer (some p10))] I) ?_
  rintro _ I Y33 hY33 h
  show AW _ _ _ _ _ _ _ _
  unfold jH at h;refine z3 ?_;refine zl (alX rfl rfl rfl (qm _ h ?_))
  rintro v I (⟨rfl,h⟩ | ⟨u11,u12,rfl,h⟩)
  .refine zp ?_;refine z2 (AW.seq ?_)
   refine AW.no rfl ?_;refine AW.exit ?_;refine qH (qH ?_);refine wB ?_
   refine qd ?_;exact⟨FL,h⟩
  .refine zp ?_;refine z2 (AW.seq ?_)
   refine AW.yes rfl ?_;refine AW.skip ?_;refine qd (AW.block (z3 ?_));refine zl (an6 rfl rfl (qm _ h ?_))
   rintro v I ⟨u13,u14,rfl,h⟩;iterate 4 refine zp ?_
   refine z4 ?_;refine zp ?_;refine zN h fun p15 h=>?_;refine zf underlying83 ty3 ?_;refine zL underlying3 h fun u16 h=>?_;iterate 2 refine zp ?_
   refine z2 ?_;refine zi h (fun h=>?_) fun h=>?_
   rotate_left
   .refine AW.skip ?_;refine qD (qd ?_);refine qk.head (fr':=[(0,.pointer a0),(1,.string a1),(2,.int .i64 a2),(3,.int .i64 a3),(11,.pointer u5),(44,.pointer (some p10))]) ?_ FL
    exact hY33 _ _ h
   refine z3 ?_;iterate 4 refine zp ?_
   refine z2 ?_;refine AW.ret ?_;refine qx (qi (qx (qi ?_)));exact bR3 results121 rfl rfl rfl ⟨_,_,_,rfl,h⟩
 rintro fr I ⟨hl,h⟩;refine AW.weaken ?_ hl (HLe.refl _)
 unfold xw at h;refine AW.seq (z3 ?_);refine zp ?_;refine zN h fun p17 h=>?_;refine zf underlying254 aeE ?_;refine zL underlying252 h fun u18 h=>?_;refine zl (je (s:=Builtin.len_ #[252] 3 #[.map u18]) rfl rfl (fun _=>rfl) (qm _ h ?_))
 rintro v I ⟨u19,rfl,h⟩;iterate 2 refine zp ?_
 refine qO 6 (decide (64<=u19)) decide_eq_true_iff h (fun fr I=> ∃(u20:Bool),qo [(0,.pointer a0),(1,.string a1),(2,.int .i64 a2),(3,.int .i64 a3),(11,.pointer u5),(69,.bool u20)] fr/\vd B ro a0 a1 a2 a3 u5 Q u20 I) ?_ ?_ ?_
 .intro h e6 hk6;iterate 5 refine zn e6 ?_
  refine zk e6 ?_;exact hk6 _ _ ⟨_,FL,h⟩
 .intro h e6 hk6;refine zy e6 ?_;obtain⟨p21,hc,h⟩:=h
  refine qX (qr rfl (by rw[<-hc];try rfl)) rfl rfl rfl rfl e6 ?_
  refine qX (wm rfl underlying254 rfl ty3 (by decide) rfl) rfl rfl rfl rfl e6 ?_
  obtain⟨u22,hc,h⟩:=h
  refine Lyb rfl rfl rfl rfl e6 (vG rfl underlying3 rfl rfl hc ?_)
  refine zy e6 ?_;refine zk e6 ?_;exact hk6 _ _ ⟨_,FL,h⟩
 rintro fr I ⟨u20,hl,h⟩;unfold vd at h;refine Lfr hl ?_
 refine z2 ?_;refine zj h (fun h=>?_) fun h=>?_
 .refine z3 ?_;iterate 3 refine zp ?_
  refine z2 ?_;refine AW.ret ?_;refine qi ?_;exact bR3 results121 rfl rfl rfl ⟨_,_,_,rfl,h⟩
 refine AW.skip ?_;refine qd (z3 ?_);refine zp ?_;refine zN h fun p23 h=>?_;refine zf underlying254 ty3 ?_;refine zL underlying3 h fun u24 h=>?_;refine zp ?_;refine zN h fun p25 h=>?_;refine zf underlying254 ty3 ?_;refine zs ty3 h fun I h=>?_;refine z2 (AW.seq ?_)
 refine AW.drawn0 (fun i=>([0,0,0,3,0,0,0,3,0,0,0,0,3,0,0,0,0,1,2]:List Nat).getD i 2) [] [0,1,2,4,5,6,8,9,10,11,14,15,3,7,12,13,16,17,18] mixed (by decide+kernel) ?_
 refine zq ?_;obtain⟨p26,hc,h⟩:=h
 refine Dp rfl rfl rfl rfl (qr rfl (by rw[<-hc];try rfl)) ?_
 refine zg underlying254 aeE ?_;refine zq ?_;obtain⟨p27,hc,h⟩:=h
 refine Dp rfl rfl rfl rfl (qr rfl (by rw[<-hc];try rfl)) ?_
 refine zg underlying254 ty3 ?_;iterate 2 refine zq ?_
 obtain⟨p28,hc,h⟩:=h
 refine Dp rfl rfl rfl rfl (qr rfl (by rw[<-hc];try rfl)) ?_
 refine zg underlying254 ty3 ?_;iterate 2 refine zq ?_
 obtain⟨u29,hc,h⟩:=h
 refine Dr rfl rfl rfl rfl (qA rfl underlying252 rfl rfl hc) ?_
 obtain⟨u30,hc,h⟩:=h
 refine Dr rfl rfl rfl rfl (qA rfl underlying3 rfl rfl hc) ?_
 obtain⟨u31,hc,h⟩:=h
 refine Dr rfl rfl rfl rfl (qA rfl underlying3 rfl rfl hc) ?_
 refine Dp rfl rfl rfl rfl (wz (vs:=[(0,.string a1),(1,.int .i64 u31)]) (cs:= #[.string a1,.int .i64 u31]) rfl underlying81 zX asR rfl rfl) ?_
 refine Dp rfl rfl rfl rfl (wz (vs:=[(0,.agg #[.string a1,.int .i64 u31]),(1,.int .i64 a2),(2,.int .i64 a3)]) (cs:= #[.string a1,.int .i64 u31,.int .i64 a2,.int .i64 a3,.int .i64 0,.int .i64 0,Sl.v (⟨none,0,0⟩:Sl)]) rfl underlying83 at3 at7 rfl (by kernel_rfl)) ?_
 refine Da rfl rfl rfl rfl (wI rfl rfl) fun u32 g1 g2=>?_
 replace h:=h u32 g1 g2
 refine Dg rfl rfl rfl rfl (afq (.inl rfl) rfl rfl rfl (qm _ h ?_))
 rintro _ I h
 refine wH ?_
 refine qd (z3 ?_);refine zp ?_;refine zN h fun p33 h=>?_;refine zf underlying242 agG ?_;refine zL underlying240 h fun u34 h=>?_;iterate 2 refine zp ?_
 refine zl (afq (.inl rfl) rfl rfl rfl (qm _ h ?_))
 rintro _ I h
 refine z4 ?_;refine zp ?_;refine zN h fun p35 h=>?_;refine zf underlying254 ty3 ?_;refine zL underlying3 h fun u36 h=>?_;iterate 3 refine zp ?_
 refine z2 ?_;refine AW.ret ?_;exact bR3 results121 rfl rfl rfl ⟨_,_,_,rfl,h⟩
def zI(B:World)(ro:AH)(u0:Nat)(u1:Option Addr)(Q:Option Addr->Int->AH->Prop)(u2:Bool)(I:AH):=
 if u2=true then
 Q none 150 I
 else
 ∃p3,u1=some p3/\
 ∃u4,qa ro I (p3.add 1)=some (.map u4)/\
 ∃u5,qa ro I ((⟨u0,0,none⟩:Addr).add 1)=some (.int .i64 u5)/\
 awp prog ro (Instr.lookup 252 (.map u4) (.int .i64 u5) false) (fun v I=>
 (∃(u6:Option Addr),v= .pointer u6/\
  if u6=none then
  Q none 151 I
  else
  ∃p7,u1=some p7/\
  ∃u8,qa ro I (p7.add 1)=some (.map u8)/\
  ∃u9,qa ro I ((⟨u0,0,none⟩:Addr).add 1)=some (.int .i64 u9)/\
  awp prog ro (Instr.lookup 252 (.map u8) (.int .i64 u9) false) (fun v I=>
  (∃(u10:Option Addr),v= .pointer u10/\
   Q u10 0 I)) I)) I
def aaj(B:World)(ro:AH)(a0:Option Addr)(a1_0:ByteArray)(a1_1:Int)(I:AH)(Q:Option Addr->Int->AH->Prop):=
 nw ro I (.cells #[.string a1_0,.int .i64 a1_1] 81) fun u0 I=>
 ∃p1,a0=some p1/\
 ∃u2,qa ro I p1=some (.map u2)/\
 ∃u3,qa ro I ⟨u0,0,none⟩=some (.string u3)/\
 awp prog ro (Instr.lookup 240 (.map u2) (.string u3) false) (fun v I=>
 (∃(u4:Option Addr),v= .pointer u4/\
  if u4=none then
  zI B ro u0 u4 Q true I
  else
  ∃u5,qa ro I ((⟨u0,0,none⟩:Addr).add 1)=some (.int .i64 u5)/\
  if u5<1 then
  zI B ro u0 u4 Q true I
  else
  ∃p6,u4=some p6/\
  ∃u7,qa ro I ((⟨u0,0,none⟩:Addr).add 1)=some (.int .i64 u7)/\
  ∃u8,qa ro I p6=some (.int .i64 u8)/\
  zI B ro u0 u4 Q (decide (u8<u7)) I)) I
theorem agr{a0:Option Addr}{a1_0:ByteArray}{a1_1:Int}{Q:Option Addr->Int->AH->Prop}(h:Sep ro I->aaj B ro a0 a1_0 a1_1 I Q):vC B ro a0 a1_0 a1_1 I Q:=by
 refine zb h func123 ntmps123 fun h=>?_;unfold aaj at h;refine z3 ?_;refine zA (wI rfl rfl) h fun u0 h=>?_;iterate 2 refine zp ?_
 refine z2 (AW.seq ?_)
 refine AW.drawn0 (fun i=>([0,0,0,3,0,3,2,0]:List Nat).getD i 2) [] [0,1,2,4,3,5,6,7] mixed (by decide+kernel) ?_
 refine zq ?_;obtain⟨p1,hc,h⟩:=h
 refine Dp rfl rfl rfl rfl (qr rfl (by rw[<-hc];try rfl)) ?_
 refine zg underlying242 agG ?_;refine zg underlying81 ty9 ?_;obtain⟨u2,hc,h⟩:=h
 refine Dr rfl rfl rfl rfl (qA rfl underlying240 rfl rfl hc) ?_
 obtain⟨u3,hc,h⟩:=h
 refine Dr rfl rfl rfl rfl (qA rfl underlying9 rfl rfl hc) ?_
 refine Dg rfl rfl rfl rfl (jC rfl rfl rfl (qm _ h ?_))
 rintro v I ⟨u4,rfl,h⟩;refine zq ?_;refine wH ?_
 refine qd (AW.seq (AW.block ?_));refine AW.seqJ (fun fr I=> ∃(u5:Bool),qo [(3,.pointer (some ⟨u0,0,none⟩)),(6,.pointer u4),(14,.bool u5)] fr/\zI B ro u0 u4 Q u5 I) ?_ ?_
 .rintro fr I ⟨u5,hl,h⟩;refine AW.weaken ?_ hl (HLe.refl _)
  unfold zI at h;refine zj h (fun h=>?_) fun h=>?_
  .refine z3 ?_;iterate 2 refine zp ?_
   refine z2 ?_;refine AW.ret ?_;refine qx (qi ?_);exact bR2 results123 rfl rfl ⟨_,_,rfl,h⟩
  refine AW.seq ?_;refine AW.drawn0 (fun i=>([0,0,0,3,0,3,2,0,0]:List Nat).getD i 2) [] [0,1,2,4,3,5,6,7,8] mixed (by decide+kernel) ?_
  refine zq ?_;obtain⟨p6,hc,h⟩:=h
  refine Dp rfl rfl rfl rfl (qr rfl (by rw[<-hc];try rfl)) ?_
  refine zg underlying254 aeE ?_;refine zg underlying81 ty3 ?_;obtain⟨u7,hc,h⟩:=h
  refine Dr rfl rfl rfl rfl (qA rfl underlying252 rfl rfl hc) ?_
  obtain⟨u8,hc,h⟩:=h
  refine Dr rfl rfl rfl rfl (qA rfl underlying3 rfl rfl hc) ?_
  refine Dg rfl rfl rfl rfl (jC rfl rfl rfl (qm _ h ?_))
  rintro v I ⟨u9,rfl,h⟩;refine Dp rfl rfl rfl rfl (adK rfl underlying249 rfl rfl) ?_
  refine zq ?_;refine wH ?_
  refine qd ?_;refine AW.iff rfl zt h (fun h=>?_) (fun h=>?_)
  .refine z3 ?_;iterate 2 refine zp ?_
   refine z2 ?_;refine AW.ret ?_;refine qx (qi ?_);exact bR2 results123 rfl rfl ⟨_,_,rfl,h⟩
  refine AW.skip ?_;refine qD (qd (AW.seq ?_));refine AW.drawn0 (fun i=>([0,0,0,3,0,3,2,0,0]:List Nat).getD i 2) [] [0,1,2,4,3,5,6,7,8] mixed (by decide+kernel) ?_
  refine zq ?_;obtain⟨p10,hc,h⟩:=h
  refine Dp rfl rfl rfl rfl (qr rfl (by rw[<-hc];try rfl)) ?_
  refine zg underlying254 aeE ?_;refine zg underlying81 ty3 ?_;obtain⟨u11,hc,h⟩:=h
  refine Dr rfl rfl rfl rfl (qA rfl underlying252 rfl rfl hc) ?_
  obtain⟨u12,hc,h⟩:=h
  refine Dr rfl rfl rfl rfl (qA rfl underlying3 rfl rfl hc) ?_
  refine Dg rfl rfl rfl rfl (jC rfl rfl rfl (qm _ h ?_))
  rintro v I ⟨u13,rfl,h⟩;iterate 2 refine zq ?_
  refine wH ?_
  refine qd ?_;refine AW.ret ?_;exact bR2 results123 rfl rfl ⟨_,_,rfl,h⟩
 refine AW.drawn0 (fun i=>([0,0,0,0,3,0,0,0,0,3,0,0,0,3,0,0,0]:List Nat).getD i 2) [] [0,1,2,3,4,5,6,7,8,10,11,12,9,13,14,15,16] mixed (by decide+kernel) ?_
 refine zq ?_;refine Dp rfl rfl rfl rfl (adK rfl underlying255 rfl rfl) ?_
 refine zq ?_;refine aeU u4.isNone zt h ?_ ?_
 .intro h e2
  refine Dpn rfl rfl rfl rfl rfl (.inl (by rw[e2];try rfl)) rfl ?_
  refine Drn rfl rfl rfl rfl rfl (.inl (by rw[e2];try rfl)) rfl ?_
  refine Dpn rfl rfl rfl rfl rfl (.inl (by rw[e2];try rfl)) rfl ?_
  refine Dp rfl rfl rfl rfl (yH rfl (evb e2) rfl) ?_
  refine zq ?_;refine Dpn rfl rfl rfl rfl rfl (.inl rfl) rfl ?_
  refine Dpn rfl rfl rfl rfl rfl (.inl rfl) rfl ?_
  refine Dpn rfl rfl rfl rfl rfl (.inl rfl) rfl ?_
  refine Dpn rfl rfl rfl rfl rfl (.inl rfl) rfl ?_
  refine Drn rfl rfl rfl rfl rfl (.inl rfl) rfl ?_
  refine Drn rfl rfl rfl rfl rfl (.inl rfl) rfl ?_
  refine Dpn rfl rfl rfl rfl rfl (.inl rfl) rfl ?_
  refine Dp rfl rfl rfl rfl (yH rfl (evb rfl) rfl) ?_
  refine zq ?_;refine wH ?_
  refine qd ?_;exact⟨_,FL,h⟩
 intro h e2
 refine Dpy rfl rfl rfl rfl rfl e2 rfl (wm rfl underlying81 rfl ty3 (by decide) rfl) ?_
 obtain⟨u14,hc,h⟩:=h
 refine Dry rfl rfl rfl rfl rfl e2 rfl (qA rfl underlying3 rfl rfl hc) ?_
 refine Dpy rfl rfl rfl rfl rfl e2 rfl (alO rfl rfl rfl) ?_
 refine Dp rfl rfl rfl rfl (pF rfl (evb e2) rfl) ?_
 refine zq ?_;refine aeU (decide (u14<1)) decide_eq_true_iff h ?_ ?_
 .intro h e7
  refine Dpn rfl rfl rfl rfl rfl (.inl (by rw[e7];try rfl)) rfl ?_
  refine Dpn rfl rfl rfl rfl rfl (.inl (by rw[e7];try rfl)) rfl ?_
  refine Dpn rfl rfl rfl rfl rfl (.inl (by rw[e7];try rfl)) rfl ?_
  refine Dpn rfl rfl rfl rfl rfl (.inl (by rw[e7];try rfl)) rfl ?_
  refine Drn rfl rfl rfl rfl rfl (.inl (by rw[e7];try rfl)) rfl ?_
  refine Drn rfl rfl rfl rfl rfl (.inl (by rw[e7];try rfl)) rfl ?_
  refine Dpn rfl rfl rfl rfl rfl (.inl (by rw[e7];try rfl)) rfl ?_
  refine Dp rfl rfl rfl rfl (yH rfl (evb e7) rfl) ?_
  refine zq ?_;refine wH ?_
  refine qd ?_;exact⟨_,FL,h⟩
 intro h e7
 refine Dpy rfl rfl rfl rfl rfl e7 rfl (wm rfl underlying81 rfl ty3 (by decide) rfl) ?_
 refine Dpy rfl rfl rfl rfl rfl e7 rfl (jl rfl rfl) ?_
 obtain⟨p15,hc,h⟩:=h
 refine Dpy rfl rfl rfl rfl rfl e7 rfl (qr rfl (by rw[<-hc];try rfl)) ?_
 refine Dpy rfl rfl rfl rfl rfl e7 rfl (wm rfl underlying254 rfl ty3 (by decide) rfl) ?_
 obtain⟨u16,hc,h⟩:=h
 refine Dry rfl rfl rfl rfl rfl e7 rfl (qA rfl underlying3 rfl rfl hc) ?_
 obtain⟨u17,hc,h⟩:=h
 refine Dry rfl rfl rfl rfl rfl e7 rfl (qA rfl underlying3 rfl rfl hc) ?_
 refine Dpy rfl rfl rfl rfl rfl e7 rfl (ajI rfl rfl rfl) ?_
 refine Dp rfl rfl rfl rfl (pF rfl (evb e7) rfl) ?_
 refine zq ?_;refine wH ?_
 refine qd ?_;exact⟨_,FL,h⟩
def uK(B:World)(ro:AH)(a0:Option Addr)(a1_0:ByteArray)(a1_1 a2:Int)(I:AH)(Q:Sl->Bool->Int->AH->Prop):=
 nw ro I (.cells #[.string a1_0,.int .i64 a1_1] 81) fun u0 I=>
 ∃u1 u2,qg ro I ⟨u0,0,none⟩ 0 [.string u1,.int .i64 u2]/\
 vC B ro a0 u1 u2 I fun u3 u4 I=>
 if¬(u4=0)then
 Q (⟨none,0,0⟩:Sl) false u4 I
 else
 uW B ro a2 I fun u5 I=>
 if¬(u5=true)then
 Q (⟨none,0,0⟩:Sl) false 10 I
 else
 ∃p6,u3=some p6/\
 ∃u7,qa ro I (p6.add 5)=some (.int .i64 u7)/\
 if a2=u7 then
 ∃p8,u3=some p8/\
 ∃u9,qa ro I (p8.add 6)=some (Sl.v u9)/\
 kn B ro u9 I fun u10 I=>
 Q u10 true 0 I
 else
 ∃p11,u3=some p11/\
 ∃u12,qa ro I (p11.add 5)=some (.int .i64 u12)/\
 if a2<u12 then
 Q (⟨none,0,0⟩:Sl) false 152 I
 else
 Q (⟨none,0,0⟩:Sl) false 0 I
theorem afY{a0:Option Addr}{a1_0:ByteArray}{a1_1 a2:Int}{Q:Sl->Bool->Int->AH->Prop}(h:Sep ro I->uK B ro a0 a1_0 a1_1 a2 I Q):uy B ro a0 a1_0 a1_1 a2 I Q:=by
 refine zb h func127 ntmps127 fun h=>?_;unfold uK at h;refine z3 ?_;refine zA (wI rfl rfl) h fun u0 h=>?_;iterate 3 refine zp ?_
 refine z4 ?_;refine zp ?_;obtain⟨u1,u2,hc,h⟩:=h
 refine zl (wY rfl underlying81 rfl zX rfl hc ?_)
 refine zc func123 h ?_;rintro v I ⟨u3,u4,rfl,h⟩;iterate 5 refine zp ?_
 refine z2 (AW.seq (AW.block (z3 ?_)))
 iterate 3 refine zp ?_
 refine z2 ?_;refine AW.iff rfl (qu decide_eq_true_iff) h (fun h=>?_) (fun h=>?_)
 .refine z3 ?_;iterate 4 refine zp ?_
  refine z2 ?_;refine AW.ret ?_;refine qx (qi ?_);exact bR3 results127 rfl rfl rfl ⟨_,_,_,rfl,h⟩
 refine z3 ?_;refine zp ?_;refine zc func178 h ?_;rintro v I ⟨u5,rfl,h⟩;iterate 2 refine zp ?_
 refine z2 ?_;refine AW.iff rfl (qu Iff.rfl) h (fun h=>?_) (fun h=>?_)
 .refine z3 ?_;iterate 3 refine zp ?_
  refine z2 ?_;refine AW.ret ?_;refine qx (qi ?_);exact bR3 results127 rfl rfl rfl ⟨_,_,_,rfl,h⟩
 refine z3 ?_;iterate 2 refine zp ?_
 refine zN h fun p6 h=>?_;refine zf underlying83 ty3 ?_;refine zL underlying3 h fun u7 h=>?_;iterate 2 refine zp ?_
 refine z2 ?_;refine zi h (fun h=>?_) fun h=>?_
 .refine z3 ?_;refine zp ?_;refine zN h fun p8 h=>?_;refine zf underlying83 wO ?_;refine zL underlying24 h fun u9 h=>?_;refine zc func80 h ?_;rintro v I ⟨u10,rfl,h⟩;iterate 3 refine zp ?_
  refine z2 ?_;refine AW.ret ?_;refine qx (qi ?_);exact bR3 results127 rfl rfl rfl ⟨_,_,_,rfl,h⟩
 refine z3 ?_;iterate 2 refine zp ?_
 refine zN h fun p11 h=>?_;refine zf underlying83 ty3 ?_;refine zL underlying3 h fun u12 h=>?_;iterate 2 refine zp ?_
 refine z2 ?_;refine zi h (fun h=>?_) fun h=>?_
 .refine z3 ?_;iterate 3 refine zp ?_
  refine z2 ?_;refine AW.ret ?_;refine qx (qi ?_);exact bR3 results127 rfl rfl rfl ⟨_,_,_,rfl,h⟩
 refine AW.skip ?_;refine qD (qd (z3 ?_));iterate 3 refine zp ?_
 refine z2 ?_;refine AW.ret ?_;exact bR3 results127 rfl rfl rfl ⟨_,_,_,rfl,h⟩
def uL(B:World)(ro:AH)(a0:Option Addr)(a1_0:ByteArray)(a1_1:Int)(I:AH)(Q:Int->AH->Prop):=
 nw ro I (.cells #[.string a1_0,.int .i64 a1_1] 81) fun u0 I=>
 ∃u1 u2,qg ro I ⟨u0,0,none⟩ 0 [.string u1,.int .i64 u2]/\
 vC B ro a0 u1 u2 I fun u3 u4 I=>
 if¬(u4=0)then
 Q u4 I
 else
 yP I fun ψ I=>
 ∃p5,a0=some p5/\
 ∃u6,qa (join ro ψ) (fun _=>none) ((⟨u0,0,none⟩:Addr).add 1)=some (.int .i64 u6)/\
 ∃u7,qa (join ro ψ) I p5=some (.map u7)/\
 ∃u8,qa (join ro ψ) I ⟨u0,0,none⟩=some (.string u8)/\
 awp prog (join ro ψ) (Instr.lookup 240 (.map u7) (.string u8) false) (fun v I=>
  (∃(u9:Option Addr),v= .pointer u9/\
  ∃p10,u9=some p10/\
  ∃u11,qa (join ro ψ) I (p10.add 1)=some (.map u11)/\
  awp prog (join ro ψ) (Builtin.delete_ #[252,3] 0 #[.map u11,.int .i64 u6]) (fun v I=>v= .tuple #[]/\
   (qP ψ I->(fun I=>
   Q 0 I) (join ψ I))) I)) I
theorem afZ{a0:Option Addr}{a1_0:ByteArray}{a1_1:Int}{Q:Int->AH->Prop}(h:Sep ro I->uL B ro a0 a1_0 a1_1 I Q):uz B ro a0 a1_0 a1_1 I Q:=by
 refine zb h func130 ntmps130 fun h=>?_;unfold uL at h;refine z3 ?_;refine zA (wI rfl rfl) h fun u0 h=>?_;refine zp ?_;refine z2 (AW.seq (z3 ?_))
 refine zp ?_;obtain⟨u1,u2,hc,h⟩:=h
 refine zl (wY rfl underlying81 rfl zX rfl hc ?_)
 refine zc func123 h ?_;rintro v I ⟨u3,u4,rfl,h⟩;iterate 5 refine zp ?_
 refine z4 ?_;iterate 2 refine zp ?_
 refine z2 ?_;refine AW.iff rfl (qu decide_eq_true_iff) h (fun h=>?_) (fun h=>?_)
 .refine z3 ?_;iterate 2 refine zp ?_
  refine z2 ?_;refine AW.ret ?_;refine qi ?_;exact bR1 results130 rfl ⟨_,rfl,h⟩
 refine AW.skip ?_;refine qd (AW.seq ?_);refine AW.drawnL (fun i=>([0,0,0,3,0,3,2,0,0,3,0,0,2]:List Nat).getD i 2) [(3,6),(3,7),(3,8),(3,9),(3,12),(5,6),(5,7),(5,8),(5,9),(5,12),(6,7),(6,8),(6,9),(6,12)] [0,1,2,4,10,11,3,5,6,7,8,9,12] mixed h (by decide+kernel) ?_
 clear h
 intro ψ I h
 refine zq ?_;obtain⟨p5,hc,h⟩:=h
 refine Dp rfl rfl rfl rfl (qr rfl (by rw[<-hc];try rfl)) ?_
 refine zg underlying242 agG ?_;refine zg underlying81 ty9 ?_;refine zg underlying81 ty3 ?_;obtain⟨u6,hc,h⟩:=h
 refine Dp rfl rfl rfl rfl (yQ rfl underlying3 rfl rfl hc) ?_
 obtain⟨u7,hc,h⟩:=h
 refine Dr rfl rfl rfl rfl (qA rfl underlying240 rfl rfl hc) ?_
 obtain⟨u8,hc,h⟩:=h
 refine Dr rfl rfl rfl rfl (qA rfl underlying9 rfl rfl hc) ?_
 refine Dg rfl rfl rfl rfl (jC rfl rfl rfl (qm _ h ?_))
 rintro v I ⟨u9,rfl,h⟩;obtain⟨p10,hc,h⟩:=h
 refine Dp rfl rfl rfl rfl (qr rfl (by rw[<-hc];try rfl)) ?_
 refine zg underlying254 aeE ?_;obtain⟨u11,hc,h⟩:=h
 refine Dr rfl rfl rfl rfl (qA rfl underlying252 rfl rfl hc) ?_
 refine Dg rfl rfl rfl rfl (je (s:=Builtin.delete_ #[252,3] 0 #[.map u11,.int .i64 u6]) rfl rfl (fun _=>rfl) (qm _ h ?_))
 rintro v I ⟨rfl,h⟩;refine⟨_,zr.refl _,fun hdj=>?_⟩
 replace h:=h hdj
 refine qd (z3 ?_);refine zp ?_;refine z2 ?_;refine AW.ret ?_;exact bR1 results130 rfl ⟨_,rfl,h⟩
def aaJ(B:World)(ro:AH)(a0:Option Addr)(a1_0:ByteArray)(a1_1 a2:Int)(a3:Sl)(I:AH)(Q:Int->AH->Prop):=
 nw ro I (.cells #[.string a1_0,.int .i64 a1_1] 81) fun u0 I=>
 ∃u1 u2,qg ro I ⟨u0,0,none⟩ 0 [.string u1,.int .i64 u2]/\
 vC B ro a0 u1 u2 I fun u3 u4 I=>
 if¬(u4=0)then
 Q u4 I
 else
 uW B ro a2 I fun u5 I=>
 if¬(u5=true)then
 Q 10 I
 else
 ∃p6,u3=some p6/\
 ∃u7,qa ro I (p6.add 5)=some (.int .i64 u7)/\
 if a2<=u7 then
 Q 152 I
 else
 kn B ro a3 I fun u8 I=>
 ∃p9,u3=some p9/\
 stN (p9.add 5) (fun I=>
 ∃p10,u3=some p10/\
 stN (p10.add 6) (fun I=>
  Q 0 I) [Sl.v u8] 0 I) [.int .i64 a2] 0 I
theorem ahl{a0:Option Addr}{a1_0:ByteArray}{a1_1 a2:Int}{a3:Sl}{Q:Int->AH->Prop}(h:Sep ro I->aaJ B ro a0 a1_0 a1_1 a2 a3 I Q):pj B ro a0 a1_0 a1_1 a2 a3 I Q:=by
 refine zb h func132 ntmps132 fun h=>?_;unfold aaJ at h;refine z3 ?_;refine zA (wI rfl rfl) h fun u0 h=>?_;refine zp ?_;refine z4 ?_;refine zp ?_;obtain⟨u1,u2,hc,h⟩:=h
 refine zl (wY rfl underlying81 rfl zX rfl hc ?_)
 refine zc func123 h ?_;rintro v I ⟨u3,u4,rfl,h⟩;iterate 5 refine zp ?_
 refine z2 (AW.seq (AW.block (z3 ?_)))
 iterate 3 refine zp ?_
 refine z2 ?_;refine AW.iff rfl (qu decide_eq_true_iff) h (fun h=>?_) (fun h=>?_)
 .refine z3 ?_;iterate 2 refine zp ?_
  refine z2 ?_;refine AW.ret ?_;refine qx (qi ?_);exact bR1 results132 rfl ⟨_,rfl,h⟩
 refine z3 ?_;refine zp ?_;refine zc func178 h ?_;rintro v I ⟨u5,rfl,h⟩;iterate 2 refine zp ?_
 refine z2 ?_;refine AW.iff rfl (qu Iff.rfl) h (fun h=>?_) (fun h=>?_)
 .refine z3 ?_;refine zp ?_;refine z2 ?_;refine AW.ret ?_;refine qx (qi ?_);exact bR1 results132 rfl ⟨_,rfl,h⟩
 refine z3 ?_;iterate 2 refine zp ?_
 refine zN h fun p6 h=>?_;refine zf underlying83 ty3 ?_;refine zL underlying3 h fun u7 h=>?_;iterate 2 refine zp ?_
 refine z2 ?_;refine zi h (fun h=>?_) fun h=>?_
 .refine z3 ?_;refine zp ?_;refine z2 ?_;refine AW.ret ?_;refine qx (qi ?_);exact bR1 results132 rfl ⟨_,rfl,h⟩
 refine AW.skip ?_;refine qD (qd (z3 ?_));iterate 4 refine zp ?_
 refine zc func80 h ?_;rintro v I ⟨u8,rfl,h⟩;refine zN h fun p9 h=>?_;refine zf underlying83 ty3 ?_;refine zs ty3 h fun I h=>?_;refine zN h fun p10 h=>?_;refine zf underlying83 wO ?_;refine zs wO h fun I h=>?_;refine z4 ?_;refine zp ?_;refine z2 ?_;refine AW.ret ?_;exact bR1 results132 rfl ⟨_,rfl,h⟩
def jA(B:World)(ro:AH)(a0:Int)(I:AH)(Q:Bool->AH->Prop):=
 Q ((decide (1<=a0)) && (decide (a0<=4611686018427387903))) I
theorem us{a0:Int}{Q:Bool->AH->Prop}(h:Sep ro I->jA B ro a0 I Q):uW B ro a0 I Q:=by
 refine zb h func178 ntmps178 fun h=>?_;unfold jA at h;refine z3 ?_;refine zp ?_;refine z4 ?_;iterate 3 refine zp ?_
 refine wW 3 (decide (1<=a0)) [(8,.bool ((decide (1<=a0)) && (decide (a0<=4611686018427387903))))] ?_ ?_ ?_
 .intro e2 hk2
  refine zy e2 ?_;refine zy e2 ?_;refine zk e2 ?_;exact hk2 _ (Fe e2)
 .intro e2 hk2
  iterate 2 refine zn e2 ?_
  refine zk e2 ?_;exact hk2 _ (Fe e2)
 intro fr hl
 refine Lfr hl ?_
 refine zp ?_;refine z2 ?_;refine AW.ret ?_;exact bR1 results178 rfl ⟨_,rfl,h⟩
def jI(B:World)(ro:AH)(Q:Int->AH->Prop)(I:AH):=
 Q 0 I
def xg(B:World)(ro:AH)(a0:Option Addr)(a1:Sl)(Q:Int->AH->Prop):Int->AH->(Int->AH->Prop)->Prop:=fun u0 I Y3=>
 if u0<(a1.len:Int)then
 ∃p1,a1.a=some p1/\(0:Int)<=u0/\u0<(a1.len:Int)/\
 ∃u2 u3,qg ro I (p1.add (Int.toNat u0*2)) 0 [.string u2,.int .i64 u3]/\
 nw ro I (.cells #[.string ByteArray.empty,.int .i64 0] 81) fun u4 I=>
 stN ⟨u4,0,none⟩ (fun I=>
  yP I fun ψ I=>
  ∃p5,a0=some p5/\
  ∃u6,qa (join ro ψ) (fun _=>none) ((⟨u4,0,none⟩:Addr).add 1)=some (.int .i64 u6)/\
  ∃u7,qa (join ro ψ) I p5=some (.map u7)/\
  ∃u8,qa (join ro ψ) I ⟨u4,0,none⟩=some (.string u8)/\
  awp prog (join ro ψ) (Instr.lookup 240 (.map u7) (.string u8) false) (fun v I=>
   (∃(u9:Option Addr),v= .pointer u9/\
   ∃p10,u9=some p10/\
   ∃u11,qa (join ro ψ) I (p10.add 1)=some (.map u11)/\
   (qP ψ I->(fun I=>
    awp prog ro (Instr.lookup 252 (.map u11) (.int .i64 u6) false) (fun v I=>
    (∃(u12:Option Addr),v= .pointer u12/\
     ∃p13,u12=some p13/\
     ∃u14,qa ro I (p13.add 4)=some (.int .i64 u14)/\
     ∃p15,u12=some p15/\
     stN (p15.add 4) (fun I=>
     Y3 (i64.wrap (u0+1)) I) [.int .i64 (i64.wrap (u14+1))] 0 I)) I) (join ψ I)))) I) [.string u2,.int .i64 u3] 0 I
 else
 jI B ro Q I
def jJ(B:World)(ro:AH)(a0:Option Addr)(a1:Sl)(Q:Int->AH->Prop)(I:AH):=
 lfpD (xg B ro a0 a1 Q) (0) I
def kJ(B:World)(ro:AH)(a0:Option Addr)(a1:Sl)(Q:Int->AH->Prop):Int->AH->(Int->AH->Prop)->Prop:=fun u0 I Y19=>
 if u0<(a1.len:Int)then
 ∃p1,a1.a=some p1/\(0:Int)<=u0/\u0<(a1.len:Int)/\
 ∃u2 u3,qg ro I (p1.add (Int.toNat u0*2)) 0 [.string u2,.int .i64 u3]/\
 nw ro I (.cells #[.string ByteArray.empty,.int .i64 0] 81) fun u4 I=>
 stN ⟨u4,0,none⟩ (fun I=>
  ∃u5 u6,qg ro I ⟨u4,0,none⟩ 0 [.string u5,.int .i64 u6]/\
  vC B ro a0 u5 u6 I fun u7 u8 I=>
  if¬(u8=0)then
  Q u8 I
  else
  Y19 (i64.wrap (u0+1)) I) [.string u2,.int .i64 u3] 0 I
 else
 jJ B ro a0 a1 Q I
def uM(B:World)(ro:AH)(a0:Option Addr)(a1:Sl)(I:AH)(Q:Int->AH->Prop):=
 lfpD (kJ B ro a0 a1 Q) (0) I
theorem af0{a0:Option Addr}{a1:Sl}{Q:Int->AH->Prop}(h:Sep ro I->uM B ro a0 a1 I Q):uA B ro a0 a1 I Q:=by
 refine zb h func188 ntmps188 fun h=>?_;unfold uM at h;refine z3 ?_;refine zp ?_;refine z2 ?_;refine AW.seqJ (fun fr I=>qo [(0,.pointer a0),(1,Sl.v a1)] fr/\jJ B ro a0 a1 Q I) ?_ ?_
 rotate_left
 .refine z3 ?_;refine zp ?_;refine zm (qT rfl rfl underlying178 rfl rfl) ?_;refine zp ?_;refine z2 (AW.block ?_)
  refine qk.loop (fr':=[(0,.pointer a0),(1,Sl.v a1),(11,Sl.v a1),(12,.int .i64 (a1.len:Int)),(13,.int .i64 0)]) ?_ FL
  refine h (fun u0 I=>qk _ _ _ _ _ _ [(0,.pointer a0),(1,Sl.v a1),(11,Sl.v a1),(12,.int .i64 (a1.len:Int)),(13,.int .i64 u0)] I) ?_
  rintro u0 I Y19 hY19 h
  show AW _ _ _ _ _ _ _ _
  unfold kJ at h;refine z3 ?_;refine zp ?_;refine z2 (AW.seq ?_)
  refine zi h (fun h=>?_) fun h=>?_
  rotate_left
  .refine AW.exit ?_;refine qH (qH ?_);refine wB ?_
   refine qd ?_;exact⟨FL,h⟩
  refine AW.skip ?_;refine qd (AW.seq (AW.block (z3 ?_)));obtain⟨p1,ha,h0,h1,h⟩:=h
  refine zm (vv rfl underlying178 zX (ixL rfl ha) rfl h0 h1) ?_;obtain⟨u2,u3,hc,h⟩:=h
  refine zl (wY rfl underlying81 rfl zX rfl hc ?_)
  refine zA (qY rfl zX) h fun u4 h=>?_;refine zs zX h fun I h=>?_;refine z4 ?_;refine zp ?_;obtain⟨u5,u6,hc,h⟩:=h
  refine zl (wY rfl underlying81 rfl zX rfl hc ?_)
  refine zc func123 h ?_;rintro v I ⟨u7,u8,rfl,h⟩;iterate 5 refine zp ?_
  refine z4 ?_;iterate 2 refine zp ?_
  refine z2 ?_;refine AW.iff rfl (qu decide_eq_true_iff) h (fun h=>?_) (fun h=>?_)
  .refine z3 ?_;iterate 2 refine zp ?_
   refine z2 ?_;refine AW.ret ?_;refine qx (qi (qi (qx (qi ?_))));exact bR1 results188 rfl ⟨_,rfl,h⟩
  refine AW.skip ?_;refine qD (qd (AW.reg ?_));iterate 2 refine zp ?_
  refine z2 ?_;refine qk.head (fr':=[(0,.pointer a0),(1,Sl.v a1),(11,Sl.v a1),(12,.int .i64 (a1.len:Int)),(13,.int .i64 (i64.wrap (u0+1)))]) ?_ FL
  exact hY19 _ _ h
 rintro fr I ⟨hl,h⟩;refine AW.weaken ?_ hl (HLe.refl _)
 unfold jJ at h;refine AW.seqJ (fun fr I=>qo [] fr/\jI B ro Q I) ?_ ?_
 .rintro fr I ⟨hl,h⟩;refine AW.weaken ?_ hl (HLe.refl _)
  unfold jI at h;refine z3 ?_;refine zp ?_;refine z2 ?_;refine AW.ret ?_;exact bR1 results188 rfl ⟨_,rfl,h⟩
 refine z3 ?_;refine zp ?_;refine zm (qT rfl rfl underlying178 rfl rfl) ?_;refine zp ?_;refine z2 (AW.block ?_)
 refine qk.loop (fr':=[(0,.pointer a0),(27,Sl.v a1),(28,.int .i64 (a1.len:Int)),(29,.int .i64 0)]) ?_ FL
 refine h (fun u9 I=>qk _ _ _ _ _ _ [(0,.pointer a0),(27,Sl.v a1),(28,.int .i64 (a1.len:Int)),(29,.int .i64 u9)] I) ?_
 rintro u9 I Y3 hY3 h
 show AW _ _ _ _ _ _ _ _
 unfold xg at h;refine z3 ?_;refine zp ?_;refine z2 (AW.seq ?_)
 refine zi h (fun h=>?_) fun h=>?_
 rotate_left
 .refine AW.exit ?_;refine qH (qH ?_);refine wB ?_
  refine qd ?_;exact⟨FL,h⟩
 refine AW.skip ?_;refine qd (AW.seq (AW.block (z3 ?_)));obtain⟨p10,ha,h0,h1,h⟩:=h
 refine zm (vv rfl underlying178 zX (ixL rfl ha) rfl h0 h1) ?_;obtain⟨u11,u12,hc,h⟩:=h
 refine zl (wY rfl underlying81 rfl zX rfl hc ?_)
 refine zA (qY rfl zX) h fun u13 h=>?_;refine zs zX h fun I h=>?_;refine z2 ?_;refine AW.drawn2 (fun i=>([0,0,0,3,0,3,2,0,0,3,0,0,2,0,0,3,0,0,0,2]:List Nat).getD i 2) [(0,1),(0,2),(0,3),(0,6),(0,7),(0,8),(0,9),(0,12),(0,13),(0,14),(0,15),(0,16),(1,2),(1,3),(1,6),(1,7),(1,8),(1,9),(1,12),(1,13),(1,14),(1,15),(1,16),(2,3),(2,6),(2,7),(2,8),(2,9),(2,12),(2,13),(2,14),(2,15),(2,16),(3,6),(3,7),(3,8),(3,9),(3,12),(3,13),(3,14),(3,15),(3,16),(4,5),(4,6),(4,7),(4,8),(4,9),(4,12),(4,13),(4,14),(4,15),(4,16),(5,6),(5,7),(5,8),(5,9),(5,12),(5,13),(5,14),(5,15),(5,16),(6,7),(6,8),(6,9),(6,12),(6,13),(6,14),(6,15),(6,16),(7,8),(7,9),(7,12),(7,13),(7,14),(7,15),(7,16),(8,9),(8,12),(8,13),(8,14),(8,15),(8,16),(9,12),(9,13),(9,14),(9,15),(9,16),(10,11),(10,12),(10,13),(10,14),(10,15),(10,16),(11,12),(11,13),(11,14),(11,15),(11,16),(12,13),(12,14),(12,15)] [0,1,2,4,10,11,3,5,6,7,8,9] [12,13,14,15,16,17,18,19] mixed h (by decide+kernel) ?_
 clear h
 intro ψ I h
 refine zq ?_;obtain⟨p14,hc,h⟩:=h
 refine Dp rfl rfl rfl rfl (qr rfl (by rw[<-hc];try rfl)) ?_
 refine zg underlying242 agG ?_;refine zg underlying81 ty9 ?_;refine zg underlying81 ty3 ?_;obtain⟨u15,hc,h⟩:=h
 refine Dp rfl rfl rfl rfl (yQ rfl underlying3 rfl rfl hc) ?_
 obtain⟨u16,hc,h⟩:=h
 refine Dr rfl rfl rfl rfl (qA rfl underlying240 rfl rfl hc) ?_
 obtain⟨u17,hc,h⟩:=h
 refine Dr rfl rfl rfl rfl (qA rfl underlying9 rfl rfl hc) ?_
 refine Dg rfl rfl rfl rfl (jC rfl rfl rfl (qm _ h ?_))
 rintro v I ⟨u18,rfl,h⟩;obtain⟨p19,hc,h⟩:=h
 refine Dp rfl rfl rfl rfl (qr rfl (by rw[<-hc];try rfl)) ?_
 refine zg underlying254 aeE ?_;obtain⟨u20,hc,h⟩:=h
 refine Dr rfl rfl rfl rfl (qA rfl underlying252 rfl rfl hc) ?_
 refine⟨_,zr.refl _,fun hdj=>?_⟩
 replace h:=h hdj
 refine Dg rfl rfl rfl rfl (jC rfl rfl rfl (qm _ h ?_))
 rintro v I ⟨u21,rfl,h⟩;obtain⟨p22,hc,h⟩:=h
 refine Dp rfl rfl rfl rfl (qr rfl (by rw[<-hc];try rfl)) ?_
 refine zg underlying83 ty3 ?_;obtain⟨u23,hc,h⟩:=h
 refine Dr rfl rfl rfl rfl (qA rfl underlying3 rfl rfl hc) ?_
 refine zq ?_;obtain⟨p24,hc,h⟩:=h
 refine Dp rfl rfl rfl rfl (qr rfl (by rw[<-hc];try rfl)) ?_
 refine zg underlying83 ty3 ?_;refine Dg rfl rfl rfl rfl (yR rfl ty3 rfl rfl rfl rfl (zD h fun I h=>?_))
 refine wH ?_
 refine qD (qd (AW.reg ?_));iterate 2 refine zp ?_
 refine z2 ?_;refine qk.head (fr':=[(0,.pointer a0),(27,Sl.v a1),(28,.int .i64 (a1.len:Int)),(29,.int .i64 (i64.wrap (u9+1)))]) ?_ FL
 exact hY3 _ _ h
def adS(B:World)(ro I:AH)(Q:Option Addr->AH->Prop):Prop:=
 nw ro I (.map #[] 0) fun u0 I=>
 nw ro I (.cells #[.map (some u0)] 245) fun u1 I=>
 Q (some ⟨u1,0,none⟩) I
theorem ail{Q:Option Addr->AH->Prop}(h:Sep ro I->adS B ro I Q):aiY B ro I Q:=by
 refine zb h func68 ntmps68 fun h=>?_;unfold adS at h;refine z3 ?_;refine zp ?_;refine z4 ?_;refine zA (af3 rfl) h fun u0 h=>?_;refine zm (wz (vs:=[(0,.map (some u0))]) (cs:= #[.map (some u0)]) rfl underlying245 atz atK rfl rfl) ?_;refine zA (wI rfl rfl) h fun u1 h=>?_;refine zp ?_;refine z2 ?_;refine AW.ret ?_;exact bR1 results68 rfl ⟨_,rfl,h⟩
def yt(B:World)(ro:AH)(a0:Option Addr)(a1:Sl)(Q:AH->Prop):Int->AH->(Int->AH->Prop)->Prop:=fun u0 I Y1=>
 if u0<(a1.len:Int)then
 ∃p1,a1.a=some p1/\(0:Int)<=u0/\u0<(a1.len:Int)/\
 ∃u2 u3,qg ro I (p1.add (Int.toNat u0*2)) 0 [.string u2,.int .i64 u3]/\
 nw ro I (.cells #[.string ByteArray.empty,.int .i64 0] 81) fun u4 I=>
 stN ⟨u4,0,none⟩ (fun I=>
  ∃p5,a0=some p5/\
  ∃u6,qa ro I p5=some (.map u6)/\
  ∃u7 u8,qg ro I ⟨u4,0,none⟩ 0 [.string u7,.int .i64 u8]/\
  awp prog ro (Builtin.delete_ #[243,81] 0 #[.map u6,.agg #[.string u7,.int .i64 u8]]) (fun v I=>v= .tuple #[]/\
  Y1 (i64.wrap (u0+1)) I) I) [.string u2,.int .i64 u3] 0 I
 else
 Q I
def acI(B:World)(ro:AH)(a0:Option Addr)(a1:Sl)(I:AH)(Q:AH->Prop):=
 lfpD (yt B ro a0 a1 Q) (0) I
theorem aiT{a0:Option Addr}{a1:Sl}{Q:AH->Prop}(h:Sep ro I->acI B ro a0 a1 I Q):aco B ro a0 a1 I Q:=by
 refine zb h func124 ntmps124 fun h=>?_;unfold acI at h;refine z3 ?_;refine zp ?_;refine zm (qT rfl rfl underlying178 rfl rfl) ?_;refine zp ?_;refine z2 (AW.block ?_)
 refine qk.loop (fr':=[(0,.pointer a0),(6,Sl.v a1),(7,.int .i64 (a1.len:Int)),(8,.int .i64 0)]) ?_ FL
 refine h (fun u0 I=>qk _ _ _ _ _ _ [(0,.pointer a0),(6,Sl.v a1),(7,.int .i64 (a1.len:Int)),(8,.int .i64 u0)] I) ?_
 rintro u0 I Y1 hY1 h
 show AW _ _ _ _ _ _ _ _
 unfold yt at h;refine z3 ?_;refine zp ?_;refine z2 (AW.seq ?_)
 refine zi h (fun h=>?_) fun h=>?_
 rotate_left
 .refine AW.exit ?_;refine qH (qH ?_);refine wB ?_
  exact bN0 results124 ⟨rfl,h⟩
 refine AW.skip ?_;refine qd (AW.seq (AW.block (z3 ?_)));obtain⟨p1,ha,h0,h1,h⟩:=h
 refine zm (vv rfl underlying178 zX (ixL rfl ha) rfl h0 h1) ?_;obtain⟨u2,u3,hc,h⟩:=h
 refine zl (wY rfl underlying81 rfl zX rfl hc ?_)
 refine zA (qY rfl zX) h fun u4 h=>?_;refine zs zX h fun I h=>?_;refine z2 ?_;refine AW.drawn0 (fun i=>([0,0,0,3,3,2]:List Nat).getD i 2) [] [0,1,2,3,4,5] mixed (by decide+kernel) ?_
 refine zq ?_;obtain⟨p5,hc,h⟩:=h
 refine Dp rfl rfl rfl rfl (qr rfl (by rw[<-hc];try rfl)) ?_
 refine zg underlying245 aft ?_;obtain⟨u6,hc,h⟩:=h
 refine Dr rfl rfl rfl rfl (qA rfl underlying243 rfl rfl hc) ?_
 obtain⟨u7,u8,hc,h⟩:=h
 refine Dr rfl rfl rfl rfl (xH rfl underlying81 rfl zX rfl hc) ?_
 refine Dg rfl rfl rfl rfl (je (s:=Builtin.delete_ #[243,81] 0 #[.map u6,.agg #[.string u7,.int .i64 u8]]) rfl rfl (fun _=>rfl) (qm _ h ?_))
 rintro v I ⟨rfl,h⟩;refine wH ?_
 refine qD (qd (AW.reg ?_));iterate 2 refine zp ?_
 refine z2 ?_;refine qk.head (fr':=[(0,.pointer a0),(6,Sl.v a1),(7,.int .i64 (a1.len:Int)),(8,.int .i64 (i64.wrap (u0+1)))]) ?_ FL
 exact hY1 _ _ h
def ut(B:World)(ro:AH)(Q:Int->AH->Prop)(u0:Int)(I:AH):=
 Q u0 I
def kT(B:World)(ro:AH)(a0:Option Addr)(a1:Sl)(u0:Int)(Q:Int->AH->Prop)(Y3:(Int×Int)->AH->Prop)(u1:Int)(I:AH):=
 Y3 (u1,i64.wrap (u0+1)) I
def xx(B:World)(ro:AH)(a0:Option Addr)(a1:Sl)(u0:Nat)(u1:Int)(Q:Int->AH->Prop)(Y3:(Int×Int)->AH->Prop)(u2:Int)(I:AH):=
 ∃u3,qa ro I ⟨u0,0,none⟩=some (.int .i64 u3)/\
 if u3=2 then
 ∃u4,qa ro I ((⟨u0,0,none⟩:Addr).add 1)=some (.string u4)/\
 yU B ro a0 u4 2 4 I fun u5 I=>
 kT B ro a0 a1 u1 Q Y3 (i64.wrap (u2+u5)) I
 else
 kT B ro a0 a1 u1 Q Y3 u2 I
def km(B:World)(ro:AH)(a0:Option Addr)(a1:Sl)(u0:Int)(u1:Nat)(u2:Int)(u3:ByteArray)(Q:Int->AH->Prop)(Y3:(Int×Int)->AH->Prop)(u4:Bool)(I:AH):=
 if u4=true then
 kT B ro a0 a1 u2 Q Y3 u0 I
 else
 ∃u5,qa ro I ((⟨u1,0,none⟩:Addr).add 1)=some (.string u5)/\
 ∃u6,qa ro I ⟨u1,0,none⟩=some (.int .i64 u6)/\
 yU B ro a0 u5 1 u6 I fun u7 I=>
 ∃u8,qa ro I ⟨u1,0,none⟩=some (.int .i64 u8)/\
 if¬(u8=3)then
 yU B ro a0 u3 2 4 I fun u9 I=>
 xx B ro a0 a1 u1 u2 Q Y3 (i64.wrap ((i64.wrap (u0+u7))+u9)) I
 else
 xx B ro a0 a1 u1 u2 Q Y3 (i64.wrap (u0+u7)) I
def xy(B:World)(ro:AH)(a0:Option Addr)(a1:Sl)(u0:Int)(u1:Nat)(u2:Int)(u3:ByteArray)(Q:Int->AH->Prop)(Y3:(Int×Int)->AH->Prop)(u4:Bool)(I:AH):=
 if u4=true then
 km B ro a0 a1 u0 u1 u2 u3 Q Y3 true I
 else
 ∃u5,qa ro I ⟨u1,0,none⟩=some (.int .i64 u5)/\
 km B ro a0 a1 u0 u1 u2 u3 Q Y3 (decide (3<u5)) I
def vQ(B:World)(ro:AH)(a0:Option Addr)(a1:Sl)(Q:Int->AH->Prop):(Int×Int)->AH->((Int×Int)->AH->Prop)->Prop:=fun⟨u0,u1⟩ I Y3=>
 if u1<(a1.len:Int)then
 ∃p2,a1.a=some p2/\(0:Int)<=u1/\u1<(a1.len:Int)/\
 ∃u3 u4,qg ro I (p2.add (Int.toNat u1*2)) 0 [.int .i64 u3,.string u4]/\
 nw ro I (.cells #[.int .i64 0,.string ByteArray.empty] 336) fun u5 I=>
 stN ⟨u5,0,none⟩ (fun I=>
  ∃u6,qa ro I ((⟨u5,0,none⟩:Addr).add 1)=some (.string u6)/\
  yj B ro u6 I fun u7 u8 I=>
  if¬(u8=0)then
  xy B ro a0 a1 u0 u5 u1 u7 Q Y3 true I
  else
  ∃u9,qa ro I ⟨u5,0,none⟩=some (.int .i64 u9)/\
  xy B ro a0 a1 u0 u5 u1 u7 Q Y3 (decide (u9<1)) I) [.int .i64 u3,.string u4] 0 I
 else
 ut B ro Q u0 I
def acJ(B:World)(ro:AH)(a0:Option Addr)(a1:Sl)(I:AH)(Q:Int->AH->Prop):=
 lfpD (vQ B ro a0 a1 Q) (0,0) I
theorem aiU{a0:Option Addr}{a1:Sl}{Q:Int->AH->Prop}(h:Sep ro I->acJ B ro a0 a1 I Q):uV B ro a0 a1 I Q:=by
 refine zb h func125 ntmps125 fun h=>?_;unfold acJ at h;refine z3 ?_;refine zp ?_;refine z4 ?_;refine zp ?_;refine z2 ?_;refine AW.seqJ (fun fr I=> ∃(u0:Int),qo [(5,.int .i64 u0)] fr/\ut B ro Q u0 I) ?_ ?_
 .rintro fr I ⟨u0,hl,h⟩;refine AW.weaken ?_ hl (HLe.refl _)
  unfold ut at h;refine z3 ?_;iterate 2 refine zp ?_
  refine z2 ?_;refine AW.ret ?_;exact bR1 results125 rfl ⟨_,rfl,h⟩
 refine z3 ?_;refine zp ?_;refine zm (qT rfl rfl underlying258 rfl rfl) ?_;refine zp ?_;refine z2 (AW.block ?_)
 refine qk.loop (fr':=[(0,.pointer a0),(10,Sl.v a1),(11,.int .i64 (a1.len:Int)),(5,.int .i64 0),(12,.int .i64 0)]) ?_ FL
 refine h (fun⟨u1,u2⟩ I=>qk _ _ _ _ _ _ [(0,.pointer a0),(10,Sl.v a1),(11,.int .i64 (a1.len:Int)),(5,.int .i64 u1),(12,.int .i64 u2)] I) ?_
 rintro⟨u1,u2⟩ I Y3 hY3 h
 show AW _ _ _ _ _ _ _ _
 unfold vQ at h;dsimp only at h;refine z3 ?_;refine zp ?_;refine z2 (AW.seq ?_)
 refine zi h (fun h=>?_) fun h=>?_
 rotate_left
 .refine AW.exit ?_;refine qH (qH ?_);refine wB ?_
  refine qd ?_;exact⟨_,FL,h⟩
 refine AW.skip ?_;refine qd ?_;refine AW.seqJ (fun fr I=> ∃(u3:Int),qo [(0,.pointer a0),(10,Sl.v a1),(11,.int .i64 (a1.len:Int)),(12,.int .i64 u2),(5,.int .i64 u3)] fr/\kT B ro a0 a1 u2 Q Y3 u3 I) ?_ ?_
 .rintro fr I ⟨u3,hl,h⟩;refine AW.weaken ?_ hl (HLe.refl _)
  unfold kT at h;refine AW.reg ?_;iterate 2 refine zp ?_
  refine z2 ?_;refine qk.head (fr':=[(0,.pointer a0),(10,Sl.v a1),(11,.int .i64 (a1.len:Int)),(5,.int .i64 u3),(12,.int .i64 (i64.wrap (u2+1)))]) ?_ FL
  exact hY3 _ _ h
 refine AW.block (z3 ?_);obtain⟨p4,ha,h0,h1,h⟩:=h
 refine zm (vv rfl underlying258 abq (ixL rfl ha) rfl h0 h1) ?_;obtain⟨u5,u6,hc,h⟩:=h
 refine zl (wY rfl underlying336 rfl abq rfl hc ?_)
 refine zA (qY rfl abq) h fun u7 h=>?_;refine zs abq h fun I h=>?_;refine z4 ?_;refine zf underlying336 ty9 ?_;refine zL underlying9 h fun u8 h=>?_;refine zc func179 h ?_;rintro v I ⟨u9,u10,rfl,h⟩;iterate 5 refine zp ?_
 refine z2 (AW.seq (z3 ?_))
 iterate 3 refine zp ?_
 refine qO 4 (!(decide (u10=0))) (qu decide_eq_true_iff) h (fun fr I=> ∃(u11:Bool),qo [(0,.pointer a0),(5,.int .i64 u1),(7,.pointer (some ⟨u7,0,none⟩)),(8,.string u9),(10,Sl.v a1),(11,.int .i64 (a1.len:Int)),(12,.int .i64 u2),(28,.bool u11)] fr/\xy B ro a0 a1 u1 u7 u2 u9 Q Y3 u11 I) ?_ ?_ ?_
 .intro h e2 hk2;iterate 3 refine zn e2 ?_
  refine zk e2 ?_;exact hk2 _ _ ⟨_,FL,h⟩
 .intro h e2 hk2;refine qX (wm rfl underlying336 rfl ty3 (by decide) rfl) rfl rfl rfl rfl e2 ?_
  obtain⟨u12,hc,h⟩:=h
  refine Lyb rfl rfl rfl rfl e2 (vG rfl underlying3 rfl rfl hc ?_)
  refine zy e2 ?_;refine zk e2 ?_;exact hk2 _ _ ⟨_,FL,h⟩
 rintro fr I ⟨u11,hl,h⟩;unfold xy at h;refine Lfr hl ?_
 refine zp ?_;refine qO 4 u11 Iff.rfl h (fun fr I=> ∃(u13:Bool),qo [(0,.pointer a0),(5,.int .i64 u1),(7,.pointer (some ⟨u7,0,none⟩)),(8,.string u9),(10,Sl.v a1),(11,.int .i64 (a1.len:Int)),(12,.int .i64 u2),(33,.bool u13)] fr/\km B ro a0 a1 u1 u7 u2 u9 Q Y3 u13 I) ?_ ?_ ?_
 .intro h e7 hk7;iterate 3 refine zn e7 ?_
  refine zk e7 ?_;exact hk7 _ _ ⟨_,FL,h⟩
 .intro h e7 hk7;refine qX (wm rfl underlying336 rfl ty3 (by decide) rfl) rfl rfl rfl rfl e7 ?_
  obtain⟨u14,hc,h⟩:=h
  refine Lyb rfl rfl rfl rfl e7 (vG rfl underlying3 rfl rfl hc ?_)
  refine zy e7 ?_;refine zk e7 ?_;exact hk7 _ _ ⟨_,FL,h⟩
 rintro fr I ⟨u13,hl,h⟩;unfold km at h;refine Lfr hl ?_
 refine z2 ?_;refine zj h (fun h=>?_) fun h=>?_
 .refine AW.exit ?_;refine qH ?_;refine wB ?_
  refine qd ?_;exact⟨_,FL,h⟩
 refine AW.skip ?_;refine qd (z3 ?_);iterate 2 refine zp ?_
 refine zf underlying336 ty9 ?_;refine zL underlying9 h fun u15 h=>?_;refine zm (wz (vs:=[(0,.string u15),(1,.int .i64 1)]) (cs:= #[.string u15,.int .i64 1]) rfl underlying314 ac4 al2 rfl rfl) ?_;refine zf underlying336 ty3 ?_;refine zL underlying3 h fun u16 h=>?_;refine zc func181 h ?_;rintro v I ⟨u17,rfl,h⟩;iterate 2 refine zp ?_
 refine z2 ?_;refine AW.seqJ (fun fr I=> ∃(u18:Int),qo [(0,.pointer a0),(7,.pointer (some ⟨u7,0,none⟩)),(10,Sl.v a1),(11,.int .i64 (a1.len:Int)),(12,.int .i64 u2),(5,.int .i64 u18)] fr/\xx B ro a0 a1 u7 u2 Q Y3 u18 I) ?_ ?_
 rotate_left
 .refine z3 ?_;refine zf underlying336 ty3 ?_;refine zL underlying3 h fun u19 h=>?_;refine zp ?_;refine z2 ?_;refine AW.iff rfl (qu decide_eq_true_iff) h (fun h=>?_) (fun h=>?_)
  rotate_left
  .refine AW.skip ?_;refine qd ?_;exact⟨_,FL,h⟩
  refine AW.reg ?_;iterate 3 refine zp ?_
  refine zm (wz (vs:=[(0,.string u9),(1,.int .i64 2)]) (cs:= #[.string u9,.int .i64 2]) rfl underlying314 ac4 al2 rfl rfl) ?_;refine zc func181 h ?_;rintro v I ⟨u20,rfl,h⟩;iterate 2 refine zp ?_
  refine z2 ?_;exact⟨_,FL,h⟩
 rintro fr I ⟨u18,hl,h⟩;refine AW.weaken ?_ hl (HLe.refl _)
 unfold xx at h;refine z3 ?_;refine zf underlying336 ty3 ?_;refine zL underlying3 h fun u21 h=>?_;refine zp ?_;refine z2 ?_;refine zi h (fun h=>?_) fun h=>?_
 rotate_left
 .refine AW.skip ?_;refine qD (qd ?_);exact⟨_,FL,h⟩
 refine AW.reg ?_;iterate 2 refine zp ?_
 refine zf underlying336 ty9 ?_;refine zL underlying9 h fun u22 h=>?_;refine zm (wz (vs:=[(0,.string u22),(1,.int .i64 2)]) (cs:= #[.string u22,.int .i64 2]) rfl underlying314 ac4 al2 rfl rfl) ?_;refine zc func181 h ?_;rintro v I ⟨u23,rfl,h⟩;iterate 2 refine zp ?_
 refine ju (qD (qd ?_));exact⟨_,FL,h⟩
def abK(B:World)(ro:AH)(a0:Option Addr)(a1_0:ByteArray)(a1_1:Int)(I:AH)(Q:Sl->AH->Prop):=
 nw ro I (.cells #[.string a1_0,.int .i64 a1_1] 81) fun u0 I=>
 ∃p1,a0=some p1/\
 ∃u2,qa ro I p1=some (.map u2)/\
 ∃u3 u4,qg ro I ⟨u0,0,none⟩ 0 [.string u3,.int .i64 u4]/\
 awp prog ro (Instr.lookup 243 (.map u2) (.agg #[.string u3,.int .i64 u4]) false) (fun v I=>
 (∃(u5:Option Addr),v= .pointer u5/\
  if¬(u5=none)then
  ∃p6,u5=some p6/\
  ∃u7,qa ro I p6=some (Sl.v u7)/\
  yk B ro u7 I fun u8 I=>
  Q u8 I
  else
  Q (⟨none,0,0⟩:Sl) I)) I
theorem aim{a0:Option Addr}{a1_0:ByteArray}{a1_1:Int}{Q:Sl->AH->Prop}(h:Sep ro I->abK B ro a0 a1_0 a1_1 I Q):xT B ro a0 a1_0 a1_1 I Q:=by
 refine zb h func128 ntmps128 fun h=>?_;unfold abK at h;refine z3 ?_;refine zA (wI rfl rfl) h fun u0 h=>?_;refine zp ?_;refine z2 (AW.seq (AW.seq ?_))
 refine AW.drawn0 (fun i=>([0,0,0,3,3,2,0]:List Nat).getD i 2) [] [0,1,2,3,4,5,6] mixed (by decide+kernel) ?_
 refine zq ?_;obtain⟨p1,hc,h⟩:=h
 refine Dp rfl rfl rfl rfl (qr rfl (by rw[<-hc];try rfl)) ?_
 refine zg underlying245 aft ?_;obtain⟨u2,hc,h⟩:=h
 refine Dr rfl rfl rfl rfl (qA rfl underlying243 rfl rfl hc) ?_
 obtain⟨u3,u4,hc,h⟩:=h
 refine Dr rfl rfl rfl rfl (xH rfl underlying81 rfl zX rfl hc) ?_
 refine Dg rfl rfl rfl rfl (jC rfl rfl rfl (qm _ h ?_))
 rintro v I ⟨u5,rfl,h⟩;refine zq ?_;refine wH ?_
 refine qd (z3 ?_);refine zp ?_;refine zm (ajQ rfl underlying305 rfl rfl) ?_;refine z2 ?_;refine AW.iff rfl (qu zt) h (fun h=>?_) (fun h=>?_)
 rotate_left
 .refine AW.skip ?_;refine qd (z3 ?_);refine zp ?_;refine z2 ?_;refine AW.ret ?_;exact bR1 results128 rfl ⟨_,rfl,h⟩
 refine z3 ?_;refine zp ?_;refine zN h fun p6 h=>?_;refine zf underlying310 agI ?_;refine zf underlying307 uQ ?_;refine zL underlying28 h fun u7 h=>?_;refine zc func185 h ?_;rintro v I ⟨u8,rfl,h⟩;refine zp ?_;refine z2 ?_;refine AW.ret ?_;refine qi ?_;exact bR1 results128 rfl ⟨_,rfl,h⟩
def pf(B:World)(ro:AH)(Q:Int->AH->Prop)(I:AH):=
 Q 0 I
def adp(B:World)(ro:AH)(a0:Option Addr)(a1_0:ByteArray)(a1_1 a2:Int)(I:AH)(Q:Int->AH->Prop):=
 nw ro I (.cells #[.string a1_0,.int .i64 a1_1] 81) fun u0 I=>
 ∃u1 u2,qg ro I ⟨u0,0,none⟩ 0 [.string u1,.int .i64 u2]/\
 aa2 B ro a0 u1 u2 I fun u3 u4 I=>
 if(a2<0)\/(u4<a2)then
 Q 161 I
 else
 ∃p5,a0=some p5/\
 ∃u6,qa ro I p5=some (.map u6)/\
 ∃u7 u8,qg ro I ⟨u0,0,none⟩ 0 [.string u7,.int .i64 u8]/\
 awp prog ro (Instr.lookup 243 (.map u6) (.agg #[.string u7,.int .i64 u8]) false) (fun v I=>
 (∃(u9:Option Addr),v= .pointer u9/\
  if¬(u9=none)then
  ∃p10,u9=some p10/\
  abz B ro (some p10) a2 I fun I=>
  pf B ro Q I
  else
  pf B ro Q I)) I
theorem ajv{a0:Option Addr}{a1_0:ByteArray}{a1_1 a2:Int}{Q:Int->AH->Prop}(h:Sep ro I->adp B ro a0 a1_0 a1_1 a2 I Q):ac7 B ro a0 a1_0 a1_1 a2 I Q:=by
 refine zb h func129 ntmps129 fun h=>?_;unfold adp at h;refine z3 ?_;refine zA (wI rfl rfl) h fun u0 h=>?_;refine zp ?_;refine z2 (AW.seq (z3 ?_))
 refine zp ?_;obtain⟨u1,u2,hc,h⟩:=h
 refine zl (wY rfl underlying81 rfl zX rfl hc ?_)
 refine zc func186 h ?_;rintro v I ⟨u3,u4,rfl,h⟩;iterate 5 refine zp ?_
 refine z4 ?_;iterate 3 refine zp ?_
 refine wW 4 (decide (a2<0)) [(0,.pointer a0),(2,.int .i64 a2),(4,.pointer (some ⟨u0,0,none⟩)),(22,.bool ((decide (a2<0)) || (decide (u4<a2))))] ?_ ?_ ?_
 .intro e2 hk2
  iterate 3 refine zn e2 ?_
  refine zk e2 ?_;exact hk2 _ (Fe e2)
 .intro e2 hk2
  refine zy e2 ?_;refine zy e2 ?_;refine zy e2 ?_;refine zk e2 ?_;exact hk2 _ (Fe e2)
 intro fr hl
 refine Lfr hl ?_
 refine z2 ?_;refine AW.iff rfl (zG decide_eq_true_iff decide_eq_true_iff) h (fun h=>?_) (fun h=>?_)
 .refine z3 ?_;refine zp ?_;refine z2 ?_;refine AW.ret ?_;refine qi ?_;exact bR1 results129 rfl ⟨_,rfl,h⟩
 refine AW.skip ?_;refine qd ?_;refine AW.seqJ (fun fr I=>qo [] fr/\pf B ro Q I) ?_ ?_
 .rintro fr I ⟨hl,h⟩;refine AW.weaken ?_ hl (HLe.refl _)
  unfold pf at h;refine z3 ?_;refine zp ?_;refine z2 ?_;refine AW.ret ?_;exact bR1 results129 rfl ⟨_,rfl,h⟩
 refine AW.seq ?_;refine AW.drawn0 (fun i=>([0,0,0,3,3,2,0]:List Nat).getD i 2) [] [0,1,2,3,4,5,6] mixed (by decide+kernel) ?_
 refine zq ?_;obtain⟨p5,hc,h⟩:=h
 refine Dp rfl rfl rfl rfl (qr rfl (by rw[<-hc];try rfl)) ?_
 refine zg underlying245 aft ?_;obtain⟨u6,hc,h⟩:=h
 refine Dr rfl rfl rfl rfl (qA rfl underlying243 rfl rfl hc) ?_
 obtain⟨u7,u8,hc,h⟩:=h
 refine Dr rfl rfl rfl rfl (xH rfl underlying81 rfl zX rfl hc) ?_
 refine Dg rfl rfl rfl rfl (jC rfl rfl rfl (qm _ h ?_))
 rintro v I ⟨u9,rfl,h⟩;refine zq ?_;refine wH ?_
 refine qd (z3 ?_);refine zp ?_;refine zm (ajQ rfl underlying305 rfl rfl) ?_;refine z2 ?_;refine AW.iff rfl (qu zt) h (fun h=>?_) (fun h=>?_)
 rotate_left
 .refine AW.skip ?_;refine qd ?_;exact⟨FL,h⟩
 refine AW.reg ?_;refine zp ?_;refine zN h fun p10 h=>?_;refine zf underlying310 agI ?_;refine zp ?_;refine zc func187 h ?_;rintro v I ⟨rfl,h⟩;refine z2 ?_;exact⟨FL,h⟩
def uu(B:World)(ro:AH)(Q:Int->AH->Prop)(u0:Int)(I:AH):=
 Q u0 I
def uv(B:World)(ro:AH)(a2:Int)(p0:Addr)(u1:Nat)(Q:Int->AH->Prop):Int->AH->(Int->AH->Prop)->Prop:=fun u2 I Y7=>
 awp prog ro (Instr.next (.pointer (some p0)) false 0) (fun v I=>
 (v= .tuple #[.bool false]/\
  uu B ro Q u2 I)\/
 (∃(u3:Value) (u4:Value),v= .tuple #[.bool true,u3,u4]/\
  awp prog ro (Instr.entry (.pointer (some p0))) (fun v I=>
  (∃(u5:Value) (u6:Option Addr),v= .tuple #[u5,.pointer u6]/\
   ∃p7,u6=some p7/\
   ∃u8,qa ro I (p7.add 3)=some (.map u8)/\
   ∃u9 u10,qg ro I ⟨u1,0,none⟩ 0 [.string u9,.int .i64 u10]/\
   awp prog ro (Instr.lookup 308 (.map u8) (.agg #[.string u9,.int .i64 u10]) false) (fun v I=>
   (∃(u11:Int),v= .int .i64 u11/\
    if 0<u11 then
    ∃p12,u6=some p12/\
    ∃u13,qa ro I (p12.add 3)=some (.map u13)/\
    ∃u14 u15,qg ro I ⟨u1,0,none⟩ 0 [.string u14,.int .i64 u15]/\
    awp prog ro (Builtin.delete_ #[308,314] 0 #[.map u13,.agg #[.string u14,.int .i64 u15]]) (fun v I=>v= .tuple #[]/\
     ∃p16,u6=some p16/\
     ∃u17,qa ro I ⟨u1,0,none⟩=some (.string u17)/\
     abB B ro (some p16) a2 u17 I fun I=>
     Y7 (i64.wrap (u2+1)) I) I
    else
    Y7 (u2) I)) I)) I)) I
def acK(B:World)(ro:AH)(a0:Option Addr)(a1_0:ByteArray)(a1_1 a2:Int)(I:AH)(Q:Int->AH->Prop):=
 nw ro I (.cells #[.string a1_0,.int .i64 a1_1] 314) fun u0 I=>
 ∃p1,a0=some p1/\
 ∃u2,qa ro I p1=some (.map u2)/\
 awp prog ro (Instr.range 243 (.map u2)) (fun v I=>
 (∃(p3:Addr),v= .pointer (some p3)/\
  lfpD (uv B ro a2 p3 u0 Q) (0) I)) I
theorem aiV{a0:Option Addr}{a1_0:ByteArray}{a1_1 a2:Int}{Q:Int->AH->Prop}(h:Sep ro I->acK B ro a0 a1_0 a1_1 a2 I Q):yU B ro a0 a1_0 a1_1 a2 I Q:=by
 refine zb h func181 ntmps181 fun h=>?_;unfold acK at h;refine z3 ?_;refine zA (wI rfl rfl) h fun u0 h=>?_;refine zp ?_;refine z4 ?_;refine zp ?_;refine z2 ?_;refine AW.seqJ (fun fr I=> ∃(u1:Int),qo [(7,.int .i64 u1)] fr/\uu B ro Q u1 I) ?_ ?_
 .rintro fr I ⟨u1,hl,h⟩;refine AW.weaken ?_ hl (HLe.refl _)
  unfold uu at h;refine z3 ?_;iterate 2 refine zp ?_
  refine z2 ?_;refine AW.ret ?_;exact bR1 results181 rfl ⟨_,rfl,h⟩
 refine z3 ?_;refine zp ?_;refine zN h fun p2 h=>?_;refine zf underlying245 aft ?_;refine zL underlying243 h fun u3 h=>?_;refine zl (alW rfl rfl (qm _ h ?_))
 rintro v I ⟨p4,rfl,h⟩;refine z2 (AW.block ?_)
 refine qk.loop (fr':=[(2,.int .i64 a2),(4,.pointer (some ⟨u0,0,none⟩)),(14,.pointer (some p4)),(7,.int .i64 0)]) ?_ FL
 refine h (fun u5 I=>qk _ _ _ _ _ _ [(2,.int .i64 a2),(4,.pointer (some ⟨u0,0,none⟩)),(14,.pointer (some p4)),(7,.int .i64 u5)] I) ?_
 rintro u5 I Y7 hY7 h
 show AW _ _ _ _ _ _ _ _
 unfold uv at h;refine z3 ?_;refine zl (alX rfl rfl rfl (qm _ h ?_))
 rintro v I (⟨rfl,h⟩ | ⟨u6,u7,rfl,h⟩)
 .refine zp ?_;refine z2 (AW.seq ?_)
  refine AW.no rfl ?_;refine AW.exit ?_;refine qH (qH ?_);refine wB ?_
  refine qd ?_;exact⟨_,FL,h⟩
 .refine zp ?_;refine z2 (AW.seq ?_)
  refine AW.yes rfl ?_;refine AW.skip ?_;refine qd (AW.block (z3 ?_));refine zl (an6 rfl rfl (qm _ h ?_))
  rintro v I ⟨u8,u9,rfl,h⟩;iterate 2 refine zp ?_
  refine z2 (AW.seq ?_)
  refine AW.drawn0 (fun i=>([0,0,0,3,3,2,0]:List Nat).getD i 2) [] [0,1,2,3,4,5,6] mixed (by decide+kernel) ?_
  refine zq ?_;obtain⟨p10,hc,h⟩:=h
  refine Dp rfl rfl rfl rfl (qr rfl (by rw[<-hc];try rfl)) ?_
  refine zg underlying310 aiv ?_;obtain⟨u11,hc,h⟩:=h
  refine Dr rfl rfl rfl rfl (qA rfl underlying308 rfl rfl hc) ?_
  obtain⟨u12,u13,hc,h⟩:=h
  refine Dr rfl rfl rfl rfl (xH rfl underlying314 rfl ac4 rfl hc) ?_
  refine Dg rfl rfl rfl rfl (jC rfl rfl rfl (qm _ h ?_))
  rintro v I ⟨u14,rfl,h⟩;refine zq ?_;refine wH ?_
  refine qd ?_;refine zi h (fun h=>?_) fun h=>?_
  rotate_left
  .refine AW.skip ?_;refine qD (qd ?_);refine qk.head (fr':=[(2,.int .i64 a2),(4,.pointer (some ⟨u0,0,none⟩)),(14,.pointer (some p4)),(7,.int .i64 u5)]) ?_ FL
   exact hY7 _ _ h
  refine AW.seq ?_;refine AW.drawn0 (fun i=>([0,0,0,3,3,2]:List Nat).getD i 2) [] [0,1,2,3,4,5] mixed (by decide+kernel) ?_
  refine zq ?_;obtain⟨p15,hc,h⟩:=h
  refine Dp rfl rfl rfl rfl (qr rfl (by rw[<-hc];try rfl)) ?_
  refine zg underlying310 aiv ?_;obtain⟨u16,hc,h⟩:=h
  refine Dr rfl rfl rfl rfl (qA rfl underlying308 rfl rfl hc) ?_
  obtain⟨u17,u18,hc,h⟩:=h
  refine Dr rfl rfl rfl rfl (xH rfl underlying314 rfl ac4 rfl hc) ?_
  refine Dg rfl rfl rfl rfl (je (s:=Builtin.delete_ #[308,314] 0 #[.map u16,.agg #[.string u17,.int .i64 u18]]) rfl rfl (fun _=>rfl) (qm _ h ?_))
  rintro v I ⟨rfl,h⟩;refine wH ?_
  refine qd (AW.seq ?_);refine AW.drawn0 (fun i=>([0,0,0,0,0,3,2]:List Nat).getD i 2) [] [0,1,2,3,4,5,6] mixed (by decide+kernel) ?_
  refine zq ?_;obtain⟨p19,hc,h⟩:=h
  refine Dp rfl rfl rfl rfl (qr rfl (by rw[<-hc];try rfl)) ?_
  refine zg underlying310 agI ?_;refine zq ?_;refine zg underlying314 ty9 ?_;obtain⟨u20,hc,h⟩:=h
  refine Dr rfl rfl rfl rfl (qA rfl underlying9 rfl rfl hc) ?_
  refine Dg rfl rfl rfl rfl (qF rfl func222 rfl rfl rfl (qc.mono h ?_))
  rintro v I ⟨rfl,h⟩;refine wH ?_
  refine qd (AW.reg ?_);iterate 3 refine zp ?_
  refine ju (qD (qd ?_));refine qk.head (fr':=[(2,.int .i64 a2),(4,.pointer (some ⟨u0,0,none⟩)),(14,.pointer (some p4)),(7,.int .i64 (i64.wrap (u5+1)))]) ?_ FL
  exact hY7 _ _ h
def abl(B:World)(ro:AH)(a0:Option Addr)(a1_0:ByteArray)(a1_1:Int)(I:AH)(Q:Int->Int->AH->Prop):=
 nw ro I (.cells #[.string a1_0,.int .i64 a1_1] 81) fun u0 I=>
 ∃p1,a0=some p1/\
 ∃u2,qa ro I p1=some (.map u2)/\
 ∃u3 u4,qg ro I ⟨u0,0,none⟩ 0 [.string u3,.int .i64 u4]/\
 awp prog ro (Instr.lookup 243 (.map u2) (.agg #[.string u3,.int .i64 u4]) false) (fun v I=>
 (∃(u5:Option Addr),v= .pointer u5/\
  if¬(u5=none)then
  ∃p6,u5=some p6/\
  ∃p7,u5=some p7/\
  ∃u8,qa ro I (p6.add 1)=some (.int .i64 u8)/\
  ∃u9,qa ro I (p7.add 2)=some (.int .i64 u9)/\
  Q u8 u9 I
  else
  Q 0 0 I)) I
theorem ahF{a0:Option Addr}{a1_0:ByteArray}{a1_1:Int}{Q:Int->Int->AH->Prop}(h:Sep ro I->abl B ro a0 a1_0 a1_1 I Q):aa2 B ro a0 a1_0 a1_1 I Q:=by
 refine zb h func186 ntmps186 fun h=>?_;unfold abl at h;refine z3 ?_;refine zA (wI rfl rfl) h fun u0 h=>?_;iterate 2 refine zp ?_
 refine z2 (AW.seq (AW.seq ?_))
 refine AW.drawn0 (fun i=>([0,0,0,3,3,2,0]:List Nat).getD i 2) [] [0,1,2,3,4,5,6] mixed (by decide+kernel) ?_
 refine zq ?_;obtain⟨p1,hc,h⟩:=h
 refine Dp rfl rfl rfl rfl (qr rfl (by rw[<-hc];try rfl)) ?_
 refine zg underlying245 aft ?_;obtain⟨u2,hc,h⟩:=h
 refine Dr rfl rfl rfl rfl (qA rfl underlying243 rfl rfl hc) ?_
 obtain⟨u3,u4,hc,h⟩:=h
 refine Dr rfl rfl rfl rfl (xH rfl underlying81 rfl zX rfl hc) ?_
 refine Dg rfl rfl rfl rfl (jC rfl rfl rfl (qm _ h ?_))
 rintro v I ⟨u5,rfl,h⟩;refine zq ?_;refine wH ?_
 refine qd (z3 ?_);refine zp ?_;refine zm (ajQ rfl underlying305 rfl rfl) ?_;refine z2 ?_;refine AW.iff rfl (qu zt) h (fun h=>?_) (fun h=>?_)
 rotate_left
 .refine AW.skip ?_;refine qd (z3 ?_);iterate 2 refine zp ?_
  refine z2 ?_;refine AW.ret ?_;exact bR2 results186 rfl rfl ⟨_,_,rfl,h⟩
 refine AW.seq ?_;refine AW.drawn0 (fun i=>([0,0,0,0,3,0,0,0,0,3,0,0]:List Nat).getD i 2) [] [0,1,2,3,5,6,7,8,4,10,9,11] mixed (by decide+kernel) ?_
 refine zq ?_;obtain⟨p6,hc,h⟩:=h
 refine Dp rfl rfl rfl rfl (qr rfl (by rw[<-hc];try rfl)) ?_
 refine zg underlying310 agI ?_;refine zg underlying307 ty3 ?_;refine zq ?_;obtain⟨p7,hc,h⟩:=h
 refine Dp rfl rfl rfl rfl (qr rfl (by rw[<-hc];try rfl)) ?_
 refine zg underlying310 agI ?_;refine zg underlying307 ty3 ?_;obtain⟨u8,hc,h⟩:=h
 refine Dr rfl rfl rfl rfl (qA rfl underlying3 rfl rfl hc) ?_
 refine zq ?_;obtain⟨u9,hc,h⟩:=h
 refine Dr rfl rfl rfl rfl (qA rfl underlying3 rfl rfl hc) ?_
 refine zq ?_;refine wH ?_
 refine qd ?_;refine AW.ret ?_;refine qi ?_;exact bR2 results186 rfl rfl ⟨_,_,rfl,h⟩
def abL(B:World)(ro:AH)(a0:Option Addr)(a1:Int)(I:AH)(Q:AH->Prop):=
 nw ro I (.cells #[.int .i64 a1] 3) fun u0 I=>
 ∃p1,a0=some p1/\
 ∃u2,qa ro I (p1.add 1)=some (.int .i64 u2)/\
 ∃u3,qa ro I ⟨u0,0,none⟩=some (.int .i64 u3)/\
 ∃p4,a0=some p4/\
 stN (p4.add 1) (fun I=>
 ∃p5,a0=some p5/\
 ∃u6,qa ro I p5=some (Sl.v u6)/\
 xA B ro u6 (.func (.func 233) #[] #[.pointer (some ⟨u0,0,none⟩)]) I fun u7 I=>
 ∃p8,a0=some p8/\
 stN p8 (fun I=>
  Q I) [Sl.v u7] 0 I) [.int .i64 (if u2<u3 then u3 else u2)] 0 I
theorem ain{a0:Option Addr}{a1:Int}{Q:AH->Prop}(h:Sep ro I->abL B ro a0 a1 I Q):abz B ro a0 a1 I Q:=by
 refine zb h func187 ntmps187 fun h=>?_;unfold abL at h;refine z3 ?_;refine zA (wI rfl rfl) h fun u0 h=>?_;refine z2 (AW.seq ?_)
 refine AW.drawn0 (fun i=>([0,0,0,0,3,3,0,0,0,2]:List Nat).getD i 2) [] [0,1,2,3,4,5,6,7,8,9] mixed (by decide+kernel) ?_
 iterate 2 refine zq ?_
 obtain⟨p1,hc,h⟩:=h
 refine Dp rfl rfl rfl rfl (qr rfl (by rw[<-hc];try rfl)) ?_
 refine zg underlying307 ty3 ?_;obtain⟨u2,hc,h⟩:=h
 refine Dr rfl rfl rfl rfl (qA rfl underlying3 rfl rfl hc) ?_
 obtain⟨u3,hc,h⟩:=h
 refine Dr rfl rfl rfl rfl (qA rfl underlying3 rfl rfl hc) ?_
 refine Dp rfl rfl rfl rfl (aoW rfl rfl) ?_
 obtain⟨p4,hc,h⟩:=h
 refine Dp rfl rfl rfl rfl (qr rfl (by rw[<-hc];try rfl)) ?_
 refine zg underlying307 ty3 ?_;refine Dg rfl rfl rfl rfl (yR rfl ty3 rfl rfl rfl rfl (zD h fun I h=>?_))
 refine wH ?_
 refine qd (AW.reg ?_);iterate 2 refine zp ?_
 refine zN h fun p5 h=>?_;refine zf underlying307 uQ ?_;refine zL underlying28 h fun u6 h=>?_;refine zm (an5 rfl rfl rfl) ?_;refine zc func232 h ?_;rintro v I ⟨u7,rfl,h⟩;refine zN h fun p8 h=>?_;refine zf underlying307 uQ ?_;refine zs uQ h fun I h=>?_;refine ju ?_;exact bN0 results187 ⟨rfl,h⟩
def yf(B:World)(ro:AH)(Q:Int->AH->Prop)(u0:Bool)(I:AH):=
 if u0=true then
 Q 82 I
 else
 Q 0 I
def xR(B:World)(ro:AH)(u0:Nat)(Q:Int->AH->Prop)(u1:Bool)(I:AH):=
 if u1=true then
 yf B ro Q true I
 else
 ∃u2,qa ro I ((⟨u0,0,none⟩:Addr).add 1)=some (.int .i64 u2)/\
 yf B ro Q (decide (4611686018427387903<u2)) I
def yg(B:World)(ro:AH)(u0:Nat)(Q:Int->AH->Prop)(u1:Bool)(I:AH):=
 if u1=true then
 xR B ro u0 Q true I
 else
 ∃u2,qa ro I ((⟨u0,0,none⟩:Addr).add 1)=some (.int .i64 u2)/\
 xR B ro u0 Q (decide (u2<1)) I
def jB(B:World)(ro:AH)(u0:Nat)(u1:ByteArray)(u2:Int)(Q:Int->AH->Prop)(u3:Bool)(I:AH):=
 if u3=true then
 Q 160 I
 else
 if¬(u2=0)then
 Q u2 I
 else
 ∃u4,qa ro I ⟨u0,0,none⟩=some (.string u4)/\
 if¬(u1=u4)then
 yg B ro u0 Q true I
 else
 ∃u5,qa ro I ⟨u0,0,none⟩=some (.string u5)/\
 yE B ro u5 I fun u6 I=>
 yg B ro u0 Q (!u6) I
def aex(B:World)(ro:AH)(a0_0:ByteArray)(a0_1:Int)(a1_0:ByteArray)(a1_1:Int)(I:AH)(Q:Int->AH->Prop):=
 nw ro I (.cells #[.string a0_0,.int .i64 a0_1] 81) fun u0 I=>
 nw ro I (.cells #[.string a1_0,.int .i64 a1_1] 314) fun u1 I=>
 ∃u2,qa ro I ⟨u1,0,none⟩=some (.string u2)/\
 yD B ro u2 I fun u3 u4 I=>
 ∃u5,qa ro I ((⟨u1,0,none⟩:Addr).add 1)=some (.int .i64 u5)/\
 if¬(u5=1)then
 ∃u6,qa ro I ((⟨u1,0,none⟩:Addr).add 1)=some (.int .i64 u6)/\
 jB B ro u0 u3 u4 Q (!(decide (u6=2))) I
 else
 jB B ro u0 u3 u4 Q false I
theorem akY{a0_0:ByteArray}{a0_1:Int}{a1_0:ByteArray}{a1_1:Int}{Q:Int->AH->Prop}(h:Sep ro I->aex B ro a0_0 a0_1 a1_0 a1_1 I Q):aej B ro a0_0 a0_1 a1_0 a1_1 I Q:=by
 refine zb h func221 ntmps221 fun h=>?_;unfold aex at h;refine z3 ?_;refine zA (wI rfl rfl) h fun u0 h=>?_;refine zA (wI rfl rfl) h fun u1 h=>?_;refine zp ?_;refine z4 ?_;refine zf underlying314 ty9 ?_;refine zL underlying9 h fun u2 h=>?_;refine zc func81 h ?_;rintro v I ⟨u3,u4,rfl,h⟩;iterate 5 refine zp ?_
 refine z2 (AW.seq (AW.block (z3 ?_)))
 refine zf underlying314 ty3 ?_;refine zL underlying3 h fun u5 h=>?_;iterate 2 refine zp ?_
 refine qO 4 (!(decide (u5=1))) (qu decide_eq_true_iff) h (fun fr I=> ∃(u6:Bool),qo [(2,.pointer (some ⟨u0,0,none⟩)),(5,.string u3),(6,.int .i64 u4),(21,.bool u6)] fr/\jB B ro u0 u3 u4 Q u6 I) ?_ ?_ ?_
 .intro h e3 hk3;refine qX (wm rfl underlying314 rfl ty3 (by decide) rfl) rfl rfl rfl rfl e3 ?_
  obtain⟨u7,hc,h⟩:=h
  refine Lyb rfl rfl rfl rfl e3 (vG rfl underlying3 rfl rfl hc ?_)
  refine zy e3 ?_;refine zk e3 ?_;exact hk3 _ _ ⟨_,FL,h⟩
 .intro h e3 hk3;iterate 3 refine zn e3 ?_
  refine zk e3 ?_;exact hk3 _ _ ⟨_,FL,h⟩
 rintro fr I ⟨u6,hl,h⟩;unfold jB at h;refine Lfr hl ?_
 refine zp ?_;refine z2 ?_;refine zj h (fun h=>?_) fun h=>?_
 .refine z3 ?_;refine zp ?_;refine z2 ?_;refine AW.ret ?_;refine qx (qi ?_);exact bR1 results221 rfl ⟨_,rfl,h⟩
 refine z3 ?_;iterate 3 refine zp ?_
 refine z2 ?_;refine AW.iff rfl (qu decide_eq_true_iff) h (fun h=>?_) (fun h=>?_)
 .refine z3 ?_;iterate 2 refine zp ?_
  refine z2 ?_;refine AW.ret ?_;refine qx (qi ?_);exact bR1 results221 rfl ⟨_,rfl,h⟩
 refine z3 ?_;refine zp ?_;refine zf underlying81 ty9 ?_;refine zL underlying9 h fun u8 h=>?_;refine zm (ajL rfl rfl rfl) ?_;refine zp ?_;refine qO 5 (!(decide (u3=u8))) (qu decide_eq_true_iff) h (fun fr I=> ∃(u9:Bool),qo [(2,.pointer (some ⟨u0,0,none⟩)),(36,.bool u9)] fr/\yg B ro u0 Q u9 I) ?_ ?_ ?_
 .intro h e4 hk4;iterate 4 refine zn e4 ?_
  refine zk e4 ?_;exact hk4 _ _ ⟨_,FL,h⟩
 .intro h e4 hk4;refine qX (wm rfl underlying81 rfl ty9 (by decide) rfl) rfl rfl rfl rfl e4 ?_
  obtain⟨u10,hc,h⟩:=h
  refine Lyb rfl rfl rfl rfl e4 (vG rfl underlying9 rfl rfl hc ?_)
  refine Lyb rfl rfl rfl rfl e4 (qF rfl func99 rfl rfl rfl (qc.mono h ?_))
  rintro v I ⟨u11,rfl,h⟩;refine zy e4 ?_;refine zk e4 ?_;exact hk4 _ _ ⟨_,FL,h⟩
 rintro fr I ⟨u9,hl,h⟩;unfold yg at h;refine Lfr hl ?_
 refine zp ?_;refine qO 4 u9 Iff.rfl h (fun fr I=> ∃(u12:Bool),qo [(2,.pointer (some ⟨u0,0,none⟩)),(41,.bool u12)] fr/\xR B ro u0 Q u12 I) ?_ ?_ ?_
 .intro h e10 hk10;iterate 3 refine zn e10 ?_
  refine zk e10 ?_;exact hk10 _ _ ⟨_,FL,h⟩
 .intro h e10 hk10;refine qX (wm rfl underlying81 rfl ty3 (by decide) rfl) rfl rfl rfl rfl e10 ?_
  obtain⟨u13,hc,h⟩:=h
  refine Lyb rfl rfl rfl rfl e10 (vG rfl underlying3 rfl rfl hc ?_)
  refine zy e10 ?_;refine zk e10 ?_;exact hk10 _ _ ⟨_,FL,h⟩
 rintro fr I ⟨u12,hl,h⟩;unfold xR at h;refine Lfr hl ?_
 refine zp ?_;refine qO 4 u12 Iff.rfl h (fun fr I=> ∃(u14:Bool),qo [(46,.bool u14)] fr/\yf B ro Q u14 I) ?_ ?_ ?_
 .intro h e15 hk15;iterate 3 refine zn e15 ?_
  refine zk e15 ?_;exact hk15 _ _ ⟨_,FL,h⟩
 .intro h e15 hk15;refine qX (wm rfl underlying81 rfl ty3 (by decide) rfl) rfl rfl rfl rfl e15 ?_
  obtain⟨u15,hc,h⟩:=h
  refine Lyb rfl rfl rfl rfl e15 (vG rfl underlying3 rfl rfl hc ?_)
  refine zy e15 ?_;refine zk e15 ?_;exact hk15 _ _ ⟨_,FL,h⟩
 rintro fr I ⟨u14,hl,h⟩;unfold yf at h;refine Lfr hl ?_
 refine zp ?_;refine z2 ?_;refine zj h (fun h=>?_) fun h=>?_
 .refine z3 ?_;refine zp ?_;refine z2 ?_;refine AW.ret ?_;refine qx (qi ?_);exact bR1 results221 rfl ⟨_,rfl,h⟩
 refine AW.skip ?_;refine qD (qd (z3 ?_));refine zp ?_;refine z2 ?_;refine AW.ret ?_;exact bR1 results221 rfl ⟨_,rfl,h⟩
def abM(B:World)(ro:AH)(a0:Option Addr)(a1:Int)(a2:ByteArray)(I:AH)(Q:AH->Prop):=
 ∃p0,a0=some p0/\
 ∃u1,qa ro I (p0.add 2)=some (.int .i64 u1)/\
 ∃p2,a0=some p2/\
 stN (p2.add 2) (fun I=>
 ∃p3,a0=some p3/\
 ∃p4,a0=some p4/\
 ∃u5,qa ro I p3=some (Sl.v u5)/\
 ∃u6,qa ro I (p4.add 2)=some (.int .i64 u6)/\
 nw ro I (.cells #[.int .i64 u6,.int .i64 a1,.string a2] 132) fun u7 I=>
 awp prog ro (Builtin.append_ #[28,28] 28 #[Sl.v u5,Sl.v (⟨some ⟨u7,0,none⟩,1,1⟩:Sl)]) (fun v I=> ∃(u8:Sl),v=Sl.v u8/\
  ∃p9,a0=some p9/\
  stN p9 (fun I=>
  Q I) [Sl.v u8] 0 I) I) [.int .i64 (i64.wrap (u1+1))] 0 I
theorem aio{a0:Option Addr}{a1:Int}{a2:ByteArray}{Q:AH->Prop}(h:Sep ro I->abM B ro a0 a1 a2 I Q):abB B ro a0 a1 a2 I Q:=by
 refine zb h func222 ntmps222 fun h=>?_;unfold abM at h;refine z3 ?_;refine zp ?_;refine zN h fun p0 h=>?_;refine zf underlying307 ty3 ?_;refine zL underlying3 h fun u1 h=>?_;refine zp ?_;refine zN h fun p2 h=>?_;refine zf underlying307 ty3 ?_;refine zs ty3 h fun I h=>?_;refine z2 ?_;refine AW.drawn0 (fun i=>([0,0,0,0,3,0,0,0,3,0,0,0,1,2,0,0,2]:List Nat).getD i 2) [(8,11),(8,12),(8,13)] [0,1,2,3,5,6,7,9,10,4,8,11,12,13,14,15,16] mixed (by decide+kernel) ?_
 iterate 2 refine zq ?_
 obtain⟨p3,hc,h⟩:=h
 refine Dp rfl rfl rfl rfl (qr rfl (by rw[<-hc];try rfl)) ?_
 refine zg underlying307 uQ ?_;refine zq ?_;obtain⟨p4,hc,h⟩:=h
 refine Dp rfl rfl rfl rfl (qr rfl (by rw[<-hc];try rfl)) ?_
 refine zg underlying307 ty3 ?_;iterate 2 refine zq ?_
 obtain⟨u5,hc,h⟩:=h
 refine Dr rfl rfl rfl rfl (qA rfl underlying28 rfl rfl hc) ?_
 obtain⟨u6,hc,h⟩:=h
 refine Dr rfl rfl rfl rfl (qA rfl underlying3 rfl rfl hc) ?_
 refine Dp rfl rfl rfl rfl (wz (vs:=[(0,.int .i64 u6),(1,.int .i64 a1),(2,.string a2)]) (cs:= #[.int .i64 u6,.int .i64 a1,.string a2]) rfl underlying132 jD arJ rfl rfl) ?_
 refine Da rfl rfl rfl rfl (zR (vs:=[(0,.agg #[.int .i64 u6,.int .i64 a1,.string a2])]) (cs:= #[.int .i64 u6,.int .i64 a1,.string a2]) rfl underlying28 jD (by decide) rfl rfl) fun u7 g1 g2=>?_
 replace h:=h u7 g1 g2
 refine Dg rfl rfl rfl rfl (je (s:=Builtin.append_ #[28,28] 28 #[Sl.v u5,Sl.v (⟨some ⟨u7,0,none⟩,1,1⟩:Sl)]) rfl rfl (fun _=>rfl) (qm _ h ?_))
 rintro v I ⟨u8,rfl,h⟩;obtain⟨p9,hc,h⟩:=h
 refine Dp rfl rfl rfl rfl (qr rfl (by rw[<-hc];try rfl)) ?_
 refine zg underlying307 uQ ?_;refine Dg rfl rfl rfl rfl (yR rfl uQ rfl rfl rfl rfl (zD h fun I h=>?_))
 refine wH ?_
 exact bN0 results222 ⟨rfl,h⟩
def aak(B:World)(ro:AH)(a0_0 a0_1:Int)(a0_2:ByteArray)(a1:Addr)(I:AH)(Q:Bool->AH->Prop):=
 nw ro I (.cells #[.int .i64 a0_0,.int .i64 a0_1,.string a0_2] 132) fun u0 I=>
 ∃u1,qa ro I ⟨u0,0,none⟩=some (.int .i64 u1)/\
 ∃u2,qa ro I a1=some (.int .i64 u2)/\
 Q (decide (u1<=u2)) I
theorem ags{a0_0 a0_1:Int}{a0_2:ByteArray}{a1:Addr}{Q:Bool->AH->Prop}(h:Sep ro I->aak B ro a0_0 a0_1 a0_2 a1 I Q):ac9 B ro a0_0 a0_1 a0_2 a1 I Q:=by
 refine zb h func233 ntmps233 fun h=>?_;unfold aak at h;refine z3 ?_;refine zA (wI rfl rfl) h fun u0 h=>?_;refine zp ?_;refine z4 ?_;refine zf underlying132 ty3 ?_;refine zL underlying3 h fun u1 h=>?_;refine zL underlying3 h fun u2 h=>?_;iterate 2 refine zp ?_
 refine z2 ?_;refine AW.ret ?_;exact bR1 results233 rfl ⟨_,rfl,h⟩
def ja(B:World)(ro:AH)(a0:Option Addr)(u0 u1:Nat)(u2:Option Addr)(Q:Int->AH->Prop)(u3:Bool)(I:AH):=
 if u3=true then
 Q 61 I
 else
 ∃p4,u2=some p4/\
 ∃u5,qa ro I (p4.add 3)=some (.map u5)/\
 ∃u6 u7,qg ro I ⟨u1,0,none⟩ 0 [.string u6,.int .i64 u7]/\
 awp prog ro (Instr.mapUpdate 308 (.map u5) (.agg #[.string u6,.int .i64 u7]) (.int .i64 1)) (fun _ I=>
 ∃p8,a0=some p8/\
 ∃u9,qa ro I p8=some (.map u9)/\
 ∃u10 u11,qg ro I ⟨u0,0,none⟩ 0 [.string u10,.int .i64 u11]/\
 awp prog ro (Instr.mapUpdate 243 (.map u9) (.agg #[.string u10,.int .i64 u11]) (.pointer u2)) (fun _ I=>
  Q 0 I) I) I
def jb(B:World)(ro:AH)(a0:Option Addr)(u0 u1:Nat)(Q:Int->AH->Prop)(u2:Option Addr)(I:AH):=
 yP I fun ψ I=>
 ∃p3,u2=some p3/\
 ∃u4,qa (join ro ψ) I (p3.add 3)=some (.map u4)/\
 ∃u5 u6,qg (join ro ψ) I ⟨u1,0,none⟩ 0 [.string u5,.int .i64 u6]/\
 awp prog (join ro ψ) (Instr.lookup 308 (.map u4) (.agg #[.string u5,.int .i64 u6]) false) (fun v I=>
  (∃(u7:Int),v= .int .i64 u7/\
  if u7=0 then
   ∃p8,u2=some p8/\
   ∃p9,u2=some p9/\
   ∃u10,qa (join ro ψ) (fun _=>none) p9=some (Sl.v u10)/\
   ∃u11,qa (join ro ψ) I (p8.add 3)=some (.map u11)/\
   awp prog (join ro ψ) (Builtin.len_ #[308] 3 #[.map u11]) (fun v I=> ∃(u12:Int),v= .int .i64 u12/\
   (qP ψ I->(fun I=>
    ja B ro a0 u0 u1 u2 Q (decide (32<=(i64.wrap (u12+(u10.len:Int))))) I) (join ψ I))) I
  else
  (qP ψ I->(fun I=>
   ja B ro a0 u0 u1 u2 Q false I) (join ψ I)))) I
def adq(B:World)(ro:AH)(a0:Option Addr)(a1_0:ByteArray)(a1_1 a2:Int)(a3:ByteArray)(I:AH)(Q:Int->AH->Prop):=
 nw ro I (.cells #[.string a1_0,.int .i64 a1_1] 81) fun u0 I=>
 nw ro I (.cells #[.string ByteArray.empty,.int .i64 0] 314) fun u1 I=>
 stN ⟨u1,0,none⟩ (fun I=>
 ∃u2 u3,qg ro I ⟨u0,0,none⟩ 0 [.string u2,.int .i64 u3]/\
 ∃u4 u5,qg ro I ⟨u1,0,none⟩ 0 [.string u4,.int .i64 u5]/\
 aej B ro u2 u3 u4 u5 I fun u6 I=>
 if¬(u6=0)then
  Q u6 I
 else
 ∃p7,a0=some p7/\
 ∃u8,qa ro I p7=some (.map u8)/\
 ∃u9 u10,qg ro I ⟨u0,0,none⟩ 0 [.string u9,.int .i64 u10]/\
 awp prog ro (Instr.lookup 243 (.map u8) (.agg #[.string u9,.int .i64 u10]) false) (fun v I=>
  (∃(u11:Option Addr),v= .pointer u11/\
  if u11=none then
   nw ro I (.map #[] 0) fun u12 I=>
   nw ro I (.cells #[Sl.v (⟨none,0,0⟩:Sl),.int .i64 0,.int .i64 0,.map (some u12)] 310) fun u13 I=>
   jb B ro a0 u0 u1 Q (some ⟨u13,0,none⟩) I
  else
  jb B ro a0 u0 u1 Q u11 I)) I) [.string a3,.int .i64 a2] 0 I
theorem ajw{a0:Option Addr}{a1_0:ByteArray}{a1_1 a2:Int}{a3:ByteArray}{Q:Int->AH->Prop}(h:Sep ro I->adq B ro a0 a1_0 a1_1 a2 a3 I Q):pP B ro a0 a1_0 a1_1 a2 a3 I Q:=by
 refine zb h func236 ntmps236 fun h=>?_;unfold adq at h;refine z3 ?_;refine zA (wI rfl rfl) h fun u0 h=>?_;refine zp ?_;refine z4 ?_;iterate 2 refine zp ?_
 refine zm (wz (vs:=[(0,.string a3),(1,.int .i64 a2)]) (cs:= #[.string a3,.int .i64 a2]) rfl underlying314 ac4 al2 rfl rfl) ?_;refine zA (qY rfl ac4) h fun u1 h=>?_;refine zs ac4 h fun I h=>?_;refine z2 (AW.seq (z3 ?_))
 obtain⟨u2,u3,hc,h⟩:=h
 refine zl (wY rfl underlying81 rfl zX rfl hc ?_)
 obtain⟨u4,u5,hc,h⟩:=h
 refine zl (wY rfl underlying314 rfl ac4 rfl hc ?_)
 refine zc func221 h ?_;rintro v I ⟨u6,rfl,h⟩;refine zp ?_;refine z4 ?_;iterate 2 refine zp ?_
 refine z2 ?_;refine AW.iff rfl (qu decide_eq_true_iff) h (fun h=>?_) (fun h=>?_)
 .refine z3 ?_;iterate 2 refine zp ?_
  refine z2 ?_;refine AW.ret ?_;refine qi ?_;exact bR1 results236 rfl ⟨_,rfl,h⟩
 refine AW.skip ?_;refine qd (AW.seq ?_);refine AW.drawn0 (fun i=>([0,0,0,3,3,2,0]:List Nat).getD i 2) [] [0,1,2,3,4,5,6] mixed (by decide+kernel) ?_
 refine zq ?_;obtain⟨p7,hc,h⟩:=h
 refine Dp rfl rfl rfl rfl (qr rfl (by rw[<-hc];try rfl)) ?_
 refine zg underlying245 aft ?_;obtain⟨u8,hc,h⟩:=h
 refine Dr rfl rfl rfl rfl (qA rfl underlying243 rfl rfl hc) ?_
 obtain⟨u9,u10,hc,h⟩:=h
 refine Dr rfl rfl rfl rfl (xH rfl underlying81 rfl zX rfl hc) ?_
 refine Dg rfl rfl rfl rfl (jC rfl rfl rfl (qm _ h ?_))
 rintro v I ⟨u11,rfl,h⟩;refine zq ?_;refine wH ?_
 refine qd ?_;refine AW.seqJ (fun fr I=> ∃(u12:Option Addr),qo [(0,.pointer a0),(5,.pointer (some ⟨u0,0,none⟩)),(9,.pointer (some ⟨u1,0,none⟩)),(11,.pointer u12)] fr/\jb B ro a0 u0 u1 Q u12 I) ?_ ?_
 rotate_left
 .refine z3 ?_;refine zp ?_;refine zm (adK rfl underlying305 rfl rfl) ?_;refine z2 ?_;refine AW.iff rfl zt h (fun h=>?_) (fun h=>?_)
  rotate_left
  .refine AW.skip ?_;refine qd ?_;exact⟨_,FL,h⟩
  refine AW.reg ?_;refine zA (af3 rfl) h fun u13 h=>?_;refine zm (wz (vs:=[(1,.map (some u13))]) (cs:= #[Sl.v (⟨none,0,0⟩:Sl),.int .i64 0,.int .i64 0,.map (some u13)]) rfl underlying310 atB atM rfl rfl) ?_;refine zA (wI rfl rfl) h fun u14 h=>?_;refine zp ?_;refine z2 ?_;exact⟨_,FL,h⟩
 rintro fr I ⟨u12,hl,h⟩;refine AW.weaken ?_ hl (HLe.refl _)
 unfold jb at h;refine AW.seq ?_;refine AW.seqJ (fun fr I=> ∃(u15:Bool),qo [(0,.pointer a0),(5,.pointer (some ⟨u0,0,none⟩)),(9,.pointer (some ⟨u1,0,none⟩)),(11,.pointer u12),(53,.bool u15)] fr/\ja B ro a0 u0 u1 u12 Q u15 I) ?_ ?_
 .rintro fr I ⟨u15,hl,h⟩;refine AW.weaken ?_ hl (HLe.refl _)
  unfold ja at h;refine zj h (fun h=>?_) fun h=>?_
  .refine z3 ?_;refine zp ?_;refine z2 ?_;refine AW.ret ?_;refine qi ?_;exact bR1 results236 rfl ⟨_,rfl,h⟩
  refine AW.skip ?_;refine qd (AW.seq ?_);refine AW.drawn0 (fun i=>([0,0,0,3,3,2]:List Nat).getD i 2) [] [0,1,2,3,4,5] mixed (by decide+kernel) ?_
  refine zq ?_;obtain⟨p16,hc,h⟩:=h
  refine Dp rfl rfl rfl rfl (qr rfl (by rw[<-hc];try rfl)) ?_
  refine zg underlying310 aiv ?_;obtain⟨u17,hc,h⟩:=h
  refine Dr rfl rfl rfl rfl (qA rfl underlying308 rfl rfl hc) ?_
  obtain⟨u18,u19,hc,h⟩:=h
  refine Dr rfl rfl rfl rfl (xH rfl underlying314 rfl ac4 rfl hc) ?_
  refine Dg rfl rfl rfl rfl (afq (.inl rfl) rfl rfl rfl (qm _ h ?_))
  rintro _ I h
  refine wH ?_
  refine qd (AW.seq ?_);refine AW.drawn0 (fun i=>([0,0,0,3,3,0,2]:List Nat).getD i 2) [] [0,1,2,5,3,4,6] mixed (by decide+kernel) ?_
  refine zq ?_;obtain⟨p20,hc,h⟩:=h
  refine Dp rfl rfl rfl rfl (qr rfl (by rw[<-hc];try rfl)) ?_
  refine zg underlying245 aft ?_;refine zq ?_;obtain⟨u21,hc,h⟩:=h
  refine Dr rfl rfl rfl rfl (qA rfl underlying243 rfl rfl hc) ?_
  obtain⟨u22,u23,hc,h⟩:=h
  refine Dr rfl rfl rfl rfl (xH rfl underlying81 rfl zX rfl hc) ?_
  refine Dg rfl rfl rfl rfl (afq (.inl rfl) rfl rfl rfl (qm _ h ?_))
  rintro _ I h
  refine wH ?_
  refine qd (z3 ?_);refine zp ?_;refine z2 ?_;refine AW.ret ?_;exact bR1 results236 rfl ⟨_,rfl,h⟩
 refine AW.drawnL (fun i=>([0,0,0,3,3,2,0,0,0,0,0,3,2,0,0,0,0,0,0,0,0,0]:List Nat).getD i 2) [(3,5),(3,6),(3,7),(3,8),(3,9),(3,10),(3,11),(3,12),(4,5),(4,6),(4,7),(4,8),(4,9),(4,10),(4,11),(4,12),(5,6),(5,7),(5,8),(5,9),(5,10),(5,11),(5,12)] [0,1,2,3,4,5,6,7,8,9,10,13,14,15,16,17,18,11,12,19,20,21] mixed h (by decide+kernel) ?_
 clear h
 intro ψ I h
 refine zq ?_;obtain⟨p24,hc,h⟩:=h
 refine Dp rfl rfl rfl rfl (qr rfl (by rw[<-hc];try rfl)) ?_
 refine zg underlying310 aiv ?_;obtain⟨u25,hc,h⟩:=h
 refine Dr rfl rfl rfl rfl (qA rfl underlying308 rfl rfl hc) ?_
 obtain⟨u26,u27,hc,h⟩:=h
 refine Dr rfl rfl rfl rfl (xH rfl underlying314 rfl ac4 rfl hc) ?_
 refine Dg rfl rfl rfl rfl (jC rfl rfl rfl (qm _ h ?_))
 rintro v I ⟨u28,rfl,h⟩;iterate 2 refine zq ?_
 refine aeU (decide (u28=0)) decide_eq_true_iff h ?_ ?_
 rotate_left
 .intro h e7
  refine Dpn rfl rfl rfl rfl rfl (.inl (by rw[e7];try rfl)) rfl ?_
  refine Dpn rfl rfl rfl rfl rfl (.inl (by rw[e7];try rfl)) rfl ?_
  refine Dpn rfl rfl rfl rfl rfl (.inl (by rw[e7];try rfl)) rfl ?_
  refine Dpn rfl rfl rfl rfl rfl (.inl (by rw[e7];try rfl)) rfl ?_
  refine Dpn rfl rfl rfl rfl rfl (.inl (by rw[e7];try rfl)) rfl ?_
  refine Dpn rfl rfl rfl rfl rfl (.inl (by rw[e7];try rfl)) rfl ?_
  refine Dpn rfl rfl rfl rfl rfl (.inl (by rw[e7];try rfl)) rfl ?_
  refine Dpn rfl rfl rfl rfl rfl (.inl (by rw[e7];try rfl)) rfl ?_
  refine Dpn rfl rfl rfl rfl rfl (.inl (by rw[e7];try rfl)) rfl ?_
  refine Drn rfl rfl rfl rfl rfl (.inl (by rw[e7];try rfl)) rfl ?_
  refine Dgn rfl rfl rfl rfl rfl (.inl (by rw[e7];try rfl)) rfl ?_
  refine Dpn rfl rfl rfl rfl rfl (.inl (by rw[e7];try rfl)) rfl ?_
  refine Dpn rfl rfl rfl rfl rfl (.inl (by rw[e7];try rfl)) rfl ?_
  refine Dp rfl rfl rfl rfl (pF rfl (evb e7) rfl) ?_
  refine⟨_,zr.refl _,fun hdj=>?_⟩
  replace h:=h hdj
  refine qd ?_;exact⟨_,FL,h⟩
 intro h e7
 refine Dpy rfl rfl rfl rfl rfl e7 rfl (jl rfl rfl) ?_
 obtain⟨p29,hc,h⟩:=h
 refine Dpy rfl rfl rfl rfl rfl e7 rfl (qr rfl (by rw[<-hc];try rfl)) ?_
 refine Dpy rfl rfl rfl rfl rfl e7 rfl (wm rfl underlying310 rfl aiv (by decide) rfl) ?_
 refine Dpy rfl rfl rfl rfl rfl e7 rfl (jl rfl rfl) ?_
 obtain⟨p30,hc,h⟩:=h
 refine Dpy rfl rfl rfl rfl rfl e7 rfl (qr rfl (by rw[<-hc];try rfl)) ?_
 refine Dpy rfl rfl rfl rfl rfl e7 rfl (wm rfl underlying310 rfl agI (by decide) rfl) ?_
 refine Dpy rfl rfl rfl rfl rfl e7 rfl (wm rfl underlying307 rfl uQ (by decide) rfl) ?_
 obtain⟨u31,hc,h⟩:=h
 refine Dpy rfl rfl rfl rfl rfl e7 rfl (yQ rfl underlying28 rfl rfl hc) ?_
 refine Dpy rfl rfl rfl rfl rfl e7 rfl (qT rfl rfl underlying28 rfl rfl) ?_
 obtain⟨u32,hc,h⟩:=h
 refine Dry rfl rfl rfl rfl rfl e7 rfl (qA rfl underlying308 rfl rfl hc) ?_
 refine Dgy rfl rfl rfl rfl rfl e7 rfl (je (s:=Builtin.len_ #[308] 3 #[.map u32]) rfl rfl (fun _=>rfl) (qm _ h ?_))
 rintro v I ⟨u33,rfl,h⟩;refine Dpy rfl rfl rfl rfl rfl e7 rfl (alR rfl rfl rfl) ?_
 refine Dpy rfl rfl rfl rfl rfl e7 rfl (alQ rfl rfl rfl) ?_
 refine Dp rfl rfl rfl rfl (yH rfl (evb e7) rfl) ?_
 refine⟨_,zr.refl _,fun hdj=>?_⟩
 replace h:=h hdj
 refine qd ?_;exact⟨_,FL,h⟩