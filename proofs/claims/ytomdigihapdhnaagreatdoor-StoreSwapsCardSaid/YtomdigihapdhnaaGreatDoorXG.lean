import Derived.Test.YtomdigihapdhnaaGreatDoorXF
set_option linter.all false
set_option maxRecDepth 99999
set_option maxHeartbeats 0
open Go.IntKind(i64)
open Go.Proofs.Tryz
namespace Go.Proofs.YtomdigihapdhnaaGreatDoor
namespace G
open Go SL
variable{B:World}{ro I:AH}
variable{a1:ByteArray}{a2 a3:Int}{a0:Option Addr}{Q:Option Addr->Int->AH->Prop}
def acv(B:World)(ro:AH)(a0:Option Addr)(a1:ByteArray)(I:AH)(Q:Sl->Int->Int->Int->Int->Int->AH->Prop):=
 nw ro I (.cells #[.int .i64 0,.int .i64 0,.int .i64 0,.int .i64 0] 26) fun u0 I=>
 yp B ro a0 a1 I fun u1 u2 I=>
 if¬(u2=0)then
 stN ⟨u0,0,none⟩ (fun I=>
  ∃u3 u4 u5 u6,qg ro I ⟨u0,0,none⟩ 0 [.int .i64 u3,.int .i64 u4,.int .i64 u5,.int .i64 u6]/\
  Q (⟨none,0,0⟩:Sl) u3 u4 u5 u6 u2 I) [.int .i64 0,.int .i64 0,.int .i64 0,.int .i64 0] 0 I
 else
 yP I fun ψ I=>
 ∃p7,u1=some p7/\
 ∃p8,u1=some p8/\
 ∃u9 u10 u11 u12,qg (join ro ψ) (fun _=>none) p8 0 [.int .i64 u9,.int .i64 u10,.int .i64 u11,.int .i64 u12]/\
 ∃u13,qa (join ro ψ) I (p7.add 4)=some (Sl.v u13)/\
 kn B (join ro ψ) u13 I fun u14 I=>
 stN ⟨u0,0,none⟩ (fun I=>
  (qP ψ I->(fun I=>
  ∃u15 u16 u17 u18,qg ro I ⟨u0,0,none⟩ 0 [.int .i64 u15,.int .i64 u16,.int .i64 u17,.int .i64 u18]/\
  Q u14 u15 u16 u17 u18 0 I) (join ψ I))) [.int .i64 u9,.int .i64 u10,.int .i64 u11,.int .i64 u12] 0 I
theorem aiK{Q:Sl->Int->Int->Int->Int->Int->AH->Prop}(h:Sep ro I->acv B ro a0 a1 I Q):xj B ro a0 a1 I Q:=by
 refine zb h func25 ntmps25 fun h=>?_;unfold acv at h;refine z3 ?_;refine zp ?_;refine zA (qY rfl wA) h fun u0 h=>?_;refine zp ?_;refine z4 ?_;iterate 2 refine zp ?_
 refine zc func79 h ?_;rintro v I ⟨u1,u2,rfl,h⟩;iterate 5 refine zp ?_
 refine z2 (AW.seq (z3 ?_))
 iterate 2 refine zp ?_
 refine z2 ?_;refine AW.iff rfl (qu decide_eq_true_iff) h (fun h=>?_) (fun h=>?_)
 .refine z3 ?_;refine zm (wz (vs:=[]) (cs:= #[.int .i64 0,.int .i64 0,.int .i64 0,.int .i64 0]) rfl underlying26 wA aqj rfl rfl) ?_;iterate 2 refine zp ?_
  refine zs wA h fun I h=>?_;refine zp ?_;refine z2 ?_;refine AW.ret ?_;refine qi ?_;obtain⟨u3,u4,u5,u6,hc1,h⟩:=h
  exact bRM results25 (wC (afF rfl) (wC (vV rfl underlying26 rfl wA hc1) (wC (afF rfl) vT))) ⟨_,_,_,_,_,_,rfl,h⟩
 refine AW.skip ?_;refine qd (AW.seq ?_);refine AW.drawnL (fun i=>([0,0,0,3,2,0,0,0,0,0,2,0]:List Nat).getD i 2) [] [0,1,2,5,6,7,8,3,4,9,10,11] mixed h (by decide+kernel) ?_
 clear h
 intro ψ I h
 refine zq ?_;obtain⟨p7,hc,h⟩:=h
 refine Dp rfl rfl rfl rfl (qr rfl (by rw[<-hc];try rfl)) ?_
 refine zg underlying168 wO ?_;refine zq ?_;obtain⟨p8,hc,h⟩:=h
 refine Dp rfl rfl rfl rfl (qr rfl (by rw[<-hc];try rfl)) ?_
 refine zg underlying168 wA ?_;obtain⟨u9,u10,u11,u12,hc,h⟩:=h
 refine Dp rfl rfl rfl rfl (atr rfl underlying26 rfl wA rfl hc) ?_
 obtain⟨u13,hc,h⟩:=h
 refine Dr rfl rfl rfl rfl (qA rfl underlying24 rfl rfl hc) ?_
 refine Dg rfl rfl rfl rfl (qF rfl func80 rfl rfl rfl (qc.mono h ?_))
 rintro v I ⟨u14,rfl,h⟩;refine zq ?_;refine Dg rfl rfl rfl rfl (yR rfl wA rfl rfl rfl rfl (zD h fun I h=>?_))
 refine zq ?_;refine⟨_,zr.refl _,fun hdj=>?_⟩
 replace h:=h hdj
 refine qd ?_;refine AW.ret ?_;obtain⟨u15,u16,u17,u18,hc1,h⟩:=h
 exact bRM results25 (wC (afF rfl) (wC (vV rfl underlying26 rfl wA hc1) (wC (afF rfl) vT))) ⟨_,_,_,_,_,_,rfl,h⟩
def aa5(B:World)(ro:AH)(a0:Option Addr)(a1:ByteArray)(I:AH)(Q:Sl->Int->AH->Prop):=
 nw ro I (.cells #[.string a1] 9) fun u0 I=>
 ∃u1,qa ro I ⟨u0,0,none⟩=some (.string u1)/\
 vo B ro u1 I fun u2 I=>
 if¬(u2=0)then
 Q (⟨none,0,0⟩:Sl) u2 I
 else
 xo B ro a0 I fun u3 I=>
 xc B ro u3 (.func (.func 85) #[] #[.pointer (some ⟨u0,0,none⟩)]) I fun u4 I=>
 Q u4 0 I
theorem ahu{Q:Sl->Int->AH->Prop}(h:Sep ro I->aa5 B ro a0 a1 I Q):aa0 B ro a0 a1 I Q:=by
 refine zb h func27 ntmps27 fun h=>?_;unfold aa5 at h;refine z3 ?_;refine zA (wI rfl rfl) h fun u0 h=>?_;iterate 2 refine zp ?_
 refine z2 (AW.seq (z3 ?_))
 refine zL underlying9 h fun u1 h=>?_;refine zc func82 h ?_;rintro v I ⟨u2,rfl,h⟩;refine zp ?_;refine z4 ?_;iterate 2 refine zp ?_
 refine z2 ?_;refine AW.iff rfl (qu decide_eq_true_iff) h (fun h=>?_) (fun h=>?_)
 .refine z3 ?_;iterate 3 refine zp ?_
  refine z2 ?_;refine AW.ret ?_;refine qi ?_;exact bR2 results27 rfl rfl ⟨_,_,rfl,h⟩
 refine AW.skip ?_;refine qd (z3 ?_);refine zp ?_;refine zc func84 h ?_;rintro v I ⟨u3,rfl,h⟩;refine zm (an5 rfl rfl rfl) ?_;refine zc func83 h ?_;rintro v I ⟨u4,rfl,h⟩;iterate 2 refine zp ?_
 refine z2 ?_;refine AW.ret ?_;exact bR2 results27 rfl rfl ⟨_,_,rfl,h⟩
def afP(B:World)(ro I:AH)(Q:Option Addr->AH->Prop):Prop:=
 nw ro I (.map #[] 0) fun u0 I=>
 nw ro I (.cells #[.int .i64 0,.int .i64 0,.int .i64 0,.int .i64 0,Sl.v (⟨none,0,0⟩:Sl)] 168) fun u1 I=>
 awp prog ro (Instr.mapUpdate 237 (.map (some u0)) (.string (⟨#[47]⟩:ByteArray)) (.pointer (some ⟨u1,0,none⟩))) (fun _ I=>
 nw ro I (.cells #[.map (some u0)] 239) fun u2 I=>
 Q (some ⟨u2,0,none⟩) I) I
theorem amk{Q:Option Addr->AH->Prop}(h:Sep ro I->afP B ro I Q):afJ B ro I Q:=by
 refine zb h func66 ntmps66 fun h=>?_;unfold afP at h;refine z3 ?_;refine zp ?_;refine z4 ?_;refine zA (af3 rfl) h fun u0 h=>?_;refine zm (wz (vs:=[]) (cs:= #[.int .i64 0,.int .i64 0,.int .i64 0,.int .i64 0,Sl.v (⟨none,0,0⟩:Sl)]) rfl underlying168 aoa aob rfl rfl) ?_;refine zA (wI rfl rfl) h fun u1 h=>?_;refine zl (afq (.inr rfl) rfl rfl rfl (qm _ h ?_))
 rintro _ I h
 refine zp ?_;refine zm (wz (vs:=[(0,.map (some u0))]) (cs:= #[.map (some u0)]) rfl underlying239 al1 arK rfl rfl) ?_;refine zA (wI rfl rfl) h fun u2 h=>?_;refine zp ?_;refine z2 ?_;refine AW.ret ?_;exact bR1 results66 rfl ⟨_,rfl,h⟩
def aaN(B:World)(ro:AH)(u0:Nat)(Q:Option Addr->Int->AH->Prop)(I:AH):=
 Q (some ⟨u0,0,none⟩) 0 I
def aaO(B:World)(ro:AH)(p0:Addr)(u1:Nat)(Q:Option Addr->Int->AH->Prop):(Unit)->AH->((Unit)->AH->Prop)->Prop:=fun _ I Y7=>
 awp prog ro (Instr.next (.pointer (some p0)) false 0) (fun v I=>
 (v= .tuple #[.bool false]/\
  aaN B ro u1 Q I)\/
 (∃(u2:Value) (u3:Value),v= .tuple #[.bool true,u2,u3]/\
  awp prog ro (Instr.entry (.pointer (some p0))) (fun v I=>
  (∃(u4:Value) (u5:Option Addr),v= .tuple #[u4,.pointer u5]/\
   ∃p6,u5=some p6/\
   ∃p7,u5=some p7/\
   ∃u8,qa ro I (p6.add 1)=some (.int .i64 u8)/\
   ∃u9,qa ro I (p7.add 3)=some (.int .i64 u9)/\
   if u8<u9 then
   Q none 13 I
   else
   Y7 () I)) I)) I
def pT(B:World)(ro:AH)(u0:Nat)(Q:Option Addr->Int->AH->Prop)(I:AH):=
 ∃u1,qa ro I ⟨u0,0,none⟩=some (.map u1)/\
 awp prog ro (Instr.range 237 (.map u1)) (fun v I=>
 (∃(p2:Addr),v= .pointer (some p2)/\
  lfpD (aaO B ro p2 u0 Q) () I)) I
def xl(B:World)(ro:AH)(u0:Nat)(u1:Option Addr)(u2:ByteArray)(Q:Option Addr->Int->AH->Prop)(Y17:(ByteArray)->AH->Prop)(u3:Bool)(I:AH):=
 if u3=true then
 Q none 13 I
 else
 Y17 (u2) I
def uX(B:World)(ro:AH)(u0:Nat)(u1:Option Addr)(Q:Option Addr->Int->AH->Prop):(ByteArray)->AH->((ByteArray)->AH->Prop)->Prop:=fun u2 I Y17=>
 pM B ro u1 I fun u3 I=>
 if(0<u3)\/(u2=(⟨#[]⟩:ByteArray))then
 xn B ro u1 I fun u4 I=>
 jM B ro u1 I fun u5 I=>
 nw ro I (.cells #[.int .i64 0,.int .i64 0,.int .i64 0,.int .i64 0,Sl.v u5] 168) fun u6 I=>
 qN B ro u1 I fun u7 I=>
 qN B ro u1 I fun u8 I=>
 qN B ro u1 I fun u9 I=>
 stN ⟨u6,0,none⟩ (fun I=>
  stN ((⟨u6,0,none⟩:Addr).add 1) (fun I=>
  stN ((⟨u6,0,none⟩:Addr).add 2) (fun I=>
   ur B ro u1 I fun u10 I=>
   if¬(u10=0)then
   xl B ro u0 u1 u4 Q Y17 true I
   else
   acq B ro (some ⟨u0,0,none⟩) u4 u2 (some ⟨u6,0,none⟩) I fun u11 I=>
   xl B ro u0 u1 u4 Q Y17 (!u11) I) [.int .i64 u9] 0 I) [.int .i64 u8] 0 I) [.int .i64 u7] 0 I
 else
 pT B ro u0 Q I
def adz(B:World)(ro:AH)(a0:Sl)(I:AH)(Q:Option Addr->Int->AH->Prop):=
 nw ro I (.map #[] 0) fun u0 I=>
 nw ro I (.cells #[.map (some u0)] 239) fun u1 I=>
 uS B ro a0 I fun u2 I=>
 lfpD (uX B ro u1 u2 Q) ((⟨#[]⟩:ByteArray)) I
theorem ajX{a0:Sl}(h:Sep ro I->adz B ro a0 I Q):abr B ro a0 I Q:=by
 refine zb h func77 ntmps77 fun h=>?_;unfold adz at h;refine z3 ?_;iterate 2 refine zp ?_
 refine z4 ?_;refine zA (af3 rfl) h fun u0 h=>?_;refine zm (wz (vs:=[(0,.map (some u0))]) (cs:= #[.map (some u0)]) rfl underlying239 al1 arK rfl rfl) ?_;refine zA (wI rfl rfl) h fun u1 h=>?_;refine zp ?_;refine z4 ?_;refine zp ?_;refine z2 ?_;refine AW.seqJ (fun fr I=>qo [(4,.pointer (some ⟨u1,0,none⟩))] fr/\pT B ro u1 Q I) ?_ ?_
 .rintro fr I ⟨hl,h⟩;refine AW.weaken ?_ hl (HLe.refl _)
  unfold pT at h;refine AW.seqJ (fun fr I=>qo [(4,.pointer (some ⟨u1,0,none⟩))] fr/\aaN B ro u1 Q I) ?_ ?_
  .rintro fr I ⟨hl,h⟩;refine AW.weaken ?_ hl (HLe.refl _)
   unfold aaN at h;refine z3 ?_;iterate 3 refine zp ?_
   refine z2 ?_;refine AW.ret ?_;exact bR2 results77 rfl rfl ⟨_,_,rfl,h⟩
  refine z3 ?_;refine zp ?_;refine zm (qr rfl rfl) ?_;refine zf underlying239 aaM ?_;refine zL underlying237 h fun u2 h=>?_;refine zl (alW rfl rfl (qm _ h ?_))
  rintro v I ⟨p3,rfl,h⟩;refine z2 (AW.block ?_)
  refine qk.loop (fr':=[(4,.pointer (some ⟨u1,0,none⟩)),(63,.pointer (some p3))]) ?_ FL
  refine h (fun _ I=>qk _ _ _ _ _ _ [(4,.pointer (some ⟨u1,0,none⟩)),(63,.pointer (some p3))] I) ?_
  rintro _ I Y7 hY7 h
  show AW _ _ _ _ _ _ _ _
  unfold aaO at h;refine z3 ?_;refine zl (alX rfl rfl rfl (qm _ h ?_))
  rintro v I (⟨rfl,h⟩ | ⟨u4,u5,rfl,h⟩)
  .refine zp ?_;refine z2 (AW.seq ?_)
   refine AW.no rfl ?_;refine AW.exit ?_;refine qH (qH ?_);refine wB ?_
   refine qd ?_;exact⟨FL,h⟩
  .refine zp ?_;refine z2 (AW.seq ?_)
   refine AW.yes rfl ?_;refine AW.skip ?_;refine qd (AW.block (z3 ?_));refine zl (an6 rfl rfl (qm _ h ?_))
   rintro v I ⟨u6,u7,rfl,h⟩;iterate 2 refine zp ?_
   refine z2 (AW.seq ?_)
   refine AW.drawn0 (fun i=>([0,0,0,0,3,0,0,0,0,3,0]:List Nat).getD i 2) [] [0,1,2,3,5,6,7,8,4,9,10] mixed (by decide+kernel) ?_
   refine zq ?_;obtain⟨p8,hc,h⟩:=h
   refine Dp rfl rfl rfl rfl (qr rfl (by rw[<-hc];try rfl)) ?_
   refine zg underlying168 wA ?_;refine zg underlying26 ty3 ?_;refine zq ?_;obtain⟨p9,hc,h⟩:=h
   refine Dp rfl rfl rfl rfl (qr rfl (by rw[<-hc];try rfl)) ?_
   refine zg underlying168 wA ?_;refine zg underlying26 ty3 ?_;obtain⟨u10,hc,h⟩:=h
   refine Dr rfl rfl rfl rfl (qA rfl underlying3 rfl rfl hc) ?_
   obtain⟨u11,hc,h⟩:=h
   refine Dr rfl rfl rfl rfl (qA rfl underlying3 rfl rfl hc) ?_
   refine zq ?_;refine wH ?_
   refine qd ?_;refine zi h (fun h=>?_) fun h=>?_
   rotate_left
   .refine AW.skip ?_;refine qD (qd ?_);refine qk.head (fr':=[(4,.pointer (some ⟨u1,0,none⟩)),(63,.pointer (some p3))]) ?_ FL
    exact hY7 _ _ h
   refine z3 ?_;iterate 2 refine zp ?_
   refine z2 ?_;refine AW.ret ?_;refine qx (qi (qx (qi ?_)));exact bR2 results77 rfl rfl ⟨_,_,rfl,h⟩
 refine z3 ?_;refine zp ?_;refine zc func53 h ?_;rintro v I ⟨u12,rfl,h⟩;refine zp ?_;refine z2 (AW.block ?_)
 refine qk.loop (fr':=[(4,.pointer (some ⟨u1,0,none⟩)),(6,.pointer u12),(5,.string (⟨#[]⟩:ByteArray))]) ?_ FL
 refine h (fun u13 I=>qk _ _ _ _ _ _ [(4,.pointer (some ⟨u1,0,none⟩)),(6,.pointer u12),(5,.string u13)] I) ?_
 rintro u13 I Y17 hY17 h
 show AW _ _ _ _ _ _ _ _
 unfold uX at h;refine AW.seq (z3 ?_);refine zp ?_;refine zc func58 h ?_;rintro v I ⟨u14,rfl,h⟩;iterate 2 refine zp ?_
 refine wW 3 (decide (0<u14)) [(4,.pointer (some ⟨u1,0,none⟩)),(5,.string u13),(6,.pointer u12),(22,.bool ((decide (0<u14)) || (decide (u13=(⟨#[]⟩:ByteArray)))))] ?_ ?_ ?_
 .intro e3 hk3
  iterate 2 refine zn e3 ?_
  refine zk e3 ?_;exact hk3 _ (Fe e3)
 .intro e3 hk3
  refine zy e3 ?_;refine zy e3 ?_;refine zk e3 ?_;exact hk3 _ (Fe e3)
 intro fr hl
 refine Lfr hl ?_
 refine z2 ?_;refine AW.iff rfl (zG decide_eq_true_iff decide_eq_true_iff) h (fun h=>?_) (fun h=>?_)
 rotate_left
 .refine AW.exit ?_;refine qH (qH ?_);refine wB ?_
  refine qd ?_;exact⟨FL,h⟩
 refine AW.skip ?_;refine qd (AW.block (z3 ?_));refine zp ?_;refine zc func55 h ?_;rintro v I ⟨u15,rfl,h⟩;refine zp ?_;refine z4 ?_;refine zp ?_;refine zc func56 h ?_;rintro v I ⟨u16,rfl,h⟩;refine zm (wz (vs:=[(1,Sl.v u16)]) (cs:= #[.int .i64 0,.int .i64 0,.int .i64 0,.int .i64 0,Sl.v u16]) rfl underlying168 aoa aob rfl rfl) ?_;refine zA (wI rfl rfl) h fun u17 h=>?_
 refine zp ?_;refine z4 ?_;iterate 4 refine zp ?_
 refine zc func54 h ?_;rintro v I ⟨u18,rfl,h⟩;refine zp ?_;refine zc func54 h ?_;rintro v I ⟨u19,rfl,h⟩;refine zp ?_;refine zc func54 h ?_;rintro v I ⟨u20,rfl,h⟩;refine zm (qr rfl rfl) ?_;refine zf underlying168 wA ?_;refine zf underlying26 ty3 ?_;refine zs ty3 h fun I h=>?_;refine zm (qr rfl rfl) ?_;refine zf underlying168 wA ?_;refine zf underlying26 ty3 ?_;refine zs ty3 h fun I h=>?_
 refine zm (qr rfl rfl) ?_;refine zf underlying168 wA ?_;refine zf underlying26 ty3 ?_;refine zs ty3 h fun I h=>?_;refine z2 (AW.seq (z3 ?_))
 refine zp ?_;refine zc func57 h ?_;rintro v I ⟨u21,rfl,h⟩;iterate 2 refine zp ?_
 refine qO 7 (!(decide (u21=0))) (qu decide_eq_true_iff) h (fun fr I=> ∃(u22:Bool),qo [(4,.pointer (some ⟨u1,0,none⟩)),(6,.pointer u12),(7,.string u15),(57,.bool u22)] fr/\xl B ro u1 u12 u15 Q Y17 u22 I) ?_ ?_ ?_
 .intro h e3 hk3;iterate 6 refine zn e3 ?_
  refine zk e3 ?_;exact hk3 _ _ ⟨_,FL,h⟩
 .intro h e3 hk3;refine zy e3 ?_;refine zy e3 ?_;refine zy e3 ?_;refine zy e3 ?_;refine Lyb rfl rfl rfl rfl e3 (qF rfl func133 rfl rfl rfl (qc.mono h ?_))
  rintro v I ⟨u23,rfl,h⟩;refine zy e3 ?_;refine zk e3 ?_;exact hk3 _ _ ⟨_,FL,h⟩
 rintro fr I ⟨u22,hl,h⟩;unfold xl at h;refine Lfr hl ?_
 refine z2 ?_;refine zj h (fun h=>?_) fun h=>?_
 .refine z3 ?_;iterate 2 refine zp ?_
  refine z2 ?_;refine AW.ret ?_;refine qi (qx (qi (qx (qi ?_))));exact bR2 results77 rfl rfl ⟨_,_,rfl,h⟩
 refine AW.skip ?_;refine qd (AW.reg ?_);iterate 2 refine zp ?_
 refine ju (qD (qd ?_));refine qk.head (fr':=[(4,.pointer (some ⟨u1,0,none⟩)),(6,.pointer u12),(5,.string u15)]) ?_ FL
 exact hY17 _ _ h
def yx(B:World)(ro:AH)(u0:Option Addr)(Q:Sl->AH->Prop)(I:AH):=
 uq B ro u0 I fun u1 u2 I=>
 Q u1 I
def xN(B:World)(ro:AH)(a0 u0:Option Addr)(u1:Sl)(Q:Sl->AH->Prop):Int->AH->(Int->AH->Prop)->Prop:=fun u2 I Y6=>
 if u2<(u1.len:Int)then
 ∃p3,u1.a=some p3/\(0:Int)<=u2/\u2<(u1.len:Int)/\
 ∃u4,qa ro I (p3.add (Int.toNat u2*1))=some (.string u4)/\
 ∃p5,a0=some p5/\
 ∃u6,qa ro I p5=some (.map u6)/\
 awp prog ro (Instr.lookup 237 (.map u6) (.string u4) false) (fun v I=>
  (∃(u7:Option Addr),v= .pointer u7/\
  nw ro I (.cells #[.string u4] 9) fun u8 I=>
  vh B ro u0 (⟨some ⟨u8,0,none⟩,1,1⟩:Sl) I fun I=>
  ∃p9,u7=some p9/\
  ∃u10,qa ro I (p9.add 4)=some (Sl.v u10)/\
  nw ro I (.cells #[Sl.v u10] 24) fun u11 I=>
  jm B ro u0 (⟨some ⟨u11,0,none⟩,1,1⟩:Sl) I fun I=>
  ∃p12,u7=some p12/\
  ∃p13,u7=some p13/\
  ∃p14,u7=some p14/\
  ∃u15,qa ro I p12=some (.int .i64 u15)/\
  ∃u16,qa ro I (p13.add 1)=some (.int .i64 u16)/\
  ∃u17,qa ro I (p14.add 2)=some (.int .i64 u17)/\
  nw ro I (.cells #[.int .i64 u15,.int .i64 u16,.int .i64 u17] 3) fun u18 I=>
  wX B ro u0 (⟨some ⟨u18,0,none⟩,3,3⟩:Sl) I fun I=>
  Y6 (i64.wrap (u2+1)) I)) I
 else
 yx B ro u0 Q I
def aaA(B:World)(ro:AH)(a0:Option Addr)(I:AH)(Q:Sl->AH->Prop):=
 uR B ro I fun u0 I=>
 xo B ro a0 I fun u1 I=>
 lfpD (xN B ro a0 u0 u1 Q) (0) I
theorem agN{Q:Sl->AH->Prop}(h:Sep ro I->aaA B ro a0 I Q):pi B ro a0 I Q:=by
 refine zb h func78 ntmps78 fun h=>?_;unfold aaA at h;refine z3 ?_;refine zp ?_;refine z4 ?_;refine zc func43 h ?_;rintro v I ⟨u0,rfl,h⟩;refine zp ?_;refine z2 ?_;refine AW.seqJ (fun fr I=>qo [(3,.pointer u0)] fr/\yx B ro u0 Q I) ?_ ?_
 .rintro fr I ⟨hl,h⟩;refine AW.weaken ?_ hl (HLe.refl _)
  unfold yx at h;refine z3 ?_;refine zp ?_;refine zc func47 h ?_;rintro v I ⟨u1,u2,rfl,h⟩;iterate 5 refine zp ?_
  refine z4 ?_;iterate 2 refine zp ?_
  refine z2 ?_;refine AW.ret ?_;exact bR1 results78 rfl ⟨_,rfl,h⟩
 refine z3 ?_;refine zp ?_;refine zc func84 h ?_;rintro v I ⟨u3,rfl,h⟩;refine zm (qT rfl rfl underlying27 rfl rfl) ?_;refine zp ?_;refine z2 (AW.block ?_)
 refine qk.loop (fr':=[(0,.pointer a0),(3,.pointer u0),(11,Sl.v u3),(12,.int .i64 (u3.len:Int)),(13,.int .i64 0)]) ?_ FL
 refine h (fun u4 I=>qk _ _ _ _ _ _ [(0,.pointer a0),(3,.pointer u0),(11,Sl.v u3),(12,.int .i64 (u3.len:Int)),(13,.int .i64 u4)] I) ?_
 rintro u4 I Y6 hY6 h
 show AW _ _ _ _ _ _ _ _
 unfold xN at h;refine z3 ?_;refine zp ?_;refine z2 (AW.seq ?_)
 refine zi h (fun h=>?_) fun h=>?_
 rotate_left
 .refine AW.exit ?_;refine qH (qH ?_);refine wB ?_
  refine qd ?_;exact⟨FL,h⟩
 refine AW.skip ?_;refine qd (AW.seq (AW.block (z3 ?_)));obtain⟨p5,ha,h0,h1,h⟩:=h
 refine zm (vv rfl underlying27 ty9 (ixL rfl ha) rfl h0 h1) ?_;refine zL underlying9 h fun u6 h=>?_;refine zp ?_;refine z4 ?_;refine zp ?_;refine zN h fun p7 h=>?_;refine zf underlying239 aaM ?_;refine zL underlying237 h fun u8 h=>?_;refine zp ?_;refine zl (jC rfl rfl rfl (qm _ h ?_))
 rintro v I ⟨u9,rfl,h⟩;refine zp ?_;refine z4 ?_;iterate 2 refine zp ?_
 refine zA (zR (vs:=[(0,.string u6)]) (cs:= #[.string u6]) rfl underlying27 ty9 (by decide) rfl rfl) h fun u10 h=>?_;refine zc func45 h ?_;rintro v I ⟨rfl,h⟩;refine z4 ?_;iterate 2 refine zp ?_
 refine zN h fun p11 h=>?_;refine zf underlying168 wO ?_;refine zL underlying24 h fun u12 h=>?_;refine zA (zR (vs:=[(0,Sl.v u12)]) (cs:= #[Sl.v u12]) rfl underlying227 wO (by decide) rfl rfl) h fun u13 h=>?_;refine zc func46 h ?_;rintro v I ⟨rfl,h⟩;refine z2 ?_;refine AW.drawn0 (fun i=>([0,0,0,0,0,3,0,0,0,0,3,0,0,0,0,3,1,2]:List Nat).getD i 2) [(5,16),(5,17),(10,16),(10,17),(15,16),(15,17)] [0,1,2,3,4,6,7,8,9,11,12,13,14,5,10,15,16,17] mixed (by decide+kernel) ?_
 iterate 2 refine zq ?_
 obtain⟨p14,hc,h⟩:=h
 refine Dp rfl rfl rfl rfl (qr rfl (by rw[<-hc];try rfl)) ?_
 refine zg underlying168 wA ?_;refine zg underlying26 ty3 ?_;refine zq ?_;obtain⟨p15,hc,h⟩:=h
 refine Dp rfl rfl rfl rfl (qr rfl (by rw[<-hc];try rfl)) ?_
 refine zg underlying168 wA ?_;refine zg underlying26 ty3 ?_;refine zq ?_;obtain⟨p16,hc,h⟩:=h
 refine Dp rfl rfl rfl rfl (qr rfl (by rw[<-hc];try rfl)) ?_
 refine zg underlying168 wA ?_;refine zg underlying26 ty3 ?_;obtain⟨u17,hc,h⟩:=h
 refine Dr rfl rfl rfl rfl (qA rfl underlying3 rfl rfl hc) ?_
 obtain⟨u18,hc,h⟩:=h
 refine Dr rfl rfl rfl rfl (qA rfl underlying3 rfl rfl hc) ?_
 obtain⟨u19,hc,h⟩:=h
 refine Dr rfl rfl rfl rfl (qA rfl underlying3 rfl rfl hc) ?_
 refine Da rfl rfl rfl rfl (zR (vs:=[(0,.int .i64 u17),(1,.int .i64 u18),(2,.int .i64 u19)]) (cs:= #[.int .i64 u17,.int .i64 u18,.int .i64 u19]) rfl underlying55 ty3 (by decide) rfl rfl) fun u20 g1 g2=>?_
 replace h:=h u20 g1 g2
 refine Dg rfl rfl rfl rfl (qF rfl func44 rfl rfl rfl (qc.mono h ?_))
 rintro v I ⟨rfl,h⟩;refine wH ?_
 refine qD (qd (AW.reg ?_));iterate 2 refine zp ?_
 refine z2 ?_;refine qk.head (fr':=[(0,.pointer a0),(3,.pointer u0),(11,Sl.v u3),(12,.int .i64 (u3.len:Int)),(13,.int .i64 (i64.wrap (u4+1)))]) ?_ FL
 exact hY6 _ _ h
def abD(B:World)(ro:AH)(a0:Option Addr)(a1:ByteArray)(I:AH)(Q:Option Addr->Int->AH->Prop):=
 vo B ro a1 I fun u0 I=>
 if¬(u0=0)then
 Q none u0 I
 else
 ∃p1,a0=some p1/\
 ∃u2,qa ro I p1=some (.map u2)/\
 awp prog ro (Instr.lookup 237 (.map u2) (.string a1) false) (fun v I=>
 (∃(u3:Option Addr),v= .pointer u3/\
  if u3=none then
  Q none 70 I
  else
  Q u3 0 I)) I
theorem ahT(h:Sep ro I->abD B ro a0 a1 I Q):yp B ro a0 a1 I Q:=by
 refine zb h func79 ntmps79 fun h=>?_;unfold abD at h;refine z3 ?_;iterate 2 refine zp ?_
 refine z2 (AW.seq (z3 ?_))
 refine zp ?_;refine zc func82 h ?_;rintro v I ⟨u0,rfl,h⟩;refine zp ?_;refine z4 ?_;iterate 2 refine zp ?_
 refine z2 ?_;refine AW.iff rfl (qu decide_eq_true_iff) h (fun h=>?_) (fun h=>?_)
 .refine z3 ?_;iterate 3 refine zp ?_
  refine z2 ?_;refine AW.ret ?_;refine qi ?_;exact bR2 results79 rfl rfl ⟨_,_,rfl,h⟩
 refine AW.skip ?_;refine qd (z3 ?_);refine zp ?_;refine zN h fun p1 h=>?_;refine zf underlying239 aaM ?_;refine zL underlying237 h fun u2 h=>?_;refine zp ?_;refine zl (jC rfl rfl rfl (qm _ h ?_))
 rintro v I ⟨u3,rfl,h⟩;refine zp ?_;refine z2 (AW.seq (z3 ?_))
 refine zp ?_;refine zm (adK rfl underlying164 rfl rfl) ?_;refine z2 ?_;refine AW.iff rfl zt h (fun h=>?_) (fun h=>?_)
 .refine z3 ?_;iterate 2 refine zp ?_
  refine z2 ?_;refine AW.ret ?_;refine qi ?_;exact bR2 results79 rfl rfl ⟨_,_,rfl,h⟩
 refine AW.skip ?_;refine qd (z3 ?_);iterate 3 refine zp ?_
 refine z2 ?_;refine AW.ret ?_;exact bR2 results79 rfl rfl ⟨_,_,rfl,h⟩
def aa6(B:World)(ro:AH)(a0:Option Addr)(I:AH)(Q:Sl->AH->Prop):=
 ∃p0,a0=some p0/\
 ∃u1,qa ro I p0=some (.map u1)/\
 abT B ro u1 I fun u2 I=>
 abS B ro u2 I fun u3 I=>
 Q u3 I
theorem ahv{Q:Sl->AH->Prop}(h:Sep ro I->aa6 B ro a0 I Q):xo B ro a0 I Q:=by
 refine zb h func84 ntmps84 fun h=>?_;unfold aa6 at h;refine z3 ?_;refine zp ?_;refine z4 ?_;refine zp ?_;refine zN h fun p0 h=>?_;refine zf underlying239 aaM ?_;refine zL underlying237 h fun u1 h=>?_;refine zc func137 h ?_;rintro u2 I ⟨_,rfl,h⟩
 refine zc func136 h ?_;rintro v I ⟨u3,rfl,h⟩;refine zp ?_;refine z2 ?_;refine AW.ret ?_;exact bR1 results84 rfl ⟨_,rfl,h⟩
def uD(B:World)(ro:AH)(a0:ByteArray)(a1:Addr)(I:AH)(Q:Bool->AH->Prop):=
 ∃u0,qa ro I a1=some (.string u0)/\
 aeY B ro u0 a0 I fun u1 u2 I=>
 Q (!u1) I
theorem afQ{a0:ByteArray}{a1:Addr}{Q:Bool->AH->Prop}(h:Sep ro I->uD B ro a0 a1 I Q):acP B ro a0 a1 I Q:=by
 refine zb h func85 ntmps85 fun h=>?_;unfold uD at h;refine z3 ?_;refine zp ?_;refine z4 ?_;refine zL underlying9 h fun u0 h=>?_;refine zp ?_;refine zc func86 h ?_;rintro v I ⟨u1,u2,rfl,h⟩;iterate 5 refine zp ?_
 refine z4 ?_;iterate 3 refine zp ?_
 refine z2 ?_;refine AW.ret ?_;exact bR1 results85 rfl ⟨_,rfl,h⟩
def kd(B:World)(ro:AH)(a0:Option Addr)(a2:Sl)(a3:Int)(u0:Option Addr)(Q:ByteArray->Int->AH->Prop)(u1:ByteArray)(I:AH):=
 ∃p2,a0=some p2/\
 ∃u3,qa ro I p2=some (.map u3)/\
 awp prog ro (Instr.lookup 237 (.map u3) (.string u1) false) (fun v I=>
 (∃(u4:Option Addr),v= .pointer u4/\
  if¬(u4=none)then
  Q (⟨#[]⟩:ByteArray) 71 I
  else
  yP I fun ψ I=>
  ∃p5,a0=some p5/\
  ∃u6,qa (join ro ψ) (fun _=>none) p5=some (.map u6)/\
  kn B (join ro ψ) a2 I fun u7 I=>
  nw (join ro ψ) I (.cells #[.int .i64 0,.int .i64 0,.int .i64 a3,.int .i64 0,Sl.v u7] 168) fun u8 I=>
  awp prog (join ro ψ) (Instr.mapUpdate 237 (.map u6) (.string u1) (.pointer (some ⟨u8,0,none⟩))) (fun _ I=>
   (qP ψ I->(fun I=>
   ∃p9,u0=some p9/\
   ∃u10,qa ro I (p9.add 1)=some (.int .i64 u10)/\
   ∃p11,u0=some p11/\
   stN (p11.add 1) (fun I=>
    ∃p12,u0=some p12/\
    ∃u13,qa ro I (p12.add 3)=some (.int .i64 u13)/\
    ∃p14,u0=some p14/\
    stN (p14.add 3) (fun I=>
    Q u1 0 I) [.int .i64 (i64.wrap (u13+1))] 0 I) [.int .i64 (i64.wrap (u10+1))] 0 I) (join ψ I))) I)) I
def aaB(B:World)(ro:AH)(a0:Option Addr)(a1:ByteArray)(a2:Sl)(a3:Int)(a4:Bool)(I:AH)(Q:ByteArray->Int->AH->Prop):=
 yj B ro a1 I fun u0 u1 I=>
 if¬(u1=0)then
 Q (⟨#[]⟩:ByteArray) u1 I
 else
 if 256<(a2.len:Int)then
 Q (⟨#[]⟩:ByteArray) 75 I
 else
 if(a3<0)\/(4611686018427387903<a3)then
 Q (⟨#[]⟩:ByteArray) 10 I
 else
 ∃p2,a0=some p2/\
 ∃u3,qa ro I p2=some (.map u3)/\
 awp prog ro (Instr.lookup 237 (.map u3) (.string u0) false) (fun v I=>
 (∃(u4:Option Addr),v= .pointer u4/\
  if u4=none then
  Q (⟨#[]⟩:ByteArray) 70 I
  else
  ∃p5,u4=some p5/\
  ∃u6,qa ro I (p5.add 2)=some (.int .i64 u6)/\
  if¬(u6=0)then
  Q (⟨#[]⟩:ByteArray) 74 I
  else
  ∃p7,u4=some p7/\
  ∃u8,qa ro I (p7.add 1)=some (.int .i64 u8)/\
  if 9999999999<u8 then
  Q (⟨#[]⟩:ByteArray) 76 I
  else
  if a4=true then
  ∃p9,u4=some p9/\
  ∃u10,qa ro I (p9.add 1)=some (.int .i64 u10)/\
  aeh B ro a1 u10 I fun u11 u12 I=>
  if¬(u12=0)then
   Q (⟨#[]⟩:ByteArray) u12 I
  else
  kd B ro a0 a2 a3 u4 Q u11 I
  else
  kd B ro a0 a2 a3 u4 Q a1 I)) I
theorem agO{a2:Sl}{a4:Bool}{Q:ByteArray->Int->AH->Prop}(h:Sep ro I->aaB B ro a0 a1 a2 a3 a4 I Q):jn B ro a0 a1 a2 a3 a4 I Q:=by
 refine zb h func122 ntmps122 fun h=>?_;unfold aaB at h;refine z3 ?_;iterate 2 refine zp ?_
 refine z4 ?_;refine zp ?_;refine zc func179 h ?_;rintro v I ⟨u0,u1,rfl,h⟩;iterate 5 refine zp ?_
 refine z2 (AW.seq (AW.block (z3 ?_)))
 iterate 3 refine zp ?_
 refine z2 ?_;refine AW.iff rfl (qu decide_eq_true_iff) h (fun h=>?_) (fun h=>?_)
 .refine z3 ?_;iterate 3 refine zp ?_
  refine z2 ?_;refine AW.ret ?_;refine qx (qi ?_);exact bR2 results122 rfl rfl ⟨_,_,rfl,h⟩
 refine z3 ?_;refine zp ?_;refine zm (qT rfl rfl underlying24 rfl rfl) ?_;iterate 2 refine zp ?_
 refine z2 ?_;refine zi h (fun h=>?_) fun h=>?_
 .refine z3 ?_;iterate 2 refine zp ?_
  refine z2 ?_;refine AW.ret ?_;refine qx (qi ?_);exact bR2 results122 rfl rfl ⟨_,_,rfl,h⟩
 refine z3 ?_;iterate 3 refine zp ?_
 refine wW 3 (decide (a3<0)) [(0,.pointer a0),(1,.string a1),(2,Sl.v a2),(3,.int .i64 a3),(4,.bool a4),(12,.string u0),(34,.bool ((decide (a3<0)) || (decide (4611686018427387903<a3))))] ?_ ?_ ?_
 .intro e2 hk2
  iterate 2 refine zn e2 ?_
  refine zk e2 ?_;exact hk2 _ (Fe e2)
 .intro e2 hk2
  refine zy e2 ?_;refine zy e2 ?_;refine zk e2 ?_;exact hk2 _ (Fe e2)
 intro fr hl
 refine Lfr hl ?_
 refine zp ?_;refine z2 ?_;refine AW.iff rfl (zG decide_eq_true_iff decide_eq_true_iff) h (fun h=>?_) (fun h=>?_)
 .refine z3 ?_;iterate 2 refine zp ?_
  refine z2 ?_;refine AW.ret ?_;refine qx (qi ?_);exact bR2 results122 rfl rfl ⟨_,_,rfl,h⟩
 refine AW.skip ?_;refine qD (qd (z3 ?_));refine zp ?_;refine zN h fun p2 h=>?_;refine zf underlying239 aaM ?_;refine zL underlying237 h fun u3 h=>?_;refine zp ?_;refine zl (jC rfl rfl rfl (qm _ h ?_))
 rintro v I ⟨u4,rfl,h⟩;refine zp ?_;refine z2 (AW.seq (AW.block (z3 ?_)))
 refine zp ?_;refine zm (adK rfl underlying164 rfl rfl) ?_;refine zp ?_;refine z2 ?_;refine AW.iff rfl zt h (fun h=>?_) (fun h=>?_)
 .refine z3 ?_;iterate 2 refine zp ?_
  refine z2 ?_;refine AW.ret ?_;refine qx (qi ?_);exact bR2 results122 rfl rfl ⟨_,_,rfl,h⟩
 refine z3 ?_;refine zp ?_;refine zN h fun p5 h=>?_;refine zf underlying168 wA ?_;refine zf underlying26 ty3 ?_;refine zL underlying3 h fun u6 h=>?_;iterate 2 refine zp ?_
 refine z2 ?_;refine AW.iff rfl (qu decide_eq_true_iff) h (fun h=>?_) (fun h=>?_)
 .refine z3 ?_;iterate 2 refine zp ?_
  refine z2 ?_;refine AW.ret ?_;refine qx (qi ?_);exact bR2 results122 rfl rfl ⟨_,_,rfl,h⟩
 refine z3 ?_;refine zp ?_;refine zN h fun p7 h=>?_;refine zf underlying168 wA ?_;refine zf underlying26 ty3 ?_;refine zL underlying3 h fun u8 h=>?_;iterate 2 refine zp ?_
 refine z2 ?_;refine zi h (fun h=>?_) fun h=>?_
 .refine z3 ?_;iterate 2 refine zp ?_
  refine z2 ?_;refine AW.ret ?_;refine qx (qi ?_);exact bR2 results122 rfl rfl ⟨_,_,rfl,h⟩
 refine AW.skip ?_;refine qD (qd ?_);refine AW.seqJ (fun fr I=> ∃(u9:ByteArray),qo [(0,.pointer a0),(2,Sl.v a2),(3,.int .i64 a3),(14,.pointer u4),(1,.string u9)] fr/\kd B ro a0 a2 a3 u4 Q u9 I) ?_ ?_
 rotate_left
 .refine z3 ?_;refine zp ?_;refine z2 ?_;refine zj h (fun h=>?_) fun h=>?_
  rotate_left
  .refine AW.skip ?_;refine qd ?_;exact⟨_,FL,h⟩
  refine z3 ?_;iterate 2 refine zp ?_
  refine zN h fun p10 h=>?_;refine zf underlying168 wA ?_;refine zf underlying26 ty3 ?_;refine zL underlying3 h fun u11 h=>?_;refine zc func180 h ?_;rintro v I ⟨u12,u13,rfl,h⟩;iterate 5 refine zp ?_
  refine z4 ?_;iterate 2 refine zp ?_
  refine z2 ?_;refine AW.iff rfl (qu decide_eq_true_iff) h (fun h=>?_) (fun h=>?_)
  rotate_left
  .refine AW.skip ?_;refine qd ?_;exact⟨_,FL,h⟩
  refine z3 ?_;iterate 3 refine zp ?_
  refine z2 ?_;refine AW.ret ?_;refine qi ?_;exact bR2 results122 rfl rfl ⟨_,_,rfl,h⟩
 rintro fr I ⟨u9,hl,h⟩;refine AW.weaken ?_ hl (HLe.refl _)
 unfold kd at h;refine AW.seq (z3 ?_);refine zp ?_;refine zN h fun p14 h=>?_;refine zf underlying239 aaM ?_;refine zL underlying237 h fun u15 h=>?_;refine zp ?_;refine zl (jC rfl rfl rfl (qm _ h ?_))
 rintro v I ⟨u16,rfl,h⟩;refine zm (ajQ rfl underlying164 rfl rfl) ?_;refine z2 ?_;refine AW.iff rfl (qu zt) h (fun h=>?_) (fun h=>?_)
 .refine z3 ?_;iterate 2 refine zp ?_
  refine z2 ?_;refine AW.ret ?_;refine qi ?_;exact bR2 results122 rfl rfl ⟨_,_,rfl,h⟩
 refine AW.skip ?_;refine qd (AW.seq ?_);refine AW.drawnL (fun i=>([0,0,0,0,0,0,0,0,2,0,1,2]:List Nat).getD i 2) [] [0,1,2,3,4,5,6,7,8,9,10,11] mixed h (by decide+kernel) ?_
 clear h
 intro ψ I h
 refine zq ?_;obtain⟨p17,hc,h⟩:=h
 refine Dp rfl rfl rfl rfl (qr rfl (by rw[<-hc];try rfl)) ?_
 refine zg underlying239 aaM ?_;obtain⟨u18,hc,h⟩:=h
 refine Dp rfl rfl rfl rfl (yQ rfl underlying237 rfl rfl hc) ?_
 iterate 2 refine zq ?_
 refine Dp rfl rfl rfl rfl (wz (vs:=[(2,.int .i64 a3)]) (cs:= #[.int .i64 0,.int .i64 0,.int .i64 a3,.int .i64 0]) rfl underlying26 wA aqj rfl rfl) ?_
 refine zq ?_;refine Dg rfl rfl rfl rfl (qF rfl func80 rfl rfl rfl (qc.mono h ?_))
 rintro v I ⟨u19,rfl,h⟩;refine Dp rfl rfl rfl rfl (wz (vs:=[(0,.agg #[.int .i64 0,.int .i64 0,.int .i64 a3,.int .i64 0]),(1,Sl.v u19)]) (cs:= #[.int .i64 0,.int .i64 0,.int .i64 a3,.int .i64 0,Sl.v u19]) rfl underlying168 aoa aob rfl rfl) ?_
 refine Da rfl rfl rfl rfl (wI rfl rfl) fun u20 g1 g2=>?_
 replace h:=h u20 g1 g2
 refine Dg rfl rfl rfl rfl (afq (.inl rfl) rfl rfl rfl (qm _ h ?_))
 rintro _ I h
 refine⟨_,zr.refl _,fun hdj=>?_⟩
 replace h:=h hdj
 refine qd (z3 ?_);refine zp ?_;refine zN h fun p21 h=>?_;refine zf underlying168 wA ?_;refine zf underlying26 ty3 ?_;refine zL underlying3 h fun u22 h=>?_;refine zp ?_;refine zN h fun p23 h=>?_;refine zf underlying168 wA ?_;refine zf underlying26 ty3 ?_;refine zs ty3 h fun I h=>?_;refine z4 ?_;refine zp ?_;refine zN h fun p24 h=>?_;refine zf underlying168 wA ?_;refine zf underlying26 ty3 ?_
 refine zL underlying3 h fun u25 h=>?_;refine zp ?_;refine zN h fun p26 h=>?_;refine zf underlying168 wA ?_;refine zf underlying26 ty3 ?_;refine zs ty3 h fun I h=>?_;refine z4 ?_;iterate 3 refine zp ?_
 refine z2 ?_;refine AW.ret ?_;exact bR2 results122 rfl rfl ⟨_,_,rfl,h⟩
def kj(B:World)(ro:AH)(Q:Bool->AH->Prop)(u0:Bool)(I:AH):=
 Q u0 I
def xp(B:World)(ro:AH)(a3:Option Addr)(Q:Bool->AH->Prop)(u0:Bool)(I:AH):=
 if u0=true then
 ∃p1,a3=some p1/\
 ∃u2,qa ro I (p1.add 2)=some (.int .i64 u2)/\
 kj B ro Q (decide (u2=0)) I
 else
 kj B ro Q false I
def xq(B:World)(ro:AH)(a3:Option Addr)(Q:Bool->AH->Prop)(u0:Bool)(I:AH):=
 if u0=true then
 ∃p1,a3=some p1/\
 ∃u2,qa ro I p1=some (.int .i64 u2)/\
 xp B ro a3 Q (decide (u2=0)) I
 else
 xp B ro a3 Q false I
def zT(B:World)(ro:AH)(a0:Option Addr)(a1:ByteArray)(a3 u0:Option Addr)(Q:Bool->AH->Prop)(u1:Bool)(I:AH):=
 if u1=true then
 Q false I
 else
 ∃p2,u0=some p2/\
 ∃u3,qa ro I (p2.add 3)=some (.int .i64 u3)/\
 ∃p4,u0=some p4/\
 stN (p4.add 3) (fun I=>
 ∃p5,a0=some p5/\
 ∃u6,qa ro I p5=some (.map u6)/\
 awp prog ro (Instr.mapUpdate 237 (.map u6) (.string a1) (.pointer a3)) (fun _ I=>
  Q true I) I) [.int .i64 (i64.wrap (u3+1))] 0 I
def vN(B:World)(ro:AH)(a0:Option Addr)(a1 a2:ByteArray)(a3:Option Addr)(Q:Bool->AH->Prop)(u0:Bool)(I:AH):=
 if u0=true then
 Q false I
 else
 if a2=(⟨#[]⟩:ByteArray)then
 ∃p1,a0=some p1/\
 ∃u2,qa ro I p1=some (.map u2)/\
 awp prog ro (Instr.mapUpdate 237 (.map u2) (.string a1) (.pointer a3)) (fun _ I=>
  if a1=(⟨#[47]⟩:ByteArray)then
  ∃p3,a3=some p3/\
  ∃u4,qa ro I (p3.add 4)=some (Sl.v u4)/\
  xq B ro a3 Q (decide ((u4.len:Int)=0)) I
  else
  xq B ro a3 Q false I) I
 else
 yj B ro a1 I fun u5 u6 I=>
 ∃p7,a0=some p7/\
 ∃u8,qa ro I p7=some (.map u8)/\
 awp prog ro (Instr.lookup 237 (.map u8) (.string u5) false) (fun v I=>
 (∃(u9:Option Addr),v= .pointer u9/\
  if u9=none then
  zT B ro a0 a1 a3 u9 Q true I
  else
  ∃p10,u9=some p10/\
  ∃u11,qa ro I (p10.add 2)=some (.int .i64 u11)/\
  zT B ro a0 a1 a3 u9 Q (!(decide (u11=0))) I)) I
def xr(B:World)(ro:AH)(a0:Option Addr)(a1 a2:ByteArray)(a3:Option Addr)(u0:Bool)(Q:Bool->AH->Prop)(u1:Bool)(I:AH):=
 vN B ro a0 a1 a2 a3 Q u1 I
def kK(B:World)(ro:AH)(a0:Option Addr)(a1 a2:ByteArray)(a3:Option Addr)(Q:Bool->AH->Prop)(u0:Bool)(I:AH):=
 if u0=true then
 vN B ro a0 a1 a2 a3 Q true I
 else
 ∃p1,a3=some p1/\
 ∃u2,qa ro I (p1.add 2)=some (.int .i64 u2)/\
 if¬(u2=0)then
 ∃p3,a3=some p3/\
 ∃u4,qa ro I (p3.add 1)=some (.int .i64 u4)/\
 xr B ro a0 a1 a2 a3 u0 Q (decide (0<u4)) I
 else
 xr B ro a0 a1 a2 a3 u0 Q false I
def kM(B:World)(ro:AH)(a0:Option Addr)(a1 a2:ByteArray)(a3:Option Addr)(Q:Bool->AH->Prop)(u0:Bool)(I:AH):=
 if u0=true then
 kK B ro a0 a1 a2 a3 Q true I
 else
 ∃p1,a3=some p1/\
 ∃u2,qa ro I (p1.add 1)=some (.int .i64 u2)/\
 kK B ro a0 a1 a2 a3 Q (decide (10000000000<u2)) I
def acw(B:World)(ro:AH)(a0:Option Addr)(a1 a2:ByteArray)(a3:Option Addr)(I:AH)(Q:Bool->AH->Prop):=
 vo B ro a1 I fun u0 I=>
 if(¬(u0=0))\/(((afp a1 a2)=true)\/(a1=a2))then
 kM B ro a0 a1 a2 a3 Q true I
 else
 ∃p1,a3=some p1/\
 ∃u2,qa ro I (p1.add 4)=some (Sl.v u2)/\
 kM B ro a0 a1 a2 a3 Q (decide (256<(u2.len:Int))) I
theorem aiL{a2:ByteArray}{a3:Option Addr}{Q:Bool->AH->Prop}(h:Sep ro I->acw B ro a0 a1 a2 a3 I Q):acq B ro a0 a1 a2 a3 I Q:=by
 refine zb h func133 ntmps133 fun h=>?_;unfold acw at h;refine z3 ?_;refine zp ?_;refine z2 (AW.seq (AW.block (z3 ?_)))
 refine zp ?_;refine zc func82 h ?_;rintro v I ⟨u0,rfl,h⟩;iterate 2 refine zp ?_
 refine wW 4 (!(decide (u0=0))) [(0,.pointer a0),(1,.string a1),(2,.string a2),(3,.pointer a3),(20,.bool ((!(decide (u0=0))) || ((afp a1 a2) || (decide (a1=a2)))))] ?_ ?_ ?_
 .intro e3 hk3
  iterate 3 refine zn e3 ?_
  refine zk e3 ?_;exact hk3 _ (Fe e3)
 .intro e3 hk3
  refine zy e3 ?_;refine zy e3 ?_;refine qX (asK rfl rfl rfl) rfl rfl rfl rfl e3 ?_
  refine zk e3 ?_;exact hk3 _ (Fe e3)
 intro fr hl
 refine Lfr hl ?_
 refine zp ?_;refine qO 7 ((!(decide (u0=0))) || ((afp a1 a2) || (decide (a1=a2)))) (zG (qu decide_eq_true_iff) (zG Iff.rfl decide_eq_true_iff)) h (fun fr I=> ∃(u1:Bool),qo [(0,.pointer a0),(1,.string a1),(2,.string a2),(3,.pointer a3),(28,.bool u1)] fr/\kM B ro a0 a1 a2 a3 Q u1 I) ?_ ?_ ?_
 .intro h e8 hk8;iterate 6 refine zn e8 ?_
  refine zk e8 ?_;exact hk8 _ _ ⟨_,FL,h⟩
 .intro h e8 hk8;refine zy e8 ?_;obtain⟨p2,hc,h⟩:=h
  refine qX (qr rfl (by rw[<-hc];try rfl)) rfl rfl rfl rfl e8 ?_
  refine qX (wm rfl underlying168 rfl wO (by decide) rfl) rfl rfl rfl rfl e8 ?_
  obtain⟨u3,hc,h⟩:=h
  refine Lyb rfl rfl rfl rfl e8 (vG rfl underlying24 rfl rfl hc ?_)
  refine qX (qT rfl rfl underlying24 rfl rfl) rfl rfl rfl rfl e8 ?_
  refine zy e8 ?_;refine zk e8 ?_;exact hk8 _ _ ⟨_,FL,h⟩
 rintro fr I ⟨u1,hl,h⟩;unfold kM at h;refine Lfr hl ?_
 refine zp ?_;refine qO 7 u1 Iff.rfl h (fun fr I=> ∃(u4:Bool),qo [(0,.pointer a0),(1,.string a1),(2,.string a2),(3,.pointer a3),(36,.bool u4)] fr/\kK B ro a0 a1 a2 a3 Q u4 I) ?_ ?_ ?_
 .intro h e16 hk16;iterate 6 refine zn e16 ?_
  refine zk e16 ?_;exact hk16 _ _ ⟨_,FL,h⟩
 .intro h e16 hk16;refine zy e16 ?_;obtain⟨p5,hc,h⟩:=h
  refine qX (qr rfl (by rw[<-hc];try rfl)) rfl rfl rfl rfl e16 ?_
  refine qX (wm rfl underlying168 rfl wA (by decide) rfl) rfl rfl rfl rfl e16 ?_
  refine qX (wm rfl underlying26 rfl ty3 (by decide) rfl) rfl rfl rfl rfl e16 ?_
  obtain⟨u6,hc,h⟩:=h
  refine Lyb rfl rfl rfl rfl e16 (vG rfl underlying3 rfl rfl hc ?_)
  refine zy e16 ?_;refine zk e16 ?_;exact hk16 _ _ ⟨_,FL,h⟩
 rintro fr I ⟨u4,hl,h⟩;unfold kK at h;refine Lfr hl ?_
 refine zp ?_;refine qO 15 u4 Iff.rfl h (fun fr I=> ∃(u7:Bool),qo [(0,.pointer a0),(1,.string a1),(2,.string a2),(3,.pointer a3),(52,.bool u7)] fr/\vN B ro a0 a1 a2 a3 Q u7 I) ?_ ?_ ?_
 .intro h e24 hk24;iterate 7 refine zn e24 ?_
  refine Ln rfl rfl rfl rfl (.inr rfl) ?_
  refine Ln rfl rfl rfl rfl (.inr rfl) ?_
  refine Ln rfl rfl rfl rfl (.inr rfl) ?_
  refine Ln rfl rfl rfl rfl (.inr rfl) ?_
  refine Ln rfl rfl rfl rfl (.inr rfl) ?_
  refine Ln rfl rfl rfl rfl (.inr rfl) ?_
  refine zn e24 ?_;refine zk e24 ?_;exact hk24 _ _ ⟨_,FL,h⟩
 .intro h e24 hk24;refine zy e24 ?_;obtain⟨p8,hc,h⟩:=h
  refine qX (qr rfl (by rw[<-hc];try rfl)) rfl rfl rfl rfl e24 ?_
  refine qX (wm rfl underlying168 rfl wA (by decide) rfl) rfl rfl rfl rfl e24 ?_
  refine qX (wm rfl underlying26 rfl ty3 (by decide) rfl) rfl rfl rfl rfl e24 ?_
  obtain⟨u9,hc,h⟩:=h
  refine Lyb rfl rfl rfl rfl e24 (vG rfl underlying3 rfl rfl hc ?_)
  refine zy e24 ?_;refine zy e24 ?_;refine qO 7 (!(decide (u9=0))) (qu decide_eq_true_iff) h (fun fr I=> ∃(u10:Bool),qo [(0,.pointer a0),(1,.string a1),(2,.string a2),(3,.pointer a3),(37,.bool u4),(51,.bool u10)] fr/\xr B ro a0 a1 a2 a3 u4 Q u10 I) ?_ ?_ ?_
  .intro h e31 hk31;refine zy e31 ?_;obtain⟨p11,hc,h⟩:=h
   refine qX (qr rfl (by rw[<-hc];try rfl)) rfl rfl rfl rfl e31 ?_
   refine qX (wm rfl underlying168 rfl wA (by decide) rfl) rfl rfl rfl rfl e31 ?_
   refine qX (wm rfl underlying26 rfl ty3 (by decide) rfl) rfl rfl rfl rfl e31 ?_
   obtain⟨u12,hc,h⟩:=h
   refine Lyb rfl rfl rfl rfl e31 (vG rfl underlying3 rfl rfl hc ?_)
   refine zy e31 ?_;refine qX (yH rfl (evb e31) rfl) rfl rfl rfl rfl e24 ?_
   exact hk31 _ _ ⟨_,FL,h⟩
  .intro h e31 hk31;iterate 6 refine zn e31 ?_
   refine qX (pF rfl (evb e31) rfl) rfl rfl rfl rfl e24 ?_
   exact hk31 _ _ ⟨_,FL,h⟩
  rintro fr I ⟨u10,hl,h⟩;unfold xr at h;refine Lfr hl ?_
  refine zk e24 ?_;exact hk24 _ _ ⟨_,FL,h⟩
 rintro fr I ⟨u7,hl,h⟩;unfold vN at h;refine Lfr hl ?_
 refine zp ?_;refine z2 ?_;refine zj h (fun h=>?_) fun h=>?_
 .refine z3 ?_;refine zp ?_;refine z2 ?_;refine AW.ret ?_;refine qx (qi ?_);exact bR1 results133 rfl ⟨_,rfl,h⟩
 refine z3 ?_;iterate 3 refine zp ?_
 refine z2 ?_;refine zi h (fun h=>?_) fun h=>?_
 rotate_left
 .refine AW.skip ?_;refine qD (qd (z3 ?_));refine zp ?_;refine zc func179 h ?_;rintro v I ⟨u13,u14,rfl,h⟩;iterate 5 refine zp ?_
  refine z4 ?_;refine zp ?_;refine zN h fun p15 h=>?_;refine zf underlying239 aaM ?_;refine zL underlying237 h fun u16 h=>?_;refine zp ?_;refine zl (jC rfl rfl rfl (qm _ h ?_))
  rintro v I ⟨u17,rfl,h⟩;refine zp ?_;refine z2 (AW.seq (z3 ?_))
  refine zp ?_;refine zm (adK rfl underlying164 rfl rfl) ?_;refine zp ?_;refine qO 7 u17.isNone zt h (fun fr I=> ∃(u18:Bool),qo [(0,.pointer a0),(1,.string a1),(3,.pointer a3),(11,.pointer u17),(108,.bool u18)] fr/\zT B ro a0 a1 a3 u17 Q u18 I) ?_ ?_ ?_
  .intro h e2 hk2;iterate 6 refine zn e2 ?_
   refine zk e2 ?_;exact hk2 _ _ ⟨_,FL,h⟩
  .intro h e2 hk2;refine zy e2 ?_;obtain⟨p19,hc,h⟩:=h
   refine qX (qr rfl (by rw[<-hc];try rfl)) rfl rfl rfl rfl e2 ?_
   refine qX (wm rfl underlying168 rfl wA (by decide) rfl) rfl rfl rfl rfl e2 ?_
   refine qX (wm rfl underlying26 rfl ty3 (by decide) rfl) rfl rfl rfl rfl e2 ?_
   obtain⟨u20,hc,h⟩:=h
   refine Lyb rfl rfl rfl rfl e2 (vG rfl underlying3 rfl rfl hc ?_)
   refine zy e2 ?_;refine zk e2 ?_;exact hk2 _ _ ⟨_,FL,h⟩
  rintro fr I ⟨u18,hl,h⟩;unfold zT at h;refine Lfr hl ?_
  refine z2 ?_;refine zj h (fun h=>?_) fun h=>?_
  .refine z3 ?_;refine zp ?_;refine z2 ?_;refine AW.ret ?_;refine qi ?_;exact bR1 results133 rfl ⟨_,rfl,h⟩
  refine AW.skip ?_;refine qd (z3 ?_);refine zp ?_;refine zN h fun p21 h=>?_;refine zf underlying168 wA ?_;refine zf underlying26 ty3 ?_;refine zL underlying3 h fun u22 h=>?_;refine zp ?_;refine zN h fun p23 h=>?_;refine zf underlying168 wA ?_;refine zf underlying26 ty3 ?_;refine zs ty3 h fun I h=>?_;refine z4 ?_;refine zp ?_;refine zN h fun p24 h=>?_;refine zf underlying239 aaM ?_
  refine zL underlying237 h fun u25 h=>?_;iterate 2 refine zp ?_
  refine zl (afq (.inl rfl) rfl rfl rfl (qm _ h ?_))
  rintro _ I h
  refine z4 ?_;refine zp ?_;refine z2 ?_;refine AW.ret ?_;exact bR1 results133 rfl ⟨_,rfl,h⟩
 refine z3 ?_;refine zp ?_;refine zN h fun p26 h=>?_;refine zf underlying239 aaM ?_;refine zL underlying237 h fun u27 h=>?_;iterate 2 refine zp ?_
 refine zl (afq (.inl rfl) rfl rfl rfl (qm _ h ?_))
 rintro _ I h
 refine z4 ?_;iterate 3 refine zp ?_
 refine qO 7 (decide (a1=(⟨#[47]⟩:ByteArray))) decide_eq_true_iff h (fun fr I=> ∃(u28:Bool),qo [(3,.pointer a3),(71,.bool u28)] fr/\xq B ro a3 Q u28 I) ?_ ?_ ?_
 .intro h e2 hk2;refine zy e2 ?_;obtain⟨p29,hc,h⟩:=h
  refine qX (qr rfl (by rw[<-hc];try rfl)) rfl rfl rfl rfl e2 ?_
  refine qX (wm rfl underlying168 rfl wO (by decide) rfl) rfl rfl rfl rfl e2 ?_
  obtain⟨u30,hc,h⟩:=h
  refine Lyb rfl rfl rfl rfl e2 (vG rfl underlying24 rfl rfl hc ?_)
  refine qX (qT rfl rfl underlying24 rfl rfl) rfl rfl rfl rfl e2 ?_
  refine zy e2 ?_;refine zk e2 ?_;exact hk2 _ _ ⟨_,FL,h⟩
 .intro h e2 hk2;iterate 6 refine zn e2 ?_
  refine zk e2 ?_;exact hk2 _ _ ⟨_,FL,h⟩
 rintro fr I ⟨u28,hl,h⟩;unfold xq at h;refine Lfr hl ?_
 refine zp ?_;refine qO 7 u28 Iff.rfl h (fun fr I=> ∃(u31:Bool),qo [(3,.pointer a3),(79,.bool u31)] fr/\xp B ro a3 Q u31 I) ?_ ?_ ?_
 .intro h e10 hk10;refine zy e10 ?_;obtain⟨p32,hc,h⟩:=h
  refine qX (qr rfl (by rw[<-hc];try rfl)) rfl rfl rfl rfl e10 ?_
  refine qX (wm rfl underlying168 rfl wA (by decide) rfl) rfl rfl rfl rfl e10 ?_
  refine qX (wm rfl underlying26 rfl ty3 (by decide) rfl) rfl rfl rfl rfl e10 ?_
  obtain⟨u33,hc,h⟩:=h
  refine Lyb rfl rfl rfl rfl e10 (vG rfl underlying3 rfl rfl hc ?_)
  refine zy e10 ?_;refine zk e10 ?_;exact hk10 _ _ ⟨_,FL,h⟩
 .intro h e10 hk10;iterate 6 refine zn e10 ?_
  refine zk e10 ?_;exact hk10 _ _ ⟨_,FL,h⟩
 rintro fr I ⟨u31,hl,h⟩;unfold xp at h;refine Lfr hl ?_
 refine zp ?_;refine qO 7 u31 Iff.rfl h (fun fr I=> ∃(u34:Bool),qo [(87,.bool u34)] fr/\kj B ro Q u34 I) ?_ ?_ ?_
 .intro h e18 hk18;refine zy e18 ?_;obtain⟨p35,hc,h⟩:=h
  refine qX (qr rfl (by rw[<-hc];try rfl)) rfl rfl rfl rfl e18 ?_
  refine qX (wm rfl underlying168 rfl wA (by decide) rfl) rfl rfl rfl rfl e18 ?_
  refine qX (wm rfl underlying26 rfl ty3 (by decide) rfl) rfl rfl rfl rfl e18 ?_
  obtain⟨u36,hc,h⟩:=h
  refine Lyb rfl rfl rfl rfl e18 (vG rfl underlying3 rfl rfl hc ?_)
  refine zy e18 ?_;refine zk e18 ?_;exact hk18 _ _ ⟨_,FL,h⟩
 .intro h e18 hk18;iterate 6 refine zn e18 ?_
  refine zk e18 ?_;exact hk18 _ _ ⟨_,FL,h⟩
 rintro fr I ⟨u34,hl,h⟩;unfold kj at h;refine Lfr hl ?_
 refine zp ?_;refine z2 ?_;refine AW.ret ?_;refine qx (qi ?_);exact bR1 results133 rfl ⟨_,rfl,h⟩
def pq(B:World)(ro:AH)(Q:Sl->AH->Prop)(u0:Sl)(I:AH):=
 Q u0 I
def kY(B:World)(ro:AH)(a0:Option Addr)(a1 u0:Sl)(u1:Int)(Q:Sl->AH->Prop)(Y4:(Sl×Int)->AH->Prop)(u2:Sl)(I:AH):=
 Y4 (u2,i64.wrap (u1+1)) I
def ko(B:World)(ro:AH)(a0:Option Addr)(a1 u0 u1:Sl)(u2:Int)(u3:ByteArray)(Q:Sl->AH->Prop)(Y4:(Sl×Int)->AH->Prop)(u4:Bool)(I:AH):=
 if u4=true then
 nw ro I (.cells #[.string u3] 9) fun u5 I=>
 awp prog ro (Builtin.append_ #[27,27] 27 #[Sl.v u0,Sl.v (⟨some ⟨u5,0,none⟩,1,1⟩:Sl)]) (fun v I=> ∃(u6:Sl),v=Sl.v u6/\
  kY B ro a0 a1 u1 u2 Q Y4 u6 I) I
 else
 kY B ro a0 a1 u1 u2 Q Y4 u0 I
def kZ(B:World)(ro:AH)(a0:Option Addr)(a1 u0:Sl)(Q:Sl->AH->Prop):(Sl×Int)->AH->((Sl×Int)->AH->Prop)->Prop:=fun⟨u1,u2⟩ I Y4=>
 if u2<(u0.len:Int)then
 ∃p3,u0.a=some p3/\(0:Int)<=u2/\u2<(u0.len:Int)/\
 ∃u4,qa ro I (p3.add (Int.toNat u2*1))=some (.string u4)/\
 ∃p5,a0=some p5/\
 ∃u6,qa ro I p5=some (.map u6)/\
 awp prog ro (Instr.lookup 237 (.map u6) (.string u4) false) (fun v I=>
  (∃(u7:Option Addr),v= .pointer u7/\
  ∃p8,u7=some p8/\
  ∃u9,qa ro I (p8.add 2)=some (.int .i64 u9)/\
  if¬(u9=0)then
   yv B ro a1 u9 I fun u10 I=>
   ko B ro a0 a1 u1 u0 u2 u4 Q Y4 u10 I
  else
  ko B ro a0 a1 u1 u0 u2 u4 Q Y4 false I)) I
 else
 pq B ro Q u1 I
def aa7(B:World)(ro:AH)(a0:Option Addr)(a1:Sl)(I:AH)(Q:Sl->AH->Prop):=
 xo B ro a0 I fun u0 I=>
 lfpD (kZ B ro a0 a1 u0 Q) ((⟨none,0,0⟩:Sl),0) I
theorem ahw{a1:Sl}{Q:Sl->AH->Prop}(h:Sep ro I->aa7 B ro a0 a1 I Q):aa1 B ro a0 a1 I Q:=by
 refine zb h func183 ntmps183 fun h=>?_;unfold aa7 at h;refine z3 ?_;refine zp ?_;refine z4 ?_;refine zp ?_;refine z2 ?_;refine AW.seqJ (fun fr I=> ∃(u0:Sl),qo [(5,Sl.v u0)] fr/\pq B ro Q u0 I) ?_ ?_
 .rintro fr I ⟨u0,hl,h⟩;refine AW.weaken ?_ hl (HLe.refl _)
  unfold pq at h;refine z3 ?_;iterate 2 refine zp ?_
  refine z2 ?_;refine AW.ret ?_;exact bR1 results183 rfl ⟨_,rfl,h⟩
 refine z3 ?_;refine zp ?_;refine zc func84 h ?_;rintro v I ⟨u1,rfl,h⟩;refine zm (qT rfl rfl underlying27 rfl rfl) ?_;refine zp ?_;refine z2 (AW.block ?_)
 refine qk.loop (fr':=[(0,.pointer a0),(1,Sl.v a1),(10,Sl.v u1),(11,.int .i64 (u1.len:Int)),(5,Sl.v (⟨none,0,0⟩:Sl)),(12,.int .i64 0)]) ?_ FL
 refine h (fun⟨u2,u3⟩ I=>qk _ _ _ _ _ _ [(0,.pointer a0),(1,Sl.v a1),(10,Sl.v u1),(11,.int .i64 (u1.len:Int)),(5,Sl.v u2),(12,.int .i64 u3)] I) ?_
 rintro⟨u2,u3⟩ I Y4 hY4 h
 show AW _ _ _ _ _ _ _ _
 unfold kZ at h;dsimp only at h;refine z3 ?_;refine zp ?_;refine z2 (AW.seq ?_)
 refine zi h (fun h=>?_) fun h=>?_
 rotate_left
 .refine AW.exit ?_;refine qH (qH ?_);refine wB ?_
  refine qd ?_;exact⟨_,FL,h⟩
 refine AW.skip ?_;refine qd ?_;refine AW.seqJ (fun fr I=> ∃(u4:Sl),qo [(0,.pointer a0),(1,Sl.v a1),(10,Sl.v u1),(11,.int .i64 (u1.len:Int)),(12,.int .i64 u3),(5,Sl.v u4)] fr/\kY B ro a0 a1 u1 u3 Q Y4 u4 I) ?_ ?_
 .rintro fr I ⟨u4,hl,h⟩;refine AW.weaken ?_ hl (HLe.refl _)
  unfold kY at h;refine AW.reg ?_;iterate 2 refine zp ?_
  refine z2 ?_;refine qk.head (fr':=[(0,.pointer a0),(1,Sl.v a1),(10,Sl.v u1),(11,.int .i64 (u1.len:Int)),(5,Sl.v u4),(12,.int .i64 (i64.wrap (u3+1)))]) ?_ FL
  exact hY4 _ _ h
 refine AW.block (z3 ?_);obtain⟨p5,ha,h0,h1,h⟩:=h
 refine zm (vv rfl underlying27 ty9 (ixL rfl ha) rfl h0 h1) ?_;refine zL underlying9 h fun u6 h=>?_;refine zp ?_;refine z4 ?_;refine zp ?_;refine zN h fun p7 h=>?_;refine zf underlying239 aaM ?_;refine zL underlying237 h fun u8 h=>?_;refine zp ?_;refine zl (jC rfl rfl rfl (qm _ h ?_))
 rintro v I ⟨u9,rfl,h⟩;refine zN h fun p10 h=>?_;refine zf underlying168 wA ?_;refine zf underlying26 ty3 ?_;refine zL underlying3 h fun u11 h=>?_;refine zp ?_;refine z4 ?_;iterate 3 refine zp ?_
 refine qO 4 (!(decide (u11=0))) (qu decide_eq_true_iff) h (fun fr I=> ∃(u12:Bool),qo [(0,.pointer a0),(1,Sl.v a1),(5,Sl.v u2),(7,.string u6),(10,Sl.v u1),(11,.int .i64 (u1.len:Int)),(12,.int .i64 u3),(32,.bool u12)] fr/\ko B ro a0 a1 u2 u1 u3 u6 Q Y4 u12 I) ?_ ?_ ?_
 .intro h e2 hk2;refine zy e2 ?_;refine zy e2 ?_;refine Lyb rfl rfl rfl rfl e2 (qF rfl func205 rfl rfl rfl (qc.mono h ?_))
  rintro v I ⟨u13,rfl,h⟩;refine zk e2 ?_;exact hk2 _ _ ⟨_,FL,h⟩
 .intro h e2 hk2;iterate 3 refine zn e2 ?_
  refine zk e2 ?_;exact hk2 _ _ ⟨_,FL,h⟩
 rintro fr I ⟨u12,hl,h⟩;unfold ko at h;refine Lfr hl ?_
 refine z2 ?_;refine zj h (fun h=>?_) fun h=>?_
 rotate_left
 .refine AW.skip ?_;refine qD (qd ?_);exact⟨_,FL,h⟩
 refine AW.reg ?_;iterate 2 refine zp ?_
 refine zA (zR (vs:=[(0,.string u6)]) (cs:= #[.string u6]) rfl underlying27 ty9 (by decide) rfl rfl) h fun u14 h=>?_;refine zl (je (s:=Builtin.append_ #[27,27] 27 #[Sl.v u2,Sl.v (⟨some ⟨u14,0,none⟩,1,1⟩:Sl)]) rfl rfl (fun _=>rfl) (qm _ h ?_))
 rintro v I ⟨u15,rfl,h⟩;refine zp ?_;refine ju (qD (qd ?_));exact⟨_,FL,h⟩
def aaC(B:World)(ro:AH)(a0:Option Addr)(a1:ByteArray)(a2:Int)(I:AH)(Q:Int->AH->Prop):=
 pO B ro a0 a1 a2 I fun u0 u1 I=>
 if¬(u1=0)then
 Q u1 I
 else
 ∃p2,u0=some p2/\
 ∃u3,qa ro I (p2.add 3)=some (.int .i64 u3)/\
 if 0<u3 then
 Q 73 I
 else
 yj B ro a1 I fun u4 u5 I=>
 ∃p6,a0=some p6/\
 ∃u7,qa ro I p6=some (.map u7)/\
 awp prog ro (Instr.lookup 237 (.map u7) (.string u4) false) (fun v I=>
 (∃(u8:Option Addr),v= .pointer u8/\
  ∃p9,u8=some p9/\
  ∃u10,qa ro I (p9.add 3)=some (.int .i64 u10)/\
  ∃p11,u8=some p11/\
  stN (p11.add 3) (fun I=>
  ∃p12,a0=some p12/\
  ∃u13,qa ro I p12=some (.map u13)/\
  awp prog ro (Builtin.delete_ #[237,9] 0 #[.map u13,.string a1]) (fun v I=>v= .tuple #[]/\
   Q 0 I) I) [.int .i64 (i64.wrap (u10 - 1))] 0 I)) I
theorem agP{Q:Int->AH->Prop}(h:Sep ro I->aaC B ro a0 a1 a2 I Q):jo B ro a0 a1 a2 I Q:=by
 refine zb h func184 ntmps184 fun h=>?_;unfold aaC at h;refine z3 ?_;refine zp ?_;refine z4 ?_;iterate 3 refine zp ?_
 refine zc func231 h ?_;rintro v I ⟨u0,u1,rfl,h⟩;iterate 5 refine zp ?_
 refine z2 (AW.seq (AW.block (z3 ?_)))
 iterate 3 refine zp ?_
 refine z2 ?_;refine AW.iff rfl (qu decide_eq_true_iff) h (fun h=>?_) (fun h=>?_)
 .refine z3 ?_;iterate 2 refine zp ?_
  refine z2 ?_;refine AW.ret ?_;refine qx (qi ?_);exact bR1 results184 rfl ⟨_,rfl,h⟩
 refine z3 ?_;refine zp ?_;refine zN h fun p2 h=>?_;refine zf underlying168 wA ?_;refine zf underlying26 ty3 ?_;refine zL underlying3 h fun u3 h=>?_;iterate 2 refine zp ?_
 refine z2 ?_;refine zi h (fun h=>?_) fun h=>?_
 .refine z3 ?_;refine zp ?_;refine z2 ?_;refine AW.ret ?_;refine qx (qi ?_);exact bR1 results184 rfl ⟨_,rfl,h⟩
 refine AW.skip ?_;refine qD (qd (z3 ?_));refine zp ?_;refine zc func179 h ?_;rintro v I ⟨u4,u5,rfl,h⟩;iterate 5 refine zp ?_
 refine z4 ?_;refine zp ?_;refine zN h fun p6 h=>?_;refine zf underlying239 aaM ?_;refine zL underlying237 h fun u7 h=>?_;refine zp ?_;refine zl (jC rfl rfl rfl (qm _ h ?_))
 rintro v I ⟨u8,rfl,h⟩;refine zN h fun p9 h=>?_;refine zf underlying168 wA ?_;refine zf underlying26 ty3 ?_;refine zL underlying3 h fun u10 h=>?_;refine zp ?_;refine zN h fun p11 h=>?_;refine zf underlying168 wA ?_;refine zf underlying26 ty3 ?_;refine zs ty3 h fun I h=>?_;refine z4 ?_;refine zp ?_;refine zN h fun p12 h=>?_;refine zf underlying239 aaM ?_;refine zL underlying237 h fun u13 h=>?_
 refine zp ?_;refine zl (je (s:=Builtin.delete_ #[237,9] 0 #[.map u13,.string a1]) rfl rfl (fun _=>rfl) (qm _ h ?_))
 rintro v I ⟨rfl,h⟩;refine z4 ?_;refine zp ?_;refine z2 ?_;refine AW.ret ?_;exact bR1 results184 rfl ⟨_,rfl,h⟩
def vj(B:World)(ro:AH)(u0:Option Addr)(u1:Int)(Q:Option Addr->Int->AH->Prop)(u2:Bool)(I:AH):=
 if u2=true then
 Q none 72 I
 else
 Q u0 u1 I
def aa8(B:World)(ro:AH)(a0:Option Addr)(a1:ByteArray)(a2:Int)(I:AH)(Q:Option Addr->Int->AH->Prop):=
 if a1=(⟨#[47]⟩:ByteArray)then
 Q none 20 I
 else
 yp B ro a0 a1 I fun u0 u1 I=>
 if(u1=0)/\(¬(a2=(-1)))then
 ∃p2,u0=some p2/\
 ∃u3,qa ro I p2=some (.int .i64 u3)/\
 vj B ro u0 u1 Q (!(decide (a2=u3))) I
 else
 vj B ro u0 u1 Q false I
theorem ahx(h:Sep ro I->aa8 B ro a0 a1 a2 I Q):pO B ro a0 a1 a2 I Q:=by
 refine zb h func231 ntmps231 fun h=>?_;unfold aa8 at h;refine z3 ?_;iterate 2 refine zp ?_
 refine z2 (AW.seq (z3 ?_))
 iterate 2 refine zp ?_
 refine z2 ?_;refine zi h (fun h=>?_) fun h=>?_
 .refine z3 ?_;iterate 2 refine zp ?_
  refine z2 ?_;refine AW.ret ?_;refine qi ?_;exact bR2 results231 rfl rfl ⟨_,_,rfl,h⟩
 refine AW.skip ?_;refine qd (z3 ?_);iterate 2 refine zp ?_
 refine zc func79 h ?_;rintro v I ⟨u0,u1,rfl,h⟩;iterate 5 refine zp ?_
 refine z2 (AW.seq (z3 ?_))
 iterate 3 refine zp ?_
 refine wW 3 (decide (u1=0)) [(2,.int .i64 a2),(8,.pointer u0),(9,.int .i64 u1),(23,.bool ((decide (u1=0)) && (!(decide (a2=(-1))))))] ?_ ?_ ?_
 .intro e2 hk2
  refine zy e2 ?_;refine zy e2 ?_;refine zk e2 ?_;exact hk2 _ (Fe e2)
 .intro e2 hk2
  iterate 2 refine zn e2 ?_
  refine zk e2 ?_;exact hk2 _ (Fe e2)
 intro fr hl
 refine Lfr hl ?_
 refine zp ?_;refine qO 8 ((decide (u1=0)) && (!(decide (a2=(-1))))) (acj decide_eq_true_iff (qu decide_eq_true_iff)) h (fun fr I=> ∃(u2:Bool),qo [(8,.pointer u0),(9,.int .i64 u1),(32,.bool u2)] fr/\vj B ro u0 u1 Q u2 I) ?_ ?_ ?_
 .intro h e6 hk6;refine zy e6 ?_;refine zy e6 ?_;obtain⟨p3,hc,h⟩:=h
  refine qX (qr rfl (by rw[<-hc];try rfl)) rfl rfl rfl rfl e6 ?_
  refine qX (wm rfl underlying168 rfl wA (by decide) rfl) rfl rfl rfl rfl e6 ?_
  refine qX (wm rfl underlying26 rfl ty3 (by decide) rfl) rfl rfl rfl rfl e6 ?_
  obtain⟨u4,hc,h⟩:=h
  refine Lyb rfl rfl rfl rfl e6 (vG rfl underlying3 rfl rfl hc ?_)
  refine zy e6 ?_;refine zk e6 ?_;exact hk6 _ _ ⟨_,FL,h⟩
 .intro h e6 hk6;iterate 7 refine zn e6 ?_
  refine zk e6 ?_;exact hk6 _ _ ⟨_,FL,h⟩
 rintro fr I ⟨u2,hl,h⟩;unfold vj at h;refine Lfr hl ?_
 refine z2 ?_;refine zj h (fun h=>?_) fun h=>?_
 .refine z3 ?_;iterate 2 refine zp ?_
  refine z2 ?_;refine AW.ret ?_;refine qi ?_;exact bR2 results231 rfl rfl ⟨_,_,rfl,h⟩
 refine AW.skip ?_;refine qd (z3 ?_);iterate 4 refine zp ?_
 refine z2 ?_;refine AW.ret ?_;exact bR2 results231 rfl rfl ⟨_,_,rfl,h⟩
def jG(B:World)(ro:AH)(Q:Sl->Int->AH->Prop)(u0:Sl)(I:AH):=
 Q u0 0 I
def vc(B:World)(ro:AH)(a1:ByteArray)(u0:Sl)(u1:Int)(Q:Sl->Int->AH->Prop)(Y6:(Sl×Int)->AH->Prop)(u2:Sl)(I:AH):=
 Y6 (u2,i64.wrap (u1+1)) I
def vM(B:World)(ro:AH)(a1:ByteArray)(u0:Sl)(Q:Sl->Int->AH->Prop):(Sl×Int)->AH->((Sl×Int)->AH->Prop)->Prop:=fun⟨u1,u2⟩ I Y6=>
 if u2<(u0.len:Int)then
 ∃p3,u0.a=some p3/\(0:Int)<=u2/\u2<(u0.len:Int)/\
 ∃u4,qa ro I (p3.add (Int.toNat u2*1))=some (.string u4)/\
 yj B ro u4 I fun u5 u6 I=>
 if(u6=0)/\(u5=a1)then
  afK B ro u4 I fun u7 u8 I=>
  nw ro I (.cells #[.string u7] 9) fun u9 I=>
  awp prog ro (Builtin.append_ #[27,27] 27 #[Sl.v u1,Sl.v (⟨some ⟨u9,0,none⟩,1,1⟩:Sl)]) (fun v I=> ∃(u10:Sl),v=Sl.v u10/\
  vc B ro a1 u0 u2 Q Y6 u10 I) I
 else
 vc B ro a1 u0 u2 Q Y6 u1 I
 else
 jG B ro Q u1 I
def uE(B:World)(ro:AH)(a0:Option Addr)(a1:ByteArray)(I:AH)(Q:Sl->Int->AH->Prop):=
 yp B ro a0 a1 I fun u0 u1 I=>
 if¬(u1=0)then
 Q (⟨none,0,0⟩:Sl) u1 I
 else
 xo B ro a0 I fun u2 I=>
 lfpD (vM B ro a1 u2 Q) ((⟨none,0,0⟩:Sl),0) I
theorem afR{Q:Sl->Int->AH->Prop}(h:Sep ro I->uE B ro a0 a1 I Q):uB B ro a0 a1 I Q:=by
 refine zb h func237 ntmps237 fun h=>?_;unfold uE at h;refine z3 ?_;iterate 2 refine zp ?_
 refine z2 (AW.seq (z3 ?_))
 iterate 2 refine zp ?_
 refine zc func79 h ?_;rintro v I ⟨u0,u1,rfl,h⟩;iterate 5 refine zp ?_
 refine z4 ?_;iterate 2 refine zp ?_
 refine z2 ?_;refine AW.iff rfl (qu decide_eq_true_iff) h (fun h=>?_) (fun h=>?_)
 .refine z3 ?_;iterate 3 refine zp ?_
  refine z2 ?_;refine AW.ret ?_;refine qi ?_;exact bR2 results237 rfl rfl ⟨_,_,rfl,h⟩
 refine AW.skip ?_;refine qd (z3 ?_);refine zp ?_;refine z2 ?_;refine AW.seqJ (fun fr I=> ∃(u2:Sl),qo [(8,Sl.v u2)] fr/\jG B ro Q u2 I) ?_ ?_
 .rintro fr I ⟨u2,hl,h⟩;refine AW.weaken ?_ hl (HLe.refl _)
  unfold jG at h;refine z3 ?_;iterate 3 refine zp ?_
  refine z2 ?_;refine AW.ret ?_;exact bR2 results237 rfl rfl ⟨_,_,rfl,h⟩
 refine z3 ?_;refine zp ?_;refine zc func84 h ?_;rintro v I ⟨u3,rfl,h⟩;refine zm (qT rfl rfl underlying27 rfl rfl) ?_;refine zp ?_;refine z2 (AW.block ?_)
 refine qk.loop (fr':=[(1,.string a1),(25,Sl.v u3),(26,.int .i64 (u3.len:Int)),(8,Sl.v (⟨none,0,0⟩:Sl)),(27,.int .i64 0)]) ?_ FL
 refine h (fun⟨u4,u5⟩ I=>qk _ _ _ _ _ _ [(1,.string a1),(25,Sl.v u3),(26,.int .i64 (u3.len:Int)),(8,Sl.v u4),(27,.int .i64 u5)] I) ?_
 rintro⟨u4,u5⟩ I Y6 hY6 h
 show AW _ _ _ _ _ _ _ _
 unfold vM at h;dsimp only at h;refine z3 ?_;refine zp ?_;refine z2 (AW.seq ?_)
 refine zi h (fun h=>?_) fun h=>?_
 rotate_left
 .refine AW.exit ?_;refine qH (qH ?_);refine wB ?_
  refine qd ?_;exact⟨_,FL,h⟩
 refine AW.skip ?_;refine qd ?_;refine AW.seqJ (fun fr I=> ∃(u6:Sl),qo [(1,.string a1),(25,Sl.v u3),(26,.int .i64 (u3.len:Int)),(27,.int .i64 u5),(8,Sl.v u6)] fr/\vc B ro a1 u3 u5 Q Y6 u6 I) ?_ ?_
 .rintro fr I ⟨u6,hl,h⟩;refine AW.weaken ?_ hl (HLe.refl _)
  unfold vc at h;refine AW.reg ?_;iterate 2 refine zp ?_
  refine z2 ?_;refine qk.head (fr':=[(1,.string a1),(25,Sl.v u3),(26,.int .i64 (u3.len:Int)),(8,Sl.v u6),(27,.int .i64 (i64.wrap (u5+1)))]) ?_ FL
  exact hY6 _ _ h
 refine AW.block (z3 ?_);obtain⟨p7,ha,h0,h1,h⟩:=h
 refine zm (vv rfl underlying27 ty9 (ixL rfl ha) rfl h0 h1) ?_;refine zL underlying9 h fun u8 h=>?_;refine zp ?_;refine z4 ?_;refine zp ?_;refine zc func179 h ?_;rintro v I ⟨u9,u10,rfl,h⟩;iterate 5 refine zp ?_
 refine z4 ?_;iterate 3 refine zp ?_
 refine wW 4 (decide (u10=0)) [(1,.string a1),(8,Sl.v u4),(10,.string u8),(25,Sl.v u3),(26,.int .i64 (u3.len:Int)),(27,.int .i64 u5),(42,.bool ((decide (u10=0)) && (decide (u9=a1))))] ?_ ?_ ?_
 .intro e2 hk2
  refine zy e2 ?_;refine zy e2 ?_;refine zy e2 ?_;refine zk e2 ?_;exact hk2 _ (Fe e2)
 .intro e2 hk2
  iterate 3 refine zn e2 ?_
  refine zk e2 ?_;exact hk2 _ (Fe e2)
 intro fr hl
 refine Lfr hl ?_
 refine z2 ?_;refine AW.iff rfl (acj decide_eq_true_iff decide_eq_true_iff) h (fun h=>?_) (fun h=>?_)
 rotate_left
 .refine AW.skip ?_;refine qD (qd ?_);exact⟨_,FL,h⟩
 refine z3 ?_;refine zp ?_;refine zc func274 h ?_;rintro v I ⟨u11,u12,rfl,h⟩;iterate 5 refine zp ?_
 refine z2 (AW.reg ?_)
 iterate 2 refine zp ?_
 refine zA (zR (vs:=[(0,.string u11)]) (cs:= #[.string u11]) rfl underlying27 ty9 (by decide) rfl rfl) h fun u13 h=>?_;refine zl (je (s:=Builtin.append_ #[27,27] 27 #[Sl.v u4,Sl.v (⟨some ⟨u13,0,none⟩,1,1⟩:Sl)]) rfl rfl (fun _=>rfl) (qm _ h ?_))
 rintro v I ⟨u14,rfl,h⟩;refine zp ?_;refine ju (qD (qd ?_));exact⟨_,FL,h⟩
def xU(B:World)(ro:AH)(a0:Option Addr)(a1:ByteArray)(a2:Sl)(a3:Int)(Q:Int->Int->AH->Prop)(u0:Bool)(I:AH):=
 if u0=true then
 Q 0 20 I
 else
 if 256<(a2.len:Int)then
 Q 0 75 I
 else
 pO B ro a0 a1 a3 I fun u1 u2 I=>
 if¬(u2=0)then
 Q 0 u2 I
 else
 kn B ro a2 I fun u3 I=>
 ∃p4,u1=some p4/\
 stN (p4.add 4) (fun I=>
 ∃p5,u1=some p5/\
 ∃u6,qa ro I p5=some (.int .i64 u6)/\
 ∃p7,u1=some p7/\
 stN p7 (fun I=>
  ∃p8,u1=some p8/\
  ∃u9,qa ro I p8=some (.int .i64 u9)/\
  Q u9 0 I) [.int .i64 (i64.wrap (u6+1))] 0 I) [Sl.v u3] 0 I
def acx(B:World)(ro:AH)(a0:Option Addr)(a1:ByteArray)(a2:Sl)(a3:Int)(I:AH)(Q:Int->Int->AH->Prop):=
 if a1=(⟨#[47]⟩:ByteArray)then
 xU B ro a0 a1 a2 a3 Q true I
 else
 vo B ro a1 I fun u0 I=>
 xU B ro a0 a1 a2 a3 Q (!(decide (u0=0))) I
theorem aiM{a2:Sl}{Q:Int->Int->AH->Prop}(h:Sep ro I->acx B ro a0 a1 a2 a3 I Q):acr B ro a0 a1 a2 a3 I Q:=by
 refine zb h func273 ntmps273 fun h=>?_;unfold acx at h;refine z3 ?_;iterate 2 refine zp ?_
 refine z2 (AW.seq (z3 ?_))
 iterate 3 refine zp ?_
 refine qO 4 (decide (a1=(⟨#[47]⟩:ByteArray))) decide_eq_true_iff h (fun fr I=> ∃(u0:Bool),qo [(0,.pointer a0),(1,.string a1),(2,Sl.v a2),(3,.int .i64 a3),(18,.bool u0)] fr/\xU B ro a0 a1 a2 a3 Q u0 I) ?_ ?_ ?_
 .intro h e2 hk2;iterate 3 refine zn e2 ?_
  refine zk e2 ?_;exact hk2 _ _ ⟨_,FL,h⟩
 .intro h e2 hk2;refine zy e2 ?_;refine Lyb rfl rfl rfl rfl e2 (qF rfl func82 rfl rfl rfl (qc.mono h ?_))
  rintro v I ⟨u1,rfl,h⟩;refine zy e2 ?_;refine zk e2 ?_;exact hk2 _ _ ⟨_,FL,h⟩
 rintro fr I ⟨u0,hl,h⟩;unfold xU at h;refine Lfr hl ?_
 refine z2 ?_;refine zj h (fun h=>?_) fun h=>?_
 .refine z3 ?_;iterate 2 refine zp ?_
  refine z2 ?_;refine AW.ret ?_;refine qi ?_;exact bR2 results273 rfl rfl ⟨_,_,rfl,h⟩
 refine AW.skip ?_;refine qd (AW.seq (z3 ?_));refine zp ?_;refine zm (qT rfl rfl underlying24 rfl rfl) ?_;refine zp ?_;refine z2 ?_;refine zi h (fun h=>?_) fun h=>?_
 .refine z3 ?_;iterate 2 refine zp ?_
  refine z2 ?_;refine AW.ret ?_;refine qi ?_;exact bR2 results273 rfl rfl ⟨_,_,rfl,h⟩
 refine AW.skip ?_;refine qd (z3 ?_);iterate 3 refine zp ?_
 refine zc func231 h ?_;rintro v I ⟨u2,u3,rfl,h⟩;iterate 5 refine zp ?_
 refine z2 (AW.seq (z3 ?_))
 iterate 2 refine zp ?_
 refine z2 ?_;refine AW.iff rfl (qu decide_eq_true_iff) h (fun h=>?_) (fun h=>?_)
 .refine z3 ?_;iterate 3 refine zp ?_
  refine z2 ?_;refine AW.ret ?_;refine qi ?_;exact bR2 results273 rfl rfl ⟨_,_,rfl,h⟩
 refine AW.skip ?_;refine qd (z3 ?_);iterate 2 refine zp ?_
 refine zc func80 h ?_;rintro v I ⟨u4,rfl,h⟩;refine zN h fun p5 h=>?_;refine zf underlying168 wO ?_;refine zs wO h fun I h=>?_;refine z4 ?_;refine zp ?_;refine zN h fun p6 h=>?_;refine zf underlying168 wA ?_;refine zf underlying26 ty3 ?_;refine zL underlying3 h fun u7 h=>?_;refine zp ?_;refine zN h fun p8 h=>?_;refine zf underlying168 wA ?_;refine zf underlying26 ty3 ?_
 refine zs ty3 h fun I h=>?_;refine z4 ?_;refine zp ?_;refine zN h fun p9 h=>?_;refine zf underlying168 wA ?_;refine zf underlying26 ty3 ?_;refine zL underlying3 h fun u10 h=>?_;iterate 2 refine zp ?_
 refine z2 ?_;refine AW.ret ?_;exact bR2 results273 rfl rfl ⟨_,_,rfl,h⟩
end G
namespace Zt
open Go SL G Pa
variable{B:World}{ro I I':AH}{tag tag':Nat->Nat}
structure Nd where
 ver:Int
 ctr:Int
 own:Int
 kids:Int
 data:Str
abbrev St:=List (Str×Nd)
abbrev vI(x:Int):Value:= .int .i64 x
abbrev vU(c:UInt8):Value:= .int .u8 c.toNat
abbrev ptr(b:Nat):Value:= .pointer (some ⟨b,0,none⟩)
def abX(tag:Nat->Nat)(I:AH)(r b:Nat)(n:Nd):Prop:=
 ∃s:Sl,Row tag I (r+64*(b+2)) 168 ⟨some ⟨b,0,none⟩,5,5⟩ [vI n.ver,vI n.ctr,vI n.own,vI n.kids,Sl.v s]/\Row tag I 6 5 s (n.data.map vU)
def kv:St->List Nat->KV
 | (p,_)::st,b::bs=>(p,ptr b)::kv st bs
 | _,_=>[]
structure qZ(tag:Nat->Nat)(I:AH)(r T M:Nat)(bs:List Nat)(st:St):Prop where
 keys:(st.map (·.1)).Nodup
 len:bs.length=st.length
 nd:bs.Nodup
 cell:Row tag I r 239 ⟨some ⟨T,0,none⟩,1,1⟩ [.map (some M)]
 map:zO tag I (r+64) M (kv st bs)
 nodes:∀ (i b:Nat) (p:Str×Nd),bs[i]?=some b->st[i]?=some p->abX tag I r b p.2
def wa(tag:Nat->Nat)(I:AH)(r T:Nat)(st:St):Prop:= ∃M bs,qZ tag I r T M bs st
theorem abX.keep{R:List Nat}{r b:Nat}{n:Nd}(h:abX tag I r b n)(k:qe R ro tag I tag' I')(h1:r+64*(b+2)∉R:=by simp)(h2:6∉R:=by simp):abX tag' I' r b n:=by
 obtain⟨s,a,c⟩:=h
 exact⟨s,a.keep k h1,c.keep k h2⟩
theorem qZ.keepC{c r T M:Nat}{bs:List Nat}{st:St}(h:qZ tag I r T M bs st)(k:zF c ro tag I tag' I')(hr:r%64≠c:=by decide)(h6:c≠6:=by decide):qZ tag' I' r T M bs st:=
 ⟨h.keys,h.len,h.nd,h.cell.keepC k hr,h.map.keepC k (by omega),fun i b p hb hp=>by
  obtain⟨s,a,e⟩:=h.nodes i b p hb hp
  exact⟨s,a.keepC k (by omega),e.keepC k (by omega)⟩⟩
theorem qZ.keep{R:List Nat}{r T M:Nat}{bs:List Nat}{st:St}(h:qZ tag I r T M bs st)(k:qe R ro tag I tag' I')(hR:∀ x∈R,x%64≠r%64/\x≠6:=by simp):qZ tag' I' r T M bs st:=
 ⟨h.keys,h.len,h.nd,h.cell.keep k fun m=>(hR _ m).1 rfl,h.map.keep k fun m=>(hR _ m).1 (by omega),fun i b p hb hp=>(h.nodes i b p hb hp).keep k (fun m=>(hR _ m).1 (by omega)) fun m=>(hR _ m).2 rfl⟩
theorem wa.keep{R:List Nat}{r T:Nat}{st:St}(h:wa tag I r T st)(k:qe R ro tag I tag' I')(hR:∀ x∈R,x%64≠r%64/\x≠6:=by simp):wa tag' I' r T st:=by
 obtain⟨M,bs,h⟩:=h
 exact⟨M,bs,h.keep k hR⟩
theorem aa9:∀ (st:St) (bs:List Nat) (u:Str),bs.length=st.length->
  (st.lookup u=none/\(kv st bs).lookup u=none)\/∃ (i b:Nat) (n:Nd),bs[i]?=some b/\st[i]?=some (u,n)/\st.lookup u=some n/\(kv st bs).lookup u=some (ptr b):=by
 intro st
 induction st with
 | nil=>intro bs u h;exact .inl ⟨rfl,by cases bs<;>rfl⟩
 | cons p st ih=>
  intro bs u h
  cases bs with
  | nil=>simp at h
  | cons b bs=>
   obtain⟨p,n⟩:=p
   simp only[List.length_cons,Nat.add_right_cancel_iff]at h
   unfold kv
   rw[List.lookup_cons,List.lookup_cons]
   by_cases c:u=p
   .subst c
    rw[show(u == u)=true by simp]
    exact .inr ⟨0,b,n,rfl,rfl,rfl,rfl⟩
   .rw[show(u == p)=false by simpa using c]
    rcases ih bs u h with h' | ⟨i,b',n',h1,h2,h3,h4⟩
    .exact .inl h'
    .exact .inr ⟨i+1,b',n',by simpa using h1,by simpa using h2,h3,h4⟩
def wi(st:St)(u:Str)(f:Nd->Nd):St:=st.map fun p=>if p.1=u then(p.1,f p.2)else p
theorem agQ{st:St}(hk:(st.map (·.1)).Nodup){i:Nat}{u:Str}{n:Nd}(h:st[i]?=some (u,n))(f:Nd->Nd):wi st u f=st.set i (u,f n):=by
 unfold wi
 apply List.ext_getElem?
 intro j
 rw[List.getElem?_map,List.getElem?_set]
 have hil:i<st.length:=by
  rcases Nat.lt_or_ge i st.length with h' | h'
  .exact h'
  .rw[List.getElem?_eq_none h']at h;cases h
 by_cases c:i=j
 .subst c;rw[if_pos rfl,if_pos hil,h];simp
 .rw[if_neg c]
  cases e:st[j]? with
  | none=>rfl
  | some p=>
   have hne:p.1≠u:=by
    intro hp
    apply c
    have hjl:j<st.length:=by
     rcases Nat.lt_or_ge j st.length with h' | h'
     .exact h'
     .rw[List.getElem?_eq_none h']at e;cases e
    refine(List.getElem_inj (h₀:=by simpa using hil) (h₁:=by simpa using hjl) hk).1 ?_
    rw[List.getElem?_eq_getElem hil]at h
    rw[List.getElem?_eq_getElem hjl]at e
    simp only[List.getElem_map]
    rw[Option.some.inj h,Option.some.inj e,hp]
   simp[hne]
theorem asT:∀ (st:St) (bs:List Nat) (i:Nat) (u:Str) (n n':Nd),st[i]?=some (u,n)->kv (st.set i (u,n')) bs=kv st bs:=by
 intro st
 induction st with
 | nil=>intro bs i u n n' h;cases h
 | cons p st ih=>
  intro bs i u n n' h
  cases bs with
  | nil=>cases i<;>simp[kv]
  | cons b bs=>
   cases i with
   | zero=>cases h;rfl
   | succ i=>simp only[List.set_cons_succ];unfold kv;rw[ih bs i u n n' (by simpa using h)]
theorem aqv{st:St}{i:Nat}{u:Str}{n n':Nd}(h:st[i]?=some (u,n)):(st.set i (u,n')).map (·.1)=st.map (·.1):=by
 rw[List.map_set]
 apply List.ext_getElem?
 intro j
 rw[List.getElem?_set,List.getElem?_map]
 by_cases c:i=j
 .subst c;rw[h];simp
  rcases Nat.lt_or_ge i st.length with h' | h'
  .exact h'
  .rw[List.getElem?_eq_none h']at h;cases h
 .rw[if_neg c]
theorem anz{α:Type}{l:List α}(hn:l.Nodup){i j:Nat}{x:α}(hi:l[i]?=some x)(hj:l[j]?=some x):i=j:=by
 have hil:i<l.length:=by
  rcases Nat.lt_or_ge i l.length with h' | h'
  .exact h'
  .rw[List.getElem?_eq_none h']at hi;cases hi
 have hjl:j<l.length:=by
  rcases Nat.lt_or_ge j l.length with h' | h'
  .exact h'
  .rw[List.getElem?_eq_none h']at hj;cases hj
 rw[List.getElem?_eq_getElem hil]at hi
 rw[List.getElem?_eq_getElem hjl]at hj
 exact(List.getElem_inj hn).1 (by rw[Option.some.inj hi,Option.some.inj hj])
theorem qZ.write{r T i b M:Nat}{st:St}{bs:List Nat}{u:Str}{n n':Nd}(h:qZ tag I r T M bs st)(hr:r<64)(hr6:r≠6)(hb:bs[i]?=some b)(hp:st[i]?=some (u,n))(k:qe [r+64*(b+2)] ro tag I tag' I')(hnew:abX tag' I' r b n'):qZ tag' I' r T M bs (st.set i (u,n')):=by
 refine⟨by rw[aqv hp];exact h.keys,by simpa using h.len,h.nd,h.cell.keep k,?_,fun j c p hc hp'=>?_⟩
 .rw[asT _ _ _ _ _ _ hp];exact h.map.keep k (by simp;omega)
 .rw[List.getElem?_set]at hp'
  by_cases e:i=j
  .subst e
   rw[hb]at hc;cases hc
   rw[if_pos rfl]at hp'
   split at hp'
   .cases hp';exact hnew
   .cases hp'
  .rw[if_neg e]at hp'
   refine(h.nodes j c p hc hp').keep k ?_ ?_
   .simp
    intro h'
    have:b=c:=by omega
    subst this
    exact e (anz h.nd hb hc)
   .simp;omega
theorem u126:prog.underlying 237=some (.map 9 164):=by kernel_rfl
theorem u9:prog.underlying 9=some .string:=by kernel_rfl
theorem u30:prog.underlying 24=some (.slice 5):=by kernel_rfl
theorem agR:qp prog 164 (.pointer none) 1 8:=qp.of (by kernel_rfl)
theorem aba{s:Sl}{l:List Value}{Q:Sl->AH->Prop}(h:SL.zw ro I s l)(hs:SL.Sep ro I)(hl:l.length<=140737488355328)(hv:∀ v∈l,qh v=true)(hQ:∀ s' tag' I',(∀R,qe R ro tag I tag' I')->Row tag' I' 6 5 s' l->Q s' I'):kn B ro s I Q:=by
 refine aku fun _=>?_
 unfold aek
 by_cases h0:s.a=none
 .rw[if_pos h0]
  rw[h.2.1 h0]at hQ
  exact hQ _ tag I (fun _=>qe.refl hs) (Row.nil 6 5)
 .rw[if_neg h0]
  refine qj (tag:=tag) 6 hs fun b tag1 I1 st1 r1=>?_
  have h':SL.zw ro I1 s l:=h.step (st1 [])
  refine abP r1 (st1 []).sep h' u30 ty5 rfl hv (by simp;omega) (by decide) fun s' tag2 I2 st2 r2=>?_
  exact⟨s',rfl,hQ s' tag2 I2 (fun R=>(st1 R).trans (st2 R (.inl rfl))) r2⟩
def St.new:St:=[([47],⟨0,0,0,0,[]⟩)]
theorem ao7{Q:Option Addr->AH->Prop}(r:Nat)(hr:r<64)(hr6:r≠6)(hQ:∀ T tag' I',zF r ro tag I tag' I'->wa tag' I' r T St.new->Q (some ⟨T,0,none⟩) I'):afJ B ro I Q:=by
 refine amk fun hs=>?_
 unfold afP
 refine aoX (tag:=tag) (r+64) hs fun M tag1 I1 st1 m1=>?_
 refine afr (tag:=tag1) (fun b=>r+64*(b+2)) (st1 []).sep fun b tag2 I2 _ _ st2 r2=>?_
 have m2:=m1.keep (st2 [])
 refine abp (k:=[47]) m2 (st2 []).sep u126 u9 fun I3 st3 m3=>?_
 have r3:=r2.keep st3 (by simp;omega)
 refine qj (tag:=tag2) r st3.sep fun T tag4 I4 st4 r4=>?_
 have st:zF r ro tag I tag4 I4:=((st1 []).c (by simp)).trans (((st2 []).c (by simp)).trans ((st3.c (by simp;omega)).trans ((st4 []).c (by simp))))
 refine hQ T tag4 I4 st ⟨M,[b],by simp[St.new],rfl,by simp,r4,m3.keep (st4 []),fun i c p hc hp=>?_⟩
 rcases i with _ | i
 .cases hc;cases hp
  exact⟨⟨none,0,0⟩,r3.keep (st4 []),Row.nil 6 5⟩
 .cases hc
theorem akA{r T M:Nat}{bs:List Nat}{st:St}{p:ByteArray}{Q:Option Addr->Int->AH->Prop}(g:wV ro)(h:qZ tag I r T M bs st)(hs:SL.Sep ro I)(hbad:parts (L p)=none->Q none 20 I)
  (hmiss:∀ ps,parts (L p)=some ps->st.lookup (L p)=none->Q none 70 I) (hhit:∀ (ps:List Str) (i b:Nat) (n:Nd),parts (L p)=some ps->bs[i]?=some b->st[i]?=some (L p,n)->st.lookup (L p)=some n->Q (some ⟨b,0,none⟩) 0 I):
  yp B ro (some ⟨T,0,none⟩) p I Q:=by
 refine ahT fun _=>?_
 unfold abD
 refine ug g ?_
 by_cases h1:Pa.chk (L p)=0
 .rw[if_neg (by simpa using h1)]
  obtain⟨ps,hps⟩:=vq.1 h1
  refine⟨_,rfl,_,Row.cell1 h.cell hs,?_⟩
  rw[<-S_L p]
  refine jv h.map hs u126 u9 agR ?_
  rcases aa9 st bs (L p) h.len with⟨a,e⟩ | ⟨i,b,n,a1,a2,a3,e⟩
  .rw[e]
   exact⟨none,rfl,by rw[if_pos rfl];exact hmiss ps hps a⟩
  .rw[e]
   exact⟨some ⟨b,0,none⟩,rfl,by rw[if_neg (by simp)];exact hhit ps i b n hps a1 a2 a3⟩
 .rw[if_pos (by simpa using h1)]
  have e:parts (L p)=none:=by
   cases h:parts (L p)with
   | none=>rfl
   | some ps=>exact absurd (vq.2 ⟨ps,h⟩) h1
  have:Pa.chk (L p)=20:=by unfold Pa.chk;rw[e];try rfl
  rw[this];exact hbad e
theorem ald{r T M:Nat}{bs:List Nat}{st:St}{p:ByteArray}{v:Int}{Q:Option Addr->Int->AH->Prop}(g:wV ro)(h:qZ tag I r T M bs st)(hs:SL.Sep ro I)(hbad:(L p=[47]\/parts (L p)=none)->Q none 20 I)
  (hmiss:L p≠[47]->∀ ps,parts (L p)=some ps->st.lookup (L p)=none->Q none 70 I)
  (hver:L p≠[47]->∀ (ps:List Str) (n:Nd),parts (L p)=some ps->st.lookup (L p)=some n->v≠ -1->v≠n.ver->Q none 72 I)
  (hhit:L p≠[47]->∀ (ps:List Str) (i b:Nat) (n:Nd),parts (L p)=some ps->bs[i]?=some b->st[i]?=some (L p,n)->st.lookup (L p)=some n->(v= -1\/v=n.ver)->Q (some ⟨b,0,none⟩) 0 I):
  pO B ro (some ⟨T,0,none⟩) p v I Q:=by
 refine ahx fun _=>?_
 unfold aa8
 by_cases h1:p=⟨#[47]⟩
 .rw[if_pos h1]
  exact hbad (.inl (by rw[h1];try rfl))
 .rw[if_neg h1]
  have hne:L p≠[47]:=fun h=>h1 (pL h)
  refine akA g h hs (fun hb=>?_) (fun ps hps hl=>?_) (fun ps i b n hps hb hp hl=>?_)
  .rw[if_neg (by simp)]
   unfold vj
   rw[if_neg (by simp)]
   exact hbad (.inr hb)
  .rw[if_neg (by simp)]
   unfold vj
   rw[if_neg (by simp)]
   exact hmiss hne ps hps hl
  .by_cases h2:v= -1
   .rw[if_neg (by simp[h2])]
    unfold vj
    rw[if_neg (by simp)]
    exact hhit hne ps i b n hps hb hp hl (.inl h2)
   .rw[if_pos ⟨rfl,h2⟩]
    obtain⟨s,hn,_⟩:=h.nodes i b _ hb hp
    obtain⟨q,hq,hg⟩:=hn.ptr hs (by simp)
    cases hq
    refine⟨_,rfl,n.ver,hg 0 _ rfl,?_⟩
    unfold vj
    by_cases h3:v=n.ver
    .rw[if_neg (by simp[h3])]
     exact hhit hne ps i b n hps hb hp hl (.inr h3)
    .rw[if_pos (by simp[h3])]
     exact hver hne ps n hps hl h2 h3
def jw(n:Nd):Nd:={n with ctr:=i64.wrap (n.ctr+1),kids:=i64.wrap (n.kids+1)}
def wt(st:St)(p data:Str)(o:Int)(seq:Bool):St×Str×Int:=
 match qB p with
 | none=>(st,[],20)
 | some u=>
  if 256<data.length then(st,[],75)
  else if o<0\/4611686018427387903<o then(st,[],10)
  else match st.lookup u with
   | none=>(st,[],70)
   | some n=>
    if n.own≠0 then(st,[],74)
    else if 9999999999<n.ctr then(st,[],76)
    else match(if seq then yY p n.ctr else some p)with
     | none=>(st,[],20)
     | some q=>if(st.lookup q).isSome then(st,[],71)else(wi (st++[(q,⟨0,0,o,0,data⟩)]) u jw,q,0)
theorem ao8:∀ (st:St) (bs:List Nat) (q:Str) (n:Nd) (b:Nat),bs.length=st.length->kv (st++[(q,n)]) (bs++[b])=kv st bs++[(q,ptr b)]:=by
 intro st
 induction st with
 | nil=>intro bs q n b h;have:bs=[]:=List.eq_nil_of_length_eq_zero h;subst this;rfl
 | cons p st ih=>
  intro bs q n b h
  cases bs with
  | nil=>simp at h
  | cons c bs=>
   obtain⟨p,m⟩:=p
   simp only[List.cons_append]
   unfold kv
   rw[ih bs q n b (by simpa using h)];try rfl
theorem anA:∀ (st:St) (bs:List Nat) (q:Str) (b:Nat),bs.length=st.length->st.lookup q=none->aeV (kv st bs) q (ptr b)=kv st bs++[(q,ptr b)]:=by
 intro st
 induction st with
 | nil=>intro bs q b h _;cases bs<;>rfl
 | cons p st ih=>
  intro bs q b h hl
  cases bs with
  | nil=>simp at h
  | cons c bs=>
   obtain⟨p,m⟩:=p
   rw[List.lookup_cons]at hl
   by_cases e:q=p
   .subst e;simp at hl
   .rw[show(q == p)=false by simpa using e]at hl
    unfold kv aeV
    rw[if_neg e,ih bs q b (by simpa using h) hl];try rfl
theorem abY{st:St}{q:Str}(h:st.lookup q=none):q∉st.map (·.1):=by
 intro hm
 obtain⟨p,hp,e⟩:=List.mem_map.1 hm
 rw[List.lookup_eq_none_iff]at h
 have:=h p hp
 simp at this
 exact this e.symm
theorem qZ.add{r T M b:Nat}{bs:List Nat}{st:St}{q:Str}{n:Nd}{tag2:Nat->Nat}{I2:AH}(h:qZ tag I r T M bs st)(hr:r<64)(hr6:r≠6)(hq:st.lookup q=none)(hb:I b=none)(k:qe [r+64] ro tag I tag2 I2)(hnew:abX tag2 I2 r b n)(hm:zO tag2 I2 (r+64) M (aeV (kv st bs) q (ptr b))):qZ tag2 I2 r T M (bs++[b]) (st++[(q,n)]):=by
 have hnb:b∉bs:=fun hm'=>by
  obtain⟨i,hi,e⟩:=List.getElem_of_mem hm'
  have hb':bs[i]?=some b:=by rw[List.getElem?_eq_getElem hi,e]
  have hil:i<st.length:=by rw[<-h.len];exact hi
  obtain⟨s,hn,_⟩:=h.nodes i b _ hb' (List.getElem?_eq_getElem hil)
  obtain⟨_,o,ho⟩:=hn.tagOf
  rw[hb]at ho;cases ho
 refine⟨?_,by simp[h.len],?_,h.cell.keep k,?_,fun i c p hc hp=>?_⟩
 .rw[List.map_append,List.nodup_append]
  refine⟨h.keys,by simp,?_⟩
  intro x hx y hy
  simp at hy
  intro e
  exact abY hq (by rw[<-hy,<-e];exact hx)
 .rw[List.nodup_append]
  refine⟨h.nd,by simp,?_⟩
  intro x hx y hy
  simp at hy
  intro e
  exact hnb (by rw[<-hy,<-e];exact hx)
 .rw[ao8 _ _ _ _ _ h.len,<-anA _ _ _ _ h.len hq];exact hm
 .rcases Nat.lt_or_ge i bs.length with hi | hi
  .rw[List.getElem?_append_left hi]at hc
   rw[List.getElem?_append_left (by rw[<-h.len];exact hi)]at hp
   exact(h.nodes i c p hc hp).keep k (by simp;omega) (by simp)
  .rw[List.getElem?_append_right hi]at hc
   rw[List.getElem?_append_right (by rw[<-h.len];exact hi),<-h.len]at hp
   cases hd:i - bs.length with
   | zero=>
    rw[hd]at hc hp
    cases hc;cases hp
    exact hnew
   | succ j=>rw[hd]at hc;cases hc
theorem ar4{q:Str}{n:Nd}(st:St){i:Nat}{u:Str}{m:Nd}(h:st[i]?=some (u,m)):(st++[(q,n)])[i]?=some (u,m):=by
 have hil:i<st.length:=by
  rcases Nat.lt_or_ge i st.length with h' | h'
  .exact h'
  .rw[List.getElem?_eq_none h']at h;cases h
 rw[List.getElem?_append_left hil];exact h
theorem ar5{bs:List Nat}{c i b:Nat}(h:bs[i]?=some b):(bs++[c])[i]?=some b:=by
 have hil:i<bs.length:=by
  rcases Nat.lt_or_ge i bs.length with h' | h'
  .exact h'
  .rw[List.getElem?_eq_none h']at h;cases h
 rw[List.getElem?_append_left hil];exact h
theorem ahU{r T:Nat}{st:St}{p:ByteArray}{s:Sl}{d:Str}{o:Int}{seq:Bool}{Q:ByteArray->Int->AH->Prop}(g:wV ro)(hr:r<64)(hr6:r≠6)(hr0:r≠0)(h:wa tag I r T st)(hd:SL.zw ro I s (d.map vU))(hdl:d.length<4611686018427387904)
  (hQ:∀ tag' I',zF r ro tag I tag' I'->wa tag' I' r T (wt st (L p) d o seq).1->Q (S (wt st (L p) d o seq).2.1) (wt st (L p) d o seq).2.2 I'):jn B ro (some ⟨T,0,none⟩) p s o seq I Q:=by
 refine agO fun hs=>?_
 unfold aaB
 have hsl:s.len=d.length:=by rw[hd.1,List.length_map]
 have same:∀ e:Int,wt st (L p) d o seq=(st,[],e)->Q (⟨#[]⟩:ByteArray) e I:=fun e he=>by
  have:=hQ tag I (zF.refl hs) (by rw[he];exact h)
  rw[he]at this;exact this
 refine ad3 g (fun hp=>?_) (fun u hu=>?_)
 .rw[if_pos (by decide)]
  exact same 20 (by unfold wt;rw[hp])
 .rw[if_neg (by decide)]
  by_cases h1:256<(s.len:Int)
  .rw[if_pos h1]
   exact same 75 (by unfold wt;rw[hu];simp only;rw[if_pos (by omega)])
  .rw[if_neg h1]
   have h1':¬ 256<d.length:=by omega
   by_cases h2:o<0\/4611686018427387903<o
   .rw[if_pos h2]
    exact same 10 (by unfold wt;rw[hu];simp only;rw[if_neg h1',if_pos h2])
   .rw[if_neg h2]
    obtain⟨M,bs,hA⟩:=h
    refine⟨_,rfl,_,Row.cell1 hA.cell hs,?_⟩
    refine jv hA.map hs u126 u9 agR ?_
    rcases aa9 st bs u hA.len with⟨a,e⟩ | ⟨i,b,n,a1,a2,a3,e⟩
    .rw[e]
     refine⟨none,rfl,?_⟩
     rw[if_pos rfl]
     exact same 70 (by unfold wt;rw[hu];simp only;rw[if_neg h1',if_neg h2,a])
    .rw[e]
     refine⟨some ⟨b,0,none⟩,rfl,?_⟩
     rw[if_neg (by simp)]
     obtain⟨ds,hn,hdat⟩:=hA.nodes i b _ a1 a2
     obtain⟨q,hq,hg⟩:=hn.ptr hs (by simp)
     cases hq
     refine⟨_,rfl,n.own,hg 2 _ rfl,?_⟩
     by_cases h3:n.own=0
     .rw[if_neg (by simp[h3])]
      refine⟨_,rfl,n.ctr,hg 1 _ rfl,?_⟩
      by_cases h4:9999999999<n.ctr
      .rw[if_pos h4]
       exact same 76 (by unfold wt;rw[hu];simp only;rw[if_neg h1',if_neg h2,a3];simp only;rw[if_neg (by simp[h3]),if_pos h4])
      .rw[if_neg h4]
       have hcr:wt st (L p) d o seq=match(if seq then yY (L p) n.ctr else some (L p))with
         | none=>(st,[],20)
         | some q=>if(st.lookup q).isSome then(st,[],71)else(wi (st++[(q,⟨0,0,o,0,d⟩)]) u jw,q,0):=by
        unfold wt;rw[hu];simp only;rw[if_neg h1',if_neg h2,a3];simp only;rw[if_neg (by simp[h3]),if_neg h4];try rfl
       have main:∀ q:Str,(if seq then yY (L p) n.ctr else some (L p))=some q->kd B ro (some ⟨T,0,none⟩) s o (some ⟨b,0,none⟩) Q (S q) I:=by
        intro q hq
        rw[hq]at hcr
        simp only at hcr
        unfold kd
        refine⟨_,rfl,_,Row.cell1 hA.cell hs,?_⟩
        refine jv hA.map hs u126 u9 agR ?_
        rcases aa9 st bs q hA.len with⟨c,e2⟩ | ⟨i2,b2,n2,c1,c2,c3,e2⟩
        .rw[e2]
         refine⟨none,rfl,?_⟩
         rw[if_neg (by simp)]
         rw[c]at hcr
         simp only[Option.isSome_none,Bool.false_eq_true,if_false]at hcr
         refine ac1 T ?_
         obtain⟨hT0,hTo⟩:=hA.cell.tagOf
         have hs1:SL.Sep (join ro (SL.one I T)) (SL.del I T):=hs.lent
         refine⟨_,rfl,some M,hA.cell.lend hs (i:=0) rfl,?_⟩
         refine aba (tag:=tag) (hd.lent T) hs1 (by simp;omega) (by simp[qh]) fun s' tag1 I1 st1 r1=>?_
         refine afr (tag:=tag1) (fun b=>r+64*(b+2)) (st1 []).sep fun c' tag2 I2 hro2 hc2 st2 r2=>?_
         have hM1:=((hA.map.del (by rw[hT0];omega)).keep (st1 [])).keep (st2 [])
         refine abp hM1 (st2 []).sep u126 u9 fun I3 st3 m3=>?_
         intro hdj
         have stA:qe [r+64] (join ro (SL.one I T)) tag (SL.del I T) tag2 I3:=(st1 _).trans ((st2 _).trans st3)
         have stB:=stA.back hs hdj hTo
         have m4:=m3.back (r':=tag T) hdj hTo
         have hnode:abX (setTag tag2 T (tag T)) (join (SL.one I T) I3) r c' ⟨0,0,o,0,d⟩:=
          ⟨s',(r2.keep st3 (by simp;omega)).back hdj hTo,((r1.keep (st2 [])).keep st3).back hdj hTo⟩
         have hfree:I c'=none:=by
          cases hcc:I c' with
          | none=>rfl
          | some x=>
           have hne:c'≠T:=fun e=>by
            have:=(uN hro2).2
            unfold SL.one at this
            rw[if_pos e,hcc]at this;cases this
           obtain⟨_,x',hx'⟩:=(st1 []).old c' x (by unfold SL.del;rw[if_neg hne];exact hcc)
           rw[hc2]at hx';cases hx'
         have hA2:=hA.add (n:=⟨0,0,o,0,d⟩) hr hr6 c hfree stB hnode m4
         have b1:=ar5 (c:=c') a1
         have b2:=ar4 (q:=q) (n:=⟨0,0,o,0,d⟩) st a2
         generalize setTag tag2 T (tag T)=tagx at*
         generalize join (SL.one I T) I3=Ix at*
         have hsx:=stB.sep
         obtain⟨d1,hn1,hd1⟩:=hA2.nodes i b _ b1 b2
         obtain⟨q1,hq1,hg1⟩:=hn1.ptr hsx (by simp)
         cases hq1
         refine⟨_,rfl,n.ctr,hg1 1 _ rfl,_,rfl,?_⟩
         refine hn1.st (i:=1) hsx rfl (by simp) rfl fun I4 st4 r4=>?_
         have hA3:=hA2.write (n':={n with ctr:=i64.wrap (n.ctr+1)}) hr hr6 b1 b2 st4 ⟨d1,r4,hd1.keep st4 (by simp;omega)⟩
         have b3:((st++[(q,(⟨0,0,o,0,d⟩:Nd))]).set i (u,{n with ctr:=i64.wrap (n.ctr+1)}))[i]?=some (u,{n with ctr:=i64.wrap (n.ctr+1)}):=by
          rw[List.getElem?_set,if_pos rfl,if_pos]
          rcases Nat.lt_or_ge i (st++[(q,(⟨0,0,o,0,d⟩:Nd))]).length with h' | h'
          .exact h'
          .rw[List.getElem?_eq_none h']at b2;cases b2
         obtain⟨q2,hq2,hg2⟩:=r4.ptr st4.sep (by simp)
         cases hq2
         refine⟨_,rfl,n.kids,hg2 3 _ rfl,_,rfl,?_⟩
         refine r4.st (i:=3) st4.sep rfl (by simp) rfl fun I5 st5 r5=>?_
         have hA4:=hA3.write (n':=jw n) hr hr6 b1 b3 st5 ⟨d1,r5,(hd1.keep st4 (by simp;omega)).keep st5 (by simp;omega)⟩
         rw[List.set_set]at hA4
         rw[<-agQ hA2.keys b2 jw]at hA4
         have hres:=hQ tagx I5 ((stB.c (by simp;omega)).trans ((st4.c (by simp;omega)).trans (st5.c (by simp;omega)))) (by rw[hcr];exact⟨M,_,hA4⟩)
         rw[hcr]at hres
         exact hres
        .rw[e2]
         refine⟨some ⟨b2,0,none⟩,rfl,?_⟩
         rw[if_pos (by simp)]
         refine same 71 ?_
         rw[hcr,c3];try rfl
       by_cases h5:seq=true
       .rw[if_pos h5]
        refine⟨_,rfl,n.ctr,hg 1 _ rfl,?_⟩
        refine ao6 g (fun hnone=>?_) (fun q hq=>?_)
        .rw[if_pos (by decide)]
         refine same 20 ?_
         rw[hcr,if_pos h5,hnone]
        .rw[if_neg (by decide)]
         exact main q (by rw[if_pos h5];exact hq)
       .rw[if_neg h5]
        have:=main (L p) (by rw[if_neg h5])
        rw[S_L]at this;exact this
     .rw[if_pos (by simp[h3])]
      exact same 74 (by unfold wt;rw[hu];simp only;rw[if_neg h1',if_neg h2,a3];simp only;rw[if_pos (by simp[h3])])