import Derived.Test.YtomdigihapdhnaaGreatDoorXE
set_option linter.all false
set_option maxRecDepth 99999
set_option maxHeartbeats 0
open Go.IntKind(i64)
open Go.Proofs.Tryz
namespace Go.Proofs.YtomdigihapdhnaaGreatDoor
namespace G
open Go SL
variable{B:World}{ro I:AH}
def abE(B:World)(ro:AH)(a0:Sl)(I:AH)(Q:Sl->AH->Prop):=
 nw ro I (.cells #[Sl.v a0] 24) fun u0 I=>
 jV B ro (⟨some ⟨u0,0,none⟩,1,1⟩:Sl) I fun u1 I=>
 Q u1 I
theorem afX{a0:Sl}{Q:Sl->AH->Prop}(h:Sep ro I->abE B ro a0 I Q):jU B ro a0 I Q:=by
 refine zb h func16 ntmps16 fun h=>?_;unfold abE at h;refine z3 ?_;refine zp ?_;refine z4 ?_;refine zp ?_;refine zA (wI (vs:=[(0,Sl.v a0)]) (cs:= #[Sl.v a0]) rfl underlying227 qV (by decide) rfl rfl) h fun u0 h=>?_;refine zc func50 h ?_;rintro v I ⟨u1,rfl,h⟩;refine zp ?_;refine z2 ?_;refine AW.ret ?_;exact bR1 results16 rfl ⟨_,rfl,h⟩
def abF(B:World)(ro:AH)(a0 a1:Sl)(I:AH)(Q:Bool->AH->Prop):=
 awp prog ro (convert 24 9 (Sl.v a0)) (fun v I=>
 (∃(u0:ByteArray),v= .string u0/\
  awp prog ro (convert 24 9 (Sl.v a1)) (fun v I=>
  (∃(u1:ByteArray),v= .string u1/\
   Q (decide (u0=u1)) I)) I)) I
theorem afY{a0 a1:Sl}{Q:Bool->AH->Prop}(h:Sep ro I->abF B ro a0 a1 I Q):pr B ro a0 a1 I Q:=by
 refine zb h func18 ntmps18 fun h=>?_;unfold abF at h;refine z3 ?_;refine zp ?_;refine z4 ?_;refine zp ?_;refine zl (abd rfl rfl (qv _ h ?_))
 rintro v I ⟨u0,rfl,h⟩;refine zp ?_;refine zl (abd rfl rfl (qv _ h ?_))
 rintro v I ⟨u1,rfl,h⟩;iterate 2 refine zp ?_
 refine z2 ?_;refine AW.ret ?_;exact bR1 results18 rfl ⟨_,rfl,h⟩
def yL(B:World)(ro:AH)(Q:Sl->AH->Prop)(u0:Sl)(I:AH):=
 Q u0 I
def jo(B:World)(ro:AH)(a0:Sl)(Q:Sl->AH->Prop):(Sl×Int)->AH->((Sl×Int)->AH->Prop)->Prop:=fun⟨u0,u1⟩ I Y4=>
 if u1<(a0.len:Int)then
 ∃p2,a0.a=some p2/\(0:Int)<=u1/\u1<(a0.len:Int)/\
 ∃u3,qa ro I (p2.add (Int.toNat u1*1))=some (Sl.v u3)/\
 awp prog ro (Builtin.append_ #[24,24] 24 #[Sl.v u0,Sl.v u3]) (fun v I=> ∃(u4:Sl),v=Sl.v u4/\
  Y4 (u4,i64.wrap (u1+1)) I) I
 else
 yL B ro Q u0 I
def uZ(B:World)(ro:AH)(a0:Sl)(I:AH)(Q:Sl->AH->Prop):=
 nw ro I (.cells #[] 5) fun u0 I=>
 lfpD (jo B ro a0 Q) ((⟨some ⟨u0,0,none⟩,0,0⟩:Sl),0) I
theorem adc{a0:Sl}{Q:Sl->AH->Prop}(h:Sep ro I->uZ B ro a0 I Q):jV B ro a0 I Q:=by
 refine zb h func50 ntmps50 fun h=>?_;unfold uZ at h;refine z3 ?_;refine zp ?_;refine z4 ?_;refine zA (wI (vs:=[]) (cs:= #[]) rfl underlying24 ty5 (by decide) rfl rfl) h fun u0 h=>?_;refine zp ?_;refine z2 ?_;refine AW.seqJ (fun fr I=> ∃(u1:Sl),qk [(3,Sl.v u1)] fr/\yL B ro Q u1 I) ?_ ?_
 .rintro fr I ⟨u1,hl,h⟩;refine AW.weaken ?_ hl (HLe.refl _)
  unfold yL at h;refine z3 ?_;iterate 2 refine zp ?_
  refine z2 ?_;refine AW.ret ?_;exact bR1 results50 rfl ⟨_,rfl,h⟩
 refine z3 ?_;refine zp ?_;refine z2 (AW.block ?_)
 refine qn.loop (fr':=[(0,Sl.v a0),(3,Sl.v (⟨some ⟨u0,0,none⟩,0,0⟩:Sl)),(4,.int .i64 0)]) ?_ FL
 refine h (fun⟨u2,u3⟩ I=>qn _ _ _ _ _ _ [(0,Sl.v a0),(3,Sl.v u2),(4,.int .i64 u3)] I) ?_
 rintro⟨u2,u3⟩ I Y4 hY4 h
 show AW _ _ _ _ _ _ _ _
 unfold jo at h;dsimp only at h;refine AW.seq (z3 ?_);iterate 2 refine zp ?_
 refine zm (qJ rfl rfl underlying227 rfl rfl) ?_;refine zp ?_;refine z2 ?_;refine zi h (fun h=>?_) fun h=>?_
 rotate_left
 .refine AW.exit ?_;refine qR (qR ?_);refine wK ?_
  refine qc ?_;exact⟨_,FL,h⟩
 refine AW.skip ?_;refine qc (AW.seq (AW.block (AW.reg ?_)));iterate 3 refine zp ?_
 obtain⟨p4,ha,h0,h1,h⟩:=h
 refine zm (vL rfl underlying227 qV (ixL rfl ha) rfl h0 h1) ?_;refine zL underlying24 h fun u5 h=>?_;refine zl (jz (s:=Builtin.append_ #[24,24] 24 #[Sl.v u2,Sl.v u5]) rfl rfl (fun _=>rfl) (qv _ h ?_))
 rintro v I ⟨u6,rfl,h⟩;refine zp ?_;refine pT (wq (qc (AW.reg ?_)));iterate 3 refine zp ?_
 refine z2 ?_;refine qn.head (fr':=[(0,Sl.v a0),(3,Sl.v u6),(4,.int .i64 (i64.wrap (u3+1)))]) ?_ FL
 exact hY4 _ _ h
def abG(B:World)(ro:AH)(a0:Sl)(I:AH)(Q:Sl->AH->Prop):=
 vX B ro (a0.len:Int) I fun u0 I=>
 nw ro I (.cells #[Sl.v u0,Sl.v a0] 24) fun u1 I=>
 jV B ro (⟨some ⟨u1,0,none⟩,2,2⟩:Sl) I fun u2 I=>
 Q u2 I
theorem afZ{a0:Sl}{Q:Sl->AH->Prop}(h:Sep ro I->abG B ro a0 I Q):xS B ro a0 I Q:=by
 refine zb h func51 ntmps51 fun h=>?_;unfold abG at h;refine z3 ?_;refine zp ?_;refine z4 ?_;refine zp ?_;refine zm (qJ rfl rfl underlying24 rfl rfl) ?_;refine zc func52 h ?_;rintro v I ⟨u0,rfl,h⟩;refine zp ?_;refine zA (wI (vs:=[(0,Sl.v u0),(1,Sl.v a0)]) (cs:= #[Sl.v u0,Sl.v a0]) rfl underlying227 qV (by decide) rfl rfl) h fun u1 h=>?_;refine zc func50 h ?_
 rintro v I ⟨u2,rfl,h⟩;refine zp ?_;refine z2 ?_;refine AW.ret ?_;exact bR1 results51 rfl ⟨_,rfl,h⟩
def py(B:World)(ro:AH)(Q:Sl->AH->Prop)(u0:Int)(u1:Sl)(I:AH):=
 nw ro I (.cells #[.int .u8 (IntKind.u8.wrap u0)] 5) fun u2 I=>
 awp prog ro (Builtin.append_ #[24,24] 24 #[Sl.v u1,Sl.v (⟨some ⟨u2,0,none⟩,1,1⟩:Sl)]) (fun v I=> ∃(u3:Sl),v=Sl.v u3/\
 Q u3 I) I
def pz(B:World)(ro:AH)(Q:Sl->AH->Prop):(Int×Sl)->AH->((Int×Sl)->AH->Prop)->Prop:=fun⟨u0,u1⟩ I Y7=>
 if 128<=u0 then
 nw ro I (.cells #[.int .u8 (IntKind.u8.wrap (i64.wrap (128+(Int.tmod u0 128))))] 5) fun u2 I=>
 awp prog ro (Builtin.append_ #[24,24] 24 #[Sl.v u1,Sl.v (⟨some ⟨u2,0,none⟩,1,1⟩:Sl)]) (fun v I=> ∃(u3:Sl),v=Sl.v u3/\
  Y7 (i64.wrap (Int.tdiv u0 128),u3) I) I
 else
 py B ro Q u0 u1 I
def acg(B:World)(ro:AH)(a0:Int)(I:AH)(Q:Sl->AH->Prop):=
 nw ro I (.cells #[] 5) fun u0 I=>
 lfpD (pz B ro Q) (a0,(⟨some ⟨u0,0,none⟩,0,0⟩:Sl)) I
theorem agz{a0:Int}{Q:Sl->AH->Prop}(h:Sep ro I->acg B ro a0 I Q):vX B ro a0 I Q:=by
 refine zb h func52 ntmps52 fun h=>?_;unfold acg at h;refine z3 ?_;refine zp ?_;refine z4 ?_;refine zA (wI (vs:=[]) (cs:= #[]) rfl underlying24 ty5 (by decide) rfl rfl) h fun u0 h=>?_;refine zp ?_;refine z2 ?_;refine AW.seqJ (fun fr I=> ∃(u1:Int) (u2:Sl),qk [(0,.int .i64 u1),(3,Sl.v u2)] fr/\py B ro Q u1 u2 I) ?_ ?_
 .rintro fr I ⟨u1,u2,hl,h⟩;refine AW.weaken ?_ hl (HLe.refl _)
  unfold py at h;refine z3 ?_;iterate 2 refine zp ?_
  refine zm (adS rfl rfl underlying3 underlying5) ?_;refine zA (wI (vs:=[(0,.int .u8 (IntKind.u8.wrap u1))]) (cs:= #[.int .u8 (IntKind.u8.wrap u1)]) rfl underlying24 ty5 (by decide) rfl rfl) h fun u3 h=>?_;refine zl (jz (s:=Builtin.append_ #[24,24] 24 #[Sl.v u2,Sl.v (⟨some ⟨u3,0,none⟩,1,1⟩:Sl)]) rfl rfl (fun _=>rfl) (qv _ h ?_))
  rintro v I ⟨u4,rfl,h⟩;refine zp ?_;refine z2 ?_;refine AW.ret ?_;exact bR1 results52 rfl ⟨_,rfl,h⟩
 refine AW.block ?_;refine qn.loop (fr':=[(0,.int .i64 a0),(3,Sl.v (⟨some ⟨u0,0,none⟩,0,0⟩:Sl))]) ?_ FL
 refine h (fun⟨u5,u6⟩ I=>qn _ _ _ _ _ _ [(0,.int .i64 u5),(3,Sl.v u6)] I) ?_
 rintro⟨u5,u6⟩ I Y7 hY7 h
 show AW _ _ _ _ _ _ _ _
 unfold pz at h;dsimp only at h;refine AW.seq (z3 ?_);iterate 2 refine zp ?_
 refine z2 ?_;refine zi h (fun h=>?_) fun h=>?_
 rotate_left
 .refine AW.exit ?_;refine qR (qR ?_);refine wK ?_
  refine qc ?_;exact⟨_,_,FL,h⟩
 refine AW.skip ?_;refine qc (AW.block (z3 ?_));iterate 2 refine zp ?_
 refine zm (ahM rfl rfl rfl (by decide)) ?_;refine zp ?_;refine zm (adS rfl rfl underlying3 underlying5) ?_;refine zA (wI (vs:=[(0,.int .u8 (IntKind.u8.wrap (i64.wrap (128+(Int.tmod u5 128)))))]) (cs:= #[.int .u8 (IntKind.u8.wrap (i64.wrap (128+(Int.tmod u5 128))))]) rfl underlying24 ty5 (by decide) rfl rfl) h fun u7 h=>?_;refine zl (jz (s:=Builtin.append_ #[24,24] 24 #[Sl.v u6,Sl.v (⟨some ⟨u7,0,none⟩,1,1⟩:Sl)]) rfl rfl (fun _=>rfl) (qv _ h ?_))
 rintro v I ⟨u8,rfl,h⟩;refine zp ?_;refine z2 (AW.reg ?_)
 refine zp ?_;refine zm (ajJ rfl rfl rfl (by decide)) ?_;refine zp ?_;refine pT (wq (qc ?_));refine qn.head (fr':=[(0,.int .i64 (i64.wrap (Int.tdiv u5 128))),(3,Sl.v u8)]) ?_ FL
 exact hY7 _ _ h
def pA(B:World)(ro:AH)(a0:Option Addr)(I:AH)(Q:Int->AH->Prop):=
 ∃p0,a0=some p0/\
 ∃u1,qa ro I (p0.add 2)=some (.int .i64 u1)/\
 if¬(u1=0)then
 Q 0 I
 else
 ∃p2,a0=some p2/\
 ∃p3,a0=some p3/\
 ∃u4,qa ro I p2=some (Sl.v u4)/\
 ∃u5,qa ro I (p3.add 1)=some (.int .i64 u5)/\
 aay B ro u4 u5 I fun u6 u7 u8 I=>
 if¬(u8=0)then
 ∃p9,a0=some p9/\
 stN (p9.add 2) (fun I=>
  Q 0 I) [.int .i64 u8] 0 I
 else
 ∃p10,a0=some p10/\
 stN (p10.add 1) (fun I=>
 Q u6 I) [.int .i64 u7] 0 I
theorem adf{a0:Option Addr}{Q:Int->AH->Prop}(h:Sep ro I->pA B ro a0 I Q):qG B ro a0 I Q:=by
 refine zb h func59 ntmps59 fun h=>?_;unfold pA at h;refine z3 ?_;refine zp ?_;refine z2 (AW.seq (z3 ?_))
 refine zp ?_;refine zN h fun p0 h=>?_;refine zf underlying147 ty3 ?_;refine zL underlying3 h fun u1 h=>?_;refine zp ?_;refine z2 ?_;refine AW.iff rfl (qt decide_eq_true_iff) h (fun h=>?_) (fun h=>?_)
 .refine z3 ?_;refine zp ?_;refine z2 ?_;refine AW.ret ?_;refine qi ?_;exact bR1 results59 rfl ⟨_,rfl,h⟩
 refine AW.skip ?_;refine qc (AW.seq ?_);refine AW.drawn0 (fun i=>([0,0,0,3,0,0,0,3,2,0,0,0,0,0,0,0]:List Nat).getD i 2) [] [0,1,2,4,5,6,3,7,8,9,10,11,12,13,14,15] mixed (by decide+kernel) ?_
 refine zq ?_;obtain⟨p2,hc,h⟩:=h
 refine Dp rfl rfl rfl rfl (wD rfl (by rw[<-hc];rfl)) ?_
 refine zg underlying147 qV ?_;refine zq ?_;obtain⟨p3,hc,h⟩:=h
 refine Dp rfl rfl rfl rfl (wD rfl (by rw[<-hc];rfl)) ?_
 refine zg underlying147 ty3 ?_;obtain⟨u4,hc,h⟩:=h
 refine Dr rfl rfl rfl rfl (vb rfl underlying24 rfl rfl hc) ?_
 obtain⟨u5,hc,h⟩:=h
 refine Dr rfl rfl rfl rfl (vb rfl underlying3 rfl rfl hc) ?_
 refine Dg rfl rfl rfl rfl (qF rfl func120 rfl rfl rfl (qb.mono h ?_))
 rintro v I ⟨u6,u7,u8,rfl,h⟩;iterate 7 refine zq ?_
 refine aat ?_
 refine qc (AW.seq (z3 ?_));iterate 2 refine zp ?_
 refine z2 ?_;refine AW.iff rfl (qt decide_eq_true_iff) h (fun h=>?_) (fun h=>?_)
 .refine z3 ?_;iterate 2 refine zp ?_
  refine zN h fun p9 h=>?_;refine zf underlying147 ty3 ?_;refine zs ty3 h fun I h=>?_;refine z4 ?_;refine zp ?_;refine z2 ?_;refine AW.ret ?_;refine qi ?_;exact bR1 results59 rfl ⟨_,rfl,h⟩
 refine AW.skip ?_;refine qc (z3 ?_);iterate 2 refine zp ?_
 refine zN h fun p10 h=>?_;refine zf underlying147 ty3 ?_;refine zs ty3 h fun I h=>?_;refine z4 ?_;iterate 2 refine zp ?_
 refine z2 ?_;refine AW.ret ?_;exact bR1 results59 rfl ⟨_,rfl,h⟩
def yV(B:World)(ro:AH)(a0:Option Addr)(I:AH)(Q:Sl->AH->Prop):=
 ∃p0,a0=some p0/\
 ∃u1,qa ro I (p0.add 1)=some (.int .i64 u1)/\
 qG B ro a0 I fun u2 I=>
 ∃p3,a0=some p3/\
 ∃u4,qa ro I (p3.add 2)=some (.int .i64 u4)/\
 if¬(u4=0)then
 Q (⟨none,0,0⟩:Sl) I
 else
 zZ B ro a0 I fun u5 I=>
 if u5<u2 then
 ∃p6,a0=some p6/\
 stN (p6.add 2) (fun I=>
  ∃p7,a0=some p7/\
  stN (p7.add 1) (fun I=>
  Q (⟨none,0,0⟩:Sl) I) [.int .i64 u1] 0 I) [.int .i64 12] 0 I
 else
 ∃p8,a0=some p8/\
 ∃p9,a0=some p9/\
 ∃p10,a0=some p10/\
 ∃u11,qa ro I p8=some (Sl.v u11)/\
 ∃u12,qa ro I (p9.add 1)=some (.int .i64 u12)/\
 ∃u13,qa ro I (p10.add 1)=some (.int .i64 u13)/\
 cutOk (some u12) (some (i64.wrap (u13+u2))) u11.len u11.cap/\
 jU B ro (⟨wy u11.a (Int.toNat u12) u11.cap 1,Int.toNat (i64.wrap (u13+u2)) - Int.toNat u12,u11.cap - Int.toNat u12⟩:Sl) I fun u14 I=>
 ∃p15,a0=some p15/\
 ∃u16,qa ro I (p15.add 1)=some (.int .i64 u16)/\
 ∃p17,a0=some p17/\
 stN (p17.add 1) (fun I=>
 Q u14 I) [.int .i64 (i64.wrap (u16+u2))] 0 I
theorem acX{a0:Option Addr}{Q:Sl->AH->Prop}(h:Sep ro I->yV B ro a0 I Q):zt B ro a0 I Q:=by
 refine zb h func60 ntmps60 fun h=>?_;unfold yV at h;refine z3 ?_;refine zp ?_;refine z4 ?_;refine zp ?_;refine zN h fun p0 h=>?_;refine zf underlying147 ty3 ?_;refine zL underlying3 h fun u1 h=>?_;refine zp ?_;refine z4 ?_;refine zp ?_;refine zc func59 h ?_;rintro v I ⟨u2,rfl,h⟩;refine zp ?_;refine z2 (AW.seq (z3 ?_))
 refine zp ?_;refine zN h fun p3 h=>?_;refine zf underlying147 ty3 ?_;refine zL underlying3 h fun u4 h=>?_;refine zp ?_;refine z2 ?_;refine AW.iff rfl (qt decide_eq_true_iff) h (fun h=>?_) (fun h=>?_)
 .refine z3 ?_;refine zp ?_;refine z2 ?_;refine AW.ret ?_;refine qi ?_;exact bR1 results60 rfl ⟨_,rfl,h⟩
 refine AW.skip ?_;refine qc (AW.seq (z3 ?_));iterate 2 refine zp ?_
 refine zc func61 h ?_;rintro v I ⟨u5,rfl,h⟩;refine zp ?_;refine z2 ?_;refine zi h (fun h=>?_) fun h=>?_
 .refine z3 ?_;refine zp ?_;refine zN h fun p6 h=>?_;refine zf underlying147 ty3 ?_;refine zs ty3 h fun I h=>?_;refine z4 ?_;iterate 2 refine zp ?_
  refine zN h fun p7 h=>?_;refine zf underlying147 ty3 ?_;refine zs ty3 h fun I h=>?_;refine z4 ?_;refine zp ?_;refine z2 ?_;refine AW.ret ?_;refine qi ?_;exact bR1 results60 rfl ⟨_,rfl,h⟩
 refine AW.skip ?_;refine qc (AW.seq ?_);refine AW.drawn0 (fun i=>([0,0,0,3,0,0,0,3,0,0,0,3,0,0,0,2,0]:List Nat).getD i 2) [(3,14),(3,15),(7,14),(7,15),(11,13),(11,14),(11,15)] [0,1,2,4,5,6,8,9,10,12,3,7,11,13,14,15,16] mixed (by decide+kernel) ?_
 refine zq ?_;obtain⟨p8,hc,h⟩:=h
 refine Dp rfl rfl rfl rfl (wD rfl (by rw[<-hc];rfl)) ?_
 refine zg underlying147 qV ?_;refine zq ?_;obtain⟨p9,hc,h⟩:=h
 refine Dp rfl rfl rfl rfl (wD rfl (by rw[<-hc];rfl)) ?_
 refine zg underlying147 ty3 ?_;refine zq ?_;obtain⟨p10,hc,h⟩:=h
 refine Dp rfl rfl rfl rfl (wD rfl (by rw[<-hc];rfl)) ?_
 refine zg underlying147 ty3 ?_;refine zq ?_;obtain⟨u11,hc,h⟩:=h
 refine Dr rfl rfl rfl rfl (vb rfl underlying24 rfl rfl hc) ?_
 obtain⟨u12,hc,h⟩:=h
 refine Dr rfl rfl rfl rfl (vb rfl underlying3 rfl rfl hc) ?_
 obtain⟨u13,hc,h⟩:=h
 refine Dr rfl rfl rfl rfl (vb rfl underlying3 rfl rfl hc) ?_
 refine zq ?_;obtain⟨hc,h⟩:=h
 refine Dp rfl rfl rfl rfl (un (lo:=(some u12)) (hi:=(some (i64.wrap (u13+u2)))) rfl underlying24 ty5 rfl (ze rfl) (ze rfl) hc) ?_
 refine Dg rfl rfl rfl rfl (qF rfl func16 rfl rfl rfl (qb.mono h ?_))
 rintro v I ⟨u14,rfl,h⟩;refine zq ?_;refine aat ?_
 refine qc (z3 ?_);refine zp ?_;refine zN h fun p15 h=>?_;refine zf underlying147 ty3 ?_;refine zL underlying3 h fun u16 h=>?_;iterate 2 refine zp ?_
 refine zN h fun p17 h=>?_;refine zf underlying147 ty3 ?_;refine zs ty3 h fun I h=>?_;refine z4 ?_;iterate 2 refine zp ?_
 refine z2 ?_;refine AW.ret ?_;exact bR1 results60 rfl ⟨_,rfl,h⟩
def yW(B:World)(ro:AH)(a0:Option Addr)(I:AH)(Q:Int->AH->Prop):=
 ∃p0,a0=some p0/\
 ∃p1,a0=some p1/\
 ∃u2,qa ro I p0=some (Sl.v u2)/\
 ∃u3,qa ro I (p1.add 1)=some (.int .i64 u3)/\
 Q (i64.wrap ((u2.len:Int) - u3)) I
theorem acY{a0:Option Addr}{Q:Int->AH->Prop}(h:Sep ro I->yW B ro a0 I Q):zZ B ro a0 I Q:=by
 refine zb h func61 ntmps61 fun h=>?_;unfold yW at h;refine z3 ?_;refine zp ?_;refine z2 (AW.seq ?_)
 refine AW.drawn0 (fun i=>([0,0,0,3,0,0,0,0,3,0,0]:List Nat).getD i 2) [] [0,1,2,5,6,7,3,4,8,9,10] mixed (by decide+kernel) ?_
 refine zq ?_;obtain⟨p0,hc,h⟩:=h
 refine Dp rfl rfl rfl rfl (wD rfl (by rw[<-hc];rfl)) ?_
 refine zg underlying147 qV ?_;refine zq ?_;obtain⟨p1,hc,h⟩:=h
 refine Dp rfl rfl rfl rfl (wD rfl (by rw[<-hc];rfl)) ?_
 refine zg underlying147 ty3 ?_;obtain⟨u2,hc,h⟩:=h
 refine Dr rfl rfl rfl rfl (vb rfl underlying24 rfl rfl hc) ?_
 refine Dp rfl rfl rfl rfl (qJ rfl rfl underlying24 rfl rfl) ?_
 obtain⟨u3,hc,h⟩:=h
 refine Dr rfl rfl rfl rfl (vb rfl underlying3 rfl rfl hc) ?_
 iterate 2 refine zq ?_
 refine aat ?_
 refine qc ?_;refine AW.ret ?_;exact bR1 results61 rfl ⟨_,rfl,h⟩
def uy(B:World)(ro:AH)(a0:Sl)(I:AH)(Q:Sl->AH->Prop):=
 ((0:Int)<=(a0.len:Int)/\(a0.len:Int)<=(a0.len:Int)/\((a0.len:Int):Int)<=281474976710656/\8*((a0.len:Int):Int)<=281474976710656)/\
 nw ro I (.cells (yl (.int .i64 0) (Int.toNat (a0.len:Int)*1)) 3) fun u0 I=>
 awp prog ro (Builtin.copy_ #[55,55] 3 #[Sl.v (⟨some ⟨u0,0,none⟩,Int.toNat (a0.len:Int),Int.toNat (a0.len:Int)⟩:Sl),Sl.v a0]) (fun v I=> ∃(u1:Int),v= .int .i64 u1/\
 Q (⟨some ⟨u0,0,none⟩,Int.toNat (a0.len:Int),Int.toNat (a0.len:Int)⟩:Sl) I) I
theorem ad1{a0:Sl}{Q:Sl->AH->Prop}(h:Sep ro I->uy B ro a0 I Q):uv B ro a0 I Q:=by
 refine zb h func76 ntmps76 fun h=>?_;unfold uy at h;refine z3 ?_;refine zp ?_;refine z4 ?_;refine zp ?_;refine zm (qJ rfl rfl underlying55 rfl rfl) ?_;obtain⟨⟨h0,h1,h2,h3⟩,h⟩:=h
 refine zA (ajL rfl underlying55 ty3 rfl rfl h0 h1 h2 h3) h fun u0 h=>?_;refine zp ?_;refine z4 ?_;iterate 2 refine zp ?_
 refine zl (jz (s:=Builtin.copy_ #[55,55] 3 #[Sl.v (⟨some ⟨u0,0,none⟩,Int.toNat (a0.len:Int),Int.toNat (a0.len:Int)⟩:Sl),Sl.v a0]) rfl rfl (fun _=>rfl) (qv _ h ?_))
 rintro v I ⟨u1,rfl,h⟩;refine z4 ?_;iterate 2 refine zp ?_
 refine z2 ?_;refine AW.ret ?_;exact bR1 results76 rfl ⟨_,rfl,h⟩
def pW(B:World)(ro:AH)(Q:Bool->AH->Prop)(I:AH):=
 Q true I
def vE(B:World)(ro:AH)(a0 a1:Sl)(Q:Bool->AH->Prop):Int->AH->(Int->AH->Prop)->Prop:=fun u0 I Y2=>
 if u0<(a0.len:Int)then
 ∃p1,a0.a=some p1/\(0:Int)<=u0/\u0<(a0.len:Int)/\
 ∃p2,a1.a=some p2/\(0:Int)<=u0/\u0<(a1.len:Int)/\
 ∃u3,qa ro I (p1.add (Int.toNat u0*1))=some (.int .i64 u3)/\
 ∃u4,qa ro I (p2.add (Int.toNat u0*1))=some (.int .i64 u4)/\
 if¬(u3=u4)then
  Q false I
 else
 Y2 (i64.wrap (u0+1)) I
 else
 pW B ro Q I
def uz(B:World)(ro:AH)(a0 a1:Sl)(I:AH)(Q:Bool->AH->Prop):=
 if¬((a0.len:Int)=(a1.len:Int))then
 Q false I
 else
 lfpD (vE B ro a0 a1 Q) (0) I
theorem ad2{a0 a1:Sl}{Q:Bool->AH->Prop}(h:Sep ro I->uz B ro a0 a1 I Q):uw B ro a0 a1 I Q:=by
 refine zb h func98 ntmps98 fun h=>?_;unfold uz at h;refine z3 ?_;refine zp ?_;refine z2 (AW.seq (z3 ?_))
 refine zp ?_;refine zm (qJ rfl rfl underlying55 rfl rfl) ?_;refine zp ?_;refine zm (qJ rfl rfl underlying55 rfl rfl) ?_;refine zp ?_;refine z2 ?_;refine AW.iff rfl (qt decide_eq_true_iff) h (fun h=>?_) (fun h=>?_)
 .refine z3 ?_;refine zp ?_;refine z2 ?_;refine AW.ret ?_;refine qi ?_;exact bR1 results98 rfl ⟨_,rfl,h⟩
 refine AW.skip ?_;refine qc ?_;refine AW.seqJ (fun fr I=>qk [] fr/\pW B ro Q I) ?_ ?_
 .rintro fr I ⟨hl,h⟩;refine AW.weaken ?_ hl (HLe.refl _)
  unfold pW at h;refine z3 ?_;refine zp ?_;refine z2 ?_;refine AW.ret ?_;exact bR1 results98 rfl ⟨_,rfl,h⟩
 refine z3 ?_;refine zp ?_;refine z2 (AW.block ?_)
 refine qn.loop (fr':=[(0,Sl.v a0),(1,Sl.v a1),(5,.int .i64 0)]) ?_ FL
 refine h (fun u0 I=>qn _ _ _ _ _ _ [(0,Sl.v a0),(1,Sl.v a1),(5,.int .i64 u0)] I) ?_
 rintro u0 I Y2 hY2 h
 show AW _ _ _ _ _ _ _ _
 unfold vE at h;refine AW.seq (z3 ?_);iterate 2 refine zp ?_
 refine zm (qJ rfl rfl underlying55 rfl rfl) ?_;refine zp ?_;refine z2 ?_;refine zi h (fun h=>?_) fun h=>?_
 rotate_left
 .refine AW.exit ?_;refine qR (qR ?_);refine wK ?_
  refine qc ?_;exact⟨FL,h⟩
 refine AW.skip ?_;refine qc (AW.seq (AW.block (AW.seq ?_)));refine AW.drawn0 (fun i=>([0,0,0,3,0,0,0,3,0]:List Nat).getD i 2) [] [0,1,2,4,5,6,3,7,8] mixed (by decide+kernel) ?_
 iterate 2 refine zq ?_
 obtain⟨p1,ha,h0,h1,h⟩:=h
 refine Dp rfl rfl rfl rfl (vL rfl underlying55 ty3 (ixL rfl ha) rfl h0 h1) ?_
 iterate 2 refine zq ?_
 obtain⟨p2,ha,h0,h1,h⟩:=h
 refine Dp rfl rfl rfl rfl (vL rfl underlying55 ty3 (ixL rfl ha) rfl h0 h1) ?_
 obtain⟨u3,hc,h⟩:=h
 refine Dr rfl rfl rfl rfl (vb rfl underlying3 rfl rfl hc) ?_
 obtain⟨u4,hc,h⟩:=h
 refine Dr rfl rfl rfl rfl (vb rfl underlying3 rfl rfl hc) ?_
 refine zq ?_;refine aat ?_
 refine qc ?_;refine AW.iff rfl (qt decide_eq_true_iff) h (fun h=>?_) (fun h=>?_)
 .refine z3 ?_;refine zp ?_;refine z2 ?_;refine AW.ret ?_;refine qQ (qi (qi (qQ (qi ?_))));exact bR1 results98 rfl ⟨_,rfl,h⟩
 refine AW.skip ?_;refine wq (qc (AW.reg ?_));iterate 3 refine zp ?_
 refine z2 ?_;refine qn.head (fr':=[(0,Sl.v a0),(1,Sl.v a1),(5,.int .i64 (i64.wrap (u0+1)))]) ?_ FL
 exact hY2 _ _ h
def ach(B:World)(ro:AH)(a0:Int)(I:AH)(Q:Bool->AH->Prop):=
 Q ((decide (a0<0)) || (decide (4611686018427387903<a0))) I
theorem agA{a0:Int}{Q:Bool->AH->Prop}(h:Sep ro I->ach B ro a0 I Q):aec B ro a0 I Q:=by
 refine zb h func118 ntmps118 fun h=>?_;unfold ach at h;refine z3 ?_;refine zp ?_;refine z4 ?_;iterate 3 refine zp ?_
 refine qX 3 (decide (a0<0)) [(8,.bool ((decide (a0<0)) || (decide (4611686018427387903<a0))))] ?_ ?_ ?_
 .intro e2 hk2
  iterate 2 refine zn e2 ?_
  refine zk e2 ?_;exact hk2 _ (Fe e2)
 .intro e2 hk2
  refine zy e2 ?_;refine zy e2 ?_;refine zk e2 ?_;exact hk2 _ (Fe e2)
 intro fr hl
 refine Lfr hl ?_
 refine zp ?_;refine z2 ?_;refine AW.ret ?_;exact bR1 results118 rfl ⟨_,rfl,h⟩
def pf(B:World)(ro:AH)(a1 u0:Int)(Q:Int->Int->Int->AH->Prop)(u1:Int)(I:AH):=
 Q u1 (i64.wrap ((i64.wrap (a1+u0))+1)) 0 I
def kL(B:World)(ro:AH)(a0:Sl)(a1 u0:Int)(Q:Int->Int->Int->AH->Prop):(Int×Int)->AH->((Int×Int)->AH->Prop)->Prop:=fun⟨u1,u2⟩ I Y9=>
 if 0<=u2 then
 ∃p3,a0.a=some p3/\(0:Int)<=(i64.wrap (a1+u2))/\(i64.wrap (a1+u2))<(a0.len:Int)/\
 ∃u4,qa ro I (p3.add (Int.toNat (i64.wrap (a1+u2))*1))=some (.int .u8 u4)/\
 Y9 (i64.wrap ((i64.wrap (u1*128))+(Int.tmod (i64.wrap u4) 128)),i64.wrap (u2 - 1)) I
 else
 pf B ro a1 u0 Q u1 I
def zw(B:World)(ro:AH)(a0:Sl)(a1 u0:Int)(Q:Int->Int->Int->AH->Prop)(u1:Bool)(I:AH):=
 if u1=true then
 Q 0 0 13 I
 else
 lfpD (kL B ro a0 a1 u0 Q) (0,u0) I
def vO(B:World)(ro:AH)(a0:Sl)(a1 u0:Int)(u1:Bool)(Q:Int->Int->Int->AH->Prop)(u2:Bool)(I:AH):=
 zw B ro a0 a1 u0 Q u2 I
def zX(B:World)(ro:AH)(a0:Sl)(a1 u0:Int)(Q:Int->Int->Int->AH->Prop)(u1:Bool)(I:AH):=
 if u1=true then
 zw B ro a0 a1 u0 Q true I
 else
 if u0=8 then
 ∃p2,a0.a=some p2/\(0:Int)<=(i64.wrap (a1+8))/\(i64.wrap (a1+8))<(a0.len:Int)/\
 ∃u3,qa ro I (p2.add (Int.toNat (i64.wrap (a1+8))*1))=some (.int .u8 u3)/\
 vO B ro a0 a1 u0 u1 Q (decide (63<u3)) I
 else
 vO B ro a0 a1 u0 u1 Q false I
def vP(B:World)(ro:AH)(a0:Sl)(a1 u0:Int)(Q:Int->Int->Int->AH->Prop)(u1:Bool)(I:AH):=
 zX B ro a0 a1 u0 Q u1 I
def ju(B:World)(ro:AH)(a0:Sl)(a1:Int)(Q:Int->Int->Int->AH->Prop)(u0:Int)(I:AH):=
 if(u0<0)/\((i64.wrap ((a0.len:Int) - a1))<9)then
 Q 0 0 12 I
 else
 if u0<0 then
 zX B ro a0 a1 u0 Q true I
 else
 if 0<u0 then
 ∃p1,a0.a=some p1/\(0:Int)<=(i64.wrap (a1+u0))/\(i64.wrap (a1+u0))<(a0.len:Int)/\
 ∃u2,qa ro I (p1.add (Int.toNat (i64.wrap (a1+u0))*1))=some (.int .u8 u2)/\
 vP B ro a0 a1 u0 Q (decide (u2=0)) I
 else
 vP B ro a0 a1 u0 Q false I
def vQ(B:World)(ro:AH)(a0:Sl)(a1 u0:Int)(Q:Int->Int->Int->AH->Prop)(Y22:(Int×Int)->AH->Prop)(u1:Int)(I:AH):=
 Y22 (u1,i64.wrap (u0+1)) I
def xV(B:World)(ro:AH)(a0:Sl)(a1:Int)(Q:Int->Int->Int->AH->Prop):(Int×Int)->AH->((Int×Int)->AH->Prop)->Prop:=fun⟨u0,u1⟩ I Y22=>
 if((u1<9)/\((i64.wrap (a1+u1))<(a0.len:Int)))/\(u0<0)then
 ∃p2,a0.a=some p2/\(0:Int)<=(i64.wrap (a1+u1))/\(i64.wrap (a1+u1))<(a0.len:Int)/\
 ∃u3,qa ro I (p2.add (Int.toNat (i64.wrap (a1+u1))*1))=some (.int .u8 u3)/\
 if u3<128 then
  vQ B ro a0 a1 u1 Q Y22 u1 I
 else
 vQ B ro a0 a1 u1 Q Y22 u0 I
 else
 ju B ro a0 a1 Q u0 I
def aaz(B:World)(ro:AH)(a0:Sl)(a1:Int)(I:AH)(Q:Int->Int->Int->AH->Prop):=
 if(a1<0)\/((a0.len:Int)<a1)then
 Q 0 0 11 I
 else
 lfpD (xV B ro a0 a1 Q) ((-1),0) I
theorem aeU{a0:Sl}{a1:Int}{Q:Int->Int->Int->AH->Prop}(h:Sep ro I->aaz B ro a0 a1 I Q):aay B ro a0 a1 I Q:=by
 refine zb h func120 ntmps120 fun h=>?_;unfold aaz at h;refine z3 ?_;iterate 3 refine zp ?_
 refine z2 (AW.seq (z3 ?_))
 iterate 3 refine zp ?_
 refine qX 5 (decide (a1<0)) [(0,Sl.v a0),(1,.int .i64 a1),(18,.bool ((decide (a1<0)) || (decide ((a0.len:Int)<a1))))] ?_ ?_ ?_
 .intro e2 hk2
  iterate 4 refine zn e2 ?_
  refine zk e2 ?_;exact hk2 _ (Fe e2)
 .intro e2 hk2
  refine zy e2 ?_;refine zy e2 ?_;refine qr (qJ rfl rfl underlying24 rfl rfl) rfl rfl rfl rfl e2 ?_
  refine zy e2 ?_;refine zk e2 ?_;exact hk2 _ (Fe e2)
 intro fr hl
 refine Lfr hl ?_
 refine z2 ?_;refine AW.iff rfl (wt decide_eq_true_iff decide_eq_true_iff) h (fun h=>?_) (fun h=>?_)
 .refine z3 ?_;iterate 3 refine zp ?_
  refine z2 ?_;refine AW.ret ?_;refine qi ?_;exact bR3 results120 rfl rfl rfl ⟨_,_,_,rfl,h⟩
 refine AW.skip ?_;refine qc (z3 ?_);refine zp ?_;refine z2 ?_;refine AW.seqJ (fun fr I=> ∃(u0:Int),qk [(0,Sl.v a0),(1,.int .i64 a1),(7,.int .i64 u0)] fr/\ju B ro a0 a1 Q u0 I) ?_ ?_
 rotate_left
 .refine z3 ?_;refine zp ?_;refine z2 (AW.block ?_)
  refine qn.loop (fr':=[(0,Sl.v a0),(1,.int .i64 a1),(7,.int .i64 (-1)),(8,.int .i64 0)]) ?_ FL
  refine h (fun⟨u1,u2⟩ I=>qn _ _ _ _ _ _ [(0,Sl.v a0),(1,.int .i64 a1),(7,.int .i64 u1),(8,.int .i64 u2)] I) ?_
  rintro⟨u1,u2⟩ I Y22 hY22 h
  show AW _ _ _ _ _ _ _ _
  unfold xV at h;dsimp only at h;refine AW.seq (z3 ?_);iterate 3 refine zp ?_
  refine qX 7 (decide (u2<9)) [(0,Sl.v a0),(1,.int .i64 a1),(7,.int .i64 u1),(8,.int .i64 u2),(28,.bool ((decide (u2<9)) && (decide ((i64.wrap (a1+u2))<(a0.len:Int)))))] ?_ ?_ ?_
  .intro e2 hk2
   refine zy e2 ?_;refine zy e2 ?_;refine zy e2 ?_;refine zy e2 ?_;refine qr (qJ rfl rfl underlying24 rfl rfl) rfl rfl rfl rfl e2 ?_
   refine zy e2 ?_;refine zk e2 ?_;exact hk2 _ (Fe e2)
  .intro e2 hk2
   iterate 6 refine zn e2 ?_
   refine zk e2 ?_;exact hk2 _ (Fe e2)
  intro fr hl
  refine Lfr hl ?_
  refine zp ?_;refine qX 3 ((decide (u2<9)) && (decide ((i64.wrap (a1+u2))<(a0.len:Int)))) [(0,Sl.v a0),(1,.int .i64 a1),(7,.int .i64 u1),(8,.int .i64 u2),(32,.bool (((decide (u2<9)) && (decide ((i64.wrap (a1+u2))<(a0.len:Int)))) && (decide (u1<0))))] ?_ ?_ ?_
  .intro e10 hk10
   refine zy e10 ?_;refine zy e10 ?_;refine zk e10 ?_;exact hk10 _ (Fe e10)
  .intro e10 hk10
   iterate 2 refine zn e10 ?_
   refine zk e10 ?_;exact hk10 _ (Fe e10)
  intro fr hl
  refine Lfr hl ?_
  refine z2 ?_;refine AW.iff rfl (jA (jA decide_eq_true_iff decide_eq_true_iff) decide_eq_true_iff) h (fun h=>?_) (fun h=>?_)
  rotate_left
  .refine AW.exit ?_;refine qR (qR ?_);refine wK ?_
   refine qc ?_;exact⟨_,FL,h⟩
  refine AW.skip ?_;refine qc ?_;refine AW.seqJ (fun fr I=> ∃(u3:Int),qk [(0,Sl.v a0),(1,.int .i64 a1),(8,.int .i64 u2),(7,.int .i64 u3)] fr/\vQ B ro a0 a1 u2 Q Y22 u3 I) ?_ ?_
  .rintro fr I ⟨u3,hl,h⟩;refine AW.weaken ?_ hl (HLe.refl _)
   unfold vQ at h;refine AW.reg ?_;iterate 3 refine zp ?_
   refine z2 ?_;refine qn.head (fr':=[(0,Sl.v a0),(1,.int .i64 a1),(7,.int .i64 u3),(8,.int .i64 (i64.wrap (u2+1)))]) ?_ FL
   exact hY22 _ _ h
  refine AW.block (z3 ?_);iterate 4 refine zp ?_
  obtain⟨p4,ha,h0,h1,h⟩:=h
  refine zm (vL rfl underlying24 ty5 (ixL rfl ha) rfl h0 h1) ?_;refine zL underlying5 h fun u5 h=>?_;refine zp ?_;refine z2 ?_;refine zi h (fun h=>?_) fun h=>?_
  rotate_left
  .refine AW.skip ?_;refine wq (qc ?_);exact⟨_,FL,h⟩
  refine AW.reg ?_;iterate 2 refine zp ?_
  refine pT (wq (qc ?_));exact⟨_,FL,h⟩
 rintro fr I ⟨u0,hl,h⟩;refine AW.weaken ?_ hl (HLe.refl _)
 unfold ju at h;refine AW.seq (z3 ?_);iterate 3 refine zp ?_
 refine qX 6 (decide (u0<0)) [(0,Sl.v a0),(1,.int .i64 a1),(7,.int .i64 u0),(51,.bool ((decide (u0<0)) && (decide ((i64.wrap ((a0.len:Int) - a1))<9))))] ?_ ?_ ?_
 .intro e2 hk2
  refine zy e2 ?_;refine qr (qJ rfl rfl underlying24 rfl rfl) rfl rfl rfl rfl e2 ?_
  refine zy e2 ?_;refine zy e2 ?_;refine zy e2 ?_;refine zk e2 ?_;exact hk2 _ (Fe e2)
 .intro e2 hk2
  iterate 5 refine zn e2 ?_
  refine zk e2 ?_;exact hk2 _ (Fe e2)
 intro fr hl
 refine Lfr hl ?_
 refine z2 ?_;refine AW.iff rfl (jA decide_eq_true_iff decide_eq_true_iff) h (fun h=>?_) (fun h=>?_)
 .refine z3 ?_;iterate 3 refine zp ?_
  refine z2 ?_;refine AW.ret ?_;refine qi ?_;exact bR3 results120 rfl rfl rfl ⟨_,_,_,rfl,h⟩
 refine AW.skip ?_;refine qc (AW.seq (z3 ?_));iterate 3 refine zp ?_
 refine qq 12 (decide (u0<0)) decide_eq_true_iff h (fun fr I=> ∃(u6:Bool),qk [(0,Sl.v a0),(1,.int .i64 a1),(7,.int .i64 u0),(66,.bool u6)] fr/\zX B ro a0 a1 u0 Q u6 I) ?_ ?_ ?_
 .intro h e2 hk2;iterate 3 refine zn e2 ?_
  refine Ln rfl rfl rfl rfl (.inr rfl) ?_
  refine Ln rfl rfl rfl rfl (.inr rfl) ?_
  refine Ln rfl rfl rfl rfl (.inr rfl) ?_
  refine Ln rfl rfl rfl rfl (.inr rfl) ?_
  refine Ln rfl rfl rfl rfl (.inr rfl) ?_
  refine Ln rfl rfl rfl rfl (.inr rfl) ?_
  refine Ln rfl rfl rfl rfl (.inr rfl) ?_
  refine zn e2 ?_;refine zk e2 ?_;exact hk2 _ _ ⟨_,FL,h⟩
 .intro h e2 hk2;refine zy e2 ?_;refine zy e2 ?_;refine zy e2 ?_;refine qq 8 (decide (0<u0)) decide_eq_true_iff h (fun fr I=> ∃(u7:Bool),qk [(0,Sl.v a0),(1,.int .i64 a1),(7,.int .i64 u0),(54,.bool (decide (u0<0))),(65,.bool u7)] fr/\vP B ro a0 a1 u0 Q u7 I) ?_ ?_ ?_
  .intro h e5 hk5;refine zy e5 ?_;refine zy e5 ?_;refine zy e5 ?_;refine zy e5 ?_;obtain⟨p8,ha,h0,h1,h⟩:=h
   refine qr (vL rfl underlying24 ty5 (ixL rfl ha) rfl h0 h1) rfl rfl rfl rfl e5 ?_
   obtain⟨u9,hc,h⟩:=h
   refine Lyb rfl rfl rfl rfl e5 (qM rfl underlying5 rfl rfl hc ?_)
   refine zy e5 ?_;refine qr (wa rfl (evb e5) rfl) rfl rfl rfl rfl e2 ?_
   exact hk5 _ _ ⟨_,FL,h⟩
  .intro h e5 hk5;iterate 7 refine zn e5 ?_
   refine qr (wx rfl (evb e5) rfl) rfl rfl rfl rfl e2 ?_
   exact hk5 _ _ ⟨_,FL,h⟩
  rintro fr I ⟨u7,hl,h⟩;unfold vP at h;refine Lfr hl ?_
  refine zk e2 ?_;exact hk2 _ _ ⟨_,FL,h⟩
 rintro fr I ⟨u6,hl,h⟩;unfold zX at h;refine Lfr hl ?_
 refine zp ?_;refine qq 11 u6 Iff.rfl h (fun fr I=> ∃(u10:Bool),qk [(0,Sl.v a0),(1,.int .i64 a1),(7,.int .i64 u0),(78,.bool u10)] fr/\zw B ro a0 a1 u0 Q u10 I) ?_ ?_ ?_
 .intro h e15 hk15;iterate 3 refine zn e15 ?_
  refine Ln rfl rfl rfl rfl (.inr rfl) ?_
  refine Ln rfl rfl rfl rfl (.inr rfl) ?_
  refine Ln rfl rfl rfl rfl (.inr rfl) ?_
  refine Ln rfl rfl rfl rfl (.inr rfl) ?_
  refine Ln rfl rfl rfl rfl (.inr rfl) ?_
  refine Ln rfl rfl rfl rfl (.inr rfl) ?_
  refine zn e15 ?_;refine zk e15 ?_;exact hk15 _ _ ⟨_,FL,h⟩
 .intro h e15 hk15;refine zy e15 ?_;refine zy e15 ?_;refine zy e15 ?_;refine qq 7 (decide (u0=8)) decide_eq_true_iff h (fun fr I=> ∃(u11:Bool),qk [(0,Sl.v a0),(1,.int .i64 a1),(7,.int .i64 u0),(67,.bool u6),(77,.bool u11)] fr/\vO B ro a0 a1 u0 u6 Q u11 I) ?_ ?_ ?_
  .intro h e18 hk18;refine zy e18 ?_;refine zy e18 ?_;refine zy e18 ?_;obtain⟨p12,ha,h0,h1,h⟩:=h
   refine qr (vL rfl underlying24 ty5 (ixL rfl ha) rfl h0 h1) rfl rfl rfl rfl e18 ?_
   obtain⟨u13,hc,h⟩:=h
   refine Lyb rfl rfl rfl rfl e18 (qM rfl underlying5 rfl rfl hc ?_)
   refine zy e18 ?_;refine qr (wa rfl (evb e18) rfl) rfl rfl rfl rfl e15 ?_
   exact hk18 _ _ ⟨_,FL,h⟩
  .intro h e18 hk18;iterate 6 refine zn e18 ?_
   refine qr (wx rfl (evb e18) rfl) rfl rfl rfl rfl e15 ?_
   exact hk18 _ _ ⟨_,FL,h⟩
  rintro fr I ⟨u11,hl,h⟩;unfold vO at h;refine Lfr hl ?_
  refine zk e15 ?_;exact hk15 _ _ ⟨_,FL,h⟩
 rintro fr I ⟨u10,hl,h⟩;unfold zw at h;refine Lfr hl ?_
 refine z2 ?_;refine zj h (fun h=>?_) fun h=>?_
 .refine z3 ?_;iterate 3 refine zp ?_
  refine z2 ?_;refine AW.ret ?_;refine qi ?_;exact bR3 results120 rfl rfl rfl ⟨_,_,_,rfl,h⟩
 refine AW.skip ?_;refine qc (z3 ?_);refine zp ?_;refine z2 ?_;refine AW.seqJ (fun fr I=> ∃(u14:Int),qk [(1,.int .i64 a1),(7,.int .i64 u0),(9,.int .i64 u14)] fr/\pf B ro a1 u0 Q u14 I) ?_ ?_
 .rintro fr I ⟨u14,hl,h⟩;refine AW.weaken ?_ hl (HLe.refl _)
  unfold pf at h;refine z3 ?_;iterate 8 refine zp ?_
  refine z2 ?_;refine AW.ret ?_;exact bR3 results120 rfl rfl rfl ⟨_,_,_,rfl,h⟩
 refine z3 ?_;iterate 2 refine zp ?_
 refine z2 (AW.block ?_)
 refine qn.loop (fr':=[(0,Sl.v a0),(1,.int .i64 a1),(7,.int .i64 u0),(9,.int .i64 0),(10,.int .i64 u0)]) ?_ FL
 refine h (fun⟨u15,u16⟩ I=>qn _ _ _ _ _ _ [(0,Sl.v a0),(1,.int .i64 a1),(7,.int .i64 u0),(9,.int .i64 u15),(10,.int .i64 u16)] I) ?_
 rintro⟨u15,u16⟩ I Y9 hY9 h
 show AW _ _ _ _ _ _ _ _
 unfold kL at h;dsimp only at h;refine AW.seq (z3 ?_);iterate 2 refine zp ?_
 refine z2 ?_;refine zi h (fun h=>?_) fun h=>?_
 rotate_left
 .refine AW.exit ?_;refine qR (qR ?_);refine wK ?_
  refine qc ?_;exact⟨_,FL,h⟩
 refine AW.skip ?_;refine qc (AW.seq (AW.block (AW.reg ?_)));iterate 6 refine zp ?_
 obtain⟨p17,ha,h0,h1,h⟩:=h
 refine zm (vL rfl underlying24 ty5 (ixL rfl ha) rfl h0 h1) ?_;refine zL underlying5 h fun u18 h=>?_;refine zm (adS rfl rfl underlying5 underlying3) ?_;refine zm (ahM rfl rfl rfl (by decide)) ?_;iterate 2 refine zp ?_
 refine pT (wq (qc (AW.reg ?_)));iterate 3 refine zp ?_
 refine z2 ?_;refine qn.head (fr':=[(0,Sl.v a0),(1,.int .i64 a1),(7,.int .i64 u0),(9,.int .i64 (i64.wrap ((i64.wrap (u15*128))+(Int.tmod (i64.wrap u18) 128)))),(10,.int .i64 (i64.wrap (u16 - 1)))]) ?_ FL
 exact hY9 _ _ h
end G
namespace Zt
open Go SL G Pa
variable{B:World}{ro I I':AH}{tag tag':Nat->Nat}
theorem copy_ok{s:Sl}{l:List Value}{Q:Sl->AH->Prop}(h:SL.qy ro I s l)(hs:SL.Sep ro I)(hl:l.length<=140737488355328)(hv:∀ v∈l,qg v=true)(hQ:∀ s' tag' I',(∀R,qf R ro tag I tag' I')->Row tag' I' 6 5 s' l->Q s' I'):jU B ro s I Q:=by
 refine afX fun _=>?_
 unfold abE
 refine ql (tag:=tag) 0 hs fun b tag1 I1 st1 r1=>?_
 refine adc fun _=>?_
 unfold uZ
 refine ql (tag:=tag1) 6 (st1 []).sep fun c tag2 I2 st2 r2=>?_
 have r1':=r1.keep (st2 [])
 have h2:SL.qy ro I2 s l:=(h.step (st1 [])).step (st2 [])
 refine lfpD.intro ?_
 unfold jo
 simp only
 rw[if_pos (by decide)]
 obtain⟨p,hp,hg⟩:=r1'.ptr (st2 []).sep (by simp)
 cases hp
 refine⟨_,rfl,by decide,by decide,s,hg 0 _ rfl,?_⟩
 refine xJ r2 (st2 []).sep h2 u30 ty5 rfl hv (by simp;omega) (by decide) fun s' tag3 I3 st3 r3=>?_
 refine⟨s',rfl,?_⟩
 rw[show i64.wrap (0+1)=1 from by decide]
 refine lfpD.intro ?_
 show(if(1:Int)<((1:Nat):Int)then _ else _)
 rw[if_neg (by decide)]
 unfold yL
 exact hQ s' tag3 I3 (fun R=>(st1 R).trans ((st2 R).trans (st3 R (.inl rfl)))) r3
end Zt
namespace G
open Go SL
variable{B:World}{ro I:AH}
def wB(B:World)(ro:AH)(a0:Option Addr)(a1:ByteArray)(Q:Int->Value->AH->Prop)(u0:Int)(I:AH):=
 ∃p1,a0=some p1/\
 ∃u2,qa ro I p1=some (Sl.v u2)/\
 cutOk (some u0) none u2.len u2.cap/\
 awp prog ro (Builtin.copy_ #[24,9] 3 #[Sl.v (⟨wy u2.a (Int.toNat u0) u2.cap 1,u2.len - Int.toNat u0,u2.cap - Int.toNat u0⟩:Sl),.string a1]) (fun v I=> ∃(u3:Int),v= .int .i64 u3/\
 Q u3 .nilIface I) I
def kQ(B:World)(ro:AH)(a0:Option Addr)(a1:ByteArray)(I:AH)(Q:Int->Value->AH->Prop):=
 ∃p0,a0=some p0/\
 stN (p0.add 2) (fun I=>
 wC B ro a0 (a1.size:Int) I fun u1 u2 I=>
 if¬(u2=true)then
  jc B ro a0 (a1.size:Int) I fun u3 I=>
  wB B ro a0 a1 Q u3 I
 else
 wB B ro a0 a1 Q u1 I) [.int .i8 0] 0 I
theorem aaT{a0:Option Addr}{a1:ByteArray}{Q:Int->Value->AH->Prop}(h:Sep ro I->kQ B ro a0 a1 I Q):kP B ro a0 a1 I Q:=by
 refine zb h func115 ntmps115 fun h=>?_;unfold kQ at h;refine z3 ?_;iterate 2 refine zp ?_
 refine z4 ?_;refine zp ?_;refine zN h fun p0 h=>?_;refine zf underlying217 aga ?_;refine zs aga h fun I h=>?_;refine z4 ?_;iterate 2 refine zp ?_
 refine zm (jN rfl rfl underlying9 rfl rfl) ?_;refine zc func176 h ?_;rintro v I ⟨u1,u2,rfl,h⟩;iterate 5 refine zp ?_
 refine z2 ?_;refine AW.seqJ (fun fr I=> ∃(u3:Int),qk [(0,.pointer a0),(1,.string a1),(6,.int .i64 u3)] fr/\wB B ro a0 a1 Q u3 I) ?_ ?_
 rotate_left
 .refine z3 ?_;iterate 2 refine zp ?_
  refine z2 ?_;refine AW.iff rfl (qt Iff.rfl) h (fun h=>?_) (fun h=>?_)
  rotate_left
  .refine AW.skip ?_;refine qc ?_;exact⟨_,FL,h⟩
  refine AW.reg ?_;iterate 2 refine zp ?_
  refine zm (jN rfl rfl underlying9 rfl rfl) ?_;refine zc func177 h ?_;rintro v I ⟨u4,rfl,h⟩;refine zp ?_;refine z2 ?_;exact⟨_,FL,h⟩
 rintro fr I ⟨u3,hl,h⟩;refine AW.weaken ?_ hl (HLe.refl _)
 unfold wB at h;refine z3 ?_;refine zp ?_;refine zN h fun p5 h=>?_;refine zf underlying217 qV ?_;refine zL underlying24 h fun u6 h=>?_;refine zp ?_;obtain⟨hc,h⟩:=h
 refine zm (un (lo:=(some u3)) (hi:=none) rfl underlying24 ty5 rfl (ze rfl) zW hc) ?_;refine zp ?_;refine zl (jz (s:=Builtin.copy_ #[24,9] 3 #[Sl.v (⟨wy u6.a (Int.toNat u3) u6.cap 1,u6.len - Int.toNat u3,u6.cap - Int.toNat u3⟩:Sl),.string a1]) rfl rfl (fun _=>rfl) (qv _ h ?_))
 rintro v I ⟨u7,rfl,h⟩;iterate 2 refine zp ?_
 refine z2 ?_;refine AW.ret ?_;exact bR2 results115 rfl rfl ⟨_,_,rfl,h⟩
def zz(B:World)(ro:AH)(a0:Option Addr)(a1:Sl)(Q:Int->Value->AH->Prop)(u0:Int)(I:AH):=
 ∃p1,a0=some p1/\
 ∃u2,qa ro I p1=some (Sl.v u2)/\
 cutOk (some u0) none u2.len u2.cap/\
 awp prog ro (Builtin.copy_ #[24,24] 3 #[Sl.v (⟨wy u2.a (Int.toNat u0) u2.cap 1,u2.len - Int.toNat u0,u2.cap - Int.toNat u0⟩:Sl),Sl.v a1]) (fun v I=> ∃(u3:Int),v= .int .i64 u3/\
 Q u3 .nilIface I) I
def yt(B:World)(ro:AH)(a0:Option Addr)(a1:Sl)(I:AH)(Q:Int->Value->AH->Prop):=
 ∃p0,a0=some p0/\
 stN (p0.add 2) (fun I=>
 wC B ro a0 (a1.len:Int) I fun u1 u2 I=>
 if¬(u2=true)then
  jc B ro a0 (a1.len:Int) I fun u3 I=>
  zz B ro a0 a1 Q u3 I
 else
 zz B ro a0 a1 Q u1 I) [.int .i8 0] 0 I
theorem acy{a0:Option Addr}{a1:Sl}{Q:Int->Value->AH->Prop}(h:Sep ro I->yt B ro a0 a1 I Q):xG B ro a0 a1 I Q:=by
 refine zb h func116 ntmps116 fun h=>?_;unfold yt at h;refine z3 ?_;iterate 2 refine zp ?_
 refine z4 ?_;refine zp ?_;refine zN h fun p0 h=>?_;refine zf underlying217 aga ?_;refine zs aga h fun I h=>?_;refine z4 ?_;iterate 2 refine zp ?_
 refine zm (qJ rfl rfl underlying24 rfl rfl) ?_;refine zc func176 h ?_;rintro v I ⟨u1,u2,rfl,h⟩;iterate 5 refine zp ?_
 refine z2 ?_;refine AW.seqJ (fun fr I=> ∃(u3:Int),qk [(0,.pointer a0),(1,Sl.v a1),(6,.int .i64 u3)] fr/\zz B ro a0 a1 Q u3 I) ?_ ?_
 rotate_left
 .refine z3 ?_;iterate 2 refine zp ?_
  refine z2 ?_;refine AW.iff rfl (qt Iff.rfl) h (fun h=>?_) (fun h=>?_)
  rotate_left
  .refine AW.skip ?_;refine qc ?_;exact⟨_,FL,h⟩
  refine AW.reg ?_;iterate 2 refine zp ?_
  refine zm (qJ rfl rfl underlying24 rfl rfl) ?_;refine zc func177 h ?_;rintro v I ⟨u4,rfl,h⟩;refine zp ?_;refine z2 ?_;exact⟨_,FL,h⟩
 rintro fr I ⟨u3,hl,h⟩;refine AW.weaken ?_ hl (HLe.refl _)
 unfold zz at h;refine z3 ?_;refine zp ?_;refine zN h fun p5 h=>?_;refine zf underlying217 qV ?_;refine zL underlying24 h fun u6 h=>?_;refine zp ?_;obtain⟨hc,h⟩:=h
 refine zm (un (lo:=(some u3)) (hi:=none) rfl underlying24 ty5 rfl (ze rfl) zW hc) ?_;refine zp ?_;refine zl (jz (s:=Builtin.copy_ #[24,24] 3 #[Sl.v (⟨wy u6.a (Int.toNat u3) u6.cap 1,u6.len - Int.toNat u3,u6.cap - Int.toNat u3⟩:Sl),Sl.v a1]) rfl rfl (fun _=>rfl) (qv _ h ?_))
 rintro v I ⟨u7,rfl,h⟩;iterate 2 refine zp ?_
 refine z2 ?_;refine AW.ret ?_;exact bR2 results116 rfl rfl ⟨_,_,rfl,h⟩
def yu(B:World)(ro:AH)(a0:Option Addr)(I:AH)(Q:Sl->AH->Prop):=
 ∃p0,a0=some p0/\
 ∃p1,a0=some p1/\
 ∃u2,qa ro I p0=some (Sl.v u2)/\
 ∃u3,qa ro I (p1.add 1)=some (.int .i64 u3)/\
 cutOk (some u3) none u2.len u2.cap/\
 Q (⟨wy u2.a (Int.toNat u3) u2.cap 1,u2.len - Int.toNat u3,u2.cap - Int.toNat u3⟩:Sl) I
theorem acz{a0:Option Addr}{Q:Sl->AH->Prop}(h:Sep ro I->yu B ro a0 I Q):uR B ro a0 I Q:=by
 refine zb h func117 ntmps117 fun h=>?_;unfold yu at h;refine z3 ?_;refine zp ?_;refine z2 (AW.seq ?_)
 refine AW.drawn0 (fun i=>([0,0,0,3,0,0,0,3,0,0]:List Nat).getD i 2) [] [0,1,2,4,5,6,3,7,8,9] mixed (by decide+kernel) ?_
 refine zq ?_;obtain⟨p0,hc,h⟩:=h
 refine Dp rfl rfl rfl rfl (wD rfl (by rw[<-hc];rfl)) ?_
 refine zg underlying217 qV ?_;refine zq ?_;obtain⟨p1,hc,h⟩:=h
 refine Dp rfl rfl rfl rfl (wD rfl (by rw[<-hc];rfl)) ?_
 refine zg underlying217 ty3 ?_;obtain⟨u2,hc,h⟩:=h
 refine Dr rfl rfl rfl rfl (vb rfl underlying24 rfl rfl hc) ?_
 obtain⟨u3,hc,h⟩:=h
 refine Dr rfl rfl rfl rfl (vb rfl underlying3 rfl rfl hc) ?_
 obtain⟨hc,h⟩:=h
 refine Dp rfl rfl rfl rfl (un (lo:=(some u3)) (hi:=none) rfl underlying24 ty5 rfl (ze rfl) zW hc) ?_
 refine zq ?_;refine aat ?_
 refine qc ?_;refine AW.ret ?_;exact bR1 results117 rfl ⟨_,rfl,h⟩
def vp(B:World)(ro:AH)(a0:Option Addr)(a1:Int)(I:AH)(Q:Int->Bool->AH->Prop):=
 ∃p0,a0=some p0/\
 ∃u1,qa ro I p0=some (Sl.v u1)/\
 ∃p2,a0=some p2/\
 ∃u3,qa ro I p2=some (Sl.v u3)/\
 awp prog ro (Builtin.cap_ #[24] 3 #[Sl.v u3]) (fun v I=> ∃(u4:Int),v= .int .i64 u4/\
 if a1<=(i64.wrap (u4 - (u1.len:Int)))then
  ∃p5,a0=some p5/\
  ∃u6,qa ro I p5=some (Sl.v u6)/\
  cutOk none (some (i64.wrap ((u1.len:Int)+a1))) u6.len u6.cap/\
  ∃p7,a0=some p7/\
  stN p7 (fun I=>
  Q (u1.len:Int) true I) [Sl.v (⟨wy u6.a (0) u6.cap 1,Int.toNat (i64.wrap ((u1.len:Int)+a1)) - 0,u6.cap - 0⟩:Sl)] 0 I
 else
 Q 0 false I) I
theorem uA{a0:Option Addr}{a1:Int}{Q:Int->Bool->AH->Prop}(h:Sep ro I->vp B ro a0 a1 I Q):wC B ro a0 a1 I Q:=by
 refine zb h func176 ntmps176 fun h=>?_;unfold vp at h;refine z3 ?_;iterate 2 refine zp ?_
 refine z2 (AW.seq (z3 ?_))
 refine zp ?_;refine zN h fun p0 h=>?_;refine zf underlying217 qV ?_;refine zL underlying24 h fun u1 h=>?_;refine zm (qJ rfl rfl underlying24 rfl rfl) ?_;refine zp ?_;refine z4 ?_;iterate 2 refine zp ?_
 refine zN h fun p2 h=>?_;refine zf underlying217 qV ?_;refine zL underlying24 h fun u3 h=>?_;refine zl (jz (s:=Builtin.cap_ #[24] 3 #[Sl.v u3]) rfl rfl (fun _=>rfl) (qv _ h ?_))
 rintro v I ⟨u4,rfl,h⟩;iterate 3 refine zp ?_
 refine z2 ?_;refine zi h (fun h=>?_) fun h=>?_
 rotate_left
 .refine AW.skip ?_;refine qc (z3 ?_);iterate 2 refine zp ?_
  refine z2 ?_;refine AW.ret ?_;exact bR2 results176 rfl rfl ⟨_,_,rfl,h⟩
 refine z3 ?_;iterate 2 refine zp ?_
 refine zN h fun p5 h=>?_;refine zf underlying217 qV ?_;refine zL underlying24 h fun u6 h=>?_;iterate 3 refine zp ?_
 obtain⟨hc,h⟩:=h
 refine zm (un (lo:=none) (hi:=(some (i64.wrap ((u1.len:Int)+a1)))) rfl underlying24 ty5 rfl zW (ze rfl) hc) ?_;refine zN h fun p7 h=>?_;refine zf underlying217 qV ?_;refine zs qV h fun I h=>?_;refine z4 ?_;iterate 3 refine zp ?_
 refine z2 ?_;refine AW.ret ?_;refine qi ?_;exact bR2 results176 rfl rfl ⟨_,_,rfl,h⟩
def vm(B:World)(ro:AH)(a0:Option Addr)(a1 u0:Int)(Q:Int->AH->Prop)(I:AH):=
 ∃p1,a0=some p1/\
 stN (p1.add 1) (fun I=>
 ∃p2,a0=some p2/\
 ∃u3,qa ro I p2=some (Sl.v u3)/\
 cutOk none (some (i64.wrap (u0+a1))) u3.len u3.cap/\
 ∃p4,a0=some p4/\
 stN p4 (fun I=>
  Q u0 I) [Sl.v (⟨wy u3.a (0) u3.cap 1,Int.toNat (i64.wrap (u0+a1)) - 0,u3.cap - 0⟩:Sl)] 0 I) [.int .i64 0] 0 I
def zM(B:World)(ro:AH)(a0:Option Addr)(a1 u0:Int)(Q:Int->AH->Prop)(I:AH):=
 wC B ro a0 a1 I fun u1 u2 I=>
 if u2=true then
 Q u1 I
 else
 ∃p3,a0=some p3/\
 ∃u4,qa ro I p3=some (Sl.v u4)/\
 if(u4.a=none)/\(a1<=64)then
 ((0:Int)<=a1/\a1<=64/\(64:Int)<=281474976710656/\1*(64:Int)<=281474976710656)/\
 nw ro I (.cells (yl (.int .u8 0) (Int.toNat 64*1)) 5) fun u5 I=>
 ∃p6,a0=some p6/\
 stN p6 (fun I=>
  Q 0 I) [Sl.v (⟨some ⟨u5,0,none⟩,Int.toNat a1,Int.toNat 64⟩:Sl)] 0 I
 else
 ∃p7,a0=some p7/\
 ∃u8,qa ro I p7=some (Sl.v u8)/\
 awp prog ro (Builtin.cap_ #[24] 3 #[Sl.v u8]) (fun v I=> ∃(u9:Int),v= .int .i64 u9/\
 if a1<=(i64.wrap ((i64.wrap (Int.tdiv u9 2)) - u0))then
  ∃p10,a0=some p10/\
  ∃p11,a0=some p11/\
  ∃p12,a0=some p12/\
  ∃u13,qa ro I p10=some (Sl.v u13)/\
  ∃u14,qa ro I p11=some (Sl.v u14)/\
  ∃u15,qa ro I (p12.add 1)=some (.int .i64 u15)/\
  cutOk (some u15) none u14.len u14.cap/\
  awp prog ro (Builtin.copy_ #[24,24] 3 #[Sl.v u13,Sl.v (⟨wy u14.a (Int.toNat u15) u14.cap 1,u14.len - Int.toNat u15,u14.cap - Int.toNat u15⟩:Sl)]) (fun v I=> ∃(u16:Int),v= .int .i64 u16/\
  vm B ro a0 a1 u0 Q I) I
 else
 if(i64.wrap ((i64.wrap (9223372036854775807 - u9)) - a1))<u9 then
  False
 else
 ∃p17,a0=some p17/\
 ∃p18,a0=some p18/\
 ∃p19,a0=some p19/\
 ∃u20,qa ro I p17=some (Sl.v u20)/\
 ∃u21,qa ro I (p18.add 1)=some (.int .i64 u21)/\
 cutOk (some u21) none u20.len u20.cap/\
 ∃u22,qa ro I (p19.add 1)=some (.int .i64 u22)/\
 abb B ro (⟨wy u20.a (Int.toNat u21) u20.cap 1,u20.len - Int.toNat u21,u20.cap - Int.toNat u21⟩:Sl) (i64.wrap (u22+a1)) I fun u23 I=>
 ∃p24,a0=some p24/\
 stN p24 (fun I=>
  vm B ro a0 a1 u0 Q I) [Sl.v u23] 0 I) I
def zB(B:World)(ro:AH)(a0:Option Addr)(a1 u0:Int)(Q:Int->AH->Prop)(u1:Bool)(I:AH):=
 if u1=true then
 acQ B ro a0 I fun I=>
 zM B ro a0 a1 u0 Q I
 else
 zM B ro a0 a1 u0 Q I
def yX(B:World)(ro:AH)(a0:Option Addr)(a1:Int)(I:AH)(Q:Int->AH->Prop):=
 aaR B ro a0 I fun u0 I=>
 if u0=0 then
 ∃p1,a0=some p1/\
 ∃u2,qa ro I (p1.add 1)=some (.int .i64 u2)/\
 zB B ro a0 a1 u0 Q (!(decide (u2=0))) I
 else
 zB B ro a0 a1 u0 Q false I
theorem acZ{a0:Option Addr}{a1:Int}{Q:Int->AH->Prop}(h:Sep ro I->yX B ro a0 a1 I Q):jc B ro a0 a1 I Q:=by
 refine zb h func177 ntmps177 fun h=>?_;unfold yX at h;refine z3 ?_;refine zp ?_;refine z4 ?_;refine zp ?_;refine zc func224 h ?_;rintro v I ⟨u0,rfl,h⟩;refine zp ?_;refine z2 ?_;refine AW.seqJ (fun fr I=>qk [(0,.pointer a0),(1,.int .i64 a1),(5,.int .i64 u0)] fr/\zM B ro a0 a1 u0 Q I) ?_ ?_
 rotate_left
 .refine z3 ?_;iterate 3 refine zp ?_
  refine qq 6 (decide (u0=0)) decide_eq_true_iff h (fun fr I=> ∃(u1:Bool),qk [(0,.pointer a0),(1,.int .i64 a1),(5,.int .i64 u0),(19,.bool u1)] fr/\zB B ro a0 a1 u0 Q u1 I) ?_ ?_ ?_
  .intro h e2 hk2;refine zy e2 ?_;obtain⟨p2,hc,h⟩:=h
   refine qr (wD rfl (by rw[<-hc];rfl)) rfl rfl rfl rfl e2 ?_
   refine qr (qx rfl underlying217 rfl ty3 (by decide) rfl) rfl rfl rfl rfl e2 ?_
   obtain⟨u3,hc,h⟩:=h
   refine Lyb rfl rfl rfl rfl e2 (qM rfl underlying3 rfl rfl hc ?_)
   refine zy e2 ?_;refine zk e2 ?_;exact hk2 _ _ ⟨_,FL,h⟩
  .intro h e2 hk2;iterate 5 refine zn e2 ?_
   refine zk e2 ?_;exact hk2 _ _ ⟨_,FL,h⟩
  rintro fr I ⟨u1,hl,h⟩;unfold zB at h;refine Lfr hl ?_
  refine z2 ?_;refine zj h (fun h=>?_) fun h=>?_
  rotate_left
  .refine AW.skip ?_;refine qc ?_;exact⟨FL,h⟩
  refine AW.reg ?_;refine zp ?_;refine zc func225 h ?_;rintro v I ⟨rfl,h⟩;refine z2 ?_;exact⟨FL,h⟩
 rintro fr I ⟨hl,h⟩;refine AW.weaken ?_ hl (HLe.refl _)
 unfold zM at h;refine AW.seq (z3 ?_);iterate 2 refine zp ?_
 refine zc func176 h ?_;rintro v I ⟨u4,u5,rfl,h⟩;iterate 5 refine zp ?_
 refine z4 ?_;refine zp ?_;refine z2 ?_;refine zj h (fun h=>?_) fun h=>?_
 .refine z3 ?_;iterate 2 refine zp ?_
  refine z2 ?_;refine AW.ret ?_;refine qi ?_;exact bR1 results177 rfl ⟨_,rfl,h⟩
 refine AW.skip ?_;refine qc (AW.seq (z3 ?_));refine zp ?_;refine zN h fun p6 h=>?_;refine zf underlying217 qV ?_;refine zL underlying24 h fun u7 h=>?_;refine zm (ahV rfl underlying24 rfl rfl) ?_;refine zp ?_;refine qX 3 u7.a.isNone [(0,.pointer a0),(1,.int .i64 a1),(5,.int .i64 u0),(38,.bool (u7.a.isNone && (decide (a1<=64))))] ?_ ?_ ?_
 .intro e5 hk5
  refine zy e5 ?_;refine zy e5 ?_;refine zk e5 ?_;exact hk5 _ (Fe e5)
 .intro e5 hk5
  iterate 2 refine zn e5 ?_
  refine zk e5 ?_;exact hk5 _ (Fe e5)
 intro fr hl
 refine Lfr hl ?_
 refine z2 ?_;refine AW.iff rfl (jA jr decide_eq_true_iff) h (fun h=>?_) (fun h=>?_)
 .refine z3 ?_;iterate 2 refine zp ?_
  obtain⟨⟨h0,h1,h2,h3⟩,h⟩:=h
  refine zA (ajL rfl underlying24 ty5 rfl rfl h0 h1 h2 h3) h fun u8 h=>?_;refine zN h fun p9 h=>?_;refine zf underlying217 qV ?_;refine zs qV h fun I h=>?_;refine z4 ?_;refine zp ?_;refine z2 ?_;refine AW.ret ?_;refine qi ?_;exact bR1 results177 rfl ⟨_,rfl,h⟩
 refine AW.skip ?_;refine qc (z3 ?_);refine zp ?_;refine zN h fun p10 h=>?_;refine zf underlying217 qV ?_;refine zL underlying24 h fun u11 h=>?_;refine zl (jz (s:=Builtin.cap_ #[24] 3 #[Sl.v u11]) rfl rfl (fun _=>rfl) (qv _ h ?_))
 rintro v I ⟨u12,rfl,h⟩;refine zp ?_;refine z2 ?_;refine AW.seqJ (fun fr I=>qk [(0,.pointer a0),(1,.int .i64 a1),(5,.int .i64 u0)] fr/\vm B ro a0 a1 u0 Q I) ?_ ?_
 .rintro fr I ⟨hl,h⟩;refine AW.weaken ?_ hl (HLe.refl _)
  unfold vm at h;refine z3 ?_;refine zp ?_;refine zN h fun p13 h=>?_;refine zf underlying217 ty3 ?_;refine zs ty3 h fun I h=>?_;refine z4 ?_;iterate 2 refine zp ?_
  refine zN h fun p14 h=>?_;refine zf underlying217 qV ?_;refine zL underlying24 h fun u15 h=>?_;iterate 3 refine zp ?_
  obtain⟨hc,h⟩:=h
  refine zm (un (lo:=none) (hi:=(some (i64.wrap (u0+a1)))) rfl underlying24 ty5 rfl zW (ze rfl) hc) ?_;refine zN h fun p16 h=>?_;refine zf underlying217 qV ?_;refine zs qV h fun I h=>?_;refine z4 ?_;iterate 2 refine zp ?_
  refine z2 ?_;refine AW.ret ?_;exact bR1 results177 rfl ⟨_,rfl,h⟩
 refine z3 ?_;iterate 2 refine zp ?_
 refine zm (ajJ rfl rfl rfl (by decide)) ?_;iterate 3 refine zp ?_
 refine z2 ?_;refine zi h (fun h=>?_) fun h=>?_
 .refine AW.drawn0 (fun i=>([0,0,0,3,0,0,0,3,0,0,0,3,0,2]:List Nat).getD i 2) [(7,12),(7,13),(11,12),(11,13)] [0,1,2,4,5,6,8,9,10,3,7,11,12,13] mixed (by decide+kernel) ?_
  refine zq ?_;obtain⟨p17,hc,h⟩:=h
  refine Dp rfl rfl rfl rfl (wD rfl (by rw[<-hc];rfl)) ?_
  refine zg underlying217 qV ?_;refine zq ?_;obtain⟨p18,hc,h⟩:=h
  refine Dp rfl rfl rfl rfl (wD rfl (by rw[<-hc];rfl)) ?_
  refine zg underlying217 qV ?_;refine zq ?_;obtain⟨p19,hc,h⟩:=h
  refine Dp rfl rfl rfl rfl (wD rfl (by rw[<-hc];rfl)) ?_
  refine zg underlying217 ty3 ?_;obtain⟨u20,hc,h⟩:=h
  refine Dr rfl rfl rfl rfl (vb rfl underlying24 rfl rfl hc) ?_
  obtain⟨u21,hc,h⟩:=h
  refine Dr rfl rfl rfl rfl (vb rfl underlying24 rfl rfl hc) ?_
  obtain⟨u22,hc,h⟩:=h
  refine Dr rfl rfl rfl rfl (vb rfl underlying3 rfl rfl hc) ?_
  obtain⟨hc,h⟩:=h
  refine Dp rfl rfl rfl rfl (un (lo:=(some u22)) (hi:=none) rfl underlying24 ty5 rfl (ze rfl) zW hc) ?_
  refine Dg rfl rfl rfl rfl (jz (s:=Builtin.copy_ #[24,24] 3 #[Sl.v u20,Sl.v (⟨wy u21.a (Int.toNat u22) u21.cap 1,u21.len - Int.toNat u22,u21.cap - Int.toNat u22⟩:Sl)]) rfl rfl (fun _=>rfl) (qv _ h ?_))
  rintro v I ⟨u23,rfl,h⟩;refine aat ?_
  refine qc ?_;exact⟨FL,h⟩
 refine z3 ?_;iterate 6 refine zp ?_
 refine z2 ?_;refine zi h (fun h=>?_) fun h=>?_
 .exact h.elim
 refine AW.drawn0 (fun i=>([0,0,0,0,3,0,0,0,3,0,0,0,0,3,0,0,2,0,0,2]:List Nat).getD i 2) [(4,9),(4,16),(8,9),(8,16),(13,15),(13,16)] [0,1,2,3,5,6,7,10,11,12,14,4,8,9,13,15,16,17,18,19] mixed (by decide+kernel) ?_
 iterate 2 refine zq ?_
 obtain⟨p24,hc,h⟩:=h
 refine Dp rfl rfl rfl rfl (wD rfl (by rw[<-hc];rfl)) ?_
 refine zg underlying217 qV ?_;refine zq ?_;obtain⟨p25,hc,h⟩:=h
 refine Dp rfl rfl rfl rfl (wD rfl (by rw[<-hc];rfl)) ?_
 refine zg underlying217 ty3 ?_;refine zq ?_;obtain⟨p26,hc,h⟩:=h
 refine Dp rfl rfl rfl rfl (wD rfl (by rw[<-hc];rfl)) ?_
 refine zg underlying217 ty3 ?_;refine zq ?_;obtain⟨u27,hc,h⟩:=h
 refine Dr rfl rfl rfl rfl (vb rfl underlying24 rfl rfl hc) ?_
 obtain⟨u28,hc,h⟩:=h
 refine Dr rfl rfl rfl rfl (vb rfl underlying3 rfl rfl hc) ?_
 obtain⟨hc,h⟩:=h
 refine Dp rfl rfl rfl rfl (un (lo:=(some u28)) (hi:=none) rfl underlying24 ty5 rfl (ze rfl) zW hc) ?_
 obtain⟨u29,hc,h⟩:=h
 refine Dr rfl rfl rfl rfl (vb rfl underlying3 rfl rfl hc) ?_
 refine zq ?_;refine Dg rfl rfl rfl rfl (qF rfl func226 rfl rfl rfl (qb.mono h ?_))
 rintro v I ⟨u30,rfl,h⟩;obtain⟨p31,hc,h⟩:=h
 refine Dp rfl rfl rfl rfl (wD rfl (by rw[<-hc];rfl)) ?_
 refine zg underlying217 qV ?_;refine Dg rfl rfl rfl rfl (aej rfl qV rfl rfl rfl rfl (us h fun I h=>?_))
 refine aat ?_
 refine qc ?_;exact⟨FL,h⟩
def pB(B:World)(ro:AH)(a0:Option Addr)(I:AH)(Q:Int->AH->Prop):=
 ∃p0,a0=some p0/\
 ∃p1,a0=some p1/\
 ∃u2,qa ro I p0=some (Sl.v u2)/\
 ∃u3,qa ro I (p1.add 1)=some (.int .i64 u3)/\
 Q (i64.wrap ((u2.len:Int) - u3)) I
theorem adg{a0:Option Addr}{Q:Int->AH->Prop}(h:Sep ro I->pB B ro a0 I Q):aaR B ro a0 I Q:=by
 refine zb h func224 ntmps224 fun h=>?_;unfold pB at h;refine z3 ?_;refine zp ?_;refine z2 (AW.seq ?_)
 refine AW.drawn0 (fun i=>([0,0,0,3,0,0,0,0,3,0,0]:List Nat).getD i 2) [] [0,1,2,5,6,7,3,4,8,9,10] mixed (by decide+kernel) ?_
 refine zq ?_;obtain⟨p0,hc,h⟩:=h
 refine Dp rfl rfl rfl rfl (wD rfl (by rw[<-hc];rfl)) ?_
 refine zg underlying217 qV ?_;refine zq ?_;obtain⟨p1,hc,h⟩:=h
 refine Dp rfl rfl rfl rfl (wD rfl (by rw[<-hc];rfl)) ?_
 refine zg underlying217 ty3 ?_;obtain⟨u2,hc,h⟩:=h
 refine Dr rfl rfl rfl rfl (vb rfl underlying24 rfl rfl hc) ?_
 refine Dp rfl rfl rfl rfl (qJ rfl rfl underlying24 rfl rfl) ?_
 obtain⟨u3,hc,h⟩:=h
 refine Dr rfl rfl rfl rfl (vb rfl underlying3 rfl rfl hc) ?_
 iterate 2 refine zq ?_
 refine aat ?_
 refine qc ?_;refine AW.ret ?_;exact bR1 results224 rfl ⟨_,rfl,h⟩
end G
namespace Wi
open Go SL G Zt
variable{B:World}{ro I I':AH}{tag tag':Nat->Nat}
theorem aiE(d:Str):∀ v∈d.map vU,v.oneCell'=true:=fun v hv=>by
 obtain⟨c,_,rfl⟩:=List.mem_map.1 hv;rfl
theorem age(d:Str):∀ v∈d.map vU,qg v=true:=fun v hv=>by
 obtain⟨c,_,rfl⟩:=List.mem_map.1 hv;rfl
theorem agB{q n:Nat}{s:Sl}{l:List Value}{Q:Sl->AH->Prop}(h:Row tag I q 5 s l)(hn:1<=n)(hl:l.length+n<=140737488355328)(hc:s.cap<=140737488355328)(h1:∀ v∈l,v.oneCell'=true)
  (hQ:∀ s' tag' I',(∀R,qf R ro tag I tag' I')->Row tag' I' q 5 s' l->l.length+n<=s'.cap->s'.cap<=9223372036854775807->Q s' I'):abb B ro s (n:Int) I Q:=by
 refine qb.of_calls fun w hw hsep=>?_
 rcases h with⟨rfl,rfl⟩ | ⟨b,cs,ha,htg,hbk,hln,hcp,hle,hg⟩
 .refine(Tryz.bytes_growSlice_nil n w hn (by simpa using hl)).mono ?_
  rintro e w' ⟨cap2,cells,he,hw',hsz,hroom,hmx,hb⟩
  obtain⟨N,tag',hN,hst,hrow⟩:=ae5 (tag:=tag) q hw hsep (Nat.le_refl _) hw'
  exact⟨_,N,he,hb,hN,⟨some ⟨w.heap.size,0,none⟩,0,cap2⟩,rfl,hQ _ tag' _ hst (hrow 0 cap2 [] rfl hsz.symm (Nat.zero_le _) (by simp)) (by simpa using hroom) (by simpa [maxLen]using hmx)⟩
 .have hcur:w.heap[b]?=some (.cells cs 5 (0,0)):=hw b _ (by unfold rd;rw[hsep b _ hbk];exact hbk)
  have htake:cs.toList.take s.len=l:=by
   apply List.ext_getElem?
   intro i
   rw[List.getElem?_take]
   split
   .rw[Array.getElem?_toList];exact hg i (by omega)
   .rw[List.getElem?_eq_none (by omega)]
  have:=Tryz.bytes_growSlice_row b s.len s.cap n cs w hcur hcp.symm hle hn (by rw[hln];exact hl) hc (by rw[htake];exact h1)
  unfold Sl.v
  rw[ha]
  refine this.mono ?_
  rintro e w' ⟨cap2,cells,he,hw',hsz,htk,hroom,hmx,hb⟩
  obtain⟨N,tag',hN,hst,hrow⟩:=ae5 (tag:=tag) q hw hsep (Nat.le_refl _) hw'
  exact⟨_,N,he,hb,hN,⟨some ⟨w.heap.size,0,none⟩,s.len,cap2⟩,rfl,hQ _ tag' _ hst (hrow s.len cap2 l hln hsz.symm (by omega) (by rw[htk,htake])) (by simp only;omega) (by simpa [maxLen]using hmx)⟩
def abH(tag:Nat->Nat)(I:AH)(r W:Nat)(s:Sl)(l:List Value)(bad:Bool):Prop:=
 s.cap<=9223372036854775807/\∃ lr:Int,Row tag I r 221 ⟨some ⟨W,0,none⟩,4,4⟩ [Sl.v s,.int .i64 0,.int .i8 lr,.bool bad]/\Row tag I (r+64) 5 s l
def wm(tag:Nat->Nat)(I:AH)(r W:Nat)(acc:Str)(bad:Bool):Prop:= ∃s,abH tag I r W s (acc.map vU) bad
theorem abH.keep{R:List Nat}{r W:Nat}{s:Sl}{l:List Value}{bad:Bool}(h:abH tag I r W s l bad)(k:qf R ro tag I tag' I')(h1:r∉R:=by simp)(h2:r+64∉R:=by simp):abH tag' I' r W s l bad:=by
 obtain⟨hc,lr,a,b⟩:=h
 exact⟨hc,lr,a.keep k h1,b.keep k h2⟩
theorem wm.keep{R:List Nat}{r W:Nat}{acc:Str}{bad:Bool}(h:wm tag I r W acc bad)(k:qf R ro tag I tag' I')(h1:r∉R:=by simp)(h2:r+64∉R:=by simp):wm tag' I' r W acc bad:=by
 obtain⟨s,h⟩:=h
 exact⟨s,h.keep k h1 h2⟩
theorem ac0{r W n:Nat}{s:Sl}{l:List Value}{bad:Bool}{Q:Int->Bool->AH->Prop}(h:abH tag I r W s l bad)(hs:SL.Sep ro I)(hl:l.length+n<=140737488355328)
  (hyes:l.length+n<=s.cap->∀ s' xs I',qf [r] ro tag I tag I'->xs.length=n->abH tag I' r W s' (l++xs) bad->Q l.length true I') (hno:s.cap<l.length+n->Q 0 false I):
  wC B ro (some ⟨W,0,none⟩) (n:Int) I Q:=by
 refine uA fun _=>?_
 unfold vp
 obtain⟨hcap,lr,h1,h2⟩:=h
 obtain⟨p,hp,hg⟩:=h1.ptr hs (by simp)
 cases hp
 have hln:=h2.len
 have hc:=h2.capAt
 refine⟨_,rfl,s,hg 0 _ rfl,_,rfl,s,hg 0 _ rfl,?_⟩
 refine ahh u30 ⟨_,rfl,?_⟩
 rw[qW (by omega) (by omega)]
 by_cases hroom:l.length+n<=s.cap
 .rw[if_pos (by omega)]
  have e:(⟨wy s.a 0 s.cap 1,Int.toNat (i64.wrap ((s.len:Int)+(n:Int))) - 0,s.cap - 0⟩:Sl)=⟨s.a,l.length+n,s.cap⟩:=by
   rw[jt,hln,qW (by omega) (by omega)]
   simp only[Nat.sub_zero,Sl.mk.injEq,true_and,and_true];omega
  refine⟨_,rfl,s,hg 0 _ rfl,⟨?_,trivial⟩,_,rfl,?_⟩
  .simp only
   rw[qW (by omega) (by omega)];omega
  rw[e,hln]
  refine h1.st (i:=0) hs rfl (by simp) rfl fun I2 st2 r2=>?_
  obtain⟨xs,hx,h3⟩:=h2.more hroom
  exact hyes hroom ⟨s.a,l.length+n,s.cap⟩ xs I2 st2 hx ⟨hcap,lr,r2,h3.keep st2⟩
 .rw[if_neg (by omega)]
  exact hno (by omega)
theorem ahl{r W n:Nat}{s:Sl}{l:List Value}{bad:Bool}{Q:Int->AH->Prop}(h:abH tag I r W s l bad)(hs:SL.Sep ro I)(hl:l.length+n<=140737488355328)(hfull:s.cap<l.length+n)(h1c:∀ v∈l,v.oneCell'=true)
  (hQ:∀ s' xs tag' I',qf [r,r+64] ro tag I tag' I'->xs.length=n->abH tag' I' r W s' (l++xs) bad->Q l.length I'):
  jc B ro (some ⟨W,0,none⟩) (n:Int) I Q:=by
 refine acZ fun _=>?_
 unfold yX
 obtain⟨hcap,lr,h1,h2⟩:=id h
 obtain⟨p,hp,hg⟩:=h1.ptr hs (by simp)
 cases hp
 have hln:=h2.len
 have hc:=h2.capAt
 refine adg fun _=>?_
 unfold pB
 refine⟨_,rfl,_,rfl,s,hg 0 _ rfl,0,hg 1 _ rfl,?_⟩
 rw[Int.sub_zero,qW (by omega) (by omega),hln]
 dsimp only
 suffices hj:zM B ro (some ⟨W,0,none⟩) (n:Int) (l.length:Int) Q I by
  by_cases h0:(l.length:Int)=0
  .rw[if_pos h0]
   refine⟨_,rfl,0,hg 1 _ rfl,?_⟩
   unfold zB
   rw[if_neg (by decide)]
   exact hj
  .rw[if_neg h0]
   unfold zB
   rw[if_neg (by decide)]
   exact hj
 unfold zM
 refine ac0 h hs hl (fun hroom=>absurd hroom (by omega)) fun _=>?_
 rw[if_neg (by decide)]
 refine⟨_,rfl,s,hg 0 _ rfl,?_⟩
 by_cases hsmall:s.a=none/\(n:Int)<=64
 .rw[if_pos hsmall]
  have hnil:s=⟨none,0,0⟩/\l=[]:=by
   rcases h2 with h | ⟨b,cs,ha,_⟩
   .exact h
   .rw[hsmall.1]at ha;cases ha
  obtain⟨rfl,rfl⟩:=hnil
  have hn64:=hsmall.2
  refine⟨⟨by omega,hn64,by decide,by decide⟩,?_⟩
  refine aky (tag:=tag) (r+64) (zv:= .int .u8 0) (n:=64) hs rfl fun x tag1 I1 st1 r1=>?_
  refine⟨_,rfl,?_⟩
  have r1':Row tag1 I1 (r+64) 5 ⟨some ⟨x,0,none⟩,n,64⟩ ([]++(List.replicate 64 (Value.int .u8 0)).take n):=r1.take (n:=n) (by simp;omega)
  have hx64:(64:Nat)<=9223372036854775807:=by decide
  rw[Int.toNat_natCast]
  refine(h1.keep (st1 [])).st (i:=0) (st1 []).sep rfl (by simp) rfl fun I2 st2 r2=>?_
  refine hQ ⟨some ⟨x,0,none⟩,n,64⟩ ((List.replicate 64 (Value.int .u8 0)).take n) tag1 I2 (((st1 _).trans (st2.mono (by simp)))) (by simp;omega) ⟨hx64,lr,r2,r1'.keep st2⟩
 .rw[if_neg hsmall]
  refine⟨_,rfl,s,hg 0 _ rfl,?_⟩
  refine ahh u30 ⟨_,rfl,?_⟩
  have hd:Int.tdiv (s.cap:Int) 2=((s.cap / 2:Nat):Int):=by
   rw[Int.tdiv_eq_ediv_of_nonneg (by omega)];omega
  rw[hd,qW (n:=((s.cap / 2:Nat):Int)) (by omega) (by omega),qW (n:=((s.cap / 2:Nat):Int) - (l.length:Int)) (by omega) (by omega),if_neg (by omega),qW (n:=9223372036854775807 - (s.cap:Int)) (by omega) (by omega),qW (n:=9223372036854775807 - (s.cap:Int) - (n:Int)) (by omega) (by omega),if_neg (by omega)]
  refine⟨_,rfl,_,rfl,_,rfl,s,hg 0 _ rfl,0,hg 1 _ rfl,?_,0,hg 1 _ rfl,?_⟩
  .exact⟨trivial,by decide,by simp only[cutHi];omega⟩
  rw[Int.zero_add,qW (by omega) (by omega),show(⟨wy s.a (Int.toNat 0) s.cap 1,s.len - Int.toNat 0,s.cap - Int.toNat 0⟩:Sl)=s from by rw[show Int.toNat 0=0 from rfl,jt];rfl]
  refine agB h2 (by omega) hl (by omega) h1c fun s1 tag1 I1 st1 r1 hc1 hc2=>?_
  refine⟨_,rfl,?_⟩
  refine(h1.keep (st1 [])).st (i:=0) (st1 []).sep rfl (by simp) rfl fun I2 st2 r2=>?_
  unfold vm
  refine⟨_,rfl,?_⟩
  refine r2.st (i:=1) st2.sep rfl (by simp) rfl fun I3 st3 r3=>?_
  obtain⟨p3,hp3,hg3⟩:=r3.ptr st3.sep (by simp)
  cases hp3
  have e:(⟨wy s1.a 0 s1.cap 1,Int.toNat (i64.wrap ((l.length:Int)+(n:Int))) - 0,s1.cap - 0⟩:Sl)=⟨s1.a,l.length+n,s1.cap⟩:=by
   rw[jt,qW (by omega) (by omega)]
   simp only[Nat.sub_zero,Sl.mk.injEq,true_and,and_true];omega
  refine⟨_,rfl,s1,hg3 0 _ rfl,⟨?_,trivial⟩,_,rfl,?_⟩
  .simp only
   rw[qW (by omega) (by omega)];omega
  rw[e]
  refine r3.st (i:=0) st3.sep rfl (by simp) rfl fun I4 st4 r4=>?_
  obtain⟨xs,hx,r5⟩:=r1.more (n:=n) hc1
  refine hQ ⟨s1.a,l.length+n,s1.cap⟩ xs tag1 I4 ((st1 _).trans ((st2.mono (by simp)).trans ((st3.mono (by simp)).trans (st4.mono (by simp))))) hx ⟨hc2,lr,r4,((r5.keep st2).keep st3).keep st4⟩
theorem alU:qp prog 5 (.int .u8 0) 1 1:=qp.of (by kernel_rfl)
theorem adW{r W:Nat}{s:Sl}{acc d:Str}{xs:List Value}{bad:Bool}{x:Value}{t2:TypeId}{Q:Int->AH->Prop}(h:abH tag I r W s (acc.map vU++xs) bad)(hs:SL.Sep ro I)(hx:xs.length=d.length)(hsrc:Src prog ro I x (d.map vU))
  (hQ:∀ n I',qf [r+64] ro tag I tag I'->wm tag I' r W (acc++d) bad->Q n I'):
  ∃p25_6:Addr,(some ⟨W,0,none⟩:Option Addr)=some p25_6/\∃ (x27_7:Sl),qa ro I p25_6=some (Sl.v x27_7)/\cutOk (some (acc.length:Int)) none x27_7.len x27_7.cap/\
   awp prog ro (Builtin.copy_ #[24,t2] 3 #[Sl.v (⟨wy x27_7.a (Int.toNat (acc.length:Int)) x27_7.cap 1,x27_7.len - Int.toNat (acc.length:Int),x27_7.cap - Int.toNat (acc.length:Int)⟩:Sl),x]) (fun v I=> ∃(x31_8:Int),v= .int .i64 x31_8/\Q x31_8 I) I:=by
 obtain⟨hcap,lr,h1,h2⟩:=h
 obtain⟨p,hp,hg⟩:=h1.ptr hs (by simp)
 cases hp
 have hln:=h2.len
 simp only[List.length_append,List.length_map]at hln
 refine⟨_,rfl,s,hg 0 _ rfl,⟨trivial,by omega,by simp only[cutHi];omega⟩,?_⟩
 rw[Int.toNat_natCast]
 refine adw h2 hs u30 alU hsrc (by simp;omega) (age d) fun I1 st1 r1=>?_
 refine⟨_,rfl,hQ _ I1 st1 ⟨s,hcap,lr,h1.keep st1,?_⟩⟩
 rw[List.take_left' (by simp)]at r1
 rw[List.map_append];exact r1
theorem aef{r W:Nat}{acc d:Str}{s:Sl}{bad:Bool}{Q:Int->Value->AH->Prop}(h:wm tag I r W acc bad)(hs:SL.Sep ro I)(hl:acc.length+d.length<=140737488355328)(hd:s.len=d.length)
  (hsrc:∀ tag' I',qf [r,r+64] ro tag I tag' I'->SL.qy ro I' s (d.map vU)) (hQ:∀ n v tag' I',qf [r,r+64] ro tag I tag' I'->wm tag' I' r W (acc++d) bad->Q n v I'):
  xG B ro (some ⟨W,0,none⟩) s I Q:=by
 refine acy fun _=>?_
 unfold yt
 obtain⟨s0,hcap,lr,h1,h2⟩:=h
 refine⟨_,rfl,?_⟩
 refine h1.st (i:=2) hs rfl (by simp) rfl fun I1 st1 r1=>?_
 have hb:abH tag I1 r W s0 (acc.map vU) bad:=⟨hcap,0,r1,h2.keep st1⟩
 rw[hd]
 refine ac0 hb st1.sep (by simpa using hl) (fun hroom s2 xs I2 st2 hx hb2=>?_) fun hno=>?_
 .rw[if_neg (by simp)]
  unfold zz
  have st12:qf [r,r+64] ro tag I tag I2:=(st1.mono (by simp)).trans (st2.mono (by simp))
  rw[List.length_map]
  exact adW (t2:=24) (Q:=fun n I=>Q n .nilIface I) hb2 st2.sep hx (hsrc _ _ st12).src fun n I3 st3 h3=>hQ n _ tag I3 (st12.trans (st3.mono (by simp))) h3
 .rw[if_pos (by simp)]
  refine ahl hb st1.sep (by simpa using hl) hno (aiE acc) fun s2 xs tag2 I2 st2 hx hb2=>?_
  unfold zz
  have st12:qf [r,r+64] ro tag I tag2 I2:=(st1.mono (by simp)).trans st2
  rw[List.length_map]
  exact adW (t2:=24) (Q:=fun n I=>Q n .nilIface I) hb2 st2.sep hx (hsrc _ _ st12).src fun n I3 st3 h3=>hQ n _ tag2 I3 (st12.trans (st3.mono (by simp))) h3
theorem afk{r W:Nat}{acc:Str}{b:ByteArray}{bad:Bool}{Q:Int->Value->AH->Prop}(h:wm tag I r W acc bad)(hs:SL.Sep ro I)(hl:acc.length+(L b).length<=140737488355328)
  (hQ:∀ n v tag' I',qf [r,r+64] ro tag I tag' I'->wm tag' I' r W (acc++L b) bad->Q n v I'):
  kP B ro (some ⟨W,0,none⟩) b I Q:=by
 refine aaT fun _=>?_
 unfold kQ
 obtain⟨s0,hcap,lr,h1,h2⟩:=h
 refine⟨_,rfl,?_⟩
 refine h1.st (i:=2) hs rfl (by simp) rfl fun I1 st1 r1=>?_
 have hb:abH tag I1 r W s0 (acc.map vU) bad:=⟨hcap,0,r1,h2.keep st1⟩
 rw[show(b.size:Int)=((L b).length:Nat)from rfl]
 refine ac0 hb st1.sep (by simpa using hl) (fun hroom s2 xs I2 st2 hx hb2=>?_) fun hno=>?_
 .rw[if_neg (by simp)]
  unfold wB
  have st12:qf [r,r+64] ro tag I tag I2:=(st1.mono (by simp)).trans (st2.mono (by simp))
  rw[List.length_map]
  exact adW (t2:=9) (Q:=fun n I=>Q n .nilIface I) hb2 st2.sep hx (ahi b) fun n I3 st3 h3=>hQ n _ tag I3 (st12.trans (st3.mono (by simp))) h3
 .rw[if_pos (by simp)]
  refine ahl hb st1.sep (by simpa using hl) hno (aiE acc) fun s2 xs tag2 I2 st2 hx hb2=>?_
  unfold wB
  have st12:qf [r,r+64] ro tag I tag2 I2:=(st1.mono (by simp)).trans st2
  rw[List.length_map]
  exact adW (t2:=9) (Q:=fun n I=>Q n .nilIface I) hb2 st2.sep hx (ahi b) fun n I3 st3 h3=>hQ n _ tag2 I3 (st12.trans (st3.mono (by simp))) h3