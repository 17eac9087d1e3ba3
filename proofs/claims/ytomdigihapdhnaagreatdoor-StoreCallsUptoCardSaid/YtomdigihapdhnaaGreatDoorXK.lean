import Derived.Test.YtomdigihapdhnaaGreatDoorXJ
set_option linter.all false
set_option maxRecDepth 99999
set_option maxHeartbeats 0
open Go.IntKind(i64)
open Go.Proofs.Tryz
namespace Go.Proofs.YtomdigihapdhnaaGreatDoor
namespace G
open Go SL
variable{B:World}{ro I:AH}
def aal(B:World)(ro:AH)(Q:Sl->Int->AH->Prop)(u0:Sl)(I:AH):=
 Q u0 0 I
def jp(B:World)(ro:AH)(a0 u0:Sl)(u1:Int)(u2:Nat)(Q:Sl->Int->AH->Prop)(Y4:(Sl×Int)->AH->Prop)(u3:Int)(I:AH):=
 pn I fun U I=>
 ∃u4,qa (join ro U) (fun _=>none) ((⟨u2,0,none⟩:Addr).add 1)=some (.string u4)/\
 ∃u5,qa (join ro U) (fun _=>none) ((⟨u2,0,none⟩:Addr).add 2)=some (Sl.v u5)/\
 ∃u6,qa (join ro U) (fun _=>none) ((⟨u2,0,none⟩:Addr).add 3)=some (.int .i64 u6)/\
 ∃u7,qa (join ro U) I ⟨u2,0,none⟩=some (.int .i64 u7)/\
 vX B (join ro U) u7 I fun u8 I=>
 awp prog (join ro U) (convert 9 24 (.string u4)) (fun v I=>
  (∃(u9:Sl),v=Sl.v u9/\
  xS B (join ro U) u9 I fun u10 I=>
  xS B (join ro U) u5 I fun u11 I=>
  vX B (join ro U) (i64.wrap (u6+1)) I fun u12 I=>
  vX B (join ro U) u3 I fun u13 I=>
  nw (join ro U) I (.cells #[Sl.v u0,Sl.v u8,Sl.v u10,Sl.v u11,Sl.v u12,Sl.v u13] 24) fun u14 I=>
  jV B (join ro U) (⟨some ⟨u14,0,none⟩,6,6⟩:Sl) I fun u15 I=>
  (qz U I->(fun I=>
   Y4 (u15,i64.wrap (u1+1)) I) (join U I)))) I
def yN(B:World)(ro:AH)(a0 u0:Sl)(u1:Int)(u2:Nat)(Q:Sl->Int->AH->Prop)(Y4:(Sl×Int)->AH->Prop)(u3:Int)(I:AH):=
 ∃u4,qa ro I ((⟨u2,0,none⟩:Addr).add 5)=some (.bool u4)/\
 if u4=true then
 jp B ro a0 u0 u1 u2 Q Y4 (i64.wrap (u3+2)) I
 else
 jp B ro a0 u0 u1 u2 Q Y4 u3 I
def xn(B:World)(ro:AH)(a0 u0:Sl)(u1:Int)(u2:Nat)(Q:Sl->Int->AH->Prop)(Y4:(Sl×Int)->AH->Prop)(u3:Bool)(I:AH):=
 if u3=true then
 Q (⟨none,0,0⟩:Sl) 80 I
 else
 ∃u4,qa ro I ((⟨u2,0,none⟩:Addr).add 4)=some (.bool u4)/\
 if u4=true then
 yN B ro a0 u0 u1 u2 Q Y4 (i64.wrap (0+1)) I
 else
 yN B ro a0 u0 u1 u2 Q Y4 0 I
def xo(B:World)(ro:AH)(a0 u0:Sl)(u1:Int)(u2:Nat)(Q:Sl->Int->AH->Prop)(Y4:(Sl×Int)->AH->Prop)(u3:Bool)(I:AH):=
 if u3=true then
 xn B ro a0 u0 u1 u2 Q Y4 true I
 else
 ∃u4,qa ro I ((⟨u2,0,none⟩:Addr).add 3)=some (.int .i64 u4)/\
 xn B ro a0 u0 u1 u2 Q Y4 (decide (4611686018427387902<u4)) I
def xp(B:World)(ro:AH)(a0 u0:Sl)(u1:Int)(u2:Nat)(Q:Sl->Int->AH->Prop)(Y4:(Sl×Int)->AH->Prop)(u3:Bool)(I:AH):=
 if u3=true then
 xo B ro a0 u0 u1 u2 Q Y4 true I
 else
 ∃u4,qa ro I ((⟨u2,0,none⟩:Addr).add 3)=some (.int .i64 u4)/\
 xo B ro a0 u0 u1 u2 Q Y4 (decide (u4<(-1))) I
def vD(B:World)(ro:AH)(a0:Sl)(Q:Sl->Int->AH->Prop):(Sl×Int)->AH->((Sl×Int)->AH->Prop)->Prop:=fun⟨u0,u1⟩ I Y4=>
 if u1<(a0.len:Int)then
 ∃p2,a0.a=some p2/\(0:Int)<=u1/\u1<(a0.len:Int)/\
 ∃u3 u4 u5 u6 u7 u8,qj ro I (p2.add (Int.toNat u1*6)) 0 [.int .i64 u3,.string u4,Sl.v u5,.int .i64 u6,.bool u7,.bool u8]/\
 nw ro I (.cells #[.int .i64 0,.string ByteArray.empty,Sl.v (⟨none,0,0⟩:Sl),.int .i64 0,.bool false,.bool false] 276) fun u9 I=>
 stN ⟨u9,0,none⟩ (fun I=>
  ∃u10,qa ro I ⟨u9,0,none⟩=some (.int .i64 u10)/\
  if u10<1 then
  xp B ro a0 u0 u1 u9 Q Y4 true I
  else
  ∃u11,qa ro I ⟨u9,0,none⟩=some (.int .i64 u11)/\
  xp B ro a0 u0 u1 u9 Q Y4 (decide (4<u11)) I) [.int .i64 u3,.string u4,Sl.v u5,.int .i64 u6,.bool u7,.bool u8] 0 I
 else
 aal B ro Q u0 I
def acr(B:World)(ro:AH)(a0:Sl)(I:AH)(Q:Sl->Int->AH->Prop):=
 if 16<(a0.len:Int)then
 Q (⟨none,0,0⟩:Sl) 80 I
 else
 vX B ro (a0.len:Int) I fun u0 I=>
 lfpD (vD B ro a0 Q) (u0,0) I
theorem agQ{a0:Sl}{Q:Sl->Int->AH->Prop}(h:Sep ro I->acr B ro a0 I Q):acb B ro a0 I Q:=by
 refine zb h func92 ntmps92 fun h=>?_;unfold acr at h;refine z3 ?_;iterate 2 refine zp ?_
 refine z2 (AW.seq (z3 ?_))
 refine zp ?_;refine zm (qJ rfl rfl underlying86 rfl rfl) ?_;refine zp ?_;refine z2 ?_;refine zi h (fun h=>?_) fun h=>?_
 .refine z3 ?_;iterate 2 refine zp ?_
  refine z2 ?_;refine AW.ret ?_;refine qi ?_;exact bR2 results92 rfl rfl ⟨_,_,rfl,h⟩
 refine AW.skip ?_;refine qc (z3 ?_);refine zp ?_;refine zm (qJ rfl rfl underlying86 rfl rfl) ?_;refine zc func52 h ?_;rintro v I ⟨u0,rfl,h⟩;refine zp ?_;refine z2 ?_;refine AW.seqJ (fun fr I=> ∃(u1:Sl),qk [(4,Sl.v u1)] fr/\aal B ro Q u1 I) ?_ ?_
 .rintro fr I ⟨u1,hl,h⟩;refine AW.weaken ?_ hl (HLe.refl _)
  unfold aal at h;refine z3 ?_;iterate 3 refine zp ?_
  refine z2 ?_;refine AW.ret ?_;exact bR2 results92 rfl rfl ⟨_,_,rfl,h⟩
 refine z3 ?_;refine zp ?_;refine z2 (AW.block ?_)
 refine qn.loop (fr':=[(0,Sl.v a0),(4,Sl.v u0),(5,.int .i64 0)]) ?_ FL
 refine h (fun⟨u2,u3⟩ I=>qn _ _ _ _ _ _ [(0,Sl.v a0),(4,Sl.v u2),(5,.int .i64 u3)] I) ?_
 rintro⟨u2,u3⟩ I Y4 hY4 h
 show AW _ _ _ _ _ _ _ _
 unfold vD at h;dsimp only at h;refine AW.seq (z3 ?_);iterate 2 refine zp ?_
 refine zm (qJ rfl rfl underlying86 rfl rfl) ?_;refine zp ?_;refine z2 ?_;refine zi h (fun h=>?_) fun h=>?_
 rotate_left
 .refine AW.exit ?_;refine qR (qR ?_);refine wK ?_
  refine qc ?_;exact⟨_,FL,h⟩
 refine AW.skip ?_;refine qc (AW.seq (AW.block (z3 ?_)));iterate 2 refine zp ?_
 obtain⟨p4,ha,h0,h1,h⟩:=h
 refine zm (vL rfl underlying86 vW (ixL rfl ha) rfl h0 h1) ?_;obtain⟨u5,u6,u7,u8,u9,u10,hc,h⟩:=h
 refine zl (jb rfl underlying276 rfl vW rfl hc ?_)
 refine zA (wH rfl vW) h fun u11 h=>?_;refine zs vW h fun I h=>?_;refine z2 (AW.seq (z3 ?_))
 refine zf underlying276 ty3 ?_;refine zL underlying3 h fun u12 h=>?_;iterate 2 refine zp ?_
 refine qq 4 (decide (u12<1)) decide_eq_true_iff h (fun fr I=> ∃(u13:Bool),qk [(0,Sl.v a0),(4,Sl.v u2),(5,.int .i64 u3),(6,.pointer (some ⟨u11,0,none⟩)),(31,.bool u13)] fr/\xp B ro a0 u2 u3 u11 Q Y4 u13 I) ?_ ?_ ?_
 .intro h e3 hk3;iterate 3 refine zn e3 ?_
  refine zk e3 ?_;exact hk3 _ _ ⟨_,FL,h⟩
 .intro h e3 hk3;refine qr (qx rfl underlying276 rfl ty3 (by decide) rfl) rfl rfl rfl rfl e3 ?_
  obtain⟨u14,hc,h⟩:=h
  refine Lyb rfl rfl rfl rfl e3 (qM rfl underlying3 rfl rfl hc ?_)
  refine zy e3 ?_;refine zk e3 ?_;exact hk3 _ _ ⟨_,FL,h⟩
 rintro fr I ⟨u13,hl,h⟩;unfold xp at h;refine Lfr hl ?_
 refine zp ?_;refine qq 4 u13 Iff.rfl h (fun fr I=> ∃(u15:Bool),qk [(0,Sl.v a0),(4,Sl.v u2),(5,.int .i64 u3),(6,.pointer (some ⟨u11,0,none⟩)),(36,.bool u15)] fr/\xo B ro a0 u2 u3 u11 Q Y4 u15 I) ?_ ?_ ?_
 .intro h e8 hk8;iterate 3 refine zn e8 ?_
  refine zk e8 ?_;exact hk8 _ _ ⟨_,FL,h⟩
 .intro h e8 hk8;refine qr (qx rfl underlying276 rfl ty3 (by decide) rfl) rfl rfl rfl rfl e8 ?_
  obtain⟨u16,hc,h⟩:=h
  refine Lyb rfl rfl rfl rfl e8 (qM rfl underlying3 rfl rfl hc ?_)
  refine zy e8 ?_;refine zk e8 ?_;exact hk8 _ _ ⟨_,FL,h⟩
 rintro fr I ⟨u15,hl,h⟩;unfold xo at h;refine Lfr hl ?_
 refine zp ?_;refine qq 4 u15 Iff.rfl h (fun fr I=> ∃(u17:Bool),qk [(0,Sl.v a0),(4,Sl.v u2),(5,.int .i64 u3),(6,.pointer (some ⟨u11,0,none⟩)),(41,.bool u17)] fr/\xn B ro a0 u2 u3 u11 Q Y4 u17 I) ?_ ?_ ?_
 .intro h e13 hk13;iterate 3 refine zn e13 ?_
  refine zk e13 ?_;exact hk13 _ _ ⟨_,FL,h⟩
 .intro h e13 hk13;refine qr (qx rfl underlying276 rfl ty3 (by decide) rfl) rfl rfl rfl rfl e13 ?_
  obtain⟨u18,hc,h⟩:=h
  refine Lyb rfl rfl rfl rfl e13 (qM rfl underlying3 rfl rfl hc ?_)
  refine zy e13 ?_;refine zk e13 ?_;exact hk13 _ _ ⟨_,FL,h⟩
 rintro fr I ⟨u17,hl,h⟩;unfold xn at h;refine Lfr hl ?_
 refine z2 ?_;refine zj h (fun h=>?_) fun h=>?_
 .refine z3 ?_;iterate 2 refine zp ?_
  refine z2 ?_;refine AW.ret ?_;refine qi (qQ (qi (qi (qQ (qi ?_)))));exact bR2 results92 rfl rfl ⟨_,_,rfl,h⟩
 refine AW.skip ?_;refine qc (z3 ?_);refine zp ?_;refine z2 ?_;refine AW.seqJ (fun fr I=> ∃(u19:Int),qk [(0,Sl.v a0),(4,Sl.v u2),(5,.int .i64 u3),(6,.pointer (some ⟨u11,0,none⟩)),(7,.int .i64 u19)] fr/\yN B ro a0 u2 u3 u11 Q Y4 u19 I) ?_ ?_
 rotate_left
 .refine z3 ?_;refine zf underlying276 ty4 ?_;refine zL underlying4 h fun u20 h=>?_;refine z2 ?_;refine zj h (fun h=>?_) fun h=>?_
  rotate_left
  .refine AW.skip ?_;refine qc ?_;exact⟨_,FL,h⟩
  refine AW.reg ?_;iterate 3 refine zp ?_
  refine z2 ?_;exact⟨_,FL,h⟩
 rintro fr I ⟨u19,hl,h⟩;refine AW.weaken ?_ hl (HLe.refl _)
 unfold yN at h;refine AW.seqJ (fun fr I=> ∃(u21:Int),qk [(0,Sl.v a0),(4,Sl.v u2),(5,.int .i64 u3),(6,.pointer (some ⟨u11,0,none⟩)),(7,.int .i64 u21)] fr/\jp B ro a0 u2 u3 u11 Q Y4 u21 I) ?_ ?_
 rotate_left
 .refine z3 ?_;refine zf underlying276 ty4 ?_;refine zL underlying4 h fun u22 h=>?_;refine z2 ?_;refine zj h (fun h=>?_) fun h=>?_
  rotate_left
  .refine AW.skip ?_;refine qc ?_;exact⟨_,FL,h⟩
  refine AW.reg ?_;iterate 3 refine zp ?_
  refine z2 ?_;exact⟨_,FL,h⟩
 rintro fr I ⟨u21,hl,h⟩;refine AW.weaken ?_ hl (HLe.refl _)
 unfold jp at h;refine AW.drawnL (fun i=>([0,0,3,2,0,0,1,2,0,0,2,0,0,0,2,0,2,1,2,0]:List Nat).getD i 2) [(2,3),(2,7),(2,10),(2,14),(2,16),(2,17),(2,18),(3,7),(3,10),(3,14),(3,16),(3,17),(3,18),(6,7),(6,10),(6,14),(6,16),(6,17),(6,18),(7,10),(7,14),(7,16),(7,17),(7,18),(10,14),(10,16),(10,17),(10,18),(14,17),(14,18)] [0,1,4,5,8,9,11,12,13,15,2,3,6,7,10,14,16,17,18,19] mixed h (by decide+kernel) ?_
 clear h
 intro U I h
 refine zq ?_;refine zg underlying276 ty3 ?_;refine zg underlying276 ty9 ?_;obtain⟨u23,hc,h⟩:=h
 refine Dp rfl rfl rfl rfl (zS rfl underlying9 rfl rfl hc) ?_
 refine zg underlying276 qV ?_;obtain⟨u24,hc,h⟩:=h
 refine Dp rfl rfl rfl rfl (zS rfl underlying24 rfl rfl hc) ?_
 refine zg underlying276 ty3 ?_;obtain⟨u25,hc,h⟩:=h
 refine Dp rfl rfl rfl rfl (zS rfl underlying3 rfl rfl hc) ?_
 iterate 2 refine zq ?_
 obtain⟨u26,hc,h⟩:=h
 refine Dr rfl rfl rfl rfl (vb rfl underlying3 rfl rfl hc) ?_
 refine Dg rfl rfl rfl rfl (qF rfl func52 rfl rfl rfl (qb.mono h ?_))
 rintro v I ⟨u27,rfl,h⟩;refine Dc rfl rfl rfl rfl (ahW rfl underlying9 underlying24 underlying5 rfl) (abd rfl rfl (qv _ h ?_))
 rintro v I ⟨u28,rfl,h⟩;refine Dg rfl rfl rfl rfl (qF rfl func51 rfl rfl rfl (qb.mono h ?_))
 rintro v I ⟨u29,rfl,h⟩;refine Dg rfl rfl rfl rfl (qF rfl func51 rfl rfl rfl (qb.mono h ?_))
 rintro v I ⟨u30,rfl,h⟩;refine Dg rfl rfl rfl rfl (qF rfl func52 rfl rfl rfl (qb.mono h ?_))
 rintro v I ⟨u31,rfl,h⟩;refine Dg rfl rfl rfl rfl (qF rfl func52 rfl rfl rfl (qb.mono h ?_))
 rintro v I ⟨u32,rfl,h⟩;refine Da rfl rfl rfl rfl (wI (vs:=[(0,Sl.v u2),(1,Sl.v u27),(2,Sl.v u29),(3,Sl.v u30),(4,Sl.v u31),(5,Sl.v u32)]) (cs:= #[Sl.v u2,Sl.v u27,Sl.v u29,Sl.v u30,Sl.v u31,Sl.v u32]) rfl underlying227 qV (by decide) rfl rfl) fun u33 g1 g2=>?_
 replace h:=h u33 g1 g2
 refine Dg rfl rfl rfl rfl (qF rfl func50 rfl rfl rfl (qb.mono h ?_))
 rintro v I ⟨u34,rfl,h⟩;refine zq ?_;refine⟨_,wg.refl _,fun hdj=>?_⟩
 replace h:=h hdj
 refine wq (qc (AW.reg ?_));iterate 3 refine zp ?_
 refine z2 ?_;refine qn.head (fr':=[(0,Sl.v a0),(4,Sl.v u34),(5,.int .i64 (i64.wrap (u3+1)))]) ?_ FL
 exact hY4 _ _ h
def aam(B:World)(ro:AH)(u0:Nat)(Q:Sl->Bool->AH->Prop)(u1:Sl)(I:AH):=
 zZ B ro (some ⟨u0,0,none⟩) I fun u2 I=>
 Q u1 (decide (u2=0)) I
def xq(B:World)(ro:AH)(u0:Sl)(u1:Int)(u2 u3:Nat)(u4 u5:Int)(Q:Sl->Bool->AH->Prop)(Y7:(Sl×Int)->AH->Prop)(u6:Bool)(I:AH):=
 if(u6=true)\/(3<u5)then
 Q (⟨none,0,0⟩:Sl) false I
 else
 stN ((⟨u2,0,none⟩:Addr).add 4) (fun I=>
 stN ((⟨u2,0,none⟩:Addr).add 5) (fun I=>
  ∃u7 u8 u9 u10 u11 u12,qj ro I ⟨u2,0,none⟩ 0 [.int .i64 u7,.string u8,Sl.v u9,.int .i64 u10,.bool u11,.bool u12]/\
  nw ro I (.cells #[.int .i64 u7,.string u8,Sl.v u9,.int .i64 u10,.bool u11,.bool u12] 276) fun u13 I=>
  awp prog ro (Builtin.append_ #[86,86] 86 #[Sl.v u0,Sl.v (⟨some ⟨u13,0,none⟩,1,1⟩:Sl)]) (fun v I=> ∃(u14:Sl),v=Sl.v u14/\
  Y7 (u14,i64.wrap (u1+1)) I) I) [.bool (decide (1<u5))] 0 I) [.bool (decide ((Int.tmod u5 2)=1))] 0 I
def xr(B:World)(ro:AH)(u0:Sl)(u1:Int)(u2 u3:Nat)(u4 u5:Int)(Q:Sl->Bool->AH->Prop)(Y7:(Sl×Int)->AH->Prop)(u6:Bool)(I:AH):=
 if u6=true then
 xq B ro u0 u1 u2 u3 u4 u5 Q Y7 true I
 else
 ∃u7,qa ro I ⟨u2,0,none⟩=some (.int .i64 u7)/\
 xq B ro u0 u1 u2 u3 u4 u5 Q Y7 (decide (4<u7)) I
def xY(B:World)(ro:AH)(u0:Nat)(u1:Int)(Q:Sl->Bool->AH->Prop):(Sl×Int)->AH->((Sl×Int)->AH->Prop)->Prop:=fun⟨u2,u3⟩ I Y7=>
 if u3<u1 then
 qG B ro (some ⟨u0,0,none⟩) I fun u4 I=>
 nw ro I (.cells #[.int .i64 0,.string ByteArray.empty,Sl.v (⟨none,0,0⟩:Sl),.int .i64 0,.bool false,.bool false] 276) fun u5 I=>
 stN ⟨u5,0,none⟩ (fun I=>
  zt B ro (some ⟨u0,0,none⟩) I fun u6 I=>
  awp prog ro (convert 24 9 (Sl.v u6)) (fun v I=>
  (∃(u7:ByteArray),v= .string u7/\
   stN ((⟨u5,0,none⟩:Addr).add 1) (fun I=>
   zt B ro (some ⟨u0,0,none⟩) I fun u8 I=>
   stN ((⟨u5,0,none⟩:Addr).add 2) (fun I=>
    qG B ro (some ⟨u0,0,none⟩) I fun u9 I=>
    stN ((⟨u5,0,none⟩:Addr).add 3) (fun I=>
    qG B ro (some ⟨u0,0,none⟩) I fun u10 I=>
    ∃u11,qa ro I ((⟨u0,0,none⟩:Addr).add 2)=some (.int .i64 u11)/\
    if¬(u11=0)then
     xr B ro u2 u3 u5 u0 u1 u10 Q Y7 true I
    else
    ∃u12,qa ro I ⟨u5,0,none⟩=some (.int .i64 u12)/\
    xr B ro u2 u3 u5 u0 u1 u10 Q Y7 (decide (u12<1)) I) [.int .i64 (i64.wrap (u9 - 1))] 0 I) [Sl.v u8] 0 I) [.string u7] 0 I)) I) [.int .i64 u4,.string ByteArray.empty,Sl.v (⟨none,0,0⟩:Sl),.int .i64 0,.bool false,.bool false] 0 I
 else
 aam B ro u0 Q u2 I
def acs(B:World)(ro:AH)(a0:Sl)(I:AH)(Q:Sl->Bool->AH->Prop):=
 nw ro I (.cells #[Sl.v a0,.int .i64 0,.int .i64 0] 147) fun u0 I=>
 qG B ro (some ⟨u0,0,none⟩) I fun u1 I=>
 ∃u2,qa ro I ((⟨u0,0,none⟩:Addr).add 2)=some (.int .i64 u2)/\
 if(¬(u2=0))\/(16<u1)then
 Q (⟨none,0,0⟩:Sl) false I
 else
 lfpD (xY B ro u0 u1 Q) ((⟨none,0,0⟩:Sl),0) I
theorem agR{a0:Sl}{Q:Sl->Bool->AH->Prop}(h:Sep ro I->acs B ro a0 I Q):ug B ro a0 I Q:=by
 refine zb h func96 ntmps96 fun h=>?_;unfold acs at h;refine z3 ?_;iterate 2 refine zp ?_
 refine z4 ?_;refine zp ?_;refine zm (wV (vs:=[(0,Sl.v a0)]) (cs:= #[Sl.v a0,.int .i64 0,.int .i64 0]) rfl underlying147 ajS ajU rfl rfl) ?_;refine zA (vq rfl rfl) h fun u0 h=>?_;refine zp ?_;refine z4 ?_;refine zp ?_;refine zc func59 h ?_;rintro v I ⟨u1,rfl,h⟩;refine zp ?_;refine z2 (AW.seq (z3 ?_))
 refine zp ?_;refine zm (wD rfl rfl) ?_;refine zf underlying147 ty3 ?_;refine zL underlying3 h fun u2 h=>?_;iterate 2 refine zp ?_
 refine qX 3 (!(decide (u2=0))) [(4,.pointer (some ⟨u0,0,none⟩)),(5,.int .i64 u1),(23,.bool ((!(decide (u2=0))) || (decide (16<u1))))] ?_ ?_ ?_
 .intro e5 hk5
  iterate 2 refine zn e5 ?_
  refine zk e5 ?_;exact hk5 _ (Fe e5)
 .intro e5 hk5
  refine zy e5 ?_;refine zy e5 ?_;refine zk e5 ?_;exact hk5 _ (Fe e5)
 intro fr hl
 refine Lfr hl ?_
 refine z2 ?_;refine AW.iff rfl (wt (qt decide_eq_true_iff) decide_eq_true_iff) h (fun h=>?_) (fun h=>?_)
 .refine z3 ?_;iterate 2 refine zp ?_
  refine z2 ?_;refine AW.ret ?_;refine qi ?_;exact bR2 results96 rfl rfl ⟨_,_,rfl,h⟩
 refine AW.skip ?_;refine qc (z3 ?_);refine zp ?_;refine z2 ?_;refine AW.seqJ (fun fr I=> ∃(u3:Sl),qk [(4,.pointer (some ⟨u0,0,none⟩)),(6,Sl.v u3)] fr/\aam B ro u0 Q u3 I) ?_ ?_
 .rintro fr I ⟨u3,hl,h⟩;refine AW.weaken ?_ hl (HLe.refl _)
  unfold aam at h;refine z3 ?_;iterate 2 refine zp ?_
  refine zc func61 h ?_;rintro v I ⟨u4,rfl,h⟩;iterate 3 refine zp ?_
  refine z2 ?_;refine AW.ret ?_;exact bR2 results96 rfl rfl ⟨_,_,rfl,h⟩
 refine z3 ?_;refine zp ?_;refine z2 (AW.block ?_)
 refine qn.loop (fr':=[(4,.pointer (some ⟨u0,0,none⟩)),(5,.int .i64 u1),(6,Sl.v (⟨none,0,0⟩:Sl)),(7,.int .i64 0)]) ?_ FL
 refine h (fun⟨u5,u6⟩ I=>qn _ _ _ _ _ _ [(4,.pointer (some ⟨u0,0,none⟩)),(5,.int .i64 u1),(6,Sl.v u5),(7,.int .i64 u6)] I) ?_
 rintro⟨u5,u6⟩ I Y7 hY7 h
 show AW _ _ _ _ _ _ _ _
 unfold xY at h;dsimp only at h;refine AW.seq (z3 ?_);iterate 3 refine zp ?_
 refine z2 ?_;refine zi h (fun h=>?_) fun h=>?_
 rotate_left
 .refine AW.exit ?_;refine qR (qR ?_);refine wK ?_
  refine qc ?_;exact⟨_,FL,h⟩
 refine AW.skip ?_;refine qc (AW.seq (AW.block (z3 ?_)));refine zp ?_;refine zc func59 h ?_;rintro v I ⟨u7,rfl,h⟩;refine zm (wV (vs:=[(0,.int .i64 u7)]) (cs:= #[.int .i64 u7,.string ByteArray.empty,Sl.v (⟨none,0,0⟩:Sl),.int .i64 0,.bool false,.bool false]) rfl underlying276 vW ajW rfl rfl) ?_;refine zA (wH rfl vW) h fun u8 h=>?_;refine zs vW h fun I h=>?_
 refine z4 ?_;refine zp ?_;refine zc func60 h ?_;rintro v I ⟨u9,rfl,h⟩;refine zl (abd rfl rfl (qv _ h ?_))
 rintro v I ⟨u10,rfl,h⟩;refine zf underlying276 ty9 ?_;refine zs ty9 h fun I h=>?_;refine z4 ?_;refine zp ?_;refine zc func60 h ?_;rintro v I ⟨u11,rfl,h⟩;refine zf underlying276 qV ?_;refine zs qV h fun I h=>?_;refine z4 ?_;refine zp ?_;refine zc func59 h ?_;rintro v I ⟨u12,rfl,h⟩;refine zp ?_;refine zf underlying276 ty3 ?_;refine zs ty3 h fun I h=>?_;refine z4 ?_;refine zp ?_
 refine zc func59 h ?_;rintro v I ⟨u13,rfl,h⟩;refine zp ?_;refine z2 (AW.seq (z3 ?_))
 refine zp ?_;refine zm (wD rfl rfl) ?_;refine zf underlying147 ty3 ?_;refine zL underlying3 h fun u14 h=>?_;iterate 2 refine zp ?_
 refine qq 4 (!(decide (u14=0))) (qt decide_eq_true_iff) h (fun fr I=> ∃(u15:Bool),qk [(4,.pointer (some ⟨u0,0,none⟩)),(5,.int .i64 u1),(6,Sl.v u5),(7,.int .i64 u6),(8,.pointer (some ⟨u8,0,none⟩)),(9,.int .i64 u13),(54,.bool u15)] fr/\xr B ro u5 u6 u8 u0 u1 u13 Q Y7 u15 I) ?_ ?_ ?_
 .intro h e5 hk5;iterate 3 refine zn e5 ?_
  refine zk e5 ?_;exact hk5 _ _ ⟨_,FL,h⟩
 .intro h e5 hk5;refine qr (qx rfl underlying276 rfl ty3 (by decide) rfl) rfl rfl rfl rfl e5 ?_
  obtain⟨u16,hc,h⟩:=h
  refine Lyb rfl rfl rfl rfl e5 (qM rfl underlying3 rfl rfl hc ?_)
  refine zy e5 ?_;refine zk e5 ?_;exact hk5 _ _ ⟨_,FL,h⟩
 rintro fr I ⟨u15,hl,h⟩;unfold xr at h;refine Lfr hl ?_
 refine zp ?_;refine qq 4 u15 Iff.rfl h (fun fr I=> ∃(u17:Bool),qk [(4,.pointer (some ⟨u0,0,none⟩)),(5,.int .i64 u1),(6,Sl.v u5),(7,.int .i64 u6),(8,.pointer (some ⟨u8,0,none⟩)),(9,.int .i64 u13),(59,.bool u17)] fr/\xq B ro u5 u6 u8 u0 u1 u13 Q Y7 u17 I) ?_ ?_ ?_
 .intro h e10 hk10;iterate 3 refine zn e10 ?_
  refine zk e10 ?_;exact hk10 _ _ ⟨_,FL,h⟩
 .intro h e10 hk10;refine qr (qx rfl underlying276 rfl ty3 (by decide) rfl) rfl rfl rfl rfl e10 ?_
  obtain⟨u18,hc,h⟩:=h
  refine Lyb rfl rfl rfl rfl e10 (qM rfl underlying3 rfl rfl hc ?_)
  refine zy e10 ?_;refine zk e10 ?_;exact hk10 _ _ ⟨_,FL,h⟩
 rintro fr I ⟨u17,hl,h⟩;unfold xq at h;refine Lfr hl ?_
 refine zp ?_;refine qX 3 u17 [(4,.pointer (some ⟨u0,0,none⟩)),(5,.int .i64 u1),(6,Sl.v u5),(7,.int .i64 u6),(8,.pointer (some ⟨u8,0,none⟩)),(9,.int .i64 u13),(63,.bool (u17 || (decide (3<u13))))] ?_ ?_ ?_
 .intro e15 hk15
  iterate 2 refine zn e15 ?_
  refine zk e15 ?_;exact hk15 _ (Fe e15)
 .intro e15 hk15
  refine zy e15 ?_;refine zy e15 ?_;refine zk e15 ?_;exact hk15 _ (Fe e15)
 intro fr hl
 refine Lfr hl ?_
 refine z2 ?_;refine AW.iff rfl (wt Iff.rfl decide_eq_true_iff) h (fun h=>?_) (fun h=>?_)
 .refine z3 ?_;iterate 2 refine zp ?_
  refine z2 ?_;refine AW.ret ?_;refine qi (qQ (qi (qi (qQ (qi ?_)))));exact bR2 results96 rfl rfl ⟨_,_,rfl,h⟩
 refine AW.skip ?_;refine qc (z3 ?_);refine zp ?_;refine zm (ahM rfl rfl rfl (by decide)) ?_;iterate 3 refine zp ?_
 refine zf underlying276 ty4 ?_;refine zs ty4 h fun I h=>?_;refine zf underlying276 ty4 ?_;refine zs ty4 h fun I h=>?_;refine z2 (AW.reg ?_)
 refine zp ?_;obtain⟨u19,u20,u21,u22,u23,u24,hc,h⟩:=h
 refine zl (jb rfl underlying276 rfl vW rfl hc ?_)
 refine zA (wI (vs:=[(0,.agg #[.int .i64 u19,.string u20,Sl.v u21,.int .i64 u22,.bool u23,.bool u24])]) (cs:= #[.int .i64 u19,.string u20,Sl.v u21,.int .i64 u22,.bool u23,.bool u24]) rfl underlying86 vW (by decide) rfl rfl) h fun u25 h=>?_;refine zl (jz (s:=Builtin.append_ #[86,86] 86 #[Sl.v u5,Sl.v (⟨some ⟨u25,0,none⟩,1,1⟩:Sl)]) rfl rfl (fun _=>rfl) (qv _ h ?_))
 rintro v I ⟨u26,rfl,h⟩;refine zp ?_;refine pT (wq (qc (AW.reg ?_)));iterate 3 refine zp ?_
 refine z2 ?_;refine qn.head (fr':=[(4,.pointer (some ⟨u0,0,none⟩)),(5,.int .i64 u1),(6,Sl.v u26),(7,.int .i64 (i64.wrap (u6+1)))]) ?_ FL
 exact hY7 _ _ h
def yF(B:World)(ro:AH)(Q:Bool->AH->Prop)(I:AH):=
 Q true I
def xz(B:World)(ro:AH)(a0 a1:Sl)(u0:Int)(Q:Bool->AH->Prop)(Y2:Int->AH->Prop)(u1:Bool)(I:AH):=
 if u1=true then
 Q false I
 else
 Y2 (i64.wrap (u0+1)) I
def xA(B:World)(ro:AH)(a0 a1:Sl)(u0:Int)(u1 u2:Nat)(Q:Bool->AH->Prop)(Y2:Int->AH->Prop)(u3:Bool)(I:AH):=
 if u3=true then
 xz B ro a0 a1 u0 Q Y2 true I
 else
 ∃u4,qa ro I ((⟨u1,0,none⟩:Addr).add 5)=some (.bool u4)/\
 ∃u5,qa ro I ((⟨u2,0,none⟩:Addr).add 5)=some (.bool u5)/\
 xz B ro a0 a1 u0 Q Y2 (!(u4 == u5)) I
def xB(B:World)(ro:AH)(a0 a1:Sl)(u0:Int)(u1 u2:Nat)(Q:Bool->AH->Prop)(Y2:Int->AH->Prop)(u3:Bool)(I:AH):=
 if u3=true then
 xA B ro a0 a1 u0 u1 u2 Q Y2 true I
 else
 ∃u4,qa ro I ((⟨u1,0,none⟩:Addr).add 4)=some (.bool u4)/\
 ∃u5,qa ro I ((⟨u2,0,none⟩:Addr).add 4)=some (.bool u5)/\
 xA B ro a0 a1 u0 u1 u2 Q Y2 (!(u4 == u5)) I
def xD(B:World)(ro:AH)(a0 a1:Sl)(u0:Int)(u1 u2:Nat)(Q:Bool->AH->Prop)(Y2:Int->AH->Prop)(u3:Bool)(I:AH):=
 if u3=true then
 xB B ro a0 a1 u0 u1 u2 Q Y2 true I
 else
 ∃u4,qa ro I ((⟨u1,0,none⟩:Addr).add 3)=some (.int .i64 u4)/\
 ∃u5,qa ro I ((⟨u2,0,none⟩:Addr).add 3)=some (.int .i64 u5)/\
 xB B ro a0 a1 u0 u1 u2 Q Y2 (!(decide (u4=u5))) I
def xE(B:World)(ro:AH)(a0 a1:Sl)(u0:Int)(u1 u2:Nat)(Q:Bool->AH->Prop)(Y2:Int->AH->Prop)(u3:Bool)(I:AH):=
 if u3=true then
 xD B ro a0 a1 u0 u1 u2 Q Y2 true I
 else
 ∃u4,qa ro I ((⟨u1,0,none⟩:Addr).add 2)=some (Sl.v u4)/\
 ∃u5,qa ro I ((⟨u2,0,none⟩:Addr).add 2)=some (Sl.v u5)/\
 pr B ro u4 u5 I fun u6 I=>
 xD B ro a0 a1 u0 u1 u2 Q Y2 (!u6) I
def xZ(B:World)(ro:AH)(a0 a1:Sl)(Q:Bool->AH->Prop):Int->AH->(Int->AH->Prop)->Prop:=fun u0 I Y2=>
 if u0<(a0.len:Int)then
 pn I fun U I=>
  ∃p1,a0.a=some p1/\(0:Int)<=u0/\u0<(a0.len:Int)/\
  ∃p2,a1.a=some p2/\(0:Int)<=u0/\u0<(a1.len:Int)/\
  ∃u3 u4 u5 u6 u7 u8,qj (join ro U) (fun _=>none) (p2.add (Int.toNat u0*6)) 0 [.int .i64 u3,.string u4,Sl.v u5,.int .i64 u6,.bool u7,.bool u8]/\
  ∃u9 u10 u11 u12 u13 u14,qj (join ro U) I (p1.add (Int.toNat u0*6)) 0 [.int .i64 u9,.string u10,Sl.v u11,.int .i64 u12,.bool u13,.bool u14]/\
  nw (join ro U) I (.cells #[.int .i64 0,.string ByteArray.empty,Sl.v (⟨none,0,0⟩:Sl),.int .i64 0,.bool false,.bool false] 276) fun u15 I=>
  nw (join ro U) I (.cells #[.int .i64 0,.string ByteArray.empty,Sl.v (⟨none,0,0⟩:Sl),.int .i64 0,.bool false,.bool false] 276) fun u16 I=>
  stN ⟨u15,0,none⟩ (fun I=>
  stN ⟨u16,0,none⟩ (fun I=>
   (qz U I->(fun I=>
   ∃u17,qa ro I ⟨u15,0,none⟩=some (.int .i64 u17)/\
   ∃u18,qa ro I ⟨u16,0,none⟩=some (.int .i64 u18)/\
   if¬(u17=u18)then
    xE B ro a0 a1 u0 u15 u16 Q Y2 true I
   else
   ∃u19,qa ro I ((⟨u15,0,none⟩:Addr).add 1)=some (.string u19)/\
   ∃u20,qa ro I ((⟨u16,0,none⟩:Addr).add 1)=some (.string u20)/\
   xE B ro a0 a1 u0 u15 u16 Q Y2 (!(decide (u19=u20))) I) (join U I))) [.int .i64 u3,.string u4,Sl.v u5,.int .i64 u6,.bool u7,.bool u8] 0 I) [.int .i64 u9,.string u10,Sl.v u11,.int .i64 u12,.bool u13,.bool u14] 0 I
 else
 yF B ro Q I
def aan(B:World)(ro:AH)(a0 a1:Sl)(I:AH)(Q:Bool->AH->Prop):=
 if¬((a0.len:Int)=(a1.len:Int))then
 Q false I
 else
 lfpD (xZ B ro a0 a1 Q) (0) I
theorem aez{a0 a1:Sl}{Q:Bool->AH->Prop}(h:Sep ro I->aan B ro a0 a1 I Q):uQ B ro a0 a1 I Q:=by
 refine zb h func97 ntmps97 fun h=>?_;unfold aan at h;refine z3 ?_;refine zp ?_;refine z2 (AW.seq (z3 ?_))
 refine zp ?_;refine zm (qJ rfl rfl underlying86 rfl rfl) ?_;refine zp ?_;refine zm (qJ rfl rfl underlying86 rfl rfl) ?_;refine zp ?_;refine z2 ?_;refine AW.iff rfl (qt decide_eq_true_iff) h (fun h=>?_) (fun h=>?_)
 .refine z3 ?_;refine zp ?_;refine z2 ?_;refine AW.ret ?_;refine qi ?_;exact bR1 results97 rfl ⟨_,rfl,h⟩
 refine AW.skip ?_;refine qc ?_;refine AW.seqJ (fun fr I=>qk [] fr/\yF B ro Q I) ?_ ?_
 .rintro fr I ⟨hl,h⟩;refine AW.weaken ?_ hl (HLe.refl _)
  unfold yF at h;refine z3 ?_;refine zp ?_;refine z2 ?_;refine AW.ret ?_;exact bR1 results97 rfl ⟨_,rfl,h⟩
 refine z3 ?_;refine zp ?_;refine z2 (AW.block ?_)
 refine qn.loop (fr':=[(0,Sl.v a0),(1,Sl.v a1),(5,.int .i64 0)]) ?_ FL
 refine h (fun u0 I=>qn _ _ _ _ _ _ [(0,Sl.v a0),(1,Sl.v a1),(5,.int .i64 u0)] I) ?_
 rintro u0 I Y2 hY2 h
 show AW _ _ _ _ _ _ _ _
 unfold xZ at h;refine AW.seq (z3 ?_);iterate 2 refine zp ?_
 refine zm (qJ rfl rfl underlying86 rfl rfl) ?_;refine zp ?_;refine z2 ?_;refine zi h (fun h=>?_) fun h=>?_
 rotate_left
 .refine AW.exit ?_;refine qR (qR ?_);refine wK ?_
  refine qc ?_;exact⟨FL,h⟩
 refine AW.skip ?_;refine qc (AW.seq (AW.block (AW.seq ?_)));refine AW.drawnL (fun i=>([0,0,0,3,0,0,0,0,1,1,2,2]:List Nat).getD i 2) [] [0,1,2,4,5,6,7,3,8,9,10,11] mixed h (by decide+kernel) ?_
 clear h
 intro U I h
 iterate 2 refine zq ?_
 obtain⟨p1,ha,h0,h1,h⟩:=h
 refine Dp rfl rfl rfl rfl (vL rfl underlying86 vW (ixL rfl ha) rfl h0 h1) ?_
 iterate 2 refine zq ?_
 obtain⟨p2,ha,h0,h1,h⟩:=h
 refine Dp rfl rfl rfl rfl (vL rfl underlying86 vW (ixL rfl ha) rfl h0 h1) ?_
 obtain⟨u3,u4,u5,u6,u7,u8,hc,h⟩:=h
 refine Dp rfl rfl rfl rfl (acL rfl underlying276 rfl vW rfl hc) ?_
 obtain⟨u9,u10,u11,u12,u13,u14,hc,h⟩:=h
 refine Dr rfl rfl rfl rfl (abR rfl underlying276 rfl vW rfl hc) ?_
 refine Da rfl rfl rfl rfl (wH rfl vW) fun u15 g1 g2=>?_
 replace h:=h u15 g1 g2
 refine Da rfl rfl rfl rfl (wH rfl vW) fun u16 g1 g2=>?_
 replace h:=h u16 g1 g2
 refine Dg rfl rfl rfl rfl (aej rfl vW rfl rfl rfl rfl (us h fun I h=>?_))
 refine Dg rfl rfl rfl rfl (aej rfl vW rfl rfl rfl rfl (us h fun I h=>?_))
 refine⟨_,wg.refl _,fun hdj=>?_⟩
 replace h:=h hdj
 refine qc (z3 ?_);refine zf underlying276 ty3 ?_;refine zL underlying3 h fun u17 h=>?_;refine zf underlying276 ty3 ?_;refine zL underlying3 h fun u18 h=>?_;iterate 2 refine zp ?_
 refine qq 6 (!(decide (u17=u18))) (qt decide_eq_true_iff) h (fun fr I=> ∃(u19:Bool),qk [(0,Sl.v a0),(1,Sl.v a1),(5,.int .i64 u0),(6,.pointer (some ⟨u15,0,none⟩)),(7,.pointer (some ⟨u16,0,none⟩)),(38,.bool u19)] fr/\xE B ro a0 a1 u0 u15 u16 Q Y2 u19 I) ?_ ?_ ?_
 .intro h e5 hk5;iterate 5 refine zn e5 ?_
  refine zk e5 ?_;exact hk5 _ _ ⟨_,FL,h⟩
 .intro h e5 hk5;refine qr (qx rfl underlying276 rfl ty9 (by decide) rfl) rfl rfl rfl rfl e5 ?_
  obtain⟨u20,hc,h⟩:=h
  refine Lyb rfl rfl rfl rfl e5 (qM rfl underlying9 rfl rfl hc ?_)
  refine qr (qx rfl underlying276 rfl ty9 (by decide) rfl) rfl rfl rfl rfl e5 ?_
  obtain⟨u21,hc,h⟩:=h
  refine Lyb rfl rfl rfl rfl e5 (qM rfl underlying9 rfl rfl hc ?_)
  refine qr (akr rfl rfl rfl) rfl rfl rfl rfl e5 ?_
  refine zk e5 ?_;exact hk5 _ _ ⟨_,FL,h⟩
 rintro fr I ⟨u19,hl,h⟩;unfold xE at h;refine Lfr hl ?_
 refine zp ?_;refine qq 7 u19 Iff.rfl h (fun fr I=> ∃(u22:Bool),qk [(0,Sl.v a0),(1,Sl.v a1),(5,.int .i64 u0),(6,.pointer (some ⟨u15,0,none⟩)),(7,.pointer (some ⟨u16,0,none⟩)),(46,.bool u22)] fr/\xD B ro a0 a1 u0 u15 u16 Q Y2 u22 I) ?_ ?_ ?_
 .intro h e12 hk12;iterate 6 refine zn e12 ?_
  refine zk e12 ?_;exact hk12 _ _ ⟨_,FL,h⟩
 .intro h e12 hk12;refine qr (qx rfl underlying276 rfl qV (by decide) rfl) rfl rfl rfl rfl e12 ?_
  obtain⟨u23,hc,h⟩:=h
  refine Lyb rfl rfl rfl rfl e12 (qM rfl underlying24 rfl rfl hc ?_)
  refine qr (qx rfl underlying276 rfl qV (by decide) rfl) rfl rfl rfl rfl e12 ?_
  obtain⟨u24,hc,h⟩:=h
  refine Lyb rfl rfl rfl rfl e12 (qM rfl underlying24 rfl rfl hc ?_)
  refine Lyb rfl rfl rfl rfl e12 (qF rfl func18 rfl rfl rfl (qb.mono h ?_))
  rintro v I ⟨u25,rfl,h⟩;refine zy e12 ?_;refine zk e12 ?_;exact hk12 _ _ ⟨_,FL,h⟩
 rintro fr I ⟨u22,hl,h⟩;unfold xD at h;refine Lfr hl ?_
 refine zp ?_;refine qq 6 u22 Iff.rfl h (fun fr I=> ∃(u26:Bool),qk [(0,Sl.v a0),(1,Sl.v a1),(5,.int .i64 u0),(6,.pointer (some ⟨u15,0,none⟩)),(7,.pointer (some ⟨u16,0,none⟩)),(53,.bool u26)] fr/\xB B ro a0 a1 u0 u15 u16 Q Y2 u26 I) ?_ ?_ ?_
 .intro h e20 hk20;iterate 5 refine zn e20 ?_
  refine zk e20 ?_;exact hk20 _ _ ⟨_,FL,h⟩
 .intro h e20 hk20;refine qr (qx rfl underlying276 rfl ty3 (by decide) rfl) rfl rfl rfl rfl e20 ?_
  obtain⟨u27,hc,h⟩:=h
  refine Lyb rfl rfl rfl rfl e20 (qM rfl underlying3 rfl rfl hc ?_)
  refine qr (qx rfl underlying276 rfl ty3 (by decide) rfl) rfl rfl rfl rfl e20 ?_
  obtain⟨u28,hc,h⟩:=h
  refine Lyb rfl rfl rfl rfl e20 (qM rfl underlying3 rfl rfl hc ?_)
  refine zy e20 ?_;refine zk e20 ?_;exact hk20 _ _ ⟨_,FL,h⟩
 rintro fr I ⟨u26,hl,h⟩;unfold xB at h;refine Lfr hl ?_
 refine zp ?_;refine qq 6 u26 Iff.rfl h (fun fr I=> ∃(u29:Bool),qk [(0,Sl.v a0),(1,Sl.v a1),(5,.int .i64 u0),(6,.pointer (some ⟨u15,0,none⟩)),(7,.pointer (some ⟨u16,0,none⟩)),(60,.bool u29)] fr/\xA B ro a0 a1 u0 u15 u16 Q Y2 u29 I) ?_ ?_ ?_
 .intro h e27 hk27;iterate 5 refine zn e27 ?_
  refine zk e27 ?_;exact hk27 _ _ ⟨_,FL,h⟩
 .intro h e27 hk27;refine qr (qx rfl underlying276 rfl ty4 (by decide) rfl) rfl rfl rfl rfl e27 ?_
  obtain⟨u30,hc,h⟩:=h
  refine Lyb rfl rfl rfl rfl e27 (qM rfl underlying4 rfl rfl hc ?_)
  refine qr (qx rfl underlying276 rfl ty4 (by decide) rfl) rfl rfl rfl rfl e27 ?_
  obtain⟨u31,hc,h⟩:=h
  refine Lyb rfl rfl rfl rfl e27 (qM rfl underlying4 rfl rfl hc ?_)
  refine qr (aeN rfl underlying4 rfl rfl) rfl rfl rfl rfl e27 ?_
  refine zk e27 ?_;exact hk27 _ _ ⟨_,FL,h⟩
 rintro fr I ⟨u29,hl,h⟩;unfold xA at h;refine Lfr hl ?_
 refine zp ?_;refine qq 6 u29 Iff.rfl h (fun fr I=> ∃(u32:Bool),qk [(0,Sl.v a0),(1,Sl.v a1),(5,.int .i64 u0),(67,.bool u32)] fr/\xz B ro a0 a1 u0 Q Y2 u32 I) ?_ ?_ ?_
 .intro h e34 hk34;iterate 5 refine zn e34 ?_
  refine zk e34 ?_;exact hk34 _ _ ⟨_,FL,h⟩
 .intro h e34 hk34;refine qr (qx rfl underlying276 rfl ty4 (by decide) rfl) rfl rfl rfl rfl e34 ?_
  obtain⟨u33,hc,h⟩:=h
  refine Lyb rfl rfl rfl rfl e34 (qM rfl underlying4 rfl rfl hc ?_)
  refine qr (qx rfl underlying276 rfl ty4 (by decide) rfl) rfl rfl rfl rfl e34 ?_
  obtain⟨u34,hc,h⟩:=h
  refine Lyb rfl rfl rfl rfl e34 (qM rfl underlying4 rfl rfl hc ?_)
  refine qr (aeN rfl underlying4 rfl rfl) rfl rfl rfl rfl e34 ?_
  refine zk e34 ?_;exact hk34 _ _ ⟨_,FL,h⟩
 rintro fr I ⟨u32,hl,h⟩;unfold xz at h;refine Lfr hl ?_
 refine z2 ?_;refine zj h (fun h=>?_) fun h=>?_
 .refine z3 ?_;refine zp ?_;refine z2 ?_;refine AW.ret ?_;refine qQ (qi (qi (qQ (qi ?_))));exact bR1 results97 rfl ⟨_,rfl,h⟩
 refine AW.skip ?_;refine wq (qc (AW.reg ?_));iterate 3 refine zp ?_
 refine z2 ?_;refine qn.head (fr':=[(0,Sl.v a0),(1,Sl.v a1),(5,.int .i64 (i64.wrap (u0+1)))]) ?_ FL
 exact hY2 _ _ h
end G
namespace Zt
open Go SL G Pa Wi
variable{B:World}{ro I I':AH}{tag tag':Nat->Nat}
theorem aeY(n:Int)(h0:0<=n)(h1:n<=4611686018427387903):(qC n.toNat).length<=9:=by
 have:=kR ([],false) n
 rw[aak h0 h1]at this
 simpa using this
theorem aj0(d:Str)(h:d.length<=1048576):(wT d).length<=9+d.length:=by
 unfold wT
 have:=aeY (d.length:Int) (by omega) (by omega)
 rw[Int.toNat_natCast]at this
 rw[List.length_append];omega
theorem afM{o:MOp}(hok:yD o)(h1:o.path.length<=1048576)(h2:o.data.length<=1048576):(vv o).length<=2097200:=by
 obtain⟨k1,k2,v1,v2⟩:=hok
 have hf:=abL o
 have a1:=aeY o.kind (by omega) (by omega)
 have a2:=aj0 o.path h1
 have a3:=aj0 o.data h2
 have a4:=aeY (o.ver+1) (by omega) (by omega)
 have a5:=aeY (flagN o:Int) (by omega) (by omega)
 rw[Int.toNat_natCast]at a5
 unfold vv
 simp only[List.length_append]
 omega
theorem ajz{s:Sl}{ops:List MOp}{Q:Sl->Int->AH->Prop}(hO:∀ tag' I',qd [0] ro tag I tag' I'->aai ro tag' I' s ops)(hsm:∀ o∈ops,o.path.length<=1048576/\o.data.length<=1048576)
  (hno:yE ops=none->∀ tag' I',qd [0] ro tag I tag' I'->Q ⟨none,0,0⟩ 80 I')
  (hyes:∀ b,yE ops=some b->∀ s' tag' I',qd [0] ro tag I tag' I'->Row tag' I' 6 5 s' (b.map vU)->Q s' 0 I'):acb B ro s I Q:=by
 refine agQ fun hs=>?_
 unfold acr
 have hln:=(hO tag I (qd.refl hs)).1
 by_cases c:16<ops.length
 .rw[if_pos (by omega)]
  exact hno (by unfold yE;rw[if_pos c]) tag I (qd.refl hs)
 rw[if_neg (by omega)]
 refine aaA (tag:=tag) (by omega) (by omega) fun s1 tag1 I1 st1 r1=>?_
 rw[hln,Int.toNat_natCast]at r1
 have hvl:=aeY (ops.length:Int) (by omega) (by omega)
 rw[Int.toNat_natCast]at hvl
 suffices∀m j out tag4 I4,j+m=ops.length->(∀o∈ops.take j,yD o)->((ops.take j).flatMap vv).length<=2097200*j->qd [0] ro tag I tag4 I4->Row tag4 I4 6 5 out ((qC ops.length++(ops.take j).flatMap vv).map vU)->lfpD (vD B ro s Q) (out,(j:Int)) I4 from
  this _ 0 s1 tag1 I1 (Nat.zero_add _) (by simp) (by simp) ((st1 []).s (by simp)) (by simpa using r1)
 intro m
 induction m with
 | zero=>
  intro j out tag4 I4 hj hok hel st4 b4
  refine lfpD.intro ?_
  unfold vD
  simp only
  rw[if_neg (by omega)]
  unfold aal
  rw[List.take_of_length_le (by omega)]at b4 hok hel
  exact hyes (adK ops) (by unfold yE;rw[if_neg c,if_pos hok]) out tag4 I4 st4 b4
 | succ m ih=>
  intro j out tag4 I4 hj hok hel st4 b4
  have hjl:j<ops.length:=by omega
  obtain⟨p,ds,hp,hc,hrd⟩:=(hO tag4 I4 st4).2 j ops[j] (List.getElem?_eq_getElem hjl)
  obtain⟨hpl,hdl⟩:=hsm _ (List.getElem_mem hjl)
  have etk:ops.take (j+1)=ops.take j++[ops[j]]:=by rw[List.take_add_one,List.getElem?_eq_getElem hjl];rfl
  have hmem:ops[j]∈ops:=List.getElem_mem hjl
  generalize ops[j]=o at hc hrd hpl hdl etk hmem
  refine lfpD.intro ?_
  unfold vD
  simp only
  rw[if_pos (by omega)]
  refine⟨p,hp,by omega,by omega,o.kind,S o.path,ds,o.ver,o.eph,o.seq,by rw[Int.toNat_natCast];exact hc,?_⟩
  refine pN (tag:=tag4) 0 st4.sep rfl (by simp[qg,Sl.v]) fun x tag5 I5 st5 r5=>?_
  have hs5:=(st5 []).sep
  have s5:qd [0] ro tag I tag5 I5:=st4.trans ((st5 []).s (by simp))
  have b5:=b4.keep (st5 [])
  have hrd5:=hrd.keepS ((st5 []).s (C:=[]) (by simp)) (by simp)
  obtain⟨p5,hp5,hg5⟩:=r5.ptr hs5 (by simp)
  cases hp5
  have no:¬ yD o->Q ⟨none,0,0⟩ 80 I5:=fun h=>hno (by unfold yE;rw[if_neg c,if_neg fun hall=>h (hall o hmem)]) tag5 I5 s5
  have no15:¬ yD o->xn B ro s out (j:Int) x Q (lfpD (vD B ro s Q)) true I5:=fun h=>by
   unfold xn;rw[if_pos rfl];exact no h
  have no13:¬ yD o->xo B ro s out (j:Int) x Q (lfpD (vD B ro s Q)) true I5:=fun h=>by
   unfold xo;rw[if_pos rfl];exact no15 h
  have no11:¬ yD o->xp B ro s out (j:Int) x Q (lfpD (vD B ro s Q)) true I5:=fun h=>by
   unfold xp;rw[if_pos rfl];exact no13 h
  refine⟨o.kind,hg5 0 _ rfl,?_⟩
  by_cases k1:o.kind<1
  .rw[if_pos k1]
   exact no11 fun h=>by have:=h.1;omega
  rw[if_neg k1]
  refine⟨o.kind,hg5 0 _ rfl,?_⟩
  by_cases k2:4<o.kind
  .rw[show decide (4<o.kind)=true by simpa using k2]
   exact no11 fun h=>by have:=h.2.1;omega
  rw[show decide (4<o.kind)=false by simpa using k2]
  unfold xp
  rw[if_neg (by simp)]
  refine⟨o.ver,hg5 3 _ rfl,?_⟩
  by_cases k3:o.ver< -1
  .rw[show decide (o.ver< -1)=true by simpa using k3]
   exact no13 fun h=>by have:=h.2.2.1;omega
  rw[show decide (o.ver< -1)=false by simpa using k3]
  unfold xo
  rw[if_neg (by simp)]
  refine⟨o.ver,hg5 3 _ rfl,?_⟩
  by_cases k4:4611686018427387902<o.ver
  .rw[show decide (4611686018427387902<o.ver)=true by simpa using k4]
   exact no15 fun h=>by have:=h.2.2.2;omega
  rw[show decide (4611686018427387902<o.ver)=false by simpa using k4]
  have hok1:yD o:=⟨by omega,by omega,by omega,by omega⟩
  have hoe:=afM hok1 hpl hdl
  have hfl:=abL o
  have ev:i64.wrap (o.ver+1)=o.ver+1:=by rw[SL.qW (by omega) (by omega)]
  have hpre:(qC ops.length++(ops.take j).flatMap vv).length<=9+2097200*16:=by
   rw[List.length_append]
   have:2097200*j<=2097200*16:=Nat.mul_le_mul_left _ (by omega)
   omega
  unfold xn
  rw[if_neg (by simp)]
  have go:∀ fl:Int,fl=(flagN o:Int)->jp B ro s out (j:Int) x Q (lfpD (vD B ro s Q)) fl I5:=by
   intro fl hfe
   subst hfe
   unfold jp
   obtain⟨tX,hX⟩:=r5.tagOf
   refine pO x ?_
   have hsL:SL.Sep (join ro (SL.one I5 x)) (SL.del I5 x):=hs5.lent
   have cX:∀ τ i v,(opV o ds)[i]?=some v->qa (join ro (SL.one I5 x)) τ ((⟨x,0,none⟩:Addr).add i)=some v:=fun τ i v hv=>by
    have:=r5.lend hs5 (τ:=τ) (i:=i) (v:=v) hv
    rwa [Nat.mul_one]at this
   have dA:=hrd5.lent (b:=x) (by rw[tX];decide)
   have bA:=b5.del tX (by decide)
   refine⟨S o.path,cX _ 1 _ rfl,ds,cX _ 2 _ rfl,o.ver,cX _ 3 _ rfl,o.kind,by have:=cX (SL.del I5 x) 0 _ rfl;rwa [yk]at this,?_⟩
   refine aaA (tag:=tag5) (by omega) (by omega) fun q1 tag6 I6 st6 k1=>?_
   refine afp (tag:=tag6) (st6 []).sep fun sp tag7 I7 st7 h7=>?_
   refine⟨sp,rfl,?_⟩
   refine aaU (tag:=tag7) h7 (by omega) fun q2 tag8 I8 st8 k2=>?_
   have st68:∀ R,qf R (join ro (SL.one I5 x)) tag5 (SL.del I5 x) tag8 I8:=fun R=>(st6 R).trans ((st7 R).trans (st8 R))
   have dB:=dA.keepS ((st68 []).s (C:=[]) (by simp)) (by simp)
   refine aaU (tag:=tag8) (dB.read (st8 []).sep) (by omega) fun q3 tag9 I9 st9 k3=>?_
   rw[ev]
   refine aaA (tag:=tag9) (by omega) (by omega) fun q4 tag10 I10 st10 k4=>?_
   refine aaA (tag:=tag10) (by omega) (by omega) fun q5 tag11 I11 st11 k5=>?_
   rw[Int.toNat_natCast]at k5
   refine ql (tag:=tag11) 0 (st11 []).sep fun Y tag12 I12 st12 r12=>?_
   have hs12:=(st12 []).sep
   have stq:∀ R,qf R (join ro (SL.one I5 x)) tag5 (SL.del I5 x) tag12 I12:=fun R=>(st68 R).trans ((st9 R).trans ((st10 R).trans ((st11 R).trans (st12 R))))
   have a1:=((((((k1.keep (st7 [])).keep (st8 [])).keep (st9 [])).keep (st10 [])).keep (st11 [])).keep (st12 [])).read hs12
   have a2:=((((k2.keep (st9 [])).keep (st10 [])).keep (st11 [])).keep (st12 [])).read hs12
   have a3:=(((k3.keep (st10 [])).keep (st11 [])).keep (st12 [])).read hs12
   have a4:=((k4.keep (st11 [])).keep (st12 [])).read hs12
   have a5:=(k5.keep (st12 [])).read hs12
   have a0:=(bA.keep (stq [])).read hs12
   obtain⟨acc,hacc⟩:∃ acc,qC ops.length++(ops.take j).flatMap vv=acc:=⟨_,rfl⟩
   rw[hacc]at a0 hpre
   have efl:[acc,qC o.kind.toNat,wT o.path,wT o.data,qC (o.ver+1).toNat,qC (flagN o)].flatten=acc++vv o:=by unfold vv;simp
   refine aew (tag:=tag12) (ss:=[out,q1,q2,q3,q4,q5]) (ls:=[acc,qC o.kind.toNat,wT o.path,wT o.data,qC (o.ver+1).toNat,qC (flagN o)]) (r12.read hs12) rfl (fun i s l hs' hl'=>?_) (by rw[efl,List.length_append];omega) (by simp) fun s' tag13 I13 st13 r13=>?_
   .rcases i with _ | _ | _ | _ | _ | _ | i
    .cases hs';cases hl';exact a0
    .cases hs';cases hl';exact a1
    .cases hs';cases hl';exact a2
    .cases hs';cases hl';exact a3
    .cases hs';cases hl';exact a4
    .cases hs';cases hl';exact a5
    .cases hs'
   intro hdis
   have stB:=((stq []).trans (st13 [])).back hs5 hdis hX
   have r14:=r13.back (r':=tag5 x) hdis hX
   rw[Pa.inc j (by omega)]
   rw[efl]at r14
   refine ih (j+1) s' _ _ (by omega) (fun y hy=>?_) ?_ (s5.trans (stB.s (by simp))) ?_
   .rw[etk]at hy
    rcases List.mem_append.1 hy with h | h
    .exact hok y h
    .rw[List.mem_singleton.1 h];exact hok1
   .rw[etk,List.flatMap_append,List.length_append,List.flatMap_singleton]
    omega
   .rw[etk,List.flatMap_append,List.flatMap_singleton,<-List.append_assoc,hacc]
    exact r14
  refine⟨o.eph,hg5 4 _ rfl,?_⟩
  have e01:i64.wrap (0+1)=1:=by decide
  have e12:i64.wrap (1+2)=3:=by decide
  have e02:i64.wrap (0+2)=2:=by decide
  cases he:o.eph<;>cases hq:o.seq
  all_goals
   first | rw[if_pos rfl] | rw[if_neg (by simp)]
   unfold yN
   refine⟨o.seq,hg5 5 _ rfl,?_⟩
   rw[hq]
   first | rw[if_pos rfl] | rw[if_neg (by simp)]
   refine go _ ?_
   unfold flagN
   rw[he,hq]
   decide
end Zt
namespace Zt
open Go SL Pa Wi
def pK(c:wh):Prop:=c.members.length<=7/\qK c.kind=true/\qK c.session=true/\qK c.req=true/\qK c.nonce=true/\qK c.lease=true/\qK c.beats=true/\qK c.ack=true/\qK c.epoch=true/\∀ m∈c.members,qK m=true
instance (c:wh):Decidable (pK c):=by unfold pK;infer_instance
def bitN(b:Bool):Nat:=if b then 1 else 0
def abj(l:List Int):Str:=l.flatMap fun m=>qC m.toNat
def va(c:wh)(p:Str):Str:=qC c.kind.toNat++(wT c.home++(qC c.session.toNat++(qC c.req.toNat++(qC c.nonce.toNat++(qC c.lease.toNat++(qC c.beats.toNat++(qC c.ack.toNat++(wT p++(wT c.path++(qC (bitN c.watch)++(qC c.epoch.toNat++(qC c.members.length++abj c.members))))))))))))
def qS(c:wh):Option Str:=match yE c.ops with
 | none=>none
 | some p=>if pK c/\(va c p).length<=32768 then some (va c p)else none
def vo:Nat->Rd->List Int×Rd
 | 0,r=>([],r)
 | n+1,r=>(((qo r).1:Int)::(vo n (qo r).2).1,(vo n (qo r).2).2)
structure RC where
 c:wh
 p:Str
 bit:Nat
 n:Nat
 r:Rd
def wi(b:Str):RC:=
 let a1:=qo ⟨b,0⟩
 let a2:=qO a1.2
 let a3:=qo a2.2
 let a4:=qo a3.2
 let a5:=qo a4.2
 let a6:=qo a5.2
 let a7:=qo a6.2
 let a8:=qo a7.2
 let a9:=qO a8.2
 let b0:=qO a9.2
 let b1:=qo b0.2
 let b2:=qo b1.2
 let b3:=qo b2.2
 let b4:=vo (min b3.1 8) b3.2
 ⟨⟨a1.1,a2.1,a3.1,a4.1,a5.1,a6.1,a7.1,a8.1,[],b0.1,decide (b1.1=1),b2.1,b4.1⟩,a9.1,b1.1,b3.1,b4.2⟩
def wJ(b:Str):Option wh:=
 if(wi b).r.err≠0\/0<(wi b).r.rest.length\/1<(wi b).bit\/7<(wi b).n\/32768<b.length then none
 else match jE (wi b).p with
  | none=>none
  | some os=>some {(wi b).c with ops:=os}
theorem aiR:∀ (l:List Int) (r:Str),(∀y∈l,qK y=true)->vo l.length ⟨abj l++r,0⟩=(l,⟨r,0⟩):=by
 intro l
 induction l with
 | nil=>intro r _;rfl
 | cons y l ih=>
  intro r h
  obtain⟨e1,e2⟩:=xK (h y (by simp))
  have e:abj (y::l)++r=qC y.toNat++(abj l++r):=by unfold abj;simp
  rw[e,List.length_cons]
  unfold vo
  rw[zT e2,ih r fun z hz=>h z (by simp[hz]),e1]
structure abN(c:wh):Prop where
 home:c.home.length<=1048576
 path:c.path.length<=1048576
 ops:∀ o∈c.ops,o.path.length<=1048576/\o.data.length<=1048576
theorem ajA(p:Str):p.length<=(wT p).length:=by unfold wT;simp
theorem ag3{c:wh}{b:Str}(h:qS c=some b)(hs:abN c):wJ b=some c:=by
 unfold qS at h
 cases hp:yE c.ops with
 | none=>rw[hp]at h;cases h
 | some p=>
  rw[hp]at h
  simp only at h
  split at h
  .rename_i hk
   cases h
   obtain⟨⟨h1,c1,c2,c3,c4,c5,c6,c7,c8,h9⟩,hl⟩:=hk
   obtain⟨a1,b1⟩:=xK c1
   obtain⟨a2,b2⟩:=xK c2
   obtain⟨a3,b3⟩:=xK c3
   obtain⟨a4,b4⟩:=xK c4
   obtain⟨a5,b5⟩:=xK c5
   obtain⟨a6,b6⟩:=xK c6
   obtain⟨a7,b7⟩:=xK c7
   obtain⟨a8,b8⟩:=xK c8
   have hpl:p.length<=32768:=by
    have:=ajA p
    unfold va at hl
    simp only[List.length_append]at hl
    omega
   have hb:bitN c.watch<4611686018427387904:=by unfold bitN;split<;>omega
   have hr:wi (va c p)=⟨{c with ops:=[]},p,bitN c.watch,c.members.length,⟨[],0⟩⟩:=by
    unfold wi va
    simp only[zT b1,aaS (show c.home.length<4611686018427387904 by have:=hs.home;omega),zT b2,zT b3,zT b4,zT b5,zT b6,zT b7,aaS (show p.length<4611686018427387904 by omega),aaS (show c.path.length<4611686018427387904 by have:=hs.path;omega),zT hb,zT b8,zT (show c.members.length<4611686018427387904 by omega)]
    rw[Nat.min_eq_left (by omega)]
    have e:=aiR c.members [] h9
    rw[List.append_nil]at e
    rw[e]
    have hw:decide (bitN c.watch=1)=c.watch:=by unfold bitN;cases c.watch<;>rfl
    simp only[a1,a2,a3,a4,a5,a6,a7,a8,hw]
   have hg:=ajv hp fun o ho=>by have:=hs.ops o ho;omega
   unfold wJ
   rw[hr,if_neg (by simp only[List.length_nil];unfold bitN;split<;>omega)]
   simp only[hg]
  .cases h
def wc1(c:wh):Str×Bool:=vZ (wo ([],false) c.kind) c.home
def wc2(c:wh):Str×Bool:=[c.session,c.req,c.nonce,c.lease,c.beats,c.ack].foldl wo (wc1 c)
def wc3(c:wh)(p:Str):Str×Bool:=vZ (vZ (wc2 c) p) c.path
def wc4(c:wh)(p:Str):Str×Bool:=[(bitN c.watch:Int),c.epoch,(c.members.length:Int)].foldl wo (wc3 c p)
def aao(c:wh)(p:Str):Str×Bool:=c.members.foldl wo (wc4 c p)
theorem ahs(c:wh):(wc1 c).1.length<=18+c.home.length:=by
 unfold wc1
 have:=abV (wo ([],false) c.kind) c.home
 have:=kR ([],false) c.kind
 simp only[List.length_nil]at this
 omega
theorem aht(c:wh):(wc2 c).1.length<=72+c.home.length:=by
 unfold wc2
 have:=abX [c.session,c.req,c.nonce,c.lease,c.beats,c.ack] (wc1 c)
 have:=ahs c
 simp only[List.length_cons,List.length_nil]at*
 omega
theorem ahu(c:wh)(p:Str):(wc3 c p).1.length<=90+c.home.length+p.length+c.path.length:=by
 unfold wc3
 have:=abV (vZ (wc2 c) p) c.path
 have:=abV (wc2 c) p
 have:=aht c
 omega
theorem ahv(c:wh)(p:Str):(wc4 c p).1.length<=117+c.home.length+p.length+c.path.length:=by
 unfold wc4
 have:=abX [(bitN c.watch:Int),c.epoch,(c.members.length:Int)] (wc3 c p)
 have:=ahu c p
 simp only[List.length_cons,List.length_nil]at*
 omega
theorem afN:∀ (ns:List Int) {a:Str},(∀m∈ns,qK m=true)->ns.foldl wo (a,false)=(a++abj ns,false)
 | [],a,_=>by simp[abj]
 | n::ns,a,h=>by
  rw[List.foldl_cons,xh (h n (by simp)),afN ns fun q hq=>h q (by simp[hq])]
  unfold abj
  simp
theorem afO(b:Bool):qK (bitN b:Int)=true:=by cases b<;>rfl
theorem adL{c:wh}{p:Str}(h:pK c)(h1:c.home.length<4611686018427387904)(h2:p.length<4611686018427387904)(h3:c.path.length<4611686018427387904):aao c p=(va c p,false):=by
 obtain⟨k1,c1,c2,c3,c4,c5,c6,c7,c8,k9⟩:=h
 unfold aao wc4 wc3 wc2 wc1
 rw[xh c1,adI h1]
 simp only[List.foldl_cons,List.foldl_nil]
 rw[xh c2,xh c3,xh c4,xh c5,xh c6,xh c7,adI h2,adI h3,xh (afO _),xh c8,xh (akQ k1 (by decide)),afN _ k9,Int.toNat_natCast,Int.toNat_natCast]
 unfold va
 simp only[List.append_assoc,List.nil_append]
theorem ajB{c:wh}{p:Str}(h:¬ pK c)(h1:c.members.length<=7):(aao c p).2=true:=by
 have f4:(wc4 c p).2=true->(aao c p).2=true:=fun k=>abW _ k
 have f3:(wc3 c p).2=true->(aao c p).2=true:=fun k=>f4 (abW _ k)
 have f2:(wc2 c).2=true->(aao c p).2=true:=fun k=>f3 (agG (agG k))
 have f1:(wc1 c).2=true->(aao c p).2=true:=fun k=>f2 (abW _ k)
 by_cases c1:qK c.kind=true
 .by_cases c2:qK c.session=true
  .by_cases c3:qK c.req=true
   .by_cases c4:qK c.nonce=true
    .by_cases c5:qK c.lease=true
     .by_cases c6:qK c.beats=true
      .by_cases c7:qK c.ack=true
       .by_cases c8:qK c.epoch=true
        .by_cases c9:∀ m∈c.members,qK m=true
         .exact absurd ⟨h1,c1,c2,c3,c4,c5,c6,c7,c8,c9⟩ h
         .exact aho (p:=fun m:Int=>qK m=true) (fun a y hy=>xH hy) (fun a y hy=>pR (aac hy)) _ c9
        .exact f4 (xH (pR (aac c8)))
       .exact f2 (pR (aac c7))
      .exact f2 (xH (pR (aac c6)))
     .exact f2 (xH (xH (pR (aac c5))))
    .exact f2 (xH (xH (xH (pR (aac c4)))))
   .exact f2 (xH (xH (xH (xH (pR (aac c3))))))
  .exact f2 (xH (xH (xH (xH (xH (pR (aac c2)))))))
 .exact f1 (agG (pR (aac c1)))
end Zt
namespace Zt
open Go SL G Pa Wi
variable{B:World}{ro I I':AH}{tag tag':Nat->Nat}
theorem ajC{r W:Nat}{s:Sl}{Q:AH->Prop}(hr:r≠1){ns:List Int}{a:Str×Bool}(h:wm tag I r W a.1 a.2)(hs:SL.Sep ro I)(hl:a.1.length+9*ns.length<=140737488355328)(hx:∀ tag' I',qf [r,r+64,1] ro tag I tag' I'->SL.qy ro I' s (ns.map Zt.vI))
  (hQ:∀ tag' I',qf [r,r+64,1] ro tag I tag' I'->wm tag' I' r W (ns.foldl wo a).1 (ns.foldl wo a).2->Q I'):wb B ro (some ⟨W,0,none⟩) s I Q:=by
 refine aar fun _=>?_
 unfold jv
 have hsl:s.len=ns.length:=by rw[(hx tag I (qf.refl hs)).1,List.length_map]
 suffices∀(m j:Nat) (tag1:Nat->Nat) (I1:AH),j+m=ns.length->qf [r,r+64,1] ro tag I tag1 I1->((ns.take j).foldl wo a).1.length<=a.1.length+9*j->wm tag1 I1 r W ((ns.take j).foldl wo a).1 ((ns.take j).foldl wo a).2->lfpD (wL B ro (some ⟨W,0,none⟩) s Q) (j:Int) I1 from
  this _ 0 tag I (Nat.zero_add _) (qf.refl hs) (by simp) (by simpa using h)
 intro m
 induction m with
 | zero=>
  intro j tag1 I1 hj st _ h1
  refine lfpD.intro ?_
  unfold wL
  rw[if_neg (by omega)]
  rw[List.take_of_length_le (by omega)]at h1
  exact hQ tag1 I1 st h1
 | succ m ih=>
  intro j tag1 I1 hj st hln h1
  have hjl:j<ns.length:=by omega
  have hx1:=hx tag1 I1 st
  obtain⟨p,hp⟩:∃ p,s.a=some p:=by
   cases e:s.a with
   | none=>have:=hx1.2.1 e;rw[List.map_eq_nil_iff]at this;rw[this]at hjl;cases hjl
   | some p=>exact⟨p,rfl⟩
  have hg:=hx1.2.2 p hp
  refine lfpD.intro ?_
  unfold wL
  rw[if_pos (by omega)]
  refine⟨p,hp,by omega,by omega,ns[j],?_,_,rfl,?_⟩
  .have:=hg j (Zt.vI ns[j]) (by rw[List.getElem?_map,List.getElem?_eq_getElem hjl];rfl)
   rw[Int.toNat_natCast,Nat.mul_one];exact this
  .refine aeV h1 hr st.sep (by omega) fun tag2 I2 st2 h2=>?_
   rw[Pa.inc j (by omega)]
   have e:(ns.take (j+1)).foldl wo a=wo ((ns.take j).foldl wo a) ns[j]:=by
    rw[List.take_add_one,List.getElem?_eq_getElem hjl,List.foldl_append];rfl
   have:=kR ((ns.take j).foldl wo a) ns[j]
   exact ih (j+1) tag2 I2 (by omega) (st.trans st2) (by rw[e];omega) (by rw[e];exact h2)
abbrev CW:List Nat:=[0,1,2,30]
abbrev alx(c:wh)(os ms:Sl):List Value:=[vI c.kind,Pa.vS c.home,vI c.session,vI c.req,vI c.nonce,vI c.lease,vI c.beats,vI c.ack,Sl.v os,Pa.vS c.path,.bool c.watch,vI c.epoch,Sl.v ms]
theorem aeZ{l:List MOp}{p:Str}(h:yE l=some p)(hs:∀ o∈l,o.path.length<=1048576/\o.data.length<=1048576):p.length<=40000000:=by
 unfold yE at h
 split at h
 .cases h
 rename_i h1
 split at h
 .rename_i h2
  cases h
  have:∀ m:List MOp,(∀o∈m,yD o/\o.path.length<=1048576/\o.data.length<=1048576)->(m.flatMap vv).length<=2097200*m.length:=by
   intro m
   induction m with
   | nil=>intro _;simp
   | cons o m ih=>
    intro h
    obtain⟨a,b,c⟩:=h o (by simp)
    have:=afM a b c
    have:=ih fun x hx=>h x (by simp[hx])
    rw[List.flatMap_cons,List.length_append,List.length_cons]
    omega
  have h3:=this l fun o ho=>⟨h2 o ho,hs o ho⟩
  have h4:=kR ([],false) (l.length:Int)
  rw[aak (by omega) (by omega),Int.toNat_natCast]at h4
  simp at h4
  unfold adK
  rw[List.length_append]
  omega
 .cases h
theorem aie{os ms:Sl}{c:wh}{Q:Sl->Int->AH->Prop}(hx:∀ tag' I',qd CW ro tag I tag' I'->aai ro tag' I' os c.ops/\SL.qy ro I' ms (c.members.map vI))(hs:abN c)(hm:c.members.length<=1048576)
  (hno:qS c=none->∀ tag' I',qd CW ro tag I tag' I'->Q ⟨none,0,0⟩ 170 I')
  (hyes:∀ b,qS c=some b->∀ s tag' I',qd CW ro tag I tag' I'->Row tag' I' 6 5 s (b.map vU)->Q s 0 I'):kz B ro c.kind (S c.home) c.session c.req c.nonce c.lease c.beats c.ack os (S c.path) c.watch c.epoch ms I Q:=by
 refine aes fun hsep=>?_
 unfold aad
 have lm:ms.len=c.members.length:=by rw[(hx tag I (qd.refl hsep)).2.1,List.length_map]
 refine ql (tag:=tag) 2 hsep fun X tag1 I1 st1 x1=>?_
 have s1:qd CW ro tag I tag1 I1:=(st1 []).s (by simp)
 have g1:=(x1.read s1.sep).2.2 _ rfl
 refine⟨os,g1 8 _ rfl,?_⟩
 refine akl (tag:=tag1) (fun tag' I' st=>(hx tag' I' (s1.trans (st.mono (by decide)))).1) hs.ops (fun hn tag2 I2 st2=>?_) fun p hp s' tag2 I2 st2 r2=>?_
 .rw[if_pos (by decide)]
  unfold vh
  rw[if_pos rfl]
  exact hno (by unfold qS;rw[hn]) tag2 I2 (s1.trans (st2.mono (by decide)))
 rw[if_neg (by simp)]
 have s2:qd CW ro tag I tag2 I2:=s1.trans (st2.mono (by decide))
 have x2:=x1.keepS st2
 have g2:=(x2.read s2.sep).2.2 _ rfl
 refine⟨ms,g2 12 _ rfl,?_⟩
 have hpl:=aeZ hp hs.ops
 have hhl:=hs.home
 have hql:=hs.path
 by_cases h7:7<c.members.length
 .rw[show decide ((7:Int)<(ms.len:Int))=true by simp;omega]
  unfold vh
  rw[if_pos rfl]
  exact hno (by unfold qS;rw[hp];simp only;rw[if_neg fun h=>by have:=h.1.1;omega]) tag2 I2 s2
 rw[show decide ((7:Int)<(ms.len:Int))=false by simp;omega]
 unfold vh
 rw[if_neg (by simp)]
 refine adD (tag:=tag2) (r:=30) fun W tag3 I3 st3 w3=>?_
 have x3:=x2.keep (st3 [])
 refine⟨c.kind,(x3.read (st3 []).sep).2.2 _ rfl 0 _ rfl,?_⟩
 refine agH (tag:=tag3) (a:=([],false)) [c.kind] w3 (by decide) (st3 []).sep (by simp) fun tag4 I4 st4 w4=>?_
 have x4:=x3.keep st4 (by decide)
 refine⟨S c.home,(x4.read st4.sep).2.2 _ rfl 1 _ rfl,?_⟩
 have l4:=kR ([],false) c.kind
 refine aiK (tag:=tag4) (a:=wo ([],false) c.kind) c.home w4 (by decide) st4.sep (by simp at l4;omega) fun tag5 I5 st5 w5=>?_
 have x5:=x4.keep st5 (by decide)
 have g5:=(x5.read st5.sep).2.2 _ rfl
 refine⟨c.session,g5 2 _ rfl,c.req,g5 3 _ rfl,c.nonce,g5 4 _ rfl,c.lease,g5 5 _ rfl,c.beats,g5 6 _ rfl,c.ack,g5 7 _ rfl,?_⟩
 have l5:=ahs c
 refine agH (tag:=tag5) (a:=wc1 c) [c.session,c.req,c.nonce,c.lease,c.beats,c.ack] w5 (by decide) st5.sep (by simp only[List.length_cons,List.length_nil];omega) fun tag6 I6 st6 w6=>?_
 have k26:qd [30,1] ro tag2 I2 tag6 I6:=((st3 []).s (by simp)).trans ((st4.s (by decide)).trans ((st5.s (by decide)).trans (st6.s (by decide))))
 have l6:=aht c
 have r6:=r2.keepS k26
 refine akP (tag:=tag6) (a:=wc2 c) p w6 (by decide) st6.sep (by omega) (fun tag' I' st=>(r6.keep st (by decide)).read st.sep) fun tag7 I7 st7 w7=>?_
 have x7:=(x5.keep st6 (by decide)).keep st7 (by decide)
 refine⟨S c.path,(x7.read st7.sep).2.2 _ rfl 9 _ rfl,?_⟩
 have l7:=abV (wc2 c) p
 refine aiK (tag:=tag7) (a:=vZ (wc2 c) p) c.path w7 (by decide) st7.sep (by omega) fun tag8 I8 st8 w8=>?_
 have x8:=x7.keep st8 (by decide)
 have hs8:=st8.sep
 have k28:qd [30,1] ro tag2 I2 tag8 I8:=k26.trans ((st7.s (by decide)).trans (st8.s (by decide)))
 obtain⟨tX,hX⟩:=x8.tagOf
 refine pO X ?_
 have cX:∀ τ i v,(alx c os ms)[i]?=some v->qa (join ro (SL.one I8 X)) τ ((⟨X,0,none⟩:Addr).add i)=some v:=fun τ i v hv=>by
  have:=x8.lend hs8 (τ:=τ) (i:=i) (v:=v) hv
  rwa [Nat.mul_one]at this
 refine⟨c.epoch,cX _ 11 _ rfl,ms,cX _ 12 _ rfl,c.watch,cX _ 10 _ rfl,?_⟩
 have bL:=wm.del (b:=X) w8 (by rw[tX];decide) (by rw[tX];decide)
 refine agL fun hsL=>?_
 have l8:=ahu c p
 have key:nw (join ro (SL.one I8 X)) (SL.del I8 X) (.cells #[.int .i64 (bitN c.watch:Nat),.int .i64 c.epoch,.int .i64 (ms.len:Int)] 3) fun x66_26 I=>
   wb B (join ro (SL.one I8 X)) (some ⟨W,0,none⟩) (⟨some ⟨x66_26,0,none⟩,3,3⟩:Sl) I fun I=>
   (qz (SL.one I8 X) I->(fun I=> ∃(x70_27:Sl),qa ro I ((⟨X,0,none⟩:Addr).add 12)=some (Sl.v x70_27)/\
    wb B ro (some ⟨W,0,none⟩) x70_27 I fun I=>
    xt B ro (some ⟨W,0,none⟩) I fun x74_28 x74_29 I=>
    if(¬(x74_29=0))\/(32768<(x74_28.len:Int))then Q (⟨none,0,0⟩:Sl) 170 I else Q x74_28 0 I) (join (SL.one I8 X) I)):=by
  rw[lm]
  refine agH (tag:=tag8) (a:=wc3 c p) [(bitN c.watch:Int),c.epoch,(c.members.length:Int)] bL (by decide) hsL (by simp only[List.length_cons,List.length_nil];omega) fun tag9 I9 st9 w9=>?_
  intro hdis
  have stF:=qd.back (st9.s (C:=[30,1]) (by decide)) hs8 hdis hX
  have bF:=wm.back (q:=tag8 X) w9 hdis hX
  have s9:qd CW ro tag I (setTag tag9 X (tag8 X)) (join (SL.one I8 X) I9):=s2.trans ((k28.mono (by decide)).trans (stF.mono (by decide)))
  have x9:=x8.keepS stF
  have hs9:=stF.sep
  refine⟨ms,(x9.read hs9).2.2 _ rfl 12 _ rfl,?_⟩
  have l9:=ahv c p
  refine ajC (r:=30) (ns:=c.members) (a:=wc4 c p) (by decide) bF hs9 (by omega) (fun tag' I' st=>(hx tag' I' (s9.trans (st.s (by decide)))).2) fun tagA IA stA wA=>?_
  have sA:qd CW ro tag I tagA IA:=s9.trans (stA.s (by decide))
  have lA:=abX c.members (wc4 c p)
  refine aiG (tag:=tagA) (a:=aao c p) wA stA.sep (by unfold aao;omega) (fun hb=>?_) fun hg s' tagB IB stB rB=>?_
  .rw[if_pos (.inl (by decide))]
   refine hno ?_ tagA IA sA
   unfold qS;rw[hp];simp only
   rw[if_neg fun h=>?_]
   rw[adL h.1 (by omega) (by omega) (by omega)]at hb
   cases hb
  .have hok:pK c:=Classical.byContradiction fun h=>by rw[ajB h (by omega)]at hg;cases hg
   have e:=adL (p:=p) hok (by omega) (by omega) (by omega)
   rw[e]at rB
   have hln:s'.len=(va c p).length:=by rw[rB.len,List.length_map]
   have sB:qd CW ro tag I tagB IB:=sA.trans ((stB []).s (by simp))
   by_cases h8:32768<(va c p).length
   .rw[if_pos (.inr (by omega))]
    exact hno (by unfold qS;rw[hp];simp only;rw[if_neg fun h=>by omega]) tagB IB sB
   .rw[if_neg fun h=>by rcases h with h | h<;>omega]
    exact hyes _ (by unfold qS;rw[hp];simp only;rw[if_pos ⟨hok,by omega⟩]) s' tagB IB sB rB
 unfold acm
 cases hw:c.watch with
 | true=>rw[if_pos rfl];unfold bitN at key;rw[hw]at key;exact key
 | false=>rw[if_neg (by simp)];unfold bitN at key;rw[hw]at key;exact key
theorem alZ{f:Nat}(h:f<=3):(!(decide (ke .i64 (f:Int) 1=0)))=decide (f%2=1):=by
 rcases(show f=0\/f=1\/f=2\/f=3 by omega)with rfl | rfl | rfl | rfl<;>decide
theorem al0{f:Nat}(h:f<=3):(!(decide (ke .i64 (f:Int) 2=0)))=decide (1<f):=by
 rcases(show f=0\/f=1\/f=2\/f=3 by omega)with rfl | rfl | rfl | rfl<;>decide
theorem wW.push{q:Nat}{s s' d:Sl}{ops:List MOp}{o:MOp}{dd:List Sl}{tag7:Nat->Nat}{I7:AH}(d1:dd.length=ops.length)(d3:∀ (i:Nat) (o:MOp) (d:Sl),ops[i]?=some o->dd[i]?=some d->vg tag7 I7 6 d (o.data.map vU))(r7:wj tag7 I7 q 72 6 s' (List.zipWith opV ops dd++[opV o d]))(hd:vg tag7 I7 6 d (o.data.map vU)):wW tag7 I7 q s' (ops++[o]):=by
 refine⟨dd++[d],by simp[d1],by rw[List.zipWith_append d1.symm];exact r7,fun i o' d' ho hd'=>?_⟩
 rcases Nat.lt_or_ge i ops.length with h | h
 .rw[List.getElem?_append_left h]at ho
  rw[List.getElem?_append_left (by omega)]at hd'
  exact d3 i o' d' ho hd'
 .rw[List.getElem?_append_right h]at ho
  rw[List.getElem?_append_right (by omega),d1]at hd'
  cases hz:i - ops.length with
  | zero=>rw[hz]at ho hd';cases ho;cases hd';exact hd
  | succ k=>rw[hz]at ho;cases ho
theorem aly(r:Rd)(h:(qo r).2.err≠0):(qo r).1=0:=by
 unfold qo at h⊢
 split
 .rfl
 .rename_i hc
  rw[if_neg hc]at h
  exact(afj h).1
theorem mget_ok{a0:Sl}{b:Str}{q:Nat}{Q:Sl->Int->AH->Prop}(hq:q<64)(hq0:q≠0)(hq6:q≠6)(hq31:q≠31)(h:SL.qy ro I a0 (b.map vU))(hl:b.length<=140737488355328)
  (hno:jE b=none->∀ tag' I',qd [0,31,q] ro tag I tag' I'->Q ⟨none,0,0⟩ 13 I')
  (hyes:∀ l,jE b=some l->∀ s tag' I',qd [0,31,q] ro tag I tag' I'->wW tag' I' q s l->Q s 0 I'):aaJ B ro a0 I Q:=by
 refine agE fun hs=>?_
 unfold acj
 have hqm:q%64=q:=Nat.mod_eq_of_lt hq
 refine adE (tag:=tag) (r:=31) h hs hl fun A tag1 I1 st1 rd1=>?_
 refine zU rd1 (by decide) (st1 []).sep fun I2 st2 rd2=>?_
 have hge:jE b=if(qo ⟨b,0⟩).2.err≠0\/16<(qo ⟨b,0⟩).1 then none else match jj (qo ⟨b,0⟩).1 (qo ⟨b,0⟩).2 with | none=>none | some (l,r)=>if r.rest=[]then some l else none:=rfl
 have hn0:=aly ⟨b,0⟩
 obtain⟨H,hH⟩:∃ H,qo ⟨b,0⟩=H:=⟨_,rfl⟩
 rw[hH]at hge rd2 hn0
 rw[hH]
 have s2:qd [0,31,q] ro tag I tag1 I2:=((st1 []).s (by simp)).trans (st2.s (by simp))
 by_cases c:16<H.1
 .rw[if_pos (by omega)]
  exact hno (by rw[hge,if_pos (.inr c)]) tag1 I2 s2
 rw[if_neg (by omega)]
 suffices∀m i out (l:List MOp) (x:Rd) tag4 I4,i+m=H.1->l.length=i->(H.2.err=0->x.err=0/\(jj m x=none->jj H.1 H.2=none)/\∀ l' r',jj m x=some (l',r')->jj H.1 H.2=some (l++l',r'))->(H.2.err≠0->x.err≠0)->
   qd [0,31,q] ro tag I tag4 I4->wW tag4 I4 q out l->yx tag4 I4 31 A x->lfpD (xW B ro (some ⟨A,0,none⟩) (H.1:Int) Q) (out,(i:Int)) I4 from
  this H.1 0 ⟨none,0,0⟩ [] H.2 tag1 I2 (Nat.zero_add _) rfl (fun e=>⟨e,id,fun l' r' h=>h⟩) id s2 ⟨[],rfl,wj.nil _ _ _,fun i o d h=>by cases h⟩ rd2
 intro m
 induction m with
 | zero=>
  intro i out l x tag4 I4 hi hli hgood hbad st4 o4 rd4
  refine lfpD.intro ?_
  unfold xW
  simp only
  rw[if_neg (by omega)]
  unfold aab
  refine afn rd4 st4.sep ?_
  by_cases he:H.2.err=0
  .obtain⟨e0,_,g2⟩:=hgood he
   have hL:=g2 [] x rfl
   rw[List.append_nil]at hL
   rw[if_neg (by simpa using e0)]
   refine ahn rd4 st4.sep ?_
   have hge2:jE b=if x.rest=[]then some l else none:=by
    rw[hge,if_neg (by rintro(h | h);exact h he;exact c h),hL]
   unfold jY
   by_cases hr:x.rest=[]
   .rw[hr]
    rw[if_neg (by simp)]
    exact hyes l (by rw[hge2,if_pos hr]) out tag4 I4 st4 o4
   .have:=List.length_pos_iff.2 hr
    rw[show decide ((0:Int)<(x.rest.length:Nat))=true by simp;omega,if_pos rfl]
    exact hno (by rw[hge2,if_neg hr]) tag4 I4 st4
  .rw[if_pos (hbad he)]
   unfold jY
   rw[if_pos rfl]
   exact hno (by rw[hge,if_pos (.inl he)]) tag4 I4 st4
 | succ m ih=>
  intro i out l x tag4 I4 hi hli hgood hbad st4 o4 rd4
  have he:H.2.err=0:=Classical.byContradiction fun hc=>by have:=hn0 hc;omega
  obtain⟨e0,g1,g2⟩:=hgood he
  have hgl:jj (m+1) x=if jJ (rop x)then none else match jj m (rop x).2 with | none=>none | some (l,r')=>some ((rop x).1.1::l,r'):=rfl
  have hnone:jj (m+1) x=none->jE b=none:=fun hn=>by
   rw[hge,if_neg (by rintro(h | h);exact h he;exact c h),g1 hn]
  refine lfpD.intro ?_
  unfold xW
  simp only
  rw[if_pos (by omega)]
  refine zU rd4 (by decide) st4.sep fun I5 st5 rd5=>?_
  refine adG rd5 (by decide) st5.sep fun tag6 I6 st6 rd6=>?_
  refine adF rd6 (by decide) st6.sep fun dsl tag7 I7 st7 k7 rd7=>?_
  refine zU rd7 (by decide) st7.sep fun I8 st8 rd8=>?_
  have k8:=k7.keep st8 (by decide)
  have ev:i64.wrap (((qo (qO (qO (qo x).2).2).2).1:Nat) - 1:Int)=((qo (qO (qO (qo x).2).2).2).1:Int) - 1:=by
   have:=ahr (qO (qO (qo x).2).2).2
   rw[SL.qW (by omega) (by omega)]
  rw[ev]
  refine pN (tag:=tag7) 0 st8.sep rfl (by simp[qg,Sl.v]) fun X tag9 I9 st9 r9=>?_
  refine zU (rd8.keep (st9 [])) (by decide) (st9 []).sep fun Ia sta rda=>?_
  refine(r9.keep sta (by decide)).st (i:=4) sta.sep rfl (by simp) rfl fun Ib stb rb=>?_
  refine rb.st (i:=5) stb.sep rfl (by simp) rfl fun Ic stc rc=>?_
  have rdc:=(rda.keep stb (by decide) (by decide)).keep stc (by decide) (by decide)
  have kc:=(((k8.keep (st9 [])).keep sta (by decide)).keep stb (by decide)).keep stc (by decide)
  have s4c:qd [0,31] ro tag4 I4 tag9 Ic:=(st5.s (by decide)).trans ((st6.s (by decide)).trans ((st7.s (by decide)).trans ((st8.s (by decide)).trans (((st9 []).s (by simp)).trans ((sta.s (by decide)).trans ((stb.s (by decide)).trans (stc.s (by decide))))))))
  have oc:=o4.keepS s4c (by rw[hqm];simp;omega) (by decide)
  have hsc:=s4c.sep
  have stC:qd [0,31,q] ro tag I tag9 Ic:=st4.trans (s4c.mono (by simp))
  have hX:rop x=(((rop x).1.1,(rop x).1.2),(rop x).2):=rfl
  have rc:Row tag9 Ic 0 72 ⟨some ⟨X,0,none⟩,6,6⟩ [.int .i64 (rop x).1.1.kind,Pa.vS (rop x).1.1.path,Sl.v dsl,.int .i64 (rop x).1.1.ver,.bool (!(decide (ke .i64 ((rop x).1.2:Int) 1=0))),.bool (!(decide (ke .i64 ((rop x).1.2:Int) 2=0)))]:=rc
  have rdc:yx tag9 Ic 31 A (rop x).2:=rdc
  have kc:Row tag9 Ic 6 5 dsl ((rop x).1.1.data.map vU):=kc
  have hfe:(((qo (qo (qO (qO (qo x).2).2).2).2).1:Nat):Int)=((rop x).1.2:Int):=rfl
  have heph:(rop x).1.1.eph=decide ((rop x).1.2%2=1):=rfl
  have hseq:(rop x).1.1.seq=decide (1<(rop x).1.2):=rfl
  rw[hfe]
  obtain⟨Y,hY⟩:∃ Y,rop x=Y:=⟨_,rfl⟩
  rw[hY]at hgl rc rdc kc heph hseq
  rw[hY]
  obtain⟨p,hp,hg⟩:=rc.ptr hsc (by simp)
  cases hp
  have bad:jJ Y->Q ⟨none,0,0⟩ 13 Ic:=fun hb=>hno (hnone (by rw[hgl,if_pos hb])) tag9 Ic stC
  have b21:jJ Y->kX B ro out X (some ⟨A,0,none⟩) (H.1:Int) (i:Int) (Y.1.2:Int) Q (lfpD (xW B ro (some ⟨A,0,none⟩) (H.1:Int) Q)) true Ic:=fun hb=>by
   unfold kX;rw[if_pos (.inl rfl)];exact bad hb
  have b19:jJ Y->kY B ro out X (some ⟨A,0,none⟩) (H.1:Int) (i:Int) (Y.1.2:Int) Q (lfpD (xW B ro (some ⟨A,0,none⟩) (H.1:Int) Q)) true Ic:=fun hb=>by
   unfold kY;rw[if_pos rfl];exact b21 hb
  refine afn rdc hsc ?_
  by_cases c1:Y.2.err≠0
  .rw[if_pos c1]
   exact b19 (.inl c1)
  rw[if_neg c1]
  refine⟨_,by have:=hg 0 _ rfl;rwa [Nat.zero_mul,yk]at this,?_⟩
  by_cases c2:Y.1.1.kind<1
  .rw[show decide (Y.1.1.kind<1)=true by simpa using c2]
   exact b19 (.inr (.inl c2))
  rw[show decide (Y.1.1.kind<1)=false by simpa using c2]
  unfold kY
  rw[if_neg (by simp)]
  refine⟨_,by have:=hg 0 _ rfl;rwa [Nat.zero_mul,yk]at this,?_⟩
  by_cases c3:4<Y.1.1.kind
  .rw[show decide (4<Y.1.1.kind)=true by simpa using c3]
   exact b21 (.inr (.inr (.inl c3)))
  rw[show decide (4<Y.1.1.kind)=false by simpa using c3]
  unfold kX
  by_cases c4:3<Y.1.2
  .rw[if_pos (.inr (by omega))]
   exact bad (.inr (.inr (.inr c4)))
  rw[if_neg (by rintro(h | h);cases h;omega)]
  have hnb:¬ jJ Y:=by
   unfold jJ
   rintro(h | h | h | h)
   .exact c1 h
   .exact c2 h
   .exact c3 h
   .exact c4 h
  rw[if_neg hnb]at hgl
  rw[alZ (by omega),<-heph,al0 (by omega),<-hseq]at rc
  have rc:Row tag9 Ic 0 72 ⟨some ⟨X,0,none⟩,6,6⟩ (opV Y.1.1 dsl):=rc
  refine⟨_,_,_,_,_,_,Row.cellsAt rc hsc,?_⟩
  refine ql (tag:=tag9) 0 hsc fun y tagd Id std rd=>?_
  obtain⟨dd,d1,d2,d3⟩:=oc.keepS ((std []).s (C:=[]) (by simp)) (by simp) (by simp)
  have hlz:(List.zipWith opV l dd).length=i:=by rw[List.length_zipWith,d1,Nat.min_self,hli]
  refine aaK (l2:=[opV Y.1.1 dsl]) d2 (std []).sep (Row.readW1 rd (std []).sep rfl (by decide)) (t:=54) (by kernel_rfl) je rfl (by simp[opV,qg,Sl.v]) (by rw[hlz];simp;omega) (by decide) fun sn tage Ie ste re=>?_
  have ste:=ste [q] (.inr (by simp))
  refine⟨sn,rfl,?_⟩
  rw[Pa.inc i (by omega)]
  have h6q:(6:Nat)∉[q]:=by simp;omega
  refine ih (i+1) sn (l++[Y.1.1]) Y.2 tage Ie (by omega) (by simp[hli]) (fun _=>⟨Classical.not_not.1 c1,fun hn=>g1 (by rw[hgl,hn]),fun l' r' hs'=>?_⟩) (fun hc=>absurd he hc) (stC.trans (((std []).s (by simp)).trans (ste.s (by simp[hqm])))) ?_ ((rdc.keep (std [])).keep ste (by simp;omega) h6q)
  .rw[List.append_assoc]
   exact g2 (Y.1.1::l') r' (by rw[hgl,hs'])
  .exact wW.push (s:=out) d1 (fun i o d ho hd=>(d3 i o d ho hd).keep ste h6q) re ((kc.keep (std [])).keep ste h6q).held
theorem adM:∀ (n:Nat) (r:Rd),(vo n r).1.length=n
 | 0,r=>rfl
 | n+1,r=>by unfold vo;simp[adM n]
theorem aif{A q:Nat}{x:Rd}{Q:Sl->AH->Prop}(hq:q<64)(hq0:q≠0)(hq29:q≠29)(hq6:q≠6)(h:yx tag I 29 A x)
  (hQ:∀ s tag' I',qd [0,29,q] ro tag I tag' I'->Row tag' I' q 3 s ((vo (min (qo x).1 8) (qo x).2).1.map vI)->yx tag' I' 29 A (vo (min (qo x).1 8) (qo x).2).2->Q s I'):uP B ro (some ⟨A,0,none⟩) I Q:=by
 refine aev fun hs=>?_
 unfold aag
 have hqm:q%64=q:=Nat.mod_eq_of_lt hq
 refine zU h (by decide) hs fun I1 st1 rd1=>?_
 obtain⟨N,hN⟩:∃ N,(qo x).1=N:=⟨_,rfl⟩
 obtain⟨y,hy⟩:∃ y,(qo x).2=y:=⟨_,rfl⟩
 rw[hN,hy]at hQ
 rw[hy]at rd1
 rw[hN]
 have mn:=alw (n:=N) (m:=8)
 rw[show((8:Nat):Int)=8 from rfl]at mn
 suffices∀k j (s:Sl) (l:List Int) (z:Rd) tag2 I2,j+k=min N 8->l.length=j->(l++(vo k z).1,(vo k z).2)=vo (min N 8) y->qd [0,29,q] ro tag I tag2 I2->Row tag2 I2 q 3 s (l.map vI)->yx tag2 I2 29 A z->lfpD (xX B ro (some ⟨A,0,none⟩) (N:Nat) Q) (s,(j:Int)) I2 from
  this _ 0 nS [] y tag I1 (Nat.zero_add _) rfl (by simp) (st1.s (by simp)) (Row.nil _ _) rd1
 intro k
 induction k with
 | zero=>
  intro j s l z tag2 I2 hj hl hg st2 r2 rd2
  refine lfpD.intro ?_
  unfold xX
  simp only
  rw[if_neg (by rw[mn];omega)]
  unfold yy
  have h1:l=(vo (min N 8) y).1:=by rw[<-hg];simp[vo]
  have h2:z=(vo (min N 8) y).2:=by rw[<-hg];simp[vo]
  rw[h1]at r2;rw[h2]at rd2
  exact hQ s tag2 I2 st2 r2 rd2
 | succ k ih=>
  intro j s l z tag2 I2 hj hl hg st2 r2 rd2
  refine lfpD.intro ?_
  unfold xX
  simp only
  rw[if_pos (by rw[mn];omega)]
  refine zU rd2 (by decide) st2.sep fun I3 st3 rd3=>?_
  have r3:=r2.keep st3 (by simp;omega)
  refine ql (tag:=tag2) 0 st3.sep fun w tag4 I4 st4 w4=>?_
  refine ud (r3.keep (st4 [])) (st4 []).sep aeX aid rfl (by simp[qg]) ((w4.read (st4 []).sep).2.2 _ rfl 0 (.int .i64 ((qo z).1:Nat)) rfl) rfl (by rw[List.length_map,hl];omega) (by decide) fun s' tag5 I5 st5 r5=>?_
  refine⟨s',rfl,?_⟩
  rw[Pa.inc j (by omega)]
  have k5:qd [0,29,q] ro tag2 I2 tag5 I5:=(st3.s (by simp)).trans (((st4 []).s (by simp)).trans (st5.s (by simp[hqm])))
  refine ih (j+1) s' (l++[((qo z).1:Int)]) (qo z).2 tag5 I5 (by omega) (by simp[hl]) ?_ (st2.trans k5) (by rw[List.map_append];exact r5) ?_
  .rw[<-hg]
   simp[vo]
  .exact(yx.keep rd3 (st4 [])).keep st5 (by simp;omega) (by simp;omega)
theorem akT{a0:Sl}{b:Str}{q:Nat}{Q:Sl->Int->AH->Prop}(hq:q<64)(hq0:q≠0)(hq6:q≠6)(hq31:q≠31)(h:SL.qy ro I a0 (b.map vU))(hl:b.length<=140737488355328)
  (hQ:∀ s tag' I',qd [0,31,q] ro tag I tag' I'->wW tag' I' q s ((jE b).getD [])->Q s (if(jE b).isSome then 0 else 13) I'):aaJ B ro a0 I Q:=
 mget_ok (tag:=tag) hq hq0 hq6 hq31 h hl (fun hn tag' I' st=>by have:=hQ nS tag' I' st;rw[hn]at this;exact this ⟨[],rfl,wj.nil _ _ _,fun i o d h=>by cases h⟩) fun l hl' s tag' I' st o=>by have:=hQ s tag' I' st;rw[hl']at this;exact this o
abbrev CGc(q m:Nat):List Nat:=[0,2,3,29,31,q,m]
theorem aig{a0:Sl}{b:Str}{q m:Nat}{Q:Int->ByteArray->Int->Int->Int->Int->Int->Int->Sl->ByteArray->Bool->Int->Sl->Int->AH->Prop}(hq:q<64/\q∉[0,2,3,6,29,31])(hm:m<64/\m∉[0,2,3,6,29,31])(hqm:q≠m)(h:SL.qy ro I a0 (b.map vU))(hl:b.length<=140737488355328)
  (hno:wJ b=none->∀ tag' I',qd (CGc q m) ro tag I tag' I'->Q 0 ByteArray.empty 0 0 0 0 0 0 nS ByteArray.empty false 0 nS 13 I')
  (hyes:∀ c,wJ b=some c->∀ os ms tag' I',qd (CGc q m) ro tag I tag' I'->wW tag' I' q os c.ops->Row tag' I' m 3 ms (c.members.map vI)->Q c.kind (S c.home) c.session c.req c.nonce c.lease c.beats c.ack os (S c.path) c.watch c.epoch ms 0 I'):kG B ro a0 I Q:=by
 refine aet fun hs=>?_
 unfold aae
 obtain⟨hq,hq'⟩:=hq
 obtain⟨hm,hm'⟩:=hm
 simp only[List.mem_cons,List.not_mem_nil,or_false,not_or]at hq' hm'
 have qm:q%64=q:=Nat.mod_eq_of_lt hq
 have mm:m%64=m:=Nat.mod_eq_of_lt hm
 have hal:a0.len=b.length:=by rw[h.1,List.length_map]
 obtain⟨A1,e1⟩:∃ A,qo ⟨b,0⟩=A:=⟨_,rfl⟩
 obtain⟨A2,e2⟩:∃ A,qO A1.2=A:=⟨_,rfl⟩
 obtain⟨A3,e3⟩:∃ A,qo A2.2=A:=⟨_,rfl⟩
 obtain⟨A4,e4⟩:∃ A,qo A3.2=A:=⟨_,rfl⟩
 obtain⟨A5,e5⟩:∃ A,qo A4.2=A:=⟨_,rfl⟩
 obtain⟨A6,e6⟩:∃ A,qo A5.2=A:=⟨_,rfl⟩
 obtain⟨A7,e7⟩:∃ A,qo A6.2=A:=⟨_,rfl⟩
 obtain⟨A8,e8⟩:∃ A,qo A7.2=A:=⟨_,rfl⟩
 obtain⟨A9,e9⟩:∃ A,qO A8.2=A:=⟨_,rfl⟩
 obtain⟨B0,f0⟩:∃ A,qO A9.2=A:=⟨_,rfl⟩
 obtain⟨B1,f1⟩:∃ A,qo B0.2=A:=⟨_,rfl⟩
 obtain⟨B2,f2⟩:∃ A,qo B1.2=A:=⟨_,rfl⟩
 obtain⟨B3,f3⟩:∃ A,qo B2.2=A:=⟨_,rfl⟩
 obtain⟨B4,f4⟩:∃ A,vo (min B3.1 8) B3.2=A:=⟨_,rfl⟩
 have hR:wi b=⟨⟨A1.1,A2.1,A3.1,A4.1,A5.1,A6.1,A7.1,A8.1,[],B0.1,decide (B1.1=1),B2.1,B4.1⟩,A9.1,B1.1,B3.1,B4.2⟩:=by
  unfold wi
  simp only[e1,e2,e3,e4,e5,e6,e7,e8,e9,f0,f1,f2,f3,f4]
 refine ql (tag:=tag) 2 hs fun Y tag1 I1 st1 y1=>?_
 refine adE (tag:=tag1) (r:=29) (h.step (st1 [])) (st1 []).sep hl fun A tag2 I2 st2 rd2=>?_
 refine zU rd2 (by decide) (st2 []).sep fun I3 st3 rd3=>?_
 rw[e1]at rd3⊢
 refine adG rd3 (by decide) st3.sep fun tag4 I4 st4 rd4=>?_
 rw[e2]at rd4⊢
 refine zU rd4 (by decide) st4.sep fun I5 st5 rd5=>?_
 rw[e3]at rd5⊢
 refine zU rd5 (by decide) st5.sep fun I6 st6 rd6=>?_
 rw[e4]at rd6⊢
 refine zU rd6 (by decide) st6.sep fun I7 st7 rd7=>?_
 rw[e5]at rd7⊢
 refine zU rd7 (by decide) st7.sep fun I8 st8 rd8=>?_
 rw[e6]at rd8⊢
 refine zU rd8 (by decide) st8.sep fun I9 st9 rd9=>?_
 rw[e7]at rd9⊢
 refine zU rd9 (by decide) st9.sep fun Ia sta rda=>?_
 rw[e8]at rda⊢
 have k2a:qd [29] ro tag2 I2 tag4 Ia:=(st3.s (by simp)).trans ((st4.s (by simp)).trans ((st5.s (by simp)).trans ((st6.s (by simp)).trans ((st7.s (by simp)).trans ((st8.s (by simp)).trans ((st9.s (by simp)).trans (sta.s (by simp))))))))
 have ya:=(y1.keep (st2 [])).keepS k2a
 refine pN (tag:=tag4) 3 sta.sep rfl (by simp[qg,Sl.v]) fun X tagb Ib stb xb=>?_
 refine adF (rda.keep (stb [])) (by decide) (stb []).sep fun s9 tagc Ic stc rc rdc=>?_
 rw[e9]at rc rdc
 have s_c:qd (CGc q m) ro tag I tagc Ic:=((st1 []).s (by simp)).trans (((st2 []).s (by simp)).trans ((k2a.mono (by simp)).trans (((stb []).s (by simp)).trans (stc.s (by simp)))))
 have yc:=(ya.keep (stb [])).keep stc
 have xc:=xb.keep stc
 have lA9:A9.1.length<=140737488355328:=by
  have z1:=zG ⟨b,0⟩
  have z2:=abi A1.2
  have z3:=zG A2.2
  have z4:=zG A3.2
  have z5:=zG A4.2
  have z6:=zG A5.2
  have z7:=zG A6.2
  have z8:=zG A7.2
  have z9:=abi A8.2
  rw[e1]at z1;rw[e2]at z2;rw[e3]at z3;rw[e4]at z4;rw[e5]at z5;rw[e6]at z6;rw[e7]at z7;rw[e8]at z8;rw[e9]at z9
  simp only at z1
  omega
 refine akT (tag:=tagc) (q:=q) hq (by omega) (by omega) (by omega) (rc.read stc.sep) lA9 fun os tagd Id std od=>?_
 obtain⟨G,hG⟩:∃ G,jE A9.1=G:=⟨_,rfl⟩
 rw[hG]at od⊢
 have yd:=yc.keepS std (by simp;omega)
 have xd:=xc.keepS std (by simp;omega)
 have rdd:yx tagd Id 29 A A9.2:=by
  obtain⟨R,h1,h2⟩:=std
  exact rdc.keep h2 (fun hh=>by have:=h1 _ hh;simp at this;omega) (fun hh=>by have:=h1 _ hh;simp at this;omega)
 refine adG rdd (by decide) std.sep fun tage Ie ste rde=>?_
 rw[f0]at rde⊢
 have ye:=yd.keep ste
 have xe:=xd.keep ste
 refine xe.stAt [Sl.v os] 8 ste.sep (by simp) (by simp[qg,Sl.v]) fun If stf xf=>?_
 refine xf.stAt [.string (S B0.1)] 9 stf.sep (by simp) (by simp[qg]) fun Ig stg xg=>?_
 have kg:qd [3] ro tage Ie tage Ig:=(stf.s (by simp)).trans (stg.s (by simp))
 have rdg:=(rde.keep stf).keep stg
 refine zU rdg (by decide) stg.sep fun Ih sth rdh=>?_
 rw[f1]at rdh⊢
 refine zU rdh (by decide) sth.sep fun Ii sti rdi=>?_
 rw[f2]at rdi⊢
 have ki:qd [3,29] ro tage Ie tage Ii:=(kg.mono (by simp)).trans ((sth.s (by simp)).trans (sti.s (by simp)))
 have yi:=ye.keepS ki
 have xi:=(xg.keep sth).keep sti
 refine aif (tag:=tage) (q:=m) hm (by omega) (by omega) (by omega) rdi fun ms tagj Ij stj mj rdj=>?_
 rw[f3,f4]at mj rdj
 have yj:=yi.keepS stj (by simp;omega)
 have xj:=xi.keepS stj (by simp;omega)
 refine xj.stAt [.bool (decide (((B1.1:Nat):Int)=1))] 10 stj.sep (by simp) (by simp[qg]) fun Ik stk xk=>?_
 refine xk.stAt [.int .i64 (B2.1:Nat)] 11 stk.sep (by simp) (by simp[qg]) fun Il stl xl=>?_
 refine xl.stAt [Sl.v ms] 12 stl.sep (by simp) (by simp[qg,Sl.v]) fun Im stm xm=>?_
 have km:qd [3] ro tagj Ij tagj Im:=(stk.s (by simp)).trans ((stl.s (by simp)).trans (stm.s (by simp)))
 have ym:=yj.keepS km
 have mem:=mj.keepS km (by rw[mm];simp;omega)
 have rdm:=((rdj.keep stk).keep stl).keep stm
 have xm:Row tagj Im 3 _ ⟨some ⟨X,0,none⟩,13,13⟩ [vI A1.1,Pa.vS A2.1,vI A3.1,vI A4.1,vI A5.1,vI A6.1,vI A7.1,vI A8.1,Sl.v os,Pa.vS B0.1,.bool (decide (((B1.1:Nat):Int)=1)),vI B2.1,Sl.v ms]:=xm
 have kdm:qd [0,3,29,m] ro tagd Id tagj Im:=(ste.s (by simp)).trans ((ki.mono (by simp)).trans ((stj.mono (by simp)).trans (km.mono (by simp))))
 have sm:qd (CGc q m) ro tag I tagj Im:=s_c.trans ((std.mono (by simp)).trans (kdm.mono (by simp)))
 have ops:=od.keepS kdm (by rw[qm];simp;omega) (by simp;omega)
 have hsm:=stm.sep
 have hgc:wJ b=if B4.2.err≠0\/0<B4.2.rest.length\/1<B1.1\/7<B3.1\/32768<b.length then none else match G with | none=>none | some l=>some ⟨A1.1,A2.1,A3.1,A4.1,A5.1,A6.1,A7.1,A8.1,l,B0.1,decide (B1.1=1),B2.1,B4.1⟩:=by
  unfold wJ;rw[hR];simp only;rw[hG];try (cases G<;>rfl)
 have lms:ms.len=min B3.1 8:=by
  have:=mem.len
  rw[List.length_map]at this
  have g4:=adM (min B3.1 8) B3.2
  rw[f4]at g4
  omega
 have no:wJ b=none->∀ fl:Bool,(fl=true\/32768<b.length)->zh B ro a0 Y X Q fl Im:=fun hn fl hf=>by
  unfold zh
  rw[if_pos (by rcases hf with hf | hf;· exact .inl hf
                .exact .inr (by omega))]
  refine ym.stAll hsm rfl (by simp[qg,Sl.v]) fun In stn yn=>?_
  exact⟨_,_,_,_,_,_,_,_,_,_,_,_,_,wX (yn.read stn.sep) rfl,hno hn tagj In (sm.trans (stn.s (by simp)))⟩
 have yes:∀ c,wJ b=some c->zh B ro a0 Y X Q false Im:=fun c hc=>by
  have hc':=hc
  rw[hgc]at hc'
  split at hc'
  .cases hc'
  rename_i hC
  cases G with
  | none=>cases hc'
  | some l=>
   simp only[Option.some.injEq]at hc'
   subst hc'
   unfold zh
   rw[if_neg (by rintro(h | h);· cases h
                 .exact hC (.inr (.inr (.inr (.inr (by omega))))))]
   refine⟨_,_,_,_,_,_,_,_,_,_,_,_,_,wX (xm.read hsm) rfl,?_⟩
   refine ym.stAll hsm rfl (by simp[qg,Sl.v]) fun In stn yn=>?_
   have kn:qd [2] ro tagj Im tagj In:=stn.s (by simp)
   have hb1:decide (((B1.1:Nat):Int)=1)=decide (B1.1=1):=by rw[decide_eq_decide];omega
   have:=hyes _ hc os ms tagj In (sm.trans (kn.mono (by simp))) (ops.keepS kn (by rw[qm];simp;omega) (by decide)) (mem.keepS kn (by rw[mm];simp;omega))
   simp only at this
   rw[<-hb1]at this
   exact⟨_,_,_,_,_,_,_,_,_,_,_,_,_,wX (yn.read stn.sep) rfl,this⟩
 have j20:∀ fl:Bool,(fl=true->wJ b=none)->(fl=false->B4.2.err=0/\B4.2.rest.length=0)->vF B ro a0 Y X (if G.isSome=true then 0 else 13) (B1.1:Nat) Q fl Im:=fun fl h1 h2=>by
  unfold vF
  by_cases c:(fl=true\/¬ ((if G.isSome=true then(0:Int)else 13)=0))\/(1:Int)<((B1.1:Nat):Int)
  .rw[if_pos c]
   refine no ?_ true (.inl rfl)
   rcases c with(c | c) | c
   .exact h1 c
   .cases G with
    | none=>rw[hgc];split<;>rfl
    | some l=>exact absurd rfl c
   .rw[hgc,if_pos (.inr (.inr (.inl (by omega))))]
  .rw[if_neg c]
   refine⟨ms,(xm.read hsm).2.2 _ rfl 12 _ rfl,?_⟩
   rw[not_or,not_or,Classical.not_not]at c
   obtain⟨⟨c1,c2⟩,c3⟩:=c
   obtain⟨z1,z2⟩:=h2 (by simpa using c1)
   by_cases c7:7<B3.1
   .refine no ?_ _ (.inl (by simp;omega))
    rw[hgc,if_pos (.inr (.inr (.inr (.inl c7))))]
   .rw[show decide ((7:Int)<(ms.len:Int))=false by simp;omega]
    cases hq2:wJ b with
    | none=>
     rw[hgc]at hq2
     split at hq2
     .rename_i hC
      refine no (by rw[hgc,if_pos hC]) false (.inr ?_)
      rcases hC with h | h | h | h | h
      .exact absurd z1 h
      .omega
      .omega
      .omega
      .exact h
     .cases G with
      | none=>exact absurd c2 (by decide)
      | some l=>cases hq2
    | some c=>exact yes c hq2
 refine afn rdm hsm ?_
 by_cases ce:B4.2.err=0
 .rw[if_neg (by simpa using ce)]
  refine ahn rdm hsm ?_
  refine j20 _ (fun h=>?_) fun h=>⟨ce,by have:=of_decide_eq_false h;omega⟩
  rw[hgc,if_pos (.inr (.inl (by have:=of_decide_eq_true h;omega)))]
 .rw[if_pos (by simpa using ce)]
  exact j20 true (fun _=>by rw[hgc,if_pos (.inl ce)]) fun h=>by cases h
theorem aai.all{s:Sl}{ops:List MOp}(h:aai ro tag I s ops)(hs:SL.Sep ro I)(tag1:Nat->Nat)(τ:AH):aai (join ro I) tag1 τ s ops:=
 ⟨h.1,fun j o ho=>by
  obtain⟨q,d,h1,h2,h3⟩:=h.2 j o ho
  refine⟨q,d,h1,wr 0 fun i v hv=>?_,.inl ((h3.read hs).all hs)⟩
  rw[Nat.zero_add]
  exact afJ hs (abJ h2 hv)⟩
end Zt
namespace SL
open Go
variable{P:Program}{B:World}{ro I:AH}
theorem aeA{f:FuncId}{args:Array Value}{Q:Value->AH->Prop}(h:qb P B (join ro I) f args (fun _=>none) fun v τ=>Sep (join ro I) τ->qz I τ->Q v (join I τ)):qb P B ro f args I Q:=by
 have h':=qb.monoS h (Q':=fun v τ=>Sep (join ro I) τ/\(Sep (join ro I) τ->qz I τ->Q v (join I τ))) fun v τ hs q=>⟨hs,q⟩
 have:=qb.lend h' (fun b o hb=>rfl)
 rw[pc]at this
 exact qb.mono this fun v I' ⟨τ,ht,hd,hs,q⟩=>by rw[ht];exact q hs hd
end SL
namespace Zt
open Go SL G Pa Wi
variable{B:World}{ro I I':AH}{tag tag':Nat->Nat}
theorem afP{os ms:Sl}{c:wh}{Q:Sl->Int->AH->Prop}(hO:aai ro tag I os c.ops)(hM:SL.qy ro I ms (c.members.map vI))(hsep:SL.Sep ro I)(hs:abN c)(hm:c.members.length<=1048576)
  (hQ:∀ s tag' I',(∀R,qf R ro tag I tag' I')->Row tag' I' 6 5 s (((qS c).getD []).map vU)->Q s (if(qS c).isSome then 0 else 170) I'):kz B ro c.kind (S c.home) c.session c.req c.nonce c.lease c.beats c.ack os (S c.path) c.watch c.epoch ms I Q:=by
 refine aeA ?_
 have base:kz B (join ro I) c.kind (S c.home) c.session c.req c.nonce c.lease c.beats c.ack os (S c.path) c.watch c.epoch ms (fun _=>none) fun r0 r1 τ=>SL.Sep (join ro I) τ->qz I τ->Q r0 r1 (join I τ):=by
  refine aie (tag:=T7) (fun tag' I' st=>⟨hO.all hsep tag' I',(hM.all hsep).hle (I:=fun _=>none) (fun b o h=>by cases h)⟩) hs hm (fun hn tag1 τ st hτ hd=>?_) fun b hb s tag1 τ st r hτ hd=>?_
  .have:=hQ nS (vV I tag tag1) (join I τ) (uD hsep hd hτ tag)
   rw[hn]at this
   exact this (Row.nil _ _)
  .have:=hQ s (vV I tag tag1) (join I τ) (uD hsep hd hτ tag)
   rw[hb]at this
   exact this (r.allB hd tag)
 exact qb.mono base fun v τ ⟨r0,r1,hv,q⟩ h1 h2=>⟨r0,r1,hv,q h1 h2⟩
theorem afQ{tag1:Nat->Nat}{τ:AH}{r w:Nat}{e:TypeId}{s:Sl}{l:List (List Value)}(h:wj tag1 τ r e w s l)(hd:qz I τ)(tag:Nat->Nat):wj (vV I tag tag1) (join I τ) r e w s l:=by
 rcases h with h | ⟨b,cs,ha,ht,hb,hx⟩
 .exact .inl h
 .have hn:I b=Option.none:=by
   cases e:I b with
   | none=>rfl
   | some o=>have:=hd b o e;rw[hb]at this;cases this
  exact .inr ⟨b,cs,ha,by simp[vV,hn,ht],by unfold join;rw[hn];exact hb,hx⟩
theorem vg.allB{tag1:Nat->Nat}{τ:AH}{r:Nat}{s:Sl}{l:List Value}(h:vg tag1 τ r s l)(hd:qz I τ)(tag:Nat->Nat):vg (vV I tag tag1) (join I τ) r s l:=by
 obtain⟨h1,h2 | ⟨p,o,h2,h3,h4,h5⟩⟩:=h
 .exact⟨h1,.inl h2⟩
 .have hn:I p.block=Option.none:=by
   cases e:I p.block with
   | none=>rfl
   | some o=>have:=hd _ o e;rw[h4]at this;cases this
  exact⟨h1,.inr ⟨p,o,h2,by simp[vV,hn,h3],by unfold join;rw[hn];exact h4,h5⟩⟩
theorem wW.allB{tag1:Nat->Nat}{τ:AH}{q:Nat}{s:Sl}{ops:List MOp}(h:wW tag1 τ q s ops)(hd:qz I τ)(tag:Nat->Nat):wW (vV I tag tag1) (join I τ) q s ops:=by
 obtain⟨ds,h1,h2,h3⟩:=h
 exact⟨ds,h1,afQ h2 hd tag,fun i o d ho hd'=>vg.allB (h3 i o d ho hd') hd tag⟩
structure adN(tag:Nat->Nat)(I:AH)(q m:Nat)(os ms:Sl)(c:wh):Prop where
 ops:wW tag I q os c.ops
 mem:Row tag I m 3 ms (c.members.map vI)
def wh.zero:wh:=⟨0,[],0,0,0,0,0,0,[],[],false,0,[]⟩
theorem afR{a0:Sl}{b:Str}{q m:Nat}{Q:Int->ByteArray->Int->Int->Int->Int->Int->Int->Sl->ByteArray->Bool->Int->Sl->Int->AH->Prop}(hq:q<64/\q∉[0,2,3,6,29,31])(hm:m<64/\m∉[0,2,3,6,29,31])(hqm:q≠m)(h:SL.qy ro I a0 (b.map vU))(hsep:SL.Sep ro I)(hl:b.length<=140737488355328)
  (hQ:∀ c os ms tag' I',c=(wJ b).getD wh.zero->(∀R,qf R ro tag I tag' I')->adN tag' I' q m os ms c->Q c.kind (S c.home) c.session c.req c.nonce c.lease c.beats c.ack os (S c.path) c.watch c.epoch ms (if(wJ b).isSome then 0 else 13) I'):kG B ro a0 I Q:=by
 refine aeA ?_
 have base:kG B (join ro I) a0 (fun _=>none) fun r0 r1 r2 r3 r4 r5 r6 r7 r8 r9 r10 r11 r12 e τ=>SL.Sep (join ro I) τ->qz I τ->Q r0 r1 r2 r3 r4 r5 r6 r7 r8 r9 r10 r11 r12 e (join I τ):=by
  refine aig (tag:=T7) hq hm hqm (h.all hsep) hl (fun hn tag1 τ st hτ hd=>?_) fun c hc os ms tag1 τ st o r hτ hd=>?_
  .have:=hQ wh.zero nS nS (vV I tag tag1) (join I τ)
   rw[hn]at this
   exact this rfl (uD hsep hd hτ tag) ⟨⟨[],rfl,wj.nil _ _ _,fun i o d h=>by cases h⟩,Row.nil _ _⟩
  .have:=hQ c os ms (vV I tag tag1) (join I τ)
   rw[hc]at this
   exact this rfl (uD hsep hd hτ tag) ⟨wW.allB o hd tag,r.allB hd tag⟩
 refine qb.mono base fun v τ hx h1 h2=>?_
 obtain⟨r0,r1,r2,r3,r4,r5,r6,r7,r8,r9,r10,r11,r12,e,hv,q'⟩:=hx
 exact⟨r0,r1,r2,r3,r4,r5,r6,r7,r8,r9,r10,r11,r12,e,hv,q' h1 h2⟩
end Zt
namespace SL
open Go
variable{P:Program}{B:World}{ro I I':AH}{tag tag':Nat->Nat}{L:List Nat}
theorem wj.outR{r w:Nat}{e:TypeId}{s:Sl}{l:List (List Value)}(h:wj tag I r e w s l)(hr:r∉L):wj tag (SL.vt tag L I) r e w s l:=by
 rcases h with h | ⟨c,cs,ha,ht,hs,hx⟩
 .exact .inl h
 .refine .inr ⟨c,cs,ha,ht,?_,hx⟩
  unfold SL.vt;rw[if_neg (by rw[ht];exact hr)];exact hs
theorem wj.backR{tag1:Nat->Nat}{τ:AH}{r w:Nat}{e:TypeId}{s:Sl}{l:List (List Value)}(h:wj tag1 τ r e w s l)(hd:qz (inR tag L I) τ):wj (tagB tag tag1 L I) (join (inR tag L I) τ) r e w s l:=by
 rcases h with h | ⟨c,cs,ha,ht,hs,hx⟩
 .exact .inl h
 .have hn:inR tag L I c=none:=by
   cases e:inR tag L I c with
   | none=>rfl
   | some o=>have:=hd c o e;rw[hs]at this;cases this
  exact .inr ⟨c,cs,ha,by rw[abA hn];exact ht,by unfold join;rw[hn];exact hs,hx⟩
theorem Row.againR{tag1:Nat->Nat}{τ:AH}{r:Nat}{e:TypeId}{s:Sl}{l:List Value}(h:Row tag I r e s l)(hr:r∈L):Row (tagB tag tag1 L I) (join (inR tag L I) τ) r e s l:=by
 rcases h with h | ⟨c,cs,ha,ht,hs,hx⟩
 .exact .inl h
 .have hn:inR tag L I c=some (.cells cs e):=by unfold inR;rw[if_pos (by rw[ht];exact hr)];exact hs
  exact .inr ⟨c,cs,ha,by rw[afe hn];exact ht,by unfold join;rw[hn],hx⟩
end SL
namespace Zt
open Go SL G Pa Wi
variable{B:World}{ro I I':AH}{tag tag':Nat->Nat}{L:List Nat}
abbrev jk(c:wh)(os ms:Sl):List Value:=[.int .i64 c.kind,.string (S c.home),.int .i64 c.session,.int .i64 c.req,.int .i64 c.nonce,.int .i64 c.lease,.int .i64 c.beats,.int .i64 c.ack,Sl.v os,.string (S c.path),.bool c.watch,.int .i64 c.epoch,Sl.v ms]
theorem Row.lendAll{r:Nat}{e:TypeId}{b n c:Nat}{l:List Value}{τ:AH}(h:Row tag I r e ⟨some ⟨b,0,none⟩,n,c⟩ l)(hs:SL.Sep ro I)(hr:r∈L):SL.qj (join ro (SL.inR tag L I)) τ ⟨b,0,none⟩ 0 l:=
 wr 0 fun i v hv=>by rw[Nat.zero_add];exact h.lendR hs hr rfl hv
end Zt
namespace Zt
open Go SL G Pa Wi
variable{B:World}{ro I I':AH}{tag tag':Nat->Nat}
theorem wW.outR{L:List Nat}{q:Nat}{s:Sl}{ops:List MOp}(h:wW tag I q s ops)(hq:q∉L)(h6:6∉L):wW tag (SL.vt tag L I) q s ops:=by
 obtain⟨ds,h1,h2,h3⟩:=h
 exact⟨ds,h1,wj.outR h2 hq,fun i o d ho hd=>vg.outR (h3 i o d ho hd) h6⟩