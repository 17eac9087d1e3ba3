import Derived.Test.YtomdigihapdhnaaGreatDoorXH
set_option linter.all false
set_option maxRecDepth 99999
set_option maxHeartbeats 0
open Go.IntKind(i64)
open Go.Proofs.Tryz
namespace Go.Proofs.YtomdigihapdhnaaGreatDoor
namespace G
open Go SL
variable{B:ZB}{ro I:AH}
def zO(B:ZB)(ro:AH)(a0:ZO)(a1:ZA)(Q:Int->ZC->AH->Prop)(u0:Int)(I:AH):=
 ∃p1,a0=some p1/\
 ∃u2,qa ro I p1=some (Sl.v u2)/\
 cutOk (some u0) none u2.len u2.cap/\
 awp prog ro (Builtin.copy_ #[24,9] 3 #[Sl.v (⟨wv u2.a (Int.toNat u0) u2.cap 1,u2.len - Int.toNat u0,u2.cap - Int.toNat u0⟩:Sl),.string a1]) (fun v I=> ∃(u3:Int),v= .int .i64 u3/\
 Q u3 .nilIface I) I
def pg(B:ZB)(ro:AH)(a0:ZO)(a1:ZA)(I:AH)(Q:Int->ZC->AH->Prop):=
 ∃p0,a0=some p0/\
 stN (p0.add 2) (fun I=>
 zT B ro a0 (a1.size:Int) I fun u1 u2 I=>
 if¬(u2=true)then
  uk B ro a0 (a1.size:Int) I fun u3 I=>
  zO B ro a0 a1 Q u3 I
 else
 zO B ro a0 a1 Q u1 I) [.int .i8 0] 0 I
def afm{a0 a1 Q}(h:Sep ro I->pg B ro a0 a1 I Q):yW B ro a0 a1 I Q:=by
 refine zb h func115 ntmps115 fun h=>?_;unfold pg at h;refine zN h fun p0 h=>?_;refine zf nc aor ?_;refine zsp aor h fun I h=>?_;refine zm (abZ rfl rfl mo rfl rfl) ?_;refine zc func176 h ?_;rintro v I ⟨u1,u2,rfl,h⟩;refine zw ?_;refine AW.seqJ (fun fr I=> ∃(u3:Int),qo [(0,.pointer a0),(1,.string a1),(6,.int .i64 u3)] fr/\zO B ro a0 a1 Q u3 I) ?_ ?_
 rotate_left
 .refine zw ?_;refine AW.iff rfl (qu Iff.rfl) h (fun h=>?_) (fun h=>?_)
  rotate_left
  .refine zw ?_;exact⟨_,FL,h⟩
  refine zw ?_;refine zm (abZ rfl rfl mo rfl rfl) ?_;refine zC func177 h fun u4 I h=>?_;exact⟨_,FL,h⟩
 rintro fr I ⟨u3,hl,h⟩;refine AW.weaken ?_ hl (HLe.refl _)
 unfold zO at h;refine zN h fun p5 h=>?_;refine zf nc wg ?_;refine zLp mn h fun u6 h=>?_;obtain⟨hc,h⟩:=h
 refine zm (aaW (lo:=(some u3)) (hi:=none) rfl mn ty5 rfl (ve rfl) vd hc) ?_;refine zw ?_;refine zl (vZ (s:=Builtin.copy_ #[24,9] 3 #[Sl.v (⟨wv u6.a (Int.toNat u3) u6.cap 1,u6.len - Int.toNat u3,u6.cap - Int.toNat u3⟩:Sl),.string a1]) rfl rfl (fun _=>rfl) (qk _ h ?_))
 rintro v I ⟨u7,rfl,h⟩;exact zrr h
def kx(B:ZB)(ro:AH)(a0:ZO)(a1:Sl)(Q:Int->ZC->AH->Prop)(u0:Int)(I:AH):=
 ∃p1,a0=some p1/\
 ∃u2,qa ro I p1=some (Sl.v u2)/\
 cutOk (some u0) none u2.len u2.cap/\
 awp prog ro (Builtin.copy_ #[24,24] 3 #[Sl.v (⟨wv u2.a (Int.toNat u0) u2.cap 1,u2.len - Int.toNat u0,u2.cap - Int.toNat u0⟩:Sl),Sl.v a1]) (fun v I=> ∃(u3:Int),v= .int .i64 u3/\
 Q u3 .nilIface I) I
def aa5(B:ZB)(ro:AH)(a0:ZO)(a1:Sl)(I:AH)(Q:Int->ZC->AH->Prop):=
 ∃p0,a0=some p0/\
 stN (p0.add 2) (fun I=>
 zT B ro a0 (a1.len:Int) I fun u1 u2 I=>
 if¬(u2=true)then
  uk B ro a0 (a1.len:Int) I fun u3 I=>
  kx B ro a0 a1 Q u3 I
 else
 kx B ro a0 a1 Q u1 I) [.int .i8 0] 0 I
def ahV{a0 a1 Q}(h:Sep ro I->aa5 B ro a0 a1 I Q):pu B ro a0 a1 I Q:=by
 refine zb h func116 ntmps116 fun h=>?_;unfold aa5 at h;refine zN h fun p0 h=>?_;refine zf nc aor ?_;refine zsp aor h fun I h=>?_;refine zm (qC rfl rfl mn rfl rfl) ?_;refine zc func176 h ?_;rintro v I ⟨u1,u2,rfl,h⟩;refine zw ?_;refine AW.seqJ (fun fr I=> ∃(u3:Int),qo [(0,.pointer a0),(1,Sl.v a1),(6,.int .i64 u3)] fr/\kx B ro a0 a1 Q u3 I) ?_ ?_
 rotate_left
 .refine zw ?_;refine AW.iff rfl (qu Iff.rfl) h (fun h=>?_) (fun h=>?_)
  rotate_left
  .refine zw ?_;exact⟨_,FL,h⟩
  refine zw ?_;refine zm (qC rfl rfl mn rfl rfl) ?_;refine zC func177 h fun u4 I h=>?_;exact⟨_,FL,h⟩
 rintro fr I ⟨u3,hl,h⟩;refine AW.weaken ?_ hl (HLe.refl _)
 unfold kx at h;refine zN h fun p5 h=>?_;refine zf nc wg ?_;refine zLp mn h fun u6 h=>?_;obtain⟨hc,h⟩:=h
 refine zm (aaW (lo:=(some u3)) (hi:=none) rfl mn ty5 rfl (ve rfl) vd hc) ?_;refine zw ?_;refine zl (vZ (s:=Builtin.copy_ #[24,24] 3 #[Sl.v (⟨wv u6.a (Int.toNat u3) u6.cap 1,u6.len - Int.toNat u3,u6.cap - Int.toNat u3⟩:Sl),Sl.v a1]) rfl rfl (fun _=>rfl) (qk _ h ?_))
 rintro v I ⟨u7,rfl,h⟩;exact zrr h
def aa6(B:ZB)(ro:AH)(a0:ZO)(I:AH)(Q:Sl->AH->Prop):=
 ∃p0,a0=some p0/\
 ∃p1,a0=some p1/\
 ∃u2,qa ro I p0=some (Sl.v u2)/\
 ∃u3,qa ro I (p1.add 1)=some (.int .i64 u3)/\
 cutOk (some u3) none u2.len u2.cap/\
 Q (⟨wv u2.a (Int.toNat u3) u2.cap 1,u2.len - Int.toNat u3,u2.cap - Int.toNat u3⟩:Sl) I
def ahW{a0 Q}(h:Sep ro I->aa6 B ro a0 I Q):aeh B ro a0 I Q:=by
 refine zb h func117 ntmps117 fun h=>?_;unfold aa6 at h;refine zw ?_;refine AW.seq ?_;refine AW.drawn0 (fun i=>([0,0,0,3,0,0,0,3,0,0]:List Nat).getD i 2) [] [0,1,2,4,5,6,3,7,8,9] mixed j3 ?_
 refine zM h fun p0 h=>?_;refine zg nc wg ?_;refine zM h fun p1 h=>?_;refine zg nc ty3 ?_;refine zR mn h fun u2 h=>?_;refine zR mf h fun u3 h=>?_;obtain⟨hc,h⟩:=h
 refine Dp rfl rfl rfl rfl (aaW (lo:=(some u3)) (hi:=none) rfl mn ty5 rfl (ve rfl) vd hc) ?_
 refine zw ?_;refine wG ?_
 exact zr h
def jl(B:ZB)(ro:AH)(a0:ZO)(a1:Int)(I:AH)(Q:Int->Bool->AH->Prop):=
 ∃p0,a0=some p0/\
 ∃u1,qa ro I p0=some (Sl.v u1)/\
 ∃p2,a0=some p2/\
 ∃u3,qa ro I p2=some (Sl.v u3)/\
 awp prog ro (Builtin.cap_ #[24] 3 #[Sl.v u3]) (fun v I=> ∃(u4:Int),v= .int .i64 u4/\
 if a1<=(i64.wrap (u4 - (u1.len:Int)))then
  ∃p5,a0=some p5/\
  ∃u6,qa ro I p5=some (Sl.v u6)/\
  cutOk none (some (i64.wrap ((u1.len:Int)+a1))) u6.len u6.cap/\
  ∃p7,a0=some p7/\
  stN p7 (fun I=>
  Q (u1.len:Int) true I) [Sl.v (⟨wv u6.a (0) u6.cap 1,Int.toNat (i64.wrap ((u1.len:Int)+a1)) - 0,u6.cap - 0⟩:Sl)] 0 I
 else
 Q 0 false I) I
def adG{a0 a1 Q}(h:Sep ro I->jl B ro a0 a1 I Q):zT B ro a0 a1 I Q:=by
 refine zb h func176 ntmps176 fun h=>?_;unfold jl at h;refine zw ?_;refine AW.seq ?_;refine zN h fun p0 h=>?_;refine zf nc wg ?_;refine zL mn h fun u1 h=>?_;refine zm (qC rfl rfl mn rfl rfl) ?_;refine zN h fun p2 h=>?_;refine zf nc wg ?_;refine zL mn h fun u3 h=>?_;refine zl (vZ (s:=Builtin.cap_ #[24] 3 #[Sl.v u3]) rfl rfl (fun _=>rfl) (qk _ h ?_))
 rintro v I ⟨u4,rfl,h⟩;refine zi h (fun h=>?_) fun h=>?_
 rotate_left
 .exact zrr h
 refine zN h fun p5 h=>?_;refine zf nc wg ?_;refine zLp mn h fun u6 h=>?_;obtain⟨hc,h⟩:=h
 refine zm (aaW (lo:=none) (hi:=(some (i64.wrap ((u1.len:Int)+a1)))) rfl mn ty5 rfl vd (ve rfl) hc) ?_;refine zN h fun p7 h=>?_;refine zf nc wg ?_;refine zs wg h fun I h=>?_;exact zrr h
def xZ(B:ZB)(ro:AH)(a0:ZO)(a1 u0:Int)(Q:Int->AH->Prop)(I:AH):=
 ∃p1,a0=some p1/\
 stN (p1.add 1) (fun I=>
 ∃p2,a0=some p2/\
 ∃u3,qa ro I p2=some (Sl.v u3)/\
 cutOk none (some (i64.wrap (u0+a1))) u3.len u3.cap/\
 ∃p4,a0=some p4/\
 stN p4 (fun I=>
  Q u0 I) [Sl.v (⟨wv u3.a (0) u3.cap 1,Int.toNat (i64.wrap (u0+a1)) - 0,u3.cap - 0⟩:Sl)] 0 I) [.int .i64 0] 0 I
def kY(B:ZB)(ro:AH)(a0:ZO)(a1 u0:Int)(Q:Int->AH->Prop)(I:AH):=
 zT B ro a0 a1 I fun u1 u2 I=>
 if u2=true then
 Q u1 I
 else
 ∃p3,a0=some p3/\
 ∃u4,qa ro I p3=some (Sl.v u4)/\
 if(u4.a=none)/\(a1<=64)then
 ((0:Int)<=a1/\a1<=64/\(64:Int)<=281474976710656/\1*(64:Int)<=281474976710656)/\
 nw ro I (.cells (aaV (.int .u8 0) (Int.toNat 64*1)) 5) fun u5 I=>
 ∃p6,a0=some p6/\
 stN p6 (fun I=>
  Q 0 I) [Sl.v (⟨some ⟨u5,0,none⟩,Int.toNat a1,Int.toNat 64⟩:Sl)] 0 I
 else
 ∃p7,a0=some p7/\
 ∃u8,qa ro I p7=some (Sl.v u8)/\
 awp prog ro (Builtin.cap_ #[24] 3 #[Sl.v u8]) (fun v I=> ∃(u9:Int),v= .int .i64 u9/\
 if a1<=(i64.wrap ((i64.wrap (Int.tdiv u9 2)) - u0))then
  ∃p10,a0=some p10/\
  ∃p11,a0=some p11/\
  ∃p12,a0=some p12/\
  ∃u13,qa ro I p10=some (Sl.v u13)/\
  ∃u14,qa ro I p11=some (Sl.v u14)/\
  ∃u15,qa ro I (p12.add 1)=some (.int .i64 u15)/\
  cutOk (some u15) none u14.len u14.cap/\
  awp prog ro (Builtin.copy_ #[24,24] 3 #[Sl.v u13,Sl.v (⟨wv u14.a (Int.toNat u15) u14.cap 1,u14.len - Int.toNat u15,u14.cap - Int.toNat u15⟩:Sl)]) (fun v I=> ∃(u16:Int),v= .int .i64 u16/\
  xZ B ro a0 a1 u0 Q I) I
 else
 if(i64.wrap ((i64.wrap (9223372036854775807 - u9)) - a1))<u9 then
  False
 else
 ∃p17,a0=some p17/\
 ∃p18,a0=some p18/\
 ∃p19,a0=some p19/\
 ∃u20,qa ro I p17=some (Sl.v u20)/\
 ∃u21,qa ro I (p18.add 1)=some (.int .i64 u21)/\
 cutOk (some u21) none u20.len u20.cap/\
 ∃u22,qa ro I (p19.add 1)=some (.int .i64 u22)/\
 afV B ro (⟨wv u20.a (Int.toNat u21) u20.cap 1,u20.len - Int.toNat u21,u20.cap - Int.toNat u21⟩:Sl) (i64.wrap (u22+a1)) I fun u23 I=>
 ∃p24,a0=some p24/\
 stN p24 (fun I=>
  xZ B ro a0 a1 u0 Q I) [Sl.v u23] 0 I) I
def ky(B:ZB)(ro:AH)(a0:ZO)(a1 u0:Int)(Q:Int->AH->Prop)(u1:Bool)(I:AH):=
 if u1=true then
 ait B ro a0 I fun I=>
 kY B ro a0 a1 u0 Q I
 else
 kY B ro a0 a1 u0 Q I
def abE(B:ZB)(ro:AH)(a0:ZO)(a1:Int)(I:AH)(Q:Int->AH->Prop):=
 afi B ro a0 I fun u0 I=>
 if u0=0 then
 ∃p1,a0=some p1/\
 ∃u2,qa ro I (p1.add 1)=some (.int .i64 u2)/\
 ky B ro a0 a1 u0 Q (!(decide (u2=0))) I
 else
 ky B ro a0 a1 u0 Q false I
def aiF{a0 a1 Q}(h:Sep ro I->abE B ro a0 a1 I Q):uk B ro a0 a1 I Q:=by
 refine zb h func177 ntmps177 fun h=>?_;unfold abE at h;refine zC func224 h fun u0 I h=>?_;refine AW.seqJ (fun fr I=>qo [(0,.pointer a0),(1,.int .i64 a1),(5,.int .i64 u0)] fr/\kY B ro a0 a1 u0 Q I) ?_ ?_
 rotate_left
 .refine zw ?_;refine qI 6 (decide (u0=0)) me h (fun fr I=> ∃(u1:Bool),qo [(0,.pointer a0),(1,.int .i64 a1),(5,.int .i64 u0),(19,.bool u1)] fr/\ky B ro a0 a1 u0 Q u1 I) ?_ ?_ ?_
  .intro h e2 hk2;refine zy e2 ?_;obtain⟨p2,hc,h⟩:=h
   refine qO (kW rfl (by rw[<-hc];try rfl)) rfl rfl rfl rfl e2 ?_
   refine qO (qW rfl nc rfl ty3 y1 rfl) rfl rfl rfl rfl e2 ?_
   obtain⟨u3,hc,h⟩:=h
   refine Lyb rfl rfl rfl rfl e2 (vc rfl mf rfl rfl hc ?_)
   refine zv e2 ?_;exact hk2 _ _ ⟨_,FL,h⟩
  .intro h e2 hk2;refine zv e2 ?_;exact hk2 _ _ ⟨_,FL,h⟩
  rintro fr I ⟨u1,hl,h⟩;unfold ky at h;refine Lfr hl ?_
  refine zj h (fun h=>?_) fun h=>?_
  rotate_left
  .refine zw ?_;exact⟨FL,h⟩
  refine zc func225 h ?_;rintro v I ⟨rfl,h⟩;refine zw ?_;exact⟨FL,h⟩
 rintro fr I ⟨hl,h⟩;refine AW.weaken ?_ hl (HLe.refl _)
 unfold kY at h;refine AW.seq ?_;refine zc func176 h ?_;rintro v I ⟨u4,u5,rfl,h⟩;refine zj h (fun h=>?_) fun h=>?_
 .exact zr h
 refine zw ?_;refine AW.seq ?_;refine zN h fun p6 h=>?_;refine zf nc wg ?_;refine zL mn h fun u7 h=>?_;refine zm (aon rfl mn rfl rfl) ?_;refine zw ?_;refine wY 3 u7.a.isNone [(0,.pointer a0),(1,.int .i64 a1),(5,.int .i64 u0),(38,.bool (u7.a.isNone && (decide (a1<=64))))] ?_ ?_ ?_
 .intro e5 hk5
  refine zv e5 ?_;exact hk5 _ (Fe e5)
 .intro e5 hk5
  refine zv e5 ?_;exact hk5 _ (Fe e5)
 intro fr hl
 refine Lfr hl ?_
 refine zw ?_;refine AW.iff rfl (ab2 zJ me) h (fun h=>?_) (fun h=>?_)
 .refine zw ?_;obtain⟨⟨h0,h1,h2,h3⟩,h⟩:=h
  refine zA (auN rfl mn ty5 rfl rfl h0 h1 h2 h3) h fun u8 h=>?_;refine zN h fun p9 h=>?_;refine zf nc wg ?_;refine zs wg h fun I h=>?_;exact zr h
 refine zN h fun p10 h=>?_;refine zf nc wg ?_;refine zL mn h fun u11 h=>?_;refine zl (vZ (s:=Builtin.cap_ #[24] 3 #[Sl.v u11]) rfl rfl (fun _=>rfl) (qk _ h ?_))
 rintro v I ⟨u12,rfl,h⟩;refine zw ?_;refine AW.seqJ (fun fr I=>qo [(0,.pointer a0),(1,.int .i64 a1),(5,.int .i64 u0)] fr/\xZ B ro a0 a1 u0 Q I) ?_ ?_
 .rintro fr I ⟨hl,h⟩;refine AW.weaken ?_ hl (HLe.refl _)
  unfold xZ at h;refine zN h fun p13 h=>?_;refine zf nc ty3 ?_;refine zs ty3 h fun I h=>?_;refine zN h fun p14 h=>?_;refine zf nc wg ?_;refine zLp mn h fun u15 h=>?_;obtain⟨hc,h⟩:=h
  refine zm (aaW (lo:=none) (hi:=(some (i64.wrap (u0+a1)))) rfl mn ty5 rfl vd (ve rfl) hc) ?_;refine zN h fun p16 h=>?_;refine zf nc wg ?_;refine zs wg h fun I h=>?_;exact zr h
 refine zw ?_;refine zm (auL rfl rfl rfl y1) ?_;refine zi h (fun h=>?_) fun h=>?_
 .refine AW.drawn0 (fun i=>([0,0,0,3,0,0,0,3,0,0,0,3,0,2]:List Nat).getD i 2) [(7,12),(7,13),(11,12),(11,13)] [0,1,2,4,5,6,8,9,10,3,7,11,12,13] mixed j3 ?_
  refine zM h fun p17 h=>?_;refine zg nc wg ?_;refine zM h fun p18 h=>?_;refine zg nc wg ?_;refine zM h fun p19 h=>?_;refine zg nc ty3 ?_;refine zR mn h fun u20 h=>?_;refine zR mn h fun u21 h=>?_;refine zR mf h fun u22 h=>?_;obtain⟨hc,h⟩:=h
  refine Dp rfl rfl rfl rfl (aaW (lo:=(some u22)) (hi:=none) rfl mn ty5 rfl (ve rfl) vd hc) ?_
  refine Dg rfl rfl rfl rfl (vZ (s:=Builtin.copy_ #[24,24] 3 #[Sl.v u20,Sl.v (⟨wv u21.a (Int.toNat u22) u21.cap 1,u21.len - Int.toNat u22,u21.cap - Int.toNat u22⟩:Sl)]) rfl rfl (fun _=>rfl) (qk _ h ?_))
  rintro v I ⟨u23,rfl,h⟩;refine wG ?_
  refine zw ?_;exact⟨FL,h⟩
 refine zi h (fun h=>?_) fun h=>?_
 .exact h.elim
 refine AW.drawn0 (fun i=>([0,0,0,0,3,0,0,0,3,0,0,0,0,3,0,0,2,0,0,2]:List Nat).getD i 2) [(4,9),(4,16),(8,9),(8,16),(13,15),(13,16)] [0,1,2,3,5,6,7,10,11,12,14,4,8,9,13,15,16,17,18,19] mixed j3 ?_
 refine zM h fun p24 h=>?_;refine zg nc wg ?_;refine zM h fun p25 h=>?_;refine zg nc ty3 ?_;refine zM h fun p26 h=>?_;refine zg nc ty3 ?_;refine zR mn h fun u27 h=>?_;refine zR mf h fun u28 h=>?_;obtain⟨hc,h⟩:=h
 refine Dp rfl rfl rfl rfl (aaW (lo:=(some u28)) (hi:=none) rfl mn ty5 rfl (ve rfl) vd hc) ?_
 refine zR mf h fun u29 h=>?_;refine zG func226 h ?_;rintro v I ⟨u30,rfl,h⟩;refine zM h fun p31 h=>?_;refine zg nc wg ?_;refine Dg rfl rfl rfl rfl (us rfl wg rfl rfl rfl rfl (zY h fun I h=>?_))
 refine wG ?_
 refine zw ?_;exact⟨FL,h⟩
def acj(B:ZB)(ro:AH)(a0:ZO)(I:AH)(Q:Int->AH->Prop):=
 ∃p0,a0=some p0/\
 ∃p1,a0=some p1/\
 ∃u2,qa ro I p0=some (Sl.v u2)/\
 ∃u3,qa ro I (p1.add 1)=some (.int .i64 u3)/\
 Q (i64.wrap ((u2.len:Int) - u3)) I
def ajj{a0 Q}(h:Sep ro I->acj B ro a0 I Q):afi B ro a0 I Q:=by
 refine zb h func224 ntmps224 fun h=>?_;unfold acj at h;refine zw ?_;refine AW.seq ?_;refine AW.drawn0 (fun i=>([0,0,0,3,0,0,0,0,3,0,0]:List Nat).getD i 2) [] [0,1,2,5,6,7,3,4,8,9,10] mixed j3 ?_
 refine zM h fun p0 h=>?_;refine zg nc wg ?_;refine zM h fun p1 h=>?_;refine zg nc ty3 ?_;refine zR mn h fun u2 h=>?_;refine Dp rfl rfl rfl rfl (qC rfl rfl mn rfl rfl) ?_
 refine zR mf h fun u3 h=>?_;refine zw ?_;refine wG ?_
 exact zr h
end G
namespace Wi
open Go SL G Zt
variable{B:ZB}{ro I I':AH}{tag tag':Nat->Nat}
variable{bad:Bool}{Q:Int->ZC->AH->Prop}{R:List Nat}{l xs:List Value}{W n r:Nat}{s:Sl}{acc d:Str}
def asb(d:Str):∀ v∈d.map vU,v.oneCell'=true:=fun v hv=>by
 obtain⟨c,_,rfl⟩:=mN.1 hv;rfl
def aov(d:Str):∀ v∈d.map vU,qg v=true:=fun v hv=>by
 obtain⟨c,_,rfl⟩:=mN.1 hv;rfl
def aoT{q:Nat}{Q:Sl->AH->Prop}(h:Row tag I q 5 s l)(hn:1<=n)(hl:l.length+n<=140737488355328)(hc:s.cap<=140737488355328)(h1:∀ v∈l,v.oneCell'=true)
  (hQ:∀ s' tag' I',(∀R,qd R ro tag I tag' I')->Row tag' I' q 5 s' l->l.length+n<=s'.cap->s'.cap<=9223372036854775807->Q s' I'):afV B ro s (n:Int) I Q:=by
 refine qc.of_calls fun w hw hsep=>?_
 rcases h with⟨rfl,rfl⟩ | ⟨b,cs,ha,htg,hbk,hln,hcp,hle,hg⟩
 .refine(Tryz.bytes_growSlice_nil n w hn (j4 hl)).mono ?_
  rintro e w' ⟨cap2,cells,he,hw',hsz,hroom,hmx,hb⟩
  obtain⟨N,tag',hN,hst,hrow⟩:=ahP (tag:=tag) q hw hsep (mR _) hw'
  exact⟨_,N,he,hb,hN,⟨some ⟨w.heap.size,0,none⟩,0,cap2⟩,rfl,hQ _ tag' _ hst (hrow 0 cap2 [] rfl hsz.symm (Nat.zero_le _) y0) (j4 hroom) (by simpa [maxLen]using hmx)⟩
 .have hcur:w.heap[b]?=some (.cells cs 5 (0,0)):=hw b _ (by unfold rd;rw[hsep b _ hbk];exact hbk)
  have htake:cs.toList.take s.len=l:=by
   apply nJ
   intro i
   rw[Lj]
   split
   .rw[Array.getElem?_toList];exact hg i z7
   .rw[mG z7]
  have:=Tryz.bytes_growSlice_row b s.len s.cap n cs w hcur hcp.symm hle hn (by rw[hln];exact hl) hc (by rw[htake];exact h1)
  unfold Sl.v
  rw[ha]
  refine this.mono ?_
  rintro e w' ⟨cap2,cells,he,hw',hsz,htk,hroom,hmx,hb⟩
  obtain⟨N,tag',hN,hst,hrow⟩:=ahP (tag:=tag) q hw hsep (mR _) hw'
  exact⟨_,N,he,hb,hN,⟨some ⟨w.heap.size,0,none⟩,s.len,cap2⟩,rfl,hQ _ tag' _ hst (hrow s.len cap2 l hln hsz.symm z7 (by rw[htk,htake])) (by simp only;omega) (by simpa [maxLen]using hmx)⟩
def agD(tag:Nat->Nat)(I:AH)(r W:Nat)(s:Sl)(l:List Value)(bad:Bool):Prop:=
 s.cap<=9223372036854775807/\∃ lr:Int,Row tag I r 221 ⟨some ⟨W,0,none⟩,4,4⟩ [Sl.v s,.int .i64 0,.int .i8 lr,.bool bad]/\Row tag I (r+64) 5 s l
def vB(tag:Nat->Nat)(I:AH)(r W:Nat)(acc:Str)(bad:Bool):Prop:= ∃s,agD tag I r W s (acc.map vU) bad
def agD.keep(h:agD tag I r W s l bad)(k:qd R ro tag I tag' I')(h1:r∉R:=by simp)(h2:r+64∉R:=by simp):agD tag' I' r W s l bad:=by
 obtain⟨hc,lr,a,b⟩:=h
 exact⟨hc,lr,a.keep k h1,b.keep k h2⟩
def vB.keep(h:vB tag I r W acc bad)(k:qd R ro tag I tag' I')(h1:r∉R:=by simp)(h2:r+64∉R:=by simp):vB tag' I' r W acc bad:=by
 obtain⟨s,h⟩:=h
 exact⟨s,h.keep k h1 h2⟩
def aiG{Q:Int->Bool->AH->Prop}(h:agD tag I r W s l bad)(hs:SL.Sep ro I)(hl:l.length+n<=140737488355328)
  (hyes:l.length+n<=s.cap->∀ s' xs I',qd [r] ro tag I tag I'->xs.length=n->agD tag I' r W s' (l++xs) bad->Q l.length true I') (hno:s.cap<l.length+n->Q 0 false I):
  zT B ro (some ⟨W,0,none⟩) (n:Int) I Q:=by
 refine adG fun _=>?_
 unfold jl
 obtain⟨hcap,lr,h1,h2⟩:=h
 obtain⟨p,hp,hg⟩:=h1.ptr hs y0
 cases hp
 have hln:=h2.len
 have hc:=h2.capAt
 refine⟨_,rfl,s,hg 0 _ rfl,_,rfl,s,hg 0 _ rfl,?_⟩
 refine ap6 u30 ⟨_,rfl,?_⟩
 rw[qY z7 z7]
 by_cases hroom:l.length+n<=s.cap
 .rw[mc z7]
  have e:(⟨wv s.a 0 s.cap 1,Int.toNat (i64.wrap ((s.len:Int)+(n:Int))) - 0,s.cap - 0⟩:Sl)=⟨s.a,l.length+n,s.cap⟩:=by
   rw[pI,hln,qY z7 z7]
   simp only[Nat.sub_zero,Sl.mk.injEq,true_and,and_true];omega
  refine⟨_,rfl,s,hg 0 _ rfl,⟨?_,trivial⟩,_,rfl,?_⟩
  .simp only
   rw[qY z7 z7];omega
  rw[e,hln]
  refine h1.st (i:=0) hs rfl y0 rfl fun I2 st2 r2=>?_
  obtain⟨xs,hx,h3⟩:=h2.more hroom
  exact hyes hroom ⟨s.a,l.length+n,s.cap⟩ xs I2 st2 hx ⟨hcap,lr,r2,h3.keep st2⟩
 .rw[ma z7]
  exact hno z7
def aqg{Q:Int->AH->Prop}(h:agD tag I r W s l bad)(hs:SL.Sep ro I)(hl:l.length+n<=140737488355328)(hfull:s.cap<l.length+n)(h1c:∀ v∈l,v.oneCell'=true)
  (hQ:∀ s' xs tag' I',qd [r,r+64] ro tag I tag' I'->xs.length=n->agD tag' I' r W s' (l++xs) bad->Q l.length I'):
  uk B ro (some ⟨W,0,none⟩) (n:Int) I Q:=by
 refine aiF fun _=>?_
 unfold abE
 obtain⟨hcap,lr,h1,h2⟩:=id h
 obtain⟨p,hp,hg⟩:=h1.ptr hs y0
 cases hp
 have hln:=h2.len
 have hc:=h2.capAt
 refine ajj fun _=>?_
 unfold acj
 refine⟨_,rfl,_,rfl,s,hg 0 _ rfl,0,hg 1 _ rfl,?_⟩
 rw[Int.sub_zero,qY z7 z7,hln]
 dsimp only
 suffices hj:kY B ro (some ⟨W,0,none⟩) (n:Int) (l.length:Int) Q I by
  by_cases h0:(l.length:Int)=0
  .rw[mc h0]
   refine⟨_,rfl,0,hg 1 _ rfl,?_⟩
   unfold ky
   rw[ma y1]
   exact hj
  .rw[ma h0]
   unfold ky
   rw[ma y1]
   exact hj
 unfold kY
 refine aiG h hs hl (fun hroom=>mt hroom z7) fun _=>?_
 rw[ma y1]
 refine⟨_,rfl,s,hg 0 _ rfl,?_⟩
 by_cases hsmall:s.a=none/\(n:Int)<=64
 .rw[mc hsmall]
  have hnil:s=⟨none,0,0⟩/\l=[]:=by
   rcases h2 with h | ⟨b,cs,ha,_⟩
   .exact h
   .rw[hsmall.1]at ha;cases ha
  obtain⟨rfl,rfl⟩:=hnil
  have hn64:=hsmall.2
  refine⟨⟨z7,hn64,y1,y1⟩,?_⟩
  refine av6 (tag:=tag) (r+64) (zv:= .int .u8 0) (n:=64) hs rfl fun x tag1 I1 st1 r1=>?_
  refine⟨_,rfl,?_⟩
  have r1':Row tag1 I1 (r+64) 5 ⟨some ⟨x,0,none⟩,n,64⟩ ([]++(List.replicate 64 (Value.int .u8 0)).take n):=r1.take (n:=n) j2
  have hx64:(64:Nat)<=9223372036854775807:=by decide
  rw[mq]
  refine(h1.keep (st1 [])).st (i:=0) (st1 []).sep rfl y0 rfl fun I2 st2 r2=>?_
  refine hQ ⟨some ⟨x,0,none⟩,n,64⟩ ((List.replicate 64 (Value.int .u8 0)).take n) tag1 I2 (((st1 _).trans (st2.mono y0))) j2 ⟨hx64,lr,r2,r1'.keep st2⟩
 .rw[ma hsmall]
  refine⟨_,rfl,s,hg 0 _ rfl,?_⟩
  refine ap6 u30 ⟨_,rfl,?_⟩
  have hd:Int.tdiv (s.cap:Int) 2=((s.cap / 2:Nat):Int):=by
   rw[Int.tdiv_eq_ediv_of_nonneg z7];omega
  rw[hd,qY (n:=((s.cap / 2:Nat):Int)) z7 z7,qY (n:=((s.cap / 2:Nat):Int) - (l.length:Int)) z7 z7,ma z7,qY (n:=9223372036854775807 - (s.cap:Int)) z7 z7,qY (n:=9223372036854775807 - (s.cap:Int) - (n:Int)) z7 z7,ma z7]
  refine⟨_,rfl,_,rfl,_,rfl,s,hg 0 _ rfl,0,hg 1 _ rfl,?_,0,hg 1 _ rfl,?_⟩
  .exact⟨trivial,y1,by simp only[cutHi];omega⟩
  rw[Int.zero_add,qY z7 z7,show(⟨wv s.a (Int.toNat 0) s.cap 1,s.len - Int.toNat 0,s.cap - Int.toNat 0⟩:Sl)=s from by rw[show Int.toNat 0=0 from rfl,pI];try rfl]
  refine aoT h2 z7 hl z7 h1c fun s1 tag1 I1 st1 r1 hc1 hc2=>?_
  refine⟨_,rfl,?_⟩
  refine(h1.keep (st1 [])).st (i:=0) (st1 []).sep rfl y0 rfl fun I2 st2 r2=>?_
  unfold xZ
  refine⟨_,rfl,?_⟩
  refine r2.st (i:=1) st2.sep rfl y0 rfl fun I3 st3 r3=>?_
  obtain⟨p3,hp3,hg3⟩:=r3.ptr st3.sep y0
  cases hp3
  have e:(⟨wv s1.a 0 s1.cap 1,Int.toNat (i64.wrap ((l.length:Int)+(n:Int))) - 0,s1.cap - 0⟩:Sl)=⟨s1.a,l.length+n,s1.cap⟩:=by
   rw[pI,qY z7 z7]
   simp only[Nat.sub_zero,Sl.mk.injEq,true_and,and_true];omega
  refine⟨_,rfl,s1,hg3 0 _ rfl,⟨?_,trivial⟩,_,rfl,?_⟩
  .simp only
   rw[qY z7 z7];omega
  rw[e]
  refine r3.st (i:=0) st3.sep rfl y0 rfl fun I4 st4 r4=>?_
  obtain⟨xs,hx,r5⟩:=r1.more (n:=n) hc1
  refine hQ ⟨s1.a,l.length+n,s1.cap⟩ xs tag1 I4 ((st1 _).trans ((st2.mono y0).trans ((st3.mono y0).trans (st4.mono y0)))) hx ⟨hc2,lr,r4,((r5.keep st2).keep st3).keep st4⟩
def axx:qp prog 5 (.int .u8 0) 1 1:=qp.of j0
def akl{x:ZC}{t2:TypeId}{Q:Int->AH->Prop}(h:agD tag I r W s (acc.map vU++xs) bad)(hs:SL.Sep ro I)(hx:xs.length=d.length)(hsrc:Src prog ro I x (d.map vU))
  (hQ:∀ n I',qd [r+64] ro tag I tag I'->vB tag I' r W (acc++d) bad->Q n I'):
  ∃p25_6:Addr,(some ⟨W,0,none⟩:ZO)=some p25_6/\∃ (x27_7:Sl),qa ro I p25_6=some (Sl.v x27_7)/\cutOk (some (acc.length:Int)) none x27_7.len x27_7.cap/\
   awp prog ro (Builtin.copy_ #[24,t2] 3 #[Sl.v (⟨wv x27_7.a (Int.toNat (acc.length:Int)) x27_7.cap 1,x27_7.len - Int.toNat (acc.length:Int),x27_7.cap - Int.toNat (acc.length:Int)⟩:Sl),x]) (fun v I=> ∃(x31_8:Int),v= .int .i64 x31_8/\Q x31_8 I) I:=by
 obtain⟨hcap,lr,h1,h2⟩:=h
 obtain⟨p,hp,hg⟩:=h1.ptr hs y0
 cases hp
 have hln:=h2.len
 simp only[mA,mg]at hln
 refine⟨_,rfl,s,hg 0 _ rfl,⟨trivial,z7,by simp only[cutHi];omega⟩,?_⟩
 rw[mq]
 refine ajF h2 hs u30 axx hsrc j2 (aov d) fun I1 st1 r1=>?_
 refine⟨_,rfl,hQ _ I1 st1 ⟨s,hcap,lr,h1.keep st1,?_⟩⟩
 rw[List.take_left' y0]at r1
 rw[my];exact r1
def akX(h:vB tag I r W acc bad)(hs:SL.Sep ro I)(hl:acc.length+d.length<=140737488355328)(hd:s.len=d.length)
  (hsrc:∀ tag' I',qd [r,r+64] ro tag I tag' I'->SL.qJ ro I' s (d.map vU)) (hQ:∀ n v tag' I',qd [r,r+64] ro tag I tag' I'->vB tag' I' r W (acc++d) bad->Q n v I'):
  pu B ro (some ⟨W,0,none⟩) s I Q:=by
 refine ahV fun _=>?_
 unfold aa5
 obtain⟨s0,hcap,lr,h1,h2⟩:=h
 refine⟨_,rfl,?_⟩
 refine h1.st (i:=2) hs rfl y0 rfl fun I1 st1 r1=>?_
 have hb:agD tag I1 r W s0 (acc.map vU) bad:=⟨hcap,0,r1,h2.keep st1⟩
 rw[hd]
 refine aiG hb st1.sep (j4 hl) (fun hroom s2 xs I2 st2 hx hb2=>?_) fun hno=>?_
 .rw[ma y0]
  unfold kx
  have st12:qd [r,r+64] ro tag I tag I2:=(st1.mono y0).trans (st2.mono y0)
  rw[mg]
  exact akl (t2:=24) (Q:=fun n I=>Q n .nilIface I) hb2 st2.sep hx (hsrc _ _ st12).src fun n I3 st3 h3=>hQ n _ tag I3 (st12.trans (st3.mono y0)) h3
 .rw[mc y0]
  refine aqg hb st1.sep (j4 hl) hno (asb acc) fun s2 xs tag2 I2 st2 hx hb2=>?_
  unfold kx
  have st12:qd [r,r+64] ro tag I tag2 I2:=(st1.mono y0).trans st2
  rw[mg]
  exact akl (t2:=24) (Q:=fun n I=>Q n .nilIface I) hb2 st2.sep hx (hsrc _ _ st12).src fun n I3 st3 h3=>hQ n _ tag2 I3 (st12.trans (st3.mono y0)) h3
def ahX{b:ZA}(h:vB tag I r W acc bad)(hs:SL.Sep ro I)(hl:acc.length+(L b).length<=140737488355328)
  (hQ:∀ n v tag' I',qd [r,r+64] ro tag I tag' I'->vB tag' I' r W (acc++L b) bad->Q n v I'):
  yW B ro (some ⟨W,0,none⟩) b I Q:=by
 refine afm fun _=>?_
 unfold pg
 obtain⟨s0,hcap,lr,h1,h2⟩:=h
 refine⟨_,rfl,?_⟩
 refine h1.st (i:=2) hs rfl y0 rfl fun I1 st1 r1=>?_
 have hb:agD tag I1 r W s0 (acc.map vU) bad:=⟨hcap,0,r1,h2.keep st1⟩
 rw[show(b.size:Int)=((L b).length:Nat)from rfl]
 refine aiG hb st1.sep (j4 hl) (fun hroom s2 xs I2 st2 hx hb2=>?_) fun hno=>?_
 .rw[ma y0]
  unfold zO
  have st12:qd [r,r+64] ro tag I tag I2:=(st1.mono y0).trans (st2.mono y0)
  rw[mg]
  exact akl (t2:=9) (Q:=fun n I=>Q n .nilIface I) hb2 st2.sep hx (ap7 b) fun n I3 st3 h3=>hQ n _ tag I3 (st12.trans (st3.mono y0)) h3
 .rw[mc y0]
  refine aqg hb st1.sep (j4 hl) hno (asb acc) fun s2 xs tag2 I2 st2 hx hb2=>?_
  unfold zO
  have st12:qd [r,r+64] ro tag I tag2 I2:=(st1.mono y0).trans st2
  rw[mg]
  exact akl (t2:=9) (Q:=fun n I=>Q n .nilIface I) hb2 st2.sep hx (ap7 b) fun n I3 st3 h3=>hQ n _ tag2 I3 (st12.trans (st3.mono y0)) h3
end Wi
namespace G
open Go SL
variable{B:ZB}{ro I:AH}
def adH(B:ZB)(ro I:AH)(Q:ZO->AH->Prop):Prop:=
 nw ro I (.cells #[Sl.v (⟨none,0,0⟩:Sl),.int .i64 0,.int .i8 0,.bool false] 221) fun u0 I=>
 Q (some ⟨u0,0,none⟩) I
def akD{Q}(h:Sep ro I->adH B ro I Q):aaY B ro I Q:=by
 refine zb h func43 ntmps43 fun h=>?_;unfold adH at h;refine zw ?_;refine zm (wB (vs:=[]) (cs:= #[Sl.v (⟨none,0,0⟩:Sl),.int .i64 0,.int .i8 0,.bool false]) rfl Lq awN awZ rfl rfl) ?_;refine zA (wt rfl rfl) h fun u0 h=>?_;exact zr h
def jU(B:ZB)(ro:AH)(a0:ZO)(a1:Sl)(Q:AH->Prop):Int->AH->(Int->AH->Prop)->Prop:=fun u0 I Y1=>
 if u0<(a1.len:Int)then
 ∃p1,a1.a=some p1/\(0:Int)<=u0/\u0<(a1.len:Int)/\
 ∃u2,qa ro I (p1.add (Int.toNat u0*1))=some (.int .i64 u2)/\
 ∃p3,a0=some p3/\
 pj B ro (some p3) u2 I fun I=>
 Y1 (i64.wrap (u0+1)) I
 else
 Q I
def acl(B:ZB)(ro:AH)(a0:ZO)(a1:Sl)(I:AH)(Q:AH->Prop):=
 lfpD (jU B ro a0 a1 Q) (0) I
def ajk{a0 a1 Q}(h:Sep ro I->acl B ro a0 a1 I Q):wZ B ro a0 a1 I Q:=by
 refine zb h func44 ntmps44 fun h=>?_;unfold acl at h;refine zw ?_;refine zm (qC rfl rfl mO rfl rfl) ?_;refine zw ?_;refine qi.loop (fr':=[(0,.pointer a0),(6,Sl.v a1),(7,.int .i64 (a1.len:Int)),(8,.int .i64 0)]) ?_ FL
 refine h (fun u0 I=>qi _ _ _ _ _ _ [(0,.pointer a0),(6,Sl.v a1),(7,.int .i64 (a1.len:Int)),(8,.int .i64 u0)] I) ?_
 rintro u0 I Y1 hY1 h
 show AW _ _ _ _ _ _ _ _
 unfold jU at h;refine zw ?_;refine AW.seq ?_;refine zi h (fun h=>?_) fun h=>?_
 rotate_left
 .refine AW.exit ?_;refine zw ?_;refine qX ?_
  exact bN0 results44 ⟨rfl,h⟩
 refine zw ?_;refine AW.seq ?_;refine zw ?_;obtain⟨p1,ha,h0,h1,h⟩:=h
 refine zm (wO rfl mO ty3 (ixL rfl ha) rfl h0 h1) ?_;refine zL mf h fun u2 h=>?_;refine zN h fun p3 h=>?_;refine zf Lq agZ ?_;refine zc func114 h ?_;rintro v I ⟨rfl,h⟩;refine zw ?_;refine qi.head (fr':=[(0,.pointer a0),(6,Sl.v a1),(7,.int .i64 (a1.len:Int)),(8,.int .i64 (i64.wrap (u0+1)))]) ?_ FL
 exact hY1 _ _ h
def kZ(B:ZB)(ro:AH)(a0:ZO)(a1:Sl)(Q:AH->Prop):Int->AH->(Int->AH->Prop)->Prop:=fun u0 I Y1=>
 if u0<(a1.len:Int)then
 ∃p1,a1.a=some p1/\(0:Int)<=u0/\u0<(a1.len:Int)/\
 ∃u2,qa ro I (p1.add (Int.toNat u0*1))=some (.string u2)/\
 ∃p3,a0=some p3/\
 pj B ro (some p3) (u2.size:Int) I fun I=>
 ∃p4,a0=some p4/\
 yW B ro (some p4) u2 I fun u5 u6 I=>
 Y1 (i64.wrap (u0+1)) I
 else
 Q I
def un(B:ZB)(ro:AH)(a0:ZO)(a1:Sl)(I:AH)(Q:AH->Prop):=
 lfpD (kZ B ro a0 a1 Q) (0) I
def aeq{a0 a1 Q}(h:Sep ro I->un B ro a0 a1 I Q):vy B ro a0 a1 I Q:=by
 refine zb h func45 ntmps45 fun h=>?_;unfold un at h;refine zw ?_;refine zm (qC rfl rfl mx rfl rfl) ?_;refine zw ?_;refine qi.loop (fr':=[(0,.pointer a0),(6,Sl.v a1),(7,.int .i64 (a1.len:Int)),(8,.int .i64 0)]) ?_ FL
 refine h (fun u0 I=>qi _ _ _ _ _ _ [(0,.pointer a0),(6,Sl.v a1),(7,.int .i64 (a1.len:Int)),(8,.int .i64 u0)] I) ?_
 rintro u0 I Y1 hY1 h
 show AW _ _ _ _ _ _ _ _
 unfold kZ at h;refine zw ?_;refine AW.seq ?_;refine zi h (fun h=>?_) fun h=>?_
 rotate_left
 .refine AW.exit ?_;refine zw ?_;refine qX ?_
  exact bN0 results45 ⟨rfl,h⟩
 refine zw ?_;refine AW.seq ?_;refine zw ?_;obtain⟨p1,ha,h0,h1,h⟩:=h
 refine zm (wO rfl mx ty9 (ixL rfl ha) rfl h0 h1) ?_;refine zL mo h fun u2 h=>?_;refine zN h fun p3 h=>?_;refine zf Lq agZ ?_;refine zw ?_;refine zm (abZ rfl rfl mo rfl rfl) ?_;refine zc func114 h ?_;rintro v I ⟨rfl,h⟩;refine zN h fun p4 h=>?_;refine zf Lq agZ ?_;refine zf LM aos ?_;refine zc func115 h ?_;rintro v I ⟨u5,u6,rfl,h⟩
 refine zw ?_;refine qi.head (fr':=[(0,.pointer a0),(6,Sl.v a1),(7,.int .i64 (a1.len:Int)),(8,.int .i64 (i64.wrap (u0+1)))]) ?_ FL
 exact hY1 _ _ h
def aa7(B:ZB)(ro:AH)(a0:ZO)(a1:Sl)(Q:AH->Prop):Int->AH->(Int->AH->Prop)->Prop:=fun u0 I Y1=>
 if u0<(a1.len:Int)then
 ∃p1,a1.a=some p1/\(0:Int)<=u0/\u0<(a1.len:Int)/\
 ∃u2,qa ro I (p1.add (Int.toNat u0*1))=some (Sl.v u2)/\
 ∃p3,a0=some p3/\
 pj B ro (some p3) (u2.len:Int) I fun I=>
 ∃p4,a0=some p4/\
 pu B ro (some p4) u2 I fun u5 u6 I=>
 Y1 (i64.wrap (u0+1)) I
 else
 Q I
def abF(B:ZB)(ro:AH)(a0:ZO)(a1:Sl)(I:AH)(Q:AH->Prop):=
 lfpD (aa7 B ro a0 a1 Q) (0) I
def aiH{a0 a1 Q}(h:Sep ro I->abF B ro a0 a1 I Q):jR B ro a0 a1 I Q:=by
 refine zb h func46 ntmps46 fun h=>?_;unfold abF at h;refine zw ?_;refine zm (qC rfl rfl nW rfl rfl) ?_;refine zw ?_;refine qi.loop (fr':=[(0,.pointer a0),(6,Sl.v a1),(7,.int .i64 (a1.len:Int)),(8,.int .i64 0)]) ?_ FL
 refine h (fun u0 I=>qi _ _ _ _ _ _ [(0,.pointer a0),(6,Sl.v a1),(7,.int .i64 (a1.len:Int)),(8,.int .i64 u0)] I) ?_
 rintro u0 I Y1 hY1 h
 show AW _ _ _ _ _ _ _ _
 unfold aa7 at h;refine zw ?_;refine AW.seq ?_;refine zi h (fun h=>?_) fun h=>?_
 rotate_left
 .refine AW.exit ?_;refine zw ?_;refine qX ?_
  exact bN0 results46 ⟨rfl,h⟩
 refine zw ?_;refine AW.seq ?_;refine zw ?_;obtain⟨p1,ha,h0,h1,h⟩:=h
 refine zm (wO rfl nW wg (ixL rfl ha) rfl h0 h1) ?_;refine zL mn h fun u2 h=>?_;refine zN h fun p3 h=>?_;refine zf Lq agZ ?_;refine zw ?_;refine zm (qC rfl rfl mn rfl rfl) ?_;refine zc func114 h ?_;rintro v I ⟨rfl,h⟩;refine zN h fun p4 h=>?_;refine zf Lq agZ ?_;refine zf LM aos ?_;refine zc func116 h ?_
 rintro v I ⟨u5,u6,rfl,h⟩;refine zw ?_;refine qi.head (fr':=[(0,.pointer a0),(6,Sl.v a1),(7,.int .i64 (a1.len:Int)),(8,.int .i64 (i64.wrap (u0+1)))]) ?_ FL
 exact hY1 _ _ h
def acR(B:ZB)(ro:AH)(a0:ZO)(I:AH)(Q:Sl->Int->AH->Prop):=
 ∃p0,a0=some p0/\
 ∃u1,qa ro I (p0.add 3)=some (.bool u1)/\
 if u1=true then
 Q (⟨none,0,0⟩:Sl) 10 I
 else
 ∃p2,a0=some p2/\
 aeh B ro (some p2) I fun u3 I=>
 kT B ro u3 I fun u4 I=>
 Q u4 0 I
def ajR{a0 Q}(h:Sep ro I->acR B ro a0 I Q):aas B ro a0 I Q:=by
 refine zb h func47 ntmps47 fun h=>?_;unfold acR at h;refine zw ?_;refine AW.seq ?_;refine zN h fun p0 h=>?_;refine zf Lq agZ ?_;refine zf LM ty4 ?_;refine zL Lg h fun u1 h=>?_;refine zj h (fun h=>?_) fun h=>?_
 .exact zrr h
 refine zN h fun p2 h=>?_;refine zf Lq agZ ?_;refine zf LM aos ?_;refine zc func117 h ?_;rintro v I ⟨u3,rfl,h⟩;refine zc func80 h ?_;rintro v I ⟨u4,rfl,h⟩;exact zrr h
def adI(B:ZB)(ro:AH)(a0:Sl)(I:AH)(Q:ZO->AH->Prop):=
 kT B ro a0 I fun u0 I=>
 nw ro I (.cells #[Sl.v u0,.int .i64 0] 231) fun u1 I=>
 Q (some ⟨u1,0,none⟩) I
def akE{a0 Q}(h:Sep ro I->adI B ro a0 I Q):aaZ B ro a0 I Q:=by
 refine zb h func53 ntmps53 fun h=>?_;unfold adI at h;refine zc func80 h ?_;rintro v I ⟨u0,rfl,h⟩;refine zm (wB (vs:=[(0,Sl.v u0)]) (cs:= #[Sl.v u0,.int .i64 0]) rfl ny awO aw0 rfl rfl) ?_;refine zA (wt rfl rfl) h fun u1 h=>?_;exact zr h
def acS(B:ZB)(ro:AH)(a0:ZO)(I:AH)(Q:Int->AH->Prop):=
 ∃p0,a0=some p0/\
 ∃u1,qa ro I (p0.add 1)=some (.int .i64 u1)/\
 if¬(u1=0)then
 Q 0 I
 else
 ∃p2,a0=some p2/\
 ∃u3,qa ro I p2=some (Sl.v u3)/\
 afB B ro u3 0 I fun u4 u5 u6 I=>
 ∃p7,a0=some p7/\
 stN (p7.add 1) (fun I=>
 ∃p8,a0=some p8/\
 ∃u9,qa ro I p8=some (Sl.v u9)/\
 cutOk (some u5) none u9.len u9.cap/\
 ∃p10,a0=some p10/\
 stN p10 (fun I=>
  Q u4 I) [Sl.v (⟨wv u9.a (Int.toNat u5) u9.cap 1,u9.len - Int.toNat u5,u9.cap - Int.toNat u5⟩:Sl)] 0 I) [.int .i64 u6] 0 I
def ajS{a0 Q}(h:Sep ro I->acS B ro a0 I Q):qN B ro a0 I Q:=by
 refine zb h func54 ntmps54 fun h=>?_;unfold acS at h;refine zw ?_;refine AW.seq ?_;refine zN h fun p0 h=>?_;refine zf ny afx ?_;refine zLp LW h fun u1 h=>?_;refine AW.iff rfl (qu me) h (fun h=>?_) (fun h=>?_)
 .exact zr h
 refine zN h fun p2 h=>?_;refine zf ny wg ?_;refine zL mn h fun u3 h=>?_;refine zc func119 h ?_;rintro v I ⟨u4,u5,u6,rfl,h⟩;refine zN h fun p7 h=>?_;refine zf ny afx ?_;refine zs afx h fun I h=>?_;refine zN h fun p8 h=>?_;refine zf ny wg ?_;refine zLp mn h fun u9 h=>?_;obtain⟨hc,h⟩:=h
 refine zm (aaW (lo:=(some u5)) (hi:=none) rfl mn ty5 rfl (ve rfl) vd hc) ?_;refine zN h fun p10 h=>?_;refine zf ny wg ?_;refine zs wg h fun I h=>?_;exact zr h
def acm(B:ZB)(ro:AH)(a0:ZO)(I:AH)(Q:ZA->AH->Prop):=
 yv B ro a0 I fun u0 I=>
 awp prog ro (convert 24 9 (Sl.v u0)) (fun v I=>
 (∃(u1:ZA),v= .string u1/\
  Q u1 I)) I
def ajl{a0 Q}(h:Sep ro I->acm B ro a0 I Q):xT B ro a0 I Q:=by
 refine zb h func55 ntmps55 fun h=>?_;unfold acm at h;refine zc func56 h ?_;rintro v I ⟨u0,rfl,h⟩;refine zl (ake rfl rfl (qk _ h ?_))
 rintro v I ⟨u1,rfl,h⟩;exact zr h
def acn(B:ZB)(ro:AH)(a0:ZO)(I:AH)(Q:Sl->AH->Prop):=
 ∃p0,a0=some p0/\
 ∃u1,qa ro I p0=some (Sl.v u1)/\
 qN B ro a0 I fun u2 I=>
 ∃p3,a0=some p3/\
 ∃u4,qa ro I (p3.add 1)=some (.int .i64 u4)/\
 if¬(u4=0)then
 Q (⟨none,0,0⟩:Sl) I
 else
 ∃p5,a0=some p5/\
 ∃u6,qa ro I p5=some (Sl.v u6)/\
 if(u6.len:Int)<u2 then
 ∃p7,a0=some p7/\
 stN (p7.add 1) (fun I=>
  ∃p8,a0=some p8/\
  stN p8 (fun I=>
  Q (⟨none,0,0⟩:Sl) I) [Sl.v u1] 0 I) [.int .i64 12] 0 I
 else
 ∃p9,a0=some p9/\
 ∃u10,qa ro I p9=some (Sl.v u10)/\
 cutOk none (some u2) u10.len u10.cap/\
 kT B ro (⟨wv u10.a (0) u10.cap 1,Int.toNat u2 - 0,u10.cap - 0⟩:Sl) I fun u11 I=>
 ∃p12,a0=some p12/\
 ∃u13,qa ro I p12=some (Sl.v u13)/\
 cutOk (some u2) none u13.len u13.cap/\
 ∃p14,a0=some p14/\
 stN p14 (fun I=>
 Q u11 I) [Sl.v (⟨wv u13.a (Int.toNat u2) u13.cap 1,u13.len - Int.toNat u2,u13.cap - Int.toNat u2⟩:Sl)] 0 I
def ajm{a0 Q}(h:Sep ro I->acn B ro a0 I Q):yv B ro a0 I Q:=by
 refine zb h func56 ntmps56 fun h=>?_;unfold acn at h;refine zN h fun p0 h=>?_;refine zf ny wg ?_;refine zL mn h fun u1 h=>?_;refine zC func54 h fun u2 I h=>?_;refine AW.seq ?_;refine zN h fun p3 h=>?_;refine zf ny afx ?_;refine zLp LW h fun u4 h=>?_;refine AW.iff rfl (qu me) h (fun h=>?_) (fun h=>?_)
 .exact zr h
 refine zw ?_;refine AW.seq ?_;refine zN h fun p5 h=>?_;refine zf ny wg ?_;refine zL mn h fun u6 h=>?_;refine zm (qC rfl rfl mn rfl rfl) ?_;refine zi h (fun h=>?_) fun h=>?_
 .refine zN h fun p7 h=>?_;refine zf ny afx ?_;refine zs afx h fun I h=>?_;refine zN h fun p8 h=>?_;refine zf ny wg ?_;refine zs wg h fun I h=>?_;exact zr h
 refine zN h fun p9 h=>?_;refine zf ny wg ?_;refine zLp mn h fun u10 h=>?_;obtain⟨hc,h⟩:=h
 refine zm (aaW (lo:=none) (hi:=(some u2)) rfl mn ty5 rfl vd (ve rfl) hc) ?_;refine zc func80 h ?_;rintro v I ⟨u11,rfl,h⟩;refine zN h fun p12 h=>?_;refine zf ny wg ?_;refine zLp mn h fun u13 h=>?_;obtain⟨hc,h⟩:=h
 refine zm (aaW (lo:=(some u2)) (hi:=none) rfl mn ty5 rfl (ve rfl) vd hc) ?_;refine zN h fun p14 h=>?_;refine zf ny wg ?_;refine zs wg h fun I h=>?_;exact zr h
def acT(B:ZB)(ro:AH)(a0:ZO)(I:AH)(Q:Int->AH->Prop):=
 ∃p0,a0=some p0/\
 ∃u1,qa ro I (p0.add 1)=some (.int .i64 u1)/\
 Q u1 I
def ajT{a0 Q}(h:Sep ro I->acT B ro a0 I Q):aat B ro a0 I Q:=by
 refine zb h func57 ntmps57 fun h=>?_;unfold acT at h;refine zN h fun p0 h=>?_;refine zf ny afx ?_;refine zL LW h fun u1 h=>?_;exact zr h
def aco(B:ZB)(ro:AH)(a0:ZO)(I:AH)(Q:Int->AH->Prop):=
 ∃p0,a0=some p0/\
 ∃u1,qa ro I p0=some (Sl.v u1)/\
 Q (u1.len:Int) I
def ajn{a0 Q}(h:Sep ro I->aco B ro a0 I Q):uH B ro a0 I Q:=by
 refine zb h func58 ntmps58 fun h=>?_;unfold aco at h;refine zN h fun p0 h=>?_;refine zf ny wg ?_;refine zL mn h fun u1 h=>?_;refine zm (qC rfl rfl mn rfl rfl) ?_;exact zr h
def acU(B:ZB)(ro:AH)(a0:ZO)(a1:Int)(I:AH)(Q:AH->Prop):=
 aej B ro a1 I fun u0 I=>
 if¬(u0=true)then
 ∃p1,a0=some p1/\
 stN (p1.add 3) (fun I=>
  Q I) [.bool true] 0 I
 else
 ∃p2,a0=some p2/\
 ais B ro (⟨none,0,0⟩:Sl) a1 I fun u3 I=>
 pu B ro (some p2) u3 I fun u4 u5 I=>
 Q I
def ajU{a0 a1 Q}(h:Sep ro I->acU B ro a0 a1 I Q):pj B ro a0 a1 I Q:=by
 refine zb h func114 ntmps114 fun h=>?_;unfold acU at h;refine AW.seq ?_;refine zC func174 h fun u0 I h=>?_;refine AW.iff rfl (qu Iff.rfl) h (fun h=>?_) (fun h=>?_)
 .refine zN h fun p1 h=>?_;refine zf LM ty4 ?_;refine zsp ty4 h fun I h=>?_;exact bR0 results114 ⟨rfl,h⟩
 refine zw ?_;refine AW.drawn0 (fun i=>([0,0,0,0,2,2]:List Nat).getD i 2) [] [0,1,2,3,4,5] mixed j3 ?_
 refine zM h fun p2 h=>?_;refine zg LM aos ?_;refine zG func175 h ?_;rintro v I ⟨u3,rfl,h⟩;refine zG func116 h ?_;rintro v I ⟨u4,u5,rfl,h⟩;refine wG ?_
 exact bN0 results114 ⟨rfl,h⟩
def yd(B:ZB)(ro:AH)(a0:Sl)(a1:Int)(Q:Int->Int->Int->AH->Prop)(I:AH):=
 if 9<=(i64.wrap ((a0.len:Int) - a1))then
 Q 0 0 13 I
 else
 Q 0 0 12 I
def pQ(B:ZB)(ro:AH)(a1 u0 u1 u2:Int)(Q:Int->Int->Int->AH->Prop)(Y2:(Int×Int)->AH->Prop)(u3:Bool)(I:AH):=
 if u3=true then
 Q 0 0 13 I
 else
 Q (aaU .i64 u0 (i64.wrap ((i64.wrap (abY .u8 u2 127))*2 ^ (min (Int.toNat (i64.wrap (7*u1))) 64)))) (i64.wrap ((i64.wrap (a1+u1))+1)) 0 I
def aaJ(B:ZB)(ro:AH)(a0:Sl)(a1:Int)(Q:Int->Int->Int->AH->Prop):(Int×Int)->AH->((Int×Int)->AH->Prop)->Prop:=fun⟨u0,u1⟩ I Y2=>
 if u1<((⟨wv a0.a (Int.toNat a1) a0.cap 1,a0.len - Int.toNat a1,a0.cap - Int.toNat a1⟩:Sl).len:Int)then
 ∃p2:Addr,(⟨wv a0.a (Int.toNat a1) a0.cap 1,a0.len - Int.toNat a1,a0.cap - Int.toNat a1⟩:Sl).a=some p2/\(0:Int)<=u1/\u1<((⟨wv a0.a (Int.toNat a1) a0.cap 1,a0.len - Int.toNat a1,a0.cap - Int.toNat a1⟩:Sl).len:Int)/\
 ∃u3,qa ro I (p2.add (Int.toNat u1*1))=some (.int .u8 u3)/\
 if u1=9 then
  yd B ro a0 a1 Q I
 else
 (0:Int)<=(i64.wrap (7*u1))/\
 if u3<128 then
  if(u3=0)/\(0<u1)then
  pQ B ro a1 u0 u1 u3 Q Y2 true I
  else
  aej B ro (aaU .i64 u0 (i64.wrap ((i64.wrap (abY .u8 u3 127))*2 ^ (min (Int.toNat (i64.wrap (7*u1))) 64)))) I fun u4 I=>
  pQ B ro a1 u0 u1 u3 Q Y2 (!u4) I
 else
 Y2 (aaU .i64 u0 (i64.wrap ((i64.wrap (abY .u8 u3 127))*2 ^ (min (Int.toNat (i64.wrap (7*u1))) 64))),i64.wrap (u1+1)) I
 else
 yd B ro a0 a1 Q I
def afK(B:ZB)(ro:AH)(a0:Sl)(a1:Int)(I:AH)(Q:Int->Int->Int->AH->Prop):=
 if(a1<0)\/((a0.len:Int)<a1)then
 Q 0 0 11 I
 else
 cutOk (some a1) none a0.len a0.cap/\
 lfpD (aaJ B ro a0 a1 Q) (0,0) I
def amS{a0 a1 Q}(h:Sep ro I->afK B ro a0 a1 I Q):afB B ro a0 a1 I Q:=by
 refine zb h func119 ntmps119 fun h=>?_;unfold afK at h;refine zw ?_;refine AW.seq ?_;refine zw ?_;refine wY 5 (decide (a1<0)) [(0,Sl.v a0),(1,.int .i64 a1),(4,.int .i64 0),(16,.bool ((decide (a1<0)) || (decide ((a0.len:Int)<a1))))] ?_ ?_ ?_
 .intro e2 hk2
  refine zv e2 ?_;exact hk2 _ (Fe e2)
 .intro e2 hk2
  refine zv e2 ?_;refine qO (qC rfl rfl mn rfl rfl) rfl rfl rfl rfl e2 ?_
  refine zv e2 ?_;exact hk2 _ (Fe e2)
 intro fr hl
 refine Lfr hl ?_
 refine zw ?_;refine AW.iff rfl (vr me me) h (fun h=>?_) (fun h=>?_)
 .refine zw ?_;exact bR3 results119 rfl rfl rfl ⟨_,_,_,rfl,h⟩
 refine zw ?_;refine AW.seqJ (fun fr I=>qo [(0,Sl.v a0),(1,.int .i64 a1)] fr/\yd B ro a0 a1 Q I) ?_ ?_
 .rintro fr I ⟨hl,h⟩;refine AW.weaken ?_ hl (HLe.refl _)
  unfold yd at h;refine AW.seq ?_;refine zw ?_;refine zm (qC rfl rfl mn rfl rfl) ?_;refine zi h (fun h=>?_) fun h=>?_
  .refine zw ?_;exact bR3 results119 rfl rfl rfl ⟨_,_,_,rfl,h⟩
  refine zw ?_;exact bR3 results119 rfl rfl rfl ⟨_,_,_,rfl,h⟩
 refine zw ?_;obtain⟨hc,h⟩:=h
 refine zm (aaW (lo:=(some a1)) (hi:=none) rfl mn ty5 rfl (ve rfl) vd hc) ?_;refine zm (qC rfl rfl mn rfl rfl) ?_;refine zw ?_;refine qi.loop (fr':=[(0,Sl.v a0),(1,.int .i64 a1),(19,Sl.v (⟨wv a0.a (Int.toNat a1) a0.cap 1,a0.len - Int.toNat a1,a0.cap - Int.toNat a1⟩:Sl)),(20,.int .i64 ((⟨wv a0.a (Int.toNat a1) a0.cap 1,a0.len - Int.toNat a1,a0.cap - Int.toNat a1⟩:Sl).len:Int)),(4,.int .i64 0),(21,.int .i64 0)]) ?_ FL
 refine h (fun⟨u0,u1⟩ I=>qi _ _ _ _ _ _ [(0,Sl.v a0),(1,.int .i64 a1),(19,Sl.v (⟨wv a0.a (Int.toNat a1) a0.cap 1,a0.len - Int.toNat a1,a0.cap - Int.toNat a1⟩:Sl)),(20,.int .i64 ((⟨wv a0.a (Int.toNat a1) a0.cap 1,a0.len - Int.toNat a1,a0.cap - Int.toNat a1⟩:Sl).len:Int)),(4,.int .i64 u0),(21,.int .i64 u1)] I) ?_
 rintro⟨u0,u1⟩ I Y2 hY2 h
 show AW _ _ _ _ _ _ _ _
 unfold aaJ at h;dsimp only at h;refine zw ?_;refine AW.seq ?_;refine zi h (fun h=>?_) fun h=>?_
 rotate_left
 .refine AW.exit ?_;refine zw ?_;refine qX ?_
  refine zw ?_;exact⟨FL,h⟩
 refine zw ?_;refine AW.seq ?_;refine zw ?_;obtain⟨p2,ha,h0,h1,h⟩:=h
 refine zm (wO rfl mn ty5 (ixL rfl ha) rfl h0 h1) ?_;refine zLp La h fun u3 h=>?_;refine AW.seq ?_;refine zi h (fun h=>?_) fun h=>?_
 .refine AW.exit ?_;refine zw ?_;refine av4 rfl ?_
  refine zw ?_;refine qX ?_
  refine zw ?_;exact⟨FL,h⟩
 refine zw ?_;refine zm (awE rfl rfl rfl) ?_;refine zm (alM rfl rfl La mf) ?_;refine zw ?_;obtain⟨hc,h⟩:=h
 refine zm (awF rfl rfl rfl hc) ?_;refine zm (avX rfl rfl rfl) ?_;refine zi h (fun h=>?_) fun h=>?_
 rotate_left
 .refine zw ?_;refine qi.head (fr':=[(0,Sl.v a0),(1,.int .i64 a1),(19,Sl.v (⟨wv a0.a (Int.toNat a1) a0.cap 1,a0.len - Int.toNat a1,a0.cap - Int.toNat a1⟩:Sl)),(20,.int .i64 ((⟨wv a0.a (Int.toNat a1) a0.cap 1,a0.len - Int.toNat a1,a0.cap - Int.toNat a1⟩:Sl).len:Int)),(4,.int .i64 (aaU .i64 u0 (i64.wrap ((i64.wrap (abY .u8 u3 127))*2 ^ (min (Int.toNat (i64.wrap (7*u1))) 64))))),(21,.int .i64 (i64.wrap (u1+1)))]) ?_ FL
  exact hY2 _ _ h
 refine AW.seq ?_;refine zw ?_;refine wY 3 (decide (u3=0)) [(1,.int .i64 a1),(4,.int .i64 (aaU .i64 u0 (i64.wrap ((i64.wrap (abY .u8 u3 127))*2 ^ (min (Int.toNat (i64.wrap (7*u1))) 64))))),(7,.int .i64 u1),(43,.bool ((decide (u3=0)) && (decide (0<u1))))] ?_ ?_ ?_
 .intro e2 hk2
  refine zv e2 ?_;exact hk2 _ (Fe e2)
 .intro e2 hk2
  refine zv e2 ?_;exact hk2 _ (Fe e2)
 intro fr hl
 refine Lfr hl ?_
 refine zw ?_;refine qI 4 ((decide (u3=0)) && (decide (0<u1))) (ab2 me me) h (fun fr I=> ∃(u4:Bool),qo [(1,.int .i64 a1),(4,.int .i64 (aaU .i64 u0 (i64.wrap ((i64.wrap (abY .u8 u3 127))*2 ^ (min (Int.toNat (i64.wrap (7*u1))) 64))))),(7,.int .i64 u1),(48,.bool u4)] fr/\pQ B ro a1 u0 u1 u3 Q Y2 u4 I) ?_ ?_ ?_
 .intro h e6 hk6;refine zv e6 ?_;exact hk6 _ _ ⟨_,FL,h⟩
 .intro h e6 hk6;refine zy e6 ?_;refine Lyb rfl rfl rfl rfl e6 (kG rfl func174 rfl rfl rfl (qc.mono h ?_))
  rintro v I ⟨u5,rfl,h⟩;refine zv e6 ?_;exact hk6 _ _ ⟨_,FL,h⟩
 rintro fr I ⟨u4,hl,h⟩;unfold pQ at h;refine Lfr hl ?_
 refine zj h (fun h=>?_) fun h=>?_
 .refine zw ?_;exact bR3 results119 rfl rfl rfl ⟨_,_,_,rfl,h⟩
 refine zw ?_;exact bR3 results119 rfl rfl rfl ⟨_,_,_,rfl,h⟩
def agE(B:ZB)(ro:AH)(a0:Int)(I:AH)(Q:Bool->AH->Prop):=
 Q ((decide (0<=a0)) && (decide (a0<=4611686018427387903))) I
def an8{a0 Q}(h:Sep ro I->agE B ro a0 I Q):aej B ro a0 I Q:=by
 refine zb h func174 ntmps174 fun h=>?_;unfold agE at h;refine zw ?_;refine wY 3 (decide (0<=a0)) [(8,.bool ((decide (0<=a0)) && (decide (a0<=4611686018427387903))))] ?_ ?_ ?_
 .intro e2 hk2
  refine zv e2 ?_;exact hk2 _ (Fe e2)
 .intro e2 hk2
  refine zv e2 ?_;exact hk2 _ (Fe e2)
 intro fr hl
 refine Lfr hl ?_
 exact zr h
def ada(B:ZB)(ro:AH)(Q:Sl->AH->Prop)(u0:Sl)(u1:Int)(I:AH):=
 nw ro I (.cells #[.int .u8 (IntKind.u8.wrap u1)] 5) fun u2 I=>
 awp prog ro (Builtin.append_ #[24,24] 24 #[Sl.v u0,Sl.v (⟨some ⟨u2,0,none⟩,1,1⟩:Sl)]) (fun v I=> ∃(u3:Sl),v=Sl.v u3/\
 Q u3 I) I
def adb(B:ZB)(ro:AH)(Q:Sl->AH->Prop):(Sl×Int)->AH->((Sl×Int)->AH->Prop)->Prop:=fun⟨u0,u1⟩ I Y6=>
 if 128<=u1 then
 nw ro I (.cells #[.int .u8 (aaU .u8 (IntKind.u8.wrap u1) 128)] 5) fun u2 I=>
 awp prog ro (Builtin.append_ #[24,24] 24 #[Sl.v u0,Sl.v (⟨some ⟨u2,0,none⟩,1,1⟩:Sl)]) (fun v I=> ∃(u3:Sl),v=Sl.v u3/\
  Y6 (u3,Int.fdiv u1 (2 ^ (min (Int.toNat 7) 64))) I) I
 else
 ada B ro Q u0 u1 I
def aiI(B:ZB)(ro:AH)(a0:Sl)(a1:Int)(I:AH)(Q:Sl->AH->Prop):=
 lfpD (adb B ro Q) (a0,a1) I
def apy{a0 a1 Q}(h:Sep ro I->aiI B ro a0 a1 I Q):ais B ro a0 a1 I Q:=by
 refine zb h func175 ntmps175 fun h=>?_;unfold aiI at h;refine zw ?_;refine AW.seqJ (fun fr I=> ∃(u0:Sl) (u1:Int),qo [(0,Sl.v u0),(1,.int .i64 u1)] fr/\ada B ro Q u0 u1 I) ?_ ?_
 .rintro fr I ⟨u0,u1,hl,h⟩;refine AW.weaken ?_ hl (HLe.refl _)
  unfold ada at h;refine zw ?_;refine zm (alM rfl rfl mf La) ?_;refine zA (wj (vs:=[(0,.int .u8 (IntKind.u8.wrap u1))]) (cs:= #[.int .u8 (IntKind.u8.wrap u1)]) rfl mn ty5 y1 rfl rfl) h fun u2 h=>?_;refine zl (vZ (s:=Builtin.append_ #[24,24] 24 #[Sl.v u0,Sl.v (⟨some ⟨u2,0,none⟩,1,1⟩:Sl)]) rfl rfl (fun _=>rfl) (qk _ h ?_))
  rintro v I ⟨u3,rfl,h⟩;exact zr h
 refine zw ?_;refine qi.loop (fr':=[(0,Sl.v a0),(1,.int .i64 a1)]) ?_ FL
 refine h (fun⟨u4,u5⟩ I=>qi _ _ _ _ _ _ [(0,Sl.v u4),(1,.int .i64 u5)] I) ?_
 rintro⟨u4,u5⟩ I Y6 hY6 h
 show AW _ _ _ _ _ _ _ _
 unfold adb at h;dsimp only at h;refine AW.seq ?_;refine zi h (fun h=>?_) fun h=>?_
 rotate_left
 .refine AW.exit ?_;refine zw ?_;refine qX ?_
  refine zw ?_;exact⟨_,_,FL,h⟩
 refine zw ?_;refine AW.seq ?_;refine zw ?_;refine zm (alM rfl rfl mf La) ?_;refine zm (avX rfl rfl rfl) ?_;refine zA (wj (vs:=[(0,.int .u8 (aaU .u8 (IntKind.u8.wrap u5) 128))]) (cs:= #[.int .u8 (aaU .u8 (IntKind.u8.wrap u5) 128)]) rfl mn ty5 y1 rfl rfl) h fun u6 h=>?_;refine zl (vZ (s:=Builtin.append_ #[24,24] 24 #[Sl.v u4,Sl.v (⟨some ⟨u6,0,none⟩,1,1⟩:Sl)]) rfl rfl (fun _=>rfl) (qk _ h ?_))
 rintro v I ⟨u7,rfl,h⟩;refine zw ?_;refine zm (awG rfl rfl rfl y1) ?_;refine zw ?_;refine qi.head (fr':=[(0,Sl.v u7),(1,.int .i64 (Int.fdiv u5 (2 ^ (min (Int.toNat 7) 64))))]) ?_ FL
 exact hY6 _ _ h
end G
namespace Wi
open Go SL G Zt
variable{B:ZB}{ro I I':AH}{tag tag':Nat->Nat}
variable{Q:AH->Prop}{W n q r x:Nat}{s:Sl}{l p:Str}{a:Str×Bool}
def axy(n:Nat):aaU .u8 (IntKind.u8.wrap (n:Int)) 128=((n%128+128:Nat):Int):=by
 have h:∀ c:Fin 256,aaU .u8 ((c.val:Nat):Int) 128=((c.val%128+128:Nat):Int):=by decide+kernel
 have e:IntKind.u8.wrap (n:Int)=((n%256:Nat):Int):=by
  simp[IntKind.wrap,IntKind.bits,IntKind.signed]
 rw[e,h ⟨n%256,LX _ y1⟩]
 simp only
 omega
def asc(h:n<256):IntKind.u8.wrap (n:Int)=(n:Int):=by
 simp[IntKind.wrap,IntKind.bits,IntKind.signed];omega
def aq6(h:n<256):vU (UInt8.ofNat n)= .int .u8 (n:Int):=by
 unfold vU;rw[adn n h]
def aoU{n:Int}{Q:Bool->AH->Prop}(hQ:Q (qr n) I):aej B ro n I Q:=by
 refine an8 fun _=>?_
 unfold agE
 exact hQ
def awd{Q:Sl->AH->Prop}(hs:SL.Sep ro I)(hn:n<4611686018427387904)(hQ:∀ s tag' I',qd [1] ro tag I tag' I'->Row tag' I' 1 5 s ((qH n).map vU)->Q s I'):ais B ro ⟨none,0,0⟩ (n:Int) I Q:=by
 refine apy fun _=>?_
 unfold aiI
 suffices∀(m k:Nat) (acc:Str) (s:Sl) (tag1:Nat->Nat) (I1:AH),k<128 ^ (m+1)->acc.length+m<20->acc++qH k=qH n->qd [1] ro tag I tag1 I1->Row tag1 I1 1 5 s (acc.map vU)->lfpD (adb B ro Q) (s,(k:Int)) I1 from
  this 8 n [] ⟨none,0,0⟩ tag I z7 y1 rfl (qd.refl hs) (Row.nil 1 5)
 intro m
 induction m with
 | zero=>
  intro k acc s tag1 I1 hk ha he st r1
  have hk:k<128:=by simpa using hk
  refine lfpD.intro ?_
  unfold adb
  simp only
  rw[ma z7]
  unfold ada
  refine qf (tag:=tag1) 0 st.sep fun x tag2 I2 st2 r2=>?_
  rw[asc z7]at r2
  refine jm (l2:=[vU (UInt8.ofNat k)]) (r1.keep (st2 [])) (st2 []).sep (by rw[aq6 z7];exact r2.read (st2 []).sep) u30 ty5 rfl (by simp[qg]) j2 y1 fun s' tag3 I3 st3 r3=>?_
  refine⟨s',rfl,hQ s' tag3 I3 (st.trans ((st2 _).trans (st3 _ (.inr y0)))) ?_⟩
  rw[<-he]
  rw[qH,mc hk,my]
  exact r3
 | succ m ih=>
  intro k acc s tag1 I1 hk ha he st r1
  refine lfpD.intro ?_
  unfold adb
  simp only
  by_cases h128:128<=k
  .rw[mc z7]
   refine qf (tag:=tag1) 0 st.sep fun x tag2 I2 st2 r2=>?_
   rw[axy]at r2
   refine jm (l2:=[vU (UInt8.ofNat (k%128+128))]) (r1.keep (st2 [])) (st2 []).sep (by rw[aq6 z7];exact r2.read (st2 []).sep) u30 ty5 rfl (by simp[qg]) j2 y1 fun s' tag3 I3 st3 r3=>?_
   refine⟨s',rfl,?_⟩
   rw[show Int.fdiv (k:Int) (2 ^ (min (Int.toNat 7) 64))=((k / 128:Nat):Int) by
    rw[show(2:Int) ^ (min (Int.toNat 7) 64)=128 from by decide,Int.fdiv_eq_ediv_of_nonneg _ y1];omega]
   refine ih (k / 128) (acc++[UInt8.ofNat (k%128+128)]) s' tag3 I3 (by rw[Nat.pow_succ]at hk;exact Nat.div_lt_of_lt_mul (by rw[LB];exact hk)) j2 ?_ (st.trans ((st2 _).trans (st3 _ (.inr y0)))) (by rw[my];exact r3)
   rw[<-he,nl]
   conv=>rhs;rw[qH,ma z7]
   rfl
  .rw[ma z7]
   unfold ada
   refine qf (tag:=tag1) 0 st.sep fun x tag2 I2 st2 r2=>?_
   rw[asc z7]at r2
   refine jm (l2:=[vU (UInt8.ofNat k)]) (r1.keep (st2 [])) (st2 []).sep (by rw[aq6 z7];exact r2.read (st2 []).sep) u30 ty5 rfl (by simp[qg]) j2 y1 fun s' tag3 I3 st3 r3=>?_
   refine⟨s',rfl,hQ s' tag3 I3 (st.trans ((st2 _).trans (st3 _ (.inr y0)))) ?_⟩
   rw[<-he]
   rw[qH,mc z7,my]
   exact r3
def wS(a:Str×Bool)(n:Int):Str×Bool:=if qr n then(a.1++qH n.toNat,a.2)else(a.1,true)
def xi(a:Str×Bool)(n:Int):(wS a n).1.length<=a.1.length+9:=by
 unfold wS
 split
 .rename_i h
  unfold qr at h
  simp only[mu,mS]at h
  have:=(ub 8 n.toNat z7).2
  simp;omega
 .simp
def al5{n:Int}(h:vB tag I r W a.1 a.2)(hr:r≠1)(hs:SL.Sep ro I)(hl:a.1.length+9<=140737488355328)
  (hQ:∀ tag' I',qd [r,r+64,1] ro tag I tag' I'->vB tag' I' r W (wS a n).1 (wS a n).2->Q I'):pj B ro (some ⟨W,0,none⟩) n I Q:=by
 refine ajU fun _=>?_
 unfold acU
 refine aoU ?_
 unfold wS at hQ
 by_cases hn:qr n=true
 .rw[ma (by simp[hn])]
  simp only[hn,if_true]at hQ
  have hn':=hn
  unfold qr at hn'
  simp only[mu,mS]at hn'
  refine⟨_,rfl,?_⟩
  obtain⟨k,rfl⟩:=Int.eq_ofNat_of_zero_le hn'.1
  rw[mq]at hQ
  refine awd (tag:=tag) hs z7 fun s tag1 I1 st1 r1=>?_
  have hk:=(ub 8 k z7).2
  refine akX (d:=qH k) (h.keep st1 (j4 hr) y0) st1.sep z7 (by rw[r1.len];simp) (fun tag2 I2 st2=>(r1.keep st2 j2).read st2.sep) fun _ _ tag2 I2 st2 h2=>?_
  exact hQ tag2 I2 ((st1.mono y0).trans (st2.mono y0)) h2
 .rw[mc (j4 hn)]
  simp only[hn]at hQ
  obtain⟨s0,hcap,lr,h1,h2⟩:=h
  refine⟨_,rfl,?_⟩
  refine h1.st (i:=3) hs rfl y0 rfl fun I1 st1 r1=>?_
  exact hQ tag I1 (st1.mono y0) ⟨s0,hcap,lr,r1,h2.keep st1⟩
def ajV{Q:ZO->AH->Prop}(hQ:∀ W tag' I',(∀R,qd R ro tag I tag' I')->vB tag' I' r W [] false->Q (some ⟨W,0,none⟩) I'):aaY B ro I Q:=by
 refine akD fun hs=>?_
 unfold adH
 refine qf (tag:=tag) r hs fun W tag1 I1 st1 r1=>?_
 exact hQ W tag1 I1 st1 ⟨⟨none,0,0⟩,y1,0,r1,Row.nil _ _⟩
def awe:¬ (i64.wrap (0+1)<((1:Nat):Int)):=y1
def wm(a:Str×Bool)(p:Str):Str×Bool:=((wS a p.length).1++p,(wS a p.length).2)
def pJ(a:Str×Bool)(p:Str):(wm a p).1.length<=a.1.length+9+p.length:=by
 have:=xi a p.length
 unfold wm;simp;omega
def anz(h:vB tag I r W a.1 a.2)(hr:r≠1)(hq:q≠r/\q≠r+64/\q≠1)(hs:SL.Sep ro I)(hl:a.1.length+9+p.length<=140737488355328)(hx:Row tag I q 9 ⟨some ⟨x,0,none⟩,1,1⟩ [Pa.vS p])
  (hQ:∀ tag' I',qd [r,r+64,1] ro tag I tag' I'->vB tag' I' r W (wm a p).1 (wm a p).2->Q I'):vy B ro (some ⟨W,0,none⟩) ⟨some ⟨x,0,none⟩,1,1⟩ I Q:=by
 refine aeq fun _=>?_
 unfold un
 refine lfpD.intro ?_
 unfold kZ
 rw[mc y0]
 refine⟨_,rfl,y1,y0,S p,hx.cell1 hs,_,rfl,?_⟩
 have hlen:=xi a p.length
 rw[show((S p).size:Int)=(p.length:Nat)from by rw[<-kF,L_S]]
 refine al5 h hr hs z7 fun tag1 I1 st1 h1=>?_
 refine⟨_,rfl,?_⟩
 refine ahX h1 st1.sep (by rw[L_S];omega) fun _ _ tag2 I2 st2 h2=>?_
 rw[L_S]at h2
 refine lfpD.intro ?_
 rw[ma (show¬(i64.wrap (0+1)<((⟨some ⟨x,0,none⟩,1,1⟩:Sl).len:Int))from awe)]
 exact hQ tag2 I2 (st1.trans (st2.mono y0)) h2
def anA(h:vB tag I r W a.1 a.2)(hr:r≠1)(hq:q≠r/\q≠r+64/\q≠1)(hs:SL.Sep ro I)(hl:a.1.length+9+p.length<=140737488355328)(hx:Row tag I q 24 ⟨some ⟨x,0,none⟩,1,1⟩ [Sl.v s])(hsl:s.len=p.length)
  (hsrc:∀ tag' I',qd [r,r+64,1] ro tag I tag' I'->SL.qJ ro I' s (p.map vU)) (hQ:∀ tag' I',qd [r,r+64,1] ro tag I tag' I'->vB tag' I' r W (wm a p).1 (wm a p).2->Q I'):
  jR B ro (some ⟨W,0,none⟩) ⟨some ⟨x,0,none⟩,1,1⟩ I Q:=by
 refine aiH fun _=>?_
 unfold abF
 refine lfpD.intro ?_
 unfold aa7
 rw[mc y0]
 refine⟨_,rfl,y1,y0,s,hx.cell1 hs,_,rfl,?_⟩
 have hlen:=xi a p.length
 rw[hsl]
 refine al5 h hr hs z7 fun tag1 I1 st1 h1=>?_
 refine⟨_,rfl,?_⟩
 have wid:∀ x∈[r,r+64],x∈[r,r+64,1]:=fun x hx=>by
  simp only[mp,nj,or_false]at hx⊢
  rcases hx with h | h<;>simp[h]
 refine akX (d:=p) h1 st1.sep z7 hsl (fun tag2 I2 st2=>hsrc tag2 I2 (st1.trans (st2.mono wid))) fun _ _ tag2 I2 st2 h2=>?_
 refine lfpD.intro ?_
 rw[ma (show¬(i64.wrap (0+1)<((⟨some ⟨x,0,none⟩,1,1⟩:Sl).len:Int))from awe)]
 exact hQ tag2 I2 (st1.trans (st2.mono wid)) h2
def aqh(hr:r≠1)(hq:q≠r/\q≠r+64/\q≠1){ns:List Int}(h:vB tag I r W a.1 a.2)(hs:SL.Sep ro I)(hl:a.1.length+9*ns.length<=140737488355328)(hx:Row tag I q 3 s (ns.map Zt.vI))
  (hQ:∀ tag' I',qd [r,r+64,1] ro tag I tag' I'->vB tag' I' r W (ns.foldl wS a).1 (ns.foldl wS a).2->Q I'):wZ B ro (some ⟨W,0,none⟩) s I Q:=by
 refine ajk fun _=>?_
 unfold acl
 have hsl:s.len=ns.length:=by rw[hx.len,mg]
 suffices∀(m j:Nat) (tag1:Nat->Nat) (I1:AH),j+m=ns.length->qd [r,r+64,1] ro tag I tag1 I1->((ns.take j).foldl wS a).1.length<=a.1.length+9*j->vB tag1 I1 r W ((ns.take j).foldl wS a).1 ((ns.take j).foldl wS a).2->lfpD (jU B ro (some ⟨W,0,none⟩) s Q) (j:Int) I1 from
  this _ 0 tag I (ml _) (qd.refl hs) y0 (j4 h)
 intro m
 induction m with
 | zero=>
  intro j tag1 I1 hj st _ h1
  refine lfpD.intro ?_
  unfold jU
  rw[ma z7]
  rw[mD z7]at h1
  exact hQ tag1 I1 st h1
 | succ m ih=>
  intro j tag1 I1 hj st hln h1
  have hjl:j<ns.length:=by omega
  have hx1:=hx.keep st j2
  obtain⟨p,hp,hg⟩:=hx1.ptr st.sep j2
  refine lfpD.intro ?_
  unfold jU
  rw[mc z7]
  refine⟨p,hp,z7,z7,ns[j],?_,_,rfl,?_⟩
  .have:=hg j (Zt.vI ns[j]) (by rw[mh,md hjl];try rfl)
   rw[mq];exact this
  .refine al5 h1 hr st.sep z7 fun tag2 I2 st2 h2=>?_
   rw[Pa.inc j z7]
   have e:(ns.take (j+1)).foldl wS a=wS ((ns.take j).foldl wS a) ns[j]:=by
    rw[mK,md hjl,List.foldl_append];try rfl
   have:=xi ((ns.take j).foldl wS a) ns[j]
   exact ih (j+1) tag2 I2 z7 (st.trans st2) (by rw[e];omega) (by rw[e];exact h2)
def asd{Q:Sl->Int->AH->Prop}(h:vB tag I r W a.1 a.2)(hs:SL.Sep ro I)(hl:a.1.length<=140737488355328)
  (hbad:a.2=true->Q ⟨none,0,0⟩ 10 I) (hgood:a.2=false->∀ s tag' I',(∀R,qd R ro tag I tag' I')->Row tag' I' 6 5 s (a.1.map vU)->Q s 0 I'):aas B ro (some ⟨W,0,none⟩) I Q:=by
 refine ajR fun _=>?_
 unfold acR
 obtain⟨s0,hcap,lr,h1,h2⟩:=h
 obtain⟨p,hp,hg⟩:=h1.ptr hs y0
 cases hp
 refine⟨_,rfl,a.2,hg 3 _ rfl,?_⟩
 by_cases hb:a.2=true
 .rw[mc hb];exact hbad hb
 .rw[ma hb]
  refine⟨_,rfl,?_⟩
  refine ahW fun _=>?_
  unfold aa6
  refine⟨_,rfl,_,rfl,s0,hg 0 _ rfl,0,hg 1 _ rfl,⟨trivial,y1,by simp only[cutHi];omega⟩,?_⟩
  rw[show(⟨wv s0.a (Int.toNat 0) s0.cap 1,s0.len - Int.toNat 0,s0.cap - Int.toNat 0⟩:Sl)=s0 from by rw[show Int.toNat 0=0 from rfl,pI];try rfl]
  refine acg (tag:=tag) (h2.read hs) hs j2 (aov _) fun s' tag1 I1 st1 r1=>?_
  exact hgood (j4 hb) s' tag1 I1 st1 r1
def aw8(c:UInt8):abY .u8 (c.toNat:Int) 127=((c.toNat%128:Nat):Int):=by
 have h:∀ c:Fin 256,abY .u8 ((c.val:Nat):Int) 127=((c.val%128:Nat):Int):=by decide+kernel
 exact h ⟨c.toNat,auX c⟩
def aqi{i:Nat}(c:UInt8)(hi:i<=8)(hn:n<128 ^ i):
  aaU .i64 (n:Int) (i64.wrap ((i64.wrap (abY .u8 (c.toNat:Int) 127))*2 ^ (min (Int.toNat (i64.wrap (7*(i:Int)))) 64)))=((n+128 ^ i*(c.toNat%128):Nat):Int):=by
 have hm:c.toNat%128<128:=LX _ y1
 rw[aw8]
 generalize c.toNat%128=m at hm
 rw[qY (n:=(m:Int)) z7 z7,qY (n:=7*(i:Int)) z7 z7]
 have hp:(2:Int) ^ (min (Int.toNat (7*(i:Int))) 64)=((128 ^ i:Nat):Int):=by
  have:i=0\/i=1\/i=2\/i=3\/i=4\/i=5\/i=6\/i=7\/i=8:=by omega
  rcases this with rfl | rfl | rfl | rfl | rfl | rfl | rfl | rfl | rfl<;>decide
 rw[hp]
 have h8:128 ^ i<=128 ^ 8:=Nat.pow_le_pow_right y1 hi
 have h9:m*128 ^ i<=127*128 ^ 8:=Nat.mul_le_mul z7 h8
 have h9':m*128 ^ i<=9151314442816847872:=by simpa using h9
 have hn':n<72057594037927936:=Nat.lt_of_lt_of_le hn (j4 h8)
 rw[<-Int.natCast_mul,qY z7 z7]
 unfold aaU
 have e:(BitVec.ofInt IntKind.i64.bits (n:Int) ||| BitVec.ofInt IntKind.i64.bits ((m*128 ^ i:Nat):Int)).toNat=n+128 ^ i*m:=by
  rw[BitVec.toNat_or,BitVec.ofInt_natCast,BitVec.ofInt_natCast,BitVec.toNat_ofNat,BitVec.toNat_ofNat]
  rw[show IntKind.i64.bits=64 from rfl,nN z7,nN z7]
  have e2:128 ^ i=2 ^ (7*i):=by rw[Nat.pow_mul]
  rw[Nat.or_comm,LB m,e2,<-Nat.two_pow_add_eq_or_of_lt (by rw[<-e2];exact hn)]
  omega
 rw[e]
 have:128 ^ i*m=m*128 ^ i:=LB _ _
 rw[qY z7 z7]
def ase{Q:Int->Int->Int->AH->Prop}(h:SL.qJ ro I s (l.map vU))(hl:l.length<=140737488355328)(hQ:Q (num l).1 (num l).2.1 (num l).2.2 I):afB B ro s 0 I Q:=by
 refine amS fun _=>?_
 unfold afK
 have hln:s.len=l.length:=by rw[h.1,mg]
 rw[ma z7]
 refine⟨⟨trivial,y1,by simp only[cutHi];omega⟩,?_⟩
 have e0:(⟨wv s.a (Int.toNat 0) s.cap 1,s.len - Int.toNat 0,s.cap - Int.toNat 0⟩:Sl)=s:=by rw[show Int.toNat 0=0 from rfl,pI];try rfl
 suffices∀(m i:Nat),i+m=9->i<=l.length->(∀j c,j<i->l[j]?=some c->128<=c.toNat)->lfpD (aaJ B ro s 0 Q) (((val (l.take i):Nat):Int),(i:Int)) I from
  this 9 0 rfl (Nat.zero_le _) (fun j c h=>by omega)
 intro m
 induction m with
 | zero=>
  intro i hi hil hall
  have hi9:i=9:=by omega
  subst hi9
  refine lfpD.intro ?_
  unfold aaJ
  simp only[e0]
  have hnum:num l=(0,0,if l.length<9 then 12 else 13):=by unfold num;rw[ajK 9 l hall]
  have hj:yd B ro s 0 Q I:=by
   unfold yd
   rw[Int.sub_zero,qY z7 z7,mc z7]
   rw[hnum,ma z7]at hQ
   exact hQ
  by_cases hlt:9<l.length
  .rw[mc z7]
   have ha:s.a≠none:=fun hn=>by have:=h.2.1 hn;simp at this;subst this;simp at hlt
   obtain⟨p,hs⟩:∃ p,s.a=some p:=by
    cases hs:s.a with
    | none=>exact mt hs ha
    | some p=>exact⟨p,rfl⟩
   .skip
    refine⟨p,by rw[show Int.toNat 0=0 from rfl,pI,hs],y1,z7,(l[9].toNat:Int),?_,?_⟩
    .have:=h.2.2 p hs 9 (vU l[9]) (by rw[mh,md hlt];try rfl)
     exact this
    .rw[mc y1];exact hj
  .rw[ma z7];exact hj
 | succ m ih=>
  intro i hi hil hall
  refine lfpD.intro ?_
  unfold aaJ
  simp only[e0]
  by_cases hlt:i<l.length
  .rw[mc z7]
   have ha:s.a≠none:=fun hn=>by have:=h.2.1 hn;simp at this;subst this;simp at hlt
   obtain⟨p,hs⟩:∃ p,s.a=some p:=by
    cases hs:s.a with
    | none=>exact mt hs ha
    | some p=>exact⟨p,rfl⟩
   .skip
    refine⟨p,by rw[show Int.toNat 0=0 from rfl,pI,hs],z7,z7,(l[i].toNat:Int),?_,?_⟩
    .have:=h.2.2 p hs i (vU l[i]) (by rw[mh,md hlt];try rfl)
     rw[mq,mV];exact this
    .rw[ma z7]
     refine⟨by rw[qY z7 z7];omega,?_⟩
     rw[aqi l[i] z7 (aoP l i)]
     have hlen:(l.take i).length=i:=by simp;omega
     have hval:val (l.take i)+128 ^ i*(l[i].toNat%128)=val (l.take (i+1)):=by
      have e:l.take (i+1)=l.take i++[l[i]]:=by rw[mK,md hlt];try rfl
      rw[e,atF,hlen]
     rw[hval]
     by_cases hc:l[i].toNat<128
     .rw[mc z7]
      have hscan:abD 9 l=some i:=avj 9 l i l[i] z7 hall (md hlt) hc
      have hz:(l[i]?=some 0)↔l[i].toNat=0:=by
       rw[md hlt]
       refine⟨fun h=>by rw[mB h];try rfl,fun h=>mj some (aq3 h)⟩
      unfold num at hQ
      rw[hscan]at hQ
      simp only at hQ
      by_cases hz0:((l[i].toNat:Int)=0)/\((0:Int)<(i:Int))
      .rw[mc hz0]
       unfold pQ
       rw[mc rfl]
       rw[mc (.inl ⟨z7,hz.2 z7⟩)]at hQ
       exact hQ
      .rw[ma hz0]
       refine aoU ?_
       unfold pQ
       by_cases hr:4611686018427387904<=val (l.take (i+1))
       .rw[mc (by simp[qr];omega)]
        rw[mc (.inr hr)]at hQ
        exact hQ
       .rw[ma (by simp[qr];omega)]
        rw[ma (fun h=>by
         rcases h with⟨h1,h2⟩ | h
         .exact hz0 ⟨by rw[hz.1 h2];try rfl,z7⟩
         .exact hr h)]at hQ
        rw[Int.zero_add,aqi l[i] z7 (aoP l i),hval,qY (n:=(i:Int)) z7 z7,qY z7 z7]
        exact hQ
     .rw[ma z7]
      rw[Pa.inc i z7]
      refine ih (i+1) z7 z7 fun j c hj hjc=>?_
      rcases mM j i with h1 | h1
      .exact hall j c h1 hjc
      .have:j=i:=by omega
       subst this
       rw[md hlt]at hjc
       cases hjc;omega
  .rw[ma z7]
   have hnone:abD 9 l=none:=ajK 9 l fun j c _ hjc=>hall j c (by
    rcases mM j l.length with h | h
    .omega
    .rw[mG h]at hjc;cases hjc) hjc
   unfold num at hQ
   rw[hnone]at hQ
   simp only at hQ
   unfold yd
   rw[Int.sub_zero,qY z7 z7,ma z7]
   rw[mc z7]at hQ
   exact hQ
end Wi
namespace Zt
open Go SL G Pa Wi
variable{B:ZB}{ro I I':AH}{tag tag':Nat->Nat}
def awf:prog.underlying 5=some (.int .u8):=j0
def apz{P:Program}{f:ZC->ZA->Sem (ForInStep ByteArray)}(hf:∀ (c:UInt8) (r:ZA),f (vU c) r=Sem.pure (.yield (r.push c))):
  ∀(l:Str) (s:Str),(forIn (l.map vU) (S s) f:Sem ByteArray)=Sem.pure (S (s++l)):=by
 intro l
 induction l with
 | nil=>intro s;simp;rfl
 | cons c l ih=>
  intro s
  simp only[mF,List.forIn_cons]
  rw[hf]
  show(match ForInStep.yield ((S s).push c)with | _=>_:Sem ByteArray)=_
  have e:(S s).push c=S (s++[c]):=by unfold S;simp[ByteArray.push]
  show forIn (l.map vU) ((S s).push c) f=_
  rw[e,ih]
  simp
def amT{s:Sl}{l:Str}{K:ZC->AH->Prop}(h:SL.qJ ro I s (l.map vU))(hK:K (.string (S l)) I):awp prog ro (convert 24 9 (Sl.v s)) K I:=by
 unfold convert
 simp only[qy]
 rw[qx u30,qx u9]
 simp only[Sl.v]
 rw[qx awf]
 simp only
 unfold Conv.bytesToString
 cases hs:s.a with
 | none=>
  have:l=[]:=by have:=h.2.1 hs;simpa using this
  subst this
  exact hK
 | some p=>
  simp only
  rw[h.1]
  refine(vL _ _).2 ?_
  refine jI (l.map vU) 0 #[] (zx 0 fun j v hj=>by rw[ml];exact h.2.2 p hs j v hj) ?_
  simp only[nF,List.forIn_toArray,Array.empty_append]
  refine(vL _ _).2 ?_
  refine cast (mj (fun z=>awp prog ro z _ I) (apz (P:=prog) ?_ l [])).symm ?_
  .intro c r
   simp only[vU]
   show Sem.pure (ForInStep.yield (r.push (UInt8.ofNat (Int.toNat (c.toNat:Int)))))=_
   rw[mq];simp
  .exact hK
def avo{a b:Sl}{x y:Str}{Q:Bool->AH->Prop}(ha:SL.qJ ro I a (x.map vU))(hb:SL.qJ ro I b (y.map vU))(hQ:Q (decide (x=y)) I):ago B ro a b I Q:=by
 refine an6 fun _=>?_
 unfold agB
 refine amT ha ⟨S x,rfl,amT hb ⟨S y,rfl,?_⟩⟩
 rw[show decide (S x=S y)=decide (x=y)from by simp only[abL]]
 exact hQ
def jw(a:Str×Bool)(p:Str×Nd):Str×Bool:=[p.2.ver,p.2.ctr,p.2.own].foldl wS (wm (wm a p.1) p.2.data)
def adJ(a:Str×Bool)(n:Int)(h:a.2=true):(wS a n).2=true:=by unfold wS;split<;>simp[h]
def anB(a:Str×Bool)(p:Str)(h:a.2=true):(wm a p).2=true:=by unfold wm;exact adJ _ _ h
def asf(a:Str×Bool)(p:Str×Nd)(h:a.2=true):(jw a p).2=true:=by
 unfold jw
 simp only[mY,LK]
 exact adJ _ _ (adJ _ _ (adJ _ _ (anB _ _ (anB _ _ h))))
def aoV(a:Str×Bool)(p:Str)(h:p.length<=4611686018427387903):wm a p=(a.1++vR p,a.2):=by
 have hr:qr (p.length:Int)=true:=by simp[qr];omega
 unfold wm wS
 rw[mc hr]
 simp[vR]
def atN(a:Str×Bool)(p:Str×Nd)(h1:p.1.length<=4611686018427387903)(h2:p.2.data.length<=4611686018427387903)(h:yw p.2=true):jw a p=(a.1++ahA p,a.2):=by
 unfold yw at h
 simp only[mu]at h
 unfold jw
 rw[aoV _ _ h1,aoV _ _ h2]
 simp only[mY,LK]
 unfold wS
 rw[mc h.1.1,mc h.1.2,mc h.2]
 simp[ahA]
def atO(a:Str×Bool)(p:Str×Nd)(h:yw p.2=false):(jw a p).2=true:=by
 unfold jw
 simp only[mY,LK]
 unfold yw at h
 by_cases h1:qr p.2.ver=true
 .by_cases h2:qr p.2.ctr=true
  .have h3:¬ qr p.2.own=true:=by simpa [h1,h2]using h
   unfold wS;rw[ma h3]
  .refine adJ _ _ ?_
   unfold wS;rw[ma h2]
 .refine adJ _ _ (adJ _ _ ?_)
  unfold wS;rw[ma h1]
def asg(a:Str×Bool)(p:Str×Nd):(jw a p).1.length<=a.1.length+45+p.1.length+p.2.data.length:=by
 unfold jw
 simp only[mY,LK]
 have h1:=pJ a p.1
 have h2:=pJ (wm a p.1) p.2.data
 have h3:=xi (wm (wm a p.1) p.2.data) p.2.ver
 have h4:=xi (wS (wm (wm a p.1) p.2.data) p.2.ver) p.2.ctr
 have h5:=xi (wS (wS (wm (wm a p.1) p.2.data) p.2.ver) p.2.ctr) p.2.own
 omega
def ash(x:St)(a:Str×Bool)(h:a.2=true):(x.foldl jw a).2=true:=by
 induction x generalizing a with
 | nil=>exact h
 | cons p x ih=>exact ih _ (asf a p h)
def aw9(x:St)(hx:∀ p∈x,p.1.length<=4611686018427387903/\p.2.data.length<=4611686018427387903)(a:Str×Bool):
  (x.all (fun p=>yw p.2)=true->x.foldl jw a=(a.1++acQ x,a.2))/\(x.all (fun p=>yw p.2)=false->(x.foldl jw a).2=true):=by
 induction x generalizing a with
 | nil=>exact⟨fun _=>by simp[acQ],fun h=>by simp at h⟩
 | cons p x ih=>
  have hp:=hx p y0
  have:=ih (fun q hq=>hx q (by simp[hq])) (jw a p)
  refine⟨fun h=>?_,fun h=>?_⟩
  .simp only[LN,mu]at h
   rw[mY,this.1 h.2,atN a p hp.1 hp.2 h.1]
   simp[acQ]
  .rw[mY]
   cases hn:yw p.2 with
   | false=>exact ash _ _ (atO a p hn)
   | true=>exact this.2 (by simpa [hn]using h)
def asi{r T M:Nat}{bs:List Nat}{st:St}{Q:Sl->AH->Prop}(hr:r<64)(hr0:r≠0)(hr1:r≠1)(hr6:r≠6)(hr3:r≠30)(h:wa tag I r T M bs st)(hl:∀ p∈st,p.1.length<=128/\p.2.data.length<=256)(hn:st.length<=4294967296)
  (hQ:∀ (s:Sl) (tag':Nat->Nat) (I':AH),qd [30,94,1] ro tag I tag' I'->Row tag' I' 6 5 s ((amR st).map vU)->Q s I'):abx B ro (some ⟨T,0,none⟩) I Q:=by
 refine aiw fun hs=>?_
 unfold abA
 have hR:∀ x∈[30,94,1],x%64≠r%64/\x≠6:=fun x hx=>by
  simp only[mp,nj,or_false]at hx
  omega
 refine ajV (tag:=tag) (r:=30) fun W tag1 I1 st1 b1=>?_
 refine aiE (q:=22) (h.keep (st1 [])) (fun p hp=>(hl p hp).1) z7 fun s tag2 I2 ks st2 hpm hsrt hr2=>?_
 have hks:=aiD h.keys hpm hsrt
 have hsl:s.len=ks.length:=by rw[hr2.len,mg]
 have hkl:ks.length=(srt st).length:=by rw[hks,mg]
 have hkn:ks.length=st.length:=by rw[hpm.length_eq,mg]
 have hmem:∀ p∈srt st,p.1.length<=128/\p.2.data.length<=256:=fun p hp=>hl p ((zZ st).mem_iff.1 hp)
 suffices∀(m j:Nat) (tag3:Nat->Nat) (I3:AH),j+m=ks.length->qd [30,94,1] ro tag I tag3 I3->wa tag3 I3 r T M bs st->Row tag3 I3 22 9 s (ks.map Pa.vS)->(((srt st).take j).foldl jw ([],false)).1.length<=429*j->
   vB tag3 I3 30 W (((srt st).take j).foldl jw ([],false)).1 (((srt st).take j).foldl jw ([],false)).2->lfpD (ju B ro (some ⟨T,0,none⟩) (some ⟨W,0,none⟩) s Q) (j:Int) I3 from
  this _ 0 tag2 I2 (ml _) ((st1 _).trans (st2 _)) ((h.keep (st1 [])).keep (st2 [])) hr2 y0 (b1.keep (st2 []))
 intro m
 induction m with
 | zero=>
  intro j tag3 I3 hj hst hA hrow hlen hb
  refine lfpD.intro ?_
  unfold ju
  rw[ma z7]
  unfold pA
  rw[mD z7]at hb hlen
  have hw:=aw9 (srt st) (fun p hp=>by have:=hmem p hp;omega) ([],false)
  have hes:amR st=if(srt st).all (fun p=>yw p.2)=true then acQ (srt st)else []:=rfl
  refine asd hb hst.sep z7 (fun hbad=>?_) fun hgood s' tag4 I4 st4 r4=>?_
  .refine hQ _ tag3 I3 hst ?_
   rw[hes,ma (fun hall=>by rw[hw.1 hall]at hbad;cases hbad)]
   exact Row.nil 6 5
  .refine hQ s' tag4 I4 (hst.trans (st4 _)) ?_
   have hall:(srt st).all (fun p=>yw p.2)=true:=by
    cases e:(srt st).all (fun p=>yw p.2)with
    | true=>rfl
    | false=>rw[hw.2 e]at hgood;cases hgood
   rw[hes,mc hall]
   rw[hw.1 hall]at r4
   simpa using r4
 | succ m ih=>
  intro j tag3 I3 hj hst hA hrow hlen hb
  have hjl:j<ks.length:=by omega
  have hjs:j<(srt st).length:=by omega
  obtain⟨pp,hpp,_,hget⟩:=Row.sget hrow hst.sep hjl
  have hs3:=hst.sep
  refine lfpD.intro ?_
  unfold ju
  rw[mc z7]
  refine⟨pp,hpp,z7,z7,S ks[j],by rw[mq];exact hget j hjl,_,rfl,_,Row.cell1 hA.cell hs3,?_⟩
  refine ya hA.map hs3 u126 u9 aiA ?_
  have hkj:ks[j]=(srt st)[j].1:=by simp only[hks,List.getElem_map]
  have hnj:st.lookup ks[j]=some (srt st)[j].2:=by
   rw[qU h.keys,<-(zZ st).mem_iff,hkj]
   exact mJ hjs
  have hdl:=hmem _ (mJ hjs)
  rcases acf st bs ks[j] h.len with⟨a,_⟩ | ⟨i,b,n,a1,a2,a3,e⟩
  .rw[hnj]at a;cases a
  .rw[e]
   rw[hnj]at a3
   have hn:n=(srt st)[j].2:=(mB a3).symm
   refine⟨some ⟨b,0,none⟩,rfl,?_⟩
   refine qf (tag:=tag3) 0 hs3 fun x tag4 I4 st4 r4=>?_
   refine anz (r:=30) (q:=0) (p:=ks[j]) (hb.keep (st4 [])) y1 y1 (st4 []).sep (by rw[hkj];omega) r4 fun tag5 I5 st5 b5=>?_
   have hA5:=(hA.keep (st4 [])).keep st5 hR
   obtain⟨ds,hn1,hn2⟩:=hA5.nodes i b _ a1 a2
   obtain⟨q5,hq5,hg5⟩:=hn1.ptr st5.sep y0
   cases hq5
   refine⟨_,rfl,ds,hg5 4 _ rfl,?_⟩
   refine qf (tag:=tag5) 0 st5.sep fun y tag6 I6 st6 r6=>?_
   have hn26:=hn2.keep (st6 [])
   have hdn:n.data.length<=256:=by rw[hn];exact hdl.2
   have l5:=pJ (((srt st).take j).foldl jw ([],false)) ks[j]
   refine anA (r:=30) (q:=0) (p:=n.data) (b5.keep (st6 [])) y1 y1 (st6 []).sep (by rw[hkj]at l5 ⊢;omega) r6 (by rw[hn2.len,mg]) (fun tag7 I7 st7=>(hn26.keep st7 y1).read st7.sep) fun tag7 I7 st7 b7=>?_
   have hA7:=(hA5.keep (st6 [])).keep st7 hR
   obtain⟨ds7,hn17,hn27⟩:=hA7.nodes i b _ a1 a2
   obtain⟨q7,hq7,hg7⟩:=hn17.ptr st7.sep y0
   cases hq7
   refine⟨_,rfl,_,rfl,_,rfl,n.ver,hg7 0 _ rfl,n.ctr,hg7 1 _ rfl,n.own,hg7 2 _ rfl,?_⟩
   refine qf (tag:=tag7) 0 st7.sep fun z tag8 I8 st8 r8=>?_
   have l7:=pJ (wm (((srt st).take j).foldl jw ([],false)) ks[j]) n.data
   refine aqh (r:=30) (q:=0) (ns:=[n.ver,n.ctr,n.own]) y1 y1 (b7.keep (st8 [])) (st8 []).sep (by rw[hkj]at l5 l7 ⊢;simp;omega) r8 fun tag9 I9 st9 b9=>?_
   rw[Pa.inc j z7]
   have e1:((srt st).take (j+1)).foldl jw ([],false)=[n.ver,n.ctr,n.own].foldl wS (wm (wm (((srt st).take j).foldl jw ([],false)) ks[j]) n.data):=by
    rw[mK,md hjs,List.foldl_append,hn,hkj];try rfl
   have l9:=asg (((srt st).take j).foldl jw ([],false)) (srt st)[j]
   have e2:jw (((srt st).take j).foldl jw ([],false)) (srt st)[j]=((srt st).take (j+1)).foldl jw ([],false):=by
    rw[mK,md hjs,List.foldl_append];try rfl
   refine ih (j+1) tag9 I9 z7 (((((((hst.trans (st4 _)).trans st5).trans (st6 _)).trans st7).trans (st8 _)).trans st9)) ((hA7.keep (st8 [])).keep st9 hR) ((((((hrow.keep (st4 [])).keep st5 y1).keep (st6 [])).keep st7 y1).keep (st8 [])).keep st9 y1) ?_ ?_
   .rw[<-e2];omega
   .rw[e1];exact b9