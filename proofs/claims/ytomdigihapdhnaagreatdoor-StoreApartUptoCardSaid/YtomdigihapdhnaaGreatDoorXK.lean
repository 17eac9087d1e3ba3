import Derived.CallsIn
import Derived.RangeFuncWrites
import Derived.RangeFuncLeaves
import Derived.Test.YtomdigihapdhnaaGreatDoorXJ
set_option linter.all false
set_option maxRecDepth 99999
set_option maxHeartbeats 0
open Go.IntKind(i64)
open Go.Proofs.Tryz
namespace Go.Proofs.YtomdigihapdhnaaGreatDoor
namespace G
open Go SL
variable{B:ZB}{ro I:AH}
def acE(B:ZB)(ro:AH)(u0 u1:Nat)(Q:Int->Int->AH->Prop)(I:AH):=
 ∃u2 u3,qe ro I ⟨u1,0,none⟩ 0 [.int .i64 u2,.int .i64 u3]/\
 stN ⟨u0,0,none⟩ (fun I=>
 ∃u4 u5,qe ro I ⟨u0,0,none⟩ 0 [.int .i64 u4,.int .i64 u5]/\
 Q u4 u5 I) [.int .i64 u2,.int .i64 u3] 0 I
def acF(B:ZB)(ro:AH)(a0:ZO)(a1:Sl)(u0 u1:Nat)(u2:Int)(Q:Int->Int->AH->Prop)(Y6:Int->AH->Prop)(I:AH):=
 Y6 (i64.wrap (u2+1)) I
def yR(B:ZB)(ro:AH)(a0:ZO)(a1:Sl)(u0 u1:Nat)(u2:Int)(u3:ZA)(u4:Sl)(u5:Int)(Q:Int->Int->AH->Prop)(Y6:Int->AH->Prop)(Y13:Int->AH->Prop)(I:AH):=
 Y13 (i64.wrap (u5+1)) I
def uO(B:ZB)(ro:AH)(a0:ZO)(a1:Sl)(u0 u1:Nat)(u2:Int)(u3:ZA)(u4:Sl)(Q:Int->Int->AH->Prop)(Y6:Int->AH->Prop):Int->AH->(Int->AH->Prop)->Prop:=fun u5 I Y13=>
 if u5<(u4.len:Int)then
 ∃p6,u4.a=some p6/\(0:Int)<=u5/\u5<(u4.len:Int)/\
 ∃u7,qa ro I (p6.add (Int.toNat u5*1))=some (.string u7)/\
 pG B ro u7 I fun u8 u9 I=>
 if(¬(u8=u3))\/(u3=(⟨#[]⟩:ZA))then
  yR B ro a0 a1 u0 u1 u2 u3 u4 u5 Q Y6 Y13 I
 else
 yb B ro a0 u7 I fun u10 u11 u12 u13 u14 u15 I=>
 nw ro I (.cells #[.int .i64 0,.int .i64 0,.int .i64 0,.int .i64 0] 26) fun u16 I=>
 stN ⟨u16,0,none⟩ (fun I=>
  ∃u17,qa ro I ⟨u1,0,none⟩=some (.int .i64 u17)/\
  stN ⟨u1,0,none⟩ (fun I=>
  ∃u18,qa ro I ((⟨u1,0,none⟩:Addr).add 1)=some (.int .i64 u18)/\
  stN ((⟨u1,0,none⟩:Addr).add 1) (fun I=>
   yR B ro a0 a1 u0 u1 u2 u3 u4 u5 Q Y6 Y13 I) [.int .i64 (i64.wrap (u18+(i64.wrap ((u7.size:Int)+(u10.len:Int)))))] 0 I) [.int .i64 (i64.wrap (u17+1))] 0 I) [.int .i64 u11,.int .i64 u12,.int .i64 u13,.int .i64 u14] 0 I
 else
 acF B ro a0 a1 u0 u1 u2 Q Y6 I
def pR(B:ZB)(ro:AH)(a0:ZO)(a1:Sl)(u0 u1:Nat)(Q:Int->Int->AH->Prop):Int->AH->(Int->AH->Prop)->Prop:=fun u2 I Y6=>
 if u2<(a1.len:Int)then
 ∃p3,a1.a=some p3/\(0:Int)<=u2/\u2<(a1.len:Int)/\
 ∃u4,qa ro I (p3.add (Int.toNat u2*1))=some (.string u4)/\
 (⟨#[47]⟩:ZA).size+u4.size<=9223372036854775807/\
 ab4 B ro a0 ((⟨#[47]⟩:ZA)++u4) I fun u5 u6 I=>
 lfpD (uO B ro a0 a1 u0 u1 u2 u4 u5 Q Y6) (0) I
 else
 acE B ro u0 u1 Q I
def afM(B:ZB)(ro:AH)(a0:ZO)(a1:Sl)(I:AH)(Q:Int->Int->AH->Prop):=
 nw ro I (.cells #[.int .i64 0,.int .i64 0] 66) fun u0 I=>
 nw ro I (.cells #[.int .i64 0,.int .i64 0] 66) fun u1 I=>
 lfpD (pR B ro a0 a1 u0 u1 Q) (0) I
def amV{a0 a1 Q}(h:Sep ro I->afM B ro a0 a1 I Q):afA B ro a0 a1 I Q:=by
 refine zb h func26 ntmps26 fun h=>?_;unfold afM at h;refine zw ?_;refine zAp (qT rfl adr) h fun u0 h=>?_;refine zAp (qT rfl adr) h fun u1 h=>?_;refine AW.seqJ (fun fr I=>qo [(4,.pointer (some ⟨u0,0,none⟩)),(5,.pointer (some ⟨u1,0,none⟩))] fr/\acE B ro u0 u1 Q I) ?_ ?_
 .rintro fr I ⟨hl,h⟩;refine AW.weaken ?_ hl (HLe.refl _)
  unfold acE at h;refine zw ?_;obtain⟨u2,u3,hc,h⟩:=h
  refine zl (wq rfl nX rfl adr rfl hc ?_)
  refine zsp adr h fun I h=>?_;obtain⟨u4,u5,hc0,h⟩:=h
  exact xN results26 (wA (vN rfl nX rfl adr hc0) vM) ⟨_,_,rfl,h⟩
 refine zw ?_;refine zm (qC rfl rfl mx rfl rfl) ?_;refine zw ?_;refine qi.loop (fr':=[(0,.pointer a0),(4,.pointer (some ⟨u0,0,none⟩)),(5,.pointer (some ⟨u1,0,none⟩)),(17,Sl.v a1),(18,.int .i64 (a1.len:Int)),(19,.int .i64 0)]) ?_ FL
 refine h (fun u6 I=>qi _ _ _ _ _ _ [(0,.pointer a0),(4,.pointer (some ⟨u0,0,none⟩)),(5,.pointer (some ⟨u1,0,none⟩)),(17,Sl.v a1),(18,.int .i64 (a1.len:Int)),(19,.int .i64 u6)] I) ?_
 rintro u6 I Y6 hY6 h
 show AW _ _ _ _ _ _ _ _
 unfold pR at h;refine zw ?_;refine AW.seq ?_;refine zi h (fun h=>?_) fun h=>?_
 rotate_left
 .refine AW.exit ?_;refine zw ?_;refine qX ?_
  refine zw ?_;exact⟨FL,h⟩
 refine zw ?_;refine AW.seqJ (fun fr I=>qo [(0,.pointer a0),(4,.pointer (some ⟨u0,0,none⟩)),(5,.pointer (some ⟨u1,0,none⟩)),(17,Sl.v a1),(18,.int .i64 (a1.len:Int)),(19,.int .i64 u6)] fr/\acF B ro a0 a1 u0 u1 u6 Q Y6 I) ?_ ?_
 .rintro fr I ⟨hl,h⟩;refine AW.weaken ?_ hl (HLe.refl _)
  unfold acF at h;refine zw ?_;refine qi.head (fr':=[(0,.pointer a0),(4,.pointer (some ⟨u0,0,none⟩)),(5,.pointer (some ⟨u1,0,none⟩)),(17,Sl.v a1),(18,.int .i64 (a1.len:Int)),(19,.int .i64 (i64.wrap (u6+1)))]) ?_ FL
  exact hY6 _ _ h
 refine zw ?_;obtain⟨p7,ha,h0,h1,h⟩:=h
 refine zm (wO rfl mx ty9 (ixL rfl ha) rfl h0 h1) ?_;refine zLp mo h fun u8 h=>?_;obtain⟨hc,h⟩:=h
 refine zm (alO rfl rfl rfl hc) ?_;refine zc func27 h ?_;rintro v I ⟨u9,u10,rfl,h⟩;refine zw ?_;refine zm (qC rfl rfl mx rfl rfl) ?_;refine zw ?_;refine qi.loop (fr':=[(0,.pointer a0),(4,.pointer (some ⟨u0,0,none⟩)),(5,.pointer (some ⟨u1,0,none⟩)),(7,.string u8),(17,Sl.v a1),(18,.int .i64 (a1.len:Int)),(19,.int .i64 u6),(30,Sl.v u9),(31,.int .i64 (u9.len:Int)),(32,.int .i64 0)]) ?_ FL
 refine h (fun u11 I=>qi _ _ _ _ _ _ [(0,.pointer a0),(4,.pointer (some ⟨u0,0,none⟩)),(5,.pointer (some ⟨u1,0,none⟩)),(7,.string u8),(17,Sl.v a1),(18,.int .i64 (a1.len:Int)),(19,.int .i64 u6),(30,Sl.v u9),(31,.int .i64 (u9.len:Int)),(32,.int .i64 u11)] I) ?_
 rintro u11 I Y13 hY13 h
 show AW _ _ _ _ _ _ _ _
 unfold uO at h;refine zw ?_;refine AW.seq ?_;refine zi h (fun h=>?_) fun h=>?_
 rotate_left
 .refine AW.exit ?_;refine zw ?_;refine qX ?_
  refine zw ?_;exact⟨FL,h⟩
 refine zw ?_;refine AW.seqJ (fun fr I=>qo [(0,.pointer a0),(4,.pointer (some ⟨u0,0,none⟩)),(5,.pointer (some ⟨u1,0,none⟩)),(7,.string u8),(17,Sl.v a1),(18,.int .i64 (a1.len:Int)),(19,.int .i64 u6),(30,Sl.v u9),(31,.int .i64 (u9.len:Int)),(32,.int .i64 u11)] fr/\yR B ro a0 a1 u0 u1 u6 u8 u9 u11 Q Y6 Y13 I) ?_ ?_
 .rintro fr I ⟨hl,h⟩;refine AW.weaken ?_ hl (HLe.refl _)
  unfold yR at h;refine zw ?_;refine qi.head (fr':=[(0,.pointer a0),(4,.pointer (some ⟨u0,0,none⟩)),(5,.pointer (some ⟨u1,0,none⟩)),(7,.string u8),(17,Sl.v a1),(18,.int .i64 (a1.len:Int)),(19,.int .i64 u6),(30,Sl.v u9),(31,.int .i64 (u9.len:Int)),(32,.int .i64 (i64.wrap (u11+1)))]) ?_ FL
  exact hY13 _ _ h
 refine zw ?_;obtain⟨p12,ha,h0,h1,h⟩:=h
 refine zm (wO rfl mx ty9 (ixL rfl ha) rfl h0 h1) ?_;refine zLp mo h fun u13 h=>?_;refine AW.seq ?_;refine zc func81 h ?_;rintro v I ⟨u14,u15,rfl,h⟩;refine zw ?_;refine zm (ajw rfl rfl rfl) ?_;refine zw ?_;refine wY 3 (!(decide (u14=u8))) [(0,.pointer a0),(4,.pointer (some ⟨u0,0,none⟩)),(5,.pointer (some ⟨u1,0,none⟩)),(7,.string u8),(11,.string u13),(17,Sl.v a1),(18,.int .i64 (a1.len:Int)),(19,.int .i64 u6),(30,Sl.v u9),(31,.int .i64 (u9.len:Int)),(32,.int .i64 u11),(47,.bool ((!(decide (u14=u8))) || (decide (u8=(⟨#[]⟩:ZA)))))] ?_ ?_ ?_
 .intro e3 hk3
  refine zv e3 ?_;exact hk3 _ (Fe e3)
 .intro e3 hk3
  refine zv e3 ?_;exact hk3 _ (Fe e3)
 intro fr hl
 refine Lfr hl ?_
 refine zw ?_;refine AW.iff rfl (vr (qu me) me) h (fun h=>?_) (fun h=>?_)
 .refine AW.exit ?_;refine zw ?_;refine qX ?_
  refine zw ?_;exact⟨FL,h⟩
 refine zc func25 h ?_;rintro v I ⟨u16,u17,u18,u19,u20,u21,rfl,h⟩;refine zw ?_;refine zA (qT rfl wx) h fun u22 h=>?_;refine zs wx h fun I h=>?_;refine zf nX ty3 ?_;refine zL mf h fun u23 h=>?_;refine zf nX ty3 ?_;refine zs ty3 h fun I h=>?_;refine zf nX ty3 ?_;refine zLp mf h fun u24 h=>?_;refine zm (abZ rfl rfl mo rfl rfl) ?_
 refine zw ?_;refine zm (qC rfl rfl mn rfl rfl) ?_;refine zf nX ty3 ?_;refine zsp ty3 h fun I h=>?_;exact⟨FL,h⟩
def abQ(B:ZB)(ro:AH)(a0:ZO)(u0:Nat)(u1:ZO)(u2:Nat)(Q:Sl->Sl->Int->Int->AH->Prop)(I:AH):=
 ∃p3,u1=some p3/\
 ∃(u4:Option Nat),qe ro I p3 0 [.map u4]/\
 ∃p5,a0=some p5/\
 stN p5 (fun I=>
 stN ((⟨u2,0,none⟩:Addr).add 2) (fun I=>
  ∃u6 u7 u8,qe ro I ⟨u2,0,none⟩ 0 [Sl.v u6,Sl.v u7,.int .i64 u8]/\
  stN ⟨u0,0,none⟩ (fun I=>
  ∃u9 u10 u11,qe ro I ⟨u0,0,none⟩ 0 [Sl.v u9,Sl.v u10,.int .i64 u11]/\
  Q u9 u10 u11 0 I) [Sl.v u6,Sl.v u7,.int .i64 u8] 0 I) [.int .i64 (-1)] 0 I) [.map u4] 0 I
def uP(B:ZB)(ro:AH)(a0:ZO)(a4:Sl)(u0:Nat)(u1:ZO)(u2:Nat)(Q:Sl->Sl->Int->Int->AH->Prop):Int->AH->(Int->AH->Prop)->Prop:=fun u3 I Y16=>
 if u3<(a4.len:Int)then
 ∃p4,a4.a=some p4/\(0:Int)<=u3/\u3<(a4.len:Int)/\
 ∃u5 u6 u7 u8 u9 u10,qe ro I (p4.add (Int.toNat u3*6)) 0 [.int .i64 u5,.string u6,Sl.v u7,.int .i64 u8,.bool u9,.bool u10]/\
 nw ro I (.cells #[.int .i64 0,.string ByteArray.empty,Sl.v (⟨none,0,0⟩:Sl),.int .i64 0,.bool false,.bool false] 72) fun u11 I=>
 stN ⟨u11,0,none⟩ (fun I=>
  ∃u12 u13 u14 u15 u16 u17,qe ro I ⟨u11,0,none⟩ 0 [.int .i64 u12,.string u13,Sl.v u14,.int .i64 u15,.bool u16,.bool u17]/\
  ael B ro (some ⟨u2,0,none⟩) u12 u13 u14 u15 u16 u17 I fun u18 I=>
  if¬(u18=0)then
  stN ⟨u0,0,none⟩ (fun I=>
   ∃u19 u20 u21,qe ro I ⟨u0,0,none⟩ 0 [Sl.v u19,Sl.v u20,.int .i64 u21]/\
   Q u19 u20 u21 u18 I) [Sl.v (⟨none,0,0⟩:Sl),Sl.v (⟨none,0,0⟩:Sl),.int .i64 u3] 0 I
  else
  Y16 (i64.wrap (u3+1)) I) [.int .i64 u5,.string u6,Sl.v u7,.int .i64 u8,.bool u9,.bool u10] 0 I
 else
 abQ B ro a0 u0 u1 u2 Q I
def afN(B:ZB)(ro:AH)(a0:ZO)(a1:ZA)(a2 a3_0 a3_1:Int)(a4:Sl)(I:AH)(Q:Sl->Sl->Int->Int->AH->Prop):=
 nw ro I (.cells #[.int .i64 a3_0,.int .i64 a3_1] 66) fun u0 I=>
 nw ro I (.cells #[Sl.v (⟨none,0,0⟩:Sl),Sl.v (⟨none,0,0⟩:Sl),.int .i64 0] 348) fun u1 I=>
 if((a4.len:Int)=0)\/(16<(a4.len:Int))then
 stN ⟨u1,0,none⟩ (fun I=>
  ∃u2 u3 u4,qe ro I ⟨u1,0,none⟩ 0 [Sl.v u2,Sl.v u3,.int .i64 u4]/\
  Q u2 u3 u4 80 I) [Sl.v (⟨none,0,0⟩:Sl),Sl.v (⟨none,0,0⟩:Sl),.int .i64 0] 0 I
 else
 if(a2<1)\/(4611686018427387903<a2)then
 stN ⟨u1,0,none⟩ (fun I=>
  ∃u5 u6 u7,qe ro I ⟨u1,0,none⟩ 0 [Sl.v u5,Sl.v u6,.int .i64 u7]/\
  Q u5 u6 u7 10 I) [Sl.v (⟨none,0,0⟩:Sl),Sl.v (⟨none,0,0⟩:Sl),.int .i64 0] 0 I
 else
 abx B ro a0 I fun u8 I=>
 aeM B ro u8 I fun u9 u10 I=>
 ∃u11 u12,qe ro I ⟨u0,0,none⟩ 0 [.int .i64 u11,.int .i64 u12]/\
 nw ro I (.cells #[Sl.v (⟨none,0,0⟩:Sl),Sl.v (⟨none,0,0⟩:Sl),.int .i64 0,.pointer u9,.string a1,.int .i64 a2,.int .i64 u11,.int .i64 u12] 410) fun u13 I=>
 lfpD (uP B ro a0 a4 u1 u9 u13 Q) (0) I
def amW{a0 a1 a2 a3_0 a3_1 a4 Q}(h:Sep ro I->afN B ro a0 a1 a2 a3_0 a3_1 a4 I Q):adk B ro a0 a1 a2 a3_0 a3_1 a4 I Q:=by
 refine zb h func189 ntmps189 fun h=>?_;unfold afN at h;refine zw ?_;refine zA (wt rfl rfl) h fun u0 h=>?_;refine zAp (qT rfl jM) h fun u1 h=>?_;refine AW.seq ?_;refine zw ?_;refine zm (qC rfl rfl Lo rfl rfl) ?_;refine zw ?_;refine wY 4 (decide ((a4.len:Int)=0)) [(0,.pointer a0),(1,.string a1),(2,.int .i64 a2),(4,Sl.v a4),(8,.pointer (some ⟨u0,0,none⟩)),(10,.pointer (some ⟨u1,0,none⟩)),(26,.bool ((decide ((a4.len:Int)=0)) || (decide (16<(a4.len:Int)))))] ?_ ?_ ?_
 .intro e3 hk3
  refine zv e3 ?_;exact hk3 _ (Fe e3)
 .intro e3 hk3
  refine zy e3 ?_;refine qO (qC rfl rfl Lo rfl rfl) rfl rfl rfl rfl e3 ?_
  refine zv e3 ?_;exact hk3 _ (Fe e3)
 intro fr hl
 refine Lfr hl ?_
 refine zw ?_;refine AW.iff rfl (vr me me) h (fun h=>?_) (fun h=>?_)
 .refine zw ?_;refine zm (wB (vs:=[]) (cs:= #[Sl.v (⟨none,0,0⟩:Sl),Sl.v (⟨none,0,0⟩:Sl),.int .i64 0]) rfl nz jM aqU rfl rfl) ?_;refine zsp jM h fun I h=>?_;obtain⟨u2,u3,u4,hc0,h⟩:=h
  exact bRM results189 (wA (vN rfl nz rfl jM hc0) (wA (ahj rfl) vM)) ⟨_,_,_,_,rfl,h⟩
 refine zw ?_;refine wY 3 (decide (a2<1)) [(0,.pointer a0),(1,.string a1),(2,.int .i64 a2),(4,Sl.v a4),(8,.pointer (some ⟨u0,0,none⟩)),(10,.pointer (some ⟨u1,0,none⟩)),(34,.bool ((decide (a2<1)) || (decide (4611686018427387903<a2))))] ?_ ?_ ?_
 .intro e2 hk2
  refine zv e2 ?_;exact hk2 _ (Fe e2)
 .intro e2 hk2
  refine zv e2 ?_;exact hk2 _ (Fe e2)
 intro fr hl
 refine Lfr hl ?_
 refine zw ?_;refine AW.iff rfl (vr me me) h (fun h=>?_) (fun h=>?_)
 .refine zw ?_;refine zm (wB (vs:=[]) (cs:= #[Sl.v (⟨none,0,0⟩:Sl),Sl.v (⟨none,0,0⟩:Sl),.int .i64 0]) rfl nz jM aqU rfl rfl) ?_;refine zsp jM h fun I h=>?_;obtain⟨u5,u6,u7,hc0,h⟩:=h
  exact bRM results189 (wA (vN rfl nz rfl jM hc0) (wA (ahj rfl) vM)) ⟨_,_,_,_,rfl,h⟩
 refine zc func78 h ?_;rintro v I ⟨u8,rfl,h⟩;refine zc func77 h ?_;rintro v I ⟨u9,u10,rfl,h⟩;refine zw ?_;obtain⟨u11,u12,hc,h⟩:=h
 refine zl (wq rfl nX rfl adr rfl hc ?_)
 refine zm (wB (vs:=[(1,.pointer u9),(2,.string a1),(3,.int .i64 a2),(4,.agg #[.int .i64 u11,.int .i64 u12])]) (cs:= #[Sl.v (⟨none,0,0⟩:Sl),Sl.v (⟨none,0,0⟩:Sl),.int .i64 0,.pointer u9,.string a1,.int .i64 a2,.int .i64 u11,.int .i64 u12]) rfl nq awT aw5 rfl j0) ?_;refine zAp (wt rfl rfl) h fun u13 h=>?_;refine AW.seqJ (fun fr I=>qo [(0,.pointer a0),(10,.pointer (some ⟨u1,0,none⟩)),(12,.pointer u9),(14,.pointer (some ⟨u13,0,none⟩))] fr/\abQ B ro a0 u1 u9 u13 Q I) ?_ ?_
 .rintro fr I ⟨hl,h⟩;refine AW.weaken ?_ hl (HLe.refl _)
  unfold abQ at h;refine zN h fun p14 h=>?_;obtain⟨u15,hc,h⟩:=h
  refine zl (wq rfl nx rfl aot rfl hc ?_)
  refine zN h fun p16 h=>?_;refine zsp aot h fun I h=>?_;refine zm (kW rfl rfl) ?_;refine zf nq jM ?_;refine zf nz ty3 ?_;refine zsp ty3 h fun I h=>?_;refine zm (kW rfl rfl) ?_;refine zf nq jM ?_;obtain⟨u17,u18,u19,hc,h⟩:=h
  refine zl (wq rfl nz rfl jM rfl hc ?_)
  refine zsp jM h fun I h=>?_;obtain⟨u20,u21,u22,hc0,h⟩:=h
  exact bRM results189 (wA (vN rfl nz rfl jM hc0) (wA (ahj rfl) vM)) ⟨_,_,_,_,rfl,h⟩
 refine zw ?_;refine zm (qC rfl rfl Lo rfl rfl) ?_;refine zw ?_;refine qi.loop (fr':=[(0,.pointer a0),(10,.pointer (some ⟨u1,0,none⟩)),(12,.pointer u9),(14,.pointer (some ⟨u13,0,none⟩)),(48,Sl.v a4),(49,.int .i64 (a4.len:Int)),(50,.int .i64 0)]) ?_ FL
 refine h (fun u23 I=>qi _ _ _ _ _ _ [(0,.pointer a0),(10,.pointer (some ⟨u1,0,none⟩)),(12,.pointer u9),(14,.pointer (some ⟨u13,0,none⟩)),(48,Sl.v a4),(49,.int .i64 (a4.len:Int)),(50,.int .i64 u23)] I) ?_
 rintro u23 I Y16 hY16 h
 show AW _ _ _ _ _ _ _ _
 unfold uP at h;refine zw ?_;refine AW.seq ?_;refine zi h (fun h=>?_) fun h=>?_
 rotate_left
 .refine AW.exit ?_;refine zw ?_;refine qX ?_
  refine zw ?_;exact⟨FL,h⟩
 refine zw ?_;refine AW.seq ?_;refine zw ?_;obtain⟨p24,ha,h0,h1,h⟩:=h
 refine zm (wO rfl Lo aeL (ixL rfl ha) rfl h0 h1) ?_;obtain⟨u25,u26,u27,u28,u29,u30,hc,h⟩:=h
 refine zl (wq rfl mZ rfl aeL rfl hc ?_)
 refine zA (qT rfl aeL) h fun u31 h=>?_;refine zsp aeL h fun I h=>?_;obtain⟨u32,u33,u34,u35,u36,u37,hc,h⟩:=h
 refine zl (wq rfl mZ rfl aeL rfl hc ?_)
 refine zC func234 h fun u38 I h=>?_;refine AW.iff rfl (qu me) h (fun h=>?_) (fun h=>?_)
 rotate_left
 .refine zw ?_;refine qi.head (fr':=[(0,.pointer a0),(10,.pointer (some ⟨u1,0,none⟩)),(12,.pointer u9),(14,.pointer (some ⟨u13,0,none⟩)),(48,Sl.v a4),(49,.int .i64 (a4.len:Int)),(50,.int .i64 (i64.wrap (u23+1)))]) ?_ FL
  exact hY16 _ _ h
 refine zw ?_;refine zm (wB (vs:=[(2,.int .i64 u23)]) (cs:= #[Sl.v (⟨none,0,0⟩:Sl),Sl.v (⟨none,0,0⟩:Sl),.int .i64 u23]) rfl nz jM aqU rfl rfl) ?_;refine zsp jM h fun I h=>?_;obtain⟨u39,u40,u41,hc0,h⟩:=h
 exact bRM results189 (wA (vN rfl nz rfl jM hc0) (wA (ahj rfl) vM)) ⟨_,_,_,_,rfl,h⟩
def jB(B:ZB)(ro:AH)(Q:Int->AH->Prop)(I:AH):=
 Q 0 I
def jC(B:ZB)(ro:AH)(a0:ZO)(u0 u1 u2:Nat)(Q:Int->AH->Prop)(I:AH):=
 ∃p3,a0=some p3/\
 ∃u4,qa ro I p3=some (Sl.v u4)/\
 ∃u5 u6,qe ro I ⟨u1,0,none⟩ 0 [.string u5,.int .i64 u6]/\
 nw ro I (.cells #[.string u5,.int .i64 u6] 128) fun u7 I=>
 awp prog ro (Builtin.append_ #[23,23] 23 #[Sl.v u4,Sl.v (⟨some ⟨u7,0,none⟩,1,1⟩:Sl)]) (fun v I=> ∃(u8:Sl),v=Sl.v u8/\
 ∃p9,a0=some p9/\
 stN p9 (fun I=>
  ∃u10,qa ro I ⟨u0,0,none⟩=some (.int .i64 u10)/\
  if¬(u10=4)then
  ∃p11,a0=some p11/\
  ∃u12,qa ro I (p11.add 1)=some (Sl.v u12)/\
  ∃u13 u14,qe ro I ⟨u2,0,none⟩ 0 [.int .i64 u13,.string u14]/\
  nw ro I (.cells #[.int .i64 u13,.string u14] 336) fun u15 I=>
  awp prog ro (Builtin.append_ #[258,258] 258 #[Sl.v u12,Sl.v (⟨some ⟨u15,0,none⟩,1,1⟩:Sl)]) (fun v I=> ∃(u16:Sl),v=Sl.v u16/\
   ∃p17,a0=some p17/\
   stN (p17.add 1) (fun I=>
   jB B ro Q I) [Sl.v u16] 0 I) I
  else
  jB B ro Q I) [Sl.v u8] 0 I) I
def jD(B:ZB)(ro:AH)(a0:ZO)(u0 u1 u2:Nat)(Q:Int->AH->Prop)(u3:Bool)(I:AH):=
 if u3=true then
 Q 81 I
 else
 jC B ro a0 u0 u1 u2 Q I
def kj(B:ZB)(ro:AH)(a0:ZO)(u0 u1 u2:Nat)(Q:Int->AH->Prop)(u3:Bool)(I:AH):=
 if u3=true then
 ∃p4,a0=some p4/\
 ∃p5,a0=some p5/\
 ∃u6,qa ro I (p4.add 3)=some (.pointer u6)/\
 ∃u7,qa ro I (p5.add 4)=some (.string u7)/\
 nw ro I (.cells #[.string u7] 9) fun u8 I=>
 afA B ro u6 (⟨some ⟨u8,0,none⟩,1,1⟩:Sl) I fun u9 u10 I=>
 nw ro I (.cells #[.int .i64 0,.int .i64 0] 66) fun u11 I=>
 stN ⟨u11,0,none⟩ (fun I=>
  ∃p12,a0=some p12/\
  ∃u13,qa ro I ⟨u11,0,none⟩=some (.int .i64 u13)/\
  ∃u14,qa ro I (p12.add 6)=some (.int .i64 u14)/\
  if u14<u13 then
  jD B ro a0 u0 u1 u2 Q true I
  else
  ∃p15,a0=some p15/\
  ∃u16,qa ro I ((⟨u11,0,none⟩:Addr).add 1)=some (.int .i64 u16)/\
  ∃u17,qa ro I ((p15.add 6).add 1)=some (.int .i64 u17)/\
  jD B ro a0 u0 u1 u2 Q (decide (u17<u16)) I) [.int .i64 u9,.int .i64 u10] 0 I
 else
 jC B ro a0 u0 u1 u2 Q I
def zH(B:ZB)(ro:AH)(a0:ZO)(u0 u1 u2:Nat)(Q:Int->AH->Prop)(u3:Int)(I:AH):=
 if¬(u3=0)then
 Q u3 I
 else
 ∃u4,qa ro I ⟨u0,0,none⟩=some (.int .i64 u4)/\
 if u4=1 then
 kj B ro a0 u0 u1 u2 Q true I
 else
 ∃u5,qa ro I ⟨u0,0,none⟩=some (.int .i64 u5)/\
 kj B ro a0 u0 u1 u2 Q (decide (u5=3)) I
def jE(B:ZB)(ro:AH)(a0:ZO)(u0 u1 u2:Nat)(Q:Int->AH->Prop)(u3:Int)(I:AH):=
 ∃p4,a0=some p4/\
 ∃u5,qa ro I (p4.add 3)=some (.pointer u5)/\
 ∃u6,qa ro I ((⟨u0,0,none⟩:Addr).add 1)=some (.string u6)/\
 ∃u7,qa ro I ((⟨u0,0,none⟩:Addr).add 2)=some (Sl.v u7)/\
 ∃u8,qa ro I ((⟨u0,0,none⟩:Addr).add 5)=some (.bool u8)/\
 jS B ro u5 u6 u7 u3 u8 I fun u9 u10 I=>
 stN ⟨u1,0,none⟩ (fun I=>
 ∃u11,qa ro I ⟨u1,0,none⟩=some (.string u11)/\
 stN ((⟨u2,0,none⟩:Addr).add 1) (fun I=>
  zH B ro a0 u0 u1 u2 Q u10 I) [.string u11] 0 I) [.string u9] 0 I
def xj(B:ZB)(ro:AH)(a0:ZO)(u0 u1 u2:Nat)(u3:Int)(Q:Int->AH->Prop)(u4:Bool)(I:AH):=
 if u4=true then
 zH B ro a0 u0 u1 u2 Q 72 I
 else
 zH B ro a0 u0 u1 u2 Q u3 I
def kk(B:ZB)(ro:AH)(a0:ZO)(u0 u1 u2 u3:Nat)(u4:Int)(Q:Int->AH->Prop)(u5:Bool)(I:AH):=
 if u5=true then
 ∃u6,qa ro I ((⟨u0,0,none⟩:Addr).add 3)=some (.int .i64 u6)/\
 ∃u7,qa ro I ⟨u3,0,none⟩=some (.int .i64 u7)/\
 xj B ro a0 u0 u1 u2 u4 Q (!(decide (u6=u7))) I
 else
 xj B ro a0 u0 u1 u2 u4 Q false I
def aes(B:ZB)(ro:AH)(a0:ZO)(a1_0:Int)(a1_1:ZA)(a1_2:Sl)(a1_3:Int)(a1_4 a1_5:Bool)(I:AH)(Q:Int->AH->Prop):=
 nw ro I (.cells #[.int .i64 a1_0,.string a1_1,Sl.v a1_2,.int .i64 a1_3,.bool a1_4,.bool a1_5] 72) fun u0 I=>
 ∃u1 u2 u3 u4 u5 u6,qe ro I ⟨u0,0,none⟩ 0 [.int .i64 u1,.string u2,Sl.v u3,.int .i64 u4,.bool u5,.bool u6]/\
 aby B ro a0 u1 u2 u3 u4 u5 u6 I fun u7 I=>
 if¬(u7=0)then
 Q u7 I
 else
 nw ro I (.cells #[.string ByteArray.empty,.int .i64 0] 128) fun u8 I=>
 ∃u9,qa ro I ⟨u0,0,none⟩=some (.int .i64 u9)/\
 ∃u10,qa ro I ((⟨u0,0,none⟩:Addr).add 1)=some (.string u10)/\
 nw ro I (.cells #[.int .i64 0,.string ByteArray.empty] 336) fun u11 I=>
 stN ⟨u11,0,none⟩ (fun I=>
 ∃u12,qa ro I ⟨u0,0,none⟩=some (.int .i64 u12)/\
 if u12=1 then
  ∃u13,qa ro I ((⟨u0,0,none⟩:Addr).add 4)=some (.bool u13)/\
  if u13=true then
  ∃p14,a0=some p14/\
  ∃u15,qa ro I (p14.add 5)=some (.int .i64 u15)/\
  jE B ro a0 u0 u8 u11 Q u15 I
  else
  jE B ro a0 u0 u8 u11 Q 0 I
 else
 if u12=2 then
  ∃p16,a0=some p16/\
  ∃u17,qa ro I (p16.add 3)=some (.pointer u17)/\
  ∃u18,qa ro I ((⟨u0,0,none⟩:Addr).add 1)=some (.string u18)/\
  ∃u19,qa ro I ((⟨u0,0,none⟩:Addr).add 3)=some (.int .i64 u19)/\
  jT B ro u17 u18 u19 I fun u20 I=>
  zH B ro a0 u0 u8 u11 Q u20 I
 else
 if u12=3 then
  ∃p21,a0=some p21/\
  ∃u22,qa ro I (p21.add 3)=some (.pointer u22)/\
  ∃u23,qa ro I ((⟨u0,0,none⟩:Addr).add 1)=some (.string u23)/\
  ∃u24,qa ro I ((⟨u0,0,none⟩:Addr).add 2)=some (Sl.v u24)/\
  ∃u25,qa ro I ((⟨u0,0,none⟩:Addr).add 3)=some (.int .i64 u25)/\
  ady B ro u22 u23 u24 u25 I fun u26 u27 I=>
  stN ((⟨u8,0,none⟩:Addr).add 1) (fun I=>
  zH B ro a0 u0 u8 u11 Q u27 I) [.int .i64 u26] 0 I
 else
 if u12=4 then
  nw ro I (.cells #[.int .i64 0,.int .i64 0,.int .i64 0,.int .i64 0] 26) fun u28 I=>
  ∃p29,a0=some p29/\
  ∃u30,qa ro I (p29.add 3)=some (.pointer u30)/\
  ∃u31,qa ro I ((⟨u0,0,none⟩:Addr).add 1)=some (.string u31)/\
  yb B ro u30 u31 I fun u32 u33 u34 u35 u36 u37 I=>
  stN ⟨u28,0,none⟩ (fun I=>
  if u37=0 then
   ∃u38,qa ro I ((⟨u0,0,none⟩:Addr).add 3)=some (.int .i64 u38)/\
   kk B ro a0 u0 u8 u11 u28 u37 Q (!(decide (u38=(-1)))) I
  else
  kk B ro a0 u0 u8 u11 u28 u37 Q false I) [.int .i64 u33,.int .i64 u34,.int .i64 u35,.int .i64 u36] 0 I
 else
 zH B ro a0 u0 u8 u11 Q 0 I) [.int .i64 u9,.string u10] 0 I
def ali{a0 a1_0 a1_1 a1_2 a1_3 a1_4 a1_5 Q}(h:Sep ro I->aes B ro a0 a1_0 a1_1 a1_2 a1_3 a1_4 a1_5 I Q):ael B ro a0 a1_0 a1_1 a1_2 a1_3 a1_4 a1_5 I Q:=by
 refine zb h func234 ntmps234 fun h=>?_;unfold aes at h;refine zw ?_;refine zAp (wt rfl rfl) h fun u0 h=>?_;refine AW.seq ?_;refine zw ?_;obtain⟨u1,u2,u3,u4,u5,u6,hc,h⟩:=h
 refine zl (wq rfl mZ rfl aeL rfl hc ?_)
 refine zC func272 h fun u7 I h=>?_;refine AW.iff rfl (qu me) h (fun h=>?_) (fun h=>?_)
 .exact zr h
 refine zw ?_;refine zA (qT rfl abM) h fun u8 h=>?_;refine zf mZ ty3 ?_;refine zL mf h fun u9 h=>?_;refine zf mZ ty9 ?_;refine zL mo h fun u10 h=>?_;refine zm (wB (vs:=[(0,.int .i64 u9),(1,.string u10)]) (cs:= #[.int .i64 u9,.string u10]) rfl nR acA auT rfl rfl) ?_;refine zA (qT rfl acA) h fun u11 h=>?_;refine zsp acA h fun I h=>?_
 refine AW.seqJ (fun fr I=> ∃(u12:Int),qo [(0,.pointer a0),(3,.pointer (some ⟨u0,0,none⟩)),(6,.pointer (some ⟨u8,0,none⟩)),(8,.pointer (some ⟨u11,0,none⟩)),(7,.int .i64 u12)] fr/\zH B ro a0 u0 u8 u11 Q u12 I) ?_ ?_
 .rintro fr I ⟨u12,hl,h⟩;refine AW.weaken ?_ hl (HLe.refl _)
  unfold zH at h;refine AW.seq ?_;refine zw ?_;refine AW.iff rfl (qu me) h (fun h=>?_) (fun h=>?_)
  .exact zr h
  refine zw ?_;refine AW.seqJ (fun fr I=>qo [(0,.pointer a0),(3,.pointer (some ⟨u0,0,none⟩)),(6,.pointer (some ⟨u8,0,none⟩)),(8,.pointer (some ⟨u11,0,none⟩))] fr/\jC B ro a0 u0 u8 u11 Q I) ?_ ?_
  .rintro fr I ⟨hl,h⟩;refine AW.weaken ?_ hl (HLe.refl _)
   unfold jC at h;refine AW.seq ?_;refine AW.drawn0 (fun i=>([0,0,0,0,0,3,3,1,2,0,0,0,2]:List Nat).getD i 2) [(6,7),(6,8)] [0,1,2,3,4,5,6,7,8,9,10,11,12] mixed j3 ?_
   refine zM h fun p13 h=>?_;refine zg nq jM ?_;refine zg nz aeI ?_;refine zR nM h fun u14 h=>?_;obtain⟨u15,u16,hc,h⟩:=h
   refine Dr rfl rfl rfl rfl (jh rfl Lc rfl abM rfl hc) ?_
   refine Da rfl rfl rfl rfl (wj (vs:=[(0,.agg #[.string u15,.int .i64 u16])]) (cs:= #[.string u15,.int .i64 u16]) rfl nM abM y1 rfl rfl) fun u17 g1 g2=>?_
   replace h:=h u17 g1 g2
   refine Dg rfl rfl rfl rfl (vZ (s:=Builtin.append_ #[23,23] 23 #[Sl.v u14,Sl.v (⟨some ⟨u17,0,none⟩,1,1⟩:Sl)]) rfl rfl (fun _=>rfl) (qk _ h ?_))
   rintro v I ⟨u18,rfl,h⟩;refine zM h fun p19 h=>?_;refine zg nq jM ?_;refine zg nz aeI ?_;refine Dg rfl rfl rfl rfl (us rfl aeI rfl rfl rfl rfl (zY h fun I h=>?_))
   refine wG ?_
   refine zw ?_;refine AW.seqJ (fun fr I=>qo [] fr/\jB B ro Q I) ?_ ?_
   .rintro fr I ⟨hl,h⟩;refine AW.weaken ?_ hl (HLe.refl _)
    unfold jB at h;exact zr h
   refine zf mZ ty3 ?_;refine zLp mf h fun u20 h=>?_;refine AW.iff rfl (qu me) h (fun h=>?_) (fun h=>?_)
   rotate_left
   .refine zw ?_;exact⟨FL,h⟩
   refine AW.drawn0 (fun i=>([0,0,0,0,0,3,3,1,2,0,0,0,2]:List Nat).getD i 2) [(6,7),(6,8)] [0,1,2,3,4,5,6,7,8,9,10,11,12] mixed j3 ?_
   refine zM h fun p21 h=>?_;refine zg nq jM ?_;refine zg nz aiq ?_;refine zR Lr h fun u22 h=>?_;obtain⟨u23,u24,hc,h⟩:=h
   refine Dr rfl rfl rfl rfl (jh rfl nR rfl acA rfl hc) ?_
   refine Da rfl rfl rfl rfl (wj (vs:=[(0,.agg #[.int .i64 u23,.string u24])]) (cs:= #[.int .i64 u23,.string u24]) rfl Lr acA y1 rfl rfl) fun u25 g1 g2=>?_
   replace h:=h u25 g1 g2
   refine Dg rfl rfl rfl rfl (vZ (s:=Builtin.append_ #[258,258] 258 #[Sl.v u22,Sl.v (⟨some ⟨u25,0,none⟩,1,1⟩:Sl)]) rfl rfl (fun _=>rfl) (qk _ h ?_))
   rintro v I ⟨u26,rfl,h⟩;refine zM h fun p27 h=>?_;refine zg nq jM ?_;refine zg nz aiq ?_;refine Dg rfl rfl rfl rfl (us rfl aiq rfl rfl rfl rfl (zY h fun I h=>?_))
   refine wG ?_
   refine zw ?_;exact⟨FL,h⟩
  refine zf mZ ty3 ?_;refine zLp mf h fun u28 h=>?_;refine qI 4 (decide (u28=1)) me h (fun fr I=> ∃(u29:Bool),qo [(0,.pointer a0),(3,.pointer (some ⟨u0,0,none⟩)),(6,.pointer (some ⟨u8,0,none⟩)),(8,.pointer (some ⟨u11,0,none⟩)),(117,.bool u29)] fr/\kj B ro a0 u0 u8 u11 Q u29 I) ?_ ?_ ?_
  .intro h e3 hk3;refine zv e3 ?_;exact hk3 _ _ ⟨_,FL,h⟩
  .intro h e3 hk3;refine qO (qW rfl mZ rfl ty3 y1 rfl) rfl rfl rfl rfl e3 ?_
   obtain⟨u30,hc,h⟩:=h
   refine Lyb rfl rfl rfl rfl e3 (vc rfl mf rfl rfl hc ?_)
   refine zv e3 ?_;exact hk3 _ _ ⟨_,FL,h⟩
  rintro fr I ⟨u29,hl,h⟩;unfold kj at h;refine Lfr hl ?_
  refine zj h (fun h=>?_) fun h=>?_
  rotate_left
  .refine zw ?_;exact⟨FL,h⟩
  refine AW.seq ?_;refine AW.drawn0 (fun i=>([0,0,0,3,0,0,0,3,1,2,1,2]:List Nat).getD i 2) [(7,8),(7,9)] [0,1,2,4,5,6,3,7,8,9,10,11] mixed j3 ?_
  refine zM h fun p31 h=>?_;refine zg nq aeK ?_;refine zM h fun p32 h=>?_;refine zg nq ty9 ?_;refine zR nY h fun u33 h=>?_;refine zR mo h fun u34 h=>?_;refine Da rfl rfl rfl rfl (wj (vs:=[(0,.string u34)]) (cs:= #[.string u34]) rfl mx ty9 y1 rfl rfl) fun u35 g1 g2=>?_
  replace h:=h u35 g1 g2
  refine zG func26 h ?_;rintro v I ⟨u36,u37,rfl,h⟩;refine Da rfl rfl rfl rfl (qT rfl adr) fun u38 g1 g2=>?_
  replace h:=h u38 g1 g2
  refine Dg rfl rfl rfl rfl (us rfl adr rfl rfl rfl rfl (zY h fun I h=>?_))
  refine wG ?_
  refine zw ?_;refine AW.seqJ (fun fr I=> ∃(u39:Bool),qo [(0,.pointer a0),(3,.pointer (some ⟨u0,0,none⟩)),(6,.pointer (some ⟨u8,0,none⟩)),(8,.pointer (some ⟨u11,0,none⟩)),(145,.bool u39)] fr/\jD B ro a0 u0 u8 u11 Q u39 I) ?_ ?_
  .rintro fr I ⟨u39,hl,h⟩;refine AW.weaken ?_ hl (HLe.refl _)
   unfold jD at h;refine zj h (fun h=>?_) fun h=>?_
   rotate_left
   .refine zw ?_;exact⟨FL,h⟩
   exact zr h
  refine AW.drawn0 (fun i=>([0,3,0,0,0,0,3,0,0,0,3,0,0,0,0,3,0,0]:List Nat).getD i 2) [] [0,2,3,4,5,1,6,7,8,9,11,12,13,14,10,15,16,17] mixed j3 ?_
  refine zg nX ty3 ?_;refine zM h fun p40 h=>?_;refine zg nq adr ?_;refine zg nX ty3 ?_;refine zR mf h fun u41 h=>?_;refine zR mf h fun u42 h=>?_;refine zw ?_;refine agk (decide (u42<u41)) me h ?_ ?_
  .intro h e8
   refine Dpn rfl rfl rfl rfl rfl (.inl (by rw[e8];try rfl)) rfl ?_
   refine Dpn rfl rfl rfl rfl rfl (.inl (by rw[e8];try rfl)) rfl ?_
   refine Dpn rfl rfl rfl rfl rfl (.inl (by rw[e8];try rfl)) rfl ?_
   refine Dpn rfl rfl rfl rfl rfl (.inl (by rw[e8];try rfl)) rfl ?_
   refine Dpn rfl rfl rfl rfl rfl (.inl (by rw[e8];try rfl)) rfl ?_
   refine Drn rfl rfl rfl rfl rfl (.inl (by rw[e8];try rfl)) rfl ?_
   refine Drn rfl rfl rfl rfl rfl (.inl (by rw[e8];try rfl)) rfl ?_
   refine Dpn rfl rfl rfl rfl rfl (.inl (by rw[e8];try rfl)) rfl ?_
   refine Dp rfl rfl rfl rfl (pN rfl (evb e8) rfl) ?_
   refine wG ?_
   refine zw ?_;exact⟨_,FL,h⟩
  intro h e8
  refine Dpy rfl rfl rfl rfl rfl e8 rfl (qW rfl nX rfl ty3 y1 rfl) ?_
  refine Dpy rfl rfl rfl rfl rfl e8 rfl (jQ rfl rfl) ?_
  obtain⟨p43,hc,h⟩:=h
  refine Dpy rfl rfl rfl rfl rfl e8 rfl (kW rfl (by rw[<-hc];try rfl)) ?_
  refine Dpy rfl rfl rfl rfl rfl e8 rfl (qW rfl nq rfl adr y1 rfl) ?_
  refine Dpy rfl rfl rfl rfl rfl e8 rfl (qW rfl nX rfl ty3 y1 rfl) ?_
  obtain⟨u44,hc,h⟩:=h
  refine Dry rfl rfl rfl rfl rfl e8 rfl (ahi rfl mf rfl rfl hc) ?_
  obtain⟨u45,hc,h⟩:=h
  refine Dry rfl rfl rfl rfl rfl e8 rfl (ahi rfl mf rfl rfl hc) ?_
  refine Dpy rfl rfl rfl rfl rfl e8 rfl (alK rfl rfl rfl) ?_
  refine Dp rfl rfl rfl rfl (ux rfl (evb e8) rfl) ?_
  refine wG ?_
  refine zw ?_;exact⟨_,FL,h⟩
 refine zf mZ ty3 ?_;refine zL mf h fun u46 h=>?_;refine zi h (fun h=>?_) fun h=>?_
 .refine zw ?_;refine AW.seqJ (fun fr I=> ∃(u47:Int),qo [(0,.pointer a0),(3,.pointer (some ⟨u0,0,none⟩)),(6,.pointer (some ⟨u8,0,none⟩)),(8,.pointer (some ⟨u11,0,none⟩)),(9,.int .i64 u47)] fr/\jE B ro a0 u0 u8 u11 Q u47 I) ?_ ?_
  rotate_left
  .refine zf mZ ty4 ?_;refine zL Lg h fun u48 h=>?_;refine zj h (fun h=>?_) fun h=>?_
   rotate_left
   .refine zw ?_;exact⟨_,FL,h⟩
   refine zN h fun p49 h=>?_;refine zf nq ty3 ?_;refine zLp mf h fun u50 h=>?_;exact⟨_,FL,h⟩
  rintro fr I ⟨u47,hl,h⟩;refine AW.weaken ?_ hl (HLe.refl _)
  unfold jE at h;refine AW.seq ?_;refine AW.drawn0 (fun i=>([0,0,0,3,0,3,0,3,0,0,3,2,0,0,0,0,2,0]:List Nat).getD i 2) [] [0,1,2,4,6,8,9,3,5,7,10,11,12,13,14,15,16,17] mixed j3 ?_
  refine zM h fun p51 h=>?_;refine zg nq aeK ?_;refine zg mZ ty9 ?_;refine zg mZ wg ?_;refine zg mZ ty4 ?_;refine zR nY h fun u52 h=>?_;refine zR mo h fun u53 h=>?_;refine zR mn h fun u54 h=>?_;refine zR Lg h fun u55 h=>?_;refine zG func122 h ?_;rintro v I ⟨u56,u57,rfl,h⟩;refine zg Lc ty9 ?_
  refine Dg rfl rfl rfl rfl (us rfl ty9 rfl rfl rfl rfl (zY h fun I h=>?_))
  refine zw ?_;refine wG ?_
  refine zf Lc ty9 ?_;refine zL mo h fun u58 h=>?_;refine zf nR ty9 ?_;refine zsp ty9 h fun I h=>?_;exact⟨_,FL,h⟩
 refine zi h (fun h=>?_) fun h=>?_
 .refine AW.drawn0 (fun i=>([0,0,0,3,0,3,0,3,2,0]:List Nat).getD i 2) [] [0,1,2,4,6,3,5,7,8,9] mixed j3 ?_
  refine zM h fun p59 h=>?_;refine zg nq aeK ?_;refine zg mZ ty9 ?_;refine zg mZ ty3 ?_;refine zR nY h fun u60 h=>?_;refine zR mo h fun u61 h=>?_;refine zR mf h fun u62 h=>?_;refine zG func184 h ?_;rintro v I ⟨u63,rfl,h⟩;refine zw ?_;refine wG ?_
  refine zw ?_;exact⟨_,FL,h⟩
 refine zi h (fun h=>?_) fun h=>?_
 .refine AW.drawn0 (fun i=>([0,0,0,3,0,3,0,3,0,3,2,0,0,0,0,2,0]:List Nat).getD i 2) [] [0,1,2,4,6,8,3,5,7,9,10,11,12,13,14,15,16] mixed j3 ?_
  refine zM h fun p64 h=>?_;refine zg nq aeK ?_;refine zg mZ ty9 ?_;refine zg mZ wg ?_;refine zg mZ ty3 ?_;refine zR nY h fun u65 h=>?_;refine zR mo h fun u66 h=>?_;refine zR mn h fun u67 h=>?_;refine zR mf h fun u68 h=>?_;refine zG func273 h ?_;rintro v I ⟨u69,u70,rfl,h⟩;refine zg Lc ty3 ?_
  refine Dg rfl rfl rfl rfl (us rfl ty3 rfl rfl rfl rfl (zY h fun I h=>?_))
  refine zw ?_;refine wG ?_
  refine zw ?_;exact⟨_,FL,h⟩
 refine zi h (fun h=>?_) fun h=>?_
 rotate_left
 .refine zw ?_;exact⟨_,FL,h⟩
 refine zw ?_;refine zAp (qT rfl wx) h fun u71 h=>?_;refine AW.seq ?_;refine AW.drawn0 (fun i=>([0,0,0,3,0,3,2,0,0,0,0,2,0]:List Nat).getD i 2) [] [0,1,2,4,3,5,6,7,8,9,10,11,12] mixed j3 ?_
 refine zM h fun p72 h=>?_;refine zg nq aeK ?_;refine zg mZ ty9 ?_;refine zR nY h fun u73 h=>?_;refine zR mo h fun u74 h=>?_;refine zG func25 h ?_;rintro v I ⟨u75,u76,u77,u78,u79,u80,rfl,h⟩;refine zw ?_;refine Dg rfl rfl rfl rfl (us rfl wx rfl rfl rfl rfl (zY h fun I h=>?_))
 refine zw ?_;refine wG ?_
 refine zw ?_;refine qI 4 (decide (u80=0)) me h (fun fr I=> ∃(u81:Bool),qo [(0,.pointer a0),(3,.pointer (some ⟨u0,0,none⟩)),(6,.pointer (some ⟨u8,0,none⟩)),(7,.int .i64 u80),(8,.pointer (some ⟨u11,0,none⟩)),(10,.pointer (some ⟨u71,0,none⟩)),(99,.bool u81)] fr/\kk B ro a0 u0 u8 u11 u71 u80 Q u81 I) ?_ ?_ ?_
 .intro h e2 hk2;refine qO (qW rfl mZ rfl ty3 y1 rfl) rfl rfl rfl rfl e2 ?_
  obtain⟨u82,hc,h⟩:=h
  refine Lyb rfl rfl rfl rfl e2 (vc rfl mf rfl rfl hc ?_)
  refine zv e2 ?_;exact hk2 _ _ ⟨_,FL,h⟩
 .intro h e2 hk2;refine zv e2 ?_;exact hk2 _ _ ⟨_,FL,h⟩
 rintro fr I ⟨u81,hl,h⟩;unfold kk at h;refine Lfr hl ?_
 refine zw ?_;refine qI 6 u81 Iff.rfl h (fun fr I=> ∃(u83:Bool),qo [(0,.pointer a0),(3,.pointer (some ⟨u0,0,none⟩)),(6,.pointer (some ⟨u8,0,none⟩)),(7,.int .i64 u80),(8,.pointer (some ⟨u11,0,none⟩)),(106,.bool u83)] fr/\xj B ro a0 u0 u8 u11 u80 Q u83 I) ?_ ?_ ?_
 .intro h e7 hk7;refine qO (qW rfl mZ rfl ty3 y1 rfl) rfl rfl rfl rfl e7 ?_
  obtain⟨u84,hc,h⟩:=h
  refine Lyb rfl rfl rfl rfl e7 (vc rfl mf rfl rfl hc ?_)
  refine qO (qW rfl mE rfl ty3 y1 rfl) rfl rfl rfl rfl e7 ?_
  obtain⟨u85,hc,h⟩:=h
  refine Lyb rfl rfl rfl rfl e7 (vc rfl mf rfl rfl hc ?_)
  refine zv e7 ?_;exact hk7 _ _ ⟨_,FL,h⟩
 .intro h e7 hk7;refine zv e7 ?_;exact hk7 _ _ ⟨_,FL,h⟩
 rintro fr I ⟨u83,hl,h⟩;unfold xj at h;refine Lfr hl ?_
 refine zj h (fun h=>?_) fun h=>?_
 rotate_left
 .refine zw ?_;exact⟨_,FL,h⟩
 refine zw ?_;exact⟨_,FL,h⟩
def vh(B:ZB)(ro:AH)(Q:Int->AH->Prop)(u0:Bool)(I:AH):=
 if u0=true then
 Q 82 I
 else
 Q 0 I
def wD(B:ZB)(ro:AH)(a0:ZO)(u0:Nat)(u1:Sl)(u2:Int)(Q:Int->AH->Prop)(u3:Bool)(I:AH):=
 if u3=true then
 Q 80 I
 else
 if¬(u2=0)then
 Q u2 I
 else
 if(u1.len:Int)=0 then
 vh B ro Q true I
 else
 ∃p4,u1.a=some p4/\(0:Int)<=0/\0<(u1.len:Int)/\
 ∃p5,a0=some p5/\
 ∃u6,qa ro I (p4.add (Int.toNat 0*1))=some (.string u6)/\
 ∃u7,qa ro I (p5.add 4)=some (.string u7)/\
 if¬(u6=u7)then
 vh B ro Q true I
 else
 if(u1.len:Int)=1 then
 ∃u8,qa ro I ⟨u0,0,none⟩=some (.int .i64 u8)/\
 vh B ro Q (decide (u8<=2)) I
 else
 vh B ro Q false I
def abG(B:ZB)(ro:AH)(a0:ZO)(a1_0:Int)(a1_1:ZA)(a1_2:Sl)(a1_3:Int)(a1_4 a1_5:Bool)(I:AH)(Q:Int->AH->Prop):=
 nw ro I (.cells #[.int .i64 a1_0,.string a1_1,Sl.v a1_2,.int .i64 a1_3,.bool a1_4,.bool a1_5] 72) fun u0 I=>
 ∃u1,qa ro I ((⟨u0,0,none⟩:Addr).add 1)=some (.string u1)/\
 vD B ro u1 I fun u2 u3 I=>
 ∃u4,qa ro I ⟨u0,0,none⟩=some (.int .i64 u4)/\
 if u4<1 then
 wD B ro a0 u0 u2 u3 Q true I
 else
 ∃u5,qa ro I ⟨u0,0,none⟩=some (.int .i64 u5)/\
 wD B ro a0 u0 u2 u3 Q (decide (4<u5)) I
def aiK{a0 a1_0 a1_1 a1_2 a1_3 a1_4 a1_5 Q}(h:Sep ro I->abG B ro a0 a1_0 a1_1 a1_2 a1_3 a1_4 a1_5 I Q):aby B ro a0 a1_0 a1_1 a1_2 a1_3 a1_4 a1_5 I Q:=by
 refine zb h func272 ntmps272 fun h=>?_;unfold abG at h;refine zw ?_;refine zA (wt rfl rfl) h fun u0 h=>?_;refine zf mZ ty9 ?_;refine zL mo h fun u1 h=>?_;refine zc func134 h ?_;rintro v I ⟨u2,u3,rfl,h⟩;refine zw ?_;refine AW.seq ?_;refine zf mZ ty3 ?_;refine zLp mf h fun u4 h=>?_;refine qI 4 (decide (u4<1)) me h (fun fr I=> ∃(u5:Bool),qo [(0,.pointer a0),(3,.pointer (some ⟨u0,0,none⟩)),(5,Sl.v u2),(6,.int .i64 u3),(21,.bool u5)] fr/\wD B ro a0 u0 u2 u3 Q u5 I) ?_ ?_ ?_
 .intro h e3 hk3;refine zv e3 ?_;exact hk3 _ _ ⟨_,FL,h⟩
 .intro h e3 hk3;refine qO (qW rfl mZ rfl ty3 y1 rfl) rfl rfl rfl rfl e3 ?_
  obtain⟨u6,hc,h⟩:=h
  refine Lyb rfl rfl rfl rfl e3 (vc rfl mf rfl rfl hc ?_)
  refine zv e3 ?_;exact hk3 _ _ ⟨_,FL,h⟩
 rintro fr I ⟨u5,hl,h⟩;unfold wD at h;refine Lfr hl ?_
 refine zj h (fun h=>?_) fun h=>?_
 .exact zr h
 refine zw ?_;refine AW.iff rfl (qu me) h (fun h=>?_) (fun h=>?_)
 .exact zr h
 refine AW.seqJ (fun fr I=> ∃(u7:Bool),qo [(26,.bool u7)] fr/\vh B ro Q u7 I) ?_ ?_
 .rintro fr I ⟨u7,hl,h⟩;refine AW.weaken ?_ hl (HLe.refl _)
  unfold vh at h;refine zj h (fun h=>?_) fun h=>?_
  .exact zr h
  exact zr h
 refine AW.drawn0 (fun i=>([0,0,0,0,0,0,3,0,0,0,3,0,0,0,0,0,0,0,0,3,0,0,0,0]:List Nat).getD i 2) [] [0,1,2,3,4,5,7,8,9,6,10,11,12,13,14,15,16,17,18,19,20,21,22,23] mixed j3 ?_
 refine zw ?_;refine Dp rfl rfl rfl rfl (qC rfl rfl mx rfl rfl) ?_
 refine zw ?_;refine agk (decide ((u2.len:Int)=0)) me h ?_ ?_
 .intro h e3
  refine Dpn rfl rfl rfl rfl rfl (.inl (by rw[e3];try rfl)) rfl ?_
  refine Dpn rfl rfl rfl rfl rfl (.inl (by rw[e3];try rfl)) rfl ?_
  refine Dpn rfl rfl rfl rfl rfl (.inl (by rw[e3];try rfl)) rfl ?_
  refine Dpn rfl rfl rfl rfl rfl (.inl (by rw[e3];try rfl)) rfl ?_
  refine Dpn rfl rfl rfl rfl rfl (.inl (by rw[e3];try rfl)) rfl ?_
  refine Drn rfl rfl rfl rfl rfl (.inl (by rw[e3];try rfl)) rfl ?_
  refine Drn rfl rfl rfl rfl rfl (.inl (by rw[e3];try rfl)) rfl ?_
  refine Dpn rfl rfl rfl rfl rfl (.inl (by rw[e3];try rfl)) rfl ?_
  refine Dp rfl rfl rfl rfl (pN rfl (evb e3) rfl) ?_
  refine zw ?_;refine Dpn rfl rfl rfl rfl rfl (.inl rfl) rfl ?_
  refine Dpn rfl rfl rfl rfl rfl (.inl rfl) rfl ?_
  refine Dpn rfl rfl rfl rfl rfl (.inl rfl) rfl ?_
  refine Dpn rfl rfl rfl rfl rfl (.inl rfl) rfl ?_
  refine Dpn rfl rfl rfl rfl rfl (.inr rfl) rfl ?_
  refine Drn rfl rfl rfl rfl rfl (.inr rfl) rfl ?_
  refine Dpn rfl rfl rfl rfl rfl (.inr rfl) rfl ?_
  refine Dpn rfl rfl rfl rfl rfl (.inl rfl) rfl ?_
  refine Dp rfl rfl rfl rfl (pN rfl (evb rfl) rfl) ?_
  refine zw ?_;refine wG ?_
  refine zw ?_;exact⟨_,FL,h⟩
 intro h e3
 refine Dpy rfl rfl rfl rfl rfl e3 rfl (jQ rfl rfl) ?_
 obtain⟨p8,ha,h0,h1,h⟩:=h
 refine Dpy rfl rfl rfl rfl rfl e3 rfl (wO rfl mx ty9 (ixL rfl ha) rfl h0 h1) ?_
 refine Dpy rfl rfl rfl rfl rfl e3 rfl (jQ rfl rfl) ?_
 obtain⟨p9,hc,h⟩:=h
 refine Dpy rfl rfl rfl rfl rfl e3 rfl (kW rfl (by rw[<-hc];try rfl)) ?_
 refine Dpy rfl rfl rfl rfl rfl e3 rfl (qW rfl nq rfl ty9 y1 rfl) ?_
 obtain⟨u10,hc,h⟩:=h
 refine Dry rfl rfl rfl rfl rfl e3 rfl (ahi rfl mo rfl rfl hc) ?_
 obtain⟨u11,hc,h⟩:=h
 refine Dry rfl rfl rfl rfl rfl e3 rfl (ahi rfl mo rfl rfl hc) ?_
 refine Dpy rfl rfl rfl rfl rfl e3 rfl (ajw rfl rfl rfl) ?_
 refine Dp rfl rfl rfl rfl (ux rfl (evb e3) rfl) ?_
 refine zw ?_;refine agk (!(decide (u10=u11))) (qu me) h ?_ ?_
 .intro h e13
  refine Dpn rfl rfl rfl rfl rfl (.inl (by rw[e13];try rfl)) rfl ?_
  refine Dpn rfl rfl rfl rfl rfl (.inl (by rw[e13];try rfl)) rfl ?_
  refine Dpn rfl rfl rfl rfl rfl (.inl (by rw[e13];try rfl)) rfl ?_
  refine Dpn rfl rfl rfl rfl rfl (.inl (by rw[e13];try rfl)) rfl ?_
  refine Dpn rfl rfl rfl rfl rfl (.inr rfl) rfl ?_
  refine Drn rfl rfl rfl rfl rfl (.inr rfl) rfl ?_
  refine Dpn rfl rfl rfl rfl rfl (.inr rfl) rfl ?_
  refine Dpn rfl rfl rfl rfl rfl (.inl (by rw[e13];try rfl)) rfl ?_
  refine Dp rfl rfl rfl rfl (pN rfl (evb e13) rfl) ?_
  refine zw ?_;refine wG ?_
  refine zw ?_;exact⟨_,FL,h⟩
 intro h e13
 refine Dpy rfl rfl rfl rfl rfl e13 rfl (jQ rfl rfl) ?_
 refine Dpy rfl rfl rfl rfl rfl e13 rfl (qC rfl rfl mx rfl rfl) ?_
 refine Dpy rfl rfl rfl rfl rfl e13 rfl (alL rfl rfl rfl) ?_
 refine Dpy rfl rfl rfl rfl rfl e13 rfl (jQ rfl rfl) ?_
 refine agk (decide ((u2.len:Int)=1)) me h ?_ ?_
 rotate_left
 .intro h e17
  refine Dpn rfl rfl rfl rfl rfl (.inl (by rw[e17];try rfl)) rfl ?_
  refine Drn rfl rfl rfl rfl rfl (.inl (by rw[e17];try rfl)) rfl ?_
  refine Dpn rfl rfl rfl rfl rfl (.inl (by rw[e17];try rfl)) rfl ?_
  refine Dpy rfl rfl rfl rfl rfl e13 rfl (ux rfl (evb e17) rfl) ?_
  refine Dp rfl rfl rfl rfl (ux rfl (evb e13) rfl) ?_
  refine zw ?_;refine wG ?_
  refine zw ?_;exact⟨_,FL,h⟩
 intro h e17
 refine Dpy rfl rfl rfl rfl rfl e17 rfl (qW rfl mZ rfl ty3 y1 rfl) ?_
 obtain⟨u12,hc,h⟩:=h
 refine Dry rfl rfl rfl rfl rfl e17 rfl (ahi rfl mf rfl rfl hc) ?_
 refine Dpy rfl rfl rfl rfl rfl e17 rfl (aoh rfl rfl rfl) ?_
 refine Dpy rfl rfl rfl rfl rfl e13 rfl (pN rfl (evb e17) rfl) ?_
 refine Dp rfl rfl rfl rfl (ux rfl (evb e13) rfl) ?_
 refine zw ?_;refine wG ?_
 refine zw ?_;exact⟨_,FL,h⟩
end G
namespace Zt
open Go SL G Pa
variable{B:ZB}{ro I I':AH}{tag tag':Nat->Nat}
variable{s:ZA}{owner qb qn:Int}{eff:List (Int×Str)}{l:List (List Value)}{res:List (Str×Int)}{C bs:List Nat}{hs ps:List Str}{o:MOp}{T W b c n r r' w:Nat}{tg:Nat->Nat}{ds:Sl}{Q:Sl->Int->AH->Prop}{st:St}{home:Str}{e:TypeId}
def aiL(r:Nat)(g:ze ro)(hs:SL.Sep ro I)(hnone:parts (L s)=none->∀ tag' I',qd [] ro tag I tag' I'->Q ⟨none,0,0⟩ 20 I')
  (hsome:∀ ps,parts (L s)=some ps->∀ sl tag' I',qd [] ro tag I tag' I'->Row tag' I' r 9 sl (ps.map Pa.vS)->Q sl 0 I'):vD B ro s I Q:=by
 have base:vD B ro s (fun _=>none) (fun sl e I'=>(parts (L s)=none/\e=20/\sl=⟨none,0,0⟩)\/∃ ps tag',parts (L s)=some ps/\e=0/\Row tag' I' r 9 sl (ps.map Pa.vS)):=
  Pa.anp (tag:=fun _=>0) r g (fun h _=> .inl ⟨h,rfl,rfl⟩) fun ps h sl tag' I' _ hr=> .inr ⟨ps,tag',h,rfl,hr⟩
 have fr:=ajB (ψ:=I) base (fun b o h=>by cases h)
 have e:join (fun _=>none) I=I:=by funext b;rfl
 rw[e]at fr
 refine akx fr ?_
 rintro sl ev I' hsep ⟨τ,rfl,hd,hq⟩
 have keep:∀ (tg:Nat->Nat),(∀b,τ b=none->tg b=tag b)->qd [] ro tag I tg (join τ I):=fun tg htg=>by
  have hn:∀ b o,I b=some o->τ b=none:=fun b o ho=>by
   cases h:τ b with
   | none=>rfl
   | some x=>have:=hd b x h;rw[ho]at this;cases this
  refine⟨fun b o ho _=>⟨htg b (hn b o ho),uE hd ho⟩,fun b o ho=>⟨htg b (hn b o ho),o,uE hd ho⟩,hsep⟩
 rcases hq with⟨h,rfl,rfl⟩ | ⟨ps,tg,h,rfl,hr⟩
 .exact hnone h tag _ (keep tag fun _ _=>rfl)
 .refine hsome ps h sl (fun b=>if(τ b).isSome then tg b else tag b) _ (keep _ fun b hb=>by simp[hb]) ?_
  rcases hr with h | ⟨b,cs,ha,ht,hb,hx⟩
  .exact .inl h
  .exact .inr ⟨b,cs,ha,by simp[hb,ht],by unfold join;rw[hb],hx⟩
def anD(r:Nat)(g:ze ro)(hs:SL.Sep ro I)(hnone:parts (L s)=none->∀ sl tag' I',qd [] ro tag I tag' I'->Q sl 20 I')
  (hsome:∀ ps,parts (L s)=some ps->∀ sl tag' I',qd [] ro tag I tag' I'->Row tag' I' r 9 sl (ps.map Pa.vS)->Q sl 0 I'):vD B ro s I Q:=aiL r g hs (fun h tag' I' st=>hnone h _ tag' I' st) hsome
def amX{Q:ZA->Int->AH->Prop}(g:ze ro)(hps:parts (L s)=some ps)(hQ:∀ tag' I',qd [] ro tag I tag' I'->Q (S ((qq (L s)).getD [])) 0 I'):pG B ro s I Q:=by
 refine agu fun hs=>?_
 unfold ac6
 refine anD (tag:=tag) 0 g hs (fun h=>by rw[hps]at h;cases h) fun ps' h sl tag1 I1 st1 r1=>?_
 rw[hps]at h;cases h
 have hln:sl.len=ps.length:=by rw[r1.len,mg]
 have hh:=yy hps
 by_cases h0:ps=[]
 .subst h0
  rw[mc (by rw[hln];try rfl)]
  rw[hh]at hQ
  exact hQ tag1 I1 st1
 .have hpos:=nI.2 h0
  rw[ma z7]
  obtain⟨p,hp,_,hget⟩:=Row.sget r1 st1.sep hpos
  refine⟨p,hp,y1,z7,_,hget 0 hpos,?_⟩
  rw[hh,List.head?_eq_getElem?,md hpos]at hQ
  exact hQ tag1 I1 st1
def atR{M q0:Nat}{s:Sl}{Q:Int->Int->AH->Prop}(g:ze ro)(hr:r<64)(hr':r∉[0,2,3,4,6,20])(h:wa tag I r T M bs st)(hi:Inv st)(hn:st.length<=4294967296)
  (hrow:Row tag I q0 9 s (hs.map Pa.vS)) (hq0:q0%64∉[0,2,3,4,20]) (hhl:∀ x∈hs,x.length<=4611686018427387903) (hhn:hs.length<=1024)
  (hQ:∀ tag' I',StepS [0,2,3,4,20] ro tag I tag' I'->Q ((adc st hs).1:Nat) ((adc st hs).2:Nat) I'):afA B ro (some ⟨T,0,none⟩) s I Q:=by
 refine amV fun hsep=>?_
 unfold afM
 simp only[mp,nj,or_false,not_or]at hr' hq0
 refine qf (tag:=tag) 2 hsep fun x4 tag1 I1 st1 r1=>?_
 refine qf (tag:=tag1) 3 (st1 []).sep fun x5 tag2 I2 st2 r2=>?_
 have hsl:s.len=hs.length:=by rw[hrow.len,mg]
 have hpaths:∀ p∈st,∃ps,parts p.1=some ps:=fun p hp=>hi.path _ _ ((qU hi.keys (k:=p.1) (n:=p.2)).2 hp)
 let acc (j:Nat):Nat×Nat:=adc st (hs.take j)
 have hacc:∀ j,j<=hs.length->(acc j).1<=j*st.length/\(acc j).2<=j*(384*st.length):=by
  intro j
  induction j with
  | zero=>intro _;exact⟨by simp[acc,adc],by simp[acc,adc]⟩
  | succ j ih=>
   intro hj
   have:=ih z7
   have hu:=aoY hi hs[j]
   have e:acc (j+1)=((acc j).1+(zh st hs[j]).1,(acc j).2+(zh st hs[j]).2):=by
    simp only[acc,adc]
    rw[mK,md z7,List.foldl_append];try rfl
   rw[e]
   simp only[Lb,Nat.one_mul]
   omega
 have hbound:∀ j,j<=hs.length->(acc j).1<=4398046511104/\(acc j).2<=1688849860263936:=fun j hj=>by
  have h1:=hacc j hj
  have h2:j*st.length<=1024*4294967296:=Nat.mul_le_mul z7 hn
  have h3:j*(384*st.length)<=1024*(384*4294967296):=Nat.mul_le_mul z7 (nO _ hn)
  omega
 suffices∀(m j:Nat) (tag3:Nat->Nat) (I3:AH),j+m=hs.length->StepS [0,2,3,4,20] ro tag I tag3 I3->wa tag3 I3 r T M bs st->Row tag3 I3 q0 9 s (hs.map Pa.vS)->Row tag3 I3 2 66 ⟨some ⟨x4,0,none⟩,2,2⟩ [vI 0,vI 0]->Row tag3 I3 3 66 ⟨some ⟨x5,0,none⟩,2,2⟩ [vI (acc j).1,vI (acc j).2]->
   lfpD (pR B ro (some ⟨T,0,none⟩) s x4 x5 Q) (j:Int) I3 from
  this _ 0 tag2 I2 (ml _) (((st1 []).s y0).trans ((st2 []).s y0)) ((h.keep (st1 [])).keep (st2 [])) ((hrow.keep (st1 [])).keep (st2 [])) (r1.keep (st2 [])) r2
 intro m
 induction m with
 | zero=>
  intro j tag3 I3 hj hst hA hrow3 h4 h5
  refine lfpD.intro ?_
  unfold pR
  rw[ma z7]
  unfold acE
  obtain⟨p5,hp5,hg5⟩:=h5.ptr hst.sep y0
  cases hp5
  refine⟨_,_,zx 0 fun i v hv=>by rw[ml];have:=hg5 i v hv;rwa [mV]at this,?_⟩
  refine h4.stAll hst.sep y0 (by simp[qg]) fun I4 st4 r4=>?_
  obtain⟨p4,hp4,hg4⟩:=r4.ptr st4.sep y0
  cases hp4
  refine⟨_,_,zx 0 fun i v hv=>by rw[ml];have:=hg4 i v hv;rwa [mV]at this,?_⟩
  have e:acc j=adc st hs:=by simp only[acc];rw[mD z7]
  rw[e]
  exact hQ tag3 I4 (hst.trans (st4.s y0))
 | succ m ih=>
  intro j tag3 I3 hj hst hA hrow3 h4 h5
  have hjl:j<hs.length:=by omega
  obtain⟨pp,hpp,_,hget⟩:=Row.sget hrow3 hst.sep hjl
  refine lfpD.intro ?_
  unfold pR
  rw[mc z7]
  refine⟨pp,hpp,z7,z7,S hs[j],by rw[mq];exact hget j hjl,?_⟩
  have hxl:=hhl _ (mJ hjl)
  refine⟨by rw[show(⟨#[47]⟩:ZA).size=1 from rfl,show(S hs[j]).size=hs[j].length from by rw[<-kF,L_S]];omega,?_⟩
  have hcat:(⟨#[47]⟩:ZA)++S hs[j]=S (47::hs[j]):=by
   rw[show(⟨#[47]⟩:ZA)=S [47]from rfl,ail];try rfl
  rw[hcat]
  have hu:=aoY hi hs[j]
  have hej:acc (j+1)=((acc j).1+(zh st hs[j]).1,(acc j).2+(zh st hs[j]).2):=by
   simp only[acc,adc]
   rw[mK,md hjl,List.foldl_append];try rfl
  have hbj:=hbound (j+1) z7
  rw[hej]at hbj
  simp only at hbj
  have inner:∀ (l:List Str) (sl:Sl) (m2 i:Nat) (tag5:Nat->Nat) (I5:AH),i+m2=l.length->l.length<=st.length->(∀k∈l,k∈st.map (·.1))->vw st hs[j] l=zh st hs[j]->StepS [0,2,3,4,20] ro tag I tag5 I5->wa tag5 I5 r T M bs st->Row tag5 I5 q0 9 s (hs.map Pa.vS)->Row tag5 I5 2 66 ⟨some ⟨x4,0,none⟩,2,2⟩ [vI 0,vI 0]->Row tag5 I5 20 9 sl (l.map Pa.vS)->
    Row tag5 I5 3 66 ⟨some ⟨x5,0,none⟩,2,2⟩ [vI ((acc j).1+(vw st hs[j] (l.take i)).1:Nat),vI ((acc j).2+(vw st hs[j] (l.take i)).2:Nat)]->
    lfpD (uO B ro (some ⟨T,0,none⟩) s x4 x5 (j:Int) (S hs[j]) sl Q (lfpD (pR B ro (some ⟨T,0,none⟩) s x4 x5 Q))) (i:Int) I5:=by
   intro l sl m2
   induction m2 with
   | zero=>
    intro i tag5 I5 hil hll hlk hul hst5 hA5 hrow5 h45 h20 h35
    refine lfpD.intro ?_
    unfold uO
    have hsll:sl.len=l.length:=by rw[h20.len,mg]
    rw[ma z7]
    unfold acF
    rw[Pa.inc j z7]
    rw[mD z7,hul]at h35
    exact ih (j+1) tag5 I5 z7 hst5 hA5 hrow5 h45 (by rw[hej];exact h35)
   | succ m2 ih2=>
    intro i tag5 I5 hil hll hlk hul hst5 hA5 hrow5 h45 h20 h35
    have hil':i<l.length:=by omega
    have hsll:sl.len=l.length:=by rw[h20.len,mg]
    obtain⟨pl,hpl,_,hgetl⟩:=Row.sget h20 hst5.sep hil'
    obtain⟨n,hnl⟩:=ag2 (hlk _ (mJ hil'))
    obtain⟨ps,hps⟩:=hi.path _ _ hnl
    have hda:=hi.data _ _ hnl
    have hk128:l[i].length<=128:=(hi.small _ ((qU hi.keys).1 hnl)).1
    refine lfpD.intro ?_
    unfold uO
    rw[mc z7]
    refine⟨pl,hpl,z7,z7,S l[i],by rw[mq];exact hgetl i hil',?_⟩
    refine amX (tag:=tag5) g (by rw[L_S];exact hps) fun tag6 I6 st6=>?_
    rw[L_S]
    have etk:vw st hs[j] (l.take (i+1))=if qq l[i]=some hs[j]then((vw st hs[j] (l.take i)).1+1,(vw st hs[j] (l.take i)).2+(l[i].length+n.data.length))else vw st hs[j] (l.take i):=by
     rw[mK,md hil']
     simp only[Option.toList_some]
     rw[aq8,hnl]
    have ul:=anC st hs[j] (l.take (i+1)) (fun k hk=>by
     obtain⟨n',hn'⟩:=ag2 (hlk k (nt hk))
     exact(hi.small _ ((qU hi.keys).1 hn')).1) hi.data
    by_cases hh:qq l[i]=some hs[j]
    .rw[hh]
     simp only[Option.getD_some]
     rw[ma (by
      rintro(h | h)
      .exact h trivial
      .exact asm hh (abL.1 h))]
     rw[mc hh]at etk
     refine ajP g hr z7 z7 (hA5.keep st6) (fun p n h=>hi.data p n h) (fun hb=>by rw[L_S,hps]at hb;cases hb) (fun _ _ hb=>by rw[L_S,hnl]at hb;cases hb) (fun n' hn' ds tag7 I7 st7 hr7=>?_)
     rw[L_S,hnl]at hn';cases hn'
     refine kz (tag:=tag7) 4 st7.sep rfl (by simp[qg]) fun x tag8 I8 st8 r8=>?_
     have h38:=((h35.keep st6).keepC st7).keep (st8 [])
     obtain⟨p5,hp5,hg5⟩:=h38.ptr (st8 []).sep y0
     cases hp5
     refine⟨_,hg5 0 _ rfl,?_⟩
     refine h38.st (i:=0) (st8 []).sep rfl y0 rfl fun I9 st9 r9=>?_
     obtain⟨p9,hp9,hg9⟩:=r9.ptr st9.sep y0
     cases hp9
     refine⟨_,hg9 1 _ rfl,?_⟩
     refine r9.st (i:=1) st9.sep rfl y0 rfl fun Ia sta ra=>?_
     unfold yR
     rw[Pa.inc i z7]
     have hdl:(ds.len:Int)=n.data.length:=by rw[hr7.len,mg]
     have hsz:((S l[i]).size:Int)=l[i].length:=by rw[<-kF,L_S]
     have k9:∀ (R:Nat),R≠3->R∉[3]:=fun R h=>by simpa using h
     rw[etk]at ul
     simp only at ul
     have lt:(l.take (i+1)).length<=st.length:=by rw[nA];omega
     refine ih2 (i+1) tag8 Ia z7 hll hlk hul (hst5.trans ((st6.s y0).trans ((st7.s y0).trans (((st8 []).s y0).trans ((st9.s y0).trans (sta.s y0)))))) ?_ ?_ ?_ ?_ ?_
     .exact((((hA5.keep st6).keepC st7 z7 z7).keep (st8 [])).keep st9 j2).keep sta j2
     .exact((((hrow5.keep st6).keepC st7 z7).keep (st8 [])).keep st9 j2).keep sta j2
     .exact((((h45.keep st6).keepC st7 z7).keep (st8 [])).keep st9).keep sta
     .exact((((h20.keep st6).keepC st7 z7).keep (st8 [])).keep st9).keep sta
     .rw[etk]
      have e1:i64.wrap ((((acc j).1+(vw st hs[j] (l.take i)).1:Nat):Int)+1)=(((acc j).1+((vw st hs[j] (l.take i)).1+1):Nat):Int):=by
       rw[qY z7 z7];omega
      have e2:i64.wrap ((((acc j).2+(vw st hs[j] (l.take i)).2:Nat):Int)+i64.wrap (((S l[i]).size:Int)+(ds.len:Int)))=(((acc j).2+((vw st hs[j] (l.take i)).2+(l[i].length+n.data.length)):Nat):Int):=by
       rw[hdl,hsz,qY (n:=(l[i].length:Int)+(n.data.length:Int)) z7 z7,qY z7 z7];omega
      simp only
      rw[<-e1,<-e2]
      exact ra
    .rw[mc (by
      by_cases h0:hs[j]=[]
      .exact .inr (by rw[h0];try rfl)
      .refine .inl fun h=>hh ?_
       have:=abL.1 h
       cases e:qq l[i]with
       | none=>rw[e]at this;exact mt this.symm h0
       | some x=>rw[e]at this;simp at this;rw[this])]
     rw[ma hh]at etk
     unfold yR
     rw[Pa.inc i z7]
     exact ih2 (i+1) tag6 I6 z7 hll hlk hul (hst5.trans (st6.s y0)) (hA5.keep st6) (hrow5.keep st6) (h45.keep st6) (h20.keep st6) (by rw[etk];exact h35.keep st6)
  refine apB (q:=20) g hr z7 y1 hA hpaths z7 (fun hbad tag5 I5 st5=>?_) fun ps hps sl tag5 I5 ks st5 hp5 hsrt5 r5=>?_
  .rw[L_S]at hbad
   have hz:zh st hs[j]=(0,0):=by
    rw[<-aiJ hi.keys]
    exact apC st _ _ (by rw[hbad];simp)
   refine inner [] ⟨none,0,0⟩ 0 0 tag5 I5 rfl (Nat.zero_le _) (fun _ h=>by cases h) (by rw[hz];try rfl) (hst.trans ((st5 []).s y0)) (hA.keep (st5 [])) (hrow3.keep (st5 [])) (h4.keep (st5 [])) (Row.nil _ _) ?_
   simpa [vw]using h5.keep (st5 [])
  .rw[L_S]at r5
   have hks:=aiD hA.keys hp5 hsrt5
   refine inner _ sl _ 0 tag5 I5 (ml _) (by have h1:=List.length_filter_le (fun k=>aeR (47::hs[j]) k) ks;have h2:=hp5.length_eq;rw[mg]at h2;omega) (fun k hk=>hp5.mem_iff.1 (Le.1 hk).1) ?_ (hst.trans (st5.s y0)) (hA.keep st5 j2) (hrow3.keep st5 j2) (h4.keep st5) r5 ?_
   .rw[aoX,hks,aiJ hi.keys]
   .simpa [vw]using h5.keep st5
def ql.keepS{s:Sl}(h:ql tag I r e w s l)(k:StepS C ro tag I tag' I')(hr:r%64∉C:=by decide):ql tag' I' r e w s l:=by
 obtain⟨R,h1,h2⟩:=k
 exact h.keep h2 fun m=>hr (h1 _ m)
def Row.cellsAt{l:List Value}(h:Row tag I r e ⟨some ⟨b,0,none⟩,n,c⟩ l)(hs:SL.Sep ro I):SL.qe ro I ⟨b,0,none⟩ 0 l:=by
 rcases nh l.length with h0 | h0
 .rw[nb h0];trivial
 .obtain⟨p,hp,hg⟩:=h.ptr hs h0
  cases hp
  exact zx 0 fun i v hv=>by rw[ml];have:=hg i v hv;rwa [mV]at this
def Row.readW1{l:List Value}(h:Row tag I r e ⟨some ⟨b,0,none⟩,n,c⟩ l)(hs:SL.Sep ro I)(hw:l.length=w)(h0:0<w):SL.vt ro I w ⟨some ⟨b,0,none⟩,1,1⟩ [l]:=by
 obtain⟨p,hp,hg⟩:=h.ptr hs z7
 cases hp
 refine⟨rfl,(fun h=>by cases h),fun x hx=>by rw[mr.1 hx];exact hw,fun p hp i v hv=>?_⟩
 cases hp
 have:=hg i v (j4 hv)
 rwa [mV]at this
def xQ(r:Str×Int):List Value:=[Pa.vS r.1,vI r.2]
def afO(e:Int×Str):List Value:=[vI e.1,Pa.vS e.2]
structure ade(tag:Nat->Nat)(I:AH)(W T:Nat)(home:Str)(owner qn qb:Int)(res:List (Str×Int))(eff:List (Int×Str)):Prop where
 mem:∃ rs es:Sl,Row tag I 13 410 ⟨some ⟨W,0,none⟩,8,8⟩ [Sl.v rs,Sl.v es,vI 0,ptr T,Pa.vS home,vI owner,vI qn,vI qb]/\ql tag I 14 128 2 rs (res.map xQ)/\ql tag I 15 336 2 es (eff.map afO)
def ade.keepS(h:ade tag I W T home owner qn qb res eff)(k:StepS C ro tag I tag' I')(h3:13∉C:=by decide)(h4:14∉C:=by decide)(h5:15∉C:=by decide):ade tag' I' W T home owner qn qb res eff:=by
 obtain⟨rs,es,a,b,c⟩:=h.mem
 exact⟨rs,es,a.keepS k h3,ql.keepS b k h4,ql.keepS c k h5⟩
abbrev DC:List Nat:=[0,2,3,4,5,12,13,14,15,17,18,19,20,21]
def asn{Q:Int->AH->Prop}(g:ze ro)(h:ade tag I W T home owner qn qb res eff)
  (hQ:∀ tag' I',qd [] ro tag I tag' I'->Q (wT home o) I'):aby B ro (some ⟨W,0,none⟩) o.kind (S o.path) ds o.ver o.eph o.seq I Q:=by
 refine aiK fun hs=>?_
 unfold abG
 refine qf (tag:=tag) 0 hs fun x tag1 I1 st1 r1=>?_
 obtain⟨p,hp,hg⟩:=r1.ptr (st1 []).sep y0
 cases hp
 refine⟨_,hg 1 _ rfl,?_⟩
 have kindOf:∀ tag2 I2,qd [] ro tag1 I1 tag2 I2->qa ro I2 ⟨x,0,none⟩=some (vI o.kind):=fun tag2 I2 st2=>by
  obtain⟨p,hp,hg⟩:=(r1.keep st2).ptr st2.sep y0
  cases hp
  exact hg 0 _ rfl
 have bad:∀ tag2 I2 sl e,qd [] ro tag1 I1 tag2 I2->wT home o=80->wD B ro (some ⟨W,0,none⟩) x sl e Q true I2:=fun tag2 I2 sl e st2 hw=>by
  unfold wD
  rw[mc rfl]
  have:=hQ tag2 I2 ((st1 _).trans st2)
  rw[hw]at this;exact this
 have split:∀ tag2 I2 sl e,qd [] ro tag1 I1 tag2 I2->(¬(o.kind<1\/4<o.kind)->wD B ro (some ⟨W,0,none⟩) x sl e Q false I2)->
   ∃(x15_5:Int),qa ro I2 ⟨x,0,none⟩=some (.int .i64 x15_5)/\if x15_5<1 then wD B ro (some ⟨W,0,none⟩) x sl e Q true I2 else∃(x19_16:Int),qa ro I2 ⟨x,0,none⟩=some (.int .i64 x19_16)/\wD B ro (some ⟨W,0,none⟩) x sl e Q (decide (4<x19_16)) I2:=fun tag2 I2 sl e st2 hgood=>by
  have hw80:(o.kind<1\/4<o.kind)->wT home o=80:=fun h=>by unfold wT;rw[mc h]
  refine⟨o.kind,kindOf tag2 I2 st2,?_⟩
  by_cases h1:o.kind<1
  .rw[mc h1];exact bad tag2 I2 sl e st2 (hw80 (.inl h1))
  .rw[ma h1]
   refine⟨o.kind,kindOf tag2 I2 st2,?_⟩
   by_cases h2:4<o.kind
   .rw[show decide (4<o.kind)=true from by simpa using h2]
    exact bad tag2 I2 sl e st2 (hw80 (.inr h2))
   .rw[show decide (4<o.kind)=false from by simpa using h2]
    exact hgood z7
 refine anD (tag:=tag1) 23 g (st1 []).sep (fun hnone sl tag2 I2 st2=>?_) (fun ps hps sl tag2 I2 st2 r2=>?_)
 .rw[L_S]at hnone
  refine split tag2 I2 sl 20 st2 fun hk=>?_
  unfold wD
  rw[ma y1,mc y1]
  have:=hQ tag2 I2 ((st1 _).trans st2)
  unfold wT at this
  rw[ma hk,hnone]at this;exact this
 .rw[L_S]at hps
  refine split tag2 I2 sl 0 st2 fun hk=>?_
  have hwe:wT home o=if ps.head?≠some home\/(ps.length=1/\o.kind<=2)then 82 else 0:=by unfold wT;rw[ma hk,hps]
  have fin:∀ b:Bool,(b=true↔(ps.head?≠some home\/(ps.length=1/\o.kind<=2)))->vh B ro Q b I2:=fun b hb=>by
   unfold vh
   have:=hQ tag2 I2 ((st1 _).trans st2)
   rw[hwe]at this
   cases b with
   | true=>rw[mc rfl];rw[mc (hb.1 rfl)]at this;exact this
   | false=>rw[ma y1];rw[ma (fun h=>by have:=hb.2 h;cases this)]at this;exact this
  have hln:sl.len=ps.length:=by rw[r2.len,mg]
  unfold wD
  rw[ma y1,ma y1]
  by_cases h0:ps=[]
  .subst h0
   rw[mc (by rw[hln];try rfl)]
   try rw[mc trivial]
   exact fin true y0
  .have hpos:=nI.2 h0
   rw[ma z7]
   obtain⟨pp,hpp,_,hget⟩:=Row.sget r2 st2.sep hpos
   have hh:ps.head?=some ps[0]:=by rw[List.head?_eq_getElem?,md hpos]
   refine⟨pp,hpp,y1,z7,_,rfl,S ps[0],hget 0 hpos,S home,?_,?_⟩
   .obtain⟨rs,es,a,b,c⟩:=h.mem
    obtain⟨pw,hpw,hgw⟩:=((a.keep (st1 [])).keep st2).ptr st2.sep y0
    cases hpw
    exact hgw 4 _ rfl
   .by_cases h1:ps[0]=home
    .rw[ma (by rw[h1];simp)]
     by_cases h2:ps.length=1
     .rw[mc z7]
      refine⟨o.kind,kindOf tag2 I2 st2,fin _ ?_⟩
      rw[hh,h1]
      simp[h2]
     .rw[ma z7]
      exact fin false (by rw[hh,h1];simp[h2])
    .rw[mc (by simpa [abL]using h1)]
     exact fin true (by rw[hh];simp[h1])
def awh{w:ph}{Q:Int->AH->Prop}(g:ze ro)(h:ade tag I W T home owner qn qb w.res w.eff)(ht:wd tag I 12 T w.st)(hi:qQ b w.st)(hb:b<=2147483648)
  (hlen:w.res.length<=1024/\w.eff.length<=1024) (hd:SL.qJ ro I ds (o.data.map vU)) (hdl:o.data.length<4611686018427387904) (hhl:home.length<=4611686018427387903)
  (hbad:(doE home owner qn qb w o).1≠0->∀ tag' I',StepS DC ro tag I tag' I'->Q (doE home owner qn qb w o).1 I')
  (hok:(doE home owner qn qb w o).1=0->∀ tag' I',StepS DC ro tag I tag' I'->ade tag' I' W T home owner qn qb (doE home owner qn qb w o).2.res (doE home owner qn qb w o).2.eff->wd tag' I' 12 T (doE home owner qn qb w o).2.st->Q 0 I'):
  ael B ro (some ⟨W,0,none⟩) o.kind (S o.path) ds o.ver o.eph o.seq I Q:=by
 refine ali fun hs=>?_
 unfold aes
 refine qf (tag:=tag) 16 hs fun x3 tag1 I1 st1 r1=>?_
 refine⟨_,_,_,_,_,_,Row.cellsAt r1 (st1 []).sep,?_⟩
 have h1:=h.keepS ((st1 []).s (C:=[]) y0) y0 y0 y0
 refine asn (tag:=tag1) g h1 fun tag2 I2 st2=>?_
 by_cases hw':wT home o≠0
 .rw[mc (j4 hw')]
  have hde:doE home owner qn qb w o=(wT home o,w):=by unfold doE;rw[mc hw']
  rw[hde]at hbad
  exact hbad hw' tag2 I2 (((st1 []).s y0).trans (st2.s y0))
 have hw:wT home o=0:=by simpa using hw'
 rw[ma (j4 hw)]
 have r12:=r1.keep st2
 refine qf (tag:=tag2) 17 st2.sep fun x6 tag3 I3 st3 r3=>?_
 have r13:=r12.keep (st3 [])
 obtain⟨p,hp,hg⟩:=r13.ptr (st3 []).sep y0
 cases hp
 refine⟨o.kind,hg 0 _ rfl,S o.path,hg 1 _ rfl,?_⟩
 refine kz (tag:=tag3) 18 (st3 []).sep rfl (by simp[qg]) fun x8 tag4 I4 st4 r8=>?_
 have r14:=r13.keep (st4 [])
 have r34:=r3.keep (st4 [])
 have stA:StepS DC ro tag I tag4 I4:=((st1 []).s y0).trans ((st2.s y0).trans (((st3 []).s y0).trans ((st4 []).s y0)))
 have hW4:=((h1.keepS (st2.s (C:=[]) y0) y0 y0 y0).keepS ((st3 []).s (C:=[]) y0) y0 y0 y0).keepS ((st4 []).s (C:=[]) y0) y0 y0 y0
 have hT4:=(((ht.keep (st1 [])).keep st2).keep (st3 [])).keep (st4 [])
 obtain⟨p4,hp4,hg4⟩:=r14.ptr (st4 []).sep y0
 have hd4:=(((hd.step (st1 [])).step st2).step (st3 [])).step (st4 [])
 cases hp4
 generalize hcore:vT owner w.st o=c at*
 have hci:qQ (b+1) c.1:=by rw[<-hcore];exact aeS hi z7
 have fin:∀ (tag5:Nat->Nat) (I5:AH),StepS DC ro tag I tag5 I5->Row tag5 I5 16 72 ⟨some ⟨x3,0,none⟩,6,6⟩ [vI o.kind,Pa.vS o.path,Sl.v ds,vI o.ver,.bool o.eph,.bool o.seq]->Row tag5 I5 17 128 ⟨some ⟨x6,0,none⟩,2,2⟩ (xQ (c.2.1,c.2.2.1))->
   Row tag5 I5 18 336 ⟨some ⟨x8,0,none⟩,2,2⟩ (afO (o.kind,if o.kind=1 then c.2.1 else o.path))->ade tag5 I5 W T home owner qn qb w.res w.eff->wd tag5 I5 12 T c.1->zH B ro (some ⟨W,0,none⟩) x3 x6 x8 Q c.2.2.2 I5:=by
  intro tag5 I5 st5 h35 h65 h85 hW5 hT5
  unfold zH
  by_cases he':c.2.2.2≠0
  .rw[mc (j4 he')]
   have hde:doE home owner qn qb w o=(c.2.2.2,{w with st:=c.1}):=by unfold doE;rw[ma (j4 hw),hcore,mc he']
   rw[hde]at hbad
   exact hbad he' tag5 I5 st5
  have he:c.2.2.2=0:=by simpa using he'
  rw[ma (j4 he)]
  obtain⟨p5,hp5,hg5⟩:=h35.ptr st5.sep y0
  cases hp5
  have hde:doE home owner qn qb w o=if aer c.1 home qn qb o.kind then(81,{w with st:=c.1})else(0,⟨c.1,w.res++[(c.2.1,c.2.2.1)],if o.kind=4 then w.eff else w.eff++[(o.kind,if o.kind=1 then c.2.1 else o.path)]⟩):=by
   unfold doE;rw[ma (j4 hw),hcore,ma (j4 he)]
  have app:aer c.1 home qn qb o.kind=false->∀ (tag6:Nat->Nat) (I6:AH),StepS DC ro tag I tag6 I6->Row tag6 I6 16 72 ⟨some ⟨x3,0,none⟩,6,6⟩ [vI o.kind,Pa.vS o.path,Sl.v ds,vI o.ver,.bool o.eph,.bool o.seq]->Row tag6 I6 17 128 ⟨some ⟨x6,0,none⟩,2,2⟩ (xQ (c.2.1,c.2.2.1))->
    Row tag6 I6 18 336 ⟨some ⟨x8,0,none⟩,2,2⟩ (afO (o.kind,if o.kind=1 then c.2.1 else o.path))->ade tag6 I6 W T home owner qn qb w.res w.eff->wd tag6 I6 12 T c.1->jC B ro (some ⟨W,0,none⟩) x3 x6 x8 Q I6:=by
   intro hov tag6 I6 st6 h36 h66 h86 hW6 hT6
   rw[hov]at hde
   simp only[Bool.false_eq_true,if_false]at hde
   rw[hde]at hok
   simp only at hok
   unfold jC
   obtain⟨rs,es,a,bb,cc⟩:=hW6.mem
   obtain⟨pw,hpw,hgw⟩:=a.ptr st6.sep y0
   cases hpw
   refine⟨_,rfl,rs,hgw 0 _ rfl,S c.2.1,c.2.2.1,Row.cellsAt h66 st6.sep,?_⟩
   refine qf (tag:=tag6) 0 st6.sep fun y tag7 I7 st7 r7=>?_
   refine jn (l2:=[xQ (c.2.1,c.2.2.1)]) (bb.keep (st7 [])) (st7 []).sep (Row.readW1 r7 (st7 []).sep rfl y1) (t:=23) j0 abM rfl (by simp[xQ,qg]) j2 y1 fun rs' tag8 I8 st8 r8=>?_
   have st8':=st8 [14] (.inr y0)
   refine⟨rs',rfl,?_⟩
   have a8:=(a.keep (st7 [])).keep st8'
   have c8:=(cc.keep (st7 [])).keep st8'
   refine⟨_,rfl,?_⟩
   refine a8.st (i:=0) st8'.sep rfl y0 rfl fun I9 st9 r9=>?_
   have h39:=((h36.keep (st7 [])).keep st8').keep st9
   obtain⟨p9,hp9,hg9⟩:=h39.ptr st9.sep y0
   cases hp9
   have st69:StepS DC ro tag6 I6 tag8 I9:=((st7 []).s y0).trans ((st8'.s y0).trans (st9.s y0))
   have hT9:=((hT6.keep (st7 [])).keep st8').keep st9
   refine⟨o.kind,hg9 0 _ rfl,?_⟩
   by_cases hk:o.kind=4
   .rw[ma (j4 hk)]
    unfold jB
    refine hok trivial tag8 I9 (st6.trans st69) ⟨rs',es,r9,?_,?_⟩ hT9
    .rw[my];exact r8.keep st9
    .rw[mc hk];exact c8.keep st9
   .rw[mc (j4 hk)]
    obtain⟨pb,hpb,hgb⟩:=r9.ptr st9.sep y0
    cases hpb
    have h89:=((h86.keep (st7 [])).keep st8').keep st9
    refine⟨_,rfl,es,hgb 1 _ rfl,o.kind,S (if o.kind=1 then c.2.1 else o.path),Row.cellsAt h89 st9.sep,?_⟩
    refine qf (tag:=tag8) 0 st9.sep fun z taga Ia sta ra=>?_
    refine jn (l2:=[afO (o.kind,if o.kind=1 then c.2.1 else o.path)]) ((c8.keep st9).keep (sta [])) (sta []).sep (Row.readW1 ra (sta []).sep rfl y1) (t:=258) j0 acA rfl (by simp[afO,qg]) j2 y1 fun es' tagb Ib stb rb=>?_
    have stb':=stb [15] (.inr y0)
    refine⟨es',rfl,_,rfl,?_⟩
    refine((r9.keep (sta [])).keep stb').st (i:=1) stb'.sep rfl y0 rfl fun Ic stc rc=>?_
    unfold jB
    refine hok trivial tagb Ic (st6.trans (st69.trans (((sta []).s y0).trans ((stb'.s y0).trans (stc.s y0))))) ⟨rs',es',rc,?_,?_⟩ (((hT9.keep (sta [])).keep stb').keep stc)
    .rw[my]
     exact(((r8.keep st9).keep (sta [])).keep stb').keep stc
    .rw[ma hk,my];exact rb.keep stc
  have look:∀ hk13:(o.kind=1\/o.kind=3),kj B ro (some ⟨W,0,none⟩) x3 x6 x8 Q true I5:=fun hk13=>by
   unfold kj
   rw[mc rfl]
   obtain⟨rs,es,a,bb,cc⟩:=id hW5.mem
   obtain⟨pw,hpw,hgw⟩:=a.ptr st5.sep y0
   cases hpw
   refine⟨_,rfl,_,rfl,some ⟨T,0,none⟩,hgw 3 _ rfl,S home,hgw 4 _ rfl,?_⟩
   refine qf (tag:=tag5) 22 st5.sep fun y tag6 I6 st6 r6=>?_
   obtain⟨M6,bs6,hA6⟩:=hT5.keep (st6 [])
   have hlc:=hci.len
   refine atR (q0:=22) (hs:=[home]) g y1 y1 hA6 hci.inv z7 r6 y1 (fun x hx=>by rw[mr.1 hx];exact hhl) y0 fun tag7 I7 st7=>?_
   have hus:adc c.1 [home]=zh c.1 home:=by simp[adc]
   rw[hus]
   refine kz (tag:=tag7) 21 st7.sep rfl (by simp[qg]) fun z tag8 I8 st8 r8=>?_
   have st58:StepS DC ro tag5 I5 tag8 I8:=((st6 []).s y0).trans ((st7.mono y1).trans ((st8 []).s y0))
   have hW8:=((hW5.keepS ((st6 []).s (C:=[]) y0) y0 y0 y0).keepS st7).keepS ((st8 []).s (C:=[]) y0) y0 y0 y0
   have hT8:wd tag8 I8 12 T c.1:=((hT5.keep (st6 [])).keepS st7).keep (st8 [])
   have h38:=((h35.keep (st6 [])).keepS st7).keep (st8 [])
   have h68:=((h65.keep (st6 [])).keepS st7).keep (st8 [])
   have h88:=((h85.keep (st6 [])).keepS st7).keep (st8 [])
   obtain⟨rs8,es8,a8,_,_⟩:=hW8.mem
   obtain⟨pw8,hpw8,hgw8⟩:=a8.ptr (st8 []).sep y0
   cases hpw8
   obtain⟨pz,hpz,hgz⟩:=r8.ptr (st8 []).sep y0
   cases hpz
   have hov:aer c.1 home qn qb o.kind=(decide (qn<((zh c.1 home).1:Nat)) || decide (qb<((zh c.1 home).2:Nat))):=by
    unfold aer
    rcases hk13 with h | h<;>simp[h]
   have j35:∀ bq:Bool,(bq=aer c.1 home qn qb o.kind)->jD B ro (some ⟨W,0,none⟩) x3 x6 x8 Q bq I8:=fun bq hbq=>by
    unfold jD
    cases hbv:bq with
    | true=>
     rw[mc rfl]
     rw[hbv]at hbq
     rw[<-hbq]at hde
     simp only[if_true]at hde
     rw[hde]at hbad
     exact hbad y0 tag8 I8 (st5.trans st58)
    | false=>
     rw[ma y1]
     exact app (by rw[<-hbq,hbv]) tag8 I8 (st5.trans st58) h38 h68 h88 hW8 hT8
   refine⟨_,rfl,_,hgz 0 _ rfl,_,hgw8 6 _ rfl,?_⟩
   by_cases hq1:qn<((zh c.1 home).1:Nat)
   .rw[mc hq1]
    exact j35 true (by rw[hov];simp[hq1])
   .rw[ma hq1]
    refine⟨_,rfl,_,hgz 1 _ rfl,qb,hgw8 7 _ rfl,?_⟩
    exact j35 _ (by rw[hov];simp[hq1])
  have nolook:¬ (o.kind=1\/o.kind=3)->kj B ro (some ⟨W,0,none⟩) x3 x6 x8 Q false I5:=fun hk=>by
   unfold kj
   rw[ma y1]
   refine app ?_ tag5 I5 st5 h35 h65 h85 hW5 hT5
   unfold aer
   simp only[not_or]at hk
   simp[hk.1,hk.2]
  refine⟨o.kind,hg5 0 _ rfl,?_⟩
  by_cases hk1:o.kind=1
  .rw[mc hk1];exact look (.inl hk1)
  .rw[ma hk1]
   refine⟨o.kind,hg5 0 _ rfl,?_⟩
   by_cases hk3:o.kind=3
   .rw[show decide (o.kind=3)=true from by simpa using hk3];exact look (.inr hk3)
   .rw[show decide (o.kind=3)=false from by simpa using hk3];exact nolook (by simp[hk1,hk3])
 obtain⟨rs4,es4,a4,_,_⟩:=id hW4.mem
 obtain⟨pw4,hpw4,hgw4⟩:=a4.ptr (st4 []).sep y0
 cases hpw4
 refine⟨o.kind,hg4 0 _ rfl,?_⟩
 by_cases k1:o.kind=1
 .rw[mc k1]
  have hc1:c=((we w.st o.path o.data (if o.eph then owner else 0) o.seq).1,(we w.st o.path o.data (if o.eph then owner else 0) o.seq).2.1,0,(we w.st o.path o.data (if o.eph then owner else 0) o.seq).2.2):=by rw[<-hcore];unfold vT;rw[mc k1]
  have j45:jE B ro (some ⟨W,0,none⟩) x3 x6 x8 Q (if o.eph then owner else 0) I4:=by
   unfold jE
   refine⟨_,rfl,some ⟨T,0,none⟩,hgw4 3 _ rfl,_,hg4 1 _ rfl,_,hg4 2 _ rfl,_,hg4 5 _ rfl,?_⟩
   refine ajH g y1 y1 y1 hT4 hd4 hdl fun tag5 I5 st5 hT5=>?_
   rw[L_S]at hT5⊢
   have st5s:StepS DC ro tag4 I4 tag5 I5:=st5.s y0
   have r35:=r34.keepC st5
   refine r35.st (i:=0) st5.sep rfl y0 rfl fun I6 st6 r6=>?_
   obtain⟨p6,hp6,hg6⟩:=r6.ptr st6.sep y0
   cases hp6
   refine⟨_,hg6 0 _ rfl,?_⟩
   refine((r8.keepC st5).keep st6).st (i:=1) st6.sep rfl y0 rfl fun I7 st7 r7=>?_
   have hW7:=((hW4.keepS (st5.s (C:=[12]) y0)).keepS (st6.s (C:=[17]) y0)).keepS (st7.s (C:=[18]) y0)
   have:=fin tag5 I7 (stA.trans (st5s.trans ((st6.s y0).trans (st7.s y0)))) (((r14.keepC st5).keep st6).keep st7) (by rw[hc1];exact r6.keep st7) (by rw[mc k1,hc1];exact r7) hW7 (by rw[hc1];exact(hT5.keep st6).keep st7)
   rw[hc1]at this
   exact this
  refine⟨o.eph,hg4 4 _ rfl,?_⟩
  cases he:o.eph with
  | true=>
   rw[mc rfl]
   refine⟨_,rfl,owner,hgw4 5 _ rfl,?_⟩
   rw[he]at j45;exact j45
  | false=>
   rw[ma y1]
   rw[he]at j45;exact j45
 rw[ma k1]
 by_cases k2:o.kind=2
 .rw[mc k2]
  have hc1:c=((wo w.st o.path o.ver).1,[],0,(wo w.st o.path o.ver).2):=by rw[<-hcore];unfold vT;rw[ma k1,mc k2]
  refine⟨_,rfl,some ⟨T,0,none⟩,hgw4 3 _ rfl,_,hg4 1 _ rfl,_,hg4 3 _ rfl,?_⟩
  refine ar0 g y1 y1 y1 hT4 (by rw[L_S];exact asl hi.inv) fun tag5 I5 st5 hT5=>?_
  rw[L_S]at hT5⊢
  have hW5:=hW4.keepS (st5.s (C:=[12]) y0)
  have:=fin tag5 I5 (stA.trans (st5.s y0)) (r14.keepC st5) (by rw[hc1];exact r34.keepC st5) (by rw[ma k1];exact r8.keepC st5) hW5 (by rw[hc1];exact hT5)
  rw[hc1]at this
  exact this
 rw[ma k2]
 by_cases k3:o.kind=3
 .rw[mc k3]
  have hc1:c=((kn w.st o.path o.data o.ver).1,[],(kn w.st o.path o.data o.ver).2.1,(kn w.st o.path o.data o.ver).2.2):=by rw[<-hcore];unfold vT;rw[ma k1,ma k2,mc k3]
  refine⟨_,rfl,some ⟨T,0,none⟩,hgw4 3 _ rfl,_,hg4 1 _ rfl,_,hg4 2 _ rfl,_,hg4 3 _ rfl,?_⟩
  refine awa g y1 y1 y1 hT4 hd4 hdl fun tag5 I5 st5 hT5=>?_
  rw[L_S]at hT5⊢
  refine(r34.keepC st5).st (i:=1) st5.sep rfl y0 rfl fun I6 st6 r6=>?_
  have hW6:=(hW4.keepS (st5.s (C:=[12]) y0)).keepS (st6.s (C:=[17]) y0)
  have:=fin tag5 I6 (stA.trans ((st5.s y0).trans (st6.s y0))) ((r14.keepC st5).keep st6) (by rw[hc1];exact r6) (by rw[ma k1];exact(r8.keepC st5).keep st6) hW6 (by rw[hc1];exact hT5.keep st6)
  rw[hc1]at this
  exact this
 rw[ma k3]
 have k4:o.kind=4:=by
  unfold wT at hw
  split at hw
  .cases hw
  .omega
 rw[mc k4]
 have hc1:c=(w.st,[],0,afL w.st o.path o.ver):=by rw[<-hcore];unfold vT;rw[ma k1,ma k2,ma k3]
 have hps:∃ ps,parts o.path=some ps:=by
  unfold wT at hw
  split at hw
  .cases hw
  .cases e:parts o.path with
   | none=>rw[e]at hw;cases hw
   | some ps=>exact⟨ps,rfl⟩
 obtain⟨ps,hps⟩:=hps
 refine qf (tag:=tag4) 19 (st4 []).sep fun x10 tag5 I5 st5 r5=>?_
 have hT5:=hT4.keep (st5 [])
 have hW5:=hW4.keepS ((st5 []).s (C:=[]) y0) y0 y0 y0
 have r145:=r14.keep (st5 [])
 obtain⟨rs5,es5,a5,_,_⟩:=id hW5.mem
 obtain⟨pw5,hpw5,hgw5⟩:=a5.ptr (st5 []).sep y0
 cases hpw5
 obtain⟨p5,hp5,hg5⟩:=r145.ptr (st5 []).sep y0
 cases hp5
 refine⟨_,rfl,some ⟨T,0,none⟩,hgw5 3 _ rfl,_,hg5 1 _ rfl,?_⟩
 obtain⟨M5,bs5,hA5⟩:=hT5
 have endz:∀ (tag6:Nat->Nat) (I6:AH) (e:Int),zK 0 ro tag5 I5 tag6 I6->∀ v1 v2 v3 v4:Int,(e=0->(∃n,w.st.lookup o.path=some n/\v1=n.ver))->(e≠0->afL w.st o.path o.ver=e)->
   stN ⟨x10,0,none⟩ (fun I=>
    if e=0 then
     ∃(x97_83:Int),qa ro I ((⟨x3,0,none⟩:Addr).add 3)=some (.int .i64 x97_83)/\
     kk B ro (some ⟨W,0,none⟩) x3 x6 x8 x10 e Q (!(decide (x97_83=(-1)))) I
    else
    kk B ro (some ⟨W,0,none⟩) x3 x6 x8 x10 e Q false I) [.int .i64 v1,.int .i64 v2,.int .i64 v3,.int .i64 v4] 0 I6:=by
  intro tag6 I6 e st6 v1 v2 v3 v4 he0 hen
  refine(r5.keepC st6).stAll st6.sep y0 (by simp[qg]) fun I7 st7 r7=>?_
  have st57:StepS DC ro tag4 I4 tag6 I7:=((st5 []).s y0).trans ((st6.s y0).trans (st7.s y0))
  have r147:=(r145.keepC st6).keep st7
  have hW7:=(hW5.keepS (st6.s (C:=[0]) y0)).keepS (st7.s (C:=[19]) y0)
  have hT7:wd tag6 I7 12 T w.st:=⟨M5,bs5,(hA5.keepC st6).keep st7⟩
  obtain⟨p7,hp7,hg7⟩:=r147.ptr st7.sep y0
  cases hp7
  obtain⟨pa,hpa,hga⟩:=r7.ptr st7.sep y0
  cases hpa
  have f8:afL w.st o.path o.ver=c.2.2.2:=by rw[hc1]
  have goal:∀ e',e'=afL w.st o.path o.ver->zH B ro (some ⟨W,0,none⟩) x3 x6 x8 Q e' I7:=fun e' he'=>by
   rw[he',f8]
   exact fin tag6 I7 (stA.trans st57) r147 (by rw[hc1];exact((r34.keep (st5 [])).keepC st6).keep st7) (by rw[ma k1];exact((r8.keep (st5 [])).keepC st6).keep st7) hW7 (by rw[hc1];exact hT7)
  by_cases hz:e=0
  .rw[mc hz]
   obtain⟨n,hn,hv1⟩:=he0 hz
   have hchk:afL w.st o.path o.ver=if o.ver≠ -1/\o.ver≠n.ver then 72 else 0:=by unfold afL;rw[hn]
   refine⟨o.ver,hg7 3 _ rfl,?_⟩
   unfold kk
   by_cases hm:o.ver= -1
   .rw[show(!decide (o.ver= -1))=false from by simp[hm],ma y1]
    unfold xj
    rw[ma y1]
    exact goal e (by rw[hchk,ma (by simp[hm]),hz])
   .rw[show(!decide (o.ver= -1))=true from by simp[hm],mc rfl]
    refine⟨o.ver,hg7 3 _ rfl,v1,hga 0 _ rfl,?_⟩
    unfold xj
    by_cases hv:o.ver=v1
    .rw[show(!decide (o.ver=v1))=false from by simp[hv],ma y1]
     exact goal e (by rw[hchk,ma (by rw[<-hv1];simp[hv]),hz])
    .rw[show(!decide (o.ver=v1))=true from by simp[hv],mc rfl]
     exact goal 72 (by rw[hchk,mc ⟨hm,by rw[<-hv1];exact hv⟩])
  .rw[ma hz]
   unfold kk
   rw[ma y1]
   unfold xj
   rw[ma y1]
   exact goal e (hen hz).symm
 refine ajP g y1 y1 y1 hA5 (fun p n h=>hi.inv.data p n h) (fun hb=>by rw[L_S,hps]at hb;cases hb) (fun _ _ hmiss tag6 I6 st6=>?_) (fun n hn s tag6 I6 st6 hr6=>?_)
 .rw[L_S]at hmiss
  exact endz tag6 I6 70 st6 0 0 0 0 (fun h=>by cases h) (fun _=>by unfold afL;rw[hmiss])
 .rw[L_S]at hn
  exact endz tag6 I6 0 st6 n.ver n.ctr n.own n.kids (fun _=>⟨n,hn,rfl⟩) (fun h=>mt rfl h)
def zt(home:Str)(owner qn qb:Int):List MOp->Nat->ph->(Nat×Int) ⊕ ph
 | [],_,w=> .inr w
 | o::os,i,w=>if(doE home owner qn qb w o).1≠0 then .inl (i,(doE home owner qn qb w o).1)else zt home owner qn qb os (i+1) (doE home owner qn qb w o).2
structure awi where
 st:St
 res:List (Str×Int)
 eff:List (Int×Str)
 bad:Int
 err:Int
def adf(st:St):(Nat×Int) ⊕ ph->awi
 | .inl (i,e)=>⟨st,[],[],i,e⟩
 | .inr w=>⟨w.st,w.res,w.eff,-1,0⟩
def qR(st:St)(home:Str)(owner qn qb:Int)(ops:List MOp):awi:=
 if ops.length=0\/16<ops.length then⟨st,[],[],0,80⟩
 else if owner<1\/4611686018427387903<owner then⟨st,[],[],0,10⟩
 else adf st (zt home owner qn qb ops 0 ⟨srt st,[],[]⟩)
def aq9:∀ {os:List MOp} {i b:Nat} {w w':ph},zt home owner qn qb os i w= .inr w'->qQ b w.st->b+os.length<=4398046511103->qQ (b+os.length) w'.st:=by
 intro os
 induction os with
 | nil=>intro i b w w' h hi _;cases h;exact hi
 | cons o os ih=>
  intro i b w w' h hi hb
  simp only[mz]at hb⊢
  unfold zt at h
  split at h
  .cases h
  .have:=ih h (aeT hi z7) z7
   rw[show b+(os.length+1)=b+1+os.length by omega];exact this
def adK(h:qQ b st):qQ b (srt st):=by
 have hp:=(zZ st).symm
 have hl:=ae7 hp h.inv.keys
 exact⟨aoQ hp h.inv,fun k n hk=>h.ver k n (by rw[hl];exact hk),fun k n hk=>h.own k n (by rw[hl];exact hk),fun n hk=>h.rt n (by rw[hl];exact hk),by rw[(zZ st).length_eq];exact h.len⟩
def al6{ops:List MOp}(h:qQ b st)(hb:b<=4398046511000):qQ (b+16) (qR st home owner qn qb ops).st:=by
 unfold qR
 split
 .exact h.mono z7
 .rename_i hl
  split
  .exact h.mono z7
  .cases e:zt home owner qn qb ops 0 ⟨srt st,[],[]⟩with
   | inl x=>exact h.mono z7
   | inr w=>exact(aq9 e (adK h) z7).mono z7
def Row.retag{s:Sl}{l:List Value}(h:Row tag I r e s l)(hr:∀ c,tag c=r->I c≠none->tg c=r'):Row tg I r' e s l:=by
 rcases h with h | ⟨b,cs,ha,ht,hb,hx⟩
 .exact .inl h
 .exact .inr ⟨b,cs,ha,hr b ht (by rw[hb];simp),hb,hx⟩
def ql.retag{s:Sl}(h:ql tag I r e w s l)(hr:∀ c,tag c=r->I c≠none->tg c=r'):ql tg I r' e w s l:=by
 rcases h with h | ⟨b,cs,ha,ht,hb,hx⟩
 .exact .inl h
 .exact .inr ⟨b,cs,ha,hr b ht (by rw[hb];simp),hb,hx⟩
def zW.retag{m:KV}(h:zW tag I r b m)(hr:∀ c,tag c=r->I c≠none->tg c=r'):zW tg I r' b m:=by
 obtain⟨es,k,hb,hx⟩:=h.obj
 exact⟨hr b h.tg (by rw[hb];simp),es,k,hb,hx⟩
def wd.retag(h:wd tag I r T st)(hr:∀ c,tag c%64=r%64\/tag c=6->I c≠none->tg c=tag c):wd tg I r T st:=by
 obtain⟨M,bs,h⟩:=h
 refine⟨M,bs,h.keys,h.len,h.nd,Row.retag h.cell fun c hc hn=>?_,zW.retag h.map fun c hc hn=>?_,fun i b p hb hp=>?_⟩
 .rw[hr c (.inl (by rw[hc])) hn,hc]
 .rw[hr c (.inl (by rw[hc];omega)) hn,hc]
 .obtain⟨s,h1,h2⟩:=h.nodes i b p hb hp
  exact⟨s,Row.retag h1 fun c hc hn=>by rw[hr c (.inl (by rw[hc];omega)) hn,hc],Row.retag h2 fun c hc hn=>by rw[hr c (.inr hc) hn,hc]⟩
end Zt
namespace SL
open Go
structure aiM(F:Fence):Prop where
 fn:∀ f,F.fn f
 depth:F.depth=none
 calls:∀ {P:Program} {n:Nat} {f:FuncId} {args:Array Value} {w:ZB} {R:Ending->ZB->Prop},Calls P f args w R->CallsIn F n P f args w R
def aiM.wide:aiM Fence.wide:=⟨fun _=>trivial,rfl,fun h=>callsIn_wide.2 h⟩
def aiM.round(l:Nat):aiM (Fence.wide.inRound l):=⟨fun _=>trivial,rfl,fun h=>(callsIn_wide.2 h:CallsIn Fence.wide _ _ _ _ _ _)⟩
structure uQ(N:Nat)(ds:List Deferred)(fr:Fr)(a:Act):Prop where
 size:a.tmps.size=N
 defers:a.defers=ds
 has:∀ i v,look fr i=some v->a.tmps[i]?=some v
def xz.d{N:Nat}{fr:Fr}{a:Act}(h:xz N fr a):uQ N [] fr a:=⟨h.size,h.defers,h.has⟩
def uQ.agrees{N:Nat}{ds:List Deferred}{fr:Fr}{a:Act}(h:uQ N ds fr a):vX a.eval fr:=by
 have h':xz N fr {a with defers:=[]}:=⟨h.size,rfl,h.has⟩
 intro x v hx
 exact h'.agrees x v hx
def uQ.put{N:Nat}{ds:List Deferred}{fr:Fr}{a:Act}(h:uQ N ds fr a){d:Option Tmp}(hd:wl N d=true)(v:ZC):uQ N ds (qD d v fr) (a.put d v):=by
 have h':xz N fr {a with defers:=[]}:=⟨h.size,rfl,h.has⟩
 have k:=h'.put hd v
 cases d with
 | none=>exact h
 | some d=>exact⟨k.size,h.defers,k.has⟩
def uQ.weaken{N:Nat}{ds:List Deferred}{fr fr':Fr}{a:Act}(h:uQ N ds fr' a)(hl:qo fr fr'):uQ N ds fr a:=⟨h.size,h.defers,fun i v e=>h.has i v (hl i v e)⟩
def auY(B:ZB)(ro:AH)(N:Nat)(ds:List Deferred)(φ:AH)(Q:Exit->Fr->AH->Prop)(e:Exit)(a:Act)(w:ZB):= ∃fr I,Q e fr I/\Own B ro φ I w/\uQ N ds fr a
section
variable{F:Fence}{n:Nat}{P:Program}{B:ZB}{ro:AH}{N:Nat}{ds:List Deferred}
def akm(o:Oper):Bool:=match o.op with
 | .defer _=>false
 | _=>true
def wi.soundIn{o:Oper}{K:Fr->AH->Prop}{fr:Fr}{I φ:AH}{a:Act}{w:ZB}{next:Act->ZB->Prop}{Q:Exit->Act->ZB->Prop}
  (hF:aiM F) (hnd:akm o=true) (h:wi P B ro o K fr I) (hd:wl N o.dst=true) (ho:Own B ro φ I w) (hf:uQ N ds fr a)
  (hk:∀ fr I a w,K fr I->Own B ro φ I w->uQ N ds fr a->next a w):o.wpIn F n P a w next Q:=by
 obtain⟨x,w',I',hr,hq,ho'⟩:=ajs _ (h _ hf.agrees) ho
 refine⟨fun f _=>hF.fn f,?_⟩
 rw[Oper.semAt_eq _ _ _ (fun c e=>by unfold akm at hnd;rw[e]at hnd;cases hnd),hr]
 cases x with
 | value v=>exact hk _ _ _ _ hq ho' (hf.put hd v)
 | skip=>exact hk _ _ _ _ hq ho' (hf.put hd undef)
 | enter f args=>
  refine⟨fun e=>(by rw[hF.depth]at e;cases e),hF.calls ?_⟩
  refine(hq φ w' ho').mono ?_
  rintro e w2 ⟨v,I2,rfl,hq2,ho2⟩
  exact hk _ _ _ _ hq2 ho2 (hf.put hd v)
 | _=>exact hq.elim
def apD{fr:Fr}{a:Act}(hf:uQ N ds fr a){ops:Array Oper}{j t:Nat}{v:ZC}(ht:(ops[j]?).bind (·.dst)=some t)(hl:look fr t=some v):
  yielded ops a.tmps j=match v with | .bool b=>some b | _=>none:=
 yielded_eq (N:=N) (a:={a with defers:=[]}) ⟨hf.size,rfl,hf.has⟩ ht hl
def ad5.soundIn(hF:aiM F){ops:Array Oper}{Q:Exit->Fr->AH->Prop}{φ:AH}(hnd:∀ (i:Nat) (o:Oper),ops[i]?=some o->akm o=true)(l:List Nat):∀ {fr:Fr} {I:AH} {a:Act} {w:ZB},
  ad5 P B ro N ops (Q .normal) l fr I->Own B ro φ I w->uQ N ds fr a->wpOpsIn F n P ops (auY B ro N ds φ Q) l a w:=by
 induction l with
 | nil=>intro fr I a w h ho hf;exact⟨fr,I,h,ho,hf⟩
 | cons i rest ih=>
  intro fr I a w h ho hf
  simp only[ad5]at h
  simp only[wpOpsIn]
  cases hi:ops[i]? with
  | none=>rw[hi]at h;exact ih h ho hf
  | some o=>
   rw[hi]at h
   obtain⟨hd,h⟩:=h
   dsimp only
   cases hg:o.guard with
   | none=>
    rw[hg]at h
    have hw:Region.wanted o (yielded ops a.tmps)=true:=by simp[Region.wanted,hg]
    rw[mc hw]
    exact wi.soundIn hF (hnd i o hi) h hd ho hf fun fr I a w hk ho hf=>ih hk ho hf
   | some g=>
    obtain⟨j,want⟩:=g
    rw[hg]at h
    obtain⟨t,v,ht,hl,h⟩:=h
    have hy:=apD hf ht hl
    rcases h with⟨rfl,h⟩ | ⟨hv,h⟩
    .have hw:Region.wanted o (yielded ops a.tmps)=true:=by simp[Region.wanted,hg,hy]
     rw[mc hw]
     exact wi.soundIn hF (hnd i o hi) h hd ho hf fun fr I a w hk ho hf=>ih hk ho hf
    .have hw:¬ Region.wanted o (yielded ops a.tmps)=true:=by
      simp only[Region.wanted,hg,hy]
      cases v<;>simp
      rename_i b;intro e;subst e;exact hv rfl
     rw[ma hw]
     exact⟨fun f _=>hF.fn f,ih h ho (hf.put hd undef)⟩
end
def AWF(F:Fence)(n:Nat)(ds:List Deferred)(P:Program)(B:ZB)(ro:AH)(N:Nat)(c:Code)(Q:Exit->Fr->AH->Prop)(fr:Fr)(I:AH):Prop:=
 ∀φ w a,Own B ro φ I w->uQ N ds fr a->c.wpIn F n P (auY B ro N ds φ Q) a w
section
variable{F:Fence}{n:Nat}{ds:List Deferred}{P:Program}{B:ZB}{ro:AH}{N:Nat}{Q:Exit->Fr->AH->Prop}{fr:Fr}{I:AH}
def AWF.skip(h:Q .normal fr I):AWF F n ds P B ro N .skip Q fr I:=fun _ _ _ ho hf=>wpIn_skip ⟨fr,I,h,ho,hf⟩
def AWF.ret(h:Q .ret fr I):AWF F n ds P B ro N .ret Q fr I:=fun _ _ _ ho hf=>wpIn_ret ⟨fr,I,h,ho,hf⟩
def AWF.seq{x y:Code}(h:AWF F n ds P B ro N x (adi (AWF F n ds P B ro N y Q) Q) fr I):AWF F n ds P B ro N (.seq x y) Q fr I:=by
 intro φ w a ho hf
 refine wpIn_seq (wpIn_mono (h φ w a ho hf) ?_)
 rintro e a' w' ⟨fr',I',hq,ho',hf'⟩
 cases e with
 | normal=>exact hq φ w' a' ho' hf'
 | _=>exact⟨fr',I',hq,ho',hf'⟩
def AWF.cond{c:Operand}{x y:Code}{b:Bool}(hc:qm fr c=some (.bool b))(ht:b=true->AWF F n ds P B ro N x Q fr I)(hn:b=false->AWF F n ds P B ro N y Q fr I):AWF F n ds P B ro N (.cond c x y) Q fr I:=
 fun φ w a ho hf=>wpIn_cond_split (hf.agrees _ _ hc) (fun e=>ht e φ w a ho hf) (fun e=>hn e φ w a ho hf)
def AWF.block{id:Nat}{c:Code}(h:AWF F n ds P B ro N c (afd id Q) fr I):AWF F n ds P B ro N (.block id c) Q fr I:=by
 intro φ w a ho hf
 refine wpIn_block (wpIn_mono (h φ w a ho hf) ?_)
 rintro e a' w' ⟨fr',I',hq,ho',hf'⟩
 cases e with
 | exit id'=>
  simp only[afd]at hq
  simp only[Exit.inBlock]
  split
  .rename_i e;rw[mc e]at hq;exact⟨fr',I',hq,ho',hf'⟩
  .rename_i e;rw[ma e]at hq;exact⟨fr',I',hq,ho',hf'⟩
 | _=>exact⟨fr',I',hq,ho',hf'⟩
def AWF.reg(hF:aiM F){id:Nat}{ops:Array Oper}(hnd:ops.toList.all akm=true)(h:qK P B ro N ops (wk (Q .normal)) ops.toList fr I):AWF F n ds P B ro N (.region id ops false) Q fr I:=by
 intro φ w a ho hf
 have h1:ad5 P B ro N ops ((fun e=>wk (Q e)) .normal) (List.range ops.size) fr I:=by
  rw[List.range_eq_range']
  exact anh ops.size 0 z7 h
 refine wpIn_mono (wpIn_region (ad5.soundIn hF (Q:=fun e=>wk (Q e)) (fun i o hi=>?_) _ h1 ho hf)) ?_
 .have:=mI.1 hnd o (by
   rw[Array.getElem?_eq_some_iff]at hi
   obtain⟨hlt,rfl⟩:=hi
   simp)
  exact this
 .rintro e a' w' ⟨fr',I',⟨fr0,h1,h2⟩,h3,h4⟩
  exact⟨fr0,I',h2,h3,h4.weaken h1⟩
def AWF.mono{c:Code}{Q':Exit->Fr->AH->Prop}(h:AWF F n ds P B ro N c Q fr I)(hq:∀ e fr I,Q e fr I->Q' e fr I):AWF F n ds P B ro N c Q' fr I:=
 fun φ w a ho ha=>wpIn_mono (h φ w a ho ha) fun _ _ _ ⟨fr,I,h1,h2,h3⟩=>⟨fr,I,hq _ _ _ h1,h2,h3⟩
end