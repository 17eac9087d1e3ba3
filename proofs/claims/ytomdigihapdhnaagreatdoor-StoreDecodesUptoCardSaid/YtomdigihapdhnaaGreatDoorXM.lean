import Derived.Test.YtomdigihapdhnaaGreatDoorXL
set_option linter.all false
set_option maxRecDepth 99999
set_option maxHeartbeats 0
open Go.IntKind(i64)
open Go.Proofs.Tryz
namespace Go.Proofs.YtomdigihapdhnaaGreatDoor
namespace G
open Go SL
variable{B:World}{ro I:AH}
def adW(B:World)(ro I:AH)(Q:Option Addr->AH->Prop):Prop:=
 nw ro I (.map #[] 0) fun u0 I=>
 nw ro I (.cells #[.map (some u0)] 245) fun u1 I=>
 Q (some ⟨u1,0,none⟩) I
theorem ah4{Q}(h:Sep ro I->adW B ro I Q):af5 B ro I Q:=by
 refine zb h func68 ntmps68 fun h=>?_;unfold adW at h;refine zw ?_;refine zA (ad3 rfl) h fun u0 h=>?_;refine zm (wD (vs:=[(0,.map (some u0))]) (cs:= #[.map (some u0)]) rfl LN as3 ata rfl rfl) ?_;refine zA (wY rfl rfl) h fun u1 h=>?_;exact zr h
def pu(B:World)(ro:AH)(u0:Option Addr)(Q:Sl->AH->Prop)(I:AH):=
 xT B ro u0 I fun u1 u2 I=>
 Q u1 I
def yB(B:World)(ro:AH)(a0 u0:Option Addr)(u1:Sl)(u2:Int)(Q:Sl->AH->Prop)(Y10:Int->AH->Prop)(I:AH):=
 Y10 (i64.wrap (u2+1)) I
def vR(B:World)(ro:AH)(a0 u0:Option Addr)(u1:Sl)(u2:Int)(u3:Sl)(Q:Sl->AH->Prop)(Y10:Int->AH->Prop):Int->AH->(Int->AH->Prop)->Prop:=fun u4 I Y37=>
 if u4<(u3.len:Int)then
 ∃p5,u3.a=some p5/\(0:Int)<=u4/\u4<(u3.len:Int)/\
 ∃u6 u7,qB ro I (p5.add (Int.toNat u4*2)) 0 [.string u6,.int .i64 u7]/\
 nw ro I (.cells #[.string ByteArray.empty,.int .i64 0] 314) fun u8 I=>
 stN ⟨u8,0,none⟩ (fun I=>
  ∃u9,qb ro I ((⟨u8,0,none⟩:Addr).add 1)=some (.int .i64 u9)/\
  nw ro I (.cells #[.int .i64 u9] 3) fun u10 I=>
  qX B ro u0 (⟨some ⟨u10,0,none⟩,1,1⟩:Sl) I fun I=>
  ∃u11,qb ro I ⟨u8,0,none⟩=some (.string u11)/\
  nw ro I (.cells #[.string u11] 9) fun u12 I=>
  zE B ro u0 (⟨some ⟨u12,0,none⟩,1,1⟩:Sl) I fun I=>
  Y37 (i64.wrap (u4+1)) I) [.string u6,.int .i64 u7] 0 I
 else
 yB B ro a0 u0 u1 u2 Q Y10 I
def xO(B:World)(ro:AH)(a0 u0:Option Addr)(u1:Sl)(u2:Int)(u3:Option Addr)(Q:Sl->AH->Prop)(Y10:Int->AH->Prop)(I:AH):=
 ∃p4,u3=some p4/\
 ∃u5,qb ro I (p4.add 3)=some (.map u5)/\
 awp prog ro (Builtin.len_ #[308] 3 #[.map u5]) (fun v I=> ∃(u6:Int),v= .int .i64 u6/\
 nw ro I (.cells #[.int .i64 u6] 3) fun u7 I=>
 qX B ro u0 (⟨some ⟨u7,0,none⟩,1,1⟩:Sl) I fun I=>
 ∃p8,u3=some p8/\
 ∃u9,qb ro I (p8.add 3)=some (.map u9)/\
 aay B ro u9 I fun u10 I=>
 xy B ro u10 (.func (.func 166) #[] #[]) I fun u11 I=>
 lfpD (vR B ro a0 u0 u1 u2 u11 Q Y10) (0) I) I
def vT(B:World)(ro:AH)(a0 u0:Option Addr)(u1:Sl)(u2:Int)(u3:Option Addr)(u4:Sl)(Q:Sl->AH->Prop)(Y10:Int->AH->Prop):Int->AH->(Int->AH->Prop)->Prop:=fun u5 I Y48=>
 if u5<(u4.len:Int)then
 ∃p6,u4.a=some p6/\(0:Int)<=u5/\u5<(u4.len:Int)/\
 ∃u7 u8 u9,qB ro I (p6.add (Int.toNat u5*3)) 0 [.int .i64 u7,.int .i64 u8,.string u9]/\
 nw ro I (.cells #[.int .i64 0,.int .i64 0,.string ByteArray.empty] 132) fun u10 I=>
 stN ⟨u10,0,none⟩ (fun I=>
  ∃u11,qb ro I ((⟨u10,0,none⟩:Addr).add 1)=some (.int .i64 u11)/\
  nw ro I (.cells #[.int .i64 u11] 3) fun u12 I=>
  qX B ro u0 (⟨some ⟨u12,0,none⟩,1,1⟩:Sl) I fun I=>
  ∃u13,qb ro I ((⟨u10,0,none⟩:Addr).add 2)=some (.string u13)/\
  nw ro I (.cells #[.string u13] 9) fun u14 I=>
  zE B ro u0 (⟨some ⟨u14,0,none⟩,1,1⟩:Sl) I fun I=>
  Y48 (i64.wrap (u5+1)) I) [.int .i64 u7,.int .i64 u8,.string u9] 0 I
 else
 xO B ro a0 u0 u1 u2 u3 Q Y10 I
def vV(B:World)(ro:AH)(a0 u0:Option Addr)(u1:Sl)(Q:Sl->AH->Prop):Int->AH->(Int->AH->Prop)->Prop:=fun u2 I Y10=>
 if u2<(u1.len:Int)then
 ∃p3,u1.a=some p3/\(0:Int)<=u2/\u2<(u1.len:Int)/\
 ∃u4 u5,qB ro I (p3.add (Int.toNat u2*2)) 0 [.string u4,.int .i64 u5]/\
 nw ro I (.cells #[.string ByteArray.empty,.int .i64 0] 81) fun u6 I=>
 stN ⟨u6,0,none⟩ (fun I=>
  ∃p7,a0=some p7/\
  ∃u8,qb ro I p7=some (.map u8)/\
  ∃u9 u10,qB ro I ⟨u6,0,none⟩ 0 [.string u9,.int .i64 u10]/\
  awp prog ro (Instr.lookup 243 (.map u8) (.agg #[.string u9,.int .i64 u10]) false) (fun v I=>
  (∃(u11:Option Addr),v= .pointer u11/\
   ∃u12,qb ro I ⟨u6,0,none⟩=some (.string u12)/\
   nw ro I (.cells #[.string u12] 9) fun u13 I=>
   zE B ro u0 (⟨some ⟨u13,0,none⟩,1,1⟩:Sl) I fun I=>
   ∃p14,u11=some p14/\
   ∃p15,u11=some p15/\
   ∃u16,qb ro I ((⟨u6,0,none⟩:Addr).add 1)=some (.int .i64 u16)/\
   ∃u17,qb ro I (p14.add 1)=some (.int .i64 u17)/\
   ∃u18,qb ro I (p15.add 2)=some (.int .i64 u18)/\
   nw ro I (.cells #[.int .i64 u16,.int .i64 u17,.int .i64 u18] 3) fun u19 I=>
   qX B ro u0 (⟨some ⟨u19,0,none⟩,3,3⟩:Sl) I fun I=>
   ∃p20,u11=some p20/\
   ∃u21,qb ro I p20=some (Sl.v u21)/\
   lfpD (vT B ro a0 u0 u1 u2 u11 u21 Q Y10) (0) I)) I) [.string u4,.int .i64 u5] 0 I
 else
 pu B ro u0 Q I
def abG(B:World)(ro:AH)(a0:Option Addr)(I:AH)(Q:Sl->AH->Prop):=
 jl B ro I fun u0 I=>
 ∃p1,a0=some p1/\
 ∃u2,qb ro I p1=some (.map u2)/\
 awp prog ro (Builtin.len_ #[243] 3 #[.map u2]) (fun v I=> ∃(u3:Int),v= .int .i64 u3/\
 nw ro I (.cells #[.int .i64 u3] 3) fun u4 I=>
 qX B ro u0 (⟨some ⟨u4,0,none⟩,1,1⟩:Sl) I fun I=>
 acy B ro a0 I fun u5 I=>
 lfpD (vV B ro a0 u0 u5 Q) (0) I) I
theorem ahw{a0 Q}(h:Sep ro I->abG B ro a0 I Q):abq B ro a0 I Q:=by
 refine zb h func107 ntmps107 fun h=>?_;unfold abG at h;refine zc func43 h ?_;rintro v I ⟨u0,rfl,h⟩;refine zN h fun p1 h=>?_;refine zf LN ajt ?_;refine zL LO h fun u2 h=>?_;refine zl (yt (s:=Builtin.len_ #[243] 3 #[.map u2]) rfl rfl (fun _=>rfl) (qj _ h ?_))
 rintro v I ⟨u3,rfl,h⟩;refine zA (wS (vs:=[(0,.int .i64 u3)]) (cs:= #[.int .i64 u3]) rfl mx ty3 z8 rfl rfl) h fun u4 h=>?_;refine zc func44 h ?_;rintro v I ⟨rfl,h⟩;refine zw ?_;refine AW.seqJ (fun fr I=>qg [(3,.pointer u0)] fr/\pu B ro u0 Q I) ?_ ?_
 .rintro fr I ⟨hl,h⟩;refine AW.weaken ?_ hl (HLe.refl _)
  unfold pu at h;refine zc func47 h ?_;rintro v I ⟨u5,u6,rfl,h⟩;exact zr h
 refine zc func163 h ?_;rintro v I ⟨u7,rfl,h⟩;refine zm (qD rfl rfl Le rfl rfl) ?_;refine zw ?_;refine qf.loop (fr':=[(0,.pointer a0),(3,.pointer u0),(23,Sl.v u7),(24,.int .i64 (u7.len:Int)),(25,.int .i64 0)]) ?_ FL
 refine h (fun u8 I=>qf _ _ _ _ _ _ [(0,.pointer a0),(3,.pointer u0),(23,Sl.v u7),(24,.int .i64 (u7.len:Int)),(25,.int .i64 u8)] I) ?_
 rintro u8 I Y10 hY10 h
 show AW _ _ _ _ _ _ _ _
 unfold vV at h;refine zw ?_;refine AW.seq ?_;refine zi h (fun h=>?_) fun h=>?_
 rotate_left
 .refine AW.exit ?_;refine zw ?_;refine qN ?_
  refine zw ?_;exact⟨FL,h⟩
 refine zw ?_;refine AW.seqJ (fun fr I=>qg [(0,.pointer a0),(3,.pointer u0),(23,Sl.v u7),(24,.int .i64 (u7.len:Int)),(25,.int .i64 u8)] fr/\yB B ro a0 u0 u7 u8 Q Y10 I) ?_ ?_
 .rintro fr I ⟨hl,h⟩;refine AW.weaken ?_ hl (HLe.refl _)
  unfold yB at h;refine zw ?_;refine qf.head (fr':=[(0,.pointer a0),(3,.pointer u0),(23,Sl.v u7),(24,.int .i64 (u7.len:Int)),(25,.int .i64 (i64.wrap (u8+1)))]) ?_ FL
  exact hY10 _ _ h
 refine zw ?_;obtain⟨p9,ha,h0,h1,h⟩:=h
 refine zm (wR rfl Le zP (ixL rfl ha) rfl h0 h1) ?_;obtain⟨u10,u11,hc,h⟩:=h
 refine zl (jz rfl mN rfl zP rfl hc ?_)
 refine zA (vw rfl zP) h fun u12 h=>?_;refine zsp zP h fun I h=>?_;refine AW.seq ?_;refine AW.drawn0 (fun i=>([0,0,0,3,3,2,0]:List Nat).getD i 2) [] [0,1,2,3,4,5,6] mixed j0 ?_
 refine zM h fun p13 h=>?_;refine zg LN ajt ?_;refine zR LO h fun u14 h=>?_;obtain⟨u15,u16,hc,h⟩:=h
 refine Dr rfl rfl rfl rfl (ajq rfl mN rfl zP rfl hc) ?_
 refine Dg rfl rfl rfl rfl (acW rfl rfl rfl (qj _ h ?_))
 rintro v I ⟨u17,rfl,h⟩;refine zw ?_;refine vn ?_
 refine zf mN ty9 ?_;refine zL mu h fun u18 h=>?_;refine zA (wS (vs:=[(0,.string u18)]) (cs:= #[.string u18]) rfl mP ty9 z8 rfl rfl) h fun u19 h=>?_;refine zc func45 h ?_;rintro v I ⟨rfl,h⟩;refine zw ?_;refine AW.seq ?_;refine AW.drawn0 (fun i=>([0,0,3,0,0,0,0,3,0,0,0,0,3,1,2]:List Nat).getD i 2) [(2,13),(2,14),(7,13),(7,14),(12,13),(12,14)] [0,1,3,4,5,6,8,9,10,11,2,7,12,13,14] mixed j0 ?_
 refine zg mN ty3 ?_;refine zM h fun p20 h=>?_;refine zg nH abM ?_;refine zg nI ty3 ?_;refine zM h fun p21 h=>?_;refine zg nH abM ?_;refine zg nI ty3 ?_;refine zR mj h fun u22 h=>?_;refine zR mj h fun u23 h=>?_;refine zR mj h fun u24 h=>?_;refine Da rfl rfl rfl rfl (wS (vs:=[(0,.int .i64 u22),(1,.int .i64 u23),(2,.int .i64 u24)]) (cs:= #[.int .i64 u22,.int .i64 u23,.int .i64 u24]) rfl mx ty3 z8 rfl rfl) fun u25 g1 g2=>?_
 replace h:=h u25 g1 g2
 refine zG func44 h ?_;rintro v I ⟨rfl,h⟩;refine vn ?_
 refine zw ?_;refine AW.seqJ (fun fr I=>qg [(0,.pointer a0),(3,.pointer u0),(6,.pointer u17),(23,Sl.v u7),(24,.int .i64 (u7.len:Int)),(25,.int .i64 u8)] fr/\xO B ro a0 u0 u7 u8 u17 Q Y10 I) ?_ ?_
 rotate_left
 .refine zN h fun p26 h=>?_;refine zf nH abM ?_;refine zf nI akc ?_;refine zL LC h fun u27 h=>?_;refine zm (qD rfl rfl LC rfl rfl) ?_;refine zw ?_;refine qf.loop (fr':=[(0,.pointer a0),(3,.pointer u0),(6,.pointer u17),(23,Sl.v u7),(24,.int .i64 (u7.len:Int)),(25,.int .i64 u8),(59,Sl.v u27),(60,.int .i64 (u27.len:Int)),(61,.int .i64 0)]) ?_ FL
  refine h (fun u28 I=>qf _ _ _ _ _ _ [(0,.pointer a0),(3,.pointer u0),(6,.pointer u17),(23,Sl.v u7),(24,.int .i64 (u7.len:Int)),(25,.int .i64 u8),(59,Sl.v u27),(60,.int .i64 (u27.len:Int)),(61,.int .i64 u28)] I) ?_
  rintro u28 I Y48 hY48 h
  show AW _ _ _ _ _ _ _ _
  unfold vT at h;refine zw ?_;refine AW.seq ?_;refine zi h (fun h=>?_) fun h=>?_
  rotate_left
  .refine AW.exit ?_;refine zw ?_;refine qN ?_
   refine zw ?_;exact⟨FL,h⟩
  refine zw ?_;refine AW.seq ?_;refine zw ?_;obtain⟨p29,ha,h0,h1,h⟩:=h
  refine zm (wR rfl LC aig (ixL rfl ha) rfl h0 h1) ?_;obtain⟨u30,u31,u32,hc,h⟩:=h
  refine zl (jz rfl Pc rfl aig rfl hc ?_)
  refine zA (vw rfl aig) h fun u33 h=>?_;refine zs aig h fun I h=>?_;refine zf Pc ty3 ?_;refine zL mj h fun u34 h=>?_;refine zA (wS (vs:=[(0,.int .i64 u34)]) (cs:= #[.int .i64 u34]) rfl mx ty3 z8 rfl rfl) h fun u35 h=>?_;refine zc func44 h ?_;rintro v I ⟨rfl,h⟩;refine zf Pc ty9 ?_;refine zL mu h fun u36 h=>?_
  refine zA (wS (vs:=[(0,.string u36)]) (cs:= #[.string u36]) rfl mP ty9 z8 rfl rfl) h fun u37 h=>?_;refine zc func45 h ?_;rintro v I ⟨rfl,h⟩;refine zw ?_;refine qf.head (fr':=[(0,.pointer a0),(3,.pointer u0),(6,.pointer u17),(23,Sl.v u7),(24,.int .i64 (u7.len:Int)),(25,.int .i64 u8),(59,Sl.v u27),(60,.int .i64 (u27.len:Int)),(61,.int .i64 (i64.wrap (u28+1)))]) ?_ FL
  exact hY48 _ _ h
 rintro fr I ⟨hl,h⟩;refine AW.weaken ?_ hl (HLe.refl _)
 unfold xO at h;refine zN h fun p38 h=>?_;refine zf nH alH ?_;refine zL Pd h fun u39 h=>?_;refine zl (yt (s:=Builtin.len_ #[308] 3 #[.map u39]) rfl rfl (fun _=>rfl) (qj _ h ?_))
 rintro v I ⟨u40,rfl,h⟩;refine zA (wS (vs:=[(0,.int .i64 u40)]) (cs:= #[.int .i64 u40]) rfl mx ty3 z8 rfl rfl) h fun u41 h=>?_;refine zc func44 h ?_;rintro v I ⟨rfl,h⟩;refine zN h fun p42 h=>?_;refine zf nH alH ?_;refine zL Pd h fun u43 h=>?_;refine zc func165 h ?_;rintro u44 I ⟨_,rfl,h⟩
 refine zc func164 h ?_;rintro v I ⟨u45,rfl,h⟩;refine zm (qD rfl rfl LI rfl rfl) ?_;refine zw ?_;refine qf.loop (fr':=[(0,.pointer a0),(3,.pointer u0),(23,Sl.v u7),(24,.int .i64 (u7.len:Int)),(25,.int .i64 u8),(89,Sl.v u45),(90,.int .i64 (u45.len:Int)),(91,.int .i64 0)]) ?_ FL
 refine h (fun u46 I=>qf _ _ _ _ _ _ [(0,.pointer a0),(3,.pointer u0),(23,Sl.v u7),(24,.int .i64 (u7.len:Int)),(25,.int .i64 u8),(89,Sl.v u45),(90,.int .i64 (u45.len:Int)),(91,.int .i64 u46)] I) ?_
 rintro u46 I Y37 hY37 h
 show AW _ _ _ _ _ _ _ _
 unfold vR at h;refine zw ?_;refine AW.seq ?_;refine zi h (fun h=>?_) fun h=>?_
 rotate_left
 .refine AW.exit ?_;refine zw ?_;refine qN ?_
  refine zw ?_;exact⟨FL,h⟩
 refine zw ?_;refine AW.seq ?_;refine zw ?_;obtain⟨p47,ha,h0,h1,h⟩:=h
 refine zm (wR rfl LI ko (ixL rfl ha) rfl h0 h1) ?_;obtain⟨u48,u49,hc,h⟩:=h
 refine zl (jz rfl nt rfl ko rfl hc ?_)
 refine zA (vw rfl ko) h fun u50 h=>?_;refine zs ko h fun I h=>?_;refine zf nt ty3 ?_;refine zL mj h fun u51 h=>?_;refine zA (wS (vs:=[(0,.int .i64 u51)]) (cs:= #[.int .i64 u51]) rfl mx ty3 z8 rfl rfl) h fun u52 h=>?_;refine zc func44 h ?_;rintro v I ⟨rfl,h⟩;refine zf nt ty9 ?_;refine zL mu h fun u53 h=>?_
 refine zA (wS (vs:=[(0,.string u53)]) (cs:= #[.string u53]) rfl mP ty9 z8 rfl rfl) h fun u54 h=>?_;refine zc func45 h ?_;rintro v I ⟨rfl,h⟩;refine zw ?_;refine qf.head (fr':=[(0,.pointer a0),(3,.pointer u0),(23,Sl.v u7),(24,.int .i64 (u7.len:Int)),(25,.int .i64 u8),(89,Sl.v u45),(90,.int .i64 (u45.len:Int)),(91,.int .i64 (i64.wrap (u46+1)))]) ?_ FL
 exact hY37 _ _ h
def jW(B:World)(ro:AH)(u0:Option Addr)(Q:Option Addr->Int->AH->Prop)(u1:Bool)(I:AH):=
 if u1=true then
 Q none 13 I
 else
 Q u0 0 I
def abf(B:World)(ro:AH)(u0 u1:Option Addr)(Q:Option Addr->Int->AH->Prop)(I:AH):=
 wI B ro u1 I fun u2 I=>
 if¬(u2=0)then
 jW B ro u0 Q true I
 else
 wZ B ro u1 I fun u3 I=>
 jW B ro u0 Q (decide (0<u3)) I
def ju(B:World)(ro:AH)(u0:Nat)(u1:Int)(u2:Nat)(u3 u4 u5:Option Addr)(Q:Option Addr->Int->AH->Prop)(Y10:Int->AH->Prop)(u6:Bool)(I:AH):=
 if u6=true then
 Q none 13 I
 else
 uS I fun ψ I=>
 ∃p7,u3=some p7/\
 ∃u8 u9,qB (join ro ψ) (fun _=>none) ⟨u2,0,none⟩ 0 [.string u8,.int .i64 u9]/\
 ∃u10,qb (join ro ψ) I p7=some (.map u10)/\
 ∃u11 u12,qB (join ro ψ) I ⟨u2,0,none⟩ 0 [.string u11,.int .i64 u12]/\
 awp prog (join ro ψ) (Instr.mapEntry 243 (.map u10) (.agg #[.string u11,.int .i64 u12])) (fun v I=>
  (∃(u13:Option Addr) (u14:Int),v= .tuple #[.pointer u13,.int .i64 u14]/\
  awp prog (join ro ψ) (Instr.entryStore 243 (.map u10) (.int .i64 u14) (.pointer u5)) (fun _ I=>
   (qI ψ I->(fun I=>
   stN ⟨u0,0,none⟩ (fun I=>
    Y10 (i64.wrap (u1 - 1)) I) [.string u8,.int .i64 u9] 0 I) (join ψ I))) I)) I
def jv(B:World)(ro:AH)(u0:Nat)(u1 u2:Option Addr)(Q:Option Addr->Int->AH->Prop):Int->AH->(Int->AH->Prop)->Prop:=fun u3 I Y10=>
 if 0<u3 then
 vE B ro u2 I fun u4 I=>
 qt B ro u2 I fun u5 I=>
 nw ro I (.cells #[.string ByteArray.empty,.int .i64 0] 81) fun u6 I=>
 stN ⟨u6,0,none⟩ (fun I=>
  ∃u7 u8,qB ro I ⟨u6,0,none⟩ 0 [.string u7,.int .i64 u8]/\
  acz B ro u2 u7 u8 I fun u9 I=>
  if u9=none then
  ju B ro u0 u3 u6 u1 u2 u9 Q Y10 true I
  else
  ∃u10 u11,qB ro I ⟨u0,0,none⟩ 0 [.string u10,.int .i64 u11]/\
  ∃u12 u13,qB ro I ⟨u6,0,none⟩ 0 [.string u12,.int .i64 u13]/\
  aaz B ro u10 u11 u12 u13 I fun u14 I=>
  ju B ro u0 u3 u6 u1 u2 u9 Q Y10 (decide (0<=u14)) I) [.string u4,.int .i64 u5] 0 I
 else
 abf B ro u1 u2 Q I
def adG(B:World)(ro:AH)(a0:Sl)(I:AH)(Q:Option Addr->Int->AH->Prop):=
 af5 B ro I fun u0 I=>
 jm B ro a0 I fun u1 I=>
 nw ro I (.cells #[.string ByteArray.empty,.int .i64 0] 81) fun u2 I=>
 qt B ro u1 I fun u3 I=>
 lfpD (jv B ro u2 u0 u1 Q) (u3) I
theorem aj2{a0 Q}(h:Sep ro I->adG B ro a0 I Q):ux B ro a0 I Q:=by
 refine zb h func109 ntmps109 fun h=>?_;unfold adG at h;refine zc func68 h ?_;rintro v I ⟨u0,rfl,h⟩;refine zC func53 h fun u1 I h=>?_;refine zAp (vw rfl zP) h fun u2 h=>?_;refine AW.seqJ (fun fr I=>qg [(4,.pointer u0),(5,.pointer u1)] fr/\abf B ro u0 u1 Q I) ?_ ?_
 .rintro fr I ⟨hl,h⟩;refine AW.weaken ?_ hl (HLe.refl _)
  unfold abf at h;refine AW.seq ?_;refine zC func57 h fun u3 I h=>?_;refine qn 4 (!(decide (u3=0))) (qp mg) h (fun fr I=> ∃(u4:Bool),qg [(4,.pointer u0),(51,.bool u4)] fr/\jW B ro u0 Q u4 I) ?_ ?_ ?_
  .intro h e3 hk3;refine zv e3 ?_;exact hk3 _ _ ⟨_,FL,h⟩
  .intro h e3 hk3;refine zy e3 ?_;refine Lyb rfl rfl rfl rfl e3 (wu rfl func58 rfl rfl rfl (qc.mono h ?_))
   rintro v I ⟨u5,rfl,h⟩;refine zv e3 ?_;exact hk3 _ _ ⟨_,FL,h⟩
  rintro fr I ⟨u4,hl,h⟩;unfold jW at h;refine Lfr hl ?_
  refine zj h (fun h=>?_) fun h=>?_
  .exact zrr h
  exact zrr h
 refine zC func54 h fun u6 I h=>?_;refine qf.loop (fr':=[(4,.pointer u0),(5,.pointer u1),(6,.pointer (some ⟨u2,0,none⟩)),(7,.int .i64 u6)]) ?_ FL
 refine h (fun u7 I=>qf _ _ _ _ _ _ [(4,.pointer u0),(5,.pointer u1),(6,.pointer (some ⟨u2,0,none⟩)),(7,.int .i64 u7)] I) ?_
 rintro u7 I Y10 hY10 h
 show AW _ _ _ _ _ _ _ _
 unfold jv at h;refine AW.seq ?_;refine zi h (fun h=>?_) fun h=>?_
 rotate_left
 .refine AW.exit ?_;refine zw ?_;refine qN ?_
  refine zw ?_;exact⟨FL,h⟩
 refine zw ?_;refine AW.seq ?_;refine zc func55 h ?_;rintro v I ⟨u8,rfl,h⟩;refine zc func54 h ?_;rintro v I ⟨u9,rfl,h⟩;refine zm (wD (vs:=[(0,.string u8),(1,.int .i64 u9)]) (cs:= #[.string u8,.int .i64 u9]) rfl mN zP anV rfl rfl) ?_;refine zA (vw rfl zP) h fun u10 h=>?_;refine zsp zP h fun I h=>?_;obtain⟨u11,u12,hc,h⟩:=h
 refine zl (jz rfl mN rfl zP rfl hc ?_)
 refine zC func168 h fun u13 I h=>?_;refine AW.seq ?_;refine zw ?_;refine zm (afI rfl underlying305 rfl rfl) ?_;refine zw ?_;refine qn 5 u13.isNone vP h (fun fr I=> ∃(u14:Bool),qg [(4,.pointer u0),(5,.pointer u1),(6,.pointer (some ⟨u2,0,none⟩)),(7,.int .i64 u7),(8,.pointer (some ⟨u10,0,none⟩)),(9,.pointer u13),(34,.bool u14)] fr/\ju B ro u2 u7 u10 u0 u1 u13 Q Y10 u14 I) ?_ ?_ ?_
 .intro h e2 hk2;refine zv e2 ?_;exact hk2 _ _ ⟨_,FL,h⟩
 .intro h e2 hk2;obtain⟨u15,u16,hc,h⟩:=h
  refine Lyb rfl rfl rfl rfl e2 (jz rfl mN rfl zP rfl hc ?_)
  obtain⟨u17,u18,hc,h⟩:=h
  refine Lyb rfl rfl rfl rfl e2 (jz rfl mN rfl zP rfl hc ?_)
  refine Lyb rfl rfl rfl rfl e2 (wu rfl func169 rfl rfl rfl (qc.mono h ?_))
  rintro v I ⟨u19,rfl,h⟩;refine zv e2 ?_;exact hk2 _ _ ⟨_,FL,h⟩
 rintro fr I ⟨u14,hl,h⟩;unfold ju at h;refine Lfr hl ?_
 refine zj h (fun h=>?_) fun h=>?_
 .exact zrr h
 refine zw ?_;refine AW.drawn2 (fun i=>([0,0,0,3,3,0,0,2,0,2,2]:List Nat).getD i 2) [] [0,1,2,5,6,3,4,7,8,9] [10] mixed h j0 ?_
 clear h
 intro ψ I h
 refine zM h fun p20 h=>?_;refine zg LN ajt ?_;refine zw ?_;obtain⟨u21,u22,hc,h⟩:=h
 refine Dp rfl rfl rfl rfl (anO rfl mN rfl zP rfl hc) ?_
 refine zR LO h fun u23 h=>?_;obtain⟨u24,u25,hc,h⟩:=h
 refine Dr rfl rfl rfl rfl (ajq rfl mN rfl zP rfl hc) ?_
 refine Dg rfl rfl rfl rfl (ajo rfl rfl rfl (qj _ h ?_))
 rintro v I ⟨u26,u27,rfl,h⟩;refine zw ?_;refine Dg rfl rfl rfl rfl (ajp rfl rfl rfl rfl (qj _ h ?_))
 rintro _ I h
 refine⟨_,zz.refl _,fun hdj=>?_⟩
 replace h:=h hdj
 refine Dg rfl rfl rfl rfl (aeh rfl zP rfl rfl rfl rfl (pZ h fun I h=>?_))
 refine vn ?_
 refine zw ?_;refine qf.head (fr':=[(4,.pointer u0),(5,.pointer u1),(6,.pointer (some ⟨u2,0,none⟩)),(7,.int .i64 (i64.wrap (u7 - 1)))]) ?_ FL
 exact hY10 _ _ h
def acJ(B:World)(ro:AH)(a0:Option Addr)(I:AH)(Q:Sl->AH->Prop):=
 ∃p0,a0=some p0/\
 ∃u1,qb ro I p0=some (.map u1)/\
 aca B ro u1 I fun u2 I=>
 xn B ro u2 (.func (.func 169) #[] #[]) I fun u3 I=>
 Q u3 I
theorem aiv{a0 Q}(h:Sep ro I->acJ B ro a0 I Q):acy B ro a0 I Q:=by
 refine zb h func163 ntmps163 fun h=>?_;unfold acJ at h;refine zN h fun p0 h=>?_;refine zf LN ajt ?_;refine zL LO h fun u1 h=>?_;refine zc func214 h ?_;rintro u2 I ⟨_,rfl,h⟩
 refine zc func213 h ?_;rintro v I ⟨u3,rfl,h⟩;exact zr h
def adH(B:World)(ro:AH)(a0_0:ByteArray)(a0_1:Int)(a1_0:ByteArray)(a1_1:Int)(I:AH)(Q:Int->AH->Prop):=
 nw ro I (.cells #[.string a0_0,.int .i64 a0_1] 314) fun u0 I=>
 nw ro I (.cells #[.string a1_0,.int .i64 a1_1] 314) fun u1 I=>
 uS I fun ψ I=>
 ∃u2,qb (join ro ψ) (fun _=>none) ((⟨u0,0,none⟩:Addr).add 1)=some (.int .i64 u2)/\
 ∃u3,qb (join ro ψ) (fun _=>none) ((⟨u1,0,none⟩:Addr).add 1)=some (.int .i64 u3)/\
 ∃u4,qb (join ro ψ) I ⟨u0,0,none⟩=some (.string u4)/\
 ∃u5,qb (join ro ψ) I ⟨u1,0,none⟩=some (.string u5)/\
 yw B (join ro ψ) u4 u5 I fun u6 I=>
 uo B (join ro ψ) u2 u3 I fun u7 I=>
 nw (join ro ψ) I (.cells #[.int .i64 u6,.int .i64 u7] 3) fun u8 I=>
 ac4 B (join ro ψ) (⟨some ⟨u8,0,none⟩,2,2⟩:Sl) I fun u9 I=>
 (qI ψ I->(fun I=>
  Q u9 I) (join ψ I))
theorem aj3{a0_0 a0_1 a1_0 a1_1 Q}(h:Sep ro I->adH B ro a0_0 a0_1 a1_0 a1_1 I Q):uz B ro a0_0 a0_1 a1_0 a1_1 I Q:=by
 refine zb h func166 ntmps166 fun h=>?_;unfold adH at h;refine zw ?_;refine zA (wY rfl rfl) h fun u0 h=>?_;refine zAp (wY rfl rfl) h fun u1 h=>?_;refine AW.seq ?_;refine AW.drawnL (fun i=>([0,3,0,3,2,0,0,0,0,2,1,2,0]:List Nat).getD i 2) [(1,4),(1,9),(1,10),(1,11),(3,4),(3,9),(3,10),(3,11),(4,10),(4,11)] [0,2,5,6,7,8,1,3,4,9,10,11,12] mixed h j0 ?_
 clear h
 intro ψ I h
 refine zg nt ty9 ?_;refine zg nt ty9 ?_;refine zg nt ty3 ?_;refine zS mj h fun u2 h=>?_;refine zg nt ty3 ?_;refine zS mj h fun u3 h=>?_;refine zR mu h fun u4 h=>?_;refine zR mu h fun u5 h=>?_;refine zG func219 h ?_;rintro v I ⟨u6,rfl,h⟩;refine zG func220 h ?_;rintro v I ⟨u7,rfl,h⟩;refine Da rfl rfl rfl rfl (wS (vs:=[(0,.int .i64 u6),(1,.int .i64 u7)]) (cs:= #[.int .i64 u6,.int .i64 u7]) rfl mx ty3 z8 rfl rfl) fun u8 g1 g2=>?_
 replace h:=h u8 g1 g2
 refine zG func218 h ?_;rintro v I ⟨u9,rfl,h⟩;refine zw ?_;refine⟨_,zz.refl _,fun hdj=>?_⟩
 replace h:=h hdj
 exact zr h
def zx(B:World)(ro:AH)(u0:Nat)(Q:Option Addr->AH->Prop)(u1:Bool)(I:AH):=
 if u1=true then
 Q none I
 else
 Q (some ⟨u0,0,none⟩) I
def xf(B:World)(ro:AH)(u0:Nat)(u1:Bool)(Q:Option Addr->AH->Prop)(u2:Bool)(I:AH):=
 zx B ro u0 Q u2 I
def vL(B:World)(ro:AH)(u0:Nat)(u1:Int)(Q:Option Addr->AH->Prop)(u2:Bool)(I:AH):=
 if u2=true then
 zx B ro u0 Q true I
 else
 if u1=0 then
 ∃u3,qb ro I ((⟨u0,0,none⟩:Addr).add 2)=some (.int .i64 u3)/\
 xf B ro u0 u2 Q (decide (u3=0)) I
 else
 xf B ro u0 u2 Q false I
def xh(B:World)(ro:AH)(u0:Nat)(u1:Int)(Q:Option Addr->AH->Prop)(u2:Bool)(I:AH):=
 if u2=true then
 vL B ro u0 u1 Q true I
 else
 ∃u3,qb ro I ⟨u0,0,none⟩=some (Sl.v u3)/\
 vL B ro u0 u1 Q (decide (32<(i64.wrap ((u3.len:Int)+u1)))) I
def jM(B:World)(ro:AH)(a0:Option Addr)(u0 u1:Nat)(u2:Int)(Q:Option Addr->AH->Prop)(I:AH):=
 wI B ro a0 I fun u3 I=>
 if¬(u3=0)then
 xh B ro u1 u2 Q true I
 else
 ∃u4 u5,qB ro I ⟨u0,0,none⟩ 0 [.string u4,.int .i64 u5]/\
 ∃u6,qb ro I ⟨u0,0,none⟩=some (.string u6)/\
 (⟨#[47]⟩:ByteArray).size+u6.size<=9223372036854775807/\
 aaB B ro u4 u5 ((⟨#[47]⟩:ByteArray)++u6) 1 I fun u7 I=>
 xh B ro u1 u2 Q (!(decide (u7=0))) I
def xi(B:World)(ro:AH)(a0:Option Addr)(u0 u1 u2 u3:Nat)(u4 u5:Int)(Q:Option Addr->AH->Prop)(Y28:Int->AH->Prop)(u6:Bool)(I:AH):=
 if u6=true then
 Q none I
 else
 uS I fun ψ I=>
 ∃u7 u8,qB (join ro ψ) (fun _=>none) ⟨u2,0,none⟩ 0 [.string u7,.int .i64 u8]/\
 ∃u9,qb (join ro ψ) I ((⟨u3,0,none⟩:Addr).add 3)=some (.map u9)/\
 ∃u10 u11,qB (join ro ψ) I ⟨u2,0,none⟩ 0 [.string u10,.int .i64 u11]/\
 awp prog (join ro ψ) (Instr.mapEntry 308 (.map u9) (.agg #[.string u10,.int .i64 u11])) (fun v I=>
  (∃(u12:Int) (u13:Int),v= .tuple #[.int .i64 u12,.int .i64 u13]/\
  awp prog (join ro ψ) (Instr.entryStore 308 (.map u9) (.int .i64 u13) (.int .i64 1)) (fun _ I=>
   (qI ψ I->(fun I=>
   stN ⟨u1,0,none⟩ (fun I=>
    Y28 (i64.wrap (u5+1)) I) [.string u7,.int .i64 u8] 0 I) (join ψ I))) I)) I
def vM(B:World)(ro:AH)(a0:Option Addr)(u0 u1 u2:Nat)(u3:Int)(Q:Option Addr->AH->Prop):Int->AH->(Int->AH->Prop)->Prop:=fun u4 I Y28=>
 if u4<(if 33<u3 then 33 else u3)then
 qt B ro a0 I fun u5 I=>
 vE B ro a0 I fun u6 I=>
 nw ro I (.cells #[.string ByteArray.empty,.int .i64 0] 314) fun u7 I=>
 stN ⟨u7,0,none⟩ (fun I=>
  ∃u8 u9,qB ro I ⟨u0,0,none⟩ 0 [.string u8,.int .i64 u9]/\
  ∃u10 u11,qB ro I ⟨u7,0,none⟩ 0 [.string u10,.int .i64 u11]/\
  aaB B ro u8 u9 u10 u11 I fun u12 I=>
  if¬(u12=0)then
  xi B ro a0 u0 u1 u7 u2 u3 u4 Q Y28 true I
  else
  ∃u13 u14,qB ro I ⟨u1,0,none⟩ 0 [.string u13,.int .i64 u14]/\
  ∃u15 u16,qB ro I ⟨u7,0,none⟩ 0 [.string u15,.int .i64 u16]/\
  uz B ro u13 u14 u15 u16 I fun u17 I=>
  xi B ro a0 u0 u1 u7 u2 u3 u4 Q Y28 (decide (0<=u17)) I) [.string u6,.int .i64 u5] 0 I
 else
 jM B ro a0 u0 u2 u3 Q I
def jN(B:World)(ro:AH)(a0:Option Addr)(u0 u1:Nat)(Q:Option Addr->AH->Prop)(I:AH):=
 qt B ro a0 I fun u2 I=>
 nw ro I (.cells #[.string ByteArray.empty,.int .i64 0] 314) fun u3 I=>
 stN ⟨u3,0,none⟩ (fun I=>
 lfpD (vM B ro a0 u0 u3 u1 u2 Q) (0) I) [.string ByteArray.empty,.int .i64 0] 0 I
def xj(B:World)(ro:AH)(a0:Option Addr)(u0 u1:Nat)(u2 u3:Int)(u4:ByteArray)(Q:Option Addr->AH->Prop)(Y46:(Unit)->AH->Prop)(u5:Bool)(I:AH):=
 if u5=true then
 Q none I
 else
 abV B ro (some ⟨u1,0,none⟩) u3 u4 I fun I=>
 Y46 () I
def xk(B:World)(ro:AH)(a0:Option Addr)(u0 u1 u2:Nat)(u3 u4:Int)(u5:ByteArray)(Q:Option Addr->AH->Prop)(Y46:(Unit)->AH->Prop)(I:AH):=
 if(u4<1)\/(4<u4)then
 xj B ro a0 u0 u2 u3 u4 u5 Q Y46 true I
 else
 ∃u6 u7,qB ro I ⟨u0,0,none⟩ 0 [.string u6,.int .i64 u7]/\
 ∃u8 u9,qB ro I ⟨u1,0,none⟩ 0 [.string u8,.int .i64 u9]/\
 aaB B ro u6 u7 u8 u9 I fun u10 I=>
 xj B ro a0 u0 u2 u3 u4 u5 Q Y46 (!(decide (u10=0))) I
def vN(B:World)(ro:AH)(a0:Option Addr)(u0 u1:Nat)(u2:Int)(Q:Option Addr->AH->Prop):(Unit)->AH->((Unit)->AH->Prop)->Prop:=fun _ I Y46=>
 ∃u3,qb ro I ((⟨u1,0,none⟩:Addr).add 2)=some (.int .i64 u3)/\
 if u3<u2 then
 qt B ro a0 I fun u4 I=>
 vE B ro a0 I fun u5 I=>
 nw ro I (.cells #[.string ByteArray.empty,.int .i64 0] 314) fun u6 I=>
 stN ⟨u6,0,none⟩ (fun I=>
  if u4=4 then
  stN ((⟨u6,0,none⟩:Addr).add 1) (fun I=>
   xk B ro a0 u0 u6 u1 u2 u4 u5 Q Y46 I) [.int .i64 2] 0 I
  else
  xk B ro a0 u0 u6 u1 u2 u4 u5 Q Y46 I) [.string u5,.int .i64 1] 0 I
 else
 jN B ro a0 u0 u1 Q I
def xW(B:World)(ro:AH)(a0:Option Addr)(u0 u1:Nat)(u2:Int)(Q:Option Addr->AH->Prop)(u3:Bool)(I:AH):=
 if u3=true then
 Q none I
 else
 lfpD (vN B ro a0 u0 u1 u2 Q) () I
def acK(B:World)(ro:AH)(a0:Option Addr)(a1_0:ByteArray)(a1_1:Int)(I:AH)(Q:Option Addr->AH->Prop):=
 nw ro I (.cells #[.string a1_0,.int .i64 a1_1] 81) fun u0 I=>
 nw ro I (.map #[] 0) fun u1 I=>
 nw ro I (.cells #[Sl.v (⟨none,0,0⟩:Sl),.int .i64 0,.int .i64 0,.map (some u1)] 310) fun u2 I=>
 qt B ro a0 I fun u3 I=>
 stN ((⟨u2,0,none⟩:Addr).add 1) (fun I=>
 ∃u4,qb ro I ((⟨u2,0,none⟩:Addr).add 1)=some (.int .i64 u4)/\
 stN ((⟨u2,0,none⟩:Addr).add 2) (fun I=>
  qt B ro a0 I fun u5 I=>
  ∃u6,qb ro I ((⟨u2,0,none⟩:Addr).add 1)=some (.int .i64 u6)/\
  if u5<u6 then
  xW B ro a0 u0 u2 u5 Q true I
  else
  ∃u7,qb ro I ((⟨u2,0,none⟩:Addr).add 1)=some (.int .i64 u7)/\
  xW B ro a0 u0 u2 u5 Q (decide (32<(i64.wrap (u5 - u7)))) I) [.int .i64 u4] 0 I) [.int .i64 u3] 0 I
theorem aiw{a0 a1_0 a1_1 Q}(h:Sep ro I->acK B ro a0 a1_0 a1_1 I Q):acz B ro a0 a1_0 a1_1 I Q:=by
 refine zb h func168 ntmps168 fun h=>?_;unfold acK at h;refine zw ?_;refine zAp (wY rfl rfl) h fun u0 h=>?_;refine zA (ad3 rfl) h fun u1 h=>?_;refine zm (wD (vs:=[(1,.map (some u1))]) (cs:= #[Sl.v (⟨none,0,0⟩:Sl),.int .i64 0,.int .i64 0,.map (some u1)]) rfl nH as4 atb rfl rfl) ?_;refine zA (wY rfl rfl) h fun u2 h=>?_;refine zc func54 h ?_
 rintro v I ⟨u3,rfl,h⟩;refine zm (qC rfl rfl) ?_;refine zf nH abM ?_;refine zf nI ty3 ?_;refine zsp ty3 h fun I h=>?_;refine zm (qC rfl rfl) ?_;refine zf nH abM ?_;refine zf nI ty3 ?_;refine zL mj h fun u4 h=>?_;refine zm (qC rfl rfl) ?_;refine zf nH abM ?_;refine zf nI ty3 ?_;refine zs ty3 h fun I h=>?_
 refine zC func54 h fun u5 I h=>?_;refine AW.seq ?_;refine zw ?_;refine zm (qC rfl rfl) ?_;refine zf nH abM ?_;refine zf nI ty3 ?_;refine zLp mj h fun u6 h=>?_;refine qn 9 (decide (u5<u6)) mg h (fun fr I=> ∃(u7:Bool),qg [(0,.pointer a0),(3,.pointer (some ⟨u0,0,none⟩)),(5,.pointer (some ⟨u2,0,none⟩)),(6,.int .i64 u5),(49,.bool u7)] fr/\xW B ro a0 u0 u2 u5 Q u7 I) ?_ ?_ ?_
 .intro h e7 hk7;refine zv e7 ?_;exact hk7 _ _ ⟨_,FL,h⟩
 .intro h e7 hk7;refine zv e7 ?_;refine qo (qC rfl rfl) rfl rfl rfl rfl e7 ?_
  refine qo (qK rfl nH rfl abM z8 rfl) rfl rfl rfl rfl e7 ?_
  refine qo (qK rfl nI rfl ty3 z8 rfl) rfl rfl rfl rfl e7 ?_
  obtain⟨u8,hc,h⟩:=h
  refine Lyb rfl rfl rfl rfl e7 (wU rfl mj rfl rfl hc ?_)
  refine zv e7 ?_;exact hk7 _ _ ⟨_,FL,h⟩
 rintro fr I ⟨u7,hl,h⟩;unfold xW at h;refine Lfr hl ?_
 refine zj h (fun h=>?_) fun h=>?_
 .exact zr h
 refine zw ?_;refine AW.seqJ (fun fr I=>qg [(0,.pointer a0),(3,.pointer (some ⟨u0,0,none⟩)),(5,.pointer (some ⟨u2,0,none⟩))] fr/\jN B ro a0 u0 u2 Q I) ?_ ?_
 rotate_left
 .refine zw ?_;refine qf.loop (fr':=[(0,.pointer a0),(3,.pointer (some ⟨u0,0,none⟩)),(5,.pointer (some ⟨u2,0,none⟩)),(6,.int .i64 u5)]) ?_ FL
  refine h (fun _ I=>qf _ _ _ _ _ _ [(0,.pointer a0),(3,.pointer (some ⟨u0,0,none⟩)),(5,.pointer (some ⟨u2,0,none⟩)),(6,.int .i64 u5)] I) ?_
  rintro _ I Y46 hY46 h
  show AW _ _ _ _ _ _ _ _
  unfold vN at h;refine AW.seq ?_;refine zw ?_;refine zm (qC rfl rfl) ?_;refine zf nH abM ?_;refine zf nI ty3 ?_;refine zL mj h fun u9 h=>?_;refine zi h (fun h=>?_) fun h=>?_
  rotate_left
  .refine AW.exit ?_;refine zw ?_;refine qN ?_
   refine zw ?_;exact⟨FL,h⟩
  refine zc func54 h ?_;rintro v I ⟨u10,rfl,h⟩;refine zC func55 h fun u11 I h=>?_;refine zm (wD (vs:=[(0,.string u11),(1,.int .i64 1)]) (cs:= #[.string u11,.int .i64 1]) rfl nt ko alI rfl rfl) ?_;refine zA (vw rfl ko) h fun u12 h=>?_;refine zsp ko h fun I h=>?_;refine AW.seqJ (fun fr I=>qg [(0,.pointer a0),(3,.pointer (some ⟨u0,0,none⟩)),(5,.pointer (some ⟨u2,0,none⟩)),(6,.int .i64 u5),(7,.int .i64 u10),(8,.string u11),(9,.pointer (some ⟨u12,0,none⟩))] fr/\xk B ro a0 u0 u12 u2 u5 u10 u11 Q Y46 I) ?_ ?_
  rotate_left
  .refine zi h (fun h=>?_) fun h=>?_
   rotate_left
   .refine zw ?_;exact⟨FL,h⟩
   refine zf nt ty3 ?_;refine zsp ty3 h fun I h=>?_;exact⟨FL,h⟩
  rintro fr I ⟨hl,h⟩;refine AW.weaken ?_ hl (HLe.refl _)
  unfold xk at h;refine AW.seq ?_;refine zw ?_;refine qx 3 (decide (u10<1)) [(0,.pointer a0),(3,.pointer (some ⟨u0,0,none⟩)),(5,.pointer (some ⟨u2,0,none⟩)),(6,.int .i64 u5),(7,.int .i64 u10),(8,.string u11),(9,.pointer (some ⟨u12,0,none⟩)),(71,.bool ((decide (u10<1)) || (decide (4<u10))))] ?_ ?_ ?_
  .intro e2 hk2
   refine zv e2 ?_;exact hk2 _ (Fe e2)
  .intro e2 hk2
   refine zv e2 ?_;exact hk2 _ (Fe e2)
  intro fr hl
  refine Lfr hl ?_
  refine zw ?_;refine qn 5 ((decide (u10<1)) || (decide (4<u10))) (qJ mg mg) h (fun fr I=> ∃(u13:Bool),qg [(0,.pointer a0),(3,.pointer (some ⟨u0,0,none⟩)),(5,.pointer (some ⟨u2,0,none⟩)),(6,.int .i64 u5),(7,.int .i64 u10),(8,.string u11),(77,.bool u13)] fr/\xj B ro a0 u0 u2 u5 u10 u11 Q Y46 u13 I) ?_ ?_ ?_
  .intro h e6 hk6;refine zv e6 ?_;exact hk6 _ _ ⟨_,FL,h⟩
  .intro h e6 hk6;obtain⟨u14,u15,hc,h⟩:=h
   refine Lyb rfl rfl rfl rfl e6 (jz rfl mN rfl zP rfl hc ?_)
   obtain⟨u16,u17,hc,h⟩:=h
   refine Lyb rfl rfl rfl rfl e6 (jz rfl nt rfl ko rfl hc ?_)
   refine Lyb rfl rfl rfl rfl e6 (wu rfl func221 rfl rfl rfl (qc.mono h ?_))
   rintro v I ⟨u18,rfl,h⟩;refine zv e6 ?_;exact hk6 _ _ ⟨_,FL,h⟩
  rintro fr I ⟨u13,hl,h⟩;unfold xj at h;refine Lfr hl ?_
  refine zj h (fun h=>?_) fun h=>?_
  .exact zr h
  refine zw ?_;refine zm (qC rfl rfl) ?_;refine zf nH abM ?_;refine zc func222 h ?_;rintro v I ⟨rfl,h⟩;refine zw ?_;refine qf.head (fr':=[(0,.pointer a0),(3,.pointer (some ⟨u0,0,none⟩)),(5,.pointer (some ⟨u2,0,none⟩)),(6,.int .i64 u5)]) ?_ FL
  exact hY46 _ _ h
 rintro fr I ⟨hl,h⟩;refine AW.weaken ?_ hl (HLe.refl _)
 unfold jN at h;refine zC func54 h fun u19 I h=>?_;refine zm (wD (vs:=[]) (cs:= #[.string ByteArray.empty,.int .i64 0]) rfl nt ko alI rfl rfl) ?_;refine zA (vw rfl ko) h fun u20 h=>?_;refine zsp ko h fun I h=>?_;refine AW.seqJ (fun fr I=>qg [(0,.pointer a0),(3,.pointer (some ⟨u0,0,none⟩)),(5,.pointer (some ⟨u2,0,none⟩)),(10,.int .i64 u19)] fr/\jM B ro a0 u0 u2 u19 Q I) ?_ ?_
 rotate_left
 .refine zw ?_;refine zm (aoF rfl rfl) ?_;refine zw ?_;refine qf.loop (fr':=[(0,.pointer a0),(3,.pointer (some ⟨u0,0,none⟩)),(5,.pointer (some ⟨u2,0,none⟩)),(10,.int .i64 u19),(11,.pointer (some ⟨u20,0,none⟩)),(88,.int .i64 (if 33<u19 then 33 else u19)),(89,.int .i64 0)]) ?_ FL
  refine h (fun u21 I=>qf _ _ _ _ _ _ [(0,.pointer a0),(3,.pointer (some ⟨u0,0,none⟩)),(5,.pointer (some ⟨u2,0,none⟩)),(10,.int .i64 u19),(11,.pointer (some ⟨u20,0,none⟩)),(88,.int .i64 (if 33<u19 then 33 else u19)),(89,.int .i64 u21)] I) ?_
  rintro u21 I Y28 hY28 h
  show AW _ _ _ _ _ _ _ _
  unfold vM at h;refine zw ?_;refine AW.seq ?_;refine zi h (fun h=>?_) fun h=>?_
  rotate_left
  .refine AW.exit ?_;refine zw ?_;refine qN ?_
   refine zw ?_;exact⟨FL,h⟩
  refine zw ?_;refine AW.seq ?_;refine zc func54 h ?_;rintro v I ⟨u22,rfl,h⟩;refine zc func55 h ?_;rintro v I ⟨u23,rfl,h⟩;refine zm (wD (vs:=[(1,.int .i64 u22),(0,.string u23)]) (cs:= #[.string u23,.int .i64 u22]) rfl nt ko alI rfl rfl) ?_;refine zA (vw rfl ko) h fun u24 h=>?_;refine zsp ko h fun I h=>?_;refine AW.seq ?_;refine zw ?_;obtain⟨u25,u26,hc,h⟩:=h
  refine zl (jz rfl mN rfl zP rfl hc ?_)
  obtain⟨u27,u28,hc,h⟩:=h
  refine zl (jz rfl nt rfl ko rfl hc ?_)
  refine zC func221 h fun u29 I h=>?_;refine qn 5 (!(decide (u29=0))) (qp mg) h (fun fr I=> ∃(u30:Bool),qg [(0,.pointer a0),(3,.pointer (some ⟨u0,0,none⟩)),(5,.pointer (some ⟨u2,0,none⟩)),(10,.int .i64 u19),(11,.pointer (some ⟨u20,0,none⟩)),(12,.pointer (some ⟨u24,0,none⟩)),(88,.int .i64 (if 33<u19 then 33 else u19)),(89,.int .i64 u21),(105,.bool u30)] fr/\xi B ro a0 u0 u20 u24 u2 u19 u21 Q Y28 u30 I) ?_ ?_ ?_
  .intro h e4 hk4;refine zv e4 ?_;exact hk4 _ _ ⟨_,FL,h⟩
  .intro h e4 hk4;obtain⟨u31,u32,hc,h⟩:=h
   refine Lyb rfl rfl rfl rfl e4 (jz rfl nt rfl ko rfl hc ?_)
   obtain⟨u33,u34,hc,h⟩:=h
   refine Lyb rfl rfl rfl rfl e4 (jz rfl nt rfl ko rfl hc ?_)
   refine Lyb rfl rfl rfl rfl e4 (wu rfl func166 rfl rfl rfl (qc.mono h ?_))
   rintro v I ⟨u35,rfl,h⟩;refine zv e4 ?_;exact hk4 _ _ ⟨_,FL,h⟩
  rintro fr I ⟨u30,hl,h⟩;unfold xi at h;refine Lfr hl ?_
  refine zj h (fun h=>?_) fun h=>?_
  .exact zr h
  refine zw ?_;refine AW.drawn2 (fun i=>([0,0,0,3,3,0,2,0,2,2]:List Nat).getD i 2) [] [0,1,2,5,3,4,6,7,8] [9] mixed h j0 ?_
  clear h
  intro ψ I h
  refine zw ?_;refine Dp rfl rfl rfl rfl (qC rfl rfl) ?_
  refine zg nH alH ?_;obtain⟨u36,u37,hc,h⟩:=h
  refine Dp rfl rfl rfl rfl (anO rfl nt rfl ko rfl hc) ?_
  refine zR Pd h fun u38 h=>?_;obtain⟨u39,u40,hc,h⟩:=h
  refine Dr rfl rfl rfl rfl (ajq rfl nt rfl ko rfl hc) ?_
  refine Dg rfl rfl rfl rfl (ajo rfl rfl rfl (qj _ h ?_))
  rintro v I ⟨u41,u42,rfl,h⟩;refine zw ?_;refine Dg rfl rfl rfl rfl (ajp rfl rfl rfl rfl (qj _ h ?_))
  rintro _ I h
  refine⟨_,zz.refl _,fun hdj=>?_⟩
  replace h:=h hdj
  refine Dg rfl rfl rfl rfl (aeh rfl ko rfl rfl rfl rfl (pZ h fun I h=>?_))
  refine vn ?_
  refine zw ?_;refine qf.head (fr':=[(0,.pointer a0),(3,.pointer (some ⟨u0,0,none⟩)),(5,.pointer (some ⟨u2,0,none⟩)),(10,.int .i64 u19),(11,.pointer (some ⟨u20,0,none⟩)),(88,.int .i64 (if 33<u19 then 33 else u19)),(89,.int .i64 (i64.wrap (u21+1)))]) ?_ FL
  exact hY28 _ _ h
 rintro fr I ⟨hl,h⟩;refine AW.weaken ?_ hl (HLe.refl _)
 unfold jM at h;refine AW.seq ?_;refine zC func57 h fun u43 I h=>?_;refine qn 8 (!(decide (u43=0))) (qp mg) h (fun fr I=> ∃(u44:Bool),qg [(5,.pointer (some ⟨u2,0,none⟩)),(10,.int .i64 u19),(126,.bool u44)] fr/\xh B ro u2 u19 Q u44 I) ?_ ?_ ?_
 .intro h e3 hk3;refine zv e3 ?_;exact hk3 _ _ ⟨_,FL,h⟩
 .intro h e3 hk3;obtain⟨u45,u46,hc,h⟩:=h
  refine Lyb rfl rfl rfl rfl e3 (jz rfl mN rfl zP rfl hc ?_)
  refine qo (qK rfl mN rfl ty9 z8 rfl) rfl rfl rfl rfl e3 ?_
  obtain⟨u47,hc,h⟩:=h
  refine Lyb rfl rfl rfl rfl e3 (wU rfl mu rfl rfl hc ?_)
  obtain⟨hc,h⟩:=h
  refine qo (aeJ rfl rfl rfl hc) rfl rfl rfl rfl e3 ?_
  refine qo (wD (vs:=[(0,.string ((⟨#[47]⟩:ByteArray)++u47)),(1,.int .i64 1)]) (cs:= #[.string ((⟨#[47]⟩:ByteArray)++u47),.int .i64 1]) rfl nt ko alI rfl rfl) rfl rfl rfl rfl e3 ?_
  refine Lyb rfl rfl rfl rfl e3 (wu rfl func221 rfl rfl rfl (qc.mono h ?_))
  rintro v I ⟨u48,rfl,h⟩;refine zv e3 ?_;exact hk3 _ _ ⟨_,FL,h⟩
 rintro fr I ⟨u44,hl,h⟩;unfold xh at h;refine Lfr hl ?_
 refine zw ?_;refine qn 10 u44 Iff.rfl h (fun fr I=> ∃(u49:Bool),qg [(5,.pointer (some ⟨u2,0,none⟩)),(10,.int .i64 u19),(137,.bool u49)] fr/\vL B ro u2 u19 Q u49 I) ?_ ?_ ?_
 .intro h e12 hk12;refine zv e12 ?_;exact hk12 _ _ ⟨_,FL,h⟩
 .intro h e12 hk12;refine zy e12 ?_;refine qo (qC rfl rfl) rfl rfl rfl rfl e12 ?_
  refine qo (qK rfl nH rfl abM z8 rfl) rfl rfl rfl rfl e12 ?_
  refine qo (qK rfl nI rfl akc z8 rfl) rfl rfl rfl rfl e12 ?_
  obtain⟨u50,hc,h⟩:=h
  refine Lyb rfl rfl rfl rfl e12 (wU rfl LC rfl rfl hc ?_)
  refine qo (qD rfl rfl LC rfl rfl) rfl rfl rfl rfl e12 ?_
  refine zv e12 ?_;exact hk12 _ _ ⟨_,FL,h⟩
 rintro fr I ⟨u49,hl,h⟩;unfold vL at h;refine Lfr hl ?_
 refine zw ?_;refine qn 11 u49 Iff.rfl h (fun fr I=> ∃(u51:Bool),qg [(5,.pointer (some ⟨u2,0,none⟩)),(149,.bool u51)] fr/\zx B ro u2 Q u51 I) ?_ ?_ ?_
 .intro h e23 hk23;refine zv e23 ?_;refine Ln rfl rfl rfl rfl (.inr rfl) ?_
  refine Ln rfl rfl rfl rfl (.inr rfl) ?_
  refine Ln rfl rfl rfl rfl (.inr rfl) ?_
  refine Ln rfl rfl rfl rfl (.inr rfl) ?_
  refine Ln rfl rfl rfl rfl (.inr rfl) ?_
  refine Ln rfl rfl rfl rfl (.inr rfl) ?_
  refine zv e23 ?_;exact hk23 _ _ ⟨_,FL,h⟩
 .intro h e23 hk23;refine zv e23 ?_;refine qn 7 (decide (u19=0)) mg h (fun fr I=> ∃(u52:Bool),qg [(5,.pointer (some ⟨u2,0,none⟩)),(138,.bool u49),(148,.bool u52)] fr/\xf B ro u2 u49 Q u52 I) ?_ ?_ ?_
  .intro h e26 hk26;refine zy e26 ?_;refine qo (qC rfl rfl) rfl rfl rfl rfl e26 ?_
   refine qo (qK rfl nH rfl abM z8 rfl) rfl rfl rfl rfl e26 ?_
   refine qo (qK rfl nI rfl ty3 z8 rfl) rfl rfl rfl rfl e26 ?_
   obtain⟨u53,hc,h⟩:=h
   refine Lyb rfl rfl rfl rfl e26 (wU rfl mj rfl rfl hc ?_)
   refine zy e26 ?_;refine qo (qT rfl (evb e26) rfl) rfl rfl rfl rfl e23 ?_
   exact hk26 _ _ ⟨_,FL,h⟩
  .intro h e26 hk26;refine zv e26 ?_;refine qo (wL rfl (evb e26) rfl) rfl rfl rfl rfl e23 ?_
   exact hk26 _ _ ⟨_,FL,h⟩
  rintro fr I ⟨u52,hl,h⟩;unfold xf at h;refine Lfr hl ?_
  refine zk e23 ?_;exact hk23 _ _ ⟨_,FL,h⟩
 rintro fr I ⟨u51,hl,h⟩;unfold zx at h;refine Lfr hl ?_
 refine zj h (fun h=>?_) fun h=>?_
 .exact zr h
 exact zr h
def aez(B:World)(ro:AH)(a0_0:ByteArray)(a0_1:Int)(a1_0:ByteArray)(a1_1:Int)(I:AH)(Q:Int->AH->Prop):=
 nw ro I (.cells #[.string a0_0,.int .i64 a0_1] 81) fun u0 I=>
 nw ro I (.cells #[.string a1_0,.int .i64 a1_1] 81) fun u1 I=>
 uS I fun ψ I=>
 ∃u2,qb (join ro ψ) (fun _=>none) ((⟨u0,0,none⟩:Addr).add 1)=some (.int .i64 u2)/\
 ∃u3,qb (join ro ψ) (fun _=>none) ((⟨u1,0,none⟩:Addr).add 1)=some (.int .i64 u3)/\
 ∃u4,qb (join ro ψ) I ⟨u0,0,none⟩=some (.string u4)/\
 ∃u5,qb (join ro ψ) I ⟨u1,0,none⟩=some (.string u5)/\
 yw B (join ro ψ) u4 u5 I fun u6 I=>
 uo B (join ro ψ) u2 u3 I fun u7 I=>
 nw (join ro ψ) I (.cells #[.int .i64 u6,.int .i64 u7] 3) fun u8 I=>
 ac4 B (join ro ψ) (⟨some ⟨u8,0,none⟩,2,2⟩:Sl) I fun u9 I=>
 (qI ψ I->(fun I=>
  Q u9 I) (join ψ I))
theorem akB{a0_0 a0_1 a1_0 a1_1 Q}(h:Sep ro I->aez B ro a0_0 a0_1 a1_0 a1_1 I Q):aaz B ro a0_0 a0_1 a1_0 a1_1 I Q:=by
 refine zb h func169 ntmps169 fun h=>?_;unfold aez at h;refine zw ?_;refine zA (wY rfl rfl) h fun u0 h=>?_;refine zAp (wY rfl rfl) h fun u1 h=>?_;refine AW.seq ?_;refine AW.drawnL (fun i=>([0,3,0,3,2,0,0,0,0,2,1,2,0]:List Nat).getD i 2) [(1,4),(1,9),(1,10),(1,11),(3,4),(3,9),(3,10),(3,11),(4,10),(4,11)] [0,2,5,6,7,8,1,3,4,9,10,11,12] mixed h j0 ?_
 clear h
 intro ψ I h
 refine zg mN ty9 ?_;refine zg mN ty9 ?_;refine zg mN ty3 ?_;refine zS mj h fun u2 h=>?_;refine zg mN ty3 ?_;refine zS mj h fun u3 h=>?_;refine zR mu h fun u4 h=>?_;refine zR mu h fun u5 h=>?_;refine zG func219 h ?_;rintro v I ⟨u6,rfl,h⟩;refine zG func220 h ?_;rintro v I ⟨u7,rfl,h⟩;refine Da rfl rfl rfl rfl (wS (vs:=[(0,.int .i64 u6),(1,.int .i64 u7)]) (cs:= #[.int .i64 u6,.int .i64 u7]) rfl mx ty3 z8 rfl rfl) fun u8 g1 g2=>?_
 replace h:=h u8 g1 g2
 refine zG func218 h ?_;rintro v I ⟨u9,rfl,h⟩;refine zw ?_;refine⟨_,zz.refl _,fun hdj=>?_⟩
 replace h:=h hdj
 exact zr h
def jX(B:World)(ro:AH)(Q:Int->AH->Prop)(u0:Bool)(I:AH):=
 if u0=true then
 Q 82 I
 else
 Q 0 I
def xP(B:World)(ro:AH)(u0:Nat)(Q:Int->AH->Prop)(u1:Bool)(I:AH):=
 if u1=true then
 jX B ro Q true I
 else
 ∃u2,qb ro I ((⟨u0,0,none⟩:Addr).add 1)=some (.int .i64 u2)/\
 jX B ro Q (decide (4611686018427387903<u2)) I
def jY(B:World)(ro:AH)(u0:Nat)(Q:Int->AH->Prop)(u1:Bool)(I:AH):=
 if u1=true then
 xP B ro u0 Q true I
 else
 ∃u2,qb ro I ((⟨u0,0,none⟩:Addr).add 1)=some (.int .i64 u2)/\
 xP B ro u0 Q (decide (u2<1)) I
def jw(B:World)(ro:AH)(u0:Nat)(u1:ByteArray)(u2:Int)(Q:Int->AH->Prop)(u3:Bool)(I:AH):=
 if u3=true then
 Q 160 I
 else
 if¬(u2=0)then
 Q u2 I
 else
 ∃u4,qb ro I ⟨u0,0,none⟩=some (.string u4)/\
 if¬(u1=u4)then
 jY B ro u0 Q true I
 else
 ∃u5,qb ro I ⟨u0,0,none⟩=some (.string u5)/\
 yH B ro u5 I fun u6 I=>
 jY B ro u0 Q (!u6) I
def aeA(B:World)(ro:AH)(a0_0:ByteArray)(a0_1:Int)(a1_0:ByteArray)(a1_1:Int)(I:AH)(Q:Int->AH->Prop):=
 nw ro I (.cells #[.string a0_0,.int .i64 a0_1] 81) fun u0 I=>
 nw ro I (.cells #[.string a1_0,.int .i64 a1_1] 314) fun u1 I=>
 ∃u2,qb ro I ⟨u1,0,none⟩=some (.string u2)/\
 adP B ro u2 I fun u3 u4 I=>
 ∃u5,qb ro I ((⟨u1,0,none⟩:Addr).add 1)=some (.int .i64 u5)/\
 if¬(u5=1)then
 ∃u6,qb ro I ((⟨u1,0,none⟩:Addr).add 1)=some (.int .i64 u6)/\
 jw B ro u0 u3 u4 Q (!(decide (u6=2))) I
 else
 jw B ro u0 u3 u4 Q false I
theorem akC{a0_0 a0_1 a1_0 a1_1 Q}(h:Sep ro I->aeA B ro a0_0 a0_1 a1_0 a1_1 I Q):aaB B ro a0_0 a0_1 a1_0 a1_1 I Q:=by
 refine zb h func221 ntmps221 fun h=>?_;unfold aeA at h;refine zw ?_;refine zA (wY rfl rfl) h fun u0 h=>?_;refine zA (wY rfl rfl) h fun u1 h=>?_;refine zf nt ty9 ?_;refine zL mu h fun u2 h=>?_;refine zc func81 h ?_;rintro v I ⟨u3,u4,rfl,h⟩;refine zw ?_;refine AW.seq ?_;refine zf nt ty3 ?_;refine zLp mj h fun u5 h=>?_;refine qn 4 (!(decide (u5=1))) (qp mg) h (fun fr I=> ∃(u6:Bool),qg [(2,.pointer (some ⟨u0,0,none⟩)),(5,.string u3),(6,.int .i64 u4),(21,.bool u6)] fr/\jw B ro u0 u3 u4 Q u6 I) ?_ ?_ ?_
 .intro h e3 hk3;refine qo (qK rfl nt rfl ty3 z8 rfl) rfl rfl rfl rfl e3 ?_
  obtain⟨u7,hc,h⟩:=h
  refine Lyb rfl rfl rfl rfl e3 (wU rfl mj rfl rfl hc ?_)
  refine zv e3 ?_;exact hk3 _ _ ⟨_,FL,h⟩
 .intro h e3 hk3;refine zv e3 ?_;exact hk3 _ _ ⟨_,FL,h⟩
 rintro fr I ⟨u6,hl,h⟩;unfold jw at h;refine Lfr hl ?_
 refine zj h (fun h=>?_) fun h=>?_
 .exact zr h
 refine zw ?_;refine AW.iff rfl (qp mg) h (fun h=>?_) (fun h=>?_)
 .exact zr h
 refine zf mN ty9 ?_;refine zL mu h fun u8 h=>?_;refine zm (ajg rfl rfl rfl) ?_;refine zw ?_;refine qn 5 (!(decide (u3=u8))) (qp mg) h (fun fr I=> ∃(u9:Bool),qg [(2,.pointer (some ⟨u0,0,none⟩)),(36,.bool u9)] fr/\jY B ro u0 Q u9 I) ?_ ?_ ?_
 .intro h e4 hk4;refine zv e4 ?_;exact hk4 _ _ ⟨_,FL,h⟩
 .intro h e4 hk4;refine qo (qK rfl mN rfl ty9 z8 rfl) rfl rfl rfl rfl e4 ?_
  obtain⟨u10,hc,h⟩:=h
  refine Lyb rfl rfl rfl rfl e4 (wU rfl mu rfl rfl hc ?_)
  refine Lyb rfl rfl rfl rfl e4 (wu rfl func99 rfl rfl rfl (qc.mono h ?_))
  rintro v I ⟨u11,rfl,h⟩;refine zv e4 ?_;exact hk4 _ _ ⟨_,FL,h⟩
 rintro fr I ⟨u9,hl,h⟩;unfold jY at h;refine Lfr hl ?_
 refine zw ?_;refine qn 4 u9 Iff.rfl h (fun fr I=> ∃(u12:Bool),qg [(2,.pointer (some ⟨u0,0,none⟩)),(41,.bool u12)] fr/\xP B ro u0 Q u12 I) ?_ ?_ ?_
 .intro h e10 hk10;refine zv e10 ?_;exact hk10 _ _ ⟨_,FL,h⟩
 .intro h e10 hk10;refine qo (qK rfl mN rfl ty3 z8 rfl) rfl rfl rfl rfl e10 ?_
  obtain⟨u13,hc,h⟩:=h
  refine Lyb rfl rfl rfl rfl e10 (wU rfl mj rfl rfl hc ?_)
  refine zv e10 ?_;exact hk10 _ _ ⟨_,FL,h⟩
 rintro fr I ⟨u12,hl,h⟩;unfold xP at h;refine Lfr hl ?_
 refine zw ?_;refine qn 4 u12 Iff.rfl h (fun fr I=> ∃(u14:Bool),qg [(46,.bool u14)] fr/\jX B ro Q u14 I) ?_ ?_ ?_
 .intro h e15 hk15;refine zv e15 ?_;exact hk15 _ _ ⟨_,FL,h⟩
 .intro h e15 hk15;refine qo (qK rfl mN rfl ty3 z8 rfl) rfl rfl rfl rfl e15 ?_
  obtain⟨u15,hc,h⟩:=h
  refine Lyb rfl rfl rfl rfl e15 (wU rfl mj rfl rfl hc ?_)
  refine zv e15 ?_;exact hk15 _ _ ⟨_,FL,h⟩
 rintro fr I ⟨u14,hl,h⟩;unfold jX at h;refine Lfr hl ?_
 refine zj h (fun h=>?_) fun h=>?_
 .exact zr h
 exact zr h
def ab3(B:World)(ro:AH)(a0:Option Addr)(a1:Int)(a2:ByteArray)(I:AH)(Q:AH->Prop):=
 ∃p0,a0=some p0/\
 ∃u1,qb ro I (p0.add 2)=some (.int .i64 u1)/\
 ∃p2,a0=some p2/\
 stN (p2.add 2) (fun I=>
 ∃p3,a0=some p3/\
 ∃p4,a0=some p4/\
 ∃u5,qb ro I p3=some (Sl.v u5)/\
 ∃u6,qb ro I (p4.add 2)=some (.int .i64 u6)/\
 nw ro I (.cells #[.int .i64 u6,.int .i64 a1,.string a2] 132) fun u7 I=>
 awp prog ro (Builtin.append_ #[28,28] 28 #[Sl.v u5,Sl.v (⟨some ⟨u7,0,none⟩,1,1⟩:Sl)]) (fun v I=> ∃(u8:Sl),v=Sl.v u8/\
  ∃p9,a0=some p9/\
  stN p9 (fun I=>
  Q I) [Sl.v u8] 0 I) I) [.int .i64 (i64.wrap (u1+1))] 0 I
theorem ah5{a0 a1 a2 Q}(h:Sep ro I->ab3 B ro a0 a1 a2 I Q):abV B ro a0 a1 a2 I Q:=by
 refine zb h func222 ntmps222 fun h=>?_;unfold ab3 at h;refine zN h fun p0 h=>?_;refine zf nI ty3 ?_;refine zL mj h fun u1 h=>?_;refine zN h fun p2 h=>?_;refine zf nI ty3 ?_;refine zsp ty3 h fun I h=>?_;refine AW.drawn0 (fun i=>([0,0,0,0,3,0,0,0,3,0,0,0,1,2,0,0,2]:List Nat).getD i 2) [(8,11),(8,12),(8,13)] [0,1,2,3,5,6,7,9,10,4,8,11,12,13,14,15,16] mixed j0 ?_
 refine zM h fun p3 h=>?_;refine zg nI akc ?_;refine zM h fun p4 h=>?_;refine zg nI ty3 ?_;refine zR LC h fun u5 h=>?_;refine zR mj h fun u6 h=>?_;refine Dp rfl rfl rfl rfl (wD (vs:=[(0,.int .i64 u6),(1,.int .i64 a1),(2,.string a2)]) (cs:= #[.int .i64 u6,.int .i64 a1,.string a2]) rfl Pc aig as6 rfl rfl) ?_
 refine Da rfl rfl rfl rfl (wS (vs:=[(0,.agg #[.int .i64 u6,.int .i64 a1,.string a2])]) (cs:= #[.int .i64 u6,.int .i64 a1,.string a2]) rfl LC aig z8 rfl rfl) fun u7 g1 g2=>?_
 replace h:=h u7 g1 g2
 refine Dg rfl rfl rfl rfl (yt (s:=Builtin.append_ #[28,28] 28 #[Sl.v u5,Sl.v (⟨some ⟨u7,0,none⟩,1,1⟩:Sl)]) rfl rfl (fun _=>rfl) (qj _ h ?_))
 rintro v I ⟨u8,rfl,h⟩;refine zM h fun p9 h=>?_;refine zg nI akc ?_;refine Dg rfl rfl rfl rfl (aeh rfl akc rfl rfl rfl rfl (pZ h fun I h=>?_))
 refine vn ?_
 exact bN0 results222 ⟨rfl,h⟩
end G
namespace SL
open Go
variable{P:Program}{B:World}{ro I I':AH}{tag tag':Nat->Nat}
variable{β:Type}{s:Int}{kt:TypeId}
theorem alu{em:Bool}{f:Unit->Sem β}{K:β->AH->Prop}(hk:P.underlying kt=some (.int .i64))(h:awp P ro (f ()) K I):awp P ro (Sem.bind (Instr.checkKey em 10000 kt (.int .i64 s)) f) K I:=by
 rw[show(10000:Nat)=9999+1 from rfl]
 unfold Instr.checkKey
 simp only[qy]
 rw[bind_assoc',qF hk]
 exact h
theorem aml{l:List MapEntry}{r:Option (Nat×Value)}{f:Option (Nat×Value)->Sem β}{K:β->AH->Prop}(hk:P.underlying kt=some (.int .i64))(hr:Instr.findNow (.int .i64) (.int .i64 s) l 0=some r)(h:awp P ro (f r) K I):
  awp P ro (Sem.bind (Instr.findKey kt (.int .i64 s) l) f) K I:=by
 unfold Instr.findKey
 simp only[qy]
 rw[bind_assoc',qF hk]
 rw[hr]
 exact h
end SL
namespace SL
open Go
variable{P:Program}
variable{τ:AH}{n off:Nat}{k:Str×Int}{kt t:TypeId}
abbrev kS(k:Str):Value:= .string (S k)
abbrev kI(k:Int):Value:= .int .i64 k
abbrev kSI(k:Str×Int):Value:= .agg #[.string (S k.1),.int .i64 k.2]
theorem aiL{κ:Type}[DecidableEq κ]{enc:κ->Value}{d:TypeDesc}(hsame:∀ k k',Instr.sameNow d (enc k) (enc k')=some (decide (k=k')))(k:κ):∀ (l:List MapEntry) (m:List (κ×Value)) (i:Nat),l.map jH=m.map (pM enc)->Instr.findNow d (enc k) l i=some (acp k m i):=by
 intro l
 induction l with
 | nil=>intro m i h;cases m with
  | nil=>rfl
  | cons p m=>cases h
 | cons e l ih=>
  intro m i h
  cases m with
  | nil=>cases h
  | cons p m=>
   simp only[nx,List.cons.injEq]at h
   have hk:e.key=enc p.1:=mi Prod.fst h.1
   have hv:e.val=p.2:=mi Prod.snd h.1
   unfold Instr.findNow acp
   rw[hk,hsame,hv]
   by_cases c:k=p.1
   .rw[me c,mF c]
   .rw[mc c,mL c]
    exact ih m (i+1) h.2
theorem amm(hk:P.underlying kt=some .string):aiW P kt kS where
 check:=fun h=>ae6 hk h
 find:=fun{_ _ _ k l m f K} he h=>by
  refine ab7 hk (aiL (enc:=kS) (fun k k'=>?_) k l m 0 he) h
  show some (S k == S k')=_
  rw[aiQ];congr 1;rw[Lh];exact yu
 stays:=fun k=>by
  unfold Instr.keyThatStays
  rw[me (by simp[Instr.sameBits,aiQ])];try rfl
theorem amn(hk:P.underlying kt=some (.int .i64)):aiW P kt kI where
 check:=fun h=>alu hk h
 find:=fun{_ _ _ k l m f K} he h=>by
  refine aml hk (aiL (enc:=kI) (fun k k'=>?_) k l m 0 he) h
  show(if IntKind.i64=IntKind.i64 then some (k == k')else none)=_
  rw[me rfl];congr 1
 stays:=fun k=>by
  unfold Instr.keyThatStays
  rw[me (by simp[Instr.sameBits])];try rfl
section
variable{ro:AH}
theorem ww{α β:Type}(s:Sem α)(f:α->Sem β){a:α}(h:qe P ro s τ=some a):qe P ro (Sem.bind s f) τ=qe P ro (f a) τ:=by
 induction s with
 | pure x=>cases h;rfl
 | load m x k ih=>
  simp only[qe]at h
  simp only[Sem.bind,qe]
  split at h
  .exact ih _ h
  .cases h
 | program k ih=>exact ih _ h
 | mark m k ih=>exact ih h
 | _=>cases h
structure SI(P:Program)(kt:TypeId):Prop where
 st:∃ n1 n2:Field,P.underlying kt=some (.struct #[n1,n2])/\P.underlying n1.type=some .string/\n1.offset=0/\P.underlying n2.type=some (.int .i64)/\n2.offset=1/\n1.name≠ "_" /\n2.name≠ "_"
 held:P.stoodInHeld kt=false
theorem aim{cs:Array Value}{v:Value}(ht:P.underlying t=some .string\/P.underlying t=some (.int .i64))(hv:cs[off]?=some v):qe P ro (part t cs off) τ=some v:=by
 have hs:cs.getD off undef=v:=by simp[mY,hv]
 unfold part
 show qe P ro (Sem.bind (isAgg t) _) τ=_
 rcases ht with ht | ht
 .rw[pY ht];simp[hv];rfl
 .rw[pY ht];simp[hv];rfl
theorem asA{a b:ByteArray}(ht:P.underlying t=some .string):qe P ro (Op.equalIn (n+1) t (.string a) (.string b)) τ=some (decide (a=b)):=by
 unfold Op.equalIn
 show qe P ro (Sem.bind (underlying t) _) _=_
 rw[qG _ _ ht]
 show some (a == b)=_
 rw[aiQ]
theorem asB{a b:Int}(ht:P.underlying t=some (.int .i64)):qe P ro (Op.equalIn (n+1) t (.int .i64 a) (.int .i64 b)) τ=some (decide (a=b)):=by
 unfold Op.equalIn
 show qe P ro (Sem.bind (underlying t) _) _=_
 rw[qG _ _ ht]
 show some (a == b)=_
 congr 1
theorem atF(hk:SI P kt){k':Str×Int}:qe P ro (Op.equalIn (9998+2) kt (kSI k) (kSI k')) τ=some (decide (k=k')):=by
 obtain⟨n1,n2,hu,h1,h2,h3,h4,h5,h6⟩:=hk.st
 unfold Op.equalIn
 show qe P ro (Sem.bind (underlying kt) _) _=_
 rw[qG _ _ hu]
 show qe P ro (if P.stoodInHeld kt=true then _ else _) τ=_
 rw[hk.held,mc z7]
 show qe P ro (Sem.bind (forIn #[n1,n2] _ _) _) τ=_
 have p0:∀ {β:Type} (k:Str×Int) (f:Value->Sem β),qe P ro (part n1.type #[Value.string (S k.1),Value.int IntKind.i64 k.2] n1.offset >>= f) τ=qe P ro (f (.string (S k.1))) τ:=fun k f=>ww _ _ (aim (.inl h1) (by rw[h2];try rfl))
 have p1:∀ {β:Type} (k:Str×Int) (f:Value->Sem β),qe P ro (part n2.type #[Value.string (S k.1),Value.int IntKind.i64 k.2] n2.offset >>= f) τ=qe P ro (f (.int .i64 k.2)) τ:=fun k f=>ww _ _ (aim (.inr h3) (by rw[h4];try rfl))
 have q0:∀ {β:Type} (f:Bool->Sem β),qe P ro (Op.equalIn 9999 n1.type (.string (S k.1)) (.string (S k'.1)) >>= f) τ=qe P ro (f (decide (S k.1=S k'.1))) τ:=fun f=>ww _ _ (asA (n:=9998) h1)
 have q1:∀ {β:Type} (f:Bool->Sem β),qe P ro (Op.equalIn 9999 n2.type (.int .i64 k.2) (.int .i64 k'.2) >>= f) τ=qe P ro (f (decide (k.2=k'.2))) τ:=fun f=>ww _ _ (asB (n:=9998) h3)
 obtain⟨k1,k2⟩:=k
 obtain⟨m1,m2⟩:=k'
 rw[<-Array.forIn_toList]
 show qe P ro (Sem.bind (forIn [n1,n2] _ _) _) τ=_
 by_cases c1:k1=m1
 .by_cases c2:k2=m2
  .rw[mF (by rw[c1,c2])]
   refine(ww _ _ (a:=((none,()):Option Bool×Unit)) ?_).trans rfl
   rw[List.forIn_cons]
   refine(ww _ _ (a:= .yield ((none,()):Option Bool×Unit)) ?_).trans ?_
   .rw[me h5,p0,p0,q0,mF (by rw[c1])];try rfl
   .show qe P ro (forIn [n2] _ _) τ=_
    rw[List.forIn_cons]
    refine(ww _ _ (a:= .yield ((none,()):Option Bool×Unit)) ?_).trans ?_
    .rw[me h6,p1,p1,q1,mF c2];try rfl
    .rfl
  .rw[mL (by rintro h;cases h;exact c2 rfl)]
   refine(ww _ _ (a:=((some false,()):Option Bool×Unit)) ?_).trans rfl
   rw[List.forIn_cons]
   refine(ww _ _ (a:= .yield ((none,()):Option Bool×Unit)) ?_).trans ?_
   .rw[me h5,p0,p0,q0,mF (by rw[c1])];try rfl
   .show qe P ro (forIn [n2] _ _) τ=_
    rw[List.forIn_cons]
    refine(ww _ _ (a:= .done ((some false,()):Option Bool×Unit)) ?_).trans ?_
    .rw[me h6,p1,p1,q1,mL c2];try rfl
    .rfl
 .rw[mL (by rintro h;cases h;exact c1 rfl)]
  refine(ww _ _ (a:=((some false,()):Option Bool×Unit)) ?_).trans rfl
  rw[List.forIn_cons]
  refine(ww _ _ (a:= .done ((some false,()):Option Bool×Unit)) ?_).trans ?_
  .rw[me h5,p0,p0,q0,mL (by rw[yu];exact c1)];rfl
  .rfl
theorem arJ(hk:SI P kt){em:Bool}:qe P ro (Instr.checkKey em (9998+2) kt (kSI k)) τ=some ():=by
 obtain⟨n1,n2,hu,h1,h2,h3,h4,h5,h6⟩:=hk.st
 unfold Instr.checkKey
 show qe P ro (Sem.bind (underlying kt) _) _=_
 rw[qG _ _ hu]
 show qe P ro (Sem.bind (forIn #[n1,n2] _ _) _) τ=_
 have p0:∀ {β:Type} (f:Value->Sem β),qe P ro (part n1.type #[Value.string (S k.1),Value.int IntKind.i64 k.2] n1.offset >>= f) τ=qe P ro (f (.string (S k.1))) τ:=fun f=>ww _ _ (aim (.inl h1) (by rw[h2];try rfl))
 have p1:∀ {β:Type} (f:Value->Sem β),qe P ro (part n2.type #[Value.string (S k.1),Value.int IntKind.i64 k.2] n2.offset >>= f) τ=qe P ro (f (.int .i64 k.2)) τ:=fun f=>ww _ _ (aim (.inr h3) (by rw[h4];try rfl))
 have c0:∀ {β:Type} (f:Unit->Sem β),qe P ro (Instr.checkKey em 9999 n1.type (.string (S k.1)) >>= f) τ=qe P ro (f ()) τ:=fun f=>ww _ _ (by
  rw[show(9999:Nat)=9998+1 from rfl];unfold Instr.checkKey
  show qe P ro (Sem.bind (underlying n1.type) _) _=_
  rw[qG _ _ h1];try rfl)
 have c1:∀ {β:Type} (f:Unit->Sem β),qe P ro (Instr.checkKey em 9999 n2.type (.int .i64 k.2) >>= f) τ=qe P ro (f ()) τ:=fun f=>ww _ _ (by
  rw[show(9999:Nat)=9998+1 from rfl];unfold Instr.checkKey
  show qe P ro (Sem.bind (underlying n2.type) _) _=_
  rw[qG _ _ h3];try rfl)
 refine(ww _ _ (a:=()) ?_).trans rfl
 rw[<-Array.forIn_toList]
 show qe P ro (forIn [n1,n2] _ _) τ=_
 rw[List.forIn_cons]
 refine(ww _ _ (a:= .yield ()) ?_).trans ?_
 .rw[me h5,p0,c0];try rfl
 .show qe P ro (forIn [n2] _ _) τ=_
  rw[List.forIn_cons]
  refine(ww _ _ (a:= .yield ()) ?_).trans ?_
  .rw[me h6,p1,c1];try rfl
  .rfl
theorem atn(hk:SI P kt)(k:Str×Int):∀ (l:List MapEntry) (m:List ((Str×Int)×Value)) (i:Nat),l.map jH=m.map (pM kSI)->qe P ro (Instr.findAsking kt (kSI k) l i) τ=some (acp k m i):=by
 intro l
 induction l with
 | nil=>intro m i h;cases m with
  | nil=>rfl
  | cons p m=>cases h
 | cons e l ih=>
  intro m i h
  cases m with
  | nil=>cases h
  | cons p m=>
   simp only[nx,List.cons.injEq]at h
   have h1:e.key=kSI p.1:=mi Prod.fst h.1
   have hv:e.val=p.2:=mi Prod.snd h.1
   unfold Instr.findAsking acp
   rw[h1,hv]
   show qe P ro (Sem.bind (Op.equal kt (kSI k) (kSI p.1)) _) τ=_
   refine(ww _ _ (a:=decide (k=p.1)) (by unfold Op.equal Op.maxDepth;exact atF hk)).trans ?_
   by_cases c:k=p.1
   .rw[mF c,me rfl,me c];try rfl
   .rw[mL c,mc z7,mc c]
    exact ih m (i+1) h.2
end
theorem aol(hk:SI P kt):aiW P kt kSI where
 check:=fun{ro I _ em k f K} h=>by
  show awp P ro (_ >>= f) K I
  rw[vC]
  exact ae1 _ (arJ hk) h
 find:=fun{ro I _ k l m f K} he h=>by
  show awp P ro (_ >>= f) K I
  rw[vC]
  refine ae1 _ (a:=acp k m 0) ?_ h
  obtain⟨n1,n2,hu,_⟩:=hk.st
  unfold Instr.findKey
  show qe P ro (Sem.bind (underlying kt) _) _=_
  rw[qG _ _ hu]
  cases l with
  | nil=>cases m with
   | nil=>rfl
   | cons p m=>cases he
  | cons e l=>
   have hn:Instr.findNow (.struct #[n1,n2]) (kSI k) (e::l) 0=none:=rfl
   rw[hn]
   exact atn hk k _ m 0 he
 stays:=fun k=>by
  unfold Instr.keyThatStays
  rw[me (by simp[Instr.sameBits,aiQ])];try rfl
end SL
namespace Zt
open Go SL G Pa Wi
variable{B:World}[Zd B]{ro I I':AH}{tag tag':Nat->Nat}
theorem ae0:prog.underlying 240=some (.map 9 255):=y0
theorem ain:prog.underlying 252=some (.map 3 249):=y0
theorem u3':prog.underlying 3=some (.int .i64):=y0
theorem alL:prog.underlying 55=some (.slice 3):=y0
theorem amo:ql prog 3 (.int .i64 0) 1 8:=ql.of y0
theorem aom:ql prog 255 (.pointer none) 1 8:=ql.of y0
theorem ak8(q:Nat){s:Sl}{l:List Value}{Q:Sl->AH->Prop}(h:SL.qU ro I s l)(hs:SL.Sep ro I)(hl:l.length<=1048576)(hv:∀ v∈l,qk v=true)(hQ:∀ s' tag' I',(∀R,qd R ro tag I tag' I')->Row tag' I' q 3 s' l->Q s' I'):jA B ro s I Q:=by
 refine afD fun _=>?_
 unfold ub
 by_cases h0:s.a=none
 .rw[me h0]
  rw[h.2.1 h0]at hQ
  exact hQ _ tag I (fun _=>qd.refl hs) (Row.nil q 3)
 .rw[mc h0]
  refine qr (tag:=tag) q hs fun b tag1 I1 st1 r1=>?_
  have h':SL.qU ro I1 s l:=h.step (st1 [])
  refine aaI r1 (st1 []).sep h' alL amo rfl hv y6 z8 fun s' tag2 I2 st2 r2=>?_
  exact⟨s',rfl,hQ s' tag2 I2 (fun R=>(st1 R).trans (st2 R (.inl rfl))) r2⟩
theorem apz{s:Sl}{Q:Bool->AH->Prop}(h:SL.qU ro I s [vI 0,vI 1,vI 2])(hQ:Q true I):xx B ro s I Q:=by
 refine acO fun _=>?_
 unfold yA
 have hl:(s.len:Int)=3:=by rw[h.1];try rfl
 obtain⟨p,hp⟩:∃ p,s.a=some p:=by
  cases e:s.a with
  | none=>have:=h.2.1 e;cases this
  | some p=>exact⟨p,rfl⟩
 have g0:=h.2.2 p hp 0 _ rfl
 have g1:=h.2.2 p hp 1 _ rfl
 have g2:=h.2.2 p hp 2 _ rfl
 refine lfpD.intro ?_
 generalize hY:lfpD (qW B ro s Q)=Y
 unfold qW
 rw[hl,me z8]
 refine⟨p,hp,z8,z8,0,g0,?_⟩
 rw[mc z8,mc z8]
 unfold wE wm
 rw[mc z8,show i64.wrap (0+1)=1 from rfl,<-hY]
 refine lfpD.intro ?_
 rw[hY]
 unfold qW
 rw[hl,me z8]
 refine⟨p,hp,z8,z8,1,g1,?_⟩
 rw[mc z8,me z8]
 refine⟨p,hp,z8,z8,0,g0,?_⟩
 unfold wE wm
 rw[mc z8,show i64.wrap (1+1)=2 from rfl,<-hY]
 refine lfpD.intro ?_
 rw[hY]
 unfold qW
 rw[hl,me z8]
 refine⟨p,hp,z8,z8,2,g2,?_⟩
 rw[mc z8,me z8]
 refine⟨p,hp,z8,z8,1,g1,?_⟩
 unfold wE wm
 rw[mc z8,show i64.wrap (2+1)=3 from rfl,<-hY]
 refine lfpD.intro ?_
 rw[hY]
 unfold qW
 rw[hl,mc z8]
 unfold xb
 rw[hl]
 exact hQ
theorem aqJ{T M:Nat}{Q:Int->Bool->Int->AH->Prop}(hc:Row tag I 55 242 ⟨some ⟨T,0,none⟩,1,1⟩ [.map (some M)])(hm:wy kS tag I 119 M [])
  (hQ:∀ tag' I',qi [0,55,56,57,58] ro tag I tag' I'->Q 1 true 0 I'):aac B ro (some ⟨T,0,none⟩) ⟨#[97]⟩ 5 100 I Q:=by
 refine agt fun hs=>?_
 unfold aas
 refine agl ?_
 rw[show qV (L ⟨#[97]⟩)=true from by decide,mc z7]
 refine aeH fun _=>?_
 unfold aat
 show(if¬(((decide ((1:Int)<=5)) && (decide ((5:Int)<=4611686018427387903)))=true)then _ else _)
 rw[mc z8,mc z8]
 refine⟨_,rfl,some M,hc.cell1 hs,?_⟩
 refine aaJ (k:=[97]) hm hs ae0 (amm u9) aom ?_
 refine⟨none,rfl,?_⟩
 rw[me rfl]
 refine aeV kI (tag:=tag) 57 hs fun m tag1 I1 st1 m1=>?_
 refine qr (tag:=tag1) 56 (st1 []).sep fun H tag2 I2 st2 r2=>?_
 have m2:=m1.keep (st2 [])
 have hs2:=(st2 []).sep
 unfold xe
 refine⟨_,rfl,some m,(r2.read hs2).2.2 _ rfl 1 _ rfl,?_⟩
 refine akm ain m2 hs2 fun es clock x hb he hbn hro hx=>?_
 have st3:∀ R,qd R ro tag2 I2 (setTag tag2 x 0) (upd I2 x (.mapIter (some m) clock #[] clock)):=fun R=>qd.fresh hs2 hro hx
 refine⟨_,rfl,?_⟩
 refine lfpD.intro ?_
 show awp prog ro (Instr.next (.pointer (some ⟨x,0,none⟩)) false 0) _ _
 refine ahO (qA _ _ _) ((st3 []).keep m _ hb z7).2 (st3 []).sep hbn (fun _=>?_) (fun e hes _=>?_)
 rotate_left
 .have:es.toList=[]:=by simpa using he
  rw[this]at hes;cases hes
 refine .inl ⟨rfl,?_⟩
 generalize (upd I2 x (.mapIter (some m) clock #[] clock))=I3 at st3⊢
 generalize (setTag tag2 x 0)=tag3 at st3
 have hs3:=(st3 []).sep
 have r3:=r2.keep (st3 [])
 have m3:=m2.keep (st3 [])
 unfold jV
 refine⟨_,rfl,some m,(r3.read hs3).2.2 _ rfl 1 _ rfl,?_⟩
 refine afm m3 hs3 ain ?_
 refine⟨0,rfl,?_⟩
 rw[mc z8]
 refine⟨_,rfl,0,(r3.read hs3).2.2 _ rfl 0 _ rfl,?_⟩
 unfold kF
 rw[mc z8]
 refine⟨_,rfl,0,(r3.read hs3).2.2 _ rfl 0 _ rfl,_,rfl,?_⟩
 refine r3.stPre [.int .i64 (i64.wrap (0+1))] 0 _ I3 hs3 z7 (by simp[qk]) fun I4 st4 r4=>?_
 have hs4:=st4.sep
 have m4:=m3.keep st4
 refine⟨_,rfl,_,rfl,_,rfl,some m,(r4.read hs4).2.2 _ rfl 1 _ rfl,_,(r4.read hs4).2.2 _ rfl 0 _ rfl,_,(r4.read hs4).2.2 _ rfl 0 _ rfl,?_⟩
 refine qr (tag:=tag3) 58 hs4 fun Z tag5 I5 st5 r5=>?_
 refine aiF (k:=i64.wrap (0+1)) (m4.keep (st5 [])) (st5 []).sep ain (amn u3') fun I6 st6 m6=>?_
 have hc6:Row tag5 I6 55 242 ⟨some ⟨T,0,none⟩,1,1⟩ [.map (some M)]:=(((((hc.keep (st1 [])).keep (st2 [])).keep (st3 [])).keep st4).keep (st5 [])).keep st6
 have hm6:wy kS tag5 I6 119 M []:=(((((hm.keep (st1 [])).keep (st2 [])).keep (st3 [])).keep st4).keep (st5 [])).keep st6
 have r6:=(r4.keep (st5 [])).keep st6
 refine⟨_,rfl,some M,hc6.cell1 st6.sep,?_⟩
 refine aiF (k:=[97]) hm6 st6.sep ae0 (amm u9) fun I7 st7 m7=>?_
 have r7:=r6.keep st7
 refine⟨_,rfl,_,(r7.read st7.sep).2.2 _ rfl 0 _ rfl,?_⟩
 refine hQ tag5 I7 ?_
 refine(((st1 []).trans (st2 [])).trans (st3 [])).s z7 |>.trans ((st4.s z7).trans (((st5 []).s z7).trans ((st6.s z7).trans (st7.s z7))))
def nk(p:Str×Nd):Str×Nd:=(p.1,{p.2 with kids:=0})
theorem apA(l:St)(ds:List Sl):List.zipWith acr (l.map nk) ds=List.zipWith acr l ds:=by
 induction l generalizing ds with
 | nil=>rfl
 | cons p l ih=>
  cases ds with
  | nil=>rfl
  | cons d ds=>simp only[nx,List.zipWith_cons_cons,ih];rfl
theorem je.nk{r T:Nat}{l l':St}(h:je tag I r T l)(e:l.map nk=l'.map nk):je tag I r T l':=by
 obtain⟨s,ds,h1,h2,h3,h4⟩:=h
 have hl:=mi List.length e
 simp only[ml]at hl
 refine⟨s,ds,by rw[h1,hl],h2,by rw[<-apA,<-e,apA];exact h3,fun i p d hp hd=>?_⟩
 have h5:(l.map Zt.nk)[i]?=some (Zt.nk p):=by rw[e,mq,hp];try rfl
 rw[mq]at h5
 obtain⟨p',hp',ep⟩:=Li.1 h5
 have:=h4 i p' d hp' hd
 rw[show p.2.data=p'.2.data from(mi (fun x=>x.2.data) ep).symm]
 exact this
theorem aqK{a:St}{u:Str}{f:Nd->Nd}(h:∀ n,{f n with kids:=0}={n with kids:=0}):(xo a u f).map nk=a.map nk:=by
 unfold xo
 rw[Lj]
 refine List.map_congr_left fun p _=>?_
 simp only[Function.comp]
 split
 .unfold nk;simp only;rw[h]
 .rfl
theorem aqL(a b:Nat):join (join (SL.one I a) (SL.one (SL.del I a) b)) (SL.del (SL.del I a) b)=I:=by
 funext c;unfold join SL.one SL.del
 by_cases e:c=a
 .subst e
  cases h:I c<;>simp
 .by_cases e':c=b
  .subst e';cases h:I c<;>simp[e]
  .simp[e,e']
theorem aqM{r T j:Nat}{l:St}{p:Str×Nd}{K:AH->AH->Prop}(h:je tag I r T l)(hs:SL.Sep ro I)(hr:r<64)(hj:l[j]?=some p)
  (hK:∀ (s:Sl) (b:Nat) (d:Sl) (ψ τ:AH),join ψ τ=I->s.a=some ⟨b,0,none⟩->s.len=l.length->qb (join ro ψ) (fun _=>none) ⟨T,0,none⟩=some (Sl.v s)->qb (join ro ψ) τ ⟨T,0,none⟩=some (Sl.v s)->
   (∀i v,(acr p d)[i]?=some v->qb (join ro ψ) (fun _=>none) (((⟨b,0,none⟩:Addr).add (Int.toNat (j:Int)*5)).add i)=some v)->
   (∀i v,(acr p d)[i]?=some v->qb (join ro ψ) τ (((⟨b,0,none⟩:Addr).add (Int.toNat (j:Int)*5)).add i)=some v)->afu (join ro ψ) τ T l->K ψ τ):uS I K:=by
 obtain⟨s,b,ha,hsl,tb,tT,hbo,hTo,hne,hcT⟩:=h.blocks hr hj
 obtain⟨s',b',d,e1,e2,e3,e4⟩:=(h.m hs).row hj
 have hss:s'=s:=by
  have:=(hcT ro hs).symm.trans e1
  injection this with this
  injection this with h1 h2 h3
  cases s;cases s';simp_all
 subst hss
 obtain rfl:b'=b:=by rw[ha]at e3;cases e3;rfl
 refine aqr T b' ?_
 have c1:qb (join ro (join (SL.one I T) (SL.one (SL.del I T) b'))) (fun _=>none) ⟨T,0,none⟩=some (Sl.v s'):=by
  rw[ag1];exact al7 (akZ (hcT ro hs))
 have c3:∀ i v,(acr p d)[i]?=some v->qb (join ro (join (SL.one I T) (SL.one (SL.del I T) b'))) (fun _=>none) (((⟨b',0,none⟩:Addr).add (Int.toNat (j:Int)*5)).add i)=some v:=fun i v hv=>by
  rw[ag1]
  have:=e4 i v hv
  rw[vg,vg]at this⊢
  exact akZ (a:=⟨b',0+Int.toNat (j:Int)*5+i,none⟩) (by rw[ag2];exact this)
 refine hK s' b' d _ _ (aqL T b') ha hsl c1 (up c1) c3 (fun i v hv=>up (c3 i v hv)) ?_
 rw[ag1]
 exact((h.m hs).lent T).lent b'
where
 up {ro' τ:AH} {a:Addr} {v:Value} (h:qb ro' (fun _=>none) a=some v):qb ro' τ a=some v:=by
  have:=al7 (ψ:=fun _=>none) (τ:=τ) h
  have e:join ro' (fun _=>none)=ro':=kn _
  rwa [e]at this
theorem arK{r:Nat}{s:Sl}{L:List (List Value)}{x:List Value}{cs:Array Value}{K:Sl->AH->Prop}(h:qH tag I r 329 5 s L)(hs:SL.Sep ro I)(hx:x.length=5)(hcs:cs.toList=x)(hv:∀ v∈x,qk v=true)(hl:L.length<=4294967296)
  (hK:∀ s' tag' I',qd [r] ro tag I tag' I'->qH tag' I' r 329 5 s' (L++[x])->K s' I'):
  nw ro I (.cells cs 329) fun X I=>awp prog ro (Builtin.append_ #[325,325] 325 #[Sl.v s,Sl.v (⟨some ⟨X,0,none⟩,1,1⟩:Sl)]) (fun v I=> ∃s':Sl,v=Sl.v s'/\K s' I) I:=by
 refine qr (tag:=tag) 0 hs fun X tag1 I1 st1 r1=>?_
 rw[hcs]at r1
 refine acb (l2:=[x]) (qH.keep h (st1 [])) (st1 []).sep (Row.readW1 r1 (st1 []).sep hx z8) (t:=325) y0 ack rfl (j1 hv) y6 z8 fun s' tag2 I2 st2 r2=>?_
 exact⟨s',rfl,hK s' tag2 I2 ((st1 [r]).trans (st2 [r] (.inr z7))) r2⟩
theorem arL{U:Nat}{a:St}{Q:Option Addr->Bool->AH->Prop}(hs:SL.Sep ro I)(h:je tag I 11 U a)(hl:a.length<=4294967296)
  (hno:(a.all fun p=>decide (((kc (a.map (·.1)) p.1:Nat):Int)<=p.2.ctr))=false\/a=[]->∀ T,Q T false I)
  (hyes:(a.all fun p=>decide (((kc (a.map (·.1)) p.1:Nat):Int)<=p.2.ctr))=true->a≠[]->Q (some ⟨U,0,none⟩) true I):pR B ro U Q I:=by
 unfold pR
 obtain⟨s,hT,hsl⟩:=(h.m hs).len
 suffices∀m j,j+m=a.length->(∀(i:Nat) (p:Str×Nd),i<j->a[i]?=some p->((kc (a.map (·.1)) p.1:Nat):Int)<=p.2.ctr)->lfpD (pQ B ro U Q) (j:Int) I from this _ 0 (mp _) fun i p hi=>mC hi (Nat.not_lt_zero _)
 intro m
 induction m with
 | zero=>
  intro j hj hall
  refine lfpD.intro ?_
  unfold pQ
  refine⟨s,hT,?_⟩
  rw[mc z6]
  unfold aba
  refine⟨s,hT,?_⟩
  by_cases c:a=[]
  .rw[mL (by rw[hsl,c];simp)]
   exact hno (.inr c) _
  .rw[mF (by have:=nr.2 c;omega)]
   refine hyes (mz.2 fun p hp=>?_) c
   obtain⟨i,hi,rfl⟩:=nv hp
   have:=hall i a[i] z6 (mh hi)
   simpa using this
 | succ m ih=>
  intro j hj hall
  have hjl:j<a.length:=by omega
  have hja:=mh hjl
  refine lfpD.intro ?_
  unfold pQ
  refine⟨s,hT,?_⟩
  rw[me z6]
  refine aqM h hs z8 hja fun s' b d ψ τ hjn e1 e2 c1 c2 c3 c4 hM=>?_
  refine⟨s',c1,_,e1,z6,z6,a[j].2.ctr,c3 3 _ rfl,s',c2,_,e1,z6,z6,S a[j].1,by have:=c4 0 _ rfl;rwa [uW]at this,?_⟩
  refine ao6 hM hl ?_
  intro _
  simp only[]
  rw[hjn]
  by_cases c:a[j].2.ctr<((kc (a.map (·.1)) a[j].1:Nat):Int)
  .rw[me c]
   refine hno (.inl ?_) _
   rw[<-nE,mz]
   intro hall'
   have:=hall' a[j] (mO hjl)
   simp at this;omega
  .rw[mc c,Pa.inc j z6]
   refine ih (j+1) z6 fun i p hi hp=>?_
   rcases mB i j with h' | h'
   .exact hall i p h' hp
   .obtain rfl:i=j:=by omega
    rw[hja]at hp;cases hp;omega
theorem qP.del{r W b:Nat}{acc:Str}{bad:Bool}(h:qP tag I r W acc bad)(h1:r≠tag b)(h2:r+64≠tag b):qP tag (SL.del I b) r W acc bad:=by
 obtain⟨s,hc,lr,a,c⟩:=h
 exact⟨s,hc,lr,a.del rfl h1,c.del rfl h2⟩
theorem qP.back{r W b q:Nat}{acc:Str}{bad:Bool}{τ:AH}(h:qP tag' τ r W acc bad)(hd:qI (SL.one I b) τ)(hb:∃ o,I b=some o):qP (setTag tag' b q) (join (SL.one I b) τ) r W acc bad:=by
 obtain⟨s,hc,lr,a,c⟩:=h
 exact⟨s,hc,lr,a.back hd hb,c.back hd hb⟩
abbrev nS:Sl:=⟨none,0,0⟩
theorem kT{s:Sl}{l:List Value}{p:Addr}(h:SL.qU ro I s l)(hp:s.a=some p):SL.qB ro I p 0 l:=wN 0 fun j v hv=>by rw[mp];exact h.2.2 p hp j v hv
structure afS(tag:Nat->Nat)(I:AH)(W T Tt M:Nat)(ms:Sl)(Th:Nat):Prop where
 own:Row tag I 54 153 ⟨some ⟨W,0,none⟩,5,5⟩ [vI 0,Sl.v ms,ptr T,ptr Tt,ptr Th]
 mem:Row tag I 118 3 ms [vI 0,vI 1,vI 2]
 tree:vJ tag I 10 T St.new
 tbl:Row tag I 55 242 ⟨some ⟨Tt,0,none⟩,1,1⟩ [.map (some M)]
 map:wy kS tag I 119 M []
abbrev CN:List Nat:=[0,10,54,55,62]
theorem amG{s:Sl}{Q:Option Addr->Int->AH->Prop}(h:SL.qU ro I s [vI 0,vI 1,vI 2])
  (hQ:∀ W T Tt M ms Th tag' I',qi CN ro tag I tag' I'->afS tag' I' W T Tt M ms Th->Q (some ⟨W,0,none⟩) 0 I'):af3 B ro s I Q:=by
 refine amk fun hs=>?_
 unfold agd
 refine apz h ?_
 rw[mc z7]
 refine ak8 (tag:=tag) 118 h hs z8 (by simp[qk]) fun ms tag1 I1 st1 r1=>?_
 refine asn (tag:=tag1) 10 z8 z8 fun T tag2 I2 st2 t2=>?_
 refine agr fun hs2=>?_
 unfold acu
 refine aeV kS (tag:=tag2) 119 hs2 fun M tag3 I3 st3 m3=>?_
 refine qr (tag:=tag3) 55 (st3 []).sep fun Tt tag4 I4 st4 r4=>?_
 refine ah4 fun hs4=>?_
 unfold adW
 refine aeV kSI (tag:=tag4) 126 hs4 fun Mh tag5 I5 st5 m5=>?_
 refine qr (tag:=tag5) 62 (st5 []).sep fun Th tag6 I6 st6 r6=>?_
 refine qr (tag:=tag6) 54 (st6 []).sep fun W tag7 I7 st7 r7=>?_
 have k6:qd [] ro tag4 I4 tag7 I7:=((st5 []).trans (st6 [])).trans (st7 [])
 have k3:qd [] ro tag3 I3 tag7 I7:=(st4 []).trans k6
 have k2:qd [] ro tag2 I2 tag7 I7:=(st3 []).trans k3
 refine hQ W T Tt M ms Th tag7 I7 (((st1 []).s z7).trans ((st2.s z7).trans (k2.s z7))) ⟨r7,?_,t2.keep k2,r4.keep k6,m3.keep k3⟩
 exact(r1.keepC st2).keep k2
theorem afS.keepS{C:List Nat}{W T Tt M Th:Nat}{ms:Sl}(h:afS tag I W T Tt M ms Th)(k:qi C ro tag I tag' I')(hC:54∉C/\55∉C/\10∉C/\6∉C:=by decide):afS tag' I' W T Tt M ms Th:=
 ⟨h.own.keepS k hC.1,h.mem.keepS k hC.1,h.tree.keepS k hC.2.2.1 hC.2.2.2,h.tbl.keepS k hC.2.1,h.map.keepS k hC.2.1⟩
abbrev CA1:List Nat:=[0,2,3,4,5,10,55,56,57,58]
abbrev ai9:List Value:=[.int .i64 0,.int .i64 1,Sl.v nS,.int .i64 0,Sl.v nS,.int .i64 0,.int .i64 0,.int .i64 0,.int .i64 0,Sl.v nS,Sl.v nS,.int .i64 0]
theorem aqN:∀ v∈ai9,qk v=true:=z8
theorem aqO{W T Tt M Th:Nat}{ms:Sl}{Q:Int->Int->Sl->Int->Sl->Int->Int->Int->Int->Sl->Sl->Int->AH->Prop}(g:xC ro)(h:afS tag I W T Tt M ms Th)
  (hQ:∀ tag' I',qi CA1 ro tag I tag' I'->Q 0 1 nS 0 nS 0 0 0 0 nS nS 0 I'):abo B ro (some ⟨W,0,none⟩) 1 ⟨#[97]⟩ 0 0 5 100 0 0 nS ByteArray.empty false 0 nS I Q:=by
 refine ahv fun hs=>?_
 unfold abF
 refine qr (tag:=tag) 3 hs fun X tag1 I1 st1 r1=>?_
 refine qr (tag:=tag1) 2 (st1 []).sep fun Y tag2 I2 st2 r2=>?_
 have k2:qi CA1 ro tag I tag2 I2:=((st1 []).trans (st2 [])).s z7
 have h2:afS tag2 I2 W T Tt M ms Th:=h.keepS (C:=[]) (((st1 []).trans (st2 [])).s z7) z7
 have c2:=r1.keep (st2 [])
 have hs2:=(st2 []).sep
 refine⟨⟨#[97]⟩,(c2.read hs2).2.2 _ rfl 1 _ rfl,z8,_,rfl,some ⟨T,0,none⟩,(h2.own.read hs2).2.2 _ rfl 2 _ rfl,?_⟩
 have hL:L ((⟨#[47]⟩:ByteArray)++⟨#[97]⟩)=[47,97]:=by decide
 obtain⟨MT,bsT,hT⟩:=h2.tree
 refine ast (r:=10) g z8 z8 z8 hT (fun p n hp=>?_) (fun hp=>?_) (fun ps hp hl tag3 I3 st3=>?_) (fun n hn=>?_)
 .simp only[St.new,List.lookup]at hp
  split at hp
  .cases hp;simp
  .cases hp
 .rw[hL]at hp;exact mC hp z8
 rotate_left
 .rw[hL,show St.new.lookup [47,97]=none by decide]at hn;cases hn
 have h3:=h2.keepS (st3.s (C:=[0]) z7)
 have c3:=c2.keepC st3
 have y3:=r2.keepC st3
 refine qr (tag:=tag3) 5 st3.sep fun Z tag4 I4 st4 r4=>?_
 refine r4.stPre _ 0 _ I4 (st4 []).sep z7 (by simp[qk]) fun I5 st5 r5=>?_
 have k5:qd [5] ro tag3 I3 tag4 I5:=(st4 [5]).trans st5
 have h5:=h3.keepS (k5.s (C:=[5]) z7)
 have c5:=c3.keep k5
 have y5:=y3.keep k5
 have hs5:=st5.sep
 refine⟨⟨#[97]⟩,(c5.read hs5).2.2 _ rfl 1 _ rfl,?_⟩
 refine agl ?_
 refine⟨_,rfl,some ⟨Tt,0,none⟩,(h5.own.read hs5).2.2 _ rfl 3 _ rfl,⟨#[97]⟩,(c5.read hs5).2.2 _ rfl 1 _ rfl,5,(c5.read hs5).2.2 _ rfl 4 _ rfl,100,(c5.read hs5).2.2 _ rfl 5 _ rfl,?_⟩
 refine aqJ h5.tbl h5.map fun tag6 I6 st6=>?_
 rw[mc z7,me ⟨z8,rfl⟩]
 have o6:=h5.own.keepS st6
 have t6:=h5.tree.keepS st6
 refine⟨_,rfl,some ⟨T,0,none⟩,(o6.read st6.sep).2.2 _ rfl 2 _ rfl,?_⟩
 refine aoQ (r:=10) (d:=[]) g z8 z8 z8 t6 ⟨rfl,fun _=>rfl,fun p hp=>by cases hp⟩ z8 fun tag7 I7 st7 t7=>?_
 unfold xL
 have y7:=(y5.keepS st6).keepC st7
 refine y7.stPre ai9 0 _ I7 st7.sep z8 aqN fun I8 st8 y8=>?_
 have y9:Row tag7 I8 2 _ ⟨some ⟨Y,0,none⟩,12,12⟩ ai9:=y8
 refine⟨_,_,_,_,_,_,_,_,_,_,_,_,kT (y9.read st8.sep) rfl,?_⟩
 exact hQ tag7 I8 (k2.trans ((st3.s z7).trans ((k5.s z7).trans ((st6.mono z8).trans ((st7.s z7).trans (st8.s z7))))))
abbrev CB:List Nat:=[0,2,3,4,5,10,12,55,56,57,58]
theorem apB{W T Tt M Th:Nat}{ms:Sl}{Q:Int->Int->Sl->Int->Sl->Int->Int->Int->Int->Sl->Sl->Int->AH->Prop}(g:xC ro)(h:afS tag I W T Tt M ms Th)
  (hQ:∀ tag' I',qi CB ro tag I tag' I'->Q 0 1 nS 0 nS 0 0 0 0 nS nS 0 I'):aaK B ro (some ⟨W,0,none⟩) 1 ⟨#[97]⟩ 0 0 5 100 0 0 nS ByteArray.empty false 0 nS I Q:=by
 refine ag9 fun hs=>?_
 unfold aa2
 refine qr (tag:=tag) 4 hs fun X tag1 I1 st1 r1=>?_
 refine qr (tag:=tag1) 12 (st1 []).sep fun Y tag2 I2 st2 r2=>?_
 have k2:qd [] ro tag I tag2 I2:=(st1 []).trans (st2 [])
 have h2:afS tag2 I2 W T Tt M ms Th:=h.keepS (C:=[]) (k2.s z7) z7
 have c2:=r1.keep (st2 [])
 have hs2:=(st2 []).sep
 refine⟨1,(c2.read hs2).2.2 _ rfl 0 _ rfl,?_⟩
 rw[me rfl]
 refine⟨_,_,_,_,_,_,_,_,_,_,_,_,_,kT (c2.read hs2) rfl,?_⟩
 refine aqO g h2 fun tag3 I3 st3=>?_
 have y3:=r2.keepS st3
 refine y3.stPre ai9 0 _ I3 st3.sep z7 aqN fun I4 st4 y4=>?_
 have y5:Row tag3 I4 12 _ ⟨some ⟨Y,0,none⟩,12,12⟩ ai9:=y4
 refine⟨_,_,_,_,_,_,_,_,_,_,_,_,kT (y5.read st4.sep) rfl,?_⟩
 exact hQ tag3 I4 ((k2.s z7).trans ((st3.mono z8).trans (st4.s z7)))
theorem ah6:∀ (n:Nat) (r:Rd),(gnums n r).1.length=n
 | 0,r=>rfl
 | n+1,r=>by unfold gnums;simp[ah6 n]