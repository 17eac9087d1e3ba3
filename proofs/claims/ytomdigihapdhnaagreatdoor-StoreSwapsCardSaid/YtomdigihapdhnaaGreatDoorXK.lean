import Derived.Test.YtomdigihapdhnaaGreatDoorXJ
set_option linter.all false
set_option maxRecDepth 99999
set_option maxHeartbeats 0
open Go.IntKind(i64)
open Go.Proofs.Tryz
namespace Go.Proofs.YtomdigihapdhnaaGreatDoor
namespace G
open Go SL
variable{B:World}{ro I:AH}
variable{a1_4 a1_5:Bool}{a1 a1_1:ByteArray}{a1_0 a1_3:Int}{Q:Int->AH->Prop}{a0:Option Addr}{a1_2 a4:Sl}
def abu(B:World)(ro:AH)(u0 u1:Nat)(Q:Int->Int->AH->Prop)(I:AH):=
 ∃u2 u3,qg ro I ⟨u1,0,none⟩ 0 [.int .i64 u2,.int .i64 u3]/\
 stN ⟨u0,0,none⟩ (fun I=>
 ∃u4 u5,qg ro I ⟨u0,0,none⟩ 0 [.int .i64 u4,.int .i64 u5]/\
 Q u4 u5 I) [.int .i64 u2,.int .i64 u3] 0 I
def abv(B:World)(ro:AH)(a0:Option Addr)(a1:Sl)(u0 u1:Nat)(u2:Int)(Q:Int->Int->AH->Prop)(Y6:Int->AH->Prop)(I:AH):=
 Y6 (i64.wrap (u2+1)) I
def yc(B:World)(ro:AH)(a0:Option Addr)(a1:Sl)(u0 u1:Nat)(u2:Int)(u3:ByteArray)(u4:Sl)(u5:Int)(Q:Int->Int->AH->Prop)(Y6:Int->AH->Prop)(Y13:Int->AH->Prop)(I:AH):=
 Y13 (i64.wrap (u5+1)) I
def pU(B:World)(ro:AH)(a0:Option Addr)(a1:Sl)(u0 u1:Nat)(u2:Int)(u3:ByteArray)(u4:Sl)(Q:Int->Int->AH->Prop)(Y6:Int->AH->Prop):Int->AH->(Int->AH->Prop)->Prop:=fun u5 I Y13=>
 if u5<(u4.len:Int)then
 ∃p6,u4.a=some p6/\(0:Int)<=u5/\u5<(u4.len:Int)/\
 ∃u7,qa ro I (p6.add (Int.toNat u5*1))=some (.string u7)/\
 yD B ro u7 I fun u8 u9 I=>
 if(¬(u8=u3))\/(u3=(⟨#[]⟩:ByteArray))then
  yc B ro a0 a1 u0 u1 u2 u3 u4 u5 Q Y6 Y13 I
 else
 xj B ro a0 u7 I fun u10 u11 u12 u13 u14 u15 I=>
 nw ro I (.cells #[.int .i64 0,.int .i64 0,.int .i64 0,.int .i64 0] 26) fun u16 I=>
 stN ⟨u16,0,none⟩ (fun I=>
  ∃u17,qa ro I ⟨u1,0,none⟩=some (.int .i64 u17)/\
  stN ⟨u1,0,none⟩ (fun I=>
  ∃u18,qa ro I ((⟨u1,0,none⟩:Addr).add 1)=some (.int .i64 u18)/\
  stN ((⟨u1,0,none⟩:Addr).add 1) (fun I=>
   yc B ro a0 a1 u0 u1 u2 u3 u4 u5 Q Y6 Y13 I) [.int .i64 (i64.wrap (u18+(i64.wrap ((u7.size:Int)+(u10.len:Int)))))] 0 I) [.int .i64 (i64.wrap (u17+1))] 0 I) [.int .i64 u11,.int .i64 u12,.int .i64 u13,.int .i64 u14] 0 I
 else
 abv B ro a0 a1 u0 u1 u2 Q Y6 I
def yM(B:World)(ro:AH)(a0:Option Addr)(a1:Sl)(u0 u1:Nat)(Q:Int->Int->AH->Prop):Int->AH->(Int->AH->Prop)->Prop:=fun u2 I Y6=>
 if u2<(a1.len:Int)then
 ∃p3,a1.a=some p3/\(0:Int)<=u2/\u2<(a1.len:Int)/\
 ∃u4,qa ro I (p3.add (Int.toNat u2*1))=some (.string u4)/\
 (⟨#[47]⟩:ByteArray).size+u4.size<=9223372036854775807/\
 aa0 B ro a0 ((⟨#[47]⟩:ByteArray)++u4) I fun u5 u6 I=>
 lfpD (pU B ro a0 a1 u0 u1 u2 u4 u5 Q Y6) (0) I
 else
 abu B ro u0 u1 Q I
def aeq(B:World)(ro:AH)(a0:Option Addr)(a1:Sl)(I:AH)(Q:Int->Int->AH->Prop):=
 nw ro I (.cells #[.int .i64 0,.int .i64 0] 66) fun u0 I=>
 nw ro I (.cells #[.int .i64 0,.int .i64 0] 66) fun u1 I=>
 lfpD (yM B ro a0 a1 u0 u1 Q) (0) I
theorem akI{a1:Sl}{Q:Int->Int->AH->Prop}(h:Sep ro I->aeq B ro a0 a1 I Q):aef B ro a0 a1 I Q:=by
 refine zb h func26 ntmps26 fun h=>?_;unfold aeq at h;refine z3 ?_;refine zA (qY rfl acl) h fun u0 h=>?_;refine z4 ?_;refine zA (qY rfl acl) h fun u1 h=>?_;refine z2 ?_;refine AW.seqJ (fun fr I=>qo [(4,.pointer (some ⟨u0,0,none⟩)),(5,.pointer (some ⟨u1,0,none⟩))] fr/\abu B ro u0 u1 Q I) ?_ ?_
 .rintro fr I ⟨hl,h⟩;refine AW.weaken ?_ hl (HLe.refl _)
  unfold abu at h;refine z3 ?_;obtain⟨u2,u3,hc,h⟩:=h
  refine zl (wY rfl underlying66 rfl acl rfl hc ?_)
  refine zs acl h fun I h=>?_;refine z2 ?_;refine AW.ret ?_;obtain⟨u4,u5,hc0,h⟩:=h
  exact xI results26 (wC (vV rfl underlying66 rfl acl hc0) vT) ⟨_,_,rfl,h⟩
 refine z3 ?_;refine zp ?_;refine zm (qT rfl rfl underlying27 rfl rfl) ?_;refine zp ?_;refine z2 (AW.block ?_)
 refine qk.loop (fr':=[(0,.pointer a0),(4,.pointer (some ⟨u0,0,none⟩)),(5,.pointer (some ⟨u1,0,none⟩)),(17,Sl.v a1),(18,.int .i64 (a1.len:Int)),(19,.int .i64 0)]) ?_ FL
 refine h (fun u6 I=>qk _ _ _ _ _ _ [(0,.pointer a0),(4,.pointer (some ⟨u0,0,none⟩)),(5,.pointer (some ⟨u1,0,none⟩)),(17,Sl.v a1),(18,.int .i64 (a1.len:Int)),(19,.int .i64 u6)] I) ?_
 rintro u6 I Y6 hY6 h
 show AW _ _ _ _ _ _ _ _
 unfold yM at h;refine z3 ?_;refine zp ?_;refine z2 (AW.seq ?_)
 refine zi h (fun h=>?_) fun h=>?_
 rotate_left
 .refine AW.exit ?_;refine qH (qH ?_);refine wB ?_
  refine qd ?_;exact⟨FL,h⟩
 refine AW.skip ?_;refine qd ?_;refine AW.seqJ (fun fr I=>qo [(0,.pointer a0),(4,.pointer (some ⟨u0,0,none⟩)),(5,.pointer (some ⟨u1,0,none⟩)),(17,Sl.v a1),(18,.int .i64 (a1.len:Int)),(19,.int .i64 u6)] fr/\abv B ro a0 a1 u0 u1 u6 Q Y6 I) ?_ ?_
 .rintro fr I ⟨hl,h⟩;refine AW.weaken ?_ hl (HLe.refl _)
  unfold abv at h;refine AW.reg ?_;iterate 2 refine zp ?_
  refine z2 ?_;refine qk.head (fr':=[(0,.pointer a0),(4,.pointer (some ⟨u0,0,none⟩)),(5,.pointer (some ⟨u1,0,none⟩)),(17,Sl.v a1),(18,.int .i64 (a1.len:Int)),(19,.int .i64 (i64.wrap (u6+1)))]) ?_ FL
  exact hY6 _ _ h
 refine AW.block (z3 ?_);obtain⟨p7,ha,h0,h1,h⟩:=h
 refine zm (vv rfl underlying27 ty9 (ixL rfl ha) rfl h0 h1) ?_;refine zL underlying9 h fun u8 h=>?_;refine zp ?_;refine z4 ?_;iterate 2 refine zp ?_
 obtain⟨hc,h⟩:=h
 refine zm (ajM rfl rfl rfl hc) ?_;refine zc func27 h ?_;rintro v I ⟨u9,u10,rfl,h⟩;iterate 5 refine zp ?_
 refine z4 ?_;refine zp ?_;refine zm (qT rfl rfl underlying27 rfl rfl) ?_;refine zp ?_;refine z2 (AW.block ?_)
 refine qk.loop (fr':=[(0,.pointer a0),(4,.pointer (some ⟨u0,0,none⟩)),(5,.pointer (some ⟨u1,0,none⟩)),(7,.string u8),(17,Sl.v a1),(18,.int .i64 (a1.len:Int)),(19,.int .i64 u6),(30,Sl.v u9),(31,.int .i64 (u9.len:Int)),(32,.int .i64 0)]) ?_ FL
 refine h (fun u11 I=>qk _ _ _ _ _ _ [(0,.pointer a0),(4,.pointer (some ⟨u0,0,none⟩)),(5,.pointer (some ⟨u1,0,none⟩)),(7,.string u8),(17,Sl.v a1),(18,.int .i64 (a1.len:Int)),(19,.int .i64 u6),(30,Sl.v u9),(31,.int .i64 (u9.len:Int)),(32,.int .i64 u11)] I) ?_
 rintro u11 I Y13 hY13 h
 show AW _ _ _ _ _ _ _ _
 unfold pU at h;refine z3 ?_;refine zp ?_;refine z2 (AW.seq ?_)
 refine zi h (fun h=>?_) fun h=>?_
 rotate_left
 .refine AW.exit ?_;refine qH (qH ?_);refine wB ?_
  refine qD (qd ?_);exact⟨FL,h⟩
 refine AW.skip ?_;refine qd ?_;refine AW.seqJ (fun fr I=>qo [(0,.pointer a0),(4,.pointer (some ⟨u0,0,none⟩)),(5,.pointer (some ⟨u1,0,none⟩)),(7,.string u8),(17,Sl.v a1),(18,.int .i64 (a1.len:Int)),(19,.int .i64 u6),(30,Sl.v u9),(31,.int .i64 (u9.len:Int)),(32,.int .i64 u11)] fr/\yc B ro a0 a1 u0 u1 u6 u8 u9 u11 Q Y6 Y13 I) ?_ ?_
 .rintro fr I ⟨hl,h⟩;refine AW.weaken ?_ hl (HLe.refl _)
  unfold yc at h;refine AW.reg ?_;iterate 2 refine zp ?_
  refine z2 ?_;refine qk.head (fr':=[(0,.pointer a0),(4,.pointer (some ⟨u0,0,none⟩)),(5,.pointer (some ⟨u1,0,none⟩)),(7,.string u8),(17,Sl.v a1),(18,.int .i64 (a1.len:Int)),(19,.int .i64 u6),(30,Sl.v u9),(31,.int .i64 (u9.len:Int)),(32,.int .i64 (i64.wrap (u11+1)))]) ?_ FL
  exact hY13 _ _ h
 refine AW.block (z3 ?_);obtain⟨p12,ha,h0,h1,h⟩:=h
 refine zm (vv rfl underlying27 ty9 (ixL rfl ha) rfl h0 h1) ?_;refine zL underlying9 h fun u13 h=>?_;refine zp ?_;refine z2 (AW.seq (z3 ?_))
 refine zp ?_;refine zc func81 h ?_;rintro v I ⟨u14,u15,rfl,h⟩;iterate 5 refine zp ?_
 refine z4 ?_;iterate 2 refine zp ?_
 refine zm (ajL rfl rfl rfl) ?_;refine zp ?_;refine wW 3 (!(decide (u14=u8))) [(0,.pointer a0),(4,.pointer (some ⟨u0,0,none⟩)),(5,.pointer (some ⟨u1,0,none⟩)),(7,.string u8),(11,.string u13),(17,Sl.v a1),(18,.int .i64 (a1.len:Int)),(19,.int .i64 u6),(30,Sl.v u9),(31,.int .i64 (u9.len:Int)),(32,.int .i64 u11),(47,.bool ((!(decide (u14=u8))) || (decide (u8=(⟨#[]⟩:ByteArray)))))] ?_ ?_ ?_
 .intro e3 hk3
  iterate 2 refine zn e3 ?_
  refine zk e3 ?_;exact hk3 _ (Fe e3)
 .intro e3 hk3
  refine zy e3 ?_;refine zy e3 ?_;refine zk e3 ?_;exact hk3 _ (Fe e3)
 intro fr hl
 refine Lfr hl ?_
 refine z2 ?_;refine AW.iff rfl (zG (qu decide_eq_true_iff) decide_eq_true_iff) h (fun h=>?_) (fun h=>?_)
 .refine AW.exit ?_;refine qH ?_;refine wB ?_
  refine qd ?_;exact⟨FL,h⟩
 refine AW.skip ?_;refine qd (z3 ?_);iterate 2 refine zp ?_
 refine zc func25 h ?_;rintro v I ⟨u16,u17,u18,u19,u20,u21,rfl,h⟩;iterate 4 refine zp ?_
 refine zA (qY rfl wA) h fun u22 h=>?_;refine zp ?_;refine zs wA h fun I h=>?_;refine zp ?_;refine z4 ?_;refine zf underlying66 ty3 ?_;refine zL underlying3 h fun u23 h=>?_;refine zp ?_;refine zf underlying66 ty3 ?_;refine zs ty3 h fun I h=>?_;refine z2 (AW.reg ?_)
 refine zf underlying66 ty3 ?_;refine zL underlying3 h fun u24 h=>?_;refine zp ?_;refine zm (aaV rfl rfl underlying9 rfl rfl) ?_;refine zp ?_;refine zm (qT rfl rfl underlying24 rfl rfl) ?_;iterate 2 refine zp ?_
 refine zf underlying66 ty3 ?_;refine zs ty3 h fun I h=>?_;refine ju (qD (qd ?_));exact⟨FL,h⟩
def aaP(B:World)(ro:AH)(a0:Option Addr)(u0:Nat)(u1:Option Addr)(u2:Nat)(Q:Sl->Sl->Int->Int->AH->Prop)(I:AH):=
 ∃p3,u1=some p3/\
 ∃(u4:Option Nat),qg ro I p3 0 [.map u4]/\
 ∃p5,a0=some p5/\
 stN p5 (fun I=>
 stN ((⟨u2,0,none⟩:Addr).add 2) (fun I=>
  ∃u6 u7 u8,qg ro I ⟨u2,0,none⟩ 0 [Sl.v u6,Sl.v u7,.int .i64 u8]/\
  stN ⟨u0,0,none⟩ (fun I=>
  ∃u9 u10 u11,qg ro I ⟨u0,0,none⟩ 0 [Sl.v u9,Sl.v u10,.int .i64 u11]/\
  Q u9 u10 u11 0 I) [Sl.v u6,Sl.v u7,.int .i64 u8] 0 I) [.int .i64 (-1)] 0 I) [.map u4] 0 I
def pV(B:World)(ro:AH)(a0:Option Addr)(a4:Sl)(u0:Nat)(u1:Option Addr)(u2:Nat)(Q:Sl->Sl->Int->Int->AH->Prop):Int->AH->(Int->AH->Prop)->Prop:=fun u3 I Y16=>
 if u3<(a4.len:Int)then
 ∃p4,a4.a=some p4/\(0:Int)<=u3/\u3<(a4.len:Int)/\
 ∃u5 u6 u7 u8 u9 u10,qg ro I (p4.add (Int.toNat u3*6)) 0 [.int .i64 u5,.string u6,Sl.v u7,.int .i64 u8,.bool u9,.bool u10]/\
 nw ro I (.cells #[.int .i64 0,.string ByteArray.empty,Sl.v (⟨none,0,0⟩:Sl),.int .i64 0,.bool false,.bool false] 72) fun u11 I=>
 stN ⟨u11,0,none⟩ (fun I=>
  ∃u12 u13 u14 u15 u16 u17,qg ro I ⟨u11,0,none⟩ 0 [.int .i64 u12,.string u13,Sl.v u14,.int .i64 u15,.bool u16,.bool u17]/\
  ada B ro (some ⟨u2,0,none⟩) u12 u13 u14 u15 u16 u17 I fun u18 I=>
  if¬(u18=0)then
  stN ⟨u0,0,none⟩ (fun I=>
   ∃u19 u20 u21,qg ro I ⟨u0,0,none⟩ 0 [Sl.v u19,Sl.v u20,.int .i64 u21]/\
   Q u19 u20 u21 u18 I) [Sl.v (⟨none,0,0⟩:Sl),Sl.v (⟨none,0,0⟩:Sl),.int .i64 u3] 0 I
  else
  Y16 (i64.wrap (u3+1)) I) [.int .i64 u5,.string u6,Sl.v u7,.int .i64 u8,.bool u9,.bool u10] 0 I
 else
 aaP B ro a0 u0 u1 u2 Q I
def aer(B:World)(ro:AH)(a0:Option Addr)(a1:ByteArray)(a2 a3_0 a3_1:Int)(a4:Sl)(I:AH)(Q:Sl->Sl->Int->Int->AH->Prop):=
 nw ro I (.cells #[.int .i64 a3_0,.int .i64 a3_1] 66) fun u0 I=>
 nw ro I (.cells #[Sl.v (⟨none,0,0⟩:Sl),Sl.v (⟨none,0,0⟩:Sl),.int .i64 0] 348) fun u1 I=>
 if((a4.len:Int)=0)\/(16<(a4.len:Int))then
 stN ⟨u1,0,none⟩ (fun I=>
  ∃u2 u3 u4,qg ro I ⟨u1,0,none⟩ 0 [Sl.v u2,Sl.v u3,.int .i64 u4]/\
  Q u2 u3 u4 80 I) [Sl.v (⟨none,0,0⟩:Sl),Sl.v (⟨none,0,0⟩:Sl),.int .i64 0] 0 I
 else
 if(a2<1)\/(4611686018427387903<a2)then
 stN ⟨u1,0,none⟩ (fun I=>
  ∃u5 u6 u7,qg ro I ⟨u1,0,none⟩ 0 [Sl.v u5,Sl.v u6,.int .i64 u7]/\
  Q u5 u6 u7 10 I) [Sl.v (⟨none,0,0⟩:Sl),Sl.v (⟨none,0,0⟩:Sl),.int .i64 0] 0 I
 else
 pi B ro a0 I fun u8 I=>
 abr B ro u8 I fun u9 u10 I=>
 ∃u11 u12,qg ro I ⟨u0,0,none⟩ 0 [.int .i64 u11,.int .i64 u12]/\
 nw ro I (.cells #[Sl.v (⟨none,0,0⟩:Sl),Sl.v (⟨none,0,0⟩:Sl),.int .i64 0,.pointer u9,.string a1,.int .i64 a2,.int .i64 u11,.int .i64 u12] 410) fun u13 I=>
 lfpD (pV B ro a0 a4 u1 u9 u13 Q) (0) I
theorem akJ{a2 a3_0 a3_1:Int}{Q:Sl->Sl->Int->Int->AH->Prop}(h:Sep ro I->aer B ro a0 a1 a2 a3_0 a3_1 a4 I Q):acb B ro a0 a1 a2 a3_0 a3_1 a4 I Q:=by
 refine zb h func189 ntmps189 fun h=>?_;unfold aer at h;refine z3 ?_;refine zA (wI rfl rfl) h fun u0 h=>?_;refine zA (qY rfl jg) h fun u1 h=>?_;refine zp ?_;refine z2 (AW.seq (AW.block (z3 ?_)))
 refine zp ?_;refine zm (qT rfl rfl underlying54 rfl rfl) ?_;iterate 2 refine zp ?_
 refine wW 4 (decide ((a4.len:Int)=0)) [(0,.pointer a0),(1,.string a1),(2,.int .i64 a2),(4,Sl.v a4),(8,.pointer (some ⟨u0,0,none⟩)),(10,.pointer (some ⟨u1,0,none⟩)),(26,.bool ((decide ((a4.len:Int)=0)) || (decide (16<(a4.len:Int)))))] ?_ ?_ ?_
 .intro e3 hk3
  iterate 3 refine zn e3 ?_
  refine zk e3 ?_;exact hk3 _ (Fe e3)
 .intro e3 hk3
  refine zy e3 ?_;refine qX (qT rfl rfl underlying54 rfl rfl) rfl rfl rfl rfl e3 ?_
  refine zy e3 ?_;refine zk e3 ?_;exact hk3 _ (Fe e3)
 intro fr hl
 refine Lfr hl ?_
 refine zp ?_;refine z2 ?_;refine AW.iff rfl (zG decide_eq_true_iff decide_eq_true_iff) h (fun h=>?_) (fun h=>?_)
 .refine z3 ?_;refine zm (wz (vs:=[]) (cs:= #[Sl.v (⟨none,0,0⟩:Sl),Sl.v (⟨none,0,0⟩:Sl),.int .i64 0]) rfl underlying348 jg aoc rfl rfl) ?_;refine zs jg h fun I h=>?_;refine zp ?_;refine z2 ?_;refine AW.ret ?_;refine qx (qi ?_);obtain⟨u2,u3,u4,hc0,h⟩:=h
  exact bRM results189 (wC (vV rfl underlying348 rfl jg hc0) (wC (afF rfl) vT)) ⟨_,_,_,_,rfl,h⟩
 refine z3 ?_;iterate 3 refine zp ?_
 refine wW 3 (decide (a2<1)) [(0,.pointer a0),(1,.string a1),(2,.int .i64 a2),(4,Sl.v a4),(8,.pointer (some ⟨u0,0,none⟩)),(10,.pointer (some ⟨u1,0,none⟩)),(34,.bool ((decide (a2<1)) || (decide (4611686018427387903<a2))))] ?_ ?_ ?_
 .intro e2 hk2
  iterate 2 refine zn e2 ?_
  refine zk e2 ?_;exact hk2 _ (Fe e2)
 .intro e2 hk2
  refine zy e2 ?_;refine zy e2 ?_;refine zk e2 ?_;exact hk2 _ (Fe e2)
 intro fr hl
 refine Lfr hl ?_
 refine zp ?_;refine z2 ?_;refine AW.iff rfl (zG decide_eq_true_iff decide_eq_true_iff) h (fun h=>?_) (fun h=>?_)
 .refine z3 ?_;refine zm (wz (vs:=[]) (cs:= #[Sl.v (⟨none,0,0⟩:Sl),Sl.v (⟨none,0,0⟩:Sl),.int .i64 0]) rfl underlying348 jg aoc rfl rfl) ?_;refine zs jg h fun I h=>?_;refine zp ?_;refine z2 ?_;refine AW.ret ?_;refine qx (qi ?_);obtain⟨u5,u6,u7,hc0,h⟩:=h
  exact bRM results189 (wC (vV rfl underlying348 rfl jg hc0) (wC (afF rfl) vT)) ⟨_,_,_,_,rfl,h⟩
 refine AW.skip ?_;refine qD (qd (z3 ?_));refine zp ?_;refine zc func78 h ?_;rintro v I ⟨u8,rfl,h⟩;refine zc func77 h ?_;rintro v I ⟨u9,u10,rfl,h⟩;iterate 5 refine zp ?_
 refine z4 ?_;iterate 3 refine zp ?_
 obtain⟨u11,u12,hc,h⟩:=h
 refine zl (wY rfl underlying66 rfl acl rfl hc ?_)
 refine zm (wz (vs:=[(1,.pointer u9),(2,.string a1),(3,.int .i64 a2),(4,.agg #[.int .i64 u11,.int .i64 u12])]) (cs:= #[Sl.v (⟨none,0,0⟩:Sl),Sl.v (⟨none,0,0⟩:Sl),.int .i64 0,.pointer u9,.string a1,.int .i64 a2,.int .i64 u11,.int .i64 u12]) rfl underlying410 atC atN rfl (by kernel_rfl)) ?_;refine zA (wI rfl rfl) h fun u13 h=>?_;refine zp ?_;refine z2 ?_;refine AW.seqJ (fun fr I=>qo [(0,.pointer a0),(10,.pointer (some ⟨u1,0,none⟩)),(12,.pointer u9),(14,.pointer (some ⟨u13,0,none⟩))] fr/\aaP B ro a0 u1 u9 u13 Q I) ?_ ?_
 .rintro fr I ⟨hl,h⟩;refine AW.weaken ?_ hl (HLe.refl _)
  unfold aaP at h;refine z3 ?_;iterate 2 refine zp ?_
  refine zN h fun p14 h=>?_;obtain⟨u15,hc,h⟩:=h
  refine zl (wY rfl underlying239 rfl al1 rfl hc ?_)
  refine zN h fun p16 h=>?_;refine zs al1 h fun I h=>?_;refine z4 ?_;refine zp ?_;refine zm (qr rfl rfl) ?_;refine zf underlying410 jg ?_;refine zf underlying348 ty3 ?_;refine zs ty3 h fun I h=>?_;refine z4 ?_;refine zp ?_;refine zm (qr rfl rfl) ?_;refine zf underlying410 jg ?_;obtain⟨u17,u18,u19,hc,h⟩:=h
  refine zl (wY rfl underlying348 rfl jg rfl hc ?_)
  refine zs jg h fun I h=>?_;refine zp ?_;refine z2 ?_;refine AW.ret ?_;obtain⟨u20,u21,u22,hc0,h⟩:=h
  exact bRM results189 (wC (vV rfl underlying348 rfl jg hc0) (wC (afF rfl) vT)) ⟨_,_,_,_,rfl,h⟩
 refine z3 ?_;refine zp ?_;refine zm (qT rfl rfl underlying54 rfl rfl) ?_;refine zp ?_;refine z2 (AW.block ?_)
 refine qk.loop (fr':=[(0,.pointer a0),(10,.pointer (some ⟨u1,0,none⟩)),(12,.pointer u9),(14,.pointer (some ⟨u13,0,none⟩)),(48,Sl.v a4),(49,.int .i64 (a4.len:Int)),(50,.int .i64 0)]) ?_ FL
 refine h (fun u23 I=>qk _ _ _ _ _ _ [(0,.pointer a0),(10,.pointer (some ⟨u1,0,none⟩)),(12,.pointer u9),(14,.pointer (some ⟨u13,0,none⟩)),(48,Sl.v a4),(49,.int .i64 (a4.len:Int)),(50,.int .i64 u23)] I) ?_
 rintro u23 I Y16 hY16 h
 show AW _ _ _ _ _ _ _ _
 unfold pV at h;refine z3 ?_;refine zp ?_;refine z2 (AW.seq ?_)
 refine zi h (fun h=>?_) fun h=>?_
 rotate_left
 .refine AW.exit ?_;refine qH (qH ?_);refine wB ?_
  refine qd ?_;exact⟨FL,h⟩
 refine AW.skip ?_;refine qd (AW.seq (AW.block (z3 ?_)));refine zp ?_;obtain⟨p24,ha,h0,h1,h⟩:=h
 refine zm (vv rfl underlying54 ahO (ixL rfl ha) rfl h0 h1) ?_;obtain⟨u25,u26,u27,u28,u29,u30,hc,h⟩:=h
 refine zl (wY rfl underlying72 rfl ahO rfl hc ?_)
 refine zA (qY rfl ahO) h fun u31 h=>?_;refine zp ?_;refine zs ahO h fun I h=>?_;refine z4 ?_;refine zp ?_;obtain⟨u32,u33,u34,u35,u36,u37,hc,h⟩:=h
 refine zl (wY rfl underlying72 rfl ahO rfl hc ?_)
 refine zc func234 h ?_;rintro v I ⟨u38,rfl,h⟩;refine zp ?_;refine z4 ?_;iterate 2 refine zp ?_
 refine z2 ?_;refine AW.iff rfl (qu decide_eq_true_iff) h (fun h=>?_) (fun h=>?_)
 rotate_left
 .refine AW.skip ?_;refine qD (qd (AW.reg ?_));iterate 2 refine zp ?_
  refine z2 ?_;refine qk.head (fr':=[(0,.pointer a0),(10,.pointer (some ⟨u1,0,none⟩)),(12,.pointer u9),(14,.pointer (some ⟨u13,0,none⟩)),(48,Sl.v a4),(49,.int .i64 (a4.len:Int)),(50,.int .i64 (i64.wrap (u23+1)))]) ?_ FL
  exact hY16 _ _ h
 refine z3 ?_;refine zp ?_;refine zm (wz (vs:=[(2,.int .i64 u23)]) (cs:= #[Sl.v (⟨none,0,0⟩:Sl),Sl.v (⟨none,0,0⟩:Sl),.int .i64 u23]) rfl underlying348 jg aoc rfl rfl) ?_;refine zp ?_;refine zs jg h fun I h=>?_;refine zp ?_;refine z2 ?_;refine AW.ret ?_;refine qx (qi (qi (qx (qi ?_))));obtain⟨u39,u40,u41,hc0,h⟩:=h
 exact bRM results189 (wC (vV rfl underlying348 rfl jg hc0) (wC (afF rfl) vT)) ⟨_,_,_,_,rfl,h⟩
def xV(B:World)(ro:AH)(Q:Int->AH->Prop)(I:AH):=
 Q 0 I
def xW(B:World)(ro:AH)(a0:Option Addr)(u0 u1 u2:Nat)(Q:Int->AH->Prop)(I:AH):=
 ∃p3,a0=some p3/\
 ∃u4,qa ro I p3=some (Sl.v u4)/\
 ∃u5 u6,qg ro I ⟨u1,0,none⟩ 0 [.string u5,.int .i64 u6]/\
 nw ro I (.cells #[.string u5,.int .i64 u6] 128) fun u7 I=>
 awp prog ro (Builtin.append_ #[23,23] 23 #[Sl.v u4,Sl.v (⟨some ⟨u7,0,none⟩,1,1⟩:Sl)]) (fun v I=> ∃(u8:Sl),v=Sl.v u8/\
 ∃p9,a0=some p9/\
 stN p9 (fun I=>
  ∃u10,qa ro I ⟨u0,0,none⟩=some (.int .i64 u10)/\
  if¬(u10=4)then
  ∃p11,a0=some p11/\
  ∃u12,qa ro I (p11.add 1)=some (Sl.v u12)/\
  ∃u13 u14,qg ro I ⟨u2,0,none⟩ 0 [.int .i64 u13,.string u14]/\
  nw ro I (.cells #[.int .i64 u13,.string u14] 336) fun u15 I=>
  awp prog ro (Builtin.append_ #[258,258] 258 #[Sl.v u12,Sl.v (⟨some ⟨u15,0,none⟩,1,1⟩:Sl)]) (fun v I=> ∃(u16:Sl),v=Sl.v u16/\
   ∃p17,a0=some p17/\
   stN (p17.add 1) (fun I=>
   xV B ro Q I) [Sl.v u16] 0 I) I
  else
  xV B ro Q I) [Sl.v u8] 0 I) I
def xX(B:World)(ro:AH)(a0:Option Addr)(u0 u1 u2:Nat)(Q:Int->AH->Prop)(u3:Bool)(I:AH):=
 if u3=true then
 Q 81 I
 else
 xW B ro a0 u0 u1 u2 Q I
def vO(B:World)(ro:AH)(a0:Option Addr)(u0 u1 u2:Nat)(Q:Int->AH->Prop)(u3:Bool)(I:AH):=
 if u3=true then
 ∃p4,a0=some p4/\
 ∃p5,a0=some p5/\
 ∃u6,qa ro I (p4.add 3)=some (.pointer u6)/\
 ∃u7,qa ro I (p5.add 4)=some (.string u7)/\
 nw ro I (.cells #[.string u7] 9) fun u8 I=>
 aef B ro u6 (⟨some ⟨u8,0,none⟩,1,1⟩:Sl) I fun u9 u10 I=>
 nw ro I (.cells #[.int .i64 0,.int .i64 0] 66) fun u11 I=>
 stN ⟨u11,0,none⟩ (fun I=>
  ∃p12,a0=some p12/\
  ∃u13,qa ro I ⟨u11,0,none⟩=some (.int .i64 u13)/\
  ∃u14,qa ro I (p12.add 6)=some (.int .i64 u14)/\
  if u14<u13 then
  xX B ro a0 u0 u1 u2 Q true I
  else
  ∃p15,a0=some p15/\
  ∃u16,qa ro I ((⟨u11,0,none⟩:Addr).add 1)=some (.int .i64 u16)/\
  ∃u17,qa ro I ((p15.add 6).add 1)=some (.int .i64 u17)/\
  xX B ro a0 u0 u1 u2 Q (decide (u17<u16)) I) [.int .i64 u9,.int .i64 u10] 0 I
 else
 xW B ro a0 u0 u1 u2 Q I
def zE(B:World)(ro:AH)(a0:Option Addr)(u0 u1 u2:Nat)(Q:Int->AH->Prop)(u3:Int)(I:AH):=
 if¬(u3=0)then
 Q u3 I
 else
 ∃u4,qa ro I ⟨u0,0,none⟩=some (.int .i64 u4)/\
 if u4=1 then
 vO B ro a0 u0 u1 u2 Q true I
 else
 ∃u5,qa ro I ⟨u0,0,none⟩=some (.int .i64 u5)/\
 vO B ro a0 u0 u1 u2 Q (decide (u5=3)) I
def xY(B:World)(ro:AH)(a0:Option Addr)(u0 u1 u2:Nat)(Q:Int->AH->Prop)(u3:Int)(I:AH):=
 ∃p4,a0=some p4/\
 ∃u5,qa ro I (p4.add 3)=some (.pointer u5)/\
 ∃u6,qa ro I ((⟨u0,0,none⟩:Addr).add 1)=some (.string u6)/\
 ∃u7,qa ro I ((⟨u0,0,none⟩:Addr).add 2)=some (Sl.v u7)/\
 ∃u8,qa ro I ((⟨u0,0,none⟩:Addr).add 5)=some (.bool u8)/\
 jn B ro u5 u6 u7 u3 u8 I fun u9 u10 I=>
 stN ⟨u1,0,none⟩ (fun I=>
 ∃u11,qa ro I ⟨u1,0,none⟩=some (.string u11)/\
 stN ((⟨u2,0,none⟩:Addr).add 1) (fun I=>
  zE B ro a0 u0 u1 u2 Q u10 I) [.string u11] 0 I) [.string u9] 0 I
def kO(B:World)(ro:AH)(a0:Option Addr)(u0 u1 u2:Nat)(u3:Int)(Q:Int->AH->Prop)(u4:Bool)(I:AH):=
 if u4=true then
 zE B ro a0 u0 u1 u2 Q 72 I
 else
 zE B ro a0 u0 u1 u2 Q u3 I
def vP(B:World)(ro:AH)(a0:Option Addr)(u0 u1 u2 u3:Nat)(u4:Int)(Q:Int->AH->Prop)(u5:Bool)(I:AH):=
 if u5=true then
 ∃u6,qa ro I ((⟨u0,0,none⟩:Addr).add 3)=some (.int .i64 u6)/\
 ∃u7,qa ro I ⟨u3,0,none⟩=some (.int .i64 u7)/\
 kO B ro a0 u0 u1 u2 u4 Q (!(decide (u6=u7))) I
 else
 kO B ro a0 u0 u1 u2 u4 Q false I
def adg(B:World)(ro:AH)(a0:Option Addr)(a1_0:Int)(a1_1:ByteArray)(a1_2:Sl)(a1_3:Int)(a1_4 a1_5:Bool)(I:AH)(Q:Int->AH->Prop):=
 nw ro I (.cells #[.int .i64 a1_0,.string a1_1,Sl.v a1_2,.int .i64 a1_3,.bool a1_4,.bool a1_5] 72) fun u0 I=>
 ∃u1 u2 u3 u4 u5 u6,qg ro I ⟨u0,0,none⟩ 0 [.int .i64 u1,.string u2,Sl.v u3,.int .i64 u4,.bool u5,.bool u6]/\
 aay B ro a0 u1 u2 u3 u4 u5 u6 I fun u7 I=>
 if¬(u7=0)then
 Q u7 I
 else
 nw ro I (.cells #[.string ByteArray.empty,.int .i64 0] 128) fun u8 I=>
 ∃u9,qa ro I ⟨u0,0,none⟩=some (.int .i64 u9)/\
 ∃u10,qa ro I ((⟨u0,0,none⟩:Addr).add 1)=some (.string u10)/\
 nw ro I (.cells #[.int .i64 0,.string ByteArray.empty] 336) fun u11 I=>
 stN ⟨u11,0,none⟩ (fun I=>
 ∃u12,qa ro I ⟨u0,0,none⟩=some (.int .i64 u12)/\
 if u12=1 then
  ∃u13,qa ro I ((⟨u0,0,none⟩:Addr).add 4)=some (.bool u13)/\
  if u13=true then
  ∃p14,a0=some p14/\
  ∃u15,qa ro I (p14.add 5)=some (.int .i64 u15)/\
  xY B ro a0 u0 u8 u11 Q u15 I
  else
  xY B ro a0 u0 u8 u11 Q 0 I
 else
 if u12=2 then
  ∃p16,a0=some p16/\
  ∃u17,qa ro I (p16.add 3)=some (.pointer u17)/\
  ∃u18,qa ro I ((⟨u0,0,none⟩:Addr).add 1)=some (.string u18)/\
  ∃u19,qa ro I ((⟨u0,0,none⟩:Addr).add 3)=some (.int .i64 u19)/\
  jo B ro u17 u18 u19 I fun u20 I=>
  zE B ro a0 u0 u8 u11 Q u20 I
 else
 if u12=3 then
  ∃p21,a0=some p21/\
  ∃u22,qa ro I (p21.add 3)=some (.pointer u22)/\
  ∃u23,qa ro I ((⟨u0,0,none⟩:Addr).add 1)=some (.string u23)/\
  ∃u24,qa ro I ((⟨u0,0,none⟩:Addr).add 2)=some (Sl.v u24)/\
  ∃u25,qa ro I ((⟨u0,0,none⟩:Addr).add 3)=some (.int .i64 u25)/\
  acr B ro u22 u23 u24 u25 I fun u26 u27 I=>
  stN ((⟨u8,0,none⟩:Addr).add 1) (fun I=>
  zE B ro a0 u0 u8 u11 Q u27 I) [.int .i64 u26] 0 I
 else
 if u12=4 then
  nw ro I (.cells #[.int .i64 0,.int .i64 0,.int .i64 0,.int .i64 0] 26) fun u28 I=>
  ∃p29,a0=some p29/\
  ∃u30,qa ro I (p29.add 3)=some (.pointer u30)/\
  ∃u31,qa ro I ((⟨u0,0,none⟩:Addr).add 1)=some (.string u31)/\
  xj B ro u30 u31 I fun u32 u33 u34 u35 u36 u37 I=>
  stN ⟨u28,0,none⟩ (fun I=>
  if u37=0 then
   ∃u38,qa ro I ((⟨u0,0,none⟩:Addr).add 3)=some (.int .i64 u38)/\
   vP B ro a0 u0 u8 u11 u28 u37 Q (!(decide (u38=(-1)))) I
  else
  vP B ro a0 u0 u8 u11 u28 u37 Q false I) [.int .i64 u33,.int .i64 u34,.int .i64 u35,.int .i64 u36] 0 I
 else
 zE B ro a0 u0 u8 u11 Q 0 I) [.int .i64 u9,.string u10] 0 I
theorem ajo(h:Sep ro I->adg B ro a0 a1_0 a1_1 a1_2 a1_3 a1_4 a1_5 I Q):ada B ro a0 a1_0 a1_1 a1_2 a1_3 a1_4 a1_5 I Q:=by
 refine zb h func234 ntmps234 fun h=>?_;unfold adg at h;refine z3 ?_;refine zA (wI rfl rfl) h fun u0 h=>?_;refine zp ?_;refine z2 (AW.seq (z3 ?_))
 refine zp ?_;obtain⟨u1,u2,u3,u4,u5,u6,hc,h⟩:=h
 refine zl (wY rfl underlying72 rfl ahO rfl hc ?_)
 refine zc func272 h ?_;rintro v I ⟨u7,rfl,h⟩;refine zp ?_;refine z4 ?_;iterate 2 refine zp ?_
 refine z2 ?_;refine AW.iff rfl (qu decide_eq_true_iff) h (fun h=>?_) (fun h=>?_)
 .refine z3 ?_;iterate 2 refine zp ?_
  refine z2 ?_;refine AW.ret ?_;refine qi ?_;exact bR1 results234 rfl ⟨_,rfl,h⟩
 refine AW.skip ?_;refine qd (z3 ?_);refine zA (qY rfl adM) h fun u8 h=>?_;refine z4 ?_;refine zp ?_;refine z4 ?_;refine zf underlying72 ty3 ?_;refine zL underlying3 h fun u9 h=>?_;refine zf underlying72 ty9 ?_;refine zL underlying9 h fun u10 h=>?_;refine zm (wz (vs:=[(0,.int .i64 u9),(1,.string u10)]) (cs:= #[.int .i64 u9,.string u10]) rfl underlying336 abq arL rfl rfl) ?_
 refine zA (qY rfl abq) h fun u11 h=>?_;refine zs abq h fun I h=>?_;refine z2 ?_;refine AW.seqJ (fun fr I=> ∃(u12:Int),qo [(0,.pointer a0),(3,.pointer (some ⟨u0,0,none⟩)),(6,.pointer (some ⟨u8,0,none⟩)),(8,.pointer (some ⟨u11,0,none⟩)),(7,.int .i64 u12)] fr/\zE B ro a0 u0 u8 u11 Q u12 I) ?_ ?_
 .rintro fr I ⟨u12,hl,h⟩;refine AW.weaken ?_ hl (HLe.refl _)
  unfold zE at h;refine AW.seq (z3 ?_);iterate 2 refine zp ?_
  refine z2 ?_;refine AW.iff rfl (qu decide_eq_true_iff) h (fun h=>?_) (fun h=>?_)
  .refine z3 ?_;iterate 2 refine zp ?_
   refine z2 ?_;refine AW.ret ?_;refine qi ?_;exact bR1 results234 rfl ⟨_,rfl,h⟩
  refine AW.skip ?_;refine qd ?_;refine AW.seqJ (fun fr I=>qo [(0,.pointer a0),(3,.pointer (some ⟨u0,0,none⟩)),(6,.pointer (some ⟨u8,0,none⟩)),(8,.pointer (some ⟨u11,0,none⟩))] fr/\xW B ro a0 u0 u8 u11 Q I) ?_ ?_
  .rintro fr I ⟨hl,h⟩;refine AW.weaken ?_ hl (HLe.refl _)
   unfold xW at h;refine AW.seq ?_;refine AW.drawn0 (fun i=>([0,0,0,0,0,3,3,1,2,0,0,0,2]:List Nat).getD i 2) [(6,7),(6,8)] [0,1,2,3,4,5,6,7,8,9,10,11,12] mixed (by decide+kernel) ?_
   iterate 2 refine zq ?_
   obtain⟨p13,hc,h⟩:=h
   refine Dp rfl rfl rfl rfl (qr rfl (by rw[<-hc];try rfl)) ?_
   refine zg underlying410 jg ?_;refine zg underlying348 aee ?_;obtain⟨u14,hc,h⟩:=h
   refine Dr rfl rfl rfl rfl (qA rfl underlying23 rfl rfl hc) ?_
   obtain⟨u15,u16,hc,h⟩:=h
   refine Dr rfl rfl rfl rfl (xH rfl underlying128 rfl adM rfl hc) ?_
   refine Da rfl rfl rfl rfl (zR (vs:=[(0,.agg #[.string u15,.int .i64 u16])]) (cs:= #[.string u15,.int .i64 u16]) rfl underlying23 adM (by decide) rfl rfl) fun u17 g1 g2=>?_
   replace h:=h u17 g1 g2
   refine Dg rfl rfl rfl rfl (je (s:=Builtin.append_ #[23,23] 23 #[Sl.v u14,Sl.v (⟨some ⟨u17,0,none⟩,1,1⟩:Sl)]) rfl rfl (fun _=>rfl) (qm _ h ?_))
   rintro v I ⟨u18,rfl,h⟩;obtain⟨p19,hc,h⟩:=h
   refine Dp rfl rfl rfl rfl (qr rfl (by rw[<-hc];try rfl)) ?_
   refine zg underlying410 jg ?_;refine zg underlying348 aee ?_;refine Dg rfl rfl rfl rfl (yR rfl aee rfl rfl rfl rfl (zD h fun I h=>?_))
   refine wH ?_
   refine qd ?_;refine AW.seqJ (fun fr I=>qo [] fr/\xV B ro Q I) ?_ ?_
   .rintro fr I ⟨hl,h⟩;refine AW.weaken ?_ hl (HLe.refl _)
    unfold xV at h;refine z3 ?_;refine zp ?_;refine z2 ?_;refine AW.ret ?_;exact bR1 results234 rfl ⟨_,rfl,h⟩
   refine z3 ?_;refine zf underlying72 ty3 ?_;refine zL underlying3 h fun u20 h=>?_;refine zp ?_;refine z2 ?_;refine AW.iff rfl (qu decide_eq_true_iff) h (fun h=>?_) (fun h=>?_)
   rotate_left
   .refine AW.skip ?_;refine qd ?_;exact⟨FL,h⟩
   refine AW.drawn0 (fun i=>([0,0,0,0,0,3,3,1,2,0,0,0,2]:List Nat).getD i 2) [(6,7),(6,8)] [0,1,2,3,4,5,6,7,8,9,10,11,12] mixed (by decide+kernel) ?_
   iterate 2 refine zq ?_
   obtain⟨p21,hc,h⟩:=h
   refine Dp rfl rfl rfl rfl (qr rfl (by rw[<-hc];try rfl)) ?_
   refine zg underlying410 jg ?_;refine zg underlying348 agH ?_;obtain⟨u22,hc,h⟩:=h
   refine Dr rfl rfl rfl rfl (qA rfl underlying258 rfl rfl hc) ?_
   obtain⟨u23,u24,hc,h⟩:=h
   refine Dr rfl rfl rfl rfl (xH rfl underlying336 rfl abq rfl hc) ?_
   refine Da rfl rfl rfl rfl (zR (vs:=[(0,.agg #[.int .i64 u23,.string u24])]) (cs:= #[.int .i64 u23,.string u24]) rfl underlying258 abq (by decide) rfl rfl) fun u25 g1 g2=>?_
   replace h:=h u25 g1 g2
   refine Dg rfl rfl rfl rfl (je (s:=Builtin.append_ #[258,258] 258 #[Sl.v u22,Sl.v (⟨some ⟨u25,0,none⟩,1,1⟩:Sl)]) rfl rfl (fun _=>rfl) (qm _ h ?_))
   rintro v I ⟨u26,rfl,h⟩;obtain⟨p27,hc,h⟩:=h
   refine Dp rfl rfl rfl rfl (qr rfl (by rw[<-hc];try rfl)) ?_
   refine zg underlying410 jg ?_;refine zg underlying348 agH ?_;refine Dg rfl rfl rfl rfl (yR rfl agH rfl rfl rfl rfl (zD h fun I h=>?_))
   refine wH ?_
   refine qd ?_;exact⟨FL,h⟩
  refine z3 ?_;refine zf underlying72 ty3 ?_;refine zL underlying3 h fun u28 h=>?_;iterate 2 refine zp ?_
  refine qO 4 (decide (u28=1)) decide_eq_true_iff h (fun fr I=> ∃(u29:Bool),qo [(0,.pointer a0),(3,.pointer (some ⟨u0,0,none⟩)),(6,.pointer (some ⟨u8,0,none⟩)),(8,.pointer (some ⟨u11,0,none⟩)),(117,.bool u29)] fr/\vO B ro a0 u0 u8 u11 Q u29 I) ?_ ?_ ?_
  .intro h e3 hk3;iterate 3 refine zn e3 ?_
   refine zk e3 ?_;exact hk3 _ _ ⟨_,FL,h⟩
  .intro h e3 hk3;refine qX (wm rfl underlying72 rfl ty3 (by decide) rfl) rfl rfl rfl rfl e3 ?_
   obtain⟨u30,hc,h⟩:=h
   refine Lyb rfl rfl rfl rfl e3 (vG rfl underlying3 rfl rfl hc ?_)
   refine zy e3 ?_;refine zk e3 ?_;exact hk3 _ _ ⟨_,FL,h⟩
  rintro fr I ⟨u29,hl,h⟩;unfold vO at h;refine Lfr hl ?_
  refine z2 ?_;refine zj h (fun h=>?_) fun h=>?_
  rotate_left
  .refine AW.skip ?_;refine qd ?_;exact⟨FL,h⟩
  refine AW.seq ?_;refine AW.drawn0 (fun i=>([0,0,0,3,0,0,0,3,1,2,1,2]:List Nat).getD i 2) [(7,8),(7,9)] [0,1,2,4,5,6,3,7,8,9,10,11] mixed (by decide+kernel) ?_
  refine zq ?_;obtain⟨p31,hc,h⟩:=h
  refine Dp rfl rfl rfl rfl (qr rfl (by rw[<-hc];try rfl)) ?_
  refine zg underlying410 ac3 ?_;refine zq ?_;obtain⟨p32,hc,h⟩:=h
  refine Dp rfl rfl rfl rfl (qr rfl (by rw[<-hc];try rfl)) ?_
  refine zg underlying410 ty9 ?_;obtain⟨u33,hc,h⟩:=h
  refine Dr rfl rfl rfl rfl (qA rfl underlying61 rfl rfl hc) ?_
  obtain⟨u34,hc,h⟩:=h
  refine Dr rfl rfl rfl rfl (qA rfl underlying9 rfl rfl hc) ?_
  refine Da rfl rfl rfl rfl (zR (vs:=[(0,.string u34)]) (cs:= #[.string u34]) rfl underlying27 ty9 (by decide) rfl rfl) fun u35 g1 g2=>?_
  replace h:=h u35 g1 g2
  refine Dg rfl rfl rfl rfl (qF rfl func26 rfl rfl rfl (qc.mono h ?_))
  rintro v I ⟨u36,u37,rfl,h⟩;refine Da rfl rfl rfl rfl (qY rfl acl) fun u38 g1 g2=>?_
  replace h:=h u38 g1 g2
  refine Dg rfl rfl rfl rfl (yR rfl acl rfl rfl rfl rfl (zD h fun I h=>?_))
  refine wH ?_
  refine qd ?_;refine AW.seqJ (fun fr I=> ∃(u39:Bool),qo [(0,.pointer a0),(3,.pointer (some ⟨u0,0,none⟩)),(6,.pointer (some ⟨u8,0,none⟩)),(8,.pointer (some ⟨u11,0,none⟩)),(145,.bool u39)] fr/\xX B ro a0 u0 u8 u11 Q u39 I) ?_ ?_
  .rintro fr I ⟨u39,hl,h⟩;refine AW.weaken ?_ hl (HLe.refl _)
   unfold xX at h;refine zj h (fun h=>?_) fun h=>?_
   rotate_left
   .refine AW.skip ?_;refine qd ?_;exact⟨FL,h⟩
   refine z3 ?_;refine zp ?_;refine z2 ?_;refine AW.ret ?_;refine qi ?_;exact bR1 results234 rfl ⟨_,rfl,h⟩
  refine AW.drawn0 (fun i=>([0,3,0,0,0,0,3,0,0,0,3,0,0,0,0,3,0,0]:List Nat).getD i 2) [] [0,2,3,4,5,1,6,7,8,9,11,12,13,14,10,15,16,17] mixed (by decide+kernel) ?_
  refine zg underlying66 ty3 ?_;refine zq ?_;obtain⟨p40,hc,h⟩:=h
  refine Dp rfl rfl rfl rfl (qr rfl (by rw[<-hc];try rfl)) ?_
  refine zg underlying410 acl ?_;refine zg underlying66 ty3 ?_;obtain⟨u41,hc,h⟩:=h
  refine Dr rfl rfl rfl rfl (qA rfl underlying3 rfl rfl hc) ?_
  obtain⟨u42,hc,h⟩:=h
  refine Dr rfl rfl rfl rfl (qA rfl underlying3 rfl rfl hc) ?_
  iterate 2 refine zq ?_
  refine aeU (decide (u42<u41)) decide_eq_true_iff h ?_ ?_
  .intro h e8
   refine Dpn rfl rfl rfl rfl rfl (.inl (by rw[e8];try rfl)) rfl ?_
   refine Dpn rfl rfl rfl rfl rfl (.inl (by rw[e8];try rfl)) rfl ?_
   refine Dpn rfl rfl rfl rfl rfl (.inl (by rw[e8];try rfl)) rfl ?_
   refine Dpn rfl rfl rfl rfl rfl (.inl (by rw[e8];try rfl)) rfl ?_
   refine Dpn rfl rfl rfl rfl rfl (.inl (by rw[e8];try rfl)) rfl ?_
   refine Drn rfl rfl rfl rfl rfl (.inl (by rw[e8];try rfl)) rfl ?_
   refine Drn rfl rfl rfl rfl rfl (.inl (by rw[e8];try rfl)) rfl ?_
   refine Dpn rfl rfl rfl rfl rfl (.inl (by rw[e8];try rfl)) rfl ?_
   refine Dp rfl rfl rfl rfl (yH rfl (evb e8) rfl) ?_
   refine wH ?_
   refine qd ?_;exact⟨_,FL,h⟩
  intro h e8
  refine Dpy rfl rfl rfl rfl rfl e8 rfl (wm rfl underlying66 rfl ty3 (by decide) rfl) ?_
  refine Dpy rfl rfl rfl rfl rfl e8 rfl (jl rfl rfl) ?_
  obtain⟨p43,hc,h⟩:=h
  refine Dpy rfl rfl rfl rfl rfl e8 rfl (qr rfl (by rw[<-hc];try rfl)) ?_
  refine Dpy rfl rfl rfl rfl rfl e8 rfl (wm rfl underlying410 rfl acl (by decide) rfl) ?_
  refine Dpy rfl rfl rfl rfl rfl e8 rfl (wm rfl underlying66 rfl ty3 (by decide) rfl) ?_
  obtain⟨u44,hc,h⟩:=h
  refine Dry rfl rfl rfl rfl rfl e8 rfl (qA rfl underlying3 rfl rfl hc) ?_
  obtain⟨u45,hc,h⟩:=h
  refine Dry rfl rfl rfl rfl rfl e8 rfl (qA rfl underlying3 rfl rfl hc) ?_
  refine Dpy rfl rfl rfl rfl rfl e8 rfl (ajI rfl rfl rfl) ?_
  refine Dp rfl rfl rfl rfl (pF rfl (evb e8) rfl) ?_
  refine wH ?_
  refine qd ?_;exact⟨_,FL,h⟩
 refine z3 ?_;refine zf underlying72 ty3 ?_;refine zL underlying3 h fun u46 h=>?_;refine z2 (AW.block (z3 ?_))
 iterate 2 refine zp ?_
 refine z2 ?_;refine zi h (fun h=>?_) fun h=>?_
 .refine z3 ?_;refine zp ?_;refine z2 ?_;refine AW.seqJ (fun fr I=> ∃(u47:Int),qo [(0,.pointer a0),(3,.pointer (some ⟨u0,0,none⟩)),(6,.pointer (some ⟨u8,0,none⟩)),(8,.pointer (some ⟨u11,0,none⟩)),(9,.int .i64 u47)] fr/\xY B ro a0 u0 u8 u11 Q u47 I) ?_ ?_
  rotate_left
  .refine z3 ?_;refine zf underlying72 ty4 ?_;refine zL underlying4 h fun u48 h=>?_;refine z2 ?_;refine zj h (fun h=>?_) fun h=>?_
   rotate_left
   .refine AW.skip ?_;refine qd ?_;exact⟨_,FL,h⟩
   refine AW.reg ?_;refine zp ?_;refine zN h fun p49 h=>?_;refine zf underlying410 ty3 ?_;refine zL underlying3 h fun u50 h=>?_;refine zp ?_;refine z2 ?_;exact⟨_,FL,h⟩
  rintro fr I ⟨u47,hl,h⟩;refine AW.weaken ?_ hl (HLe.refl _)
  unfold xY at h;refine AW.seq ?_;refine AW.drawn0 (fun i=>([0,0,0,3,0,3,0,3,0,0,3,2,0,0,0,0,2,0]:List Nat).getD i 2) [] [0,1,2,4,6,8,9,3,5,7,10,11,12,13,14,15,16,17] mixed (by decide+kernel) ?_
  refine zq ?_;obtain⟨p51,hc,h⟩:=h
  refine Dp rfl rfl rfl rfl (qr rfl (by rw[<-hc];try rfl)) ?_
  refine zg underlying410 ac3 ?_;refine zg underlying72 ty9 ?_;refine zg underlying72 wO ?_;refine zq ?_;refine zg underlying72 ty4 ?_;obtain⟨u52,hc,h⟩:=h
  refine Dr rfl rfl rfl rfl (qA rfl underlying61 rfl rfl hc) ?_
  obtain⟨u53,hc,h⟩:=h
  refine Dr rfl rfl rfl rfl (qA rfl underlying9 rfl rfl hc) ?_
  obtain⟨u54,hc,h⟩:=h
  refine Dr rfl rfl rfl rfl (qA rfl underlying24 rfl rfl hc) ?_
  obtain⟨u55,hc,h⟩:=h
  refine Dr rfl rfl rfl rfl (qA rfl underlying4 rfl rfl hc) ?_
  refine Dg rfl rfl rfl rfl (qF rfl func122 rfl rfl rfl (qc.mono h ?_))
  rintro v I ⟨u56,u57,rfl,h⟩;iterate 3 refine zq ?_
  refine zg underlying128 ty9 ?_;refine Dg rfl rfl rfl rfl (yR rfl ty9 rfl rfl rfl rfl (zD h fun I h=>?_))
  refine zq ?_;refine wH ?_
  refine qd (AW.reg ?_);refine zf underlying128 ty9 ?_;refine zL underlying9 h fun u58 h=>?_;refine zf underlying336 ty9 ?_;refine zs ty9 h fun I h=>?_;refine ju (qD (qd ?_));exact⟨_,FL,h⟩
 refine z3 ?_;iterate 2 refine zp ?_
 refine z2 ?_;refine zi h (fun h=>?_) fun h=>?_
 .refine AW.drawn0 (fun i=>([0,0,0,3,0,3,0,3,2,0]:List Nat).getD i 2) [] [0,1,2,4,6,3,5,7,8,9] mixed (by decide+kernel) ?_
  refine zq ?_;obtain⟨p59,hc,h⟩:=h
  refine Dp rfl rfl rfl rfl (qr rfl (by rw[<-hc];try rfl)) ?_
  refine zg underlying410 ac3 ?_;refine zg underlying72 ty9 ?_;refine zg underlying72 ty3 ?_;obtain⟨u60,hc,h⟩:=h
  refine Dr rfl rfl rfl rfl (qA rfl underlying61 rfl rfl hc) ?_
  obtain⟨u61,hc,h⟩:=h
  refine Dr rfl rfl rfl rfl (qA rfl underlying9 rfl rfl hc) ?_
  obtain⟨u62,hc,h⟩:=h
  refine Dr rfl rfl rfl rfl (qA rfl underlying3 rfl rfl hc) ?_
  refine Dg rfl rfl rfl rfl (qF rfl func184 rfl rfl rfl (qc.mono h ?_))
  rintro v I ⟨u63,rfl,h⟩;refine zq ?_;refine wH ?_
  refine qD (qd ?_);exact⟨_,FL,h⟩
 refine z3 ?_;iterate 2 refine zp ?_
 refine z2 ?_;refine zi h (fun h=>?_) fun h=>?_
 .refine AW.drawn0 (fun i=>([0,0,0,3,0,3,0,3,0,3,2,0,0,0,0,2,0]:List Nat).getD i 2) [] [0,1,2,4,6,8,3,5,7,9,10,11,12,13,14,15,16] mixed (by decide+kernel) ?_
  refine zq ?_;obtain⟨p64,hc,h⟩:=h
  refine Dp rfl rfl rfl rfl (qr rfl (by rw[<-hc];try rfl)) ?_
  refine zg underlying410 ac3 ?_;refine zg underlying72 ty9 ?_;refine zg underlying72 wO ?_;refine zg underlying72 ty3 ?_;obtain⟨u65,hc,h⟩:=h
  refine Dr rfl rfl rfl rfl (qA rfl underlying61 rfl rfl hc) ?_
  obtain⟨u66,hc,h⟩:=h
  refine Dr rfl rfl rfl rfl (qA rfl underlying9 rfl rfl hc) ?_
  obtain⟨u67,hc,h⟩:=h
  refine Dr rfl rfl rfl rfl (qA rfl underlying24 rfl rfl hc) ?_
  obtain⟨u68,hc,h⟩:=h
  refine Dr rfl rfl rfl rfl (qA rfl underlying3 rfl rfl hc) ?_
  refine Dg rfl rfl rfl rfl (qF rfl func273 rfl rfl rfl (qc.mono h ?_))
  rintro v I ⟨u69,u70,rfl,h⟩;iterate 3 refine zq ?_
  refine zg underlying128 ty3 ?_;refine Dg rfl rfl rfl rfl (yR rfl ty3 rfl rfl rfl rfl (zD h fun I h=>?_))
  refine zq ?_;refine wH ?_
  refine qD (qd ?_);exact⟨_,FL,h⟩
 refine z3 ?_;iterate 2 refine zp ?_
 refine z2 ?_;refine zi h (fun h=>?_) fun h=>?_
 rotate_left
 .refine AW.skip ?_;refine qD (qd ?_);exact⟨_,FL,h⟩
 refine z3 ?_;refine zA (qY rfl wA) h fun u71 h=>?_;refine z2 (AW.seq ?_)
 refine AW.drawn0 (fun i=>([0,0,0,3,0,3,2,0,0,0,0,2,0]:List Nat).getD i 2) [] [0,1,2,4,3,5,6,7,8,9,10,11,12] mixed (by decide+kernel) ?_
 refine zq ?_;obtain⟨p72,hc,h⟩:=h
 refine Dp rfl rfl rfl rfl (qr rfl (by rw[<-hc];try rfl)) ?_
 refine zg underlying410 ac3 ?_;refine zg underlying72 ty9 ?_;obtain⟨u73,hc,h⟩:=h
 refine Dr rfl rfl rfl rfl (qA rfl underlying61 rfl rfl hc) ?_
 obtain⟨u74,hc,h⟩:=h
 refine Dr rfl rfl rfl rfl (qA rfl underlying9 rfl rfl hc) ?_
 refine Dg rfl rfl rfl rfl (qF rfl func25 rfl rfl rfl (qc.mono h ?_))
 rintro v I ⟨u75,u76,u77,u78,u79,u80,rfl,h⟩;iterate 4 refine zq ?_
 refine Dg rfl rfl rfl rfl (yR rfl wA rfl rfl rfl rfl (zD h fun I h=>?_))
 refine zq ?_;refine wH ?_
 refine qd (z3 ?_);iterate 3 refine zp ?_
 refine qO 4 (decide (u80=0)) decide_eq_true_iff h (fun fr I=> ∃(u81:Bool),qo [(0,.pointer a0),(3,.pointer (some ⟨u0,0,none⟩)),(6,.pointer (some ⟨u8,0,none⟩)),(7,.int .i64 u80),(8,.pointer (some ⟨u11,0,none⟩)),(10,.pointer (some ⟨u71,0,none⟩)),(99,.bool u81)] fr/\vP B ro a0 u0 u8 u11 u71 u80 Q u81 I) ?_ ?_ ?_
 .intro h e2 hk2;refine qX (wm rfl underlying72 rfl ty3 (by decide) rfl) rfl rfl rfl rfl e2 ?_
  obtain⟨u82,hc,h⟩:=h
  refine Lyb rfl rfl rfl rfl e2 (vG rfl underlying3 rfl rfl hc ?_)
  refine zy e2 ?_;refine zk e2 ?_;exact hk2 _ _ ⟨_,FL,h⟩
 .intro h e2 hk2;iterate 3 refine zn e2 ?_
  refine zk e2 ?_;exact hk2 _ _ ⟨_,FL,h⟩
 rintro fr I ⟨u81,hl,h⟩;unfold vP at h;refine Lfr hl ?_
 refine zp ?_;refine qO 6 u81 Iff.rfl h (fun fr I=> ∃(u83:Bool),qo [(0,.pointer a0),(3,.pointer (some ⟨u0,0,none⟩)),(6,.pointer (some ⟨u8,0,none⟩)),(7,.int .i64 u80),(8,.pointer (some ⟨u11,0,none⟩)),(106,.bool u83)] fr/\kO B ro a0 u0 u8 u11 u80 Q u83 I) ?_ ?_ ?_
 .intro h e7 hk7;refine qX (wm rfl underlying72 rfl ty3 (by decide) rfl) rfl rfl rfl rfl e7 ?_
  obtain⟨u84,hc,h⟩:=h
  refine Lyb rfl rfl rfl rfl e7 (vG rfl underlying3 rfl rfl hc ?_)
  refine qX (wm rfl underlying26 rfl ty3 (by decide) rfl) rfl rfl rfl rfl e7 ?_
  obtain⟨u85,hc,h⟩:=h
  refine Lyb rfl rfl rfl rfl e7 (vG rfl underlying3 rfl rfl hc ?_)
  refine zy e7 ?_;refine zk e7 ?_;exact hk7 _ _ ⟨_,FL,h⟩
 .intro h e7 hk7;iterate 5 refine zn e7 ?_
  refine zk e7 ?_;exact hk7 _ _ ⟨_,FL,h⟩
 rintro fr I ⟨u83,hl,h⟩;unfold kO at h;refine Lfr hl ?_
 refine z2 ?_;refine zj h (fun h=>?_) fun h=>?_
 rotate_left
 .refine AW.skip ?_;refine qD (qd ?_);exact⟨_,FL,h⟩
 refine AW.reg ?_;refine zp ?_;refine ju (qD (qd ?_));exact⟨_,FL,h⟩
def zU(B:World)(ro:AH)(Q:Int->AH->Prop)(u0:Bool)(I:AH):=
 if u0=true then
 Q 82 I
 else
 Q 0 I
def wE(B:World)(ro:AH)(a0:Option Addr)(u0:Nat)(u1:Sl)(u2:Int)(Q:Int->AH->Prop)(u3:Bool)(I:AH):=
 if u3=true then
 Q 80 I
 else
 if¬(u2=0)then
 Q u2 I
 else
 if(u1.len:Int)=0 then
 zU B ro Q true I
 else
 ∃p4,u1.a=some p4/\(0:Int)<=0/\0<(u1.len:Int)/\
 ∃p5,a0=some p5/\
 ∃u6,qa ro I (p4.add (Int.toNat 0*1))=some (.string u6)/\
 ∃u7,qa ro I (p5.add 4)=some (.string u7)/\
 if¬(u6=u7)then
 zU B ro Q true I
 else
 if(u1.len:Int)=1 then
 ∃u8,qa ro I ⟨u0,0,none⟩=some (.int .i64 u8)/\
 zU B ro Q (decide (u8<=2)) I
 else
 zU B ro Q false I
def aaG(B:World)(ro:AH)(a0:Option Addr)(a1_0:Int)(a1_1:ByteArray)(a1_2:Sl)(a1_3:Int)(a1_4 a1_5:Bool)(I:AH)(Q:Int->AH->Prop):=
 nw ro I (.cells #[.int .i64 a1_0,.string a1_1,Sl.v a1_2,.int .i64 a1_3,.bool a1_4,.bool a1_5] 72) fun u0 I=>
 ∃u1,qa ro I ((⟨u0,0,none⟩:Addr).add 1)=some (.string u1)/\
 vp B ro u1 I fun u2 u3 I=>
 ∃u4,qa ro I ⟨u0,0,none⟩=some (.int .i64 u4)/\
 if u4<1 then
 wE B ro a0 u0 u2 u3 Q true I
 else
 ∃u5,qa ro I ⟨u0,0,none⟩=some (.int .i64 u5)/\
 wE B ro a0 u0 u2 u3 Q (decide (4<u5)) I
theorem ag3(h:Sep ro I->aaG B ro a0 a1_0 a1_1 a1_2 a1_3 a1_4 a1_5 I Q):aay B ro a0 a1_0 a1_1 a1_2 a1_3 a1_4 a1_5 I Q:=by
 refine zb h func272 ntmps272 fun h=>?_;unfold aaG at h;refine z3 ?_;refine zA (wI rfl rfl) h fun u0 h=>?_;refine zp ?_;refine z4 ?_;refine zf underlying72 ty9 ?_;refine zL underlying9 h fun u1 h=>?_;refine zc func134 h ?_;rintro v I ⟨u2,u3,rfl,h⟩;iterate 5 refine zp ?_
 refine z2 (AW.seq (AW.block (z3 ?_)))
 refine zf underlying72 ty3 ?_;refine zL underlying3 h fun u4 h=>?_;iterate 2 refine zp ?_
 refine qO 4 (decide (u4<1)) decide_eq_true_iff h (fun fr I=> ∃(u5:Bool),qo [(0,.pointer a0),(3,.pointer (some ⟨u0,0,none⟩)),(5,Sl.v u2),(6,.int .i64 u3),(21,.bool u5)] fr/\wE B ro a0 u0 u2 u3 Q u5 I) ?_ ?_ ?_
 .intro h e3 hk3;iterate 3 refine zn e3 ?_
  refine zk e3 ?_;exact hk3 _ _ ⟨_,FL,h⟩
 .intro h e3 hk3;refine qX (wm rfl underlying72 rfl ty3 (by decide) rfl) rfl rfl rfl rfl e3 ?_
  obtain⟨u6,hc,h⟩:=h
  refine Lyb rfl rfl rfl rfl e3 (vG rfl underlying3 rfl rfl hc ?_)
  refine zy e3 ?_;refine zk e3 ?_;exact hk3 _ _ ⟨_,FL,h⟩
 rintro fr I ⟨u5,hl,h⟩;unfold wE at h;refine Lfr hl ?_
 refine zp ?_;refine z2 ?_;refine zj h (fun h=>?_) fun h=>?_
 .refine z3 ?_;refine zp ?_;refine z2 ?_;refine AW.ret ?_;refine qx (qi ?_);exact bR1 results272 rfl ⟨_,rfl,h⟩
 refine z3 ?_;iterate 3 refine zp ?_
 refine z2 ?_;refine AW.iff rfl (qu decide_eq_true_iff) h (fun h=>?_) (fun h=>?_)
 .refine z3 ?_;iterate 2 refine zp ?_
  refine z2 ?_;refine AW.ret ?_;refine qx (qi ?_);exact bR1 results272 rfl ⟨_,rfl,h⟩
 refine AW.seqJ (fun fr I=> ∃(u7:Bool),qo [(26,.bool u7)] fr/\zU B ro Q u7 I) ?_ ?_
 .rintro fr I ⟨u7,hl,h⟩;refine AW.weaken ?_ hl (HLe.refl _)
  unfold zU at h;refine zj h (fun h=>?_) fun h=>?_
  .refine z3 ?_;refine zp ?_;refine z2 ?_;refine AW.ret ?_;refine qx (qi ?_);exact bR1 results272 rfl ⟨_,rfl,h⟩
  refine AW.skip ?_;refine qD (qd (z3 ?_));refine zp ?_;refine z2 ?_;refine AW.ret ?_;exact bR1 results272 rfl ⟨_,rfl,h⟩
 refine AW.drawn0 (fun i=>([0,0,0,0,0,0,3,0,0,0,3,0,0,0,0,0,0,0,0,3,0,0,0,0]:List Nat).getD i 2) [] [0,1,2,3,4,5,7,8,9,6,10,11,12,13,14,15,16,17,18,19,20,21,22,23] mixed (by decide+kernel) ?_
 refine zq ?_;refine Dp rfl rfl rfl rfl (qT rfl rfl underlying27 rfl rfl) ?_
 iterate 2 refine zq ?_
 refine aeU (decide ((u2.len:Int)=0)) decide_eq_true_iff h ?_ ?_
 .intro h e3
  refine Dpn rfl rfl rfl rfl rfl (.inl (by rw[e3];try rfl)) rfl ?_
  refine Dpn rfl rfl rfl rfl rfl (.inl (by rw[e3];try rfl)) rfl ?_
  refine Dpn rfl rfl rfl rfl rfl (.inl (by rw[e3];try rfl)) rfl ?_
  refine Dpn rfl rfl rfl rfl rfl (.inl (by rw[e3];try rfl)) rfl ?_
  refine Dpn rfl rfl rfl rfl rfl (.inl (by rw[e3];try rfl)) rfl ?_
  refine Drn rfl rfl rfl rfl rfl (.inl (by rw[e3];try rfl)) rfl ?_
  refine Drn rfl rfl rfl rfl rfl (.inl (by rw[e3];try rfl)) rfl ?_
  refine Dpn rfl rfl rfl rfl rfl (.inl (by rw[e3];try rfl)) rfl ?_
  refine Dp rfl rfl rfl rfl (yH rfl (evb e3) rfl) ?_
  refine zq ?_;refine Dpn rfl rfl rfl rfl rfl (.inl rfl) rfl ?_
  refine Dpn rfl rfl rfl rfl rfl (.inl rfl) rfl ?_
  refine Dpn rfl rfl rfl rfl rfl (.inl rfl) rfl ?_
  refine Dpn rfl rfl rfl rfl rfl (.inl rfl) rfl ?_
  refine Dpn rfl rfl rfl rfl rfl (.inr rfl) rfl ?_
  refine Drn rfl rfl rfl rfl rfl (.inr rfl) rfl ?_
  refine Dpn rfl rfl rfl rfl rfl (.inr rfl) rfl ?_
  refine Dpn rfl rfl rfl rfl rfl (.inl rfl) rfl ?_
  refine Dp rfl rfl rfl rfl (yH rfl (evb rfl) rfl) ?_
  refine zq ?_;refine wH ?_
  refine qd ?_;exact⟨_,FL,h⟩
 intro h e3
 refine Dpy rfl rfl rfl rfl rfl e3 rfl (jl rfl rfl) ?_
 obtain⟨p8,ha,h0,h1,h⟩:=h
 refine Dpy rfl rfl rfl rfl rfl e3 rfl (vv rfl underlying27 ty9 (ixL rfl ha) rfl h0 h1) ?_
 refine Dpy rfl rfl rfl rfl rfl e3 rfl (jl rfl rfl) ?_
 obtain⟨p9,hc,h⟩:=h
 refine Dpy rfl rfl rfl rfl rfl e3 rfl (qr rfl (by rw[<-hc];try rfl)) ?_
 refine Dpy rfl rfl rfl rfl rfl e3 rfl (wm rfl underlying410 rfl ty9 (by decide) rfl) ?_
 obtain⟨u10,hc,h⟩:=h
 refine Dry rfl rfl rfl rfl rfl e3 rfl (qA rfl underlying9 rfl rfl hc) ?_
 obtain⟨u11,hc,h⟩:=h
 refine Dry rfl rfl rfl rfl rfl e3 rfl (qA rfl underlying9 rfl rfl hc) ?_
 refine Dpy rfl rfl rfl rfl rfl e3 rfl (ajL rfl rfl rfl) ?_
 refine Dp rfl rfl rfl rfl (pF rfl (evb e3) rfl) ?_
 refine zq ?_;refine aeU (!(decide (u10=u11))) (qu decide_eq_true_iff) h ?_ ?_
 .intro h e13
  refine Dpn rfl rfl rfl rfl rfl (.inl (by rw[e13];try rfl)) rfl ?_
  refine Dpn rfl rfl rfl rfl rfl (.inl (by rw[e13];try rfl)) rfl ?_
  refine Dpn rfl rfl rfl rfl rfl (.inl (by rw[e13];try rfl)) rfl ?_
  refine Dpn rfl rfl rfl rfl rfl (.inl (by rw[e13];try rfl)) rfl ?_
  refine Dpn rfl rfl rfl rfl rfl (.inr rfl) rfl ?_
  refine Drn rfl rfl rfl rfl rfl (.inr rfl) rfl ?_
  refine Dpn rfl rfl rfl rfl rfl (.inr rfl) rfl ?_
  refine Dpn rfl rfl rfl rfl rfl (.inl (by rw[e13];try rfl)) rfl ?_
  refine Dp rfl rfl rfl rfl (yH rfl (evb e13) rfl) ?_
  refine zq ?_;refine wH ?_
  refine qd ?_;exact⟨_,FL,h⟩
 intro h e13
 refine Dpy rfl rfl rfl rfl rfl e13 rfl (jl rfl rfl) ?_
 refine Dpy rfl rfl rfl rfl rfl e13 rfl (qT rfl rfl underlying27 rfl rfl) ?_
 refine Dpy rfl rfl rfl rfl rfl e13 rfl (ajJ rfl rfl rfl) ?_
 refine Dpy rfl rfl rfl rfl rfl e13 rfl (jl rfl rfl) ?_
 refine aeU (decide ((u2.len:Int)=1)) decide_eq_true_iff h ?_ ?_
 rotate_left
 .intro h e17
  refine Dpn rfl rfl rfl rfl rfl (.inl (by rw[e17];try rfl)) rfl ?_
  refine Drn rfl rfl rfl rfl rfl (.inl (by rw[e17];try rfl)) rfl ?_
  refine Dpn rfl rfl rfl rfl rfl (.inl (by rw[e17];try rfl)) rfl ?_
  refine Dpy rfl rfl rfl rfl rfl e13 rfl (pF rfl (evb e17) rfl) ?_
  refine Dp rfl rfl rfl rfl (pF rfl (evb e13) rfl) ?_
  refine zq ?_;refine wH ?_
  refine qd ?_;exact⟨_,FL,h⟩
 intro h e17
 refine Dpy rfl rfl rfl rfl rfl e17 rfl (wm rfl underlying72 rfl ty3 (by decide) rfl) ?_
 obtain⟨u12,hc,h⟩:=h
 refine Dry rfl rfl rfl rfl rfl e17 rfl (qA rfl underlying3 rfl rfl hc) ?_
 refine Dpy rfl rfl rfl rfl rfl e17 rfl (alP rfl rfl rfl) ?_
 refine Dpy rfl rfl rfl rfl rfl e13 rfl (yH rfl (evb e17) rfl) ?_
 refine Dp rfl rfl rfl rfl (pF rfl (evb e13) rfl) ?_
 refine zq ?_;refine wH ?_
 refine qd ?_;exact⟨_,FL,h⟩
end G
namespace Zt
open Go SL G Pa
variable{B:World}{ro I I':AH}{tag tag':Nat->Nat}
theorem ag4{s:ByteArray}{Q:Sl->Int->AH->Prop}(r:Nat)(g:wV ro)(hs:SL.Sep ro I)(hnone:parts (L s)=none->∀ tag' I',qe [] ro tag I tag' I'->Q ⟨none,0,0⟩ 20 I')
  (hsome:∀ ps,parts (L s)=some ps->∀ sl tag' I',qe [] ro tag I tag' I'->Row tag' I' r 9 sl (ps.map Pa.vS)->Q sl 0 I'):vp B ro s I Q:=by
 have base:vp B ro s (fun _=>none) (fun sl e I'=>(parts (L s)=none/\e=20/\sl=⟨none,0,0⟩)\/∃ ps tag',parts (L s)=some ps/\e=0/\Row tag' I' r 9 sl (ps.map Pa.vS)):=
  Pa.ak9 (tag:=fun _=>0) r g (fun h _=> .inl ⟨h,rfl,rfl⟩) fun ps h sl tag' I' _ hr=> .inr ⟨ps,tag',h,rfl,hr⟩
 have fr:=ahP (ψ:=I) base (fun b o h=>by cases h)
 have e:join (fun _=>none) I=I:=by funext b;rfl
 rw[e]at fr
 refine aiI fr ?_
 rintro sl ev I' hsep ⟨τ,rfl,hd,hq⟩
 have keep:∀ (tg:Nat->Nat),(∀b,τ b=none->tg b=tag b)->qe [] ro tag I tg (join τ I):=fun tg htg=>by
  have hn:∀ b o,I b=some o->τ b=none:=fun b o ho=>by
   cases h:τ b with
   | none=>rfl
   | some x=>have:=hd b x h;rw[ho]at this;cases this
  refine⟨fun b o ho _=>⟨htg b (hn b o ho),pI hd ho⟩,fun b o ho=>⟨htg b (hn b o ho),o,pI hd ho⟩,hsep⟩
 rcases hq with⟨h,rfl,rfl⟩ | ⟨ps,tg,h,rfl,hr⟩
 .exact hnone h tag _ (keep tag fun _ _=>rfl)
 .refine hsome ps h sl (fun b=>if(τ b).isSome then tg b else tag b) _ (keep _ fun b hb=>by simp[hb]) ?_
  rcases hr with h | ⟨b,cs,ha,ht,hb,hx⟩
  .exact .inl h
  .exact .inr ⟨b,cs,ha,by simp[hb,ht],by unfold join;rw[hb],hx⟩
theorem alq{s:ByteArray}{Q:Sl->Int->AH->Prop}(r:Nat)(g:wV ro)(hs:SL.Sep ro I)(hnone:parts (L s)=none->∀ sl tag' I',qe [] ro tag I tag' I'->Q sl 20 I')
  (hsome:∀ ps,parts (L s)=some ps->∀ sl tag' I',qe [] ro tag I tag' I'->Row tag' I' r 9 sl (ps.map Pa.vS)->Q sl 0 I'):vp B ro s I Q:=ag4 r g hs (fun h tag' I' st=>hnone h _ tag' I' st) hsome
theorem akK{s:ByteArray}{ps:List Str}{Q:ByteArray->Int->AH->Prop}(g:wV ro)(hps:parts (L s)=some ps)(hQ:∀ tag' I',qe [] ro tag I tag' I'->Q (S ((qK (L s)).getD [])) 0 I'):yD B ro s I Q:=by
 refine ae2 fun hs=>?_
 unfold abW
 refine alq (tag:=tag) 0 g hs (fun h=>by rw[hps]at h;cases h) fun ps' h sl tag1 I1 st1 r1=>?_
 rw[hps]at h;cases h
 have hln:sl.len=ps.length:=by rw[r1.len,List.length_map]
 have hh:=pc hps
 by_cases h0:ps=[]
 .subst h0
  rw[if_pos (by rw[hln];try rfl)]
  rw[hh]at hQ
  exact hQ tag1 I1 st1
 .have hpos:=List.length_pos_iff.2 h0
  rw[if_neg (by omega)]
  obtain⟨p,hp,_,hget⟩:=Row.sget r1 st1.sep hpos
  refine⟨p,hp,by decide,by omega,_,hget 0 hpos,?_⟩
  rw[hh,List.head?_eq_getElem?,List.getElem?_eq_getElem hpos]at hQ
  exact hQ tag1 I1 st1
theorem aqK{r T M q0:Nat}{bs:List Nat}{st:St}{hs:List Str}{s:Sl}{Q:Int->Int->AH->Prop}(g:wV ro)(hr:r<64)(hr':r∉[0,2,3,4,6,20])(h:qZ tag I r T M bs st)(hi:Inv st)(hn:st.length<=4294967296)
  (hrow:Row tag I q0 9 s (hs.map Pa.vS)) (hq0:q0%64∉[0,2,3,4,20]) (hhl:∀ x∈hs,x.length<=4611686018427387903) (hhn:hs.length<=1024)
  (hQ:∀ tag' I',StepS [0,2,3,4,20] ro tag I tag' I'->Q ((ab2 st hs).1:Nat) ((ab2 st hs).2:Nat) I'):aef B ro (some ⟨T,0,none⟩) s I Q:=by
 refine akI fun hsep=>?_
 unfold aeq
 simp only[List.mem_cons,List.not_mem_nil,or_false,not_or]at hr' hq0
 refine qj (tag:=tag) 2 hsep fun x4 tag1 I1 st1 r1=>?_
 refine qj (tag:=tag1) 3 (st1 []).sep fun x5 tag2 I2 st2 r2=>?_
 have hsl:s.len=hs.length:=by rw[hrow.len,List.length_map]
 have hpaths:∀ p∈st,∃ps,parts p.1=some ps:=fun p hp=>hi.path _ _ ((qW hi.keys (k:=p.1) (n:=p.2)).2 hp)
 let acc (j:Nat):Nat×Nat:=ab2 st (hs.take j)
 have hacc:∀ j,j<=hs.length->(acc j).1<=j*st.length/\(acc j).2<=j*(384*st.length):=by
  intro j
  induction j with
  | zero=>intro _;exact⟨by simp[acc,ab2],by simp[acc,ab2]⟩
  | succ j ih=>
   intro hj
   have:=ih (by omega)
   have hu:=ajn hi hs[j]
   have e:acc (j+1)=((acc j).1+(ze st hs[j]).1,(acc j).2+(ze st hs[j]).2):=by
    simp only[acc,ab2]
    rw[List.take_add_one,List.getElem?_eq_getElem (by omega),List.foldl_append];try rfl
   rw[e]
   simp only[Nat.add_mul,Nat.one_mul]
   omega
 have hbound:∀ j,j<=hs.length->(acc j).1<=4398046511104/\(acc j).2<=1688849860263936:=fun j hj=>by
  have h1:=hacc j hj
  have h2:j*st.length<=1024*4294967296:=Nat.mul_le_mul (by omega) hn
  have h3:j*(384*st.length)<=1024*(384*4294967296):=Nat.mul_le_mul (by omega) (Nat.mul_le_mul_left _ hn)
  omega
 suffices∀(m j:Nat) (tag3:Nat->Nat) (I3:AH),j+m=hs.length->StepS [0,2,3,4,20] ro tag I tag3 I3->qZ tag3 I3 r T M bs st->Row tag3 I3 q0 9 s (hs.map Pa.vS)->Row tag3 I3 2 66 ⟨some ⟨x4,0,none⟩,2,2⟩ [vI 0,vI 0]->Row tag3 I3 3 66 ⟨some ⟨x5,0,none⟩,2,2⟩ [vI (acc j).1,vI (acc j).2]->
   lfpD (yM B ro (some ⟨T,0,none⟩) s x4 x5 Q) (j:Int) I3 from
  this _ 0 tag2 I2 (Nat.zero_add _) (((st1 []).s (by simp)).trans ((st2 []).s (by simp))) ((h.keep (st1 [])).keep (st2 [])) ((hrow.keep (st1 [])).keep (st2 [])) (r1.keep (st2 [])) r2
 intro m
 induction m with
 | zero=>
  intro j tag3 I3 hj hst hA hrow3 h4 h5
  refine lfpD.intro ?_
  unfold yM
  rw[if_neg (by omega)]
  unfold abu
  obtain⟨p5,hp5,hg5⟩:=h5.ptr hst.sep (by simp)
  cases hp5
  refine⟨_,_,zu 0 fun i v hv=>by rw[Nat.zero_add];have:=hg5 i v hv;rwa [Nat.mul_one]at this,?_⟩
  refine h4.stAll hst.sep (by simp) (by simp[qh]) fun I4 st4 r4=>?_
  obtain⟨p4,hp4,hg4⟩:=r4.ptr st4.sep (by simp)
  cases hp4
  refine⟨_,_,zu 0 fun i v hv=>by rw[Nat.zero_add];have:=hg4 i v hv;rwa [Nat.mul_one]at this,?_⟩
  have e:acc j=ab2 st hs:=by simp only[acc];rw[List.take_of_length_le (by omega)]
  rw[e]
  exact hQ tag3 I4 (hst.trans (st4.s (by simp)))
 | succ m ih=>
  intro j tag3 I3 hj hst hA hrow3 h4 h5
  have hjl:j<hs.length:=by omega
  obtain⟨pp,hpp,_,hget⟩:=Row.sget hrow3 hst.sep hjl
  refine lfpD.intro ?_
  unfold yM
  rw[if_pos (by omega)]
  refine⟨pp,hpp,by omega,by omega,S hs[j],by rw[Int.toNat_natCast];exact hget j hjl,?_⟩
  have hxl:=hhl _ (List.getElem_mem hjl)
  refine⟨by rw[show(⟨#[47]⟩:ByteArray).size=1 from rfl,show(S hs[j]).size=hs[j].length from by rw[<-xz,L_S]];omega,?_⟩
  have hcat:(⟨#[47]⟩:ByteArray)++S hs[j]=S (47::hs[j]):=by
   rw[show(⟨#[47]⟩:ByteArray)=S [47]from rfl,agE];try rfl
  rw[hcat]
  have hu:=ajn hi hs[j]
  have hej:acc (j+1)=((acc j).1+(ze st hs[j]).1,(acc j).2+(ze st hs[j]).2):=by
   simp only[acc,ab2]
   rw[List.take_add_one,List.getElem?_eq_getElem hjl,List.foldl_append];try rfl
  have hbj:=hbound (j+1) (by omega)
  rw[hej]at hbj
  simp only at hbj
  have inner:∀ (l:List Str) (sl:Sl) (m2 i:Nat) (tag5:Nat->Nat) (I5:AH),i+m2=l.length->l.length<=st.length->(∀k∈l,k∈st.map (·.1))->vf st hs[j] l=ze st hs[j]->StepS [0,2,3,4,20] ro tag I tag5 I5->qZ tag5 I5 r T M bs st->Row tag5 I5 q0 9 s (hs.map Pa.vS)->Row tag5 I5 2 66 ⟨some ⟨x4,0,none⟩,2,2⟩ [vI 0,vI 0]->Row tag5 I5 20 9 sl (l.map Pa.vS)->
    Row tag5 I5 3 66 ⟨some ⟨x5,0,none⟩,2,2⟩ [vI ((acc j).1+(vf st hs[j] (l.take i)).1:Nat),vI ((acc j).2+(vf st hs[j] (l.take i)).2:Nat)]->
    lfpD (pU B ro (some ⟨T,0,none⟩) s x4 x5 (j:Int) (S hs[j]) sl Q (lfpD (yM B ro (some ⟨T,0,none⟩) s x4 x5 Q))) (i:Int) I5:=by
   intro l sl m2
   induction m2 with
   | zero=>
    intro i tag5 I5 hil hll hlk hul hst5 hA5 hrow5 h45 h20 h35
    refine lfpD.intro ?_
    unfold pU
    have hsll:sl.len=l.length:=by rw[h20.len,List.length_map]
    rw[if_neg (by omega)]
    unfold abv
    rw[Pa.inc j (by omega)]
    rw[List.take_of_length_le (by omega),hul]at h35
    exact ih (j+1) tag5 I5 (by omega) hst5 hA5 hrow5 h45 (by rw[hej];exact h35)
   | succ m2 ih2=>
    intro i tag5 I5 hil hll hlk hul hst5 hA5 hrow5 h45 h20 h35
    have hil':i<l.length:=by omega
    have hsll:sl.len=l.length:=by rw[h20.len,List.length_map]
    obtain⟨pl,hpl,_,hgetl⟩:=Row.sget h20 hst5.sep hil'
    obtain⟨n,hnl⟩:=afv (hlk _ (List.getElem_mem hil'))
    obtain⟨ps,hps⟩:=hi.path _ _ hnl
    have hda:=hi.data _ _ hnl
    have hk128:l[i].length<=128:=(hi.small _ ((qW hi.keys).1 hnl)).1
    refine lfpD.intro ?_
    unfold pU
    rw[if_pos (by omega)]
    refine⟨pl,hpl,by omega,by omega,S l[i],by rw[Int.toNat_natCast];exact hgetl i hil',?_⟩
    refine akK (tag:=tag5) g (by rw[L_S];exact hps) fun tag6 I6 st6=>?_
    rw[L_S]
    have etk:vf st hs[j] (l.take (i+1))=if qK l[i]=some hs[j]then((vf st hs[j] (l.take i)).1+1,(vf st hs[j] (l.take i)).2+(l[i].length+n.data.length))else vf st hs[j] (l.take i):=by
     rw[List.take_add_one,List.getElem?_eq_getElem hil']
     simp only[Option.toList_some]
     rw[aoq,hnl]
    have ul:=alp st hs[j] (l.take (i+1)) (fun k hk=>by
     obtain⟨n',hn'⟩:=afv (hlk k (List.mem_of_mem_take hk))
     exact(hi.small _ ((qW hi.keys).1 hn')).1) hi.data
    by_cases hh:qK l[i]=some hs[j]
    .rw[hh]
     simp only[Option.getD_some]
     rw[if_neg (by
      rintro(h | h)
      .exact h trivial
      .exact apu hh (ab9.1 h))]
     rw[if_pos hh]at etk
     refine agb g hr (by omega) (by omega) (hA5.keep st6) (fun p n h=>hi.data p n h) (fun hb=>by rw[L_S,hps]at hb;cases hb) (fun _ _ hb=>by rw[L_S,hnl]at hb;cases hb) (fun n' hn' ds tag7 I7 st7 hr7=>?_)
     rw[L_S,hnl]at hn';cases hn'
     refine xh (tag:=tag7) 4 st7.sep rfl (by simp[qh]) fun x tag8 I8 st8 r8=>?_
     have h38:=((h35.keep st6).keepC st7).keep (st8 [])
     obtain⟨p5,hp5,hg5⟩:=h38.ptr (st8 []).sep (by simp)
     cases hp5
     refine⟨_,hg5 0 _ rfl,?_⟩
     refine h38.st (i:=0) (st8 []).sep rfl (by simp) rfl fun I9 st9 r9=>?_
     obtain⟨p9,hp9,hg9⟩:=r9.ptr st9.sep (by simp)
     cases hp9
     refine⟨_,hg9 1 _ rfl,?_⟩
     refine r9.st (i:=1) st9.sep rfl (by simp) rfl fun Ia sta ra=>?_
     unfold yc
     rw[Pa.inc i (by omega)]
     have hdl:(ds.len:Int)=n.data.length:=by rw[hr7.len,List.length_map]
     have hsz:((S l[i]).size:Int)=l[i].length:=by rw[<-xz,L_S]
     have k9:∀ (R:Nat),R≠3->R∉[3]:=fun R h=>by simpa using h
     rw[etk]at ul
     simp only at ul
     have lt:(l.take (i+1)).length<=st.length:=by rw[List.length_take];omega
     refine ih2 (i+1) tag8 Ia (by omega) hll hlk hul (hst5.trans ((st6.s (by simp)).trans ((st7.s (by simp)).trans (((st8 []).s (by simp)).trans ((st9.s (by simp)).trans (sta.s (by simp))))))) ?_ ?_ ?_ ?_ ?_
     .exact((((hA5.keep st6).keepC st7 (by omega) (by omega)).keep (st8 [])).keep st9 (by simp;omega)).keep sta (by simp;omega)
     .exact((((hrow5.keep st6).keepC st7 (by omega)).keep (st8 [])).keep st9 (by simp;omega)).keep sta (by simp;omega)
     .exact((((h45.keep st6).keepC st7 (by omega)).keep (st8 [])).keep st9).keep sta
     .exact((((h20.keep st6).keepC st7 (by omega)).keep (st8 [])).keep st9).keep sta
     .rw[etk]
      have e1:i64.wrap ((((acc j).1+(vf st hs[j] (l.take i)).1:Nat):Int)+1)=(((acc j).1+((vf st hs[j] (l.take i)).1+1):Nat):Int):=by
       rw[wb (by omega) (by omega)];omega
      have e2:i64.wrap ((((acc j).2+(vf st hs[j] (l.take i)).2:Nat):Int)+i64.wrap (((S l[i]).size:Int)+(ds.len:Int)))=(((acc j).2+((vf st hs[j] (l.take i)).2+(l[i].length+n.data.length)):Nat):Int):=by
       rw[hdl,hsz,wb (n:=(l[i].length:Int)+(n.data.length:Int)) (by omega) (by omega),wb (by omega) (by omega)];omega
      simp only
      rw[<-e1,<-e2]
      exact ra
    .rw[if_pos (by
      by_cases h0:hs[j]=[]
      .exact .inr (by rw[h0];try rfl)
      .refine .inl fun h=>hh ?_
       have:=ab9.1 h
       cases e:qK l[i]with
       | none=>rw[e]at this;exact absurd this.symm h0
       | some x=>rw[e]at this;simp at this;rw[this])]
     rw[if_neg hh]at etk
     unfold yc
     rw[Pa.inc i (by omega)]
     exact ih2 (i+1) tag6 I6 (by omega) hll hlk hul (hst5.trans (st6.s (by simp))) (hA5.keep st6) (hrow5.keep st6) (h45.keep st6) (h20.keep st6) (by rw[etk];exact h35.keep st6)
  refine am4 (q:=20) g hr (by omega) (by decide) hA hpaths (by omega) (fun hbad tag5 I5 st5=>?_) fun ps hps sl tag5 I5 ks st5 hp5 hsrt5 r5=>?_
  .rw[L_S]at hbad
   have hz:ze st hs[j]=(0,0):=by
    rw[<-ag1 hi.keys]
    exact am5 st _ _ (by rw[hbad];simp)
   refine inner [] ⟨none,0,0⟩ 0 0 tag5 I5 rfl (Nat.zero_le _) (fun _ h=>by cases h) (by rw[hz];try rfl) (hst.trans ((st5 []).s (by simp))) (hA.keep (st5 [])) (hrow3.keep (st5 [])) (h4.keep (st5 [])) (Row.nil _ _) ?_
   simpa [vf]using h5.keep (st5 [])
  .rw[L_S]at r5
   have hks:=agU hA.keys hp5 hsrt5
   refine inner _ sl _ 0 tag5 I5 (Nat.zero_add _) (by have h1:=List.length_filter_le (fun k=>adA (47::hs[j]) k) ks;have h2:=hp5.length_eq;rw[List.length_map]at h2;omega) (fun k hk=>hp5.mem_iff.1 (List.mem_filter.1 hk).1) ?_ (hst.trans (st5.s (by simp))) (hA.keep st5 (by simp;omega)) (hrow3.keep st5 (by simp;omega)) (h4.keep st5) r5 ?_
   .rw[amw,hks,ag1 hi.keys]
   .simpa [vf]using h5.keep st5
theorem qq.keepS{C:List Nat}{r:Nat}{e:TypeId}{w:Nat}{s:Sl}{l:List (List Value)}(h:qq tag I r e w s l)(k:StepS C ro tag I tag' I')(hr:r%64∉C:=by decide):qq tag' I' r e w s l:=by
 obtain⟨R,h1,h2⟩:=k
 exact h.keep h2 fun m=>hr (h1 _ m)
theorem Row.cellsAt{r:Nat}{e:TypeId}{b n c:Nat}{l:List Value}(h:Row tag I r e ⟨some ⟨b,0,none⟩,n,c⟩ l)(hs:SL.Sep ro I):SL.qg ro I ⟨b,0,none⟩ 0 l:=by
 rcases Nat.eq_zero_or_pos l.length with h0 | h0
 .rw[List.eq_nil_of_length_eq_zero h0];trivial
 .obtain⟨p,hp,hg⟩:=h.ptr hs h0
  cases hp
  exact zu 0 fun i v hv=>by rw[Nat.zero_add];have:=hg i v hv;rwa [Nat.mul_one]at this
theorem Row.readW1{r w:Nat}{e:TypeId}{b n c:Nat}{l:List Value}(h:Row tag I r e ⟨some ⟨b,0,none⟩,n,c⟩ l)(hs:SL.Sep ro I)(hw:l.length=w)(h0:0<w):SL.jE ro I w ⟨some ⟨b,0,none⟩,1,1⟩ [l]:=by
 obtain⟨p,hp,hg⟩:=h.ptr hs (by omega)
 cases hp
 refine⟨rfl,(fun h=>by cases h),fun x hx=>by rw[List.mem_singleton.1 hx];exact hw,fun p hp i v hv=>?_⟩
 cases hp
 have:=hg i v (by simpa using hv)
 rwa [Nat.mul_one]at this
def uj(r:Str×Int):List Value:=[Pa.vS r.1,vI r.2]
def aes(e:Int×Str):List Value:=[vI e.1,Pa.vS e.2]
structure ab3(tag:Nat->Nat)(I:AH)(W T:Nat)(home:Str)(owner qn qb:Int)(res:List (Str×Int))(eff:List (Int×Str)):Prop where
 mem:∃ rs es:Sl,Row tag I 13 410 ⟨some ⟨W,0,none⟩,8,8⟩ [Sl.v rs,Sl.v es,vI 0,ptr T,Pa.vS home,vI owner,vI qn,vI qb]/\qq tag I 14 128 2 rs (res.map uj)/\qq tag I 15 336 2 es (eff.map aes)
theorem ab3.keepS{C:List Nat}{W T:Nat}{home:Str}{owner qn qb:Int}{res:List (Str×Int)}{eff:List (Int×Str)}(h:ab3 tag I W T home owner qn qb res eff)(k:StepS C ro tag I tag' I')(h3:13∉C:=by decide)(h4:14∉C:=by decide)(h5:15∉C:=by decide):ab3 tag' I' W T home owner qn qb res eff:=by
 obtain⟨rs,es,a,b,c⟩:=h.mem
 exact⟨rs,es,a.keepS k h3,qq.keepS b k h4,qq.keepS c k h5⟩
abbrev DC:List Nat:=[0,2,3,4,5,12,13,14,15,17,18,19,20,21]
theorem apv{W T:Nat}{home:Str}{owner qn qb:Int}{res:List (Str×Int)}{eff:List (Int×Str)}{o:MOp}{ds:Sl}{Q:Int->AH->Prop}(g:wV ro)(h:ab3 tag I W T home owner qn qb res eff)
  (hQ:∀ tag' I',qe [] ro tag I tag' I'->Q (zC home o) I'):aay B ro (some ⟨W,0,none⟩) o.kind (S o.path) ds o.ver o.eph o.seq I Q:=by
 refine ag3 fun hs=>?_
 unfold aaG
 refine qj (tag:=tag) 0 hs fun x tag1 I1 st1 r1=>?_
 obtain⟨p,hp,hg⟩:=r1.ptr (st1 []).sep (by simp)
 cases hp
 refine⟨_,hg 1 _ rfl,?_⟩
 have kindOf:∀ tag2 I2,qe [] ro tag1 I1 tag2 I2->qa ro I2 ⟨x,0,none⟩=some (vI o.kind):=fun tag2 I2 st2=>by
  obtain⟨p,hp,hg⟩:=(r1.keep st2).ptr st2.sep (by simp)
  cases hp
  exact hg 0 _ rfl
 have bad:∀ tag2 I2 sl e,qe [] ro tag1 I1 tag2 I2->zC home o=80->wE B ro (some ⟨W,0,none⟩) x sl e Q true I2:=fun tag2 I2 sl e st2 hw=>by
  unfold wE
  rw[if_pos rfl]
  have:=hQ tag2 I2 ((st1 _).trans st2)
  rw[hw]at this;exact this
 have split:∀ tag2 I2 sl e,qe [] ro tag1 I1 tag2 I2->(¬(o.kind<1\/4<o.kind)->wE B ro (some ⟨W,0,none⟩) x sl e Q false I2)->
   ∃(x15_5:Int),qa ro I2 ⟨x,0,none⟩=some (.int .i64 x15_5)/\if x15_5<1 then wE B ro (some ⟨W,0,none⟩) x sl e Q true I2 else∃(x19_16:Int),qa ro I2 ⟨x,0,none⟩=some (.int .i64 x19_16)/\wE B ro (some ⟨W,0,none⟩) x sl e Q (decide (4<x19_16)) I2:=fun tag2 I2 sl e st2 hgood=>by
  have hw80:(o.kind<1\/4<o.kind)->zC home o=80:=fun h=>by unfold zC;rw[if_pos h]
  refine⟨o.kind,kindOf tag2 I2 st2,?_⟩
  by_cases h1:o.kind<1
  .rw[if_pos h1];exact bad tag2 I2 sl e st2 (hw80 (.inl h1))
  .rw[if_neg h1]
   refine⟨o.kind,kindOf tag2 I2 st2,?_⟩
   by_cases h2:4<o.kind
   .rw[show decide (4<o.kind)=true from by simpa using h2]
    exact bad tag2 I2 sl e st2 (hw80 (.inr h2))
   .rw[show decide (4<o.kind)=false from by simpa using h2]
    exact hgood (by omega)
 refine alq (tag:=tag1) 23 g (st1 []).sep (fun hnone sl tag2 I2 st2=>?_) (fun ps hps sl tag2 I2 st2 r2=>?_)
 .rw[L_S]at hnone
  refine split tag2 I2 sl 20 st2 fun hk=>?_
  unfold wE
  rw[if_neg (by decide),if_pos (by decide)]
  have:=hQ tag2 I2 ((st1 _).trans st2)
  unfold zC at this
  rw[if_neg hk,hnone]at this;exact this
 .rw[L_S]at hps
  refine split tag2 I2 sl 0 st2 fun hk=>?_
  have hwe:zC home o=if ps.head?≠some home\/(ps.length=1/\o.kind<=2)then 82 else 0:=by unfold zC;rw[if_neg hk,hps]
  have fin:∀ b:Bool,(b=true↔(ps.head?≠some home\/(ps.length=1/\o.kind<=2)))->zU B ro Q b I2:=fun b hb=>by
   unfold zU
   have:=hQ tag2 I2 ((st1 _).trans st2)
   rw[hwe]at this
   cases b with
   | true=>rw[if_pos rfl];rw[if_pos (hb.1 rfl)]at this;exact this
   | false=>rw[if_neg (by decide)];rw[if_neg (fun h=>by have:=hb.2 h;cases this)]at this;exact this
  have hln:sl.len=ps.length:=by rw[r2.len,List.length_map]
  unfold wE
  rw[if_neg (by decide),if_neg (by decide)]
  by_cases h0:ps=[]
  .subst h0
   rw[if_pos (by rw[hln];try rfl)]
   try rw[if_pos trivial]
   exact fin true (by simp)
  .have hpos:=List.length_pos_iff.2 h0
   rw[if_neg (by omega)]
   obtain⟨pp,hpp,_,hget⟩:=Row.sget r2 st2.sep hpos
   have hh:ps.head?=some ps[0]:=by rw[List.head?_eq_getElem?,List.getElem?_eq_getElem hpos]
   refine⟨pp,hpp,by decide,by omega,_,rfl,S ps[0],hget 0 hpos,S home,?_,?_⟩
   .obtain⟨rs,es,a,b,c⟩:=h.mem
    obtain⟨pw,hpw,hgw⟩:=((a.keep (st1 [])).keep st2).ptr st2.sep (by simp)
    cases hpw
    exact hgw 4 _ rfl
   .by_cases h1:ps[0]=home
    .rw[if_neg (by rw[h1];simp)]
     by_cases h2:ps.length=1
     .rw[if_pos (by omega)]
      refine⟨o.kind,kindOf tag2 I2 st2,fin _ ?_⟩
      rw[hh,h1]
      simp[h2]
     .rw[if_neg (by omega)]
      exact fin false (by rw[hh,h1];simp[h2])
    .rw[if_pos (by simpa [ab9]using h1)]
     exact fin true (by rw[hh];simp[h1])
theorem as1{W T b:Nat}{home:Str}{owner qn qb:Int}{w:uG}{o:MOp}{ds:Sl}{Q:Int->AH->Prop}(g:wV ro)(h:ab3 tag I W T home owner qn qb w.res w.eff)(ht:wa tag I 12 T w.st)(hi:ww b w.st)(hb:b<=2147483648)
  (hlen:w.res.length<=1024/\w.eff.length<=1024) (hd:SL.zw ro I ds (o.data.map vU)) (hdl:o.data.length<4611686018427387904) (hhl:home.length<=4611686018427387903)
  (hbad:(doE home owner qn qb w o).1≠0->∀ tag' I',StepS DC ro tag I tag' I'->Q (doE home owner qn qb w o).1 I')
  (hok:(doE home owner qn qb w o).1=0->∀ tag' I',StepS DC ro tag I tag' I'->ab3 tag' I' W T home owner qn qb (doE home owner qn qb w o).2.res (doE home owner qn qb w o).2.eff->wa tag' I' 12 T (doE home owner qn qb w o).2.st->Q 0 I'):
  ada B ro (some ⟨W,0,none⟩) o.kind (S o.path) ds o.ver o.eph o.seq I Q:=by
 refine ajo fun hs=>?_
 unfold adg
 refine qj (tag:=tag) 16 hs fun x3 tag1 I1 st1 r1=>?_
 refine⟨_,_,_,_,_,_,Row.cellsAt r1 (st1 []).sep,?_⟩
 have h1:=h.keepS ((st1 []).s (C:=[]) (by simp)) (by simp) (by simp) (by simp)
 refine apv (tag:=tag1) g h1 fun tag2 I2 st2=>?_
 by_cases hw':zC home o≠0
 .rw[if_pos (by simpa using hw')]
  have hde:doE home owner qn qb w o=(zC home o,w):=by unfold doE;rw[if_pos hw']
  rw[hde]at hbad
  exact hbad hw' tag2 I2 (((st1 []).s (by simp)).trans (st2.s (by simp)))
 have hw:zC home o=0:=by simpa using hw'
 rw[if_neg (by simpa using hw)]
 have r12:=r1.keep st2
 refine qj (tag:=tag2) 17 st2.sep fun x6 tag3 I3 st3 r3=>?_
 have r13:=r12.keep (st3 [])
 obtain⟨p,hp,hg⟩:=r13.ptr (st3 []).sep (by simp)
 cases hp
 refine⟨o.kind,hg 0 _ rfl,S o.path,hg 1 _ rfl,?_⟩
 refine xh (tag:=tag3) 18 (st3 []).sep rfl (by simp[qh]) fun x8 tag4 I4 st4 r8=>?_
 have r14:=r13.keep (st4 [])
 have r34:=r3.keep (st4 [])
 have stA:StepS DC ro tag I tag4 I4:=((st1 []).s (by simp)).trans ((st2.s (by simp)).trans (((st3 []).s (by simp)).trans ((st4 []).s (by simp))))
 have hW4:=((h1.keepS (st2.s (C:=[]) (by simp)) (by simp) (by simp) (by simp)).keepS ((st3 []).s (C:=[]) (by simp)) (by simp) (by simp) (by simp)).keepS ((st4 []).s (C:=[]) (by simp)) (by simp) (by simp) (by simp)
 have hT4:=(((ht.keep (st1 [])).keep st2).keep (st3 [])).keep (st4 [])
 obtain⟨p4,hp4,hg4⟩:=r14.ptr (st4 []).sep (by simp)
 have hd4:=(((hd.step (st1 [])).step st2).step (st3 [])).step (st4 [])
 cases hp4
 generalize hcore:xf owner w.st o=c at*
 have hci:ww (b+1) c.1:=by rw[<-hcore];exact ag2 hi (by omega)
 have fin:∀ (tag5:Nat->Nat) (I5:AH),StepS DC ro tag I tag5 I5->Row tag5 I5 16 72 ⟨some ⟨x3,0,none⟩,6,6⟩ [vI o.kind,Pa.vS o.path,Sl.v ds,vI o.ver,.bool o.eph,.bool o.seq]->Row tag5 I5 17 128 ⟨some ⟨x6,0,none⟩,2,2⟩ (uj (c.2.1,c.2.2.1))->
   Row tag5 I5 18 336 ⟨some ⟨x8,0,none⟩,2,2⟩ (aes (o.kind,if o.kind=1 then c.2.1 else o.path))->ab3 tag5 I5 W T home owner qn qb w.res w.eff->wa tag5 I5 12 T c.1->zE B ro (some ⟨W,0,none⟩) x3 x6 x8 Q c.2.2.2 I5:=by
  intro tag5 I5 st5 h35 h65 h85 hW5 hT5
  unfold zE
  by_cases he':c.2.2.2≠0
  .rw[if_pos (by simpa using he')]
   have hde:doE home owner qn qb w o=(c.2.2.2,{w with st:=c.1}):=by unfold doE;rw[if_neg (by simpa using hw),hcore,if_pos he']
   rw[hde]at hbad
   exact hbad he' tag5 I5 st5
  have he:c.2.2.2=0:=by simpa using he'
  rw[if_neg (by simpa using he)]
  obtain⟨p5,hp5,hg5⟩:=h35.ptr st5.sep (by simp)
  cases hp5
  have hde:doE home owner qn qb w o=if adP c.1 home qn qb o.kind then(81,{w with st:=c.1})else(0,⟨c.1,w.res++[(c.2.1,c.2.2.1)],if o.kind=4 then w.eff else w.eff++[(o.kind,if o.kind=1 then c.2.1 else o.path)]⟩):=by
   unfold doE;rw[if_neg (by simpa using hw),hcore,if_neg (by simpa using he)]
  have app:adP c.1 home qn qb o.kind=false->∀ (tag6:Nat->Nat) (I6:AH),StepS DC ro tag I tag6 I6->Row tag6 I6 16 72 ⟨some ⟨x3,0,none⟩,6,6⟩ [vI o.kind,Pa.vS o.path,Sl.v ds,vI o.ver,.bool o.eph,.bool o.seq]->Row tag6 I6 17 128 ⟨some ⟨x6,0,none⟩,2,2⟩ (uj (c.2.1,c.2.2.1))->
    Row tag6 I6 18 336 ⟨some ⟨x8,0,none⟩,2,2⟩ (aes (o.kind,if o.kind=1 then c.2.1 else o.path))->ab3 tag6 I6 W T home owner qn qb w.res w.eff->wa tag6 I6 12 T c.1->xW B ro (some ⟨W,0,none⟩) x3 x6 x8 Q I6:=by
   intro hov tag6 I6 st6 h36 h66 h86 hW6 hT6
   rw[hov]at hde
   simp only[Bool.false_eq_true,if_false]at hde
   rw[hde]at hok
   simp only at hok
   unfold xW
   obtain⟨rs,es,a,bb,cc⟩:=hW6.mem
   obtain⟨pw,hpw,hgw⟩:=a.ptr st6.sep (by simp)
   cases hpw
   refine⟨_,rfl,rs,hgw 0 _ rfl,S c.2.1,c.2.2.1,Row.cellsAt h66 st6.sep,?_⟩
   refine qj (tag:=tag6) 0 st6.sep fun y tag7 I7 st7 r7=>?_
   refine uh (l2:=[uj (c.2.1,c.2.2.1)]) (bb.keep (st7 [])) (st7 []).sep (Row.readW1 r7 (st7 []).sep rfl (by decide)) (t:=23) (by kernel_rfl) adM rfl (by simp[uj,qh]) (by simp;omega) (by decide) fun rs' tag8 I8 st8 r8=>?_
   have st8':=st8 [14] (.inr (by simp))
   refine⟨rs',rfl,?_⟩
   have a8:=(a.keep (st7 [])).keep st8'
   have c8:=(cc.keep (st7 [])).keep st8'
   refine⟨_,rfl,?_⟩
   refine a8.st (i:=0) st8'.sep rfl (by simp) rfl fun I9 st9 r9=>?_
   have h39:=((h36.keep (st7 [])).keep st8').keep st9
   obtain⟨p9,hp9,hg9⟩:=h39.ptr st9.sep (by simp)
   cases hp9
   have st69:StepS DC ro tag6 I6 tag8 I9:=((st7 []).s (by simp)).trans ((st8'.s (by simp)).trans (st9.s (by simp)))
   have hT9:=((hT6.keep (st7 [])).keep st8').keep st9
   refine⟨o.kind,hg9 0 _ rfl,?_⟩
   by_cases hk:o.kind=4
   .rw[if_neg (by simpa using hk)]
    unfold xV
    refine hok trivial tag8 I9 (st6.trans st69) ⟨rs',es,r9,?_,?_⟩ hT9
    .rw[List.map_append];exact r8.keep st9
    .rw[if_pos hk];exact c8.keep st9
   .rw[if_pos (by simpa using hk)]
    obtain⟨pb,hpb,hgb⟩:=r9.ptr st9.sep (by simp)
    cases hpb
    have h89:=((h86.keep (st7 [])).keep st8').keep st9
    refine⟨_,rfl,es,hgb 1 _ rfl,o.kind,S (if o.kind=1 then c.2.1 else o.path),Row.cellsAt h89 st9.sep,?_⟩
    refine qj (tag:=tag8) 0 st9.sep fun z taga Ia sta ra=>?_
    refine uh (l2:=[aes (o.kind,if o.kind=1 then c.2.1 else o.path)]) ((c8.keep st9).keep (sta [])) (sta []).sep (Row.readW1 ra (sta []).sep rfl (by decide)) (t:=258) (by kernel_rfl) abq rfl (by simp[aes,qh]) (by simp;omega) (by decide) fun es' tagb Ib stb rb=>?_
    have stb':=stb [15] (.inr (by simp))
    refine⟨es',rfl,_,rfl,?_⟩
    refine((r9.keep (sta [])).keep stb').st (i:=1) stb'.sep rfl (by simp) rfl fun Ic stc rc=>?_
    unfold xV
    refine hok trivial tagb Ic (st6.trans (st69.trans (((sta []).s (by simp)).trans ((stb'.s (by simp)).trans (stc.s (by simp)))))) ⟨rs',es',rc,?_,?_⟩ (((hT9.keep (sta [])).keep stb').keep stc)
    .rw[List.map_append]
     exact(((r8.keep st9).keep (sta [])).keep stb').keep stc
    .rw[if_neg hk,List.map_append];exact rb.keep stc
  have look:∀ hk13:(o.kind=1\/o.kind=3),vO B ro (some ⟨W,0,none⟩) x3 x6 x8 Q true I5:=fun hk13=>by
   unfold vO
   rw[if_pos rfl]
   obtain⟨rs,es,a,bb,cc⟩:=id hW5.mem
   obtain⟨pw,hpw,hgw⟩:=a.ptr st5.sep (by simp)
   cases hpw
   refine⟨_,rfl,_,rfl,some ⟨T,0,none⟩,hgw 3 _ rfl,S home,hgw 4 _ rfl,?_⟩
   refine qj (tag:=tag5) 22 st5.sep fun y tag6 I6 st6 r6=>?_
   obtain⟨M6,bs6,hA6⟩:=hT5.keep (st6 [])
   have hlc:=hci.len
   refine aqK (q0:=22) (hs:=[home]) g (by decide) (by decide) hA6 hci.inv (by omega) r6 (by decide) (fun x hx=>by rw[List.mem_singleton.1 hx];exact hhl) (by simp) fun tag7 I7 st7=>?_
   have hus:ab2 c.1 [home]=ze c.1 home:=by simp[ab2]
   rw[hus]
   refine xh (tag:=tag7) 21 st7.sep rfl (by simp[qh]) fun z tag8 I8 st8 r8=>?_
   have st58:StepS DC ro tag5 I5 tag8 I8:=((st6 []).s (by simp)).trans ((st7.mono (by decide)).trans ((st8 []).s (by simp)))
   have hW8:=((hW5.keepS ((st6 []).s (C:=[]) (by simp)) (by simp) (by simp) (by simp)).keepS st7).keepS ((st8 []).s (C:=[]) (by simp)) (by simp) (by simp) (by simp)
   have hT8:wa tag8 I8 12 T c.1:=((hT5.keep (st6 [])).keepS st7).keep (st8 [])
   have h38:=((h35.keep (st6 [])).keepS st7).keep (st8 [])
   have h68:=((h65.keep (st6 [])).keepS st7).keep (st8 [])
   have h88:=((h85.keep (st6 [])).keepS st7).keep (st8 [])
   obtain⟨rs8,es8,a8,_,_⟩:=hW8.mem
   obtain⟨pw8,hpw8,hgw8⟩:=a8.ptr (st8 []).sep (by simp)
   cases hpw8
   obtain⟨pz,hpz,hgz⟩:=r8.ptr (st8 []).sep (by simp)
   cases hpz
   have hov:adP c.1 home qn qb o.kind=(decide (qn<((ze c.1 home).1:Nat)) || decide (qb<((ze c.1 home).2:Nat))):=by
    unfold adP
    rcases hk13 with h | h<;>simp[h]
   have j35:∀ bq:Bool,(bq=adP c.1 home qn qb o.kind)->xX B ro (some ⟨W,0,none⟩) x3 x6 x8 Q bq I8:=fun bq hbq=>by
    unfold xX
    cases hbv:bq with
    | true=>
     rw[if_pos rfl]
     rw[hbv]at hbq
     rw[<-hbq]at hde
     simp only[if_true]at hde
     rw[hde]at hbad
     exact hbad (by simp) tag8 I8 (st5.trans st58)
    | false=>
     rw[if_neg (by decide)]
     exact app (by rw[<-hbq,hbv]) tag8 I8 (st5.trans st58) h38 h68 h88 hW8 hT8
   refine⟨_,rfl,_,hgz 0 _ rfl,_,hgw8 6 _ rfl,?_⟩
   by_cases hq1:qn<((ze c.1 home).1:Nat)
   .rw[if_pos hq1]
    exact j35 true (by rw[hov];simp[hq1])
   .rw[if_neg hq1]
    refine⟨_,rfl,_,hgz 1 _ rfl,qb,hgw8 7 _ rfl,?_⟩
    exact j35 _ (by rw[hov];simp[hq1])
  have nolook:¬ (o.kind=1\/o.kind=3)->vO B ro (some ⟨W,0,none⟩) x3 x6 x8 Q false I5:=fun hk=>by
   unfold vO
   rw[if_neg (by decide)]
   refine app ?_ tag5 I5 st5 h35 h65 h85 hW5 hT5
   unfold adP
   simp only[not_or]at hk
   simp[hk.1,hk.2]
  refine⟨o.kind,hg5 0 _ rfl,?_⟩
  by_cases hk1:o.kind=1
  .rw[if_pos hk1];exact look (.inl hk1)
  .rw[if_neg hk1]
   refine⟨o.kind,hg5 0 _ rfl,?_⟩
   by_cases hk3:o.kind=3
   .rw[show decide (o.kind=3)=true from by simpa using hk3];exact look (.inr hk3)
   .rw[show decide (o.kind=3)=false from by simpa using hk3];exact nolook (by simp[hk1,hk3])
 obtain⟨rs4,es4,a4,_,_⟩:=id hW4.mem
 obtain⟨pw4,hpw4,hgw4⟩:=a4.ptr (st4 []).sep (by simp)
 cases hpw4
 refine⟨o.kind,hg4 0 _ rfl,?_⟩
 by_cases k1:o.kind=1
 .rw[if_pos k1]
  have hc1:c=((wt w.st o.path o.data (if o.eph then owner else 0) o.seq).1,(wt w.st o.path o.data (if o.eph then owner else 0) o.seq).2.1,0,(wt w.st o.path o.data (if o.eph then owner else 0) o.seq).2.2):=by rw[<-hcore];unfold xf;rw[if_pos k1]
  have j45:xY B ro (some ⟨W,0,none⟩) x3 x6 x8 Q (if o.eph then owner else 0) I4:=by
   unfold xY
   refine⟨_,rfl,some ⟨T,0,none⟩,hgw4 3 _ rfl,_,hg4 1 _ rfl,_,hg4 2 _ rfl,_,hg4 5 _ rfl,?_⟩
   refine ahU g (by decide) (by decide) (by decide) hT4 hd4 hdl fun tag5 I5 st5 hT5=>?_
   rw[L_S]at hT5⊢
   have st5s:StepS DC ro tag4 I4 tag5 I5:=st5.s (by simp)
   have r35:=r34.keepC st5
   refine r35.st (i:=0) st5.sep rfl (by simp) rfl fun I6 st6 r6=>?_
   obtain⟨p6,hp6,hg6⟩:=r6.ptr st6.sep (by simp)
   cases hp6
   refine⟨_,hg6 0 _ rfl,?_⟩
   refine((r8.keepC st5).keep st6).st (i:=1) st6.sep rfl (by simp) rfl fun I7 st7 r7=>?_
   have hW7:=((hW4.keepS (st5.s (C:=[12]) (by simp))).keepS (st6.s (C:=[17]) (by simp))).keepS (st7.s (C:=[18]) (by simp))
   have:=fin tag5 I7 (stA.trans (st5s.trans ((st6.s (by simp)).trans (st7.s (by simp))))) (((r14.keepC st5).keep st6).keep st7) (by rw[hc1];exact r6.keep st7) (by rw[if_pos k1,hc1];exact r7) hW7 (by rw[hc1];exact(hT5.keep st6).keep st7)
   rw[hc1]at this
   exact this
  refine⟨o.eph,hg4 4 _ rfl,?_⟩
  cases he:o.eph with
  | true=>
   rw[if_pos rfl]
   refine⟨_,rfl,owner,hgw4 5 _ rfl,?_⟩
   rw[he]at j45;exact j45
  | false=>
   rw[if_neg (by decide)]
   rw[he]at j45;exact j45
 rw[if_neg k1]
 by_cases k2:o.kind=2
 .rw[if_pos k2]
  have hc1:c=((wL w.st o.path o.ver).1,[],0,(wL w.st o.path o.ver).2):=by rw[<-hcore];unfold xf;rw[if_neg k1,if_pos k2]
  refine⟨_,rfl,some ⟨T,0,none⟩,hgw4 3 _ rfl,_,hg4 1 _ rfl,_,hg4 3 _ rfl,?_⟩
  refine ao9 g (by decide) (by decide) (by decide) hT4 (by rw[L_S];exact apt hi.inv) fun tag5 I5 st5 hT5=>?_
  rw[L_S]at hT5⊢
  have hW5:=hW4.keepS (st5.s (C:=[12]) (by simp))
  have:=fin tag5 I5 (stA.trans (st5.s (by simp))) (r14.keepC st5) (by rw[hc1];exact r34.keepC st5) (by rw[if_neg k1];exact r8.keepC st5) hW5 (by rw[hc1];exact hT5)
  rw[hc1]at this
  exact this
 rw[if_neg k2]
 by_cases k3:o.kind=3
 .rw[if_pos k3]
  have hc1:c=((vW w.st o.path o.data o.ver).1,[],(vW w.st o.path o.data o.ver).2.1,(vW w.st o.path o.data o.ver).2.2):=by rw[<-hcore];unfold xf;rw[if_neg k1,if_neg k2,if_pos k3]
  refine⟨_,rfl,some ⟨T,0,none⟩,hgw4 3 _ rfl,_,hg4 1 _ rfl,_,hg4 2 _ rfl,_,hg4 3 _ rfl,?_⟩
  refine asU g (by decide) (by decide) (by decide) hT4 hd4 hdl fun tag5 I5 st5 hT5=>?_
  rw[L_S]at hT5⊢
  refine(r34.keepC st5).st (i:=1) st5.sep rfl (by simp) rfl fun I6 st6 r6=>?_
  have hW6:=(hW4.keepS (st5.s (C:=[12]) (by simp))).keepS (st6.s (C:=[17]) (by simp))
  have:=fin tag5 I6 (stA.trans ((st5.s (by simp)).trans (st6.s (by simp)))) ((r14.keepC st5).keep st6) (by rw[hc1];exact r6) (by rw[if_neg k1];exact(r8.keepC st5).keep st6) hW6 (by rw[hc1];exact hT5.keep st6)
  rw[hc1]at this
  exact this
 rw[if_neg k3]
 have k4:o.kind=4:=by
  unfold zC at hw
  split at hw
  .cases hw
  .omega
 rw[if_pos k4]
 have hc1:c=(w.st,[],0,afc w.st o.path o.ver):=by rw[<-hcore];unfold xf;rw[if_neg k1,if_neg k2,if_neg k3]
 have hps:∃ ps,parts o.path=some ps:=by
  unfold zC at hw
  split at hw
  .cases hw
  .cases e:parts o.path with
   | none=>rw[e]at hw;cases hw
   | some ps=>exact⟨ps,rfl⟩
 obtain⟨ps,hps⟩:=hps
 refine qj (tag:=tag4) 19 (st4 []).sep fun x10 tag5 I5 st5 r5=>?_
 have hT5:=hT4.keep (st5 [])
 have hW5:=hW4.keepS ((st5 []).s (C:=[]) (by simp)) (by simp) (by simp) (by simp)
 have r145:=r14.keep (st5 [])
 obtain⟨rs5,es5,a5,_,_⟩:=id hW5.mem
 obtain⟨pw5,hpw5,hgw5⟩:=a5.ptr (st5 []).sep (by simp)
 cases hpw5
 obtain⟨p5,hp5,hg5⟩:=r145.ptr (st5 []).sep (by simp)
 cases hp5
 refine⟨_,rfl,some ⟨T,0,none⟩,hgw5 3 _ rfl,_,hg5 1 _ rfl,?_⟩
 obtain⟨M5,bs5,hA5⟩:=hT5
 have endz:∀ (tag6:Nat->Nat) (I6:AH) (e:Int),zF 0 ro tag5 I5 tag6 I6->∀ v1 v2 v3 v4:Int,(e=0->(∃n,w.st.lookup o.path=some n/\v1=n.ver))->(e≠0->afc w.st o.path o.ver=e)->
   stN ⟨x10,0,none⟩ (fun I=>
    if e=0 then
     ∃(x97_83:Int),qa ro I ((⟨x3,0,none⟩:Addr).add 3)=some (.int .i64 x97_83)/\
     vP B ro (some ⟨W,0,none⟩) x3 x6 x8 x10 e Q (!(decide (x97_83=(-1)))) I
    else
    vP B ro (some ⟨W,0,none⟩) x3 x6 x8 x10 e Q false I) [.int .i64 v1,.int .i64 v2,.int .i64 v3,.int .i64 v4] 0 I6:=by
  intro tag6 I6 e st6 v1 v2 v3 v4 he0 hen
  refine(r5.keepC st6).stAll st6.sep (by simp) (by simp[qh]) fun I7 st7 r7=>?_
  have st57:StepS DC ro tag4 I4 tag6 I7:=((st5 []).s (by simp)).trans ((st6.s (by simp)).trans (st7.s (by simp)))
  have r147:=(r145.keepC st6).keep st7
  have hW7:=(hW5.keepS (st6.s (C:=[0]) (by simp))).keepS (st7.s (C:=[19]) (by simp))
  have hT7:wa tag6 I7 12 T w.st:=⟨M5,bs5,(hA5.keepC st6).keep st7⟩
  obtain⟨p7,hp7,hg7⟩:=r147.ptr st7.sep (by simp)
  cases hp7
  obtain⟨pa,hpa,hga⟩:=r7.ptr st7.sep (by simp)
  cases hpa
  have f8:afc w.st o.path o.ver=c.2.2.2:=by rw[hc1]
  have goal:∀ e',e'=afc w.st o.path o.ver->zE B ro (some ⟨W,0,none⟩) x3 x6 x8 Q e' I7:=fun e' he'=>by
   rw[he',f8]
   exact fin tag6 I7 (stA.trans st57) r147 (by rw[hc1];exact((r34.keep (st5 [])).keepC st6).keep st7) (by rw[if_neg k1];exact((r8.keep (st5 [])).keepC st6).keep st7) hW7 (by rw[hc1];exact hT7)
  by_cases hz:e=0
  .rw[if_pos hz]
   obtain⟨n,hn,hv1⟩:=he0 hz
   have hchk:afc w.st o.path o.ver=if o.ver≠ -1/\o.ver≠n.ver then 72 else 0:=by unfold afc;rw[hn]
   refine⟨o.ver,hg7 3 _ rfl,?_⟩
   unfold vP
   by_cases hm:o.ver= -1
   .rw[show(!decide (o.ver= -1))=false from by simp[hm],if_neg (by decide)]
    unfold kO
    rw[if_neg (by decide)]
    exact goal e (by rw[hchk,if_neg (by simp[hm]),hz])
   .rw[show(!decide (o.ver= -1))=true from by simp[hm],if_pos rfl]
    refine⟨o.ver,hg7 3 _ rfl,v1,hga 0 _ rfl,?_⟩
    unfold kO
    by_cases hv:o.ver=v1
    .rw[show(!decide (o.ver=v1))=false from by simp[hv],if_neg (by decide)]
     exact goal e (by rw[hchk,if_neg (by rw[<-hv1];simp[hv]),hz])
    .rw[show(!decide (o.ver=v1))=true from by simp[hv],if_pos rfl]
     exact goal 72 (by rw[hchk,if_pos ⟨hm,by rw[<-hv1];exact hv⟩])
  .rw[if_neg hz]
   unfold vP
   rw[if_neg (by decide)]
   unfold kO
   rw[if_neg (by decide)]
   exact goal e (hen hz).symm
 refine agb g (by decide) (by decide) (by decide) hA5 (fun p n h=>hi.inv.data p n h) (fun hb=>by rw[L_S,hps]at hb;cases hb) (fun _ _ hmiss tag6 I6 st6=>?_) (fun n hn s tag6 I6 st6 hr6=>?_)
 .rw[L_S]at hmiss
  exact endz tag6 I6 70 st6 0 0 0 0 (fun h=>by cases h) (fun _=>by unfold afc;rw[hmiss])
 .rw[L_S]at hn
  exact endz tag6 I6 0 st6 n.ver n.ctr n.own n.kids (fun _=>⟨n,hn,rfl⟩) (fun h=>absurd rfl h)
def vg(home:Str)(owner qn qb:Int):List MOp->Nat->uG->(Nat×Int) ⊕ uG
 | [],_,w=> .inr w
 | o::os,i,w=>if(doE home owner qn qb w o).1≠0 then .inl (i,(doE home owner qn qb w o).1)else vg home owner qn qb os (i+1) (doE home owner qn qb w o).2
structure as2 where
 st:St
 res:List (Str×Int)
 eff:List (Int×Str)
 bad:Int
 err:Int
def abg(st:St):(Nat×Int) ⊕ uG->as2
 | .inl (i,e)=>⟨st,[],[],i,e⟩
 | .inr w=>⟨w.st,w.res,w.eff,-1,0⟩
def qS(st:St)(home:Str)(owner qn qb:Int)(ops:List MOp):as2:=
 if ops.length=0\/16<ops.length then⟨st,[],[],0,80⟩
 else if owner<1\/4611686018427387903<owner then⟨st,[],[],0,10⟩
 else abg st (vg home owner qn qb ops 0 ⟨srt st,[],[]⟩)
theorem aor{home:Str}{owner qn qb:Int}:∀ {os:List MOp} {i b:Nat} {w w':uG},vg home owner qn qb os i w= .inr w'->ww b w.st->b+os.length<=4398046511103->ww (b+os.length) w'.st:=by
 intro os
 induction os with
 | nil=>intro i b w w' h hi _;cases h;exact hi
 | cons o os ih=>
  intro i b w w' h hi hb
  simp only[List.length_cons]at hb⊢
  unfold vg at h
  split at h
  .cases h
  .have:=ih h (agf hi (by omega)) (by omega)
   rw[show b+(os.length+1)=b+1+os.length by omega];exact this
theorem acC{b:Nat}{st:St}(h:ww b st):ww b (srt st):=by
 have hp:=(vr st).symm
 have hl:=adO hp h.inv.keys
 exact⟨amo hp h.inv,fun k n hk=>h.ver k n (by rw[hl];exact hk),fun k n hk=>h.own k n (by rw[hl];exact hk),fun n hk=>h.rt n (by rw[hl];exact hk),by rw[(vr st).length_eq];exact h.len⟩
theorem aj3{b:Nat}{st:St}{home:Str}{owner qn qb:Int}{ops:List MOp}(h:ww b st)(hb:b<=4398046511000):ww (b+16) (qS st home owner qn qb ops).st:=by
 unfold qS
 split
 .exact h.mono (by omega)
 .rename_i hl
  split
  .exact h.mono (by omega)
  .cases e:vg home owner qn qb ops 0 ⟨srt st,[],[]⟩with
   | inl x=>exact h.mono (by omega)
   | inr w=>exact(aor e (acC h) (by omega)).mono (by omega)
theorem Row.retag{tg:Nat->Nat}{r r':Nat}{e:TypeId}{s:Sl}{l:List Value}(h:Row tag I r e s l)(hr:∀ c,tag c=r->I c≠none->tg c=r'):Row tg I r' e s l:=by
 rcases h with h | ⟨b,cs,ha,ht,hb,hx⟩
 .exact .inl h
 .exact .inr ⟨b,cs,ha,hr b ht (by rw[hb];simp),hb,hx⟩
theorem qq.retag{tg:Nat->Nat}{r r':Nat}{e:TypeId}{w:Nat}{s:Sl}{l:List (List Value)}(h:qq tag I r e w s l)(hr:∀ c,tag c=r->I c≠none->tg c=r'):qq tg I r' e w s l:=by
 rcases h with h | ⟨b,cs,ha,ht,hb,hx⟩
 .exact .inl h
 .exact .inr ⟨b,cs,ha,hr b ht (by rw[hb];simp),hb,hx⟩
theorem zO.retag{tg:Nat->Nat}{r r' b:Nat}{m:KV}(h:zO tag I r b m)(hr:∀ c,tag c=r->I c≠none->tg c=r'):zO tg I r' b m:=by
 obtain⟨es,k,hb,hx⟩:=h.obj
 exact⟨hr b h.tg (by rw[hb];simp),es,k,hb,hx⟩
theorem wa.retag{tg:Nat->Nat}{r T:Nat}{st:St}(h:wa tag I r T st)(hr:∀ c,tag c%64=r%64\/tag c=6->I c≠none->tg c=tag c):wa tg I r T st:=by
 obtain⟨M,bs,h⟩:=h
 refine⟨M,bs,h.keys,h.len,h.nd,Row.retag h.cell fun c hc hn=>?_,zO.retag h.map fun c hc hn=>?_,fun i b p hb hp=>?_⟩
 .rw[hr c (.inl (by rw[hc])) hn,hc]
 .rw[hr c (.inl (by rw[hc];omega)) hn,hc]
 .obtain⟨s,h1,h2⟩:=h.nodes i b p hb hp
  exact⟨s,Row.retag h1 fun c hc hn=>by rw[hr c (.inl (by rw[hc];omega)) hn,hc],Row.retag h2 fun c hc hn=>by rw[hr c (.inr hc) hn,hc]⟩