import Derived.Test.YtomdigihapdhnaaGreatDoorXN
set_option linter.all false
set_option maxRecDepth 99999
set_option maxHeartbeats 0
open Go.IntKind(i64)
open Go.Proofs.Tryz
namespace Go.Proofs.YtomdigihapdhnaaGreatDoor
namespace G
open Go SL
variable{B:ZB}{ro I:AH}
def yL(B:ZB)(ro:AH)(u0:Nat)(Q:Sl->Bool->AH->Prop)(u1:Sl)(I:AH):=
 ∃u2,qa ro I ((⟨u0,0,none⟩:Addr).add 11)=some (.int .i64 u2)/\
 yk B ro u2 I fun u3 I=>
 nw ro I (.cells #[Sl.v u1,Sl.v u3] 24) fun u4 I=>
 jo B ro (⟨some ⟨u4,0,none⟩,2,2⟩:Sl) I fun u5 I=>
 Q u5 true I
def yM(B:ZB)(ro:AH)(u0:Nat)(Q:Sl->Bool->AH->Prop):(Sl×Int)->AH->((Sl×Int)->AH->Prop)->Prop:=fun⟨u1,u2⟩ I Y42=>
 ∃u3,qa ro I ((⟨u0,0,none⟩:Addr).add 10)=some (Sl.v u3)/\
 if u2<(u3.len:Int)then
 ∃u4,qa ro I ((⟨u0,0,none⟩:Addr).add 10)=some (Sl.v u4)/\
 ∃p5,u4.a=some p5/\(0:Int)<=u2/\u2<(u4.len:Int)/\
 ∃u6,qa ro I (p5.add (Int.toNat u2*3))=some (.int .i64 u6)/\
 ∃u7,qa ro I ((⟨u0,0,none⟩:Addr).add 10)=some (Sl.v u7)/\
 ∃p8,u7.a=some p8/\(0:Int)<=u2/\u2<(u7.len:Int)/\
 ∃u9,qa ro I ((p8.add (Int.toNat u2*3)).add 1)=some (.int .i64 u9)/\
 nw ro I (.cells #[.int .i64 u6,.int .i64 u9] 3) fun u10 I=>
 abt B ro (⟨some ⟨u10,0,none⟩,2,2⟩:Sl) I fun u11 I=>
 if u11=true then
  Q (⟨none,0,0⟩:Sl) false I
 else
 jX I fun ψ I=>
  ∃u12,qa (join ro ψ) (fun _=>none) ((⟨u0,0,none⟩:Addr).add 10)=some (Sl.v u12)/\
  ∃p13,u12.a=some p13/\(0:Int)<=u2/\u2<(u12.len:Int)/\
  ∃u14,qa (join ro ψ) (fun _=>none) ((p13.add (Int.toNat u2*3)).add 2)=some (.string u14)/\
  ∃u15,qa (join ro ψ) I ((⟨u0,0,none⟩:Addr).add 10)=some (Sl.v u15)/\
  ∃p16,u15.a=some p16/\(0:Int)<=u2/\u2<(u15.len:Int)/\
  ∃u17,qa (join ro ψ) I (p16.add (Int.toNat u2*3))=some (.int .i64 u17)/\
  ∃u18,qa (join ro ψ) I ((⟨u0,0,none⟩:Addr).add 10)=some (Sl.v u18)/\
  ∃p19,u18.a=some p19/\(0:Int)<=u2/\u2<(u18.len:Int)/\
  ∃u20,qa (join ro ψ) I ((p19.add (Int.toNat u2*3)).add 1)=some (.int .i64 u20)/\
  nw (join ro ψ) I (.cells #[.int .i64 u17,.int .i64 u20] 3) fun u21 I=>
  ab5 B (join ro ψ) (⟨some ⟨u21,0,none⟩,2,2⟩:Sl) I fun u22 I=>
  awp prog (join ro ψ) (convert 9 24 (.string u14)) (fun v I=>
  (∃(u23:Sl),v=Sl.v u23/\
   aaB B (join ro ψ) u23 I fun u24 I=>
   nw (join ro ψ) I (.cells #[Sl.v u1,Sl.v u22,Sl.v u24] 24) fun u25 I=>
   jo B (join ro ψ) (⟨some ⟨u25,0,none⟩,3,3⟩:Sl) I fun u26 I=>
   (qL ψ I->(fun I=>
   Y42 (u26,i64.wrap (u2+1)) I) (join ψ I)))) I
 else
 yL B ro u0 Q u1 I
def yN(B:ZB)(ro:AH)(u0:Nat)(Q:Sl->Bool->AH->Prop)(u1:Sl)(I:AH):=
 ∃u2,qa ro I ((⟨u0,0,none⟩:Addr).add 10)=some (Sl.v u2)/\
 yk B ro (u2.len:Int) I fun u3 I=>
 awp prog ro (Builtin.append_ #[24,24] 24 #[Sl.v u1,Sl.v u3]) (fun v I=> ∃(u4:Sl),v=Sl.v u4/\
 lfpD (yM B ro u0 Q) (u4,0) I) I
def yO(B:ZB)(ro:AH)(u0:Nat)(Q:Sl->Bool->AH->Prop):(Sl×Int)->AH->((Sl×Int)->AH->Prop)->Prop:=fun⟨u1,u2⟩ I Y69=>
 ∃u3,qa ro I ((⟨u0,0,none⟩:Addr).add 9)=some (Sl.v u3)/\
 if u2<(u3.len:Int)then
 ∃u4,qa ro I ((⟨u0,0,none⟩:Addr).add 9)=some (Sl.v u4)/\
 ∃p5,u4.a=some p5/\(0:Int)<=u2/\u2<(u4.len:Int)/\
 ∃u6,qa ro I (p5.add (Int.toNat u2*1))=some (.string u6)/\
 awp prog ro (convert 9 24 (.string u6)) (fun v I=>
  (∃(u7:Sl),v=Sl.v u7/\
  aaB B ro u7 I fun u8 I=>
  awp prog ro (Builtin.append_ #[24,24] 24 #[Sl.v u1,Sl.v u8]) (fun v I=> ∃(u9:Sl),v=Sl.v u9/\
   Y69 (u9,i64.wrap (u2+1)) I) I)) I
 else
 yN B ro u0 Q u1 I
def yP(B:ZB)(ro:AH)(u0:Nat)(Q:Sl->Bool->AH->Prop)(u1:Sl)(I:AH):=
 jX I fun ψ I=>
 ∃u2,qa (join ro ψ) (fun _=>none) ((⟨u0,0,none⟩:Addr).add 4)=some (Sl.v u2)/\
 ∃u3,qa (join ro ψ) (fun _=>none) ((⟨u0,0,none⟩:Addr).add 9)=some (Sl.v u3)/\
 ∃u4,qa (join ro ψ) I ((⟨u0,0,none⟩:Addr).add 3)=some (.int .i64 u4)/\
 yk B (join ro ψ) (i64.wrap (u4+1)) I fun u5 I=>
 aaB B (join ro ψ) u2 I fun u6 I=>
 ab5 B (join ro ψ) (⟨some ((⟨u0,0,none⟩:Addr).add 5),4,4⟩:Sl) I fun u7 I=>
 yk B (join ro ψ) (u3.len:Int) I fun u8 I=>
 nw (join ro ψ) I (.cells #[Sl.v u1,Sl.v u5,Sl.v u6,Sl.v u7,Sl.v u8] 24) fun u9 I=>
 jo B (join ro ψ) (⟨some ⟨u9,0,none⟩,5,5⟩:Sl) I fun u10 I=>
 (qL ψ I->(fun I=>
  lfpD (yO B ro u0 Q) (u10,0) I) (join ψ I))
def yQ(B:ZB)(ro:AH)(u0:Nat)(Q:Sl->Bool->AH->Prop):(Sl×Int)->AH->((Sl×Int)->AH->Prop)->Prop:=fun⟨u1,u2⟩ I Y79=>
 ∃u3,qa ro I ((⟨u0,0,none⟩:Addr).add 2)=some (Sl.v u3)/\
 if u2<(u3.len:Int)then
 ∃u4,qa ro I ((⟨u0,0,none⟩:Addr).add 2)=some (Sl.v u4)/\
 ∃p5,u4.a=some p5/\(0:Int)<=u2/\u2<(u4.len:Int)/\
 ∃u6,qa ro I ((p5.add (Int.toNat u2*2)).add 1)=some (.int .i64 u6)/\
 nw ro I (.cells #[.int .i64 u6] 3) fun u7 I=>
 abt B ro (⟨some ⟨u7,0,none⟩,1,1⟩:Sl) I fun u8 I=>
 if u8=true then
  Q (⟨none,0,0⟩:Sl) false I
 else
 jX I fun ψ I=>
  ∃u9,qa (join ro ψ) (fun _=>none) ((⟨u0,0,none⟩:Addr).add 2)=some (Sl.v u9)/\
  ∃p10,u9.a=some p10/\(0:Int)<=u2/\u2<(u9.len:Int)/\
  ∃u11,qa (join ro ψ) (fun _=>none) ((p10.add (Int.toNat u2*2)).add 1)=some (.int .i64 u11)/\
  ∃u12,qa (join ro ψ) I ((⟨u0,0,none⟩:Addr).add 2)=some (Sl.v u12)/\
  ∃p13,u12.a=some p13/\(0:Int)<=u2/\u2<(u12.len:Int)/\
  ∃u14,qa (join ro ψ) I (p13.add (Int.toNat u2*2))=some (.string u14)/\
  awp prog (join ro ψ) (convert 9 24 (.string u14)) (fun v I=>
  (∃(u15:Sl),v=Sl.v u15/\
   aaB B (join ro ψ) u15 I fun u16 I=>
   yk B (join ro ψ) u11 I fun u17 I=>
   nw (join ro ψ) I (.cells #[Sl.v u1,Sl.v u16,Sl.v u17] 24) fun u18 I=>
   jo B (join ro ψ) (⟨some ⟨u18,0,none⟩,3,3⟩:Sl) I fun u19 I=>
   (qL ψ I->(fun I=>
   Y79 (u19,i64.wrap (u2+1)) I) (join ψ I)))) I
 else
 yP B ro u0 Q u1 I
def kO(B:ZB)(ro:AH)(u0:Nat)(Q:Sl->Bool->AH->Prop)(u1:Bool)(I:AH):=
 if u1=true then
 Q (⟨none,0,0⟩:Sl) false I
 else
 ∃u2,qa ro I ⟨u0,0,none⟩=some (.int .i64 u2)/\
 ∃u3,qa ro I ((⟨u0,0,none⟩:Addr).add 1)=some (.int .i64 u3)/\
 ∃u4,qa ro I ((⟨u0,0,none⟩:Addr).add 2)=some (Sl.v u4)/\
 nw ro I (.cells #[.int .i64 u2,.int .i64 u3,.int .i64 (u4.len:Int)] 3) fun u5 I=>
 ab5 B ro (⟨some ⟨u5,0,none⟩,3,3⟩:Sl) I fun u6 I=>
 lfpD (yQ B ro u0 Q) (u6,0) I
def kP(B:ZB)(ro:AH)(u0:Nat)(Q:Sl->Bool->AH->Prop)(u1:Bool)(I:AH):=
 if u1=true then
 kO B ro u0 Q true I
 else
 abt B ro (⟨some ((⟨u0,0,none⟩:Addr).add 5),4,4⟩:Sl) I fun u2 I=>
 kO B ro u0 Q u2 I
def xn(B:ZB)(ro:AH)(u0:Nat)(Q:Sl->Bool->AH->Prop)(u1:Bool)(I:AH):=
 if u1=true then
 kP B ro u0 Q true I
 else
 ∃u2,qa ro I ⟨u0,0,none⟩=some (.int .i64 u2)/\
 ∃u3,qa ro I ((⟨u0,0,none⟩:Addr).add 1)=some (.int .i64 u3)/\
 ∃u4,qa ro I ((⟨u0,0,none⟩:Addr).add 11)=some (.int .i64 u4)/\
 nw ro I (.cells #[.int .i64 u2,.int .i64 u3,.int .i64 u4] 3) fun u5 I=>
 abt B ro (⟨some ⟨u5,0,none⟩,3,3⟩:Sl) I fun u6 I=>
 kP B ro u0 Q u6 I
def xo(B:ZB)(ro:AH)(u0:Nat)(Q:Sl->Bool->AH->Prop)(u1:Bool)(I:AH):=
 if u1=true then
 xn B ro u0 Q true I
 else
 ∃u2,qa ro I ((⟨u0,0,none⟩:Addr).add 3)=some (.int .i64 u2)/\
 xn B ro u0 Q (decide (4611686018427387902<u2)) I
def xp(B:ZB)(ro:AH)(u0:Nat)(Q:Sl->Bool->AH->Prop)(u1:Bool)(I:AH):=
 if u1=true then
 xo B ro u0 Q true I
 else
 ∃u2,qa ro I ((⟨u0,0,none⟩:Addr).add 3)=some (.int .i64 u2)/\
 xo B ro u0 Q (decide (u2<(-1))) I
def xq(B:ZB)(ro:AH)(u0:Nat)(Q:Sl->Bool->AH->Prop)(u1:Bool)(I:AH):=
 if u1=true then
 xp B ro u0 Q true I
 else
 ∃u2,qa ro I ((⟨u0,0,none⟩:Addr).add 10)=some (Sl.v u2)/\
 xp B ro u0 Q (decide (32<(u2.len:Int))) I
def adP(B:ZB)(ro:AH)(a0_0 a0_1:Int)(a0_2:Sl)(a0_3:Int)(a0_4:Sl)(a0_5 a0_6 a0_7 a0_8:Int)(a0_9 a0_10:Sl)(a0_11:Int)(I:AH)(Q:Sl->Bool->AH->Prop):=
 nw ro I (.cells #[.int .i64 a0_0,.int .i64 a0_1,Sl.v a0_2,.int .i64 a0_3,Sl.v a0_4,.int .i64 a0_5,.int .i64 a0_6,.int .i64 a0_7,.int .i64 a0_8,Sl.v a0_9,Sl.v a0_10,.int .i64 a0_11] 39) fun u0 I=>
 ∃u1,qa ro I ((⟨u0,0,none⟩:Addr).add 2)=some (Sl.v u1)/\
 if 16<(u1.len:Int)then
 xq B ro u0 Q true I
 else
 ∃u2,qa ro I ((⟨u0,0,none⟩:Addr).add 9)=some (Sl.v u2)/\
 xq B ro u0 Q (decide (4096<(u2.len:Int))) I
def akH{a0_0 a0_1 a0_2 a0_3 a0_4 a0_5 a0_6 a0_7 a0_8 a0_9 a0_10 a0_11 Q}(h:Sep ro I->adP B ro a0_0 a0_1 a0_2 a0_3 a0_4 a0_5 a0_6 a0_7 a0_8 a0_9 a0_10 a0_11 I Q):aaX B ro a0_0 a0_1 a0_2 a0_3 a0_4 a0_5 a0_6 a0_7 a0_8 a0_9 a0_10 a0_11 I Q:=by
 refine zb h func13 ntmps13 fun h=>?_;unfold adP at h;refine zw ?_;refine zAp (wt rfl rfl) h fun u0 h=>?_;refine AW.seq ?_;refine zf mP ahn ?_;refine zL nU h fun u1 h=>?_;refine zm (qC rfl rfl nU rfl rfl) ?_;refine zw ?_;refine qI 5 (decide (16<(u1.len:Int))) me h (fun fr I=> ∃(u2:Bool),qo [(1,.pointer (some ⟨u0,0,none⟩)),(17,.bool u2)] fr/\xq B ro u0 Q u2 I) ?_ ?_ ?_
 .intro h e4 hk4;refine zv e4 ?_;exact hk4 _ _ ⟨_,FL,h⟩
 .intro h e4 hk4;refine qO (qW rfl mP rfl aeJ y1 rfl) rfl rfl rfl rfl e4 ?_
  obtain⟨u3,hc,h⟩:=h
  refine Lyb rfl rfl rfl rfl e4 (vc rfl mx rfl rfl hc ?_)
  refine qO (qC rfl rfl mx rfl rfl) rfl rfl rfl rfl e4 ?_
  refine zv e4 ?_;exact hk4 _ _ ⟨_,FL,h⟩
 rintro fr I ⟨u2,hl,h⟩;unfold xq at h;refine Lfr hl ?_
 refine zw ?_;refine qI 5 u2 Iff.rfl h (fun fr I=> ∃(u4:Bool),qo [(1,.pointer (some ⟨u0,0,none⟩)),(23,.bool u4)] fr/\xp B ro u0 Q u4 I) ?_ ?_ ?_
 .intro h e10 hk10;refine zv e10 ?_;exact hk10 _ _ ⟨_,FL,h⟩
 .intro h e10 hk10;refine qO (qW rfl mP rfl afy y1 rfl) rfl rfl rfl rfl e10 ?_
  obtain⟨u5,hc,h⟩:=h
  refine Lyb rfl rfl rfl rfl e10 (vc rfl nu rfl rfl hc ?_)
  refine qO (qC rfl rfl nu rfl rfl) rfl rfl rfl rfl e10 ?_
  refine zv e10 ?_;exact hk10 _ _ ⟨_,FL,h⟩
 rintro fr I ⟨u4,hl,h⟩;unfold xp at h;refine Lfr hl ?_
 refine zw ?_;refine qI 4 u4 Iff.rfl h (fun fr I=> ∃(u6:Bool),qo [(1,.pointer (some ⟨u0,0,none⟩)),(28,.bool u6)] fr/\xo B ro u0 Q u6 I) ?_ ?_ ?_
 .intro h e16 hk16;refine zv e16 ?_;exact hk16 _ _ ⟨_,FL,h⟩
 .intro h e16 hk16;refine qO (qW rfl mP rfl ty3 y1 rfl) rfl rfl rfl rfl e16 ?_
  obtain⟨u7,hc,h⟩:=h
  refine Lyb rfl rfl rfl rfl e16 (vc rfl mf rfl rfl hc ?_)
  refine zv e16 ?_;exact hk16 _ _ ⟨_,FL,h⟩
 rintro fr I ⟨u6,hl,h⟩;unfold xo at h;refine Lfr hl ?_
 refine zw ?_;refine qI 4 u6 Iff.rfl h (fun fr I=> ∃(u8:Bool),qo [(1,.pointer (some ⟨u0,0,none⟩)),(33,.bool u8)] fr/\xn B ro u0 Q u8 I) ?_ ?_ ?_
 .intro h e21 hk21;refine zv e21 ?_;exact hk21 _ _ ⟨_,FL,h⟩
 .intro h e21 hk21;refine qO (qW rfl mP rfl ty3 y1 rfl) rfl rfl rfl rfl e21 ?_
  obtain⟨u9,hc,h⟩:=h
  refine Lyb rfl rfl rfl rfl e21 (vc rfl mf rfl rfl hc ?_)
  refine zv e21 ?_;exact hk21 _ _ ⟨_,FL,h⟩
 rintro fr I ⟨u8,hl,h⟩;unfold xn at h;refine Lfr hl ?_
 refine zw ?_;refine qI 9 u8 Iff.rfl h (fun fr I=> ∃(u10:Bool),qo [(1,.pointer (some ⟨u0,0,none⟩)),(43,.bool u10)] fr/\kP B ro u0 Q u10 I) ?_ ?_ ?_
 .intro h e26 hk26;refine zv e26 ?_;exact hk26 _ _ ⟨_,FL,h⟩
 .intro h e26 hk26;refine qO (qW rfl mP rfl ty3 y1 rfl) rfl rfl rfl rfl e26 ?_
  obtain⟨u11,hc,h⟩:=h
  refine Lyb rfl rfl rfl rfl e26 (vc rfl mf rfl rfl hc ?_)
  refine qO (qW rfl mP rfl ty3 y1 rfl) rfl rfl rfl rfl e26 ?_
  obtain⟨u12,hc,h⟩:=h
  refine Lyb rfl rfl rfl rfl e26 (vc rfl mf rfl rfl hc ?_)
  refine qO (qW rfl mP rfl ty3 y1 rfl) rfl rfl rfl rfl e26 ?_
  obtain⟨u13,hc,h⟩:=h
  refine Lyb rfl rfl rfl rfl e26 (vc rfl mf rfl rfl hc ?_)
  refine Lyb rfl rfl rfl rfl e26 (akd (wj (vs:=[(0,.int .i64 u11),(1,.int .i64 u12),(2,.int .i64 u13)]) (cs:= #[.int .i64 u11,.int .i64 u12,.int .i64 u13]) rfl mO ty3 y1 rfl rfl) fun u14 g1 g2=>?_)
  replace h:=h u14 g1 g2
  refine Lyb rfl rfl rfl rfl e26 (kG rfl func48 rfl rfl rfl (qc.mono h ?_))
  rintro v I ⟨u15,rfl,h⟩;refine zk e26 ?_;exact hk26 _ _ ⟨_,FL,h⟩
 rintro fr I ⟨u10,hl,h⟩;unfold kP at h;refine Lfr hl ?_
 refine zw ?_;refine qI 4 u10 Iff.rfl h (fun fr I=> ∃(u16:Bool),qo [(1,.pointer (some ⟨u0,0,none⟩)),(48,.bool u16)] fr/\kO B ro u0 Q u16 I) ?_ ?_ ?_
 .intro h e36 hk36;refine zv e36 ?_;exact hk36 _ _ ⟨_,FL,h⟩
 .intro h e36 hk36;refine qO (qW rfl mP rfl aqR y1 rfl) rfl rfl rfl rfl e36 ?_
  refine qO (au0 rfl underlying36 ty3 rfl) rfl rfl rfl rfl e36 ?_
  refine Lyb rfl rfl rfl rfl e36 (kG rfl func48 rfl rfl rfl (qc.mono h ?_))
  rintro v I ⟨u17,rfl,h⟩;refine zk e36 ?_;exact hk36 _ _ ⟨_,FL,h⟩
 rintro fr I ⟨u16,hl,h⟩;unfold kO at h;refine Lfr hl ?_
 refine zj h (fun h=>?_) fun h=>?_
 .exact zrr h
 refine zf mP ty3 ?_;refine zL mf h fun u18 h=>?_;refine zf mP ty3 ?_;refine zL mf h fun u19 h=>?_;refine zf mP ahn ?_;refine zL nU h fun u20 h=>?_;refine zm (qC rfl rfl nU rfl rfl) ?_;refine zA (wj (vs:=[(0,.int .i64 u18),(1,.int .i64 u19),(2,.int .i64 (u20.len:Int))]) (cs:= #[.int .i64 u18,.int .i64 u19,.int .i64 (u20.len:Int)]) rfl mO ty3 y1 rfl rfl) h fun u21 h=>?_
 refine zC func49 h fun u22 I h=>?_;refine AW.seqJ (fun fr I=> ∃(u23:Sl),qo [(1,.pointer (some ⟨u0,0,none⟩)),(4,Sl.v u23)] fr/\yP B ro u0 Q u23 I) ?_ ?_
 rotate_left
 .refine zw ?_;refine qi.loop (fr':=[(1,.pointer (some ⟨u0,0,none⟩)),(4,Sl.v u22),(5,.int .i64 0)]) ?_ FL
  refine h (fun⟨u24,u25⟩ I=>qi _ _ _ _ _ _ [(1,.pointer (some ⟨u0,0,none⟩)),(4,Sl.v u24),(5,.int .i64 u25)] I) ?_
  rintro⟨u24,u25⟩ I Y79 hY79 h
  show AW _ _ _ _ _ _ _ _
  unfold yQ at h;dsimp only at h;refine AW.seq ?_;refine zf mP ahn ?_;refine zL nU h fun u26 h=>?_;refine zm (qC rfl rfl nU rfl rfl) ?_;refine zi h (fun h=>?_) fun h=>?_
  rotate_left
  .refine AW.exit ?_;refine zw ?_;refine qX ?_
   refine zw ?_;exact⟨_,FL,h⟩
  refine zw ?_;refine AW.seq ?_;refine zw ?_;refine AW.seq ?_;refine zf mP ahn ?_;refine zLp nU h fun u27 h=>?_;obtain⟨p28,ha,h0,h1,h⟩:=h
  refine zm (wO rfl nU alV (ixL rfl ha) rfl h0 h1) ?_;refine zf Ph ty3 ?_;refine zL mf h fun u29 h=>?_;refine zA (wj (vs:=[(0,.int .i64 u29)]) (cs:= #[.int .i64 u29]) rfl mO ty3 y1 rfl rfl) h fun u30 h=>?_;refine zc func48 h ?_;rintro v I ⟨u31,rfl,h⟩;refine zj h (fun h=>?_) fun h=>?_
  .exact zrr h
  refine zw ?_;refine AW.drawnL (fun i=>([0,0,3,0,0,0,3,2,2,0,0,0,0,0,0,2,1,2,0]:List Nat).getD i 2) [(2,4),(2,5),(2,6),(2,7),(2,8),(2,15),(2,16),(2,17),(6,7),(6,8),(6,15),(6,16),(6,17),(7,8),(7,15),(7,16),(7,17),(8,16),(8,17)] [0,1,3,9,10,11,12,13,14,2,4,5,6,7,8,15,16,17,18] mixed h j3 ?_
  clear h
  intro ψ I h
  refine zg mP ahn ?_;refine zg mP ahn ?_;refine zS nU h fun u32 h=>?_;refine zw ?_;obtain⟨p33,ha,h0,h1,h⟩:=h
  refine Dp rfl rfl rfl rfl (wO rfl nU alV (ixL rfl ha) rfl h0 h1) ?_
  refine zg Ph ty3 ?_;refine zS mf h fun u34 h=>?_;refine zR nU h fun u35 h=>?_;obtain⟨p36,ha,h0,h1,h⟩:=h
  refine Dp rfl rfl rfl rfl (wO rfl nU alV (ixL rfl ha) rfl h0 h1) ?_
  refine zg Ph ty9 ?_;refine zR mo h fun u37 h=>?_;refine Dg rfl rfl rfl rfl (ake rfl rfl (qk _ h ?_))
  rintro v I ⟨u38,rfl,h⟩;refine zG func51 h ?_;rintro v I ⟨u39,rfl,h⟩;refine zG func52 h ?_;rintro v I ⟨u40,rfl,h⟩;refine Da rfl rfl rfl rfl (wj (vs:=[(0,Sl.v u24),(1,Sl.v u39),(2,Sl.v u40)]) (cs:= #[Sl.v u24,Sl.v u39,Sl.v u40]) rfl nW wg y1 rfl rfl) fun u41 g1 g2=>?_
  replace h:=h u41 g1 g2
  refine zG func50 h ?_;rintro v I ⟨u42,rfl,h⟩;refine zw ?_;refine⟨_,wW.refl _,fun hdj=>?_⟩
  replace h:=h hdj
  refine zw ?_;refine qi.head (fr':=[(1,.pointer (some ⟨u0,0,none⟩)),(4,Sl.v u42),(5,.int .i64 (i64.wrap (u25+1)))]) ?_ FL
  exact hY79 _ _ h
 rintro fr I ⟨u23,hl,h⟩;refine AW.weaken ?_ hl (HLe.refl _)
 unfold yP at h;refine AW.seq ?_;refine AW.drawnL (fun i=>([0,0,3,0,2,0,0,2,0,0,2,0,0,0,2,1,2,0]:List Nat).getD i 2) [(2,3),(2,4),(2,7),(2,10),(2,14),(2,15),(2,16),(4,7),(4,10),(4,14),(4,15),(4,16),(7,10),(7,14),(7,15),(7,16),(10,15),(10,16)] [0,1,5,6,8,9,11,12,13,2,3,4,7,10,14,15,16,17] mixed h j3 ?_
 clear h
 intro ψ I h
 refine zg mP ty3 ?_;refine zg mP wg ?_;refine zS mn h fun u43 h=>?_;refine zg mP aqR ?_;refine Dp rfl rfl rfl rfl (au0 rfl underlying36 ty3 rfl) ?_
 refine zg mP aeJ ?_;refine zS mx h fun u44 h=>?_;refine Dp rfl rfl rfl rfl (qC rfl rfl mx rfl rfl) ?_
 refine zR mf h fun u45 h=>?_;refine zG func52 h ?_;rintro v I ⟨u46,rfl,h⟩;refine zG func51 h ?_;rintro v I ⟨u47,rfl,h⟩;refine zG func49 h ?_;rintro v I ⟨u48,rfl,h⟩;refine zG func52 h ?_;rintro v I ⟨u49,rfl,h⟩;refine Da rfl rfl rfl rfl (wj (vs:=[(0,Sl.v u23),(1,Sl.v u46),(2,Sl.v u47),(3,Sl.v u48),(4,Sl.v u49)]) (cs:= #[Sl.v u23,Sl.v u46,Sl.v u47,Sl.v u48,Sl.v u49]) rfl nW wg y1 rfl rfl) fun u50 g1 g2=>?_
 replace h:=h u50 g1 g2
 refine zG func50 h ?_;rintro v I ⟨u51,rfl,h⟩;refine zw ?_;refine⟨_,wW.refl _,fun hdj=>?_⟩
 replace h:=h hdj
 refine zw ?_;refine AW.seqJ (fun fr I=> ∃(u52:Sl),qo [(1,.pointer (some ⟨u0,0,none⟩)),(4,Sl.v u52)] fr/\yN B ro u0 Q u52 I) ?_ ?_
 rotate_left
 .refine zw ?_;refine qi.loop (fr':=[(1,.pointer (some ⟨u0,0,none⟩)),(4,Sl.v u51),(6,.int .i64 0)]) ?_ FL
  refine h (fun⟨u53,u54⟩ I=>qi _ _ _ _ _ _ [(1,.pointer (some ⟨u0,0,none⟩)),(4,Sl.v u53),(6,.int .i64 u54)] I) ?_
  rintro⟨u53,u54⟩ I Y69 hY69 h
  show AW _ _ _ _ _ _ _ _
  unfold yO at h;dsimp only at h;refine AW.seq ?_;refine zf mP aeJ ?_;refine zL mx h fun u55 h=>?_;refine zm (qC rfl rfl mx rfl rfl) ?_;refine zi h (fun h=>?_) fun h=>?_
  rotate_left
  .refine AW.exit ?_;refine zw ?_;refine qX ?_
   refine zw ?_;exact⟨_,FL,h⟩
  refine zw ?_;refine AW.seq ?_;refine zf mP aeJ ?_;refine zLp mx h fun u56 h=>?_;obtain⟨p57,ha,h0,h1,h⟩:=h
  refine zm (wO rfl mx ty9 (ixL rfl ha) rfl h0 h1) ?_;refine zL mo h fun u58 h=>?_;refine zl (ake rfl rfl (qk _ h ?_))
  rintro v I ⟨u59,rfl,h⟩;refine zc func51 h ?_;rintro v I ⟨u60,rfl,h⟩;refine zl (vZ (s:=Builtin.append_ #[24,24] 24 #[Sl.v u53,Sl.v u60]) rfl rfl (fun _=>rfl) (qk _ h ?_))
  rintro v I ⟨u61,rfl,h⟩;refine zw ?_;refine qi.head (fr':=[(1,.pointer (some ⟨u0,0,none⟩)),(4,Sl.v u61),(6,.int .i64 (i64.wrap (u54+1)))]) ?_ FL
  exact hY69 _ _ h
 rintro fr I ⟨u52,hl,h⟩;refine AW.weaken ?_ hl (HLe.refl _)
 unfold yN at h;refine zf mP afy ?_;refine zL nu h fun u62 h=>?_;refine zm (qC rfl rfl nu rfl rfl) ?_;refine zc func52 h ?_;rintro v I ⟨u63,rfl,h⟩;refine zl (vZ (s:=Builtin.append_ #[24,24] 24 #[Sl.v u52,Sl.v u63]) rfl rfl (fun _=>rfl) (qk _ h ?_))
 rintro v I ⟨u64,rfl,h⟩;refine zw ?_;refine AW.seqJ (fun fr I=> ∃(u65:Sl),qo [(1,.pointer (some ⟨u0,0,none⟩)),(4,Sl.v u65)] fr/\yL B ro u0 Q u65 I) ?_ ?_
 .rintro fr I ⟨u65,hl,h⟩;refine AW.weaken ?_ hl (HLe.refl _)
  unfold yL at h;refine zf mP ty3 ?_;refine zL mf h fun u66 h=>?_;refine zc func52 h ?_;rintro v I ⟨u67,rfl,h⟩;refine zA (wj (vs:=[(0,Sl.v u65),(1,Sl.v u67)]) (cs:= #[Sl.v u65,Sl.v u67]) rfl nW wg y1 rfl rfl) h fun u68 h=>?_;refine zc func50 h ?_;rintro v I ⟨u69,rfl,h⟩;exact zrr h
 refine zw ?_;refine qi.loop (fr':=[(1,.pointer (some ⟨u0,0,none⟩)),(4,Sl.v u64),(7,.int .i64 0)]) ?_ FL
 refine h (fun⟨u70,u71⟩ I=>qi _ _ _ _ _ _ [(1,.pointer (some ⟨u0,0,none⟩)),(4,Sl.v u70),(7,.int .i64 u71)] I) ?_
 rintro⟨u70,u71⟩ I Y42 hY42 h
 show AW _ _ _ _ _ _ _ _
 unfold yM at h;dsimp only at h;refine AW.seq ?_;refine zf mP afy ?_;refine zL nu h fun u72 h=>?_;refine zm (qC rfl rfl nu rfl rfl) ?_;refine zi h (fun h=>?_) fun h=>?_
 rotate_left
 .refine AW.exit ?_;refine zw ?_;refine qX ?_
  refine zw ?_;exact⟨_,FL,h⟩
 refine zw ?_;refine AW.seq ?_;refine zw ?_;refine AW.seq (AW.seq ?_);refine AW.drawn0 (fun i=>([0,3,0,0,0,3,0,3,0,0,0,3,1,2]:List Nat).getD i 2) [(1,3),(1,4),(1,5),(1,12),(1,13),(5,12),(5,13),(7,9),(7,10),(7,11),(7,12),(7,13),(11,12),(11,13)] [0,2,6,8,1,3,4,5,7,9,10,11,12,13] mixed j3 ?_
 refine zg mP afy ?_;refine zg mP afy ?_;refine zR nu h fun u73 h=>?_;obtain⟨p74,ha,h0,h1,h⟩:=h
 refine Dp rfl rfl rfl rfl (wO rfl nu ain (ixL rfl ha) rfl h0 h1) ?_
 refine zg LO ty3 ?_;refine zR mf h fun u75 h=>?_;refine zR nu h fun u76 h=>?_;obtain⟨p77,ha,h0,h1,h⟩:=h
 refine Dp rfl rfl rfl rfl (wO rfl nu ain (ixL rfl ha) rfl h0 h1) ?_
 refine zg LO ty3 ?_;refine zR mf h fun u78 h=>?_;refine Da rfl rfl rfl rfl (wj (vs:=[(0,.int .i64 u75),(1,.int .i64 u78)]) (cs:= #[.int .i64 u75,.int .i64 u78]) rfl mO ty3 y1 rfl rfl) fun u79 g1 g2=>?_
 replace h:=h u79 g1 g2
 refine zG func48 h ?_;rintro v I ⟨u80,rfl,h⟩;refine wG ?_
 refine zj h (fun h=>?_) fun h=>?_
 .exact zrr h
 refine zw ?_;refine AW.drawnL (fun i=>([0,0,3,0,0,0,3,0,3,0,0,0,3,1,2,0,0,0,0,0,0,1,2,1,2,0]:List Nat).getD i 2) [(2,4),(2,5),(2,6),(2,13),(2,14),(2,22),(2,23),(2,24),(6,13),(6,14),(6,22),(6,23),(6,24),(8,10),(8,11),(8,12),(8,13),(8,14),(8,22),(8,23),(8,24),(12,13),(12,14),(12,22),(12,23),(12,24),(13,14),(13,22),(13,23),(13,24),(14,23),(14,24),(21,22),(21,23),(21,24)] [0,1,3,7,9,15,16,17,18,19,20,2,4,5,6,8,10,11,12,13,14,21,22,23,24,25] mixed h j3 ?_
 clear h
 intro ψ I h
 refine zg mP afy ?_;refine zg mP afy ?_;refine zg mP afy ?_;refine zS nu h fun u81 h=>?_;refine zw ?_;obtain⟨p82,ha,h0,h1,h⟩:=h
 refine Dp rfl rfl rfl rfl (wO rfl nu ain (ixL rfl ha) rfl h0 h1) ?_
 refine zg LO ty9 ?_;refine zS mo h fun u83 h=>?_;refine zR nu h fun u84 h=>?_;obtain⟨p85,ha,h0,h1,h⟩:=h
 refine Dp rfl rfl rfl rfl (wO rfl nu ain (ixL rfl ha) rfl h0 h1) ?_
 refine zg LO ty3 ?_;refine zR mf h fun u86 h=>?_;refine zR nu h fun u87 h=>?_;obtain⟨p88,ha,h0,h1,h⟩:=h
 refine Dp rfl rfl rfl rfl (wO rfl nu ain (ixL rfl ha) rfl h0 h1) ?_
 refine zg LO ty3 ?_;refine zR mf h fun u89 h=>?_;refine Da rfl rfl rfl rfl (wj (vs:=[(0,.int .i64 u86),(1,.int .i64 u89)]) (cs:= #[.int .i64 u86,.int .i64 u89]) rfl mO ty3 y1 rfl rfl) fun u90 g1 g2=>?_
 replace h:=h u90 g1 g2
 refine zG func49 h ?_;rintro v I ⟨u91,rfl,h⟩;refine Dc rfl rfl rfl rfl (awI rfl mo mn La rfl) (ake rfl rfl (qk _ h ?_))
 rintro v I ⟨u92,rfl,h⟩;refine zG func51 h ?_;rintro v I ⟨u93,rfl,h⟩;refine Da rfl rfl rfl rfl (wj (vs:=[(0,Sl.v u70),(1,Sl.v u91),(2,Sl.v u93)]) (cs:= #[Sl.v u70,Sl.v u91,Sl.v u93]) rfl nW wg y1 rfl rfl) fun u94 g1 g2=>?_
 replace h:=h u94 g1 g2
 refine zG func50 h ?_;rintro v I ⟨u95,rfl,h⟩;refine zw ?_;refine⟨_,wW.refl _,fun hdj=>?_⟩
 replace h:=h hdj
 refine zw ?_;refine qi.head (fr':=[(1,.pointer (some ⟨u0,0,none⟩)),(4,Sl.v u95),(7,.int .i64 (i64.wrap (u71+1)))]) ?_ FL
 exact hY42 _ _ h
def uC(B:ZB)(ro:AH)(Q:Bool->AH->Prop)(u0:Bool)(I:AH):=
 Q u0 I
def agL(B:ZB)(ro:AH)(a0_0 a0_1:Int)(a0_2:Sl)(a0_3:Int)(a0_4:Sl)(a0_5 a0_6 a0_7 a0_8:Int)(a0_9 a0_10:Sl)(a0_11 a1_0 a1_1:Int)(a1_2:Sl)(a1_3:Int)(a1_4:Sl)(a1_5 a1_6 a1_7 a1_8:Int)(a1_9 a1_10:Sl)(a1_11:Int)(I:AH)(Q:Bool->AH->Prop):=
 nw ro I (.cells #[.int .i64 a0_0,.int .i64 a0_1,Sl.v a0_2,.int .i64 a0_3,Sl.v a0_4,.int .i64 a0_5,.int .i64 a0_6,.int .i64 a0_7,.int .i64 a0_8,Sl.v a0_9,Sl.v a0_10,.int .i64 a0_11] 39) fun u0 I=>
 nw ro I (.cells #[.int .i64 a1_0,.int .i64 a1_1,Sl.v a1_2,.int .i64 a1_3,Sl.v a1_4,.int .i64 a1_5,.int .i64 a1_6,.int .i64 a1_7,.int .i64 a1_8,Sl.v a1_9,Sl.v a1_10,.int .i64 a1_11] 39) fun u1 I=>
 ∃u2 u3 u4 u5 u6 u7 u8 u9 u10 u11 u12 u13,qe ro I ⟨u0,0,none⟩ 0 [.int .i64 u2,.int .i64 u3,Sl.v u4,.int .i64 u5,Sl.v u6,.int .i64 u7,.int .i64 u8,.int .i64 u9,.int .i64 u10,Sl.v u11,Sl.v u12,.int .i64 u13]/\
 aaX B ro u2 u3 u4 u5 u6 u7 u8 u9 u10 u11 u12 u13 I fun u14 u15 I=>
 ∃u16 u17 u18 u19 u20 u21 u22 u23 u24 u25 u26 u27,qe ro I ⟨u1,0,none⟩ 0 [.int .i64 u16,.int .i64 u17,Sl.v u18,.int .i64 u19,Sl.v u20,.int .i64 u21,.int .i64 u22,.int .i64 u23,.int .i64 u24,Sl.v u25,Sl.v u26,.int .i64 u27]/\
 aaX B ro u16 u17 u18 u19 u20 u21 u22 u23 u24 u25 u26 u27 I fun u28 u29 I=>
 if(u15=true)/\(u29=true)then
 ago B ro u14 u28 I fun u30 I=>
 uC B ro Q u30 I
 else
 uC B ro Q false I
def aod{a0_0 a0_1 a0_2 a0_3 a0_4 a0_5 a0_6 a0_7 a0_8 a0_9 a0_10 a0_11 a1_0 a1_1 a1_2 a1_3 a1_4 a1_5 a1_6 a1_7 a1_8 a1_9 a1_10 a1_11 Q}(h:Sep ro I->agL B ro a0_0 a0_1 a0_2 a0_3 a0_4 a0_5 a0_6 a0_7 a0_8 a0_9 a0_10 a0_11 a1_0 a1_1 a1_2 a1_3 a1_4 a1_5 a1_6 a1_7 a1_8 a1_9 a1_10 a1_11 I Q):agp B ro a0_0 a0_1 a0_2 a0_3 a0_4 a0_5 a0_6 a0_7 a0_8 a0_9 a0_10 a0_11 a1_0 a1_1 a1_2 a1_3 a1_4 a1_5 a1_6 a1_7 a1_8 a1_9 a1_10 a1_11 I Q:=by
 refine zb h func19 ntmps19 fun h=>?_;unfold agL at h;refine zw ?_;refine zA (wt rfl rfl) h fun u0 h=>?_;refine zAp (wt rfl rfl) h fun u1 h=>?_;obtain⟨u2,u3,u4,u5,u6,u7,u8,u9,u10,u11,u12,u13,hc,h⟩:=h
 refine zl (wq rfl mP rfl aim rfl hc ?_)
 refine zc func13 h ?_;rintro v I ⟨u14,u15,rfl,h⟩;refine zw ?_;obtain⟨u16,u17,u18,u19,u20,u21,u22,u23,u24,u25,u26,u27,hc,h⟩:=h
 refine zl (wq rfl mP rfl aim rfl hc ?_)
 refine zc func13 h ?_;rintro v I ⟨u28,u29,rfl,h⟩;refine zw ?_;refine wY 2 u15 [(5,Sl.v u14),(7,Sl.v u28),(22,.bool (u15 && u29))] ?_ ?_ ?_
 .intro e1 hk1
  refine zv e1 ?_;exact hk1 _ (Fe e1)
 .intro e1 hk1
  refine zv e1 ?_;exact hk1 _ (Fe e1)
 intro fr hl
 refine Lfr hl ?_
 refine zw ?_;refine qI 4 (u15 && u29) (ab2 Iff.rfl Iff.rfl) h (fun fr I=> ∃(u30:Bool),qo [(27,.bool u30)] fr/\uC B ro Q u30 I) ?_ ?_ ?_
 .intro h e4 hk4;refine zv e4 ?_;refine Lyb rfl rfl rfl rfl e4 (kG rfl func18 rfl rfl rfl (qc.mono h ?_))
  rintro v I ⟨u31,rfl,h⟩;refine zk e4 ?_;exact hk4 _ _ ⟨_,FL,h⟩
 .intro h e4 hk4;refine zv e4 ?_;exact hk4 _ _ ⟨_,FL,h⟩
 rintro fr I ⟨u30,hl,h⟩;unfold uC at h;refine Lfr hl ?_
 exact zr h
def aex(B:ZB)(ro:AH)(Q:Bool->AH->Prop)(I:AH):=
 Q false I
def act(B:ZB)(ro:AH)(a0:Sl)(Q:Bool->AH->Prop):Int->AH->(Int->AH->Prop)->Prop:=fun u0 I Y2=>
 if u0<(a0.len:Int)then
 ∃p1,a0.a=some p1/\(0:Int)<=u0/\u0<(a0.len:Int)/\
 ∃u2,qa ro I (p1.add (Int.toNat u0*1))=some (.int .i64 u2)/\
 akQ B ro u2 I fun u3 I=>
 if u3=true then
  Q true I
 else
 Y2 (i64.wrap (u0+1)) I
 else
 aex B ro Q I
def ahF(B:ZB)(ro:AH)(a0:Sl)(I:AH)(Q:Bool->AH->Prop):=
 lfpD (act B ro a0 Q) (0) I
def apd{a0 Q}(h:Sep ro I->ahF B ro a0 I Q):abt B ro a0 I Q:=by
 refine zb h func48 ntmps48 fun h=>?_;unfold ahF at h;refine zw ?_;refine AW.seqJ (fun fr I=>qo [] fr/\aex B ro Q I) ?_ ?_
 .rintro fr I ⟨hl,h⟩;refine AW.weaken ?_ hl (HLe.refl _)
  unfold aex at h;exact zr h
 refine zw ?_;refine qi.loop (fr':=[(0,Sl.v a0),(3,.int .i64 0)]) ?_ FL
 refine h (fun u0 I=>qi _ _ _ _ _ _ [(0,Sl.v a0),(3,.int .i64 u0)] I) ?_
 rintro u0 I Y2 hY2 h
 show AW _ _ _ _ _ _ _ _
 unfold act at h;refine AW.seq ?_;refine zw ?_;refine zm (qC rfl rfl mO rfl rfl) ?_;refine zi h (fun h=>?_) fun h=>?_
 rotate_left
 .refine AW.exit ?_;refine zw ?_;refine qX ?_
  refine zw ?_;exact⟨FL,h⟩
 refine zw ?_;refine AW.seq ?_;refine zw ?_;obtain⟨p1,ha,h0,h1,h⟩:=h
 refine zm (wO rfl mO ty3 (ixL rfl ha) rfl h0 h1) ?_;refine zL mf h fun u2 h=>?_;refine zc func118 h ?_;rintro v I ⟨u3,rfl,h⟩;refine zj h (fun h=>?_) fun h=>?_
 .exact zr h
 refine zw ?_;refine qi.head (fr':=[(0,Sl.v a0),(3,.int .i64 (i64.wrap (u0+1)))]) ?_ FL
 exact hY2 _ _ h
def adp(B:ZB)(ro:AH)(Q:Sl->AH->Prop)(u0:Sl)(I:AH):=
 Q u0 I
def abp(B:ZB)(ro:AH)(a0:Sl)(Q:Sl->AH->Prop):(Sl×Int)->AH->((Sl×Int)->AH->Prop)->Prop:=fun⟨u0,u1⟩ I Y4=>
 if u1<(a0.len:Int)then
 ∃p2,a0.a=some p2/\(0:Int)<=u1/\u1<(a0.len:Int)/\
 ∃u3,qa ro I (p2.add (Int.toNat u1*1))=some (.int .i64 u3)/\
 yk B ro u3 I fun u4 I=>
 awp prog ro (Builtin.append_ #[24,24] 24 #[Sl.v u0,Sl.v u4]) (fun v I=> ∃(u5:Sl),v=Sl.v u5/\
  Y4 (u5,i64.wrap (u1+1)) I) I
 else
 adp B ro Q u0 I
def agM(B:ZB)(ro:AH)(a0:Sl)(I:AH)(Q:Sl->AH->Prop):=
 nw ro I (.cells #[] 5) fun u0 I=>
 lfpD (abp B ro a0 Q) ((⟨some ⟨u0,0,none⟩,0,0⟩:Sl),0) I
def aoe{a0 Q}(h:Sep ro I->agM B ro a0 I Q):ab5 B ro a0 I Q:=by
 refine zb h func49 ntmps49 fun h=>?_;unfold agM at h;refine zw ?_;refine zAp (wj (vs:=[]) (cs:= #[]) rfl mn ty5 y1 rfl rfl) h fun u0 h=>?_;refine AW.seqJ (fun fr I=> ∃(u1:Sl),qo [(3,Sl.v u1)] fr/\adp B ro Q u1 I) ?_ ?_
 .rintro fr I ⟨u1,hl,h⟩;refine AW.weaken ?_ hl (HLe.refl _)
  unfold adp at h;exact zr h
 refine zw ?_;refine qi.loop (fr':=[(0,Sl.v a0),(3,Sl.v (⟨some ⟨u0,0,none⟩,0,0⟩:Sl)),(4,.int .i64 0)]) ?_ FL
 refine h (fun⟨u2,u3⟩ I=>qi _ _ _ _ _ _ [(0,Sl.v a0),(3,Sl.v u2),(4,.int .i64 u3)] I) ?_
 rintro⟨u2,u3⟩ I Y4 hY4 h
 show AW _ _ _ _ _ _ _ _
 unfold abp at h;dsimp only at h;refine AW.seq ?_;refine zw ?_;refine zm (qC rfl rfl mO rfl rfl) ?_;refine zi h (fun h=>?_) fun h=>?_
 rotate_left
 .refine AW.exit ?_;refine zw ?_;refine qX ?_
  refine zw ?_;exact⟨_,FL,h⟩
 refine zw ?_;refine AW.seq ?_;refine zw ?_;obtain⟨p4,ha,h0,h1,h⟩:=h
 refine zm (wO rfl mO ty3 (ixL rfl ha) rfl h0 h1) ?_;refine zL mf h fun u5 h=>?_;refine zc func52 h ?_;rintro v I ⟨u6,rfl,h⟩;refine zl (vZ (s:=Builtin.append_ #[24,24] 24 #[Sl.v u2,Sl.v u6]) rfl rfl (fun _=>rfl) (qk _ h ?_))
 rintro v I ⟨u7,rfl,h⟩;refine zw ?_;refine qi.head (fr':=[(0,Sl.v a0),(3,Sl.v u7),(4,.int .i64 (i64.wrap (u3+1)))]) ?_ FL
 exact hY4 _ _ h
end G
namespace SL
open Go
variable{ro I I' I1:AH}{tag tag' tag1:Nat->Nat}
def aiZ{x:Nat}(hx:x≠0)(st:qd [x] ro (fun _=>0) I tag1 I1)(tag:Nat->Nat)(y:Nat):
  ∃tag',(∀R,qd R ro tag I tag' I1)/\∀ e s l,Row tag1 I1 x e s l->Row tag' I1 y e s l:=by
 refine⟨fun c=>if(I c).isSome then tag c else y,fun R=>⟨fun b o hb _=>⟨by simp[hb],?_⟩,fun b o hb=>⟨by simp[hb],o,?_⟩,st.sep⟩,fun e s l h=>?_⟩
 .exact(st.keep b o hb j2).2
 .exact(st.keep b o hb j2).2
 .rcases h with h | ⟨b,cs,ha,ht,hb,hx'⟩
  .exact .inl h
  .refine .inr ⟨b,cs,ha,?_,hb,hx'⟩
   cases e:I b with
   | none=>simp[e]
   | some o=>
    have:=(st.old b o e).1
    rw[ht]at this;exact mt this hx
def qJ.fresh{x:Nat}{s:Sl}{l:List Value}(hx:x≠0)(h:qJ ro I s l)(st:qd [x] ro (fun _=>0) I tag1 I1):qJ ro I1 s l:=by
 obtain⟨tg,k,_⟩:=aiZ hx st (fun _=>0) 0
 exact h.step (k [])
end SL
namespace Zt
open Go SL G Pa Wi
variable{B:ZB}{ro I I':AH}{tag tag':Nat->Nat}
variable{l:List Int}{ss:List Sl}{ls:List Str}{x:Rep}{a0 ds es ns rs:Sl}{Q:Sl->AH->Prop}
def aeX{x:Int}(h0:0<=x)(hx:x<=4611686018427387903)(hQ:∀ s tag' I',(∀R,qd R ro tag I tag' I')->Row tag' I' 6 5 s ((qH x.toNat).map vU)->Q s I'):yk B ro x I Q:=by
 refine aoR fun hs=>?_
 unfold ahC
 refine qf (tag:=fun _=>0) 1 hs fun b tag1 I1 st1 r1=>?_
 have fin:∀ s tag2 I2,qd [1] ro (fun _=>0) I tag2 I2->Row tag2 I2 1 5 s ((qH x.toNat).map vU)->Q s I2:=fun s tag2 I2 st2 r2=>by
  obtain⟨tg,k1,k2⟩:=aiZ y1 st2 tag 6
  exact hQ s tg I2 k1 (k2 _ _ _ r2)
 suffices∀(m:Nat) (n:Nat) (acc:Str) (s:Sl) tag2 I2,n<128 ^ (m+1)->n<=4611686018427387903->acc.length+m<=20->acc++qH n=qH x.toNat->qd [1] ro (fun _=>0) I tag2 I2->Row tag2 I2 1 5 s (acc.map vU)->lfpD (aci B ro Q) ((n:Int),s) I2 by
  have:=this 10 x.toNat [] _ tag1 I1 z7 z7 y0 rfl (st1 _) r1
  rwa [LS h0]at this
 intro m
 induction m with
 | zero=>
  intro n acc s tag2 I2 hn hn2 hl he st2 r2
  refine lfpD.intro ?_
  unfold aci
  simp only
  rw[ma z7]
  unfold ach
  refine qf (tag:=tag2) 0 st2.sep fun c tag3 I3 st3 r3=>?_
  refine abr (r2.keep (st3 [])) (st3 []).sep u30 ty5 rfl rfl (Row.cell1 r3 (st3 []).sep) rfl (by rw[mg];omega) y1 fun s' tag4 I4 st4 r4=>?_
  refine⟨s',rfl,fin s' tag4 I4 (st2.trans ((st3 _).trans st4)) ?_⟩
  rw[<-he]
  unfold qH
  rw[mc z7,my]
  have:IntKind.u8.wrap (n:Int)=((UInt8.ofNat n).toNat:Int):=by
   rw[adn n z7]
   simp[IntKind.wrap,IntKind.signed,IntKind.bits];omega
  rw[this]at r4
  exact r4
 | succ m ih=>
  intro n acc s tag2 I2 hn hn2 hl he st2 r2
  refine lfpD.intro ?_
  unfold aci
  simp only
  by_cases c:128<=n
  .rw[mc z7]
   refine qf (tag:=tag2) 0 st2.sep fun c' tag3 I3 st3 r3=>?_
   refine abr (r2.keep (st3 [])) (st3 []).sep u30 ty5 rfl rfl (Row.cell1 r3 (st3 []).sep) rfl (by rw[mg];omega) y1 fun s' tag4 I4 st4 r4=>?_
   refine⟨s',rfl,?_⟩
   have e1:i64.wrap (Int.tdiv (n:Int) 128)=((n / 128:Nat):Int):=by
    rw[Int.tdiv_eq_ediv_of_nonneg z7,SL.qY z7 z7];omega
   rw[e1]
   have e2:IntKind.u8.wrap (i64.wrap (128+(Int.tmod (n:Int) 128)))=((UInt8.ofNat (n%128+128)).toNat:Int):=by
    rw[adn _ z7,Int.tmod_eq_emod_of_nonneg z7,SL.qY z7 z7]
    simp[IntKind.wrap,IntKind.signed,IntKind.bits];omega
   rw[e2]at r4
   refine ih (n / 128) (acc++[UInt8.ofNat (n%128+128)]) s' tag4 I4 ?_ z7 j2 ?_ (st2.trans ((st3 _).trans st4)) (by rw[my];exact r4)
   .rw[Nat.pow_succ]at hn
    exact Nat.div_lt_of_lt_mul z7
   .rw[<-he]
    conv=>rhs;unfold qH
    rw[ma z7,nl];try rfl
  .rw[ma z7]
   unfold ach
   refine qf (tag:=tag2) 0 st2.sep fun c tag3 I3 st3 r3=>?_
   refine abr (r2.keep (st3 [])) (st3 []).sep u30 ty5 rfl rfl (Row.cell1 r3 (st3 []).sep) rfl (by rw[mg];omega) y1 fun s' tag4 I4 st4 r4=>?_
   refine⟨s',rfl,fin s' tag4 I4 (st2.trans ((st3 _).trans st4)) ?_⟩
   rw[<-he]
   unfold qH
   rw[mc z7,my]
   have:IntKind.u8.wrap (n:Int)=((UInt8.ofNat n).toNat:Int):=by
    rw[adn n z7]
    simp[IntKind.wrap,IntKind.signed,IntKind.bits];omega
   rw[this]at r4
   exact r4
def rjoin_ok(h:SL.qJ ro I a0 (ss.map Sl.v))(hl:ls.length=ss.length)(hd:∀ (i:Nat) (s:Sl) (l:Str),ss[i]?=some s->ls[i]?=some l->SL.qJ ro I s (l.map vU))(hn:ls.flatten.length<=140737488355328)(hs1:ss.length<=1000)
  (hQ:∀ s tag' I',(∀R,qd R ro tag I tag' I')->Row tag' I' 6 5 s (ls.flatten.map vU)->Q s I'):jo B ro a0 I Q:=by
 refine aje fun hs=>?_
 unfold aep
 refine qf (tag:=fun _=>0) 1 hs fun b tag1 I1 st1 r1=>?_
 have ha:a0.len=ss.length:=by rw[h.1,mg]
 suffices∀(m j:Nat) (s:Sl) tag2 I2,j+m=ss.length->qd [1] ro (fun _=>0) I tag2 I2->Row tag2 I2 1 5 s ((ls.take j).flatten.map vU)->lfpD (uA B ro a0 Q) (s,(j:Int)) I2 from
  this _ 0 _ tag1 I1 (ml _) (st1 _) r1
 intro m
 induction m with
 | zero=>
  intro j s tag2 I2 hj st2 r2
  refine lfpD.intro ?_
  unfold uA
  simp only
  rw[ma z7]
  unfold abn
  rw[mD z7]at r2
  obtain⟨tg,k1,k2⟩:=aiZ y1 st2 tag 6
  exact hQ s tg I2 k1 (k2 _ _ _ r2)
 | succ m ih=>
  intro j s tag2 I2 hj st2 r2
  have hjs:j<ss.length:=by omega
  have hjl:j<ls.length:=by omega
  have h2:=h.fresh y1 st2
  have hd2:=(hd j _ _ (md hjs) (md hjl)).fresh y1 st2
  obtain⟨p,hp⟩:∃ p,a0.a=some p:=by
   cases e:a0.a with
   | none=>have:=h.2.1 e;simp at this;rw[this]at hjs;simp at hjs
   | some p=>exact⟨p,rfl⟩
  have hcell:=h2.2.2 p hp j (Sl.v ss[j]) (by rw[mh,md hjs];try rfl)
  have etk:(ls.take (j+1)).flatten=(ls.take j).flatten++ls[j]:=by
   rw[mK,md hjl,List.flatten_append];simp
  have hlen:(ls.take (j+1)).flatten.length<=ls.flatten.length:=by
   conv=>rhs;rw[<-List.take_append_drop (j+1) ls,List.flatten_append,mA]
   omega
  rw[etk,mA]at hlen
  refine lfpD.intro ?_
  unfold uA
  simp only
  rw[mc z7]
  refine⟨p,hp,z7,z7,ss[j],by rw[mq,mV];exact hcell,?_⟩
  refine jm r2 st2.sep hd2 u30 ty5 rfl (by simp[qg]) (by rw[mg,mg];omega) y1 fun s' tag3 I3 st3 r3=>?_
  refine⟨s',rfl,?_⟩
  rw[Pa.inc j z7]
  refine ih (j+1) s' tag3 I3 z7 (st2.trans (st3 _ (.inr y0))) ?_
  rw[etk,my];exact r3
def aha{d:Str}(h:SL.qJ ro I a0 (d.map vU))(hl:d.length<=70368744177664)(hQ:∀ s tag' I',(∀R,qd R ro tag I tag' I')->Row tag' I' 6 5 s ((vR d).map vU)->Q s I'):aaB B ro a0 I Q:=by
 refine an7 fun hs=>?_
 unfold agC
 have ha:a0.len=d.length:=by rw[h.1,mg]
 refine aeX (tag:=tag) z7 z7 fun s1 tag1 I1 st1 r1=>?_
 rw[ha,mq]at r1
 refine qf (tag:=tag1) 0 (st1 []).sep fun b tag2 I2 st2 r2=>?_
 have hv:=(ub 8 d.length z7).2
 refine rjoin_ok (tag:=tag2) (ss:=[s1,a0]) (ls:=[qH d.length,d]) (r2.read (st2 []).sep) rfl (fun i s l hs' hl'=>?_) j2 y0 fun s tag3 I3 st3 r3=>?_
 .rcases i with _ | _ | i
  .cases hs';cases hl';exact(r1.keep (st2 [])).read (st2 []).sep
  .cases hs';cases hl';exact(h.step (st1 [])).step (st2 [])
  .cases hs'
 .refine hQ s tag3 I3 (fun R=>(st1 R).trans ((st2 R).trans (st3 R))) ?_
  have:[qH d.length,d].flatten=vR d:=by unfold vR;simp
  rw[this]at r3;exact r3
def akg(I:AH)(b:Nat)(x y:Obj):upd (upd I b x) b y=upd I b y:=by
 funext c;unfold upd;split<;>rfl
def am7{l:Str}{K:ZC->AH->Prop}(hs:SL.Sep ro I)(hK:∀ s tag' I',(∀R,qd R ro tag I tag' I')->SL.qJ ro I' s (l.map vU)->K (Sl.v s) I'):awp prog ro (convert 9 24 (.string (S l))) K I:=by
 unfold convert
 simp only[qy]
 rw[qx u9,qx u30]
 simp only
 rw[qx awf]
 simp only
 unfold Conv.stringToBytes
 simp only[qy]
 refine afX rfl fun n=>?_
 have hsz:(S l).size=l.length:=by rw[<-kF,L_S]
 have hcut:(S l).size<=(Question.appendCap (S l).size 0 5).cut n:=by simp only[Question.cut];omega
 generalize (Question.appendCap (S l).size 0 5).cut n=N at hcut
 show∀b,ro b=none->I b=none->awp prog ro (Sem.bind (markStringish ⟨b,0,none⟩) fun _=>Sem.pure (Value.slice (some ⟨b,0,none⟩) (S l).size N)) K (upd I b _)
 intro b hro hb
 unfold markStringish
 show∃o,rd ro (upd I b _) b=some o/\_
 refine⟨_,by unfold rd;rw[hro];exact qE _ _ _,?_⟩
 show(1:Nat)≠0/\∃ o,upd I b _ b=some o/\_
 refine⟨y1,_,qE _ _ _,?_⟩
 rw[akg]
 refine hK ⟨some ⟨b,0,none⟩,(S l).size,N⟩ (setTag tag b 6) _ (fun _=>qd.fresh hs hro hb) ⟨by simp[hsz],(fun h=>by cases h),fun p hp i v hv=>?_⟩
 cases hp
 have hi:i<l.length:=by
  rcases mM i l.length with h | h
  .exact h
  .rw[mG (j4 h)]at hv;cases hv
 rw[vq,ml]
 unfold qa rd
 rw[show ro (⟨b,i,none⟩:Addr).block=none from hro]
 simp only[qE]
 rw[<-hv]
 show(Array.map (fun b=>Value.int IntKind.u8 (b.toNat:Int)) (S l).data++Array.replicate (N - (S l).size) (Value.int IntKind.u8 0))[i]?=_
 rw[Array.getElem?_append_left (by simp[S];omega)]
 simp[S,vU]
def abb.hle(h:abb ro I rs ds ns es x)(k:HLe I I'):abb ro I' rs ds ns es x:=⟨SL.vt.hle h.res k,h.data.hle k,h.names.hle k,SL.vt.hle h.evs k⟩
def abb.all{τ:AH}(h:abb ro I rs ds ns es x)(hs:SL.Sep ro I):abb (join ro I) τ rs ds ns es x:=⟨SL.vt.all h.res hs,h.data.all hs,h.names.all hs,SL.vt.all h.evs hs⟩
def aks{Q:Bool->AH->Prop}(h:SL.qJ ro I a0 (l.map vI))(hl:l.length<4611686018427387904)(hQ:Q (!l.all qr) I):abt B ro a0 I Q:=by
 refine apd fun _=>?_
 unfold ahF
 have hln:a0.len=l.length:=by rw[h.1,mg]
 suffices∀k j,j+k=l.length->(l.take j).all qr=true->lfpD (act B ro a0 Q) (j:Int) I from this _ 0 (ml _) y0
 intro k
 induction k with
 | zero=>
  intro j hj hall
  refine lfpD.intro ?_
  unfold act
  rw[ma z7]
  unfold aex
  rw[mD z7]at hall
  rw[hall]at hQ;exact hQ
 | succ k ih=>
  intro j hj hall
  have hjl:j<l.length:=by omega
  obtain⟨p,hp,hg⟩:=h.ptr j2
  refine lfpD.intro ?_
  unfold act
  rw[mc z7]
  refine⟨p,hp,z7,z7,l[j],?_,?_⟩
  .rw[mq,mV]
   exact hg j _ (by rw[mh,md hjl];try rfl)
  refine aoS fun _=>?_
  unfold ahD
  have e:((decide (l[j]<0)) || (decide (4611686018427387903<l[j])))= !qr l[j]:=by
   unfold qr
   by_cases h1:l[j]<0<;>by_cases h2:4611686018427387903<l[j]<;>simp[h1,h2]<;>omega
  rw[e]
  dsimp only
  cases hr:qr l[j]with
  | false=>
   rw[mc (show(!false)=true from rfl)]
   have:l.all qr=false:=by
    rw[List.all_eq_false]
    exact⟨l[j],mJ hjl,by simp[hr]⟩
   rw[this]at hQ;exact hQ
  | true=>
   rw[ma y0,Pa.inc j z7]
   refine ih (j+1) z7 ?_
   rw[mK,md hjl,List.all_append,hall]
   simp[hr]
def pD(l:List Int):Str:=l.flatMap fun n=>qH n.toNat
def aft(h:l.all qr=true):(pD l).length<=9*l.length:=by
 induction l with
 | nil=>simp[pD]
 | cons n l ih=>
  rw[LN,mu]at h
  have:=ih h.2
  have:=vlen h.1
  unfold pD at*
  rw[nE,mA,mz];omega
where
 vlen {n:Int} (h:qr n=true):(qH n.toNat).length<=9:=(ub 8 n.toNat (by have:=(anF h).2;omega)).2
def alw(h:SL.qJ ro I a0 (l.map vI))(hl:l.length<=1000)(hr:l.all qr=true)(hQ:∀ s tag' I',(∀R,qd R ro tag I tag' I')->Row tag' I' 6 5 s ((pD l).map vU)->Q s I'):ab5 B ro a0 I Q:=by
 refine aoe fun hs=>?_
 unfold agM
 have hln:a0.len=l.length:=by rw[h.1,mg]
 refine qf (tag:=T7) 5 hs fun y tag1 I1 st1 r1=>?_
 suffices∀k j (out:Sl) tag2 I2,j+k=l.length->StepS [5] ro T7 I tag2 I2->Row tag2 I2 5 5 out ((pD (l.take j)).map vU)->lfpD (abp B ro a0 Q) (out,(j:Int)) I2 from
  this _ 0 _ tag1 I1 (ml _) ((st1 []).s y0) (by simpa [pD]using r1)
 intro k
 induction k with
 | zero=>
  intro j out tag2 I2 hj s2 r2
  refine lfpD.intro ?_
  unfold abp
  simp only
  rw[ma z7]
  unfold adp
  rw[mD z7]at r2
  obtain⟨tg,k1,k2⟩:=anK (r:=5) (fun R=>by
   have:=s2.mix y1 T7 R
   have e:aeW I T7 tag2=tag2:=by
    funext c;unfold aeW
    cases hc:I c with
    | none=>rfl
    | some o=>simp[s2.old7 hc]
   rw[e]at this;exact this) y1 tag 6
  exact hQ out tg I2 k1 (k2 _ _ _ r2)
 | succ k ih=>
  intro j out tag2 I2 hj s2 r2
  have hjl:j<l.length:=by omega
  have h2:=h.hle (s2.hle y1)
  obtain⟨p,hp,hg⟩:=h2.ptr j2
  have hrj:qr l[j]=true:=mI.1 hr _ (mJ hjl)
  have hr2:=pC.1 hrj
  refine lfpD.intro ?_
  unfold abp
  simp only
  rw[mc z7]
  refine⟨p,hp,z7,z7,l[j],?_,?_⟩
  .rw[mq,mV]
   exact hg j _ (by rw[mh,md hjl];try rfl)
  refine aeX (tag:=tag2) hr2.1 hr2.2 fun s3 tag3 I3 st3 r3=>?_
  have hlen:(pD (l.take j)).length<=9*1000:=by
   have h1:=aft (l:=l.take j) (by rw[mI];exact fun n hn=>mI.1 hr n (nt hn))
   rw[nA]at h1;omega
  have hv:=aft.vlen hrj
  refine jm (r2.keep (st3 [])) (st3 []).sep (r3.read (st3 []).sep) u30 ty5 rfl (by simp[qg]) (by rw[mg,mg];omega) y1 fun s4 tag4 I4 st4 r4=>?_
  refine⟨s4,rfl,?_⟩
  rw[Pa.inc j z7]
  have e:pD (l.take (j+1))=pD (l.take j)++qH l[j].toNat:=by
   unfold pD
   rw[mK,md hjl,List.flatMap_append];simp
  refine ih (j+1) s4 tag4 I4 z7 (s2.trans (((st3 []).s y0).trans ((st4 _ (.inr (by simp:5∈[5]))).s y0))) ?_
  rw[e,my];exact r4
def arl{q:Nat}(h:SL.qJ ro I a0 (ss.map Sl.v))(hl:ls.length=ss.length)(hd:∀ (i:Nat) (s:Sl) (l:Str),ss[i]?=some s->ls[i]?=some l->SL.qJ ro I s (l.map vU))(hn:ls.flatten.length<=140737488355328)(hs1:ss.length<=1000)
  (hQ:∀ s tag' I',(∀R,qd R ro tag I tag' I')->Row tag' I' q 5 s (ls.flatten.map vU)->Q s I'):jo B ro a0 I Q:=
 rjoin_ok (tag:=T7) h hl hd hn hs1 fun s tag1 I1 st r=>by
  obtain⟨tg,k1,k2⟩:=anK (r:=6) st y1 tag q
  exact hQ s tg I1 k1 (k2 _ _ _ r)
def aey(x:Rep):Str:=qH x.code.toNat++(qH x.session.toNat++qH x.results.length)
def ahG(x:Rep):Str:=aey x++yA x.results++(qH (x.bad+1).toNat++(vR x.data++(pD [x.ver,x.ctr,x.own,x.kids]++qH x.names.length)))
def aez(x:Rep):Str:=ahG x++x.names.flatMap vR++qH x.events.length
def arm(x:Rep):afp x=aez x++jV x.events++qH x.epoch.toNat:=by
 unfold afp aez ahG aey pD
 simp only[nE,List.flatMap_nil,nl,nk]
def amh{l:List (Str×Int)}(h:∀ y∈l,qr y.2=true/\y.1.length<=1048576):(yA l).length<=1048594*l.length:=Zt.yc fun y hy=>by
 rw[mA]
 have:=vlen (h y hy).1
 have:=agH (h y hy).2 y1
 omega
def arn{l:List (Int×Int×Str)}(h:∀ y∈l,(qr y.1=true/\qr y.2.1=true)/\y.2.2.length<=1048576):(jV l).length<=1048603*l.length:=Zt.yc fun y hy=>by
 rw[mA,mA]
 have:=vlen (h y hy).1.1
 have:=vlen (h y hy).1.2
 have:=agH (h y hy).2 y1
 omega
def anL{l:List Str}(h:∀ y∈l,y.length<=1048576):(l.flatMap vR).length<=1048585*l.length:=Zt.yc fun y hy=>by
 have:=agH (h y hy) y1
 omega
abbrev CP:List Nat:=[0,2,5]
def agN{Q:Sl->Bool->AH->Prop}(hx:abb ro I rs ds ns es x)(hsm:uv x)
  (hno:vF x=none->∀ tag' I',(∀R,qd R ro tag I tag' I')->Q ⟨none,0,0⟩ false I')
  (hyes:∀ b,vF x=some b->∀ s tag' I',(∀R,qd R ro tag I tag' I')->Row tag' I' 6 5 s (b.map vU)->Q s true I'):aaX B ro x.code x.session rs x.bad ds x.ver x.ctr x.own x.kids ns es x.epoch I Q:=by
 refine akH fun hs=>?_
 unfold adP
 have lr:rs.len=x.results.length:=by rw[hx.res.1,mg]
 have ln:ns.len=x.names.length:=by rw[hx.names.1,mg]
 have le:es.len=x.events.length:=by rw[hx.evs.1,mg]
 have hdl:=hsm.data
 refine qf (tag:=T7) 2 hs fun X tag1 I1 st1 r1=>?_
 have s1:StepS CP ro T7 I tag1 I1:=(st1 []).s y0
 have no':∀ {tag2 I2},StepS CP ro T7 I tag2 I2->¬ vv x->Q ⟨none,0,0⟩ false I2:=fun s2 h=>hno (by unfold vF;rw[ma h]) _ _ (s2.mix y1 tag)
 have d7:∀ {tag2 I2},StepS CP ro T7 I tag2 I2->abb ro I2 rs ds ns es x:=fun s2=>hx.hle (s2.hle y1)
 have nD:∀ {tag2 I2},StepS CP ro T7 I tag2 I2->¬ vv x->kO B ro X Q true I2:=fun s2 h=>by unfold kO;rw[mc rfl];exact no' s2 h
 have nB:∀ {tag2 I2},StepS CP ro T7 I tag2 I2->¬ vv x->kP B ro X Q true I2:=fun s2 h=>by unfold kP;rw[mc rfl];exact nD s2 h
 have n9:¬ vv x->xn B ro X Q true I1:=fun h=>by unfold xn;rw[mc rfl];exact nB s1 h
 have n7:¬ vv x->xo B ro X Q true I1:=fun h=>by unfold xo;rw[mc rfl];exact n9 h
 have n5:¬ vv x->xp B ro X Q true I1:=fun h=>by unfold xp;rw[mc rfl];exact n7 h
 have n3:¬ vv x->xq B ro X Q true I1:=fun h=>by unfold xq;rw[mc rfl];exact n5 h
 obtain⟨p,hp,hg⟩:=r1.ptr (st1 []).sep y0
 cases hp
 refine⟨rs,hg 2 _ rfl,?_⟩
 by_cases h1:16<x.results.length
 .rw[mc z7];exact n3 fun k=>by have:=k.1;omega
 rw[ma z7]
 refine⟨ns,hg 9 _ rfl,?_⟩
 by_cases h2:4096<x.names.length
 .rw[show decide ((4096:Int)<(ns.len:Int))=true by simp;omega]
  exact n3 fun k=>by have:=k.2.1;omega
 rw[show decide ((4096:Int)<(ns.len:Int))=false by simp;omega]
 unfold xq
 rw[ma y0]
 refine⟨es,hg 10 _ rfl,?_⟩
 by_cases h3:32<x.events.length
 .rw[show decide ((32:Int)<(es.len:Int))=true by simp;omega]
  exact n5 fun k=>by have:=k.2.2.1;omega
 rw[show decide ((32:Int)<(es.len:Int))=false by simp;omega]
 unfold xp
 rw[ma y0]
 refine⟨x.bad,hg 3 _ rfl,?_⟩
 by_cases h4:x.bad< -1
 .rw[show decide (x.bad< -1)=true by simpa using h4]
  exact n7 fun k=>by have:=k.2.2.2.1;omega
 rw[show decide (x.bad< -1)=false by simpa using h4]
 unfold xo
 rw[ma y0]
 refine⟨x.bad,hg 3 _ rfl,?_⟩
 by_cases h5:4611686018427387902<x.bad
 .rw[show decide (4611686018427387902<x.bad)=true by simpa using h5]
  exact n9 fun k=>by have:=k.2.2.2.2.1;omega
 rw[show decide (4611686018427387902<x.bad)=false by simpa using h5]
 unfold xn
 rw[ma y0]
 have b1:x.results.length<=16:=by omega
 have b2:x.names.length<=4096:=by omega
 have b3:x.events.length<=32:=by omega
 refine⟨x.code,by simpa using hg 0 _ rfl,x.session,hg 1 _ rfl,x.epoch,hg 11 _ rfl,?_⟩
 refine qf (tag:=tag1) 0 (st1 []).sep fun y tag2 I2 st2 q2=>?_
 have s2:StepS CP ro T7 I tag2 I2:=s1.trans ((st2 []).s y0)
 have x2:=r1.keep (st2 [])
 refine aks (l:=[x.code,x.session,x.epoch]) (q2.read s2.sep) y0 ?_
 cases c1:[x.code,x.session,x.epoch].all qr with
 | false=>
  refine nB s2 fun k=>?_
  obtain⟨_,_,_,_,_,k1,k2,_,_,_,_,k3,_⟩:=k
  simp[k1,k2,k3]at c1
 | true=>
 simp only[LN,List.all_nil,Bool.and_true,mu]at c1
 unfold kP
 rw[ma y0]
 have h4r:∀ {τ:AH} {ro':AH},(∀i v,[vI x.ver,vI x.ctr,vI x.own,vI x.kids][i]?=some v->qa ro' τ ((⟨X,0,none⟩:Addr).add (5+i))=some v)->SL.qJ ro' τ (⟨some ((⟨X,0,none⟩:Addr).add 5),4,4⟩:Sl) ([x.ver,x.ctr,x.own,x.kids].map vI):=fun h=>
  ⟨rfl,(fun e=>by cases e),fun p hp i v hv=>by cases hp;rw[aal];exact h i v hv⟩
 obtain⟨p,hp,hg⟩:=x2.ptr s2.sep y0
 cases hp
 have f5:∀ i v,[vI x.ver,vI x.ctr,vI x.own,vI x.kids][i]?=some v->[vI x.code,vI x.session,Sl.v rs,vI x.bad,Sl.v ds,vI x.ver,vI x.ctr,vI x.own,vI x.kids,Sl.v ns,Sl.v es,vI x.epoch][5+i]?=some v:=fun i v hv=>by
  rcases i with _ | _ | _ | _ | i
  .exact hv
  .exact hv
  .exact hv
  .exact hv
  .cases hv
 refine aks (l:=[x.ver,x.ctr,x.own,x.kids]) (h4r fun i v hv=>by have:=hg (5+i) v (f5 i v hv);rwa [mV]at this) y0 ?_
 cases c2:[x.ver,x.ctr,x.own,x.kids].all qr with
 | false=>
  refine nD s2 fun k=>?_
  obtain⟨_,_,_,_,_,_,_,k1,k2,k3,k4,_,_⟩:=k
  simp[k1,k2,k3,k4]at c2
 | true=>
 have c2':=c2
 simp only[LN,List.all_nil,Bool.and_true,mu]at c2'
 unfold kO
 rw[ma y0]
 refine⟨x.code,by simpa using hg 0 _ rfl,x.session,hg 1 _ rfl,rs,hg 2 _ rfl,?_⟩
 rw[lr]
 refine qf (tag:=tag2) 0 s2.sep fun z tag3 I3 st3 q3=>?_
 have hl3:[x.code,x.session,(x.results.length:Int)].all qr=true:=by simp[c1.1,c1.2.1,arj b1 y1]
 refine alw (tag:=tag3) (l:=[x.code,x.session,(x.results.length:Int)]) (q3.read (st3 []).sep) y0 hl3 fun out tag4 I4 st4 o4=>?_
 have e4:pD [x.code,x.session,(x.results.length:Int)]=aey x:=by
  unfold pD aey;simp
 rw[e4]at o4
 have p2:(aey x).length<=27:=by rw[<-e4];have:=aft hl3;simpa using this
 have s4:StepS CP ro T7 I tag4 I4:=s2.trans (((st3 []).s y0).trans ((st4 []).s y0))
 have x4:=(x2.keep (st3 [])).keep (st4 [])
 have last:∀ (out:Sl) tag5 I5,StepS CP ro T7 I tag5 I5->Row tag5 I5 2 39 ⟨some ⟨X,0,none⟩,12,12⟩ [vI x.code,vI x.session,Sl.v rs,vI x.bad,Sl.v ds,vI x.ver,vI x.ctr,vI x.own,vI x.kids,Sl.v ns,Sl.v es,vI x.epoch]->SL.qJ ro I5 out ((aez x++jV x.events).map vU)->(aez x++jV x.events).length<=5000000000->vv x->yL B ro X Q out I5:=fun out tag5 I5 s5 x5 o5 hlen hok=>by
  unfold yL
  obtain⟨p,hp,hg⟩:=x5.ptr s5.sep y0
  cases hp
  have hr:=pC.1 c1.2.2
  refine⟨x.epoch,hg 11 _ rfl,?_⟩
  refine aeX (tag:=tag5) hr.1 hr.2 fun w tag6 I6 st6 r6=>?_
  refine qf (tag:=tag6) 0 (st6 []).sep fun y tag7 I7 st7 q7=>?_
  have hle:HLe I5 I7:=fun c o hc=>((st7 []).keep c o ((st6 []).keep c o hc y0).2 y0).2
  have hv:=vlen c1.2.2
  refine rjoin_ok (tag:=tag7) (ss:=[out,w]) (ls:=[aez x++jV x.events,qH x.epoch.toNat]) (q7.read (st7 []).sep) rfl (fun i s l hs' hl'=>?_) (by simp only[nQ,LL,nk];rw[mA];omega) y0 fun so tag8 I8 st8 r8=>?_
  .rcases i with _ | _ | i
   .cases hs';cases hl';exact o5.hle hle
   .cases hs';cases hl';exact(r6.keep (st7 [])).read (st7 []).sep
   .cases hs'
  have s8:StepS CP ro T7 I tag8 I8:=s5.trans (((st6 []).s y0).trans (((st7 []).s y0).trans ((st8 []).s y0)))
  refine hyes (afp x) (by unfold vF;rw[mc hok]) so _ I8 (s8.mix y1 tag) ?_
  rw[arm]
  simp only[nQ,LL,nk]at r8
  exact r8.mix s8 y1 tag
 have evs:(∀y∈x.results,qr y.2=true)->(aez x).length<=4400000000->∀ k j (out:Sl) tag5 I5,j+k=x.events.length->(∀y∈x.events.take j,qr y.1=true/\qr y.2.1=true)->StepS CP ro T7 I tag5 I5->Row tag5 I5 2 39 ⟨some ⟨X,0,none⟩,12,12⟩ [vI x.code,vI x.session,Sl.v rs,vI x.bad,Sl.v ds,vI x.ver,vI x.ctr,vI x.own,vI x.kids,Sl.v ns,Sl.v es,vI x.epoch]->SL.qJ ro I5 out ((aez x++jV (x.events.take j)).map vU)->lfpD (yM B ro X Q) (out,(j:Int)) I5:=by
  intro hres hp4 k
  have pl:∀ j,(∀y∈x.events.take j,qr y.1=true/\qr y.2.1=true)->(aez x++jV (x.events.take j)).length<=5000000000:=fun j hj=>by
   have h1:=arn (l:=x.events.take j) fun y hy=>⟨hj y hy,hsm.evs y (nt hy)⟩
   have h2:(x.events.take j).length<=32:=by rw[nA];omega
   have h3:1048603*(x.events.take j).length<=1048603*32:=nO _ h2
   rw[mA];omega
  induction k with
  | zero=>
   intro j out tag5 I5 hj hall s5 x5 o5
   refine lfpD.intro ?_
   unfold yM
   simp only
   obtain⟨p,hp,hg⟩:=x5.ptr s5.sep y0
   cases hp
   refine⟨es,hg 10 _ rfl,?_⟩
   rw[ma z7]
   have hpl:=pl j hall
   rw[mD z7]at hall o5 hpl
   exact last out tag5 I5 s5 x5 o5 hpl ⟨b1,b2,b3,z7,z7,c1.1,c1.2.1,c2'.1,c2'.2.1,c2'.2.2.1,c2'.2.2.2,c1.2.2,hres,hall⟩
  | succ k ih=>
   intro j out tag5 I5 hj hall s5 x5 o5
   have hjl:j<x.events.length:=by omega
   have hd5:=d7 s5
   obtain⟨q,hq,hc⟩:=hd5.evs.at (j:=j) (x:=abH x.events[j]) (by rw[mh,md hjl];try rfl)
   have hel:=hsm.evs x.events[j] (mJ hjl)
   have etk:x.events.take (j+1)=x.events.take j++[x.events[j]]:=by rw[mK,md hjl];try rfl
   have hmem:=mJ hjl
   generalize x.events[j]=e at hc hel etk hmem
   refine lfpD.intro ?_
   unfold yM
   simp only
   obtain⟨p,hp,hg⟩:=x5.ptr s5.sep y0
   cases hp
   have cell:∀ i v,(abH e)[i]?=some v->qa ro I5 ((q.add (j*3)).add i)=some v:=fun i v hv=>agK hc hv
   refine⟨es,hg 10 _ rfl,?_⟩
   rw[mc z7]
   refine⟨es,hg 10 _ rfl,q,hq,z7,z7,e.1,by have:=cell 0 _ rfl;simpa using this,es,hg 10 _ rfl,q,hq,z7,z7,e.2.1,by have:=cell 1 _ rfl;simpa using this,?_⟩
   refine qf (tag:=tag5) 0 s5.sep fun y tag6 I6 st6 q6=>?_
   have s6:StepS CP ro T7 I tag6 I6:=s5.trans ((st6 []).s y0)
   have k56:HLe I5 I6:=fun c o hc=>((st6 []).keep c o hc y0).2
   refine aks (l:=[e.1,e.2.1]) (q6.read s6.sep) y0 ?_
   cases c3:[e.1,e.2.1].all qr with
   | false=>
    rw[mc (show(!false)=true from rfl)]
    refine no' s6 fun ok=>?_
    have:=ok.2.2.2.2.2.2.2.2.2.2.2.2.2 e hmem
    simp[this.1,this.2]at c3
   | true=>
   rw[ma y0]
   have c3':=c3
   simp only[LN,List.all_nil,Bool.and_true,mu]at c3'
   have x6:=x5.keep (st6 [])
   have hs6:=s6.sep
   refine alu ?_
   have A:∀ {τ:AH} {a:Addr} {v:ZC},qa ro I5 a=some v->qa (join ro I6) τ a=some v:=fun h=>afs hs6 (ag9 k56 h)
   refine⟨es,A (hg 10 _ rfl),q,hq,z7,z7,S e.2.2,A (by have:=cell 2 _ rfl;simpa using this),es,A (hg 10 _ rfl),q,hq,z7,z7,e.1,A (by have:=cell 0 _ rfl;simpa using this),es,A (hg 10 _ rfl),q,hq,z7,z7,e.2.1,A (by have:=cell 1 _ rfl;simpa using this),?_⟩
   refine qf (tag:=T7) 0 SL.Sep.none fun y2 tag7 I7 st7 q7=>?_
   refine alw (tag:=tag7) (l:=[e.1,e.2.1]) (q7.read (st7 []).sep) y0 c3 fun w1 tag8 I8 st8 r8=>?_
   refine am7 (tag:=tag8) (st8 []).sep fun sp tag9 I9 st9 h9=>?_
   refine⟨sp,rfl,?_⟩
   refine aha (tag:=tag9) h9 z7 fun w2 tagA IA stA rA=>?_
   refine qf (tag:=tagA) 0 (stA []).sep fun y3 tagB IB stB qB=>?_
   have k8B:HLe I8 IB:=fun c o hc=>((stB []).keep c o ((stA []).keep c o ((st9 []).keep c o hc y0).2 y0).2 y0).2
   have hpl:=pl j hall
   have hn1:=aft c3
   have hb1:=agH hel y1
   have ef:[aez x++jV (x.events.take j),pD [e.1,e.2.1],vR e.2.2].flatten=aez x++jV (x.events.take (j+1)):=by
    rw[etk];unfold jV pD;simp
   refine arl (q:=5) (tag:=tagB) (ss:=[out,w1,w2]) (ls:=[aez x++jV (x.events.take j),pD [e.1,e.2.1],vR e.2.2]) (qB.read (stB []).sep) rfl (fun i s l hs' hl'=>?_) (by simp only[nQ,LL,nk,mA]at hpl ⊢;simp only[mz,nH]at hn1;omega) y0 fun so tagC IC stC rC=>?_
   .rcases i with _ | _ | _ | i
    .cases hs';cases hl';exact(o5.hle k56).all hs6
    .cases hs';cases hl';exact(r8.read (st8 []).sep).hle k8B
    .cases hs';cases hl';exact(rA.keep (stB [])).read (stB []).sep
    .cases hs'
   intro hdis
   rw[ef]at rC
   have stD:=alv (tag1:=tagC) hs6 hdis (stC []).sep tag6
   have rD:=rC.allB (I:=I6) hdis tag6
   rw[Pa.inc j z7]
   have sD:StepS CP ro T7 I _ _:=s6.trans ((stD []).s y0)
   refine ih (j+1) so _ _ z7 (fun y hy=>?_) sD (x6.keep (stD [])) (rD.read (stD []).sep)
   rw[etk]at hy
   rcases mv.1 hy with h | h
   .exact hall y h
   .rw[mr.1 h];exact c3'
 have behind:(∀y∈x.results,qr y.2=true)->(ahG x).length<=30000000->∀ (out:Sl) tag5 I5,StepS CP ro T7 I tag5 I5->Row tag5 I5 2 39 ⟨some ⟨X,0,none⟩,12,12⟩ [vI x.code,vI x.session,Sl.v rs,vI x.bad,Sl.v ds,vI x.ver,vI x.ctr,vI x.own,vI x.kids,Sl.v ns,Sl.v es,vI x.epoch]->Row tag5 I5 5 5 out ((ahG x++x.names.flatMap vR).map vU)->yN B ro X Q out I5:=fun hres hp3 out tag5 I5 s5 x5 o5=>by
  unfold yN
  obtain⟨p,hp,hg⟩:=x5.ptr s5.sep y0
  cases hp
  have hb:=anL hsm.names
  have hb':1048585*x.names.length<=1048585*4096:=nO _ b2
  refine⟨es,hg 10 _ rfl,?_⟩
  rw[le]
  refine aeX (tag:=tag5) z7 z7 fun w tag6 I6 st6 r6=>?_
  rw[mq]at r6
  have hv:=aiT (n:=x.events.length) z7
  refine jm (o5.keep (st6 [])) (st6 []).sep (r6.read (st6 []).sep) u30 ty5 rfl (by simp[qg]) (by rw[mg,mg,mA];omega) y1 fun o2 tag7 I7 st7 r7=>?_
  refine⟨o2,rfl,?_⟩
  have st7:=st7 [5] (.inr y0)
  have s7:StepS CP ro T7 I tag7 I7:=s5.trans (((st6 []).s y0).trans (st7.s y0))
  refine evs hres ?_ _ 0 o2 tag7 I7 (ml _) y0 s7 ((x5.keep (st6 [])).keep st7) ?_
  .unfold aez;rw[mA,mA];omega
  .have:=r7.read st7.sep
   rw[<-my]at this
   have e:aez x++jV (x.events.take 0)=ahG x++x.names.flatMap vR++qH x.events.length:=by unfold aez jV;simp
   rw[e];exact this
 have names:(∀y∈x.results,qr y.2=true)->(ahG x).length<=30000000->∀ k j (out:Sl) tag5 I5,j+k=x.names.length->StepS CP ro T7 I tag5 I5->Row tag5 I5 2 39 ⟨some ⟨X,0,none⟩,12,12⟩ [vI x.code,vI x.session,Sl.v rs,vI x.bad,Sl.v ds,vI x.ver,vI x.ctr,vI x.own,vI x.kids,Sl.v ns,Sl.v es,vI x.epoch]->Row tag5 I5 5 5 out ((ahG x++(x.names.take j).flatMap vR).map vU)->lfpD (yO B ro X Q) (out,(j:Int)) I5:=by
  intro hres hp3 k
  induction k with
  | zero=>
   intro j out tag5 I5 hj s5 x5 o5
   refine lfpD.intro ?_
   unfold yO
   simp only
   obtain⟨p,hp,hg⟩:=x5.ptr s5.sep y0
   cases hp
   refine⟨ns,hg 9 _ rfl,?_⟩
   rw[ma z7]
   rw[mD z7]at o5
   exact behind hres hp3 out tag5 I5 s5 x5 o5
  | succ k ih=>
   intro j out tag5 I5 hj s5 x5 o5
   have hjl:j<x.names.length:=by omega
   have hel:=hsm.names x.names[j] (mJ hjl)
   obtain⟨q,hq,hc⟩:=(d7 s5).names.ptr j2
   have hcj:=hc j (Pa.vS x.names[j]) (by rw[mh,md hjl];try rfl)
   have etk:x.names.take (j+1)=x.names.take j++[x.names[j]]:=by rw[mK,md hjl];try rfl
   generalize x.names[j]=e at hcj hel etk
   refine lfpD.intro ?_
   unfold yO
   simp only
   obtain⟨p,hp,hg⟩:=x5.ptr s5.sep y0
   cases hp
   refine⟨ns,hg 9 _ rfl,?_⟩
   rw[mc z7]
   refine⟨ns,hg 9 _ rfl,q,hq,z7,z7,S e,by rw[mq,mV];exact hcj,?_⟩
   refine am7 (tag:=tag5) s5.sep fun sp tag6 I6 st6 h6=>?_
   refine⟨sp,rfl,?_⟩
   refine aha (tag:=tag6) h6 z7 fun w tag7 I7 st7 r7=>?_
   have hb1:=agH hel y1
   have hb:=anL (l:=x.names.take j) fun y hy=>hsm.names y (nt hy)
   have hb':1048585*(x.names.take j).length<=1048585*4096:=nO _ (by rw[nA];omega)
   refine jm ((o5.keep (st6 [])).keep (st7 [])) (st7 []).sep (r7.read (st7 []).sep) u30 ty5 rfl (by simp[qg]) (by rw[mg,mg,mA];omega) y1 fun o2 tag8 I8 st8 r8=>?_
   have st8:=st8 [5] (.inr y0)
   refine⟨o2,rfl,?_⟩
   rw[Pa.inc j z7]
   refine ih (j+1) o2 tag8 I8 z7 (s5.trans (((st6 []).s y0).trans (((st7 []).s y0).trans (st8.s y0)))) (((x5.keep (st6 [])).keep (st7 [])).keep st8) ?_
   rw[etk,List.flatMap_append,<-nl,my]
   simpa using r8
 have mid:(∀y∈x.results,qr y.2=true)->∀ (out:Sl) tag5 I5,StepS CP ro T7 I tag5 I5->Row tag5 I5 2 39 ⟨some ⟨X,0,none⟩,12,12⟩ [vI x.code,vI x.session,Sl.v rs,vI x.bad,Sl.v ds,vI x.ver,vI x.ctr,vI x.own,vI x.kids,Sl.v ns,Sl.v es,vI x.epoch]->SL.qJ ro I5 out ((aey x++yA x.results).map vU)->yP B ro X Q out I5:=fun hres out tag5 I5 s5 x5 o5=>by
  unfold yP
  obtain⟨p,hp,hg⟩:=x5.ptr s5.sep y0
  cases hp
  have hs5:=s5.sep
  have A:∀ {τ:AH} {a:Addr} {v:ZC},qa ro I5 a=some v->qa (join ro I5) τ a=some v:=fun h=>afs hs5 h
  have hr1:=amh (l:=x.results) fun y hy=>⟨hres y hy,hsm.res y hy⟩
  have hr2:1048594*x.results.length<=1048594*16:=nO _ b1
  refine alu ?_
  refine⟨ds,A (hg 4 _ rfl),ns,A (hg 9 _ rfl),x.bad,A (hg 3 _ rfl),?_⟩
  rw[show i64.wrap (x.bad+1)=x.bad+1 from SL.qY z7 z7,ln]
  refine aeX (tag:=T7) z7 z7 fun w1 tag6 I6 st6 r6=>?_
  refine aha (tag:=tag6) (((d7 s5).all hs5).data) z7 fun w2 tag7 I7 st7 r7=>?_
  refine alw (tag:=tag7) (l:=[x.ver,x.ctr,x.own,x.kids]) (h4r fun i v hv=>A (by have:=hg (5+i) v (f5 i v hv);rwa [mV]at this)) y0 c2 fun w3 tag8 I8 st8 r8=>?_
  refine aeX (tag:=tag8) z7 z7 fun w4 tag9 I9 st9 r9=>?_
  rw[mq]at r9
  refine qf (tag:=tag9) 0 (st9 []).sep fun y tagA IA stA qA=>?_
  have eb:qr (x.bad+1)=true:=by rw[pC];omega
  have hv1:=vlen eb
  have hv2:=agH hdl y1
  have hv3:=aft c2
  have hv4:=aiT (n:=x.names.length) z7
  simp only[mz,nH]at hv3
  have ef:[aey x++yA x.results,qH (x.bad+1).toNat,vR x.data,pD [x.ver,x.ctr,x.own,x.kids],qH x.names.length].flatten=ahG x:=by unfold ahG;simp
  have hp3:(ahG x).length<=30000000:=by
   rw[<-ef]
   simp only[nQ,LL,nk,mA]
   omega
  refine arl (q:=5) (tag:=tagA) (ss:=[out,w1,w2,w3,w4]) (ls:=[aey x++yA x.results,qH (x.bad+1).toNat,vR x.data,pD [x.ver,x.ctr,x.own,x.kids],qH x.names.length]) (qA.read (stA []).sep) rfl (fun i s l hs' hl'=>?_) (by rw[ef];omega) y0 fun so tagC IC stC rC=>?_
  .rcases i with _ | _ | _ | _ | _ | i
   .cases hs';cases hl';exact o5.all hs5
   .cases hs';cases hl';exact((((r6.keep (st7 [])).keep (st8 [])).keep (st9 [])).keep (stA [])).read (stA []).sep
   .cases hs';cases hl';exact(((r7.keep (st8 [])).keep (st9 [])).keep (stA [])).read (stA []).sep
   .cases hs';cases hl';exact((r8.keep (st9 [])).keep (stA [])).read (stA []).sep
   .cases hs';cases hl';exact(r9.keep (stA [])).read (stA []).sep
   .cases hs'
  intro hdis
  rw[ef]at rC
  have stD:=alv (tag1:=tagC) hs5 hdis (stC []).sep tag5
  have rD:=rC.allB (I:=I5) hdis tag5
  have sD:StepS CP ro T7 I _ _:=s5.trans ((stD []).s y0)
  refine names hres hp3 _ 0 so _ _ (ml _) sD (x5.keep (stD [])) ?_
  rw[Lm,List.flatMap_nil,nk];exact rD
 suffices∀k j (out:Sl) tag5 I5,j+k=x.results.length->(∀y∈x.results.take j,qr y.2=true)->StepS CP ro T7 I tag5 I5->Row tag5 I5 2 39 ⟨some ⟨X,0,none⟩,12,12⟩ [vI x.code,vI x.session,Sl.v rs,vI x.bad,Sl.v ds,vI x.ver,vI x.ctr,vI x.own,vI x.kids,Sl.v ns,Sl.v es,vI x.epoch]->SL.qJ ro I5 out ((aey x++yA (x.results.take j)).map vU)->lfpD (yQ B ro X Q) (out,(j:Int)) I5 from
  this _ 0 out tag4 I4 (ml _) y0 s4 x4 (by
   have e:aey x++yA (x.results.take 0)=aey x:=by unfold yA;simp
   rw[e];exact o4.read s4.sep)
 intro k
 induction k with
 | zero=>
  intro j out tag5 I5 hj hall s5 x5 o5
  refine lfpD.intro ?_
  unfold yQ
  simp only
  obtain⟨p,hp,hg⟩:=x5.ptr s5.sep y0
  cases hp
  refine⟨rs,hg 2 _ rfl,?_⟩
  rw[ma z7]
  rw[mD z7]at hall o5
  exact mid hall out tag5 I5 s5 x5 o5
 | succ k ih=>
  intro j out tag5 I5 hj hall s5 x5 o5
  have hjl:j<x.results.length:=by omega
  obtain⟨q,hq,hc⟩:=(d7 s5).res.at (j:=j) (x:=xQ x.results[j]) (by rw[mh,md hjl];try rfl)
  have hel:=hsm.res x.results[j] (mJ hjl)
  have etk:x.results.take (j+1)=x.results.take j++[x.results[j]]:=by rw[mK,md hjl];try rfl
  have hmem:=mJ hjl
  generalize x.results[j]=e at hc hel etk hmem
  refine lfpD.intro ?_
  unfold yQ
  simp only
  obtain⟨p,hp,hg⟩:=x5.ptr s5.sep y0
  cases hp
  have cell:∀ i v,(xQ e)[i]?=some v->qa ro I5 ((q.add (j*2)).add i)=some v:=fun i v hv=>agK hc hv
  refine⟨rs,hg 2 _ rfl,?_⟩
  rw[mc z7]
  refine⟨rs,hg 2 _ rfl,q,hq,z7,z7,e.2,by have:=cell 1 _ rfl;simpa using this,?_⟩
  refine qf (tag:=tag5) 0 s5.sep fun y tag6 I6 st6 q6=>?_
  have s6:StepS CP ro T7 I tag6 I6:=s5.trans ((st6 []).s y0)
  have k56:HLe I5 I6:=fun c o hc=>((st6 []).keep c o hc y0).2
  refine aks (l:=[e.2]) (q6.read s6.sep) y0 ?_
  cases c3:[e.2].all qr with
  | false=>
   rw[mc (show(!false)=true from rfl)]
   refine no' s6 fun ok=>?_
   have:=ok.2.2.2.2.2.2.2.2.2.2.2.2.1 e hmem
   simp[this]at c3
  | true=>
  rw[ma y0]
  have c3':qr e.2=true:=by simpa using c3
  have hr:=pC.1 c3'
  have x6:=x5.keep (st6 [])
  have hs6:=s6.sep
  refine alu ?_
  have A:∀ {τ:AH} {a:Addr} {v:ZC},qa ro I5 a=some v->qa (join ro I6) τ a=some v:=fun h=>afs hs6 (ag9 k56 h)
  refine⟨rs,A (hg 2 _ rfl),q,hq,z7,z7,e.2,A (by have:=cell 1 _ rfl;simpa using this),rs,A (hg 2 _ rfl),q,hq,z7,z7,S e.1,A (by have:=cell 0 _ rfl;simpa using this),?_⟩
  refine am7 (tag:=T7) SL.Sep.none fun sp tag7 I7 st7 h7=>?_
  refine⟨sp,rfl,?_⟩
  refine aha (tag:=tag7) h7 z7 fun w1 tag8 I8 st8 r8=>?_
  refine aeX (tag:=tag8) hr.1 hr.2 fun w2 tag9 I9 st9 r9=>?_
  refine qf (tag:=tag9) 0 (st9 []).sep fun y3 tagB IB stB qB=>?_
  have hb1:=agH hel y1
  have hv1:=vlen c3'
  have hr1:=amh (l:=x.results.take j) fun y hy=>⟨hall y hy,hsm.res y (nt hy)⟩
  have hr2:1048594*(x.results.take j).length<=1048594*16:=nO _ (by rw[nA];omega)
  have ef:[aey x++yA (x.results.take j),vR e.1,qH e.2.toNat].flatten=aey x++yA (x.results.take (j+1)):=by
   rw[etk];unfold yA;simp
  refine arl (q:=5) (tag:=tagB) (ss:=[out,w1,w2]) (ls:=[aey x++yA (x.results.take j),vR e.1,qH e.2.toNat]) (qB.read (stB []).sep) rfl (fun i s l hs' hl'=>?_) (by simp only[nQ,LL,nk,mA];omega) y0 fun so tagC IC stC rC=>?_
  .rcases i with _ | _ | _ | i
   .cases hs';cases hl';exact(o5.hle k56).all hs6
   .cases hs';cases hl';exact((r8.keep (st9 [])).keep (stB [])).read (stB []).sep
   .cases hs';cases hl';exact(r9.keep (stB [])).read (stB []).sep
   .cases hs'
  intro hdis
  rw[ef]at rC
  have stD:=alv (tag1:=tagC) hs6 hdis (stC []).sep tag6
  have rD:=rC.allB (I:=I6) hdis tag6
  rw[Pa.inc j z7]
  have sD:StepS CP ro T7 I _ _:=s6.trans ((stD []).s y0)
  refine ih (j+1) so _ _ z7 (fun y hy=>?_) sD (x6.keep (stD [])) (rD.read (stD []).sep)
  rw[etk]at hy
  rcases mv.1 hy with h | h
  .exact hall y h
  .rw[mr.1 h];exact c3'
def avA:qp prog 136 (.agg #[.string ByteArray.empty,.int .i64 0]) 2 24:=qp.of j0
def aws:qp prog 139 (.agg #[.int .i64 0,.int .i64 0,.string ByteArray.empty]) 3 32:=qp.of j0
end Zt
namespace G
open Go SL
variable{B:ZB}{ro I:AH}
def uX(B:ZB)(ro:AH)(u0 u1:Nat)(Q:Int->Int->Sl->Int->Sl->Int->Int->Int->Int->Sl->Sl->Int->AH->Prop)(I:AH):=
 ∃u2 u3 u4 u5 u6 u7 u8 u9 u10 u11 u12 u13,qe ro I ⟨u1,0,none⟩ 0 [.int .i64 u2,.int .i64 u3,Sl.v u4,.int .i64 u5,Sl.v u6,.int .i64 u7,.int .i64 u8,.int .i64 u9,.int .i64 u10,Sl.v u11,Sl.v u12,.int .i64 u13]/\
 stN ⟨u0,0,none⟩ (fun I=>
 ∃u14 u15 u16 u17 u18 u19 u20 u21 u22 u23 u24 u25,qe ro I ⟨u0,0,none⟩ 0 [.int .i64 u14,.int .i64 u15,Sl.v u16,.int .i64 u17,Sl.v u18,.int .i64 u19,.int .i64 u20,.int .i64 u21,.int .i64 u22,Sl.v u23,Sl.v u24,.int .i64 u25]/\
 Q u14 u15 u16 u17 u18 u19 u20 u21 u22 u23 u24 u25 I) [.int .i64 u2,.int .i64 u3,Sl.v u4,.int .i64 u5,Sl.v u6,.int .i64 u7,.int .i64 u8,.int .i64 u9,.int .i64 u10,Sl.v u11,Sl.v u12,.int .i64 u13] 0 I
def uY(B:ZB)(ro:AH)(u0 u1:Nat)(u2:Sl)(Q:Int->Int->Sl->Int->Sl->Int->Int->Int->Int->Sl->Sl->Int->AH->Prop):Int->AH->(Int->AH->Prop)->Prop:=fun u3 I Y19=>
 if u3<(u2.len:Int)then
 ∃p4,u2.a=some p4/\(0:Int)<=u3/\u3<(u2.len:Int)/\
 ∃u5 u6 u7,qe ro I (p4.add (Int.toNat u3*3)) 0 [.int .i64 u5,.int .i64 u6,.string u7]/\
 nw ro I (.cells #[.int .i64 0,.int .i64 0,.string ByteArray.empty] 132) fun u8 I=>
 stN ⟨u8,0,none⟩ (fun I=>
  ∃u9,qa ro I ((⟨u1,0,none⟩:Addr).add 10)=some (Sl.v u9)/\
  ∃u10,qa ro I ⟨u8,0,none⟩=some (.int .i64 u10)/\
  ∃u11,qa ro I ((⟨u8,0,none⟩:Addr).add 1)=some (.int .i64 u11)/\
  ∃u12,qa ro I ((⟨u8,0,none⟩:Addr).add 2)=some (.string u12)/\
  nw ro I (.cells #[.int .i64 u10,.int .i64 u11,.string u12] 139) fun u13 I=>
  awp prog ro (Builtin.append_ #[37,37] 37 #[Sl.v u9,Sl.v (⟨some ⟨u13,0,none⟩,1,1⟩:Sl)]) (fun v I=> ∃(u14:Sl),v=Sl.v u14/\
  stN ((⟨u1,0,none⟩:Addr).add 10) (fun I=>
   Y19 (i64.wrap (u3+1)) I) [Sl.v u14] 0 I) I) [.int .i64 u5,.int .i64 u6,.string u7] 0 I
 else
 uX B ro u0 u1 Q I
def abT(B:ZB)(ro:AH)(u0 u1 u2:Nat)(Q:Int->Int->Sl->Int->Sl->Int->Int->Int->Int->Sl->Sl->Int->AH->Prop)(I:AH):=
 ∃u3,qa ro I ((⟨u0,0,none⟩:Addr).add 10)=some (Sl.v u3)/\
 lfpD (uY B ro u1 u2 u3 Q) (0) I
def uZ(B:ZB)(ro:AH)(u0 u1 u2:Nat)(u3:Sl)(Q:Int->Int->Sl->Int->Sl->Int->Int->Int->Int->Sl->Sl->Int->AH->Prop):Int->AH->(Int->AH->Prop)->Prop:=fun u4 I Y31=>
 if u4<(u3.len:Int)then
 ∃p5,u3.a=some p5/\(0:Int)<=u4/\u4<(u3.len:Int)/\
 ∃u6 u7,qe ro I (p5.add (Int.toNat u4*2)) 0 [.string u6,.int .i64 u7]/\
 nw ro I (.cells #[.string ByteArray.empty,.int .i64 0] 128) fun u8 I=>
 stN ⟨u8,0,none⟩ (fun I=>
  ∃u9,qa ro I ((⟨u2,0,none⟩:Addr).add 2)=some (Sl.v u9)/\
  ∃u10,qa ro I ⟨u8,0,none⟩=some (.string u10)/\
  ∃u11,qa ro I ((⟨u8,0,none⟩:Addr).add 1)=some (.int .i64 u11)/\
  nw ro I (.cells #[.string u10,.int .i64 u11] 136) fun u12 I=>
  awp prog ro (Builtin.append_ #[35,35] 35 #[Sl.v u9,Sl.v (⟨some ⟨u12,0,none⟩,1,1⟩:Sl)]) (fun v I=> ∃(u13:Sl),v=Sl.v u13/\
  stN ((⟨u2,0,none⟩:Addr).add 2) (fun I=>
   Y31 (i64.wrap (u4+1)) I) [Sl.v u13] 0 I) I) [.string u6,.int .i64 u7] 0 I
 else
 abT B ro u0 u1 u2 Q I
def afQ(B:ZB)(ro:AH)(a0_0 a0_1:Int)(a0_2:Sl)(a0_3:Int)(a0_4:Sl)(a0_5 a0_6 a0_7 a0_8:Int)(a0_9 a0_10:Sl)(a0_11:Int)(I:AH)(Q:Int->Int->Sl->Int->Sl->Int->Int->Int->Int->Sl->Sl->Int->AH->Prop):=
 nw ro I (.cells #[.int .i64 a0_0,.int .i64 a0_1,Sl.v a0_2,.int .i64 a0_3,Sl.v a0_4,.int .i64 a0_5,.int .i64 a0_6,.int .i64 a0_7,.int .i64 a0_8,Sl.v a0_9,Sl.v a0_10,.int .i64 a0_11] 30) fun u0 I=>
 nw ro I (.cells #[.int .i64 0,.int .i64 0,Sl.v (⟨none,0,0⟩:Sl),.int .i64 0,Sl.v (⟨none,0,0⟩:Sl),.int .i64 0,.int .i64 0,.int .i64 0,.int .i64 0,Sl.v (⟨none,0,0⟩:Sl),Sl.v (⟨none,0,0⟩:Sl),.int .i64 0] 39) fun u1 I=>
 ∃u2,qa ro I ⟨u0,0,none⟩=some (.int .i64 u2)/\
 ∃u3,qa ro I ((⟨u0,0,none⟩:Addr).add 1)=some (.int .i64 u3)/\
 ∃u4,qa ro I ((⟨u0,0,none⟩:Addr).add 3)=some (.int .i64 u4)/\
 ∃u5,qa ro I ((⟨u0,0,none⟩:Addr).add 4)=some (Sl.v u5)/\
 ∃u6,qa ro I ((⟨u0,0,none⟩:Addr).add 5)=some (.int .i64 u6)/\
 ∃u7,qa ro I (((⟨u0,0,none⟩:Addr).add 5).add 1)=some (.int .i64 u7)/\
 ∃u8,qa ro I (((⟨u0,0,none⟩:Addr).add 5).add 2)=some (.int .i64 u8)/\
 ∃u9,qa ro I (((⟨u0,0,none⟩:Addr).add 5).add 3)=some (.int .i64 u9)/\
 ∃u10,qa ro I ((⟨u0,0,none⟩:Addr).add 9)=some (Sl.v u10)/\
 ∃u11,qa ro I ((⟨u0,0,none⟩:Addr).add 11)=some (.int .i64 u11)/\
 nw ro I (.cells #[.int .i64 0,.int .i64 0,Sl.v (⟨none,0,0⟩:Sl),.int .i64 0,Sl.v (⟨none,0,0⟩:Sl),.int .i64 0,.int .i64 0,.int .i64 0,.int .i64 0,Sl.v (⟨none,0,0⟩:Sl),Sl.v (⟨none,0,0⟩:Sl),.int .i64 0] 39) fun u12 I=>
 stN ⟨u12,0,none⟩ (fun I=>
 ∃u13,qa ro I ((⟨u0,0,none⟩:Addr).add 2)=some (Sl.v u13)/\
 lfpD (uZ B ro u0 u1 u12 u13 Q) (0) I) [.int .i64 u2,.int .i64 u3,Sl.v (⟨none,0,0⟩:Sl),.int .i64 u4,Sl.v u5,.int .i64 u6,.int .i64 u7,.int .i64 u8,.int .i64 u9,Sl.v u10,Sl.v (⟨none,0,0⟩:Sl),.int .i64 u11] 0 I
def am8{a0_0 a0_1 a0_2 a0_3 a0_4 a0_5 a0_6 a0_7 a0_8 a0_9 a0_10 a0_11 Q}(h:Sep ro I->afQ B ro a0_0 a0_1 a0_2 a0_3 a0_4 a0_5 a0_6 a0_7 a0_8 a0_9 a0_10 a0_11 I Q):abi B ro a0_0 a0_1 a0_2 a0_3 a0_4 a0_5 a0_6 a0_7 a0_8 a0_9 a0_10 a0_11 I Q:=by
 refine zb h func14 ntmps14 fun h=>?_;unfold afQ at h;refine zw ?_;refine zA (wt rfl rfl) h fun u0 h=>?_;refine zA (qT rfl aim) h fun u1 h=>?_;refine zf mi afx ?_;refine zL LW h fun u2 h=>?_;refine zf mi ty3 ?_;refine zL mf h fun u3 h=>?_;refine zf mi ty3 ?_;refine zL mf h fun u4 h=>?_;refine zf mi wg ?_
 refine zL mn h fun u5 h=>?_;refine zf mi wx ?_;refine zf mE ty3 ?_;refine zL mf h fun u6 h=>?_;refine zf mi wx ?_;refine zf mE ty3 ?_;refine zL mf h fun u7 h=>?_;refine zf mi wx ?_;refine zf mE ty3 ?_;refine zL mf h fun u8 h=>?_;refine zf mi wx ?_;refine zf mE ty3 ?_
 refine zL mf h fun u9 h=>?_;refine zm (av2 (vs:=[(0,.int .i64 u6),(1,.int .i64 u7),(2,.int .i64 u8),(3,.int .i64 u9)]) (cs:= #[.int .i64 u6,.int .i64 u7,.int .i64 u8,.int .i64 u9]) rfl underlying36 aqR ty3 rfl rfl) ?_;refine zf mi aeJ ?_;refine zL mx h fun u10 h=>?_;refine zf mi ty3 ?_;refine zL mf h fun u11 h=>?_;refine zm (wB (vs:=[(0,.int .i64 u2),(1,.int .i64 u3),(3,.int .i64 u4),(4,Sl.v u5),(5,.agg #[.int .i64 u6,.int .i64 u7,.int .i64 u8,.int .i64 u9]),(6,Sl.v u10),(8,.int .i64 u11)]) (cs:= #[.int .i64 u2,.int .i64 u3,Sl.v (⟨none,0,0⟩:Sl),.int .i64 u4,Sl.v u5,.int .i64 u6,.int .i64 u7,.int .i64 u8,.int .i64 u9,Sl.v u10,Sl.v (⟨none,0,0⟩:Sl),.int .i64 u11]) rfl mP aim axp rfl j0) ?_
 refine zA (qT rfl aim) h fun u12 h=>?_;refine zsp aim h fun I h=>?_;refine AW.seqJ (fun fr I=>qo [(1,.pointer (some ⟨u0,0,none⟩)),(2,.pointer (some ⟨u1,0,none⟩)),(3,.pointer (some ⟨u12,0,none⟩))] fr/\abT B ro u0 u1 u12 Q I) ?_ ?_
 rotate_left
 .refine zf mi aeI ?_;refine zL nM h fun u13 h=>?_;refine zm (qC rfl rfl nM rfl rfl) ?_;refine zw ?_;refine qi.loop (fr':=[(1,.pointer (some ⟨u0,0,none⟩)),(2,.pointer (some ⟨u1,0,none⟩)),(3,.pointer (some ⟨u12,0,none⟩)),(35,Sl.v u13),(36,.int .i64 (u13.len:Int)),(37,.int .i64 0)]) ?_ FL
  refine h (fun u14 I=>qi _ _ _ _ _ _ [(1,.pointer (some ⟨u0,0,none⟩)),(2,.pointer (some ⟨u1,0,none⟩)),(3,.pointer (some ⟨u12,0,none⟩)),(35,Sl.v u13),(36,.int .i64 (u13.len:Int)),(37,.int .i64 u14)] I) ?_
  rintro u14 I Y31 hY31 h
  show AW _ _ _ _ _ _ _ _
  unfold uZ at h;refine zw ?_;refine AW.seq ?_;refine zi h (fun h=>?_) fun h=>?_
  rotate_left
  .refine AW.exit ?_;refine zw ?_;refine qX ?_
   refine zw ?_;exact⟨FL,h⟩
  refine zw ?_;refine AW.seq ?_;refine zw ?_;obtain⟨p15,ha,h0,h1,h⟩:=h
  refine zm (wO rfl nM abM (ixL rfl ha) rfl h0 h1) ?_;obtain⟨u16,u17,hc,h⟩:=h
  refine zl (wq rfl Lc rfl abM rfl hc ?_)
  refine zA (qT rfl abM) h fun u18 h=>?_;refine zs abM h fun I h=>?_;refine zf mP ahn ?_;refine zL nU h fun u19 h=>?_;refine zf Lc ty9 ?_;refine zL mo h fun u20 h=>?_;refine zf Lc ty3 ?_;refine zL mf h fun u21 h=>?_;refine zm (wB (vs:=[(0,.string u20),(1,.int .i64 u21)]) (cs:= #[.string u20,.int .i64 u21]) rfl Ph alV awV rfl rfl) ?_
  refine zA (wj (vs:=[(0,.agg #[.string u20,.int .i64 u21])]) (cs:= #[.string u20,.int .i64 u21]) rfl nU alV y1 rfl rfl) h fun u22 h=>?_;refine zl (vZ (s:=Builtin.append_ #[35,35] 35 #[Sl.v u19,Sl.v (⟨some ⟨u22,0,none⟩,1,1⟩:Sl)]) rfl rfl (fun _=>rfl) (qk _ h ?_))
  rintro v I ⟨u23,rfl,h⟩;refine zf mP ahn ?_;refine zsp ahn h fun I h=>?_;refine qi.head (fr':=[(1,.pointer (some ⟨u0,0,none⟩)),(2,.pointer (some ⟨u1,0,none⟩)),(3,.pointer (some ⟨u12,0,none⟩)),(35,Sl.v u13),(36,.int .i64 (u13.len:Int)),(37,.int .i64 (i64.wrap (u14+1)))]) ?_ FL
  exact hY31 _ _ h
 rintro fr I ⟨hl,h⟩;refine AW.weaken ?_ hl (HLe.refl _)
 unfold abT at h;refine AW.seqJ (fun fr I=>qo [(2,.pointer (some ⟨u1,0,none⟩)),(3,.pointer (some ⟨u12,0,none⟩))] fr/\uX B ro u1 u12 Q I) ?_ ?_
 .rintro fr I ⟨hl,h⟩;refine AW.weaken ?_ hl (HLe.refl _)
  unfold uX at h;refine zw ?_;obtain⟨u24,u25,u26,u27,u28,u29,u30,u31,u32,u33,u34,u35,hc,h⟩:=h
  refine zl (wq rfl mP rfl aim rfl hc ?_)
  refine zsp aim h fun I h=>?_;obtain⟨u36,u37,u38,u39,u40,u41,u42,u43,u44,u45,u46,u47,hc0,h⟩:=h
  exact xN results14 (wA (vN rfl mP rfl aim hc0) vM) ⟨_,_,_,_,_,_,_,_,_,_,_,_,rfl,h⟩
 refine zf mi aaA ?_;refine zL nf h fun u48 h=>?_;refine zm (qC rfl rfl nf rfl rfl) ?_;refine zw ?_;refine qi.loop (fr':=[(2,.pointer (some ⟨u1,0,none⟩)),(3,.pointer (some ⟨u12,0,none⟩)),(53,Sl.v u48),(54,.int .i64 (u48.len:Int)),(55,.int .i64 0)]) ?_ FL
 refine h (fun u49 I=>qi _ _ _ _ _ _ [(2,.pointer (some ⟨u1,0,none⟩)),(3,.pointer (some ⟨u12,0,none⟩)),(53,Sl.v u48),(54,.int .i64 (u48.len:Int)),(55,.int .i64 u49)] I) ?_
 rintro u49 I Y19 hY19 h
 show AW _ _ _ _ _ _ _ _
 unfold uY at h;refine zw ?_;refine AW.seq ?_;refine zi h (fun h=>?_) fun h=>?_
 rotate_left
 .refine AW.exit ?_;refine zw ?_;refine qX ?_
  refine zw ?_;exact⟨FL,h⟩
 refine zw ?_;refine AW.seq ?_;refine zw ?_;obtain⟨p50,ha,h0,h1,h⟩:=h
 refine zm (wO rfl nf xJ (ixL rfl ha) rfl h0 h1) ?_;obtain⟨u51,u52,u53,hc,h⟩:=h
 refine zl (wq rfl nG rfl xJ rfl hc ?_)
 refine zA (qT rfl xJ) h fun u54 h=>?_;refine zs xJ h fun I h=>?_;refine zf mP afy ?_;refine zL nu h fun u55 h=>?_;refine zf nG ty3 ?_;refine zL mf h fun u56 h=>?_;refine zf nG ty3 ?_;refine zL mf h fun u57 h=>?_;refine zf nG ty9 ?_;refine zL mo h fun u58 h=>?_;refine zm (wB (vs:=[(0,.int .i64 u56),(1,.int .i64 u57),(2,.string u58)]) (cs:= #[.int .i64 u56,.int .i64 u57,.string u58]) rfl LO ain awW rfl rfl) ?_
 refine zA (wj (vs:=[(0,.agg #[.int .i64 u56,.int .i64 u57,.string u58])]) (cs:= #[.int .i64 u56,.int .i64 u57,.string u58]) rfl nu ain y1 rfl rfl) h fun u59 h=>?_;refine zl (vZ (s:=Builtin.append_ #[37,37] 37 #[Sl.v u55,Sl.v (⟨some ⟨u59,0,none⟩,1,1⟩:Sl)]) rfl rfl (fun _=>rfl) (qk _ h ?_))
 rintro v I ⟨u60,rfl,h⟩;refine zf mP afy ?_;refine zsp afy h fun I h=>?_;refine qi.head (fr':=[(2,.pointer (some ⟨u1,0,none⟩)),(3,.pointer (some ⟨u12,0,none⟩)),(53,Sl.v u48),(54,.int .i64 (u48.len:Int)),(55,.int .i64 (i64.wrap (u49+1)))]) ?_ FL
 exact hY19 _ _ h
def aaa(B:ZB)(ro:AH)(Q:Bool->AH->Prop)(u0:Bool)(I:AH):=
 Q u0 I
def pU(B:ZB)(ro:AH)(u0:ZO)(Q:Bool->AH->Prop)(u1:Bool)(I:AH):=
 if u1=true then
 ∃p2,u0=some p2/\
 ac1 B ro (some p2) I fun u3 I=>
 aaa B ro Q (decide ((u3.len:Int)=3)) I
 else
 aaa B ro Q false I
def aaQ(B:ZB)(ro:AH)(u0:ZO)(Q:Bool->AH->Prop)(u1:Bool)(I:AH):=
 if u1=true then
 ∃p2,u0=some p2/\
 aeg B ro (some p2) I fun u3 I=>
 pU B ro u0 Q (decide (u3=0)) I
 else
 pU B ro u0 Q false I
def afR(B:ZB)(ro I:AH)(Q:Bool->AH->Prop):Prop:=
 nw ro I (.cells #[.int .i64 0,.int .i64 1,.int .i64 2] 3) fun u0 I=>
 abs B ro (⟨some ⟨u0,0,none⟩,3,3⟩:Sl) I fun u1 u2 I=>
 if(u1=none)\/(¬(u2=0))then
 Q false I
 else
 xv B ro u1 1 (⟨#[97]⟩:ZA) 0 0 5 100 0 0 (⟨none,0,0⟩:Sl) ByteArray.empty false 0 (⟨none,0,0⟩:Sl) I fun u3 u4 u5 u6 u7 u8 u9 u10 u11 u12 u13 u14 I=>
 nw ro I (.cells #[.int .i64 0,.int .i64 0,Sl.v (⟨none,0,0⟩:Sl),.int .i64 0,Sl.v (⟨none,0,0⟩:Sl),.int .i64 0,.int .i64 0,.int .i64 0,.int .i64 0,Sl.v (⟨none,0,0⟩:Sl),Sl.v (⟨none,0,0⟩:Sl),.int .i64 0] 30) fun u15 I=>
 stN ⟨u15,0,none⟩ (fun I=>
 ∃u16,qa ro I ⟨u15,0,none⟩=some (.int .i64 u16)/\
 if u16=0 then
  ∃u17,qa ro I ((⟨u15,0,none⟩:Addr).add 1)=some (.int .i64 u17)/\
  aaQ B ro u1 Q (decide (u17=1)) I
 else
 aaQ B ro u1 Q false I) [.int .i64 u3,.int .i64 u4,Sl.v u5,.int .i64 u6,Sl.v u7,.int .i64 u8,.int .i64 u9,.int .i64 u10,.int .i64 u11,Sl.v u12,Sl.v u13,.int .i64 u14] 0 I
def am9{Q}(h:Sep ro I->afR B ro I Q):afz B ro I Q:=by
 refine zb h func20 ntmps20 fun h=>?_;unfold afR at h;refine zw ?_;refine zA (wj (vs:=[(0,.int .i64 0),(1,.int .i64 1),(2,.int .i64 2)]) (cs:= #[.int .i64 0,.int .i64 1,.int .i64 2]) rfl mO ty3 y1 rfl rfl) h fun u0 h=>?_;refine zc func21 h ?_;rintro v I ⟨u1,u2,rfl,h⟩;refine zw ?_;refine AW.seq ?_;refine zw ?_;refine zm (ae3 rfl underlying51 rfl rfl) ?_
 refine zw ?_;refine wY 3 u1.isNone [(1,.pointer u1),(14,.bool (u1.isNone || (!(decide (u2=0)))))] ?_ ?_ ?_
 .intro e2 hk2
  refine zv e2 ?_;exact hk2 _ (Fe e2)
 .intro e2 hk2
  refine zv e2 ?_;exact hk2 _ (Fe e2)
 intro fr hl
 refine Lfr hl ?_
 refine zw ?_;refine AW.iff rfl (vr zJ (qu me)) h (fun h=>?_) (fun h=>?_)
 .exact zr h
 refine zw ?_;refine zm (wB (vs:=[(0,.int .i64 1),(1,.string (⟨#[97]⟩:ZA)),(4,.int .i64 5),(5,.int .i64 100)]) (cs:= #[.int .i64 1,.string (⟨#[97]⟩:ZA),.int .i64 0,.int .i64 0,.int .i64 5,.int .i64 100,.int .i64 0,.int .i64 0,Sl.v (⟨none,0,0⟩:Sl),.string ByteArray.empty,.bool false,.int .i64 0,Sl.v (⟨none,0,0⟩:Sl)]) rfl mw yV axq rfl j0) ?_
 refine zc func22 h ?_;rintro v I ⟨u3,u4,u5,u6,u7,u8,u9,u10,u11,u12,u13,u14,rfl,h⟩;refine zA (qT rfl qM) h fun u15 h=>?_;refine zs qM h fun I h=>?_;refine zf mi afx ?_;refine zLp LW h fun u16 h=>?_;refine qI 4 (decide (u16=0)) me h (fun fr I=> ∃(u17:Bool),qo [(1,.pointer u1),(25,.bool u17)] fr/\aaQ B ro u1 Q u17 I) ?_ ?_ ?_
 .intro h e3 hk3;refine qO (qW rfl mi rfl ty3 y1 rfl) rfl rfl rfl rfl e3 ?_
  obtain⟨u18,hc,h⟩:=h
  refine Lyb rfl rfl rfl rfl e3 (vc rfl mf rfl rfl hc ?_)
  refine zv e3 ?_;exact hk3 _ _ ⟨_,FL,h⟩
 .intro h e3 hk3;refine zv e3 ?_;exact hk3 _ _ ⟨_,FL,h⟩
 rintro fr I ⟨u17,hl,h⟩;unfold aaQ at h;refine Lfr hl ?_
 refine zw ?_;refine qI 6 u17 Iff.rfl h (fun fr I=> ∃(u19:Bool),qo [(1,.pointer u1),(32,.bool u19)] fr/\pU B ro u1 Q u19 I) ?_ ?_ ?_
 .intro h e8 hk8;refine zy e8 ?_;obtain⟨p20,hc,h⟩:=h
  refine qO (kW rfl (by rw[<-hc];try rfl)) rfl rfl rfl rfl e8 ?_
  refine qO (qW rfl mX rfl afZ y1 rfl) rfl rfl rfl rfl e8 ?_
  refine Lyb rfl rfl rfl rfl e8 (kG rfl func62 rfl rfl rfl (qc.mono h ?_))
  rintro v I ⟨u21,rfl,h⟩;refine zv e8 ?_;exact hk8 _ _ ⟨_,FL,h⟩
 .intro h e8 hk8;refine zv e8 ?_;exact hk8 _ _ ⟨_,FL,h⟩
 rintro fr I ⟨u19,hl,h⟩;unfold pU at h;refine Lfr hl ?_
 refine zw ?_;refine qI 7 u19 Iff.rfl h (fun fr I=> ∃(u22:Bool),qo [(40,.bool u22)] fr/\aaa B ro Q u22 I) ?_ ?_ ?_
 .intro h e15 hk15;refine zy e15 ?_;obtain⟨p23,hc,h⟩:=h
  refine qO (kW rfl (by rw[<-hc];try rfl)) rfl rfl rfl rfl e15 ?_
  refine qO (qW rfl mX rfl afZ y1 rfl) rfl rfl rfl rfl e15 ?_
  refine Lyb rfl rfl rfl rfl e15 (kG rfl func63 rfl rfl rfl (qc.mono h ?_))
  rintro v I ⟨u24,rfl,h⟩;refine qO (qC rfl rfl mO rfl rfl) rfl rfl rfl rfl e15 ?_
  refine zv e15 ?_;exact hk15 _ _ ⟨_,FL,h⟩
 .intro h e15 hk15;refine zv e15 ?_;exact hk15 _ _ ⟨_,FL,h⟩
 rintro fr I ⟨u22,hl,h⟩;unfold aaa at h;refine Lfr hl ?_
 exact zr h