import Derived.Test.YtomdigihapdhnaaGreatDoorXQ
set_option linter.all false
set_option maxRecDepth 99999
set_option maxHeartbeats 0
open Go.IntKind(i64)
open Go.Proofs.Tryz
namespace Go.Proofs.YtomdigihapdhnaaGreatDoor
namespace G
open Go SL
variable{B:ZB}{ro I:AH}
def adq(B:ZB)(ro I:AH)(Q:ZO->AH->Prop):Prop:=
 nw ro I (.map #[] 0) fun u0 I=>
 nw ro I (.cells #[.map (some u0)] 242) fun u1 I=>
 Q (some ⟨u1,0,none⟩) I
def ah5{Q}(h:Sep ro I->adq B ro I Q):ajb B ro I Q:=by
 refine zb h func67 ntmps67 fun h=>?_;unfold adq at h;refine zw ?_;refine zA (ahM rfl) h fun u0 h=>?_;refine zm (wB (vs:=[(0,.map (some u0))]) (cs:= #[.map (some u0)]) rfl LF awP aw1 rfl rfl) ?_;refine zA (wt rfl rfl) h fun u1 h=>?_;exact zr h
def vK(B:ZB)(ro:AH)(a0:ZO)(u0:Nat)(Q:Bool->AH->Prop)(u1:Bool)(I:AH):=
 if u1=true then
 Q false I
 else
 jX I fun ψ I=>
 ∃p2,a0=some p2/\
 ∃u3,qa (join ro ψ) (fun _=>none) ((⟨u0,0,none⟩:Addr).add 1)=some (.int .i64 u3)/\
 ∃u4,qa (join ro ψ) I p2=some (.map u4)/\
 ∃u5,qa (join ro ψ) I ⟨u0,0,none⟩=some (.string u5)/\
 awp prog (join ro ψ) (Instr.lookup 240 (.map u4) (.string u5) false) (fun v I=>
  (∃(u6:ZO),v= .pointer u6/\
  ∃p7,u6=some p7/\
  ∃u8,qa (join ro ψ) I (p7.add 1)=some (.map u8)/\
  awp prog (join ro ψ) (Builtin.delete_ #[252,3] 0 #[.map u8,.int .i64 u3]) (fun v I=>v= .tuple #[]/\
   (qL ψ I->(fun I=>
   Q true I) (join ψ I))) I)) I
def aan(B:ZB)(ro:AH)(a0:ZO)(a1_0:ZA)(a1_1 a2:Int)(I:AH)(Q:Bool->AH->Prop):=
 nw ro I (.cells #[.string a1_0,.int .i64 a1_1] 81) fun u0 I=>
 ∃u1 u2,qe ro I ⟨u0,0,none⟩ 0 [.string u1,.int .i64 u2]/\
 vP B ro a0 u1 u2 I fun u3 u4 I=>
 if¬(u4=0)then
 vK B ro a0 u0 Q true I
 else
 ∃p5,u3=some p5/\
 ∃u6,qa ro I (p5.add 4)=some (.int .i64 u6)/\
 vK B ro a0 u0 Q (!(decide (u6=a2))) I
def agT{a0 a1_0 a1_1 a2 Q}(h:Sep ro I->aan B ro a0 a1_0 a1_1 a2 I Q):aag B ro a0 a1_0 a1_1 a2 I Q:=by
 refine zb h func70 ntmps70 fun h=>?_;unfold aan at h;refine zw ?_;refine zAp (wt rfl rfl) h fun u0 h=>?_;obtain⟨u1,u2,hc,h⟩:=h
 refine zl (wq rfl mH rfl vl rfl hc ?_)
 refine zc func123 h ?_;rintro v I ⟨u3,u4,rfl,h⟩;refine zw ?_;refine AW.seq ?_;refine zw ?_;refine qI 7 (!(decide (u4=0))) (qu me) h (fun fr I=> ∃(u5:Bool),qo [(0,.pointer a0),(4,.pointer (some ⟨u0,0,none⟩)),(24,.bool u5)] fr/\vK B ro a0 u0 Q u5 I) ?_ ?_ ?_
 .intro h e2 hk2;refine zv e2 ?_;exact hk2 _ _ ⟨_,FL,h⟩
 .intro h e2 hk2;refine zy e2 ?_;obtain⟨p6,hc,h⟩:=h
  refine qO (kW rfl (by rw[<-hc];try rfl)) rfl rfl rfl rfl e2 ?_
  refine qO (qW rfl Li rfl ty3 y1 rfl) rfl rfl rfl rfl e2 ?_
  obtain⟨u7,hc,h⟩:=h
  refine Lyb rfl rfl rfl rfl e2 (vc rfl mf rfl rfl hc ?_)
  refine zv e2 ?_;exact hk2 _ _ ⟨_,FL,h⟩
 rintro fr I ⟨u5,hl,h⟩;unfold vK at h;refine Lfr hl ?_
 refine zj h (fun h=>?_) fun h=>?_
 .exact zr h
 refine zw ?_;refine AW.seq ?_;refine AW.drawnL (fun i=>([0,0,0,3,0,3,2,0,0,3,0,0,2]:List Nat).getD i 2) [(3,6),(3,7),(3,8),(3,9),(3,12),(5,6),(5,7),(5,8),(5,9),(5,12),(6,7),(6,8),(6,9),(6,12)] [0,1,2,4,10,11,3,5,6,7,8,9,12] mixed h j3 ?_
 clear h
 intro ψ I h
 refine zM h fun p8 h=>?_;refine zg LF aip ?_;refine zg mH ty9 ?_;refine zg mH ty3 ?_;refine zS mf h fun u9 h=>?_;refine zR LQ h fun u10 h=>?_;refine zR mo h fun u11 h=>?_;refine Dg rfl rfl rfl rfl (yj rfl rfl rfl (qk _ h ?_))
 rintro v I ⟨u12,rfl,h⟩;refine zM h fun p13 h=>?_;refine zg nC af1 ?_;refine zR Lw h fun u14 h=>?_;refine Dg rfl rfl rfl rfl (vZ (s:=Builtin.delete_ #[252,3] 0 #[.map u14,.int .i64 u9]) rfl rfl (fun _=>rfl) (qk _ h ?_))
 rintro v I ⟨rfl,h⟩;refine⟨_,wW.refl _,fun hdj=>?_⟩
 replace h:=h hdj
 exact zr h
def vp(B:ZB)(ro:AH)(a0:ZO)(a1:ZA)(a2 a3:Int)(u0:ZO)(Q:Int->Bool->Int->AH->Prop)(u1:Bool)(I:AH):=
 if u1=true then
 Q 0 false 61 I
 else
 ∃p2,u0=some p2/\
 ∃u3,qa ro I p2=some (.int .i64 u3)/\
 ∃p4,u0=some p4/\
 stN p4 (fun I=>
 ∃p5,u0=some p5/\
 ∃p6,u0=some p6/\
 ∃p7,u0=some p7/\
 ∃u8,qa ro I (p5.add 1)=some (.map u8)/\
 ∃u9,qa ro I p6=some (.int .i64 u9)/\
 ∃u10,qa ro I p7=some (.int .i64 u10)/\
 nw ro I (.cells #[.string a1,.int .i64 u10,.int .i64 a2,.int .i64 a3,.int .i64 0,.int .i64 0,Sl.v (⟨none,0,0⟩:Sl)] 83) fun u11 I=>
 awp prog ro (Instr.mapUpdate 252 (.map u8) (.int .i64 u9) (.pointer (some ⟨u11,0,none⟩))) (fun _ I=>
  ∃p12,a0=some p12/\
  ∃u13,qa ro I p12=some (.map u13)/\
  awp prog ro (Instr.mapUpdate 240 (.map u13) (.string a1) (.pointer u0)) (fun _ I=>
  ∃p14,u0=some p14/\
  ∃u15,qa ro I p14=some (.int .i64 u15)/\
  Q u15 true 0 I) I) I) [.int .i64 (i64.wrap (u3+1))] 0 I
def jd(B:ZB)(ro:AH)(a0:ZO)(a1:ZA)(a2 a3:Int)(u0:ZO)(Q:Int->Bool->Int->AH->Prop)(I:AH):=
 ∃p1,u0=some p1/\
 ∃u2,qa ro I (p1.add 1)=some (.map u2)/\
 awp prog ro (Builtin.len_ #[252] 3 #[.map u2]) (fun v I=> ∃(u3:Int),v= .int .i64 u3/\
 if 64<=u3 then
  vp B ro a0 a1 a2 a3 u0 Q true I
 else
 ∃p4,u0=some p4/\
 ∃u5,qa ro I p4=some (.int .i64 u5)/\
 vp B ro a0 a1 a2 a3 u0 Q (decide (u5=4611686018427387903)) I) I
def yp(B:ZB)(ro:AH)(a0:ZO)(a1:ZA)(a2 a3:Int)(p0:Addr)(u1:ZO)(Q:Int->Bool->Int->AH->Prop):(Unit)->AH->((Unit)->AH->Prop)->Prop:=fun _ I Y33=>
 awp prog ro (Instr.next (.pointer (some p0)) false 0) (fun v I=>
 (v= .tuple #[.bool false]/\
  jd B ro a0 a1 a2 a3 u1 Q I)\/
 (∃(u2:ZC) (u3:ZC),v= .tuple #[.bool true,u2,u3]/\
  awp prog ro (Instr.entry (.pointer (some p0))) (fun v I=>
  (∃(u4:Int) (u5:ZO),v= .tuple #[.int .i64 u4,.pointer u5]/\
   ∃p6,u5=some p6/\
   ∃u7,qa ro I (p6.add 2)=some (.int .i64 u7)/\
   if u7=a2 then
   Q u4 false 0 I
   else
   Y33 () I)) I)) I
def vG(B:ZB)(ro:AH)(a0:ZO)(a1:ZA)(a2 a3:Int)(Q:Int->Bool->Int->AH->Prop)(u0:ZO)(I:AH):=
 ∃p1,u0=some p1/\
 ∃u2,qa ro I (p1.add 1)=some (.map u2)/\
 awp prog ro (Instr.range 252 (.map u2)) (fun v I=>
 (∃(p3:Addr),v= .pointer (some p3)/\
  lfpD (yp B ro a0 a1 a2 a3 p3 u0 Q) () I)) I
def pF(B:ZB)(ro:AH)(a0:ZO)(a1:ZA)(a2 a3:Int)(I:AH)(Q:Int->Bool->Int->AH->Prop):=
 pH B ro a1 I fun u0 I=>
 if¬(u0=true)then
 Q 0 false 82 I
 else
 aa3 B ro a2 I fun u1 I=>
 if¬(u1=true)then
 Q 0 false 10 I
 else
 if(a3<1)\/(1048576<a3)then
 Q 0 false 153 I
 else
 ∃p2,a0=some p2/\
 ∃u3,qa ro I p2=some (.map u3)/\
 awp prog ro (Instr.lookup 240 (.map u3) (.string a1) false) (fun v I=>
 (∃(u4:ZO),v= .pointer u4/\
  if u4=none then
  nw ro I (.map #[] 0) fun u5 I=>
  nw ro I (.cells #[.int .i64 0,.map (some u5)] 254) fun u6 I=>
  vG B ro a0 a1 a2 a3 Q (some ⟨u6,0,none⟩) I
  else
  vG B ro a0 a1 a2 a3 Q u4 I)) I
def ad1{a0 a1 a2 a3 Q}(h:Sep ro I->pF B ro a0 a1 a2 a3 I Q):jq B ro a0 a1 a2 a3 I Q:=by
 refine zb h func121 ntmps121 fun h=>?_;unfold pF at h;refine zw ?_;refine AW.seq ?_;refine zC func99 h fun u0 I h=>?_;refine AW.iff rfl (qu Iff.rfl) h (fun h=>?_) (fun h=>?_)
 .refine zw ?_;exact bR3 results121 rfl rfl rfl ⟨_,_,_,rfl,h⟩
 refine zC func178 h fun u1 I h=>?_;refine AW.iff rfl (qu Iff.rfl) h (fun h=>?_) (fun h=>?_)
 .refine zw ?_;exact bR3 results121 rfl rfl rfl ⟨_,_,_,rfl,h⟩
 refine zw ?_;refine wY 3 (decide (a3<1)) [(0,.pointer a0),(1,.string a1),(2,.int .i64 a2),(3,.int .i64 a3),(28,.bool ((decide (a3<1)) || (decide (1048576<a3))))] ?_ ?_ ?_
 .intro e2 hk2
  refine zv e2 ?_;exact hk2 _ (Fe e2)
 .intro e2 hk2
  refine zv e2 ?_;exact hk2 _ (Fe e2)
 intro fr hl
 refine Lfr hl ?_
 refine zw ?_;refine AW.iff rfl (vr me me) h (fun h=>?_) (fun h=>?_)
 .refine zw ?_;exact bR3 results121 rfl rfl rfl ⟨_,_,_,rfl,h⟩
 refine zN h fun p2 h=>?_;refine zf LF aip ?_;refine zLp LQ h fun u3 h=>?_;refine zl (yj rfl rfl rfl (qk _ h ?_))
 rintro v I ⟨u4,rfl,h⟩;refine zw ?_;refine AW.seqJ (fun fr I=> ∃(u5:ZO),qo [(0,.pointer a0),(1,.string a1),(2,.int .i64 a2),(3,.int .i64 a3),(11,.pointer u5)] fr/\vG B ro a0 a1 a2 a3 Q u5 I) ?_ ?_
 rotate_left
 .refine zw ?_;refine zm (ae3 rfl underlying255 rfl rfl) ?_;refine zw ?_;refine AW.iff rfl zJ h (fun h=>?_) (fun h=>?_)
  rotate_left
  .refine zw ?_;exact⟨_,FL,h⟩
  refine zw ?_;refine zA (ahM rfl) h fun u6 h=>?_;refine zm (wB (vs:=[(1,.map (some u6))]) (cs:= #[.int .i64 0,.map (some u6)]) rfl nC awR aw3 rfl rfl) ?_;refine zAp (wt rfl rfl) h fun u7 h=>?_;exact⟨_,FL,h⟩
 rintro fr I ⟨u5,hl,h⟩;refine AW.weaken ?_ hl (HLe.refl _)
 unfold vG at h;refine AW.seqJ (fun fr I=>qo [(0,.pointer a0),(1,.string a1),(2,.int .i64 a2),(3,.int .i64 a3),(11,.pointer u5)] fr/\jd B ro a0 a1 a2 a3 u5 Q I) ?_ ?_
 rotate_left
 .refine zN h fun p8 h=>?_;refine zf nC af1 ?_;refine zL Lw h fun u9 h=>?_;refine zl (aoo rfl rfl (qk _ h ?_))
  rintro v I ⟨p10,rfl,h⟩;refine zw ?_;refine qi.loop (fr':=[(0,.pointer a0),(1,.string a1),(2,.int .i64 a2),(3,.int .i64 a3),(11,.pointer u5),(44,.pointer (some p10))]) ?_ FL
  refine h (fun _ I=>qi _ _ _ _ _ _ [(0,.pointer a0),(1,.string a1),(2,.int .i64 a2),(3,.int .i64 a3),(11,.pointer u5),(44,.pointer (some p10))] I) ?_
  rintro _ I Y33 hY33 h
  show AW _ _ _ _ _ _ _ _
  unfold yp at h;refine zw ?_;refine zl (aop rfl rfl rfl (qk _ h ?_))
  rintro v I (⟨rfl,h⟩ | ⟨u11,u12,rfl,h⟩)
  .refine zw ?_;refine AW.seq ?_;refine AW.no rfl ?_;refine AW.exit ?_;refine zw ?_;refine qX ?_
   refine zw ?_;exact⟨FL,h⟩
  .refine zw ?_;refine AW.seq ?_;refine AW.yes rfl ?_;refine zw ?_;refine zl (aqP rfl rfl (qk _ h ?_))
   rintro v I ⟨u13,u14,rfl,h⟩;refine zN h fun p15 h=>?_;refine zf Li ty3 ?_;refine zL mf h fun u16 h=>?_;refine zi h (fun h=>?_) fun h=>?_
   rotate_left
   .refine zw ?_;refine qi.head (fr':=[(0,.pointer a0),(1,.string a1),(2,.int .i64 a2),(3,.int .i64 a3),(11,.pointer u5),(44,.pointer (some p10))]) ?_ FL
    exact hY33 _ _ h
   refine zw ?_;exact bR3 results121 rfl rfl rfl ⟨_,_,_,rfl,h⟩
 rintro fr I ⟨hl,h⟩;refine AW.weaken ?_ hl (HLe.refl _)
 unfold jd at h;refine AW.seq ?_;refine zN h fun p17 h=>?_;refine zf nC af1 ?_;refine zL Lw h fun u18 h=>?_;refine zl (vZ (s:=Builtin.len_ #[252] 3 #[.map u18]) rfl rfl (fun _=>rfl) (qk _ h ?_))
 rintro v I ⟨u19,rfl,h⟩;refine zw ?_;refine qI 6 (decide (64<=u19)) me h (fun fr I=> ∃(u20:Bool),qo [(0,.pointer a0),(1,.string a1),(2,.int .i64 a2),(3,.int .i64 a3),(11,.pointer u5),(69,.bool u20)] fr/\vp B ro a0 a1 a2 a3 u5 Q u20 I) ?_ ?_ ?_
 .intro h e6 hk6;refine zv e6 ?_;exact hk6 _ _ ⟨_,FL,h⟩
 .intro h e6 hk6;refine zy e6 ?_;obtain⟨p21,hc,h⟩:=h
  refine qO (kW rfl (by rw[<-hc];try rfl)) rfl rfl rfl rfl e6 ?_
  refine qO (qW rfl nC rfl ty3 y1 rfl) rfl rfl rfl rfl e6 ?_
  obtain⟨u22,hc,h⟩:=h
  refine Lyb rfl rfl rfl rfl e6 (vc rfl mf rfl rfl hc ?_)
  refine zv e6 ?_;exact hk6 _ _ ⟨_,FL,h⟩
 rintro fr I ⟨u20,hl,h⟩;unfold vp at h;refine Lfr hl ?_
 refine zj h (fun h=>?_) fun h=>?_
 .refine zw ?_;exact bR3 results121 rfl rfl rfl ⟨_,_,_,rfl,h⟩
 refine zN h fun p23 h=>?_;refine zf nC ty3 ?_;refine zL mf h fun u24 h=>?_;refine zN h fun p25 h=>?_;refine zf nC ty3 ?_;refine zsp ty3 h fun I h=>?_;refine AW.seq ?_;refine AW.drawn0 (fun i=>([0,0,0,3,0,0,0,3,0,0,0,0,3,0,0,0,0,1,2]:List Nat).getD i 2) [] [0,1,2,4,5,6,8,9,10,11,14,15,3,7,12,13,16,17,18] mixed j3 ?_
 refine zM h fun p26 h=>?_;refine zg nC af1 ?_;refine zM h fun p27 h=>?_;refine zg nC ty3 ?_;refine zM h fun p28 h=>?_;refine zg nC ty3 ?_;refine zR Lw h fun u29 h=>?_;refine zR mf h fun u30 h=>?_;refine zR mf h fun u31 h=>?_;refine Dp rfl rfl rfl rfl (wB (vs:=[(0,.string a1),(1,.int .i64 u31)]) (cs:= #[.string a1,.int .i64 u31]) rfl mH vl av7 rfl rfl) ?_
 refine Dp rfl rfl rfl rfl (wB (vs:=[(0,.agg #[.string a1,.int .i64 u31]),(1,.int .i64 a2),(2,.int .i64 a3)]) (cs:= #[.string a1,.int .i64 u31,.int .i64 a2,.int .i64 a3,.int .i64 0,.int .i64 0,Sl.v (⟨none,0,0⟩:Sl)]) rfl Li axo axs rfl j0) ?_
 refine Da rfl rfl rfl rfl (wt rfl rfl) fun u32 g1 g2=>?_
 replace h:=h u32 g1 g2
 refine Dg rfl rfl rfl rfl (agW (.inl rfl) rfl rfl rfl (qk _ h ?_))
 rintro _ I h
 refine wG ?_
 refine zN h fun p33 h=>?_;refine zf LF aip ?_;refine zLp LQ h fun u34 h=>?_;refine zl (agW (.inl rfl) rfl rfl rfl (qk _ h ?_))
 rintro _ I h
 refine zN h fun p35 h=>?_;refine zf nC ty3 ?_;refine zLp mf h fun u36 h=>?_;exact bR3 results121 rfl rfl rfl ⟨_,_,_,rfl,h⟩
def zQ(B:ZB)(ro:AH)(u0:Nat)(u1:ZO)(Q:ZO->Int->AH->Prop)(u2:Bool)(I:AH):=
 if u2=true then
 Q none 150 I
 else
 ∃p3,u1=some p3/\
 ∃u4,qa ro I (p3.add 1)=some (.map u4)/\
 ∃u5,qa ro I ((⟨u0,0,none⟩:Addr).add 1)=some (.int .i64 u5)/\
 awp prog ro (Instr.lookup 252 (.map u4) (.int .i64 u5) false) (fun v I=>
 (∃(u6:ZO),v= .pointer u6/\
  if u6=none then
  Q none 151 I
  else
  ∃p7,u1=some p7/\
  ∃u8,qa ro I (p7.add 1)=some (.map u8)/\
  ∃u9,qa ro I ((⟨u0,0,none⟩:Addr).add 1)=some (.int .i64 u9)/\
  awp prog ro (Instr.lookup 252 (.map u8) (.int .i64 u9) false) (fun v I=>
  (∃(u10:ZO),v= .pointer u10/\
   Q u10 0 I)) I)) I
def abf(B:ZB)(ro:AH)(a0:ZO)(a1_0:ZA)(a1_1:Int)(I:AH)(Q:ZO->Int->AH->Prop):=
 nw ro I (.cells #[.string a1_0,.int .i64 a1_1] 81) fun u0 I=>
 ∃p1,a0=some p1/\
 ∃u2,qa ro I p1=some (.map u2)/\
 ∃u3,qa ro I ⟨u0,0,none⟩=some (.string u3)/\
 awp prog ro (Instr.lookup 240 (.map u2) (.string u3) false) (fun v I=>
 (∃(u4:ZO),v= .pointer u4/\
  if u4=none then
  zQ B ro u0 u4 Q true I
  else
  ∃u5,qa ro I ((⟨u0,0,none⟩:Addr).add 1)=some (.int .i64 u5)/\
  if u5<1 then
  zQ B ro u0 u4 Q true I
  else
  ∃p6,u4=some p6/\
  ∃u7,qa ro I ((⟨u0,0,none⟩:Addr).add 1)=some (.int .i64 u7)/\
  ∃u8,qa ro I p6=some (.int .i64 u8)/\
  zQ B ro u0 u4 Q (decide (u8<u7)) I)) I
def ah6{a0 a1_0 a1_1 Q}(h:Sep ro I->abf B ro a0 a1_0 a1_1 I Q):vP B ro a0 a1_0 a1_1 I Q:=by
 refine zb h func123 ntmps123 fun h=>?_;unfold abf at h;refine zw ?_;refine zAp (wt rfl rfl) h fun u0 h=>?_;refine AW.seq ?_;refine AW.drawn0 (fun i=>([0,0,0,3,0,3,2,0]:List Nat).getD i 2) [] [0,1,2,4,3,5,6,7] mixed j3 ?_
 refine zM h fun p1 h=>?_;refine zg LF aip ?_;refine zg mH ty9 ?_;refine zR LQ h fun u2 h=>?_;refine zR mo h fun u3 h=>?_;refine Dg rfl rfl rfl rfl (yj rfl rfl rfl (qk _ h ?_))
 rintro v I ⟨u4,rfl,h⟩;refine zw ?_;refine wG ?_
 refine zw ?_;refine AW.seq ?_;refine zw ?_;refine AW.seqJ (fun fr I=> ∃(u5:Bool),qo [(3,.pointer (some ⟨u0,0,none⟩)),(6,.pointer u4),(14,.bool u5)] fr/\zQ B ro u0 u4 Q u5 I) ?_ ?_
 .rintro fr I ⟨u5,hl,h⟩;refine AW.weaken ?_ hl (HLe.refl _)
  unfold zQ at h;refine zj h (fun h=>?_) fun h=>?_
  .exact zrr h
  refine AW.seq ?_;refine AW.drawn0 (fun i=>([0,0,0,3,0,3,2,0,0]:List Nat).getD i 2) [] [0,1,2,4,3,5,6,7,8] mixed j3 ?_
  refine zM h fun p6 h=>?_;refine zg nC af1 ?_;refine zg mH ty3 ?_;refine zR Lw h fun u7 h=>?_;refine zR mf h fun u8 h=>?_;refine Dg rfl rfl rfl rfl (yj rfl rfl rfl (qk _ h ?_))
  rintro v I ⟨u9,rfl,h⟩;refine Dp rfl rfl rfl rfl (ae3 rfl underlying249 rfl rfl) ?_
  refine zw ?_;refine wG ?_
  refine zw ?_;refine AW.iff rfl zJ h (fun h=>?_) (fun h=>?_)
  .exact zrr h
  refine zw ?_;refine AW.seq ?_;refine AW.drawn0 (fun i=>([0,0,0,3,0,3,2,0,0]:List Nat).getD i 2) [] [0,1,2,4,3,5,6,7,8] mixed j3 ?_
  refine zM h fun p10 h=>?_;refine zg nC af1 ?_;refine zg mH ty3 ?_;refine zR Lw h fun u11 h=>?_;refine zR mf h fun u12 h=>?_;refine Dg rfl rfl rfl rfl (yj rfl rfl rfl (qk _ h ?_))
  rintro v I ⟨u13,rfl,h⟩;refine zw ?_;refine wG ?_
  exact zrr h
 refine AW.drawn0 (fun i=>([0,0,0,0,3,0,0,0,0,3,0,0,0,3,0,0,0]:List Nat).getD i 2) [] [0,1,2,3,4,5,6,7,8,10,11,12,9,13,14,15,16] mixed j3 ?_
 refine zw ?_;refine Dp rfl rfl rfl rfl (ae3 rfl underlying255 rfl rfl) ?_
 refine zw ?_;refine agk u4.isNone zJ h ?_ ?_
 .intro h e2
  refine Dpn rfl rfl rfl rfl rfl (.inl (by rw[e2];try rfl)) rfl ?_
  refine Drn rfl rfl rfl rfl rfl (.inl (by rw[e2];try rfl)) rfl ?_
  refine Dpn rfl rfl rfl rfl rfl (.inl (by rw[e2];try rfl)) rfl ?_
  refine Dp rfl rfl rfl rfl (pN rfl (evb e2) rfl) ?_
  refine zw ?_;refine Dpn rfl rfl rfl rfl rfl (.inl rfl) rfl ?_
  refine Dpn rfl rfl rfl rfl rfl (.inl rfl) rfl ?_
  refine Dpn rfl rfl rfl rfl rfl (.inl rfl) rfl ?_
  refine Dpn rfl rfl rfl rfl rfl (.inl rfl) rfl ?_
  refine Drn rfl rfl rfl rfl rfl (.inl rfl) rfl ?_
  refine Drn rfl rfl rfl rfl rfl (.inl rfl) rfl ?_
  refine Dpn rfl rfl rfl rfl rfl (.inl rfl) rfl ?_
  refine Dp rfl rfl rfl rfl (pN rfl (evb rfl) rfl) ?_
  refine zw ?_;refine wG ?_
  refine zw ?_;exact⟨_,FL,h⟩
 intro h e2
 refine Dpy rfl rfl rfl rfl rfl e2 rfl (qW rfl mH rfl ty3 y1 rfl) ?_
 obtain⟨u14,hc,h⟩:=h
 refine Dry rfl rfl rfl rfl rfl e2 rfl (ahi rfl mf rfl rfl hc) ?_
 refine Dpy rfl rfl rfl rfl rfl e2 rfl (aog rfl rfl rfl) ?_
 refine Dp rfl rfl rfl rfl (ux rfl (evb e2) rfl) ?_
 refine zw ?_;refine agk (decide (u14<1)) me h ?_ ?_
 .intro h e7
  refine Dpn rfl rfl rfl rfl rfl (.inl (by rw[e7];try rfl)) rfl ?_
  refine Dpn rfl rfl rfl rfl rfl (.inl (by rw[e7];try rfl)) rfl ?_
  refine Dpn rfl rfl rfl rfl rfl (.inl (by rw[e7];try rfl)) rfl ?_
  refine Dpn rfl rfl rfl rfl rfl (.inl (by rw[e7];try rfl)) rfl ?_
  refine Drn rfl rfl rfl rfl rfl (.inl (by rw[e7];try rfl)) rfl ?_
  refine Drn rfl rfl rfl rfl rfl (.inl (by rw[e7];try rfl)) rfl ?_
  refine Dpn rfl rfl rfl rfl rfl (.inl (by rw[e7];try rfl)) rfl ?_
  refine Dp rfl rfl rfl rfl (pN rfl (evb e7) rfl) ?_
  refine zw ?_;refine wG ?_
  refine zw ?_;exact⟨_,FL,h⟩
 intro h e7
 refine Dpy rfl rfl rfl rfl rfl e7 rfl (qW rfl mH rfl ty3 y1 rfl) ?_
 refine Dpy rfl rfl rfl rfl rfl e7 rfl (jQ rfl rfl) ?_
 obtain⟨p15,hc,h⟩:=h
 refine Dpy rfl rfl rfl rfl rfl e7 rfl (kW rfl (by rw[<-hc];try rfl)) ?_
 refine Dpy rfl rfl rfl rfl rfl e7 rfl (qW rfl nC rfl ty3 y1 rfl) ?_
 obtain⟨u16,hc,h⟩:=h
 refine Dry rfl rfl rfl rfl rfl e7 rfl (ahi rfl mf rfl rfl hc) ?_
 obtain⟨u17,hc,h⟩:=h
 refine Dry rfl rfl rfl rfl rfl e7 rfl (ahi rfl mf rfl rfl hc) ?_
 refine Dpy rfl rfl rfl rfl rfl e7 rfl (alK rfl rfl rfl) ?_
 refine Dp rfl rfl rfl rfl (ux rfl (evb e7) rfl) ?_
 refine zw ?_;refine wG ?_
 refine zw ?_;exact⟨_,FL,h⟩
def aaR(B:ZB)(ro:AH)(a0:ZO)(a1_0:ZA)(a1_1 a2:Int)(I:AH)(Q:Sl->Bool->Int->AH->Prop):=
 nw ro I (.cells #[.string a1_0,.int .i64 a1_1] 81) fun u0 I=>
 ∃u1 u2,qe ro I ⟨u0,0,none⟩ 0 [.string u1,.int .i64 u2]/\
 vP B ro a0 u1 u2 I fun u3 u4 I=>
 if¬(u4=0)then
 Q (⟨none,0,0⟩:Sl) false u4 I
 else
 aa3 B ro a2 I fun u5 I=>
 if¬(u5=true)then
 Q (⟨none,0,0⟩:Sl) false 10 I
 else
 ∃p6,u3=some p6/\
 ∃u7,qa ro I (p6.add 5)=some (.int .i64 u7)/\
 if a2=u7 then
 ∃p8,u3=some p8/\
 ∃u9,qa ro I (p8.add 6)=some (Sl.v u9)/\
 kT B ro u9 I fun u10 I=>
 Q u10 true 0 I
 else
 ∃p11,u3=some p11/\
 ∃u12,qa ro I (p11.add 5)=some (.int .i64 u12)/\
 if a2<u12 then
 Q (⟨none,0,0⟩:Sl) false 152 I
 else
 Q (⟨none,0,0⟩:Sl) false 0 I
def ahH{a0 a1_0 a1_1 a2 Q}(h:Sep ro I->aaR B ro a0 a1_0 a1_1 a2 I Q):aaC B ro a0 a1_0 a1_1 a2 I Q:=by
 refine zb h func127 ntmps127 fun h=>?_;unfold aaR at h;refine zw ?_;refine zAp (wt rfl rfl) h fun u0 h=>?_;obtain⟨u1,u2,hc,h⟩:=h
 refine zl (wq rfl mH rfl vl rfl hc ?_)
 refine zc func123 h ?_;rintro v I ⟨u3,u4,rfl,h⟩;refine zw ?_;refine AW.seq ?_;refine zw ?_;refine AW.iff rfl (qu me) h (fun h=>?_) (fun h=>?_)
 .refine zw ?_;exact bR3 results127 rfl rfl rfl ⟨_,_,_,rfl,h⟩
 refine zC func178 h fun u5 I h=>?_;refine AW.iff rfl (qu Iff.rfl) h (fun h=>?_) (fun h=>?_)
 .refine zw ?_;exact bR3 results127 rfl rfl rfl ⟨_,_,_,rfl,h⟩
 refine zN h fun p6 h=>?_;refine zf Li ty3 ?_;refine zL mf h fun u7 h=>?_;refine zi h (fun h=>?_) fun h=>?_
 .refine zN h fun p8 h=>?_;refine zf Li wg ?_;refine zL mn h fun u9 h=>?_;refine zC func80 h fun u10 I h=>?_;exact bR3 results127 rfl rfl rfl ⟨_,_,_,rfl,h⟩
 refine zN h fun p11 h=>?_;refine zf Li ty3 ?_;refine zL mf h fun u12 h=>?_;refine zi h (fun h=>?_) fun h=>?_
 .refine zw ?_;exact bR3 results127 rfl rfl rfl ⟨_,_,_,rfl,h⟩
 refine zw ?_;exact bR3 results127 rfl rfl rfl ⟨_,_,_,rfl,h⟩
def aaS(B:ZB)(ro:AH)(a0:ZO)(a1_0:ZA)(a1_1:Int)(I:AH)(Q:Int->AH->Prop):=
 nw ro I (.cells #[.string a1_0,.int .i64 a1_1] 81) fun u0 I=>
 ∃u1 u2,qe ro I ⟨u0,0,none⟩ 0 [.string u1,.int .i64 u2]/\
 vP B ro a0 u1 u2 I fun u3 u4 I=>
 if¬(u4=0)then
 Q u4 I
 else
 jX I fun ψ I=>
 ∃p5,a0=some p5/\
 ∃u6,qa (join ro ψ) (fun _=>none) ((⟨u0,0,none⟩:Addr).add 1)=some (.int .i64 u6)/\
 ∃u7,qa (join ro ψ) I p5=some (.map u7)/\
 ∃u8,qa (join ro ψ) I ⟨u0,0,none⟩=some (.string u8)/\
 awp prog (join ro ψ) (Instr.lookup 240 (.map u7) (.string u8) false) (fun v I=>
  (∃(u9:ZO),v= .pointer u9/\
  ∃p10,u9=some p10/\
  ∃u11,qa (join ro ψ) I (p10.add 1)=some (.map u11)/\
  awp prog (join ro ψ) (Builtin.delete_ #[252,3] 0 #[.map u11,.int .i64 u6]) (fun v I=>v= .tuple #[]/\
   (qL ψ I->(fun I=>
   Q 0 I) (join ψ I))) I)) I
def ahI{a0 a1_0 a1_1 Q}(h:Sep ro I->aaS B ro a0 a1_0 a1_1 I Q):aaD B ro a0 a1_0 a1_1 I Q:=by
 refine zb h func130 ntmps130 fun h=>?_;unfold aaS at h;refine zw ?_;refine zAp (wt rfl rfl) h fun u0 h=>?_;refine AW.seq ?_;refine zw ?_;obtain⟨u1,u2,hc,h⟩:=h
 refine zl (wq rfl mH rfl vl rfl hc ?_)
 refine zc func123 h ?_;rintro v I ⟨u3,u4,rfl,h⟩;refine zw ?_;refine AW.iff rfl (qu me) h (fun h=>?_) (fun h=>?_)
 .exact zr h
 refine zw ?_;refine AW.seq ?_;refine AW.drawnL (fun i=>([0,0,0,3,0,3,2,0,0,3,0,0,2]:List Nat).getD i 2) [(3,6),(3,7),(3,8),(3,9),(3,12),(5,6),(5,7),(5,8),(5,9),(5,12),(6,7),(6,8),(6,9),(6,12)] [0,1,2,4,10,11,3,5,6,7,8,9,12] mixed h j3 ?_
 clear h
 intro ψ I h
 refine zM h fun p5 h=>?_;refine zg LF aip ?_;refine zg mH ty9 ?_;refine zg mH ty3 ?_;refine zS mf h fun u6 h=>?_;refine zR LQ h fun u7 h=>?_;refine zR mo h fun u8 h=>?_;refine Dg rfl rfl rfl rfl (yj rfl rfl rfl (qk _ h ?_))
 rintro v I ⟨u9,rfl,h⟩;refine zM h fun p10 h=>?_;refine zg nC af1 ?_;refine zR Lw h fun u11 h=>?_;refine Dg rfl rfl rfl rfl (vZ (s:=Builtin.delete_ #[252,3] 0 #[.map u11,.int .i64 u6]) rfl rfl (fun _=>rfl) (qk _ h ?_))
 rintro v I ⟨rfl,h⟩;refine⟨_,wW.refl _,fun hdj=>?_⟩
 replace h:=h hdj
 exact zr h
def abJ(B:ZB)(ro:AH)(a0:ZO)(a1_0:ZA)(a1_1 a2:Int)(a3:Sl)(I:AH)(Q:Int->AH->Prop):=
 nw ro I (.cells #[.string a1_0,.int .i64 a1_1] 81) fun u0 I=>
 ∃u1 u2,qe ro I ⟨u0,0,none⟩ 0 [.string u1,.int .i64 u2]/\
 vP B ro a0 u1 u2 I fun u3 u4 I=>
 if¬(u4=0)then
 Q u4 I
 else
 aa3 B ro a2 I fun u5 I=>
 if¬(u5=true)then
 Q 10 I
 else
 ∃p6,u3=some p6/\
 ∃u7,qa ro I (p6.add 5)=some (.int .i64 u7)/\
 if a2<=u7 then
 Q 152 I
 else
 kT B ro a3 I fun u8 I=>
 ∃p9,u3=some p9/\
 stN (p9.add 5) (fun I=>
 ∃p10,u3=some p10/\
 stN (p10.add 6) (fun I=>
  Q 0 I) [Sl.v u8] 0 I) [.int .i64 a2] 0 I
def ai2{a0 a1_0 a1_1 a2 a3 Q}(h:Sep ro I->abJ B ro a0 a1_0 a1_1 a2 a3 I Q):ui B ro a0 a1_0 a1_1 a2 a3 I Q:=by
 refine zb h func132 ntmps132 fun h=>?_;unfold abJ at h;refine zw ?_;refine zAp (wt rfl rfl) h fun u0 h=>?_;obtain⟨u1,u2,hc,h⟩:=h
 refine zl (wq rfl mH rfl vl rfl hc ?_)
 refine zc func123 h ?_;rintro v I ⟨u3,u4,rfl,h⟩;refine zw ?_;refine AW.seq ?_;refine zw ?_;refine AW.iff rfl (qu me) h (fun h=>?_) (fun h=>?_)
 .exact zr h
 refine zC func178 h fun u5 I h=>?_;refine AW.iff rfl (qu Iff.rfl) h (fun h=>?_) (fun h=>?_)
 .exact zr h
 refine zN h fun p6 h=>?_;refine zf Li ty3 ?_;refine zL mf h fun u7 h=>?_;refine zi h (fun h=>?_) fun h=>?_
 .exact zr h
 refine zc func80 h ?_;rintro v I ⟨u8,rfl,h⟩;refine zN h fun p9 h=>?_;refine zf Li ty3 ?_;refine zs ty3 h fun I h=>?_;refine zN h fun p10 h=>?_;refine zf Li wg ?_;refine zs wg h fun I h=>?_;exact zr h
def yh(B:ZB)(ro:AH)(a0:Int)(I:AH)(Q:Bool->AH->Prop):=
 Q ((decide (1<=a0)) && (decide (a0<=4611686018427387903))) I
def aau{a0 Q}(h:Sep ro I->yh B ro a0 I Q):aa3 B ro a0 I Q:=by
 refine zb h func178 ntmps178 fun h=>?_;unfold yh at h;refine zw ?_;refine wY 3 (decide (1<=a0)) [(8,.bool ((decide (1<=a0)) && (decide (a0<=4611686018427387903))))] ?_ ?_ ?_
 .intro e2 hk2
  refine zv e2 ?_;exact hk2 _ (Fe e2)
 .intro e2 hk2
  refine zv e2 ?_;exact hk2 _ (Fe e2)
 intro fr hl
 refine Lfr hl ?_
 exact zr h
def yq(B:ZB)(ro:AH)(Q:Int->AH->Prop)(I:AH):=
 Q 0 I
def xI(B:ZB)(ro:AH)(a0:ZO)(a1:Sl)(Q:Int->AH->Prop):Int->AH->(Int->AH->Prop)->Prop:=fun u0 I Y3=>
 if u0<(a1.len:Int)then
 ∃p1,a1.a=some p1/\(0:Int)<=u0/\u0<(a1.len:Int)/\
 ∃u2 u3,qe ro I (p1.add (Int.toNat u0*2)) 0 [.string u2,.int .i64 u3]/\
 nw ro I (.cells #[.string ByteArray.empty,.int .i64 0] 81) fun u4 I=>
 stN ⟨u4,0,none⟩ (fun I=>
  jX I fun ψ I=>
  ∃p5,a0=some p5/\
  ∃u6,qa (join ro ψ) (fun _=>none) ((⟨u4,0,none⟩:Addr).add 1)=some (.int .i64 u6)/\
  ∃u7,qa (join ro ψ) I p5=some (.map u7)/\
  ∃u8,qa (join ro ψ) I ⟨u4,0,none⟩=some (.string u8)/\
  awp prog (join ro ψ) (Instr.lookup 240 (.map u7) (.string u8) false) (fun v I=>
   (∃(u9:ZO),v= .pointer u9/\
   ∃p10,u9=some p10/\
   ∃u11,qa (join ro ψ) I (p10.add 1)=some (.map u11)/\
   (qL ψ I->(fun I=>
    awp prog ro (Instr.lookup 252 (.map u11) (.int .i64 u6) false) (fun v I=>
    (∃(u12:ZO),v= .pointer u12/\
     ∃p13,u12=some p13/\
     ∃u14,qa ro I (p13.add 4)=some (.int .i64 u14)/\
     ∃p15,u12=some p15/\
     stN (p15.add 4) (fun I=>
     Y3 (i64.wrap (u0+1)) I) [.int .i64 (i64.wrap (u14+1))] 0 I)) I) (join ψ I)))) I) [.string u2,.int .i64 u3] 0 I
 else
 yq B ro Q I
def yr(B:ZB)(ro:AH)(a0:ZO)(a1:Sl)(Q:Int->AH->Prop)(I:AH):=
 lfpD (xI B ro a0 a1 Q) (0) I
def xf(B:ZB)(ro:AH)(a0:ZO)(a1:Sl)(Q:Int->AH->Prop):Int->AH->(Int->AH->Prop)->Prop:=fun u0 I Y19=>
 if u0<(a1.len:Int)then
 ∃p1,a1.a=some p1/\(0:Int)<=u0/\u0<(a1.len:Int)/\
 ∃u2 u3,qe ro I (p1.add (Int.toNat u0*2)) 0 [.string u2,.int .i64 u3]/\
 nw ro I (.cells #[.string ByteArray.empty,.int .i64 0] 81) fun u4 I=>
 stN ⟨u4,0,none⟩ (fun I=>
  ∃u5 u6,qe ro I ⟨u4,0,none⟩ 0 [.string u5,.int .i64 u6]/\
  vP B ro a0 u5 u6 I fun u7 u8 I=>
  if¬(u8=0)then
  Q u8 I
  else
  Y19 (i64.wrap (u0+1)) I) [.string u2,.int .i64 u3] 0 I
 else
 yr B ro a0 a1 Q I
def aaT(B:ZB)(ro:AH)(a0:ZO)(a1:Sl)(I:AH)(Q:Int->AH->Prop):=
 lfpD (xf B ro a0 a1 Q) (0) I
def ahJ{a0 a1 Q}(h:Sep ro I->aaT B ro a0 a1 I Q):aaE B ro a0 a1 I Q:=by
 refine zb h func188 ntmps188 fun h=>?_;unfold aaT at h;refine zw ?_;refine AW.seqJ (fun fr I=>qo [(0,.pointer a0),(1,Sl.v a1)] fr/\yr B ro a0 a1 Q I) ?_ ?_
 rotate_left
 .refine zw ?_;refine zm (qC rfl rfl Lv rfl rfl) ?_;refine zw ?_;refine qi.loop (fr':=[(0,.pointer a0),(1,Sl.v a1),(11,Sl.v a1),(12,.int .i64 (a1.len:Int)),(13,.int .i64 0)]) ?_ FL
  refine h (fun u0 I=>qi _ _ _ _ _ _ [(0,.pointer a0),(1,Sl.v a1),(11,Sl.v a1),(12,.int .i64 (a1.len:Int)),(13,.int .i64 u0)] I) ?_
  rintro u0 I Y19 hY19 h
  show AW _ _ _ _ _ _ _ _
  unfold xf at h;refine zw ?_;refine AW.seq ?_;refine zi h (fun h=>?_) fun h=>?_
  rotate_left
  .refine AW.exit ?_;refine zw ?_;refine qX ?_
   refine zw ?_;exact⟨FL,h⟩
  refine zw ?_;refine AW.seq ?_;refine zw ?_;obtain⟨p1,ha,h0,h1,h⟩:=h
  refine zm (wO rfl Lv vl (ixL rfl ha) rfl h0 h1) ?_;obtain⟨u2,u3,hc,h⟩:=h
  refine zl (wq rfl mH rfl vl rfl hc ?_)
  refine zA (qT rfl vl) h fun u4 h=>?_;refine zsp vl h fun I h=>?_;obtain⟨u5,u6,hc,h⟩:=h
  refine zl (wq rfl mH rfl vl rfl hc ?_)
  refine zc func123 h ?_;rintro v I ⟨u7,u8,rfl,h⟩;refine zw ?_;refine AW.iff rfl (qu me) h (fun h=>?_) (fun h=>?_)
  .exact zr h
  refine zw ?_;refine qi.head (fr':=[(0,.pointer a0),(1,Sl.v a1),(11,Sl.v a1),(12,.int .i64 (a1.len:Int)),(13,.int .i64 (i64.wrap (u0+1)))]) ?_ FL
  exact hY19 _ _ h
 rintro fr I ⟨hl,h⟩;refine AW.weaken ?_ hl (HLe.refl _)
 unfold yr at h;refine AW.seqJ (fun fr I=>qo [] fr/\yq B ro Q I) ?_ ?_
 .rintro fr I ⟨hl,h⟩;refine AW.weaken ?_ hl (HLe.refl _)
  unfold yq at h;exact zr h
 refine zw ?_;refine zm (qC rfl rfl Lv rfl rfl) ?_;refine zw ?_;refine qi.loop (fr':=[(0,.pointer a0),(27,Sl.v a1),(28,.int .i64 (a1.len:Int)),(29,.int .i64 0)]) ?_ FL
 refine h (fun u9 I=>qi _ _ _ _ _ _ [(0,.pointer a0),(27,Sl.v a1),(28,.int .i64 (a1.len:Int)),(29,.int .i64 u9)] I) ?_
 rintro u9 I Y3 hY3 h
 show AW _ _ _ _ _ _ _ _
 unfold xI at h;refine zw ?_;refine AW.seq ?_;refine zi h (fun h=>?_) fun h=>?_
 rotate_left
 .refine AW.exit ?_;refine zw ?_;refine qX ?_
  refine zw ?_;exact⟨FL,h⟩
 refine zw ?_;refine AW.seq ?_;refine zw ?_;obtain⟨p10,ha,h0,h1,h⟩:=h
 refine zm (wO rfl Lv vl (ixL rfl ha) rfl h0 h1) ?_;obtain⟨u11,u12,hc,h⟩:=h
 refine zl (wq rfl mH rfl vl rfl hc ?_)
 refine zA (qT rfl vl) h fun u13 h=>?_;refine zsp vl h fun I h=>?_;refine AW.drawn2 (fun i=>([0,0,0,3,0,3,2,0,0,3,0,0,2,0,0,3,0,0,0,2]:List Nat).getD i 2) [(0,1),(0,2),(0,3),(0,6),(0,7),(0,8),(0,9),(0,12),(0,13),(0,14),(0,15),(0,16),(1,2),(1,3),(1,6),(1,7),(1,8),(1,9),(1,12),(1,13),(1,14),(1,15),(1,16),(2,3),(2,6),(2,7),(2,8),(2,9),(2,12),(2,13),(2,14),(2,15),(2,16),(3,6),(3,7),(3,8),(3,9),(3,12),(3,13),(3,14),(3,15),(3,16),(4,5),(4,6),(4,7),(4,8),(4,9),(4,12),(4,13),(4,14),(4,15),(4,16),(5,6),(5,7),(5,8),(5,9),(5,12),(5,13),(5,14),(5,15),(5,16),(6,7),(6,8),(6,9),(6,12),(6,13),(6,14),(6,15),(6,16),(7,8),(7,9),(7,12),(7,13),(7,14),(7,15),(7,16),(8,9),(8,12),(8,13),(8,14),(8,15),(8,16),(9,12),(9,13),(9,14),(9,15),(9,16),(10,11),(10,12),(10,13),(10,14),(10,15),(10,16),(11,12),(11,13),(11,14),(11,15),(11,16),(12,13),(12,14),(12,15)] [0,1,2,4,10,11,3,5,6,7,8,9] [12,13,14,15,16,17,18,19] mixed h j3 ?_
 clear h
 intro ψ I h
 refine zM h fun p14 h=>?_;refine zg LF aip ?_;refine zg mH ty9 ?_;refine zg mH ty3 ?_;refine zS mf h fun u15 h=>?_;refine zR LQ h fun u16 h=>?_;refine zR mo h fun u17 h=>?_;refine Dg rfl rfl rfl rfl (yj rfl rfl rfl (qk _ h ?_))
 rintro v I ⟨u18,rfl,h⟩;refine zM h fun p19 h=>?_;refine zg nC af1 ?_;refine zR Lw h fun u20 h=>?_;refine⟨_,wW.refl _,fun hdj=>?_⟩
 replace h:=h hdj
 refine Dg rfl rfl rfl rfl (yj rfl rfl rfl (qk _ h ?_))
 rintro v I ⟨u21,rfl,h⟩;refine zM h fun p22 h=>?_;refine zg Li ty3 ?_;refine zR mf h fun u23 h=>?_;refine zM h fun p24 h=>?_;refine zg Li ty3 ?_;refine Dg rfl rfl rfl rfl (us rfl ty3 rfl rfl rfl rfl (zY h fun I h=>?_))
 refine wG ?_
 refine zw ?_;refine qi.head (fr':=[(0,.pointer a0),(27,Sl.v a1),(28,.int .i64 (a1.len:Int)),(29,.int .i64 (i64.wrap (u9+1)))]) ?_ FL
 exact hY3 _ _ h
def afa(B:ZB)(ro I:AH)(Q:ZO->AH->Prop):Prop:=
 nw ro I (.map #[] 0) fun u0 I=>
 nw ro I (.cells #[.map (some u0)] 245) fun u1 I=>
 Q (some ⟨u1,0,none⟩) I
def aj4{Q}(h:Sep ro I->afa B ro I Q):akP B ro I Q:=by
 refine zb h func68 ntmps68 fun h=>?_;unfold afa at h;refine zw ?_;refine zA (ahM rfl) h fun u0 h=>?_;refine zm (wB (vs:=[(0,.map (some u0))]) (cs:= #[.map (some u0)]) rfl Lx awQ aw2 rfl rfl) ?_;refine zA (wt rfl rfl) h fun u1 h=>?_;exact zr h
def pq(B:ZB)(ro:AH)(a0:ZO)(a1:Sl)(Q:AH->Prop):Int->AH->(Int->AH->Prop)->Prop:=fun u0 I Y1=>
 if u0<(a1.len:Int)then
 ∃p1,a1.a=some p1/\(0:Int)<=u0/\u0<(a1.len:Int)/\
 ∃u2 u3,qe ro I (p1.add (Int.toNat u0*2)) 0 [.string u2,.int .i64 u3]/\
 nw ro I (.cells #[.string ByteArray.empty,.int .i64 0] 81) fun u4 I=>
 stN ⟨u4,0,none⟩ (fun I=>
  ∃p5,a0=some p5/\
  ∃u6,qa ro I p5=some (.map u6)/\
  ∃u7 u8,qe ro I ⟨u4,0,none⟩ 0 [.string u7,.int .i64 u8]/\
  awp prog ro (Builtin.delete_ #[243,81] 0 #[.map u6,.agg #[.string u7,.int .i64 u8]]) (fun v I=>v= .tuple #[]/\
  Y1 (i64.wrap (u0+1)) I) I) [.string u2,.int .i64 u3] 0 I
 else
 Q I
def adS(B:ZB)(ro:AH)(a0:ZO)(a1:Sl)(I:AH)(Q:AH->Prop):=
 lfpD (pq B ro a0 a1 Q) (0) I
def akK{a0 a1 Q}(h:Sep ro I->adS B ro a0 a1 I Q):adv B ro a0 a1 I Q:=by
 refine zb h func124 ntmps124 fun h=>?_;unfold adS at h;refine zw ?_;refine zm (qC rfl rfl Lv rfl rfl) ?_;refine zw ?_;refine qi.loop (fr':=[(0,.pointer a0),(6,Sl.v a1),(7,.int .i64 (a1.len:Int)),(8,.int .i64 0)]) ?_ FL
 refine h (fun u0 I=>qi _ _ _ _ _ _ [(0,.pointer a0),(6,Sl.v a1),(7,.int .i64 (a1.len:Int)),(8,.int .i64 u0)] I) ?_
 rintro u0 I Y1 hY1 h
 show AW _ _ _ _ _ _ _ _
 unfold pq at h;refine zw ?_;refine AW.seq ?_;refine zi h (fun h=>?_) fun h=>?_
 rotate_left
 .refine AW.exit ?_;refine zw ?_;refine qX ?_
  exact bN0 results124 ⟨rfl,h⟩
 refine zw ?_;refine AW.seq ?_;refine zw ?_;obtain⟨p1,ha,h0,h1,h⟩:=h
 refine zm (wO rfl Lv vl (ixL rfl ha) rfl h0 h1) ?_;obtain⟨u2,u3,hc,h⟩:=h
 refine zl (wq rfl mH rfl vl rfl hc ?_)
 refine zA (qT rfl vl) h fun u4 h=>?_;refine zsp vl h fun I h=>?_;refine AW.drawn0 (fun i=>([0,0,0,3,3,2]:List Nat).getD i 2) [] [0,1,2,3,4,5] mixed j3 ?_
 refine zM h fun p5 h=>?_;refine zg Lx ag0 ?_;refine zR LG h fun u6 h=>?_;obtain⟨u7,u8,hc,h⟩:=h
 refine Dr rfl rfl rfl rfl (jh rfl mH rfl vl rfl hc) ?_
 refine Dg rfl rfl rfl rfl (vZ (s:=Builtin.delete_ #[243,81] 0 #[.map u6,.agg #[.string u7,.int .i64 u8]]) rfl rfl (fun _=>rfl) (qk _ h ?_))
 rintro v I ⟨rfl,h⟩;refine wG ?_
 refine zw ?_;refine qi.head (fr':=[(0,.pointer a0),(6,Sl.v a1),(7,.int .i64 (a1.len:Int)),(8,.int .i64 (i64.wrap (u0+1)))]) ?_ FL
 exact hY1 _ _ h
def aav(B:ZB)(ro:AH)(Q:Int->AH->Prop)(u0:Int)(I:AH):=
 Q u0 I
def xr(B:ZB)(ro:AH)(a0:ZO)(a1:Sl)(u0:Int)(Q:Int->AH->Prop)(Y3:(Int×Int)->AH->Prop)(u1:Int)(I:AH):=
 Y3 (u1,i64.wrap (u0+1)) I
def je(B:ZB)(ro:AH)(a0:ZO)(a1:Sl)(u0:Nat)(u1:Int)(Q:Int->AH->Prop)(Y3:(Int×Int)->AH->Prop)(u2:Int)(I:AH):=
 ∃u3,qa ro I ⟨u0,0,none⟩=some (.int .i64 u3)/\
 if u3=2 then
 ∃u4,qa ro I ((⟨u0,0,none⟩:Addr).add 1)=some (.string u4)/\
 pY B ro a0 u4 2 4 I fun u5 I=>
 xr B ro a0 a1 u1 Q Y3 (i64.wrap (u2+u5)) I
 else
 xr B ro a0 a1 u1 Q Y3 u2 I
def kR(B:ZB)(ro:AH)(a0:ZO)(a1:Sl)(u0:Int)(u1:Nat)(u2:Int)(u3:ZA)(Q:Int->AH->Prop)(Y3:(Int×Int)->AH->Prop)(u4:Bool)(I:AH):=
 if u4=true then
 xr B ro a0 a1 u2 Q Y3 u0 I
 else
 ∃u5,qa ro I ((⟨u1,0,none⟩:Addr).add 1)=some (.string u5)/\
 ∃u6,qa ro I ⟨u1,0,none⟩=some (.int .i64 u6)/\
 pY B ro a0 u5 1 u6 I fun u7 I=>
 ∃u8,qa ro I ⟨u1,0,none⟩=some (.int .i64 u8)/\
 if¬(u8=3)then
 pY B ro a0 u3 2 4 I fun u9 I=>
 je B ro a0 a1 u1 u2 Q Y3 (i64.wrap ((i64.wrap (u0+u7))+u9)) I
 else
 je B ro a0 a1 u1 u2 Q Y3 (i64.wrap (u0+u7)) I
def jf(B:ZB)(ro:AH)(a0:ZO)(a1:Sl)(u0:Int)(u1:Nat)(u2:Int)(u3:ZA)(Q:Int->AH->Prop)(Y3:(Int×Int)->AH->Prop)(u4:Bool)(I:AH):=
 if u4=true then
 kR B ro a0 a1 u0 u1 u2 u3 Q Y3 true I
 else
 ∃u5,qa ro I ⟨u1,0,none⟩=some (.int .i64 u5)/\
 kR B ro a0 a1 u0 u1 u2 u3 Q Y3 (decide (3<u5)) I
def kl(B:ZB)(ro:AH)(a0:ZO)(a1:Sl)(Q:Int->AH->Prop):(Int×Int)->AH->((Int×Int)->AH->Prop)->Prop:=fun⟨u0,u1⟩ I Y3=>
 if u1<(a1.len:Int)then
 ∃p2,a1.a=some p2/\(0:Int)<=u1/\u1<(a1.len:Int)/\
 ∃u3 u4,qe ro I (p2.add (Int.toNat u1*2)) 0 [.int .i64 u3,.string u4]/\
 nw ro I (.cells #[.int .i64 0,.string ByteArray.empty] 336) fun u5 I=>
 stN ⟨u5,0,none⟩ (fun I=>
  ∃u6,qa ro I ((⟨u5,0,none⟩:Addr).add 1)=some (.string u6)/\
  yX B ro u6 I fun u7 u8 I=>
  if¬(u8=0)then
  jf B ro a0 a1 u0 u5 u1 u7 Q Y3 true I
  else
  ∃u9,qa ro I ⟨u5,0,none⟩=some (.int .i64 u9)/\
  jf B ro a0 a1 u0 u5 u1 u7 Q Y3 (decide (u9<1)) I) [.int .i64 u3,.string u4] 0 I
 else
 aav B ro Q u0 I
def adT(B:ZB)(ro:AH)(a0:ZO)(a1:Sl)(I:AH)(Q:Int->AH->Prop):=
 lfpD (kl B ro a0 a1 Q) (0,0) I
def akL{a0 a1 Q}(h:Sep ro I->adT B ro a0 a1 I Q):aa2 B ro a0 a1 I Q:=by
 refine zb h func125 ntmps125 fun h=>?_;unfold adT at h;refine zw ?_;refine AW.seqJ (fun fr I=> ∃(u0:Int),qo [(5,.int .i64 u0)] fr/\aav B ro Q u0 I) ?_ ?_
 .rintro fr I ⟨u0,hl,h⟩;refine AW.weaken ?_ hl (HLe.refl _)
  unfold aav at h;exact zr h
 refine zw ?_;refine zm (qC rfl rfl Lr rfl rfl) ?_;refine zw ?_;refine qi.loop (fr':=[(0,.pointer a0),(10,Sl.v a1),(11,.int .i64 (a1.len:Int)),(5,.int .i64 0),(12,.int .i64 0)]) ?_ FL
 refine h (fun⟨u1,u2⟩ I=>qi _ _ _ _ _ _ [(0,.pointer a0),(10,Sl.v a1),(11,.int .i64 (a1.len:Int)),(5,.int .i64 u1),(12,.int .i64 u2)] I) ?_
 rintro⟨u1,u2⟩ I Y3 hY3 h
 show AW _ _ _ _ _ _ _ _
 unfold kl at h;dsimp only at h;refine zw ?_;refine AW.seq ?_;refine zi h (fun h=>?_) fun h=>?_
 rotate_left
 .refine AW.exit ?_;refine zw ?_;refine qX ?_
  refine zw ?_;exact⟨_,FL,h⟩
 refine zw ?_;refine AW.seqJ (fun fr I=> ∃(u3:Int),qo [(0,.pointer a0),(10,Sl.v a1),(11,.int .i64 (a1.len:Int)),(12,.int .i64 u2),(5,.int .i64 u3)] fr/\xr B ro a0 a1 u2 Q Y3 u3 I) ?_ ?_
 .rintro fr I ⟨u3,hl,h⟩;refine AW.weaken ?_ hl (HLe.refl _)
  unfold xr at h;refine zw ?_;refine qi.head (fr':=[(0,.pointer a0),(10,Sl.v a1),(11,.int .i64 (a1.len:Int)),(5,.int .i64 u3),(12,.int .i64 (i64.wrap (u2+1)))]) ?_ FL
  exact hY3 _ _ h
 refine zw ?_;obtain⟨p4,ha,h0,h1,h⟩:=h
 refine zm (wO rfl Lr acA (ixL rfl ha) rfl h0 h1) ?_;obtain⟨u5,u6,hc,h⟩:=h
 refine zl (wq rfl nR rfl acA rfl hc ?_)
 refine zA (qT rfl acA) h fun u7 h=>?_;refine zs acA h fun I h=>?_;refine zf nR ty9 ?_;refine zL mo h fun u8 h=>?_;refine zc func179 h ?_;rintro v I ⟨u9,u10,rfl,h⟩;refine zw ?_;refine AW.seq ?_;refine zw ?_;refine qI 4 (!(decide (u10=0))) (qu me) h (fun fr I=> ∃(u11:Bool),qo [(0,.pointer a0),(5,.int .i64 u1),(7,.pointer (some ⟨u7,0,none⟩)),(8,.string u9),(10,Sl.v a1),(11,.int .i64 (a1.len:Int)),(12,.int .i64 u2),(28,.bool u11)] fr/\jf B ro a0 a1 u1 u7 u2 u9 Q Y3 u11 I) ?_ ?_ ?_
 .intro h e2 hk2;refine zv e2 ?_;exact hk2 _ _ ⟨_,FL,h⟩
 .intro h e2 hk2;refine qO (qW rfl nR rfl ty3 y1 rfl) rfl rfl rfl rfl e2 ?_
  obtain⟨u12,hc,h⟩:=h
  refine Lyb rfl rfl rfl rfl e2 (vc rfl mf rfl rfl hc ?_)
  refine zv e2 ?_;exact hk2 _ _ ⟨_,FL,h⟩
 rintro fr I ⟨u11,hl,h⟩;unfold jf at h;refine Lfr hl ?_
 refine zw ?_;refine qI 4 u11 Iff.rfl h (fun fr I=> ∃(u13:Bool),qo [(0,.pointer a0),(5,.int .i64 u1),(7,.pointer (some ⟨u7,0,none⟩)),(8,.string u9),(10,Sl.v a1),(11,.int .i64 (a1.len:Int)),(12,.int .i64 u2),(33,.bool u13)] fr/\kR B ro a0 a1 u1 u7 u2 u9 Q Y3 u13 I) ?_ ?_ ?_
 .intro h e7 hk7;refine zv e7 ?_;exact hk7 _ _ ⟨_,FL,h⟩
 .intro h e7 hk7;refine qO (qW rfl nR rfl ty3 y1 rfl) rfl rfl rfl rfl e7 ?_
  obtain⟨u14,hc,h⟩:=h
  refine Lyb rfl rfl rfl rfl e7 (vc rfl mf rfl rfl hc ?_)
  refine zv e7 ?_;exact hk7 _ _ ⟨_,FL,h⟩
 rintro fr I ⟨u13,hl,h⟩;unfold kR at h;refine Lfr hl ?_
 refine zj h (fun h=>?_) fun h=>?_
 .refine AW.exit ?_;refine zw ?_;refine qX ?_
  refine zw ?_;exact⟨_,FL,h⟩
 refine zf nR ty9 ?_;refine zL mo h fun u15 h=>?_;refine zm (wB (vs:=[(0,.string u15),(1,.int .i64 1)]) (cs:= #[.string u15,.int .i64 1]) rfl nL aee aou rfl rfl) ?_;refine zf nR ty3 ?_;refine zL mf h fun u16 h=>?_;refine zC func181 h fun u17 I h=>?_;refine AW.seqJ (fun fr I=> ∃(u18:Int),qo [(0,.pointer a0),(7,.pointer (some ⟨u7,0,none⟩)),(10,Sl.v a1),(11,.int .i64 (a1.len:Int)),(12,.int .i64 u2),(5,.int .i64 u18)] fr/\je B ro a0 a1 u7 u2 Q Y3 u18 I) ?_ ?_
 rotate_left
 .refine zf nR ty3 ?_;refine zLp mf h fun u19 h=>?_;refine AW.iff rfl (qu me) h (fun h=>?_) (fun h=>?_)
  rotate_left
  .refine zw ?_;exact⟨_,FL,h⟩
  refine zw ?_;refine zm (wB (vs:=[(0,.string u9),(1,.int .i64 2)]) (cs:= #[.string u9,.int .i64 2]) rfl nL aee aou rfl rfl) ?_;refine zC func181 h fun u20 I h=>?_;exact⟨_,FL,h⟩
 rintro fr I ⟨u18,hl,h⟩;refine AW.weaken ?_ hl (HLe.refl _)
 unfold je at h;refine zf nR ty3 ?_;refine zL mf h fun u21 h=>?_;refine zi h (fun h=>?_) fun h=>?_
 rotate_left
 .refine zw ?_;exact⟨_,FL,h⟩
 refine zf nR ty9 ?_;refine zL mo h fun u22 h=>?_;refine zm (wB (vs:=[(0,.string u22),(1,.int .i64 2)]) (cs:= #[.string u22,.int .i64 2]) rfl nL aee aou rfl rfl) ?_;refine zC func181 h fun u23 I h=>?_;exact⟨_,FL,h⟩
def acX(B:ZB)(ro:AH)(a0:ZO)(a1_0:ZA)(a1_1:Int)(I:AH)(Q:Sl->AH->Prop):=
 nw ro I (.cells #[.string a1_0,.int .i64 a1_1] 81) fun u0 I=>
 ∃p1,a0=some p1/\
 ∃u2,qa ro I p1=some (.map u2)/\
 ∃u3 u4,qe ro I ⟨u0,0,none⟩ 0 [.string u3,.int .i64 u4]/\
 awp prog ro (Instr.lookup 243 (.map u2) (.agg #[.string u3,.int .i64 u4]) false) (fun v I=>
 (∃(u5:ZO),v= .pointer u5/\
  if¬(u5=none)then
  ∃p6,u5=some p6/\
  ∃u7,qa ro I p6=some (Sl.v u7)/\
  yY B ro u7 I fun u8 I=>
  Q u8 I
  else
  Q (⟨none,0,0⟩:Sl) I)) I
def aj5{a0 a1_0 a1_1 Q}(h:Sep ro I->acX B ro a0 a1_0 a1_1 I Q):jz B ro a0 a1_0 a1_1 I Q:=by
 refine zb h func128 ntmps128 fun h=>?_;unfold acX at h;refine zw ?_;refine zAp (wt rfl rfl) h fun u0 h=>?_;refine AW.seq (AW.seq ?_);refine AW.drawn0 (fun i=>([0,0,0,3,3,2,0]:List Nat).getD i 2) [] [0,1,2,3,4,5,6] mixed j3 ?_
 refine zM h fun p1 h=>?_;refine zg Lx ag0 ?_;refine zR LG h fun u2 h=>?_;obtain⟨u3,u4,hc,h⟩:=h
 refine Dr rfl rfl rfl rfl (jh rfl mH rfl vl rfl hc) ?_
 refine Dg rfl rfl rfl rfl (yj rfl rfl rfl (qk _ h ?_))
 rintro v I ⟨u5,rfl,h⟩;refine zw ?_;refine wG ?_
 refine zw ?_;refine zm (aom rfl Pi rfl rfl) ?_;refine zw ?_;refine AW.iff rfl (qu zJ) h (fun h=>?_) (fun h=>?_)
 rotate_left
 .exact zr h
 refine zN h fun p6 h=>?_;refine zf nZ air ?_;refine zf nT aaA ?_;refine zL nf h fun u7 h=>?_;refine zc func185 h ?_;rintro v I ⟨u8,rfl,h⟩;exact zr h
def uc(B:ZB)(ro:AH)(Q:Int->AH->Prop)(I:AH):=
 Q 0 I
def aeB(B:ZB)(ro:AH)(a0:ZO)(a1_0:ZA)(a1_1 a2:Int)(I:AH)(Q:Int->AH->Prop):=
 nw ro I (.cells #[.string a1_0,.int .i64 a1_1] 81) fun u0 I=>
 ∃u1 u2,qe ro I ⟨u0,0,none⟩ 0 [.string u1,.int .i64 u2]/\
 ab7 B ro a0 u1 u2 I fun u3 u4 I=>
 if(a2<0)\/(u4<a2)then
 Q 161 I
 else
 ∃p5,a0=some p5/\
 ∃u6,qa ro I p5=some (.map u6)/\
 ∃u7 u8,qe ro I ⟨u0,0,none⟩ 0 [.string u7,.int .i64 u8]/\
 awp prog ro (Instr.lookup 243 (.map u6) (.agg #[.string u7,.int .i64 u8]) false) (fun v I=>
 (∃(u9:ZO),v= .pointer u9/\
  if¬(u9=none)then
  ∃p10,u9=some p10/\
  acL B ro (some p10) a2 I fun I=>
  uc B ro Q I
  else
  uc B ro Q I)) I
def alx{a0 a1_0 a1_1 a2 Q}(h:Sep ro I->aeB B ro a0 a1_0 a1_1 a2 I Q):aei B ro a0 a1_0 a1_1 a2 I Q:=by
 refine zb h func129 ntmps129 fun h=>?_;unfold aeB at h;refine zw ?_;refine zAp (wt rfl rfl) h fun u0 h=>?_;refine AW.seq ?_;refine zw ?_;obtain⟨u1,u2,hc,h⟩:=h
 refine zl (wq rfl mH rfl vl rfl hc ?_)
 refine zc func186 h ?_;rintro v I ⟨u3,u4,rfl,h⟩;refine zw ?_;refine wY 4 (decide (a2<0)) [(0,.pointer a0),(2,.int .i64 a2),(4,.pointer (some ⟨u0,0,none⟩)),(22,.bool ((decide (a2<0)) || (decide (u4<a2))))] ?_ ?_ ?_
 .intro e2 hk2
  refine zv e2 ?_;exact hk2 _ (Fe e2)
 .intro e2 hk2
  refine zv e2 ?_;exact hk2 _ (Fe e2)
 intro fr hl
 refine Lfr hl ?_
 refine zw ?_;refine AW.iff rfl (vr me me) h (fun h=>?_) (fun h=>?_)
 .exact zr h
 refine zw ?_;refine AW.seqJ (fun fr I=>qo [] fr/\uc B ro Q I) ?_ ?_
 .rintro fr I ⟨hl,h⟩;refine AW.weaken ?_ hl (HLe.refl _)
  unfold uc at h;exact zr h
 refine AW.seq ?_;refine AW.drawn0 (fun i=>([0,0,0,3,3,2,0]:List Nat).getD i 2) [] [0,1,2,3,4,5,6] mixed j3 ?_
 refine zM h fun p5 h=>?_;refine zg Lx ag0 ?_;refine zR LG h fun u6 h=>?_;obtain⟨u7,u8,hc,h⟩:=h
 refine Dr rfl rfl rfl rfl (jh rfl mH rfl vl rfl hc) ?_
 refine Dg rfl rfl rfl rfl (yj rfl rfl rfl (qk _ h ?_))
 rintro v I ⟨u9,rfl,h⟩;refine zw ?_;refine wG ?_
 refine zw ?_;refine zm (aom rfl Pi rfl rfl) ?_;refine zw ?_;refine AW.iff rfl (qu zJ) h (fun h=>?_) (fun h=>?_)
 rotate_left
 .refine zw ?_;exact⟨FL,h⟩
 refine zN h fun p10 h=>?_;refine zf nZ air ?_;refine zc func187 h ?_;rintro v I ⟨rfl,h⟩;refine zw ?_;exact⟨FL,h⟩
def aaw(B:ZB)(ro:AH)(Q:Int->AH->Prop)(u0:Int)(I:AH):=
 Q u0 I
def aax(B:ZB)(ro:AH)(a2:Int)(p0:Addr)(u1:Nat)(Q:Int->AH->Prop):Int->AH->(Int->AH->Prop)->Prop:=fun u2 I Y7=>
 awp prog ro (Instr.next (.pointer (some p0)) false 0) (fun v I=>
 (v= .tuple #[.bool false]/\
  aaw B ro Q u2 I)\/
 (∃(u3:ZC) (u4:ZC),v= .tuple #[.bool true,u3,u4]/\
  awp prog ro (Instr.entry (.pointer (some p0))) (fun v I=>
  (∃(u5:ZC) (u6:ZO),v= .tuple #[u5,.pointer u6]/\
   ∃p7,u6=some p7/\
   ∃u8,qa ro I (p7.add 3)=some (.map u8)/\
   ∃u9 u10,qe ro I ⟨u1,0,none⟩ 0 [.string u9,.int .i64 u10]/\
   awp prog ro (Instr.lookup 308 (.map u8) (.agg #[.string u9,.int .i64 u10]) false) (fun v I=>
   (∃(u11:Int),v= .int .i64 u11/\
    if 0<u11 then
    ∃p12,u6=some p12/\
    ∃u13,qa ro I (p12.add 3)=some (.map u13)/\
    ∃u14 u15,qe ro I ⟨u1,0,none⟩ 0 [.string u14,.int .i64 u15]/\
    awp prog ro (Builtin.delete_ #[308,314] 0 #[.map u13,.agg #[.string u14,.int .i64 u15]]) (fun v I=>v= .tuple #[]/\
     ∃p16,u6=some p16/\
     ∃u17,qa ro I ⟨u1,0,none⟩=some (.string u17)/\
     acN B ro (some p16) a2 u17 I fun I=>
     Y7 (i64.wrap (u2+1)) I) I
    else
    Y7 (u2) I)) I)) I)) I
def adU(B:ZB)(ro:AH)(a0:ZO)(a1_0:ZA)(a1_1 a2:Int)(I:AH)(Q:Int->AH->Prop):=
 nw ro I (.cells #[.string a1_0,.int .i64 a1_1] 314) fun u0 I=>
 ∃p1,a0=some p1/\
 ∃u2,qa ro I p1=some (.map u2)/\
 awp prog ro (Instr.range 243 (.map u2)) (fun v I=>
 (∃(p3:Addr),v= .pointer (some p3)/\
  lfpD (aax B ro a2 p3 u0 Q) (0) I)) I
def akM{a0 a1_0 a1_1 a2 Q}(h:Sep ro I->adU B ro a0 a1_0 a1_1 a2 I Q):pY B ro a0 a1_0 a1_1 a2 I Q:=by
 refine zb h func181 ntmps181 fun h=>?_;unfold adU at h;refine zw ?_;refine zAp (wt rfl rfl) h fun u0 h=>?_;refine AW.seqJ (fun fr I=> ∃(u1:Int),qo [(7,.int .i64 u1)] fr/\aaw B ro Q u1 I) ?_ ?_
 .rintro fr I ⟨u1,hl,h⟩;refine AW.weaken ?_ hl (HLe.refl _)
  unfold aaw at h;exact zr h
 refine zN h fun p2 h=>?_;refine zf Lx ag0 ?_;refine zL LG h fun u3 h=>?_;refine zl (aoo rfl rfl (qk _ h ?_))
 rintro v I ⟨p4,rfl,h⟩;refine zw ?_;refine qi.loop (fr':=[(2,.int .i64 a2),(4,.pointer (some ⟨u0,0,none⟩)),(14,.pointer (some p4)),(7,.int .i64 0)]) ?_ FL
 refine h (fun u5 I=>qi _ _ _ _ _ _ [(2,.int .i64 a2),(4,.pointer (some ⟨u0,0,none⟩)),(14,.pointer (some p4)),(7,.int .i64 u5)] I) ?_
 rintro u5 I Y7 hY7 h
 show AW _ _ _ _ _ _ _ _
 unfold aax at h;refine zw ?_;refine zl (aop rfl rfl rfl (qk _ h ?_))
 rintro v I (⟨rfl,h⟩ | ⟨u6,u7,rfl,h⟩)
 .refine zw ?_;refine AW.seq ?_;refine AW.no rfl ?_;refine AW.exit ?_;refine zw ?_;refine qX ?_
  refine zw ?_;exact⟨_,FL,h⟩
 .refine zw ?_;refine AW.seq ?_;refine AW.yes rfl ?_;refine zw ?_;refine zl (aqP rfl rfl (qk _ h ?_))
  rintro v I ⟨u8,u9,rfl,h⟩;refine zw ?_;refine AW.seq ?_;refine AW.drawn0 (fun i=>([0,0,0,3,3,2,0]:List Nat).getD i 2) [] [0,1,2,3,4,5,6] mixed j3 ?_
  refine zM h fun p10 h=>?_;refine zg nZ akh ?_;refine zR Pc h fun u11 h=>?_;obtain⟨u12,u13,hc,h⟩:=h
  refine Dr rfl rfl rfl rfl (jh rfl nL rfl aee rfl hc) ?_
  refine Dg rfl rfl rfl rfl (yj rfl rfl rfl (qk _ h ?_))
  rintro v I ⟨u14,rfl,h⟩;refine zw ?_;refine wG ?_
  refine zi h (fun h=>?_) fun h=>?_
  rotate_left
  .refine zw ?_;refine qi.head (fr':=[(2,.int .i64 a2),(4,.pointer (some ⟨u0,0,none⟩)),(14,.pointer (some p4)),(7,.int .i64 u5)]) ?_ FL
   exact hY7 _ _ h
  refine AW.seq ?_;refine AW.drawn0 (fun i=>([0,0,0,3,3,2]:List Nat).getD i 2) [] [0,1,2,3,4,5] mixed j3 ?_
  refine zM h fun p15 h=>?_;refine zg nZ akh ?_;refine zR Pc h fun u16 h=>?_;obtain⟨u17,u18,hc,h⟩:=h
  refine Dr rfl rfl rfl rfl (jh rfl nL rfl aee rfl hc) ?_
  refine Dg rfl rfl rfl rfl (vZ (s:=Builtin.delete_ #[308,314] 0 #[.map u16,.agg #[.string u17,.int .i64 u18]]) rfl rfl (fun _=>rfl) (qk _ h ?_))
  rintro v I ⟨rfl,h⟩;refine wG ?_
  refine zw ?_;refine AW.seq ?_;refine AW.drawn0 (fun i=>([0,0,0,0,0,3,2]:List Nat).getD i 2) [] [0,1,2,3,4,5,6] mixed j3 ?_
  refine zM h fun p19 h=>?_;refine zg nZ air ?_;refine zg nL ty9 ?_;refine zR mo h fun u20 h=>?_;refine zG func222 h ?_;rintro v I ⟨rfl,h⟩;refine wG ?_
  refine zw ?_;refine qi.head (fr':=[(2,.int .i64 a2),(4,.pointer (some ⟨u0,0,none⟩)),(14,.pointer (some p4)),(7,.int .i64 (i64.wrap (u5+1)))]) ?_ FL
  exact hY7 _ _ h
def acv(B:ZB)(ro:AH)(a0:ZO)(a1_0:ZA)(a1_1:Int)(I:AH)(Q:Int->Int->AH->Prop):=
 nw ro I (.cells #[.string a1_0,.int .i64 a1_1] 81) fun u0 I=>
 ∃p1,a0=some p1/\
 ∃u2,qa ro I p1=some (.map u2)/\
 ∃u3 u4,qe ro I ⟨u0,0,none⟩ 0 [.string u3,.int .i64 u4]/\
 awp prog ro (Instr.lookup 243 (.map u2) (.agg #[.string u3,.int .i64 u4]) false) (fun v I=>
 (∃(u5:ZO),v= .pointer u5/\
  if¬(u5=none)then
  ∃p6,u5=some p6/\
  ∃p7,u5=some p7/\
  ∃u8,qa ro I (p6.add 1)=some (.int .i64 u8)/\
  ∃u9,qa ro I (p7.add 2)=some (.int .i64 u9)/\
  Q u8 u9 I
  else
  Q 0 0 I)) I
def ajp{a0 a1_0 a1_1 Q}(h:Sep ro I->acv B ro a0 a1_0 a1_1 I Q):ab7 B ro a0 a1_0 a1_1 I Q:=by
 refine zb h func186 ntmps186 fun h=>?_;unfold acv at h;refine zw ?_;refine zAp (wt rfl rfl) h fun u0 h=>?_;refine AW.seq (AW.seq ?_);refine AW.drawn0 (fun i=>([0,0,0,3,3,2,0]:List Nat).getD i 2) [] [0,1,2,3,4,5,6] mixed j3 ?_
 refine zM h fun p1 h=>?_;refine zg Lx ag0 ?_;refine zR LG h fun u2 h=>?_;obtain⟨u3,u4,hc,h⟩:=h
 refine Dr rfl rfl rfl rfl (jh rfl mH rfl vl rfl hc) ?_
 refine Dg rfl rfl rfl rfl (yj rfl rfl rfl (qk _ h ?_))
 rintro v I ⟨u5,rfl,h⟩;refine zw ?_;refine wG ?_
 refine zw ?_;refine zm (aom rfl Pi rfl rfl) ?_;refine zw ?_;refine AW.iff rfl (qu zJ) h (fun h=>?_) (fun h=>?_)
 rotate_left
 .exact zrr h
 refine AW.seq ?_;refine AW.drawn0 (fun i=>([0,0,0,0,3,0,0,0,0,3,0,0]:List Nat).getD i 2) [] [0,1,2,3,5,6,7,8,4,10,9,11] mixed j3 ?_
 refine zM h fun p6 h=>?_;refine zg nZ air ?_;refine zg nT ty3 ?_;refine zM h fun p7 h=>?_;refine zg nZ air ?_;refine zg nT ty3 ?_;refine zR mf h fun u8 h=>?_;refine zR mf h fun u9 h=>?_;refine zw ?_;refine wG ?_
 exact zrr h
def acY(B:ZB)(ro:AH)(a0:ZO)(a1:Int)(I:AH)(Q:AH->Prop):=
 nw ro I (.cells #[.int .i64 a1] 3) fun u0 I=>
 ∃p1,a0=some p1/\
 ∃u2,qa ro I (p1.add 1)=some (.int .i64 u2)/\
 ∃u3,qa ro I ⟨u0,0,none⟩=some (.int .i64 u3)/\
 ∃p4,a0=some p4/\
 stN (p4.add 1) (fun I=>
 ∃p5,a0=some p5/\
 ∃u6,qa ro I p5=some (Sl.v u6)/\
 ji B ro u6 (.func (.func 233) #[] #[.pointer (some ⟨u0,0,none⟩)]) I fun u7 I=>
 ∃p8,a0=some p8/\
 stN p8 (fun I=>
  Q I) [Sl.v u7] 0 I) [.int .i64 (if u2<u3 then u3 else u2)] 0 I
def aj6{a0 a1 Q}(h:Sep ro I->acY B ro a0 a1 I Q):acL B ro a0 a1 I Q:=by
 refine zb h func187 ntmps187 fun h=>?_;unfold acY at h;refine zw ?_;refine zAp (wt rfl rfl) h fun u0 h=>?_;refine AW.seq ?_;refine AW.drawn0 (fun i=>([0,0,0,0,3,3,0,0,0,2]:List Nat).getD i 2) [] [0,1,2,3,4,5,6,7,8,9] mixed j3 ?_
 refine zM h fun p1 h=>?_;refine zg nT ty3 ?_;refine zR mf h fun u2 h=>?_;refine zR mf h fun u3 h=>?_;refine Dp rfl rfl rfl rfl (arO rfl rfl) ?_
 refine zM h fun p4 h=>?_;refine zg nT ty3 ?_;refine Dg rfl rfl rfl rfl (us rfl ty3 rfl rfl rfl rfl (zY h fun I h=>?_))
 refine wG ?_
 refine zN h fun p5 h=>?_;refine zf nT aaA ?_;refine zL nf h fun u6 h=>?_;refine zm (aqO rfl rfl rfl) ?_;refine zc func232 h ?_;rintro v I ⟨u7,rfl,h⟩;refine zN h fun p8 h=>?_;refine zf nT aaA ?_;refine zsp aaA h fun I h=>?_;exact bN0 results187 ⟨rfl,h⟩
def yT(B:ZB)(ro:AH)(Q:Int->AH->Prop)(u0:Bool)(I:AH):=
 if u0=true then
 Q 82 I
 else
 Q 0 I
def jy(B:ZB)(ro:AH)(u0:Nat)(Q:Int->AH->Prop)(u1:Bool)(I:AH):=
 if u1=true then
 yT B ro Q true I
 else
 ∃u2,qa ro I ((⟨u0,0,none⟩:Addr).add 1)=some (.int .i64 u2)/\
 yT B ro Q (decide (4611686018427387903<u2)) I
def yU(B:ZB)(ro:AH)(u0:Nat)(Q:Int->AH->Prop)(u1:Bool)(I:AH):=
 if u1=true then
 jy B ro u0 Q true I
 else
 ∃u2,qa ro I ((⟨u0,0,none⟩:Addr).add 1)=some (.int .i64 u2)/\
 jy B ro u0 Q (decide (u2<1)) I
def yi(B:ZB)(ro:AH)(u0:Nat)(u1:ZA)(u2:Int)(Q:Int->AH->Prop)(u3:Bool)(I:AH):=
 if u3=true then
 Q 160 I
 else
 if¬(u2=0)then
 Q u2 I
 else
 ∃u4,qa ro I ⟨u0,0,none⟩=some (.string u4)/\
 if¬(u1=u4)then
 yU B ro u0 Q true I
 else
 ∃u5,qa ro I ⟨u0,0,none⟩=some (.string u5)/\
 pH B ro u5 I fun u6 I=>
 yU B ro u0 Q (!u6) I
def afU(B:ZB)(ro:AH)(a0_0:ZA)(a0_1:Int)(a1_0:ZA)(a1_1:Int)(I:AH)(Q:Int->AH->Prop):=
 nw ro I (.cells #[.string a0_0,.int .i64 a0_1] 81) fun u0 I=>
 nw ro I (.cells #[.string a1_0,.int .i64 a1_1] 314) fun u1 I=>
 ∃u2,qa ro I ⟨u1,0,none⟩=some (.string u2)/\
 pG B ro u2 I fun u3 u4 I=>
 ∃u5,qa ro I ((⟨u1,0,none⟩:Addr).add 1)=some (.int .i64 u5)/\
 if¬(u5=1)then
 ∃u6,qa ro I ((⟨u1,0,none⟩:Addr).add 1)=some (.int .i64 u6)/\
 yi B ro u0 u3 u4 Q (!(decide (u6=2))) I
 else
 yi B ro u0 u3 u4 Q false I
def ane{a0_0 a0_1 a1_0 a1_1 Q}(h:Sep ro I->afU B ro a0_0 a0_1 a1_0 a1_1 I Q):afE B ro a0_0 a0_1 a1_0 a1_1 I Q:=by
 refine zb h func221 ntmps221 fun h=>?_;unfold afU at h;refine zw ?_;refine zA (wt rfl rfl) h fun u0 h=>?_;refine zA (wt rfl rfl) h fun u1 h=>?_;refine zf nL ty9 ?_;refine zL mo h fun u2 h=>?_;refine zc func81 h ?_;rintro v I ⟨u3,u4,rfl,h⟩;refine zw ?_;refine AW.seq ?_;refine zf nL ty3 ?_;refine zLp mf h fun u5 h=>?_;refine qI 4 (!(decide (u5=1))) (qu me) h (fun fr I=> ∃(u6:Bool),qo [(2,.pointer (some ⟨u0,0,none⟩)),(5,.string u3),(6,.int .i64 u4),(21,.bool u6)] fr/\yi B ro u0 u3 u4 Q u6 I) ?_ ?_ ?_
 .intro h e3 hk3;refine qO (qW rfl nL rfl ty3 y1 rfl) rfl rfl rfl rfl e3 ?_
  obtain⟨u7,hc,h⟩:=h
  refine Lyb rfl rfl rfl rfl e3 (vc rfl mf rfl rfl hc ?_)
  refine zv e3 ?_;exact hk3 _ _ ⟨_,FL,h⟩
 .intro h e3 hk3;refine zv e3 ?_;exact hk3 _ _ ⟨_,FL,h⟩
 rintro fr I ⟨u6,hl,h⟩;unfold yi at h;refine Lfr hl ?_
 refine zj h (fun h=>?_) fun h=>?_
 .exact zr h
 refine zw ?_;refine AW.iff rfl (qu me) h (fun h=>?_) (fun h=>?_)
 .exact zr h
 refine zf mH ty9 ?_;refine zL mo h fun u8 h=>?_;refine zm (ajw rfl rfl rfl) ?_;refine zw ?_;refine qI 5 (!(decide (u3=u8))) (qu me) h (fun fr I=> ∃(u9:Bool),qo [(2,.pointer (some ⟨u0,0,none⟩)),(36,.bool u9)] fr/\yU B ro u0 Q u9 I) ?_ ?_ ?_
 .intro h e4 hk4;refine zv e4 ?_;exact hk4 _ _ ⟨_,FL,h⟩
 .intro h e4 hk4;refine qO (qW rfl mH rfl ty9 y1 rfl) rfl rfl rfl rfl e4 ?_
  obtain⟨u10,hc,h⟩:=h
  refine Lyb rfl rfl rfl rfl e4 (vc rfl mo rfl rfl hc ?_)
  refine Lyb rfl rfl rfl rfl e4 (kG rfl func99 rfl rfl rfl (qc.mono h ?_))
  rintro v I ⟨u11,rfl,h⟩;refine zv e4 ?_;exact hk4 _ _ ⟨_,FL,h⟩
 rintro fr I ⟨u9,hl,h⟩;unfold yU at h;refine Lfr hl ?_
 refine zw ?_;refine qI 4 u9 Iff.rfl h (fun fr I=> ∃(u12:Bool),qo [(2,.pointer (some ⟨u0,0,none⟩)),(41,.bool u12)] fr/\jy B ro u0 Q u12 I) ?_ ?_ ?_
 .intro h e10 hk10;refine zv e10 ?_;exact hk10 _ _ ⟨_,FL,h⟩
 .intro h e10 hk10;refine qO (qW rfl mH rfl ty3 y1 rfl) rfl rfl rfl rfl e10 ?_
  obtain⟨u13,hc,h⟩:=h
  refine Lyb rfl rfl rfl rfl e10 (vc rfl mf rfl rfl hc ?_)
  refine zv e10 ?_;exact hk10 _ _ ⟨_,FL,h⟩
 rintro fr I ⟨u12,hl,h⟩;unfold jy at h;refine Lfr hl ?_
 refine zw ?_;refine qI 4 u12 Iff.rfl h (fun fr I=> ∃(u14:Bool),qo [(46,.bool u14)] fr/\yT B ro Q u14 I) ?_ ?_ ?_
 .intro h e15 hk15;refine zv e15 ?_;exact hk15 _ _ ⟨_,FL,h⟩
 .intro h e15 hk15;refine qO (qW rfl mH rfl ty3 y1 rfl) rfl rfl rfl rfl e15 ?_
  obtain⟨u15,hc,h⟩:=h
  refine Lyb rfl rfl rfl rfl e15 (vc rfl mf rfl rfl hc ?_)
  refine zv e15 ?_;exact hk15 _ _ ⟨_,FL,h⟩
 rintro fr I ⟨u14,hl,h⟩;unfold yT at h;refine Lfr hl ?_
 refine zj h (fun h=>?_) fun h=>?_
 .exact zr h
 exact zr h
def acZ(B:ZB)(ro:AH)(a0:ZO)(a1:Int)(a2:ZA)(I:AH)(Q:AH->Prop):=
 ∃p0,a0=some p0/\
 ∃u1,qa ro I (p0.add 2)=some (.int .i64 u1)/\
 ∃p2,a0=some p2/\
 stN (p2.add 2) (fun I=>
 ∃p3,a0=some p3/\
 ∃p4,a0=some p4/\
 ∃u5,qa ro I p3=some (Sl.v u5)/\
 ∃u6,qa ro I (p4.add 2)=some (.int .i64 u6)/\
 nw ro I (.cells #[.int .i64 u6,.int .i64 a1,.string a2] 132) fun u7 I=>
 awp prog ro (Builtin.append_ #[28,28] 28 #[Sl.v u5,Sl.v (⟨some ⟨u7,0,none⟩,1,1⟩:Sl)]) (fun v I=> ∃(u8:Sl),v=Sl.v u8/\
  ∃p9,a0=some p9/\
  stN p9 (fun I=>
  Q I) [Sl.v u8] 0 I) I) [.int .i64 (i64.wrap (u1+1))] 0 I
def aj7{a0 a1 a2 Q}(h:Sep ro I->acZ B ro a0 a1 a2 I Q):acN B ro a0 a1 a2 I Q:=by
 refine zb h func222 ntmps222 fun h=>?_;unfold acZ at h;refine zN h fun p0 h=>?_;refine zf nT ty3 ?_;refine zL mf h fun u1 h=>?_;refine zN h fun p2 h=>?_;refine zf nT ty3 ?_;refine zsp ty3 h fun I h=>?_;refine AW.drawn0 (fun i=>([0,0,0,0,3,0,0,0,3,0,0,0,1,2,0,0,2]:List Nat).getD i 2) [(8,11),(8,12),(8,13)] [0,1,2,3,5,6,7,9,10,4,8,11,12,13,14,15,16] mixed j3 ?_
 refine zM h fun p3 h=>?_;refine zg nT aaA ?_;refine zM h fun p4 h=>?_;refine zg nT ty3 ?_;refine zR nf h fun u5 h=>?_;refine zR mf h fun u6 h=>?_;refine Dp rfl rfl rfl rfl (wB (vs:=[(0,.int .i64 u6),(1,.int .i64 a1),(2,.string a2)]) (cs:= #[.int .i64 u6,.int .i64 a1,.string a2]) rfl nG xJ auR rfl rfl) ?_
 refine Da rfl rfl rfl rfl (wj (vs:=[(0,.agg #[.int .i64 u6,.int .i64 a1,.string a2])]) (cs:= #[.int .i64 u6,.int .i64 a1,.string a2]) rfl nf xJ y1 rfl rfl) fun u7 g1 g2=>?_
 replace h:=h u7 g1 g2
 refine Dg rfl rfl rfl rfl (vZ (s:=Builtin.append_ #[28,28] 28 #[Sl.v u5,Sl.v (⟨some ⟨u7,0,none⟩,1,1⟩:Sl)]) rfl rfl (fun _=>rfl) (qk _ h ?_))
 rintro v I ⟨u8,rfl,h⟩;refine zM h fun p9 h=>?_;refine zg nT aaA ?_;refine Dg rfl rfl rfl rfl (us rfl aaA rfl rfl rfl rfl (zY h fun I h=>?_))
 refine wG ?_
 exact bN0 results222 ⟨rfl,h⟩
def abg(B:ZB)(ro:AH)(a0_0 a0_1:Int)(a0_2:ZA)(a1:Addr)(I:AH)(Q:Bool->AH->Prop):=
 nw ro I (.cells #[.int .i64 a0_0,.int .i64 a0_1,.string a0_2] 132) fun u0 I=>
 ∃u1,qa ro I ⟨u0,0,none⟩=some (.int .i64 u1)/\
 ∃u2,qa ro I a1=some (.int .i64 u2)/\
 Q (decide (u1<=u2)) I
def ah7{a0_0 a0_1 a0_2 a1 Q}(h:Sep ro I->abg B ro a0_0 a0_1 a0_2 a1 I Q):aek B ro a0_0 a0_1 a0_2 a1 I Q:=by
 refine zb h func233 ntmps233 fun h=>?_;unfold abg at h;refine zw ?_;refine zA (wt rfl rfl) h fun u0 h=>?_;refine zf nG ty3 ?_;refine zL mf h fun u1 h=>?_;refine zL mf h fun u2 h=>?_;exact zr h
def jG(B:ZB)(ro:AH)(a0:ZO)(u0 u1:Nat)(u2:ZO)(Q:Int->AH->Prop)(u3:Bool)(I:AH):=
 if u3=true then
 Q 61 I
 else
 ∃p4,u2=some p4/\
 ∃u5,qa ro I (p4.add 3)=some (.map u5)/\
 ∃u6 u7,qe ro I ⟨u1,0,none⟩ 0 [.string u6,.int .i64 u7]/\
 awp prog ro (Instr.mapUpdate 308 (.map u5) (.agg #[.string u6,.int .i64 u7]) (.int .i64 1)) (fun _ I=>
 ∃p8,a0=some p8/\
 ∃u9,qa ro I p8=some (.map u9)/\
 ∃u10 u11,qe ro I ⟨u0,0,none⟩ 0 [.string u10,.int .i64 u11]/\
 awp prog ro (Instr.mapUpdate 243 (.map u9) (.agg #[.string u10,.int .i64 u11]) (.pointer u2)) (fun _ I=>
  Q 0 I) I) I
def jH(B:ZB)(ro:AH)(a0:ZO)(u0 u1:Nat)(Q:Int->AH->Prop)(u2:ZO)(I:AH):=
 jX I fun ψ I=>
 ∃p3,u2=some p3/\
 ∃u4,qa (join ro ψ) I (p3.add 3)=some (.map u4)/\
 ∃u5 u6,qe (join ro ψ) I ⟨u1,0,none⟩ 0 [.string u5,.int .i64 u6]/\
 awp prog (join ro ψ) (Instr.lookup 308 (.map u4) (.agg #[.string u5,.int .i64 u6]) false) (fun v I=>
  (∃(u7:Int),v= .int .i64 u7/\
  if u7=0 then
   ∃p8,u2=some p8/\
   ∃p9,u2=some p9/\
   ∃u10,qa (join ro ψ) (fun _=>none) p9=some (Sl.v u10)/\
   ∃u11,qa (join ro ψ) I (p8.add 3)=some (.map u11)/\
   awp prog (join ro ψ) (Builtin.len_ #[308] 3 #[.map u11]) (fun v I=> ∃(u12:Int),v= .int .i64 u12/\
   (qL ψ I->(fun I=>
    jG B ro a0 u0 u1 u2 Q (decide (32<=(i64.wrap (u12+(u10.len:Int))))) I) (join ψ I))) I
  else
  (qL ψ I->(fun I=>
   jG B ro a0 u0 u1 u2 Q false I) (join ψ I)))) I
def aeC(B:ZB)(ro:AH)(a0:ZO)(a1_0:ZA)(a1_1 a2:Int)(a3:ZA)(I:AH)(Q:Int->AH->Prop):=
 nw ro I (.cells #[.string a1_0,.int .i64 a1_1] 81) fun u0 I=>
 nw ro I (.cells #[.string ByteArray.empty,.int .i64 0] 314) fun u1 I=>
 stN ⟨u1,0,none⟩ (fun I=>
 ∃u2 u3,qe ro I ⟨u0,0,none⟩ 0 [.string u2,.int .i64 u3]/\
 ∃u4 u5,qe ro I ⟨u1,0,none⟩ 0 [.string u4,.int .i64 u5]/\
 afE B ro u2 u3 u4 u5 I fun u6 I=>
 if¬(u6=0)then
  Q u6 I
 else
 ∃p7,a0=some p7/\
 ∃u8,qa ro I p7=some (.map u8)/\
 ∃u9 u10,qe ro I ⟨u0,0,none⟩ 0 [.string u9,.int .i64 u10]/\
 awp prog ro (Instr.lookup 243 (.map u8) (.agg #[.string u9,.int .i64 u10]) false) (fun v I=>
  (∃(u11:ZO),v= .pointer u11/\
  if u11=none then
   nw ro I (.map #[] 0) fun u12 I=>
   nw ro I (.cells #[Sl.v (⟨none,0,0⟩:Sl),.int .i64 0,.int .i64 0,.map (some u12)] 310) fun u13 I=>
   jH B ro a0 u0 u1 Q (some ⟨u13,0,none⟩) I
  else
  jH B ro a0 u0 u1 Q u11 I)) I) [.string a3,.int .i64 a2] 0 I
def aly{a0 a1_0 a1_1 a2 a3 Q}(h:Sep ro I->aeC B ro a0 a1_0 a1_1 a2 a3 I Q):uK B ro a0 a1_0 a1_1 a2 a3 I Q:=by
 refine zb h func236 ntmps236 fun h=>?_;unfold aeC at h;refine zw ?_;refine zAp (wt rfl rfl) h fun u0 h=>?_;refine zm (wB (vs:=[(0,.string a3),(1,.int .i64 a2)]) (cs:= #[.string a3,.int .i64 a2]) rfl nL aee aou rfl rfl) ?_;refine zA (qT rfl aee) h fun u1 h=>?_;refine zsp aee h fun I h=>?_;refine AW.seq ?_;refine zw ?_;obtain⟨u2,u3,hc,h⟩:=h
 refine zl (wq rfl mH rfl vl rfl hc ?_)
 obtain⟨u4,u5,hc,h⟩:=h
 refine zl (wq rfl nL rfl aee rfl hc ?_)
 refine zC func221 h fun u6 I h=>?_;refine AW.iff rfl (qu me) h (fun h=>?_) (fun h=>?_)
 .exact zr h
 refine zw ?_;refine AW.seq ?_;refine AW.drawn0 (fun i=>([0,0,0,3,3,2,0]:List Nat).getD i 2) [] [0,1,2,3,4,5,6] mixed j3 ?_
 refine zM h fun p7 h=>?_;refine zg Lx ag0 ?_;refine zR LG h fun u8 h=>?_;obtain⟨u9,u10,hc,h⟩:=h
 refine Dr rfl rfl rfl rfl (jh rfl mH rfl vl rfl hc) ?_
 refine Dg rfl rfl rfl rfl (yj rfl rfl rfl (qk _ h ?_))
 rintro v I ⟨u11,rfl,h⟩;refine zw ?_;refine wG ?_
 refine zw ?_;refine AW.seqJ (fun fr I=> ∃(u12:ZO),qo [(0,.pointer a0),(5,.pointer (some ⟨u0,0,none⟩)),(9,.pointer (some ⟨u1,0,none⟩)),(11,.pointer u12)] fr/\jH B ro a0 u0 u1 Q u12 I) ?_ ?_
 rotate_left
 .refine zw ?_;refine zm (ae3 rfl Pi rfl rfl) ?_;refine zw ?_;refine AW.iff rfl zJ h (fun h=>?_) (fun h=>?_)
  rotate_left
  .refine zw ?_;exact⟨_,FL,h⟩
  refine zw ?_;refine zA (ahM rfl) h fun u13 h=>?_;refine zm (wB (vs:=[(1,.map (some u13))]) (cs:= #[Sl.v (⟨none,0,0⟩:Sl),.int .i64 0,.int .i64 0,.map (some u13)]) rfl nZ awS aw4 rfl rfl) ?_;refine zAp (wt rfl rfl) h fun u14 h=>?_;exact⟨_,FL,h⟩
 rintro fr I ⟨u12,hl,h⟩;refine AW.weaken ?_ hl (HLe.refl _)
 unfold jH at h;refine AW.seq ?_;refine AW.seqJ (fun fr I=> ∃(u15:Bool),qo [(0,.pointer a0),(5,.pointer (some ⟨u0,0,none⟩)),(9,.pointer (some ⟨u1,0,none⟩)),(11,.pointer u12),(53,.bool u15)] fr/\jG B ro a0 u0 u1 u12 Q u15 I) ?_ ?_
 .rintro fr I ⟨u15,hl,h⟩;refine AW.weaken ?_ hl (HLe.refl _)
  unfold jG at h;refine zj h (fun h=>?_) fun h=>?_
  .exact zr h
  refine zw ?_;refine AW.seq ?_;refine AW.drawn0 (fun i=>([0,0,0,3,3,2]:List Nat).getD i 2) [] [0,1,2,3,4,5] mixed j3 ?_
  refine zM h fun p16 h=>?_;refine zg nZ akh ?_;refine zR Pc h fun u17 h=>?_;obtain⟨u18,u19,hc,h⟩:=h
  refine Dr rfl rfl rfl rfl (jh rfl nL rfl aee rfl hc) ?_
  refine Dg rfl rfl rfl rfl (agW (.inl rfl) rfl rfl rfl (qk _ h ?_))
  rintro _ I h
  refine wG ?_
  refine zw ?_;refine AW.seq ?_;refine AW.drawn0 (fun i=>([0,0,0,3,3,0,2]:List Nat).getD i 2) [] [0,1,2,5,3,4,6] mixed j3 ?_
  refine zM h fun p20 h=>?_;refine zg Lx ag0 ?_;refine zR LG h fun u21 h=>?_;obtain⟨u22,u23,hc,h⟩:=h
  refine Dr rfl rfl rfl rfl (jh rfl mH rfl vl rfl hc) ?_
  refine Dg rfl rfl rfl rfl (agW (.inl rfl) rfl rfl rfl (qk _ h ?_))
  rintro _ I h
  refine wG ?_
  exact zr h
 refine AW.drawnL (fun i=>([0,0,0,3,3,2,0,0,0,0,0,3,2,0,0,0,0,0,0,0,0,0]:List Nat).getD i 2) [(3,5),(3,6),(3,7),(3,8),(3,9),(3,10),(3,11),(3,12),(4,5),(4,6),(4,7),(4,8),(4,9),(4,10),(4,11),(4,12),(5,6),(5,7),(5,8),(5,9),(5,10),(5,11),(5,12)] [0,1,2,3,4,5,6,7,8,9,10,13,14,15,16,17,18,11,12,19,20,21] mixed h j3 ?_
 clear h
 intro ψ I h
 refine zM h fun p24 h=>?_;refine zg nZ akh ?_;refine zR Pc h fun u25 h=>?_;obtain⟨u26,u27,hc,h⟩:=h
 refine Dr rfl rfl rfl rfl (jh rfl nL rfl aee rfl hc) ?_
 refine Dg rfl rfl rfl rfl (yj rfl rfl rfl (qk _ h ?_))
 rintro v I ⟨u28,rfl,h⟩;refine zw ?_;refine agk (decide (u28=0)) me h ?_ ?_
 rotate_left
 .intro h e7
  refine Dpn rfl rfl rfl rfl rfl (.inl (by rw[e7];try rfl)) rfl ?_
  refine Dpn rfl rfl rfl rfl rfl (.inl (by rw[e7];try rfl)) rfl ?_
  refine Dpn rfl rfl rfl rfl rfl (.inl (by rw[e7];try rfl)) rfl ?_
  refine Dpn rfl rfl rfl rfl rfl (.inl (by rw[e7];try rfl)) rfl ?_
  refine Dpn rfl rfl rfl rfl rfl (.inl (by rw[e7];try rfl)) rfl ?_
  refine Dpn rfl rfl rfl rfl rfl (.inl (by rw[e7];try rfl)) rfl ?_
  refine Dpn rfl rfl rfl rfl rfl (.inl (by rw[e7];try rfl)) rfl ?_
  refine Dpn rfl rfl rfl rfl rfl (.inl (by rw[e7];try rfl)) rfl ?_
  refine Dpn rfl rfl rfl rfl rfl (.inl (by rw[e7];try rfl)) rfl ?_
  refine Drn rfl rfl rfl rfl rfl (.inl (by rw[e7];try rfl)) rfl ?_
  refine Dgn rfl rfl rfl rfl rfl (.inl (by rw[e7];try rfl)) rfl ?_
  refine Dpn rfl rfl rfl rfl rfl (.inl (by rw[e7];try rfl)) rfl ?_
  refine Dpn rfl rfl rfl rfl rfl (.inl (by rw[e7];try rfl)) rfl ?_
  refine Dp rfl rfl rfl rfl (ux rfl (evb e7) rfl) ?_
  refine⟨_,wW.refl _,fun hdj=>?_⟩
  replace h:=h hdj
  refine zw ?_;exact⟨_,FL,h⟩
 intro h e7
 refine Dpy rfl rfl rfl rfl rfl e7 rfl (jQ rfl rfl) ?_
 obtain⟨p29,hc,h⟩:=h
 refine Dpy rfl rfl rfl rfl rfl e7 rfl (kW rfl (by rw[<-hc];try rfl)) ?_
 refine Dpy rfl rfl rfl rfl rfl e7 rfl (qW rfl nZ rfl akh y1 rfl) ?_
 refine Dpy rfl rfl rfl rfl rfl e7 rfl (jQ rfl rfl) ?_
 obtain⟨p30,hc,h⟩:=h
 refine Dpy rfl rfl rfl rfl rfl e7 rfl (kW rfl (by rw[<-hc];try rfl)) ?_
 refine Dpy rfl rfl rfl rfl rfl e7 rfl (qW rfl nZ rfl air y1 rfl) ?_
 refine Dpy rfl rfl rfl rfl rfl e7 rfl (qW rfl nT rfl aaA y1 rfl) ?_
 obtain⟨u31,hc,h⟩:=h
 refine Dpy rfl rfl rfl rfl rfl e7 rfl (av1 rfl nf rfl rfl hc) ?_
 refine Dpy rfl rfl rfl rfl rfl e7 rfl (qC rfl rfl nf rfl rfl) ?_
 obtain⟨u32,hc,h⟩:=h
 refine Dry rfl rfl rfl rfl rfl e7 rfl (ahi rfl Pc rfl rfl hc) ?_
 refine Dgy rfl rfl rfl rfl rfl e7 rfl (vZ (s:=Builtin.len_ #[308] 3 #[.map u32]) rfl rfl (fun _=>rfl) (qk _ h ?_))
 rintro v I ⟨u33,rfl,h⟩;refine Dpy rfl rfl rfl rfl rfl e7 rfl (aoj rfl rfl rfl) ?_
 refine Dpy rfl rfl rfl rfl rfl e7 rfl (aoi rfl rfl rfl) ?_
 refine Dp rfl rfl rfl rfl (pN rfl (evb e7) rfl) ?_
 refine⟨_,wW.refl _,fun hdj=>?_⟩
 replace h:=h hdj
 refine zw ?_;exact⟨_,FL,h⟩
end G
namespace Zt
open Go SL G Pa Wi
variable{B:ZB}{ro I I':AH}{tag tag':Nat->Nat}
def aeY:prog.underlying 240=some (.map 9 255):=j0
def afb:prog.underlying 252=some (.map 3 249):=j0
def u3':prog.underlying 3=some (.int .i64):=j0
def aro:prog.underlying 55=some (.slice 3):=j0
def arp:qp prog 3 (.int .i64 0) 1 8:=qp.of j0
def apf:qp prog 255 (.pointer none) 1 8:=qp.of j0
def ahb(q:Nat){s:Sl}{l:List Value}{Q:Sl->AH->Prop}(h:SL.qJ ro I s l)(hs:SL.Sep ro I)(hl:l.length<=1048576)(hv:∀ v∈l,qg v=true)(hQ:∀ s' tag' I',(∀R,qd R ro tag I tag' I')->Row tag' I' q 3 s' l->Q s' I'):xA B ro s I Q:=by
 refine agQ fun _=>?_
 unfold aah
 by_cases h0:s.a=none
 .rw[mc h0]
  rw[h.2.1 h0]at hQ
  exact hQ _ tag I (fun _=>qd.refl hs) (Row.nil q 3)
 .rw[ma h0]
  refine qf (tag:=tag) q hs fun b tag1 I1 st1 r1=>?_
  have h':SL.qJ ro I1 s l:=h.step (st1 [])
  refine jm r1 (st1 []).sep h' aro arp rfl hv j2 y1 fun s' tag2 I2 st2 r2=>?_
  exact⟨s',rfl,hQ s' tag2 I2 (fun R=>(st1 R).trans (st2 R (.inl rfl))) r2⟩
def asF{s:Sl}{Q:Bool->AH->Prop}(h:SL.qJ ro I s [vI 0,vI 1,vI 2])(hQ:Q true I):jp B ro s I Q:=by
 refine ad0 fun _=>?_
 unfold pE
 have hl:(s.len:Int)=3:=by rw[h.1];try rfl
 obtain⟨p,hp⟩:∃ p,s.a=some p:=by
  cases e:s.a with
  | none=>have:=h.2.1 e;cases this
  | some p=>exact⟨p,rfl⟩
 have g0:=h.2.2 p hp 0 _ rfl
 have g1:=h.2.2 p hp 1 _ rfl
 have g2:=h.2.2 p hp 2 _ rfl
 refine lfpD.intro ?_
 generalize hY:lfpD (wh B ro s Q)=Y
 unfold wh
 rw[hl,mc y1]
 refine⟨p,hp,y1,y1,0,g0,?_⟩
 rw[ma y1,ma y1]
 unfold zo wz
 rw[ma y1,show i64.wrap (0+1)=1 from rfl,<-hY]
 refine lfpD.intro ?_
 rw[hY]
 unfold wh
 rw[hl,mc y1]
 refine⟨p,hp,y1,y1,1,g1,?_⟩
 rw[ma y1,mc y1]
 refine⟨p,hp,y1,y1,0,g0,?_⟩
 unfold zo wz
 rw[ma y1,show i64.wrap (1+1)=2 from rfl,<-hY]
 refine lfpD.intro ?_
 rw[hY]
 unfold wh
 rw[hl,mc y1]
 refine⟨p,hp,y1,y1,2,g2,?_⟩
 rw[ma y1,mc y1]
 refine⟨p,hp,y1,y1,1,g1,?_⟩
 unfold zo wz
 rw[ma y1,show i64.wrap (2+1)=3 from rfl,<-hY]
 refine lfpD.intro ?_
 rw[hY]
 unfold wh
 rw[hl,ma y1]
 unfold jc
 rw[hl]
 exact hQ
def auc{T M:Nat}{Q:Int->Bool->Int->AH->Prop}(hc:Row tag I 55 242 ⟨some ⟨T,0,none⟩,1,1⟩ [.map (some M)])(hm:vm kS tag I 119 M [])
  (hQ:∀ tag' I',StepS [0,55,56,57,58] ro tag I tag' I'->Q 1 true 0 I'):jq B ro (some ⟨T,0,none⟩) ⟨#[97]⟩ 5 100 I Q:=by
 refine ad1 fun hs=>?_
 unfold pF
 refine agf ?_
 rw[show wb (L ⟨#[97]⟩)=true from by decide,ma y0]
 refine aau fun _=>?_
 unfold yh
 show(if¬(((decide ((1:Int)<=5)) && (decide ((5:Int)<=4611686018427387903)))=true)then _ else _)
 rw[ma y1,ma y1]
 refine⟨_,rfl,some M,hc.cell1 hs,?_⟩
 refine vn (k:=[97]) hm hs aeY (als u9) apf ?_
 refine⟨none,rfl,?_⟩
 rw[mc rfl]
 refine ahR kI (tag:=tag) 57 hs fun m tag1 I1 st1 m1=>?_
 refine qf (tag:=tag1) 56 (st1 []).sep fun H tag2 I2 st2 r2=>?_
 have m2:=m1.keep (st2 [])
 have hs2:=(st2 []).sep
 unfold vG
 refine⟨_,rfl,some m,(r2.read hs2).2.2 _ rfl 1 _ rfl,?_⟩
 refine ahS afb m2 hs2 fun es clock x hb he hbn hro hx=>?_
 have st3:∀ R,qd R ro tag2 I2 (setTag tag2 x 0) (upd I2 x (.mapIter (some m) clock #[] clock)):=fun R=>qd.fresh hs2 hro hx
 refine⟨_,rfl,?_⟩
 refine lfpD.intro ?_
 show awp prog ro (Instr.next (.pointer (some ⟨x,0,none⟩)) false 0) _ _
 refine aen (qE _ _ _) ((st3 []).keep m _ hb y0).2 (st3 []).sep hbn (fun _=>?_) (fun e hes _=>?_)
 rotate_left
 .have:es.toList=[]:=by simpa using he
  rw[this]at hes;cases hes
 refine .inl ⟨rfl,?_⟩
 generalize (upd I2 x (.mapIter (some m) clock #[] clock))=I3 at st3⊢
 generalize (setTag tag2 x 0)=tag3 at st3
 have hs3:=(st3 []).sep
 have r3:=r2.keep (st3 [])
 have m3:=m2.keep (st3 [])
 unfold jd
 refine⟨_,rfl,some m,(r3.read hs3).2.2 _ rfl 1 _ rfl,?_⟩
 refine ald m3 hs3 afb ?_
 refine⟨0,rfl,?_⟩
 rw[ma y1]
 refine⟨_,rfl,0,(r3.read hs3).2.2 _ rfl 0 _ rfl,?_⟩
 unfold vp
 rw[ma y1]
 refine⟨_,rfl,0,(r3.read hs3).2.2 _ rfl 0 _ rfl,_,rfl,?_⟩
 refine r3.stPre [.int .i64 (i64.wrap (0+1))] 0 _ I3 hs3 y0 (by simp[qg]) fun I4 st4 r4=>?_
 have hs4:=st4.sep
 have m4:=m3.keep st4
 refine⟨_,rfl,_,rfl,_,rfl,some m,(r4.read hs4).2.2 _ rfl 1 _ rfl,_,(r4.read hs4).2.2 _ rfl 0 _ rfl,_,(r4.read hs4).2.2 _ rfl 0 _ rfl,?_⟩
 refine qf (tag:=tag3) 58 hs4 fun Z tag5 I5 st5 r5=>?_
 refine abu (k:=i64.wrap (0+1)) (m4.keep (st5 [])) (st5 []).sep afb (am4 u3') fun I6 st6 m6=>?_
 have hc6:Row tag5 I6 55 242 ⟨some ⟨T,0,none⟩,1,1⟩ [.map (some M)]:=(((((hc.keep (st1 [])).keep (st2 [])).keep (st3 [])).keep st4).keep (st5 [])).keep st6
 have hm6:vm kS tag5 I6 119 M []:=(((((hm.keep (st1 [])).keep (st2 [])).keep (st3 [])).keep st4).keep (st5 [])).keep st6
 have r6:=(r4.keep (st5 [])).keep st6
 refine⟨_,rfl,some M,hc6.cell1 st6.sep,?_⟩
 refine abu (k:=[97]) hm6 st6.sep aeY (als u9) fun I7 st7 m7=>?_
 have r7:=r6.keep st7
 refine⟨_,rfl,_,(r7.read st7.sep).2.2 _ rfl 0 _ rfl,?_⟩
 refine hQ tag5 I7 ?_
 refine(((st1 []).trans (st2 [])).trans (st3 [])).s y0 |>.trans ((st4.s y0).trans (((st5 []).s y0).trans ((st6.s y0).trans (st7.s y0))))