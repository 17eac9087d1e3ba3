import Derived.Test.YtomdigihapdhnaaGreatDoorXF
set_option linter.all false
set_option maxRecDepth 99999
set_option maxHeartbeats 0
open Go.IntKind(i64)
open Go.Proofs.Tryz
namespace Go.Proofs.YtomdigihapdhnaaGreatDoor
namespace G
open Go SL
variable{B:ZB}{ro I:AH}
def adC(B:ZB)(ro:AH)(a0:ZO)(a1:ZA)(I:AH)(Q:Sl->Int->Int->Int->Int->Int->AH->Prop):=
 nw ro I (.cells #[.int .i64 0,.int .i64 0,.int .i64 0,.int .i64 0] 26) fun u0 I=>
 pi B ro a0 a1 I fun u1 u2 I=>
 if¬(u2=0)then
 stN ⟨u0,0,none⟩ (fun I=>
  ∃u3 u4 u5 u6,qe ro I ⟨u0,0,none⟩ 0 [.int .i64 u3,.int .i64 u4,.int .i64 u5,.int .i64 u6]/\
  Q (⟨none,0,0⟩:Sl) u3 u4 u5 u6 u2 I) [.int .i64 0,.int .i64 0,.int .i64 0,.int .i64 0] 0 I
 else
 jX I fun ψ I=>
 ∃p7,u1=some p7/\
 ∃p8,u1=some p8/\
 ∃u9 u10 u11 u12,qe (join ro ψ) (fun _=>none) p8 0 [.int .i64 u9,.int .i64 u10,.int .i64 u11,.int .i64 u12]/\
 ∃u13,qa (join ro ψ) I (p7.add 4)=some (Sl.v u13)/\
 kT B (join ro ψ) u13 I fun u14 I=>
 stN ⟨u0,0,none⟩ (fun I=>
  (qL ψ I->(fun I=>
  ∃u15 u16 u17 u18,qe ro I ⟨u0,0,none⟩ 0 [.int .i64 u15,.int .i64 u16,.int .i64 u17,.int .i64 u18]/\
  Q u14 u15 u16 u17 u18 0 I) (join ψ I))) [.int .i64 u9,.int .i64 u10,.int .i64 u11,.int .i64 u12] 0 I
def akz{a0 a1 Q}(h:Sep ro I->adC B ro a0 a1 I Q):yb B ro a0 a1 I Q:=by
 refine zb h func25 ntmps25 fun h=>?_;unfold adC at h;refine zw ?_;refine zA (qT rfl wx) h fun u0 h=>?_;refine zc func79 h ?_;rintro v I ⟨u1,u2,rfl,h⟩;refine zw ?_;refine AW.seq ?_;refine zw ?_;refine AW.iff rfl (qu me) h (fun h=>?_) (fun h=>?_)
 .refine zw ?_;refine zm (wB (vs:=[]) (cs:= #[.int .i64 0,.int .i64 0,.int .i64 0,.int .i64 0]) rfl mE wx ato rfl rfl) ?_;refine zsp wx h fun I h=>?_;obtain⟨u3,u4,u5,u6,hc1,h⟩:=h
  exact bRM results25 (wA (ahj rfl) (wA (vN rfl mE rfl wx hc1) (wA (ahj rfl) vM))) ⟨_,_,_,_,_,_,rfl,h⟩
 refine zw ?_;refine AW.seq ?_;refine AW.drawnL (fun i=>([0,0,0,3,2,0,0,0,0,0,2,0]:List Nat).getD i 2) [] [0,1,2,5,6,7,8,3,4,9,10,11] mixed h j3 ?_
 clear h
 intro ψ I h
 refine zM h fun p7 h=>?_;refine zg mL wg ?_;refine zM h fun p8 h=>?_;refine zg mL wx ?_;obtain⟨u9,u10,u11,u12,hc,h⟩:=h
 refine Dp rfl rfl rfl rfl (auM rfl mE rfl wx rfl hc) ?_
 refine zR mn h fun u13 h=>?_;refine zG func80 h ?_;rintro v I ⟨u14,rfl,h⟩;refine zw ?_;refine Dg rfl rfl rfl rfl (us rfl wx rfl rfl rfl rfl (zY h fun I h=>?_))
 refine zw ?_;refine⟨_,wW.refl _,fun hdj=>?_⟩
 replace h:=h hdj
 refine zw ?_;obtain⟨u15,u16,u17,u18,hc1,h⟩:=h
 exact bRM results25 (wA (ahj rfl) (wA (vN rfl mE rfl wx hc1) (wA (ahj rfl) vM))) ⟨_,_,_,_,_,_,rfl,h⟩
def aca(B:ZB)(ro:AH)(a0:ZO)(a1:ZA)(I:AH)(Q:Sl->Int->AH->Prop):=
 nw ro I (.cells #[.string a1] 9) fun u0 I=>
 ∃u1,qa ro I ⟨u0,0,none⟩=some (.string u1)/\
 vC B ro u1 I fun u2 I=>
 if¬(u2=0)then
 Q (⟨none,0,0⟩:Sl) u2 I
 else
 xU B ro a0 I fun u3 I=>
 xC B ro u3 (.func (.func 85) #[] #[.pointer (some ⟨u0,0,none⟩)]) I fun u4 I=>
 Q u4 0 I
def ajf{a0 a1 Q}(h:Sep ro I->aca B ro a0 a1 I Q):ab4 B ro a0 a1 I Q:=by
 refine zb h func27 ntmps27 fun h=>?_;unfold aca at h;refine zw ?_;refine zAp (wt rfl rfl) h fun u0 h=>?_;refine AW.seq ?_;refine zL mo h fun u1 h=>?_;refine zC func82 h fun u2 I h=>?_;refine AW.iff rfl (qu me) h (fun h=>?_) (fun h=>?_)
 .exact zrr h
 refine zc func84 h ?_;rintro v I ⟨u3,rfl,h⟩;refine zm (aqO rfl rfl rfl) ?_;refine zc func83 h ?_;rintro v I ⟨u4,rfl,h⟩;exact zrr h
def ahv(B:ZB)(ro I:AH)(Q:ZO->AH->Prop):Prop:=
 nw ro I (.map #[] 0) fun u0 I=>
 nw ro I (.cells #[.int .i64 0,.int .i64 0,.int .i64 0,.int .i64 0,Sl.v (⟨none,0,0⟩:Sl)] 168) fun u1 I=>
 awp prog ro (Instr.mapUpdate 237 (.map (some u0)) (.string (⟨#[47]⟩:ZA)) (.pointer (some ⟨u1,0,none⟩))) (fun _ I=>
 nw ro I (.cells #[.map (some u0)] 239) fun u2 I=>
 Q (some ⟨u2,0,none⟩) I) I
def aoM{Q}(h:Sep ro I->ahv B ro I Q):ahp B ro I Q:=by
 refine zb h func66 ntmps66 fun h=>?_;unfold ahv at h;refine zw ?_;refine zA (ahM rfl) h fun u0 h=>?_;refine zm (wB (vs:=[]) (cs:= #[.int .i64 0,.int .i64 0,.int .i64 0,.int .i64 0,Sl.v (⟨none,0,0⟩:Sl)]) rfl mL aqS aqT rfl rfl) ?_;refine zA (wt rfl rfl) h fun u1 h=>?_;refine zl (agW (.inr rfl) rfl rfl rfl (qk _ h ?_))
 rintro _ I h
 refine zw ?_;refine zm (wB (vs:=[(0,.map (some u0))]) (cs:= #[.map (some u0)]) rfl nx aot auS rfl rfl) ?_;refine zA (wt rfl rfl) h fun u2 h=>?_;exact zr h
def abO(B:ZB)(ro:AH)(u0:Nat)(Q:ZO->Int->AH->Prop)(I:AH):=
 Q (some ⟨u0,0,none⟩) 0 I
def abP(B:ZB)(ro:AH)(p0:Addr)(u1:Nat)(Q:ZO->Int->AH->Prop):(Unit)->AH->((Unit)->AH->Prop)->Prop:=fun _ I Y7=>
 awp prog ro (Instr.next (.pointer (some p0)) false 0) (fun v I=>
 (v= .tuple #[.bool false]/\
  abO B ro u1 Q I)\/
 (∃(u2:ZC) (u3:ZC),v= .tuple #[.bool true,u2,u3]/\
  awp prog ro (Instr.entry (.pointer (some p0))) (fun v I=>
  (∃(u4:ZC) (u5:ZO),v= .tuple #[u4,.pointer u5]/\
   ∃p6,u5=some p6/\
   ∃p7,u5=some p7/\
   ∃u8,qa ro I (p6.add 1)=some (.int .i64 u8)/\
   ∃u9,qa ro I (p7.add 3)=some (.int .i64 u9)/\
   if u8<u9 then
   Q none 13 I
   else
   Y7 () I)) I)) I
def uM(B:ZB)(ro:AH)(u0:Nat)(Q:ZO->Int->AH->Prop)(I:AH):=
 ∃u1,qa ro I ⟨u0,0,none⟩=some (.map u1)/\
 awp prog ro (Instr.range 237 (.map u1)) (fun v I=>
 (∃(p2:Addr),v= .pointer (some p2)/\
  lfpD (abP B ro p2 u0 Q) () I)) I
def xP(B:ZB)(ro:AH)(u0:Nat)(u1:ZO)(u2:ZA)(Q:ZO->Int->AH->Prop)(Y17:(ZA)->AH->Prop)(u3:Bool)(I:AH):=
 if u3=true then
 Q none 13 I
 else
 Y17 (u2) I
def aa4(B:ZB)(ro:AH)(u0:Nat)(u1:ZO)(Q:ZO->Int->AH->Prop):(ZA)->AH->((ZA)->AH->Prop)->Prop:=fun u2 I Y17=>
 uH B ro u1 I fun u3 I=>
 if(0<u3)\/(u2=(⟨#[]⟩:ZA))then
 xT B ro u1 I fun u4 I=>
 yv B ro u1 I fun u5 I=>
 nw ro I (.cells #[.int .i64 0,.int .i64 0,.int .i64 0,.int .i64 0,Sl.v u5] 168) fun u6 I=>
 qN B ro u1 I fun u7 I=>
 qN B ro u1 I fun u8 I=>
 qN B ro u1 I fun u9 I=>
 stN ⟨u6,0,none⟩ (fun I=>
  stN ((⟨u6,0,none⟩:Addr).add 1) (fun I=>
  stN ((⟨u6,0,none⟩:Addr).add 2) (fun I=>
   aat B ro u1 I fun u10 I=>
   if¬(u10=0)then
   xP B ro u0 u1 u4 Q Y17 true I
   else
   adx B ro (some ⟨u0,0,none⟩) u4 u2 (some ⟨u6,0,none⟩) I fun u11 I=>
   xP B ro u0 u1 u4 Q Y17 (!u11) I) [.int .i64 u9] 0 I) [.int .i64 u8] 0 I) [.int .i64 u7] 0 I
 else
 uM B ro u0 Q I
def aeQ(B:ZB)(ro:AH)(a0:Sl)(I:AH)(Q:ZO->Int->AH->Prop):=
 nw ro I (.map #[] 0) fun u0 I=>
 nw ro I (.cells #[.map (some u0)] 239) fun u1 I=>
 aaZ B ro a0 I fun u2 I=>
 lfpD (aa4 B ro u1 u2 Q) ((⟨#[]⟩:ZA)) I
def al0{a0 Q}(h:Sep ro I->aeQ B ro a0 I Q):aeM B ro a0 I Q:=by
 refine zb h func77 ntmps77 fun h=>?_;unfold aeQ at h;refine zw ?_;refine zA (ahM rfl) h fun u0 h=>?_;refine zm (wB (vs:=[(0,.map (some u0))]) (cs:= #[.map (some u0)]) rfl nx aot auS rfl rfl) ?_;refine zAp (wt rfl rfl) h fun u1 h=>?_;refine AW.seqJ (fun fr I=>qo [(4,.pointer (some ⟨u1,0,none⟩))] fr/\uM B ro u1 Q I) ?_ ?_
 .rintro fr I ⟨hl,h⟩;refine AW.weaken ?_ hl (HLe.refl _)
  unfold uM at h;refine AW.seqJ (fun fr I=>qo [(4,.pointer (some ⟨u1,0,none⟩))] fr/\abO B ro u1 Q I) ?_ ?_
  .rintro fr I ⟨hl,h⟩;refine AW.weaken ?_ hl (HLe.refl _)
   unfold abO at h;exact zrr h
  refine zw ?_;refine zm (kW rfl rfl) ?_;refine zf nx abN ?_;refine zL nK h fun u2 h=>?_;refine zl (aoo rfl rfl (qk _ h ?_))
  rintro v I ⟨p3,rfl,h⟩;refine zw ?_;refine qi.loop (fr':=[(4,.pointer (some ⟨u1,0,none⟩)),(63,.pointer (some p3))]) ?_ FL
  refine h (fun _ I=>qi _ _ _ _ _ _ [(4,.pointer (some ⟨u1,0,none⟩)),(63,.pointer (some p3))] I) ?_
  rintro _ I Y7 hY7 h
  show AW _ _ _ _ _ _ _ _
  unfold abP at h;refine zw ?_;refine zl (aop rfl rfl rfl (qk _ h ?_))
  rintro v I (⟨rfl,h⟩ | ⟨u4,u5,rfl,h⟩)
  .refine zw ?_;refine AW.seq ?_;refine AW.no rfl ?_;refine AW.exit ?_;refine zw ?_;refine qX ?_
   refine zw ?_;exact⟨FL,h⟩
  .refine zw ?_;refine AW.seq ?_;refine AW.yes rfl ?_;refine zw ?_;refine zl (aqP rfl rfl (qk _ h ?_))
   rintro v I ⟨u6,u7,rfl,h⟩;refine zw ?_;refine AW.seq ?_;refine AW.drawn0 (fun i=>([0,0,0,0,3,0,0,0,0,3,0]:List Nat).getD i 2) [] [0,1,2,3,5,6,7,8,4,9,10] mixed j3 ?_
   refine zM h fun p8 h=>?_;refine zg mL wx ?_;refine zg mE ty3 ?_;refine zM h fun p9 h=>?_;refine zg mL wx ?_;refine zg mE ty3 ?_;refine zR mf h fun u10 h=>?_;refine zR mf h fun u11 h=>?_;refine zw ?_;refine wG ?_
   refine zi h (fun h=>?_) fun h=>?_
   rotate_left
   .refine zw ?_;refine qi.head (fr':=[(4,.pointer (some ⟨u1,0,none⟩)),(63,.pointer (some p3))]) ?_ FL
    exact hY7 _ _ h
   exact zrr h
 refine zC func53 h fun u12 I h=>?_;refine qi.loop (fr':=[(4,.pointer (some ⟨u1,0,none⟩)),(6,.pointer u12),(5,.string (⟨#[]⟩:ZA))]) ?_ FL
 refine h (fun u13 I=>qi _ _ _ _ _ _ [(4,.pointer (some ⟨u1,0,none⟩)),(6,.pointer u12),(5,.string u13)] I) ?_
 rintro u13 I Y17 hY17 h
 show AW _ _ _ _ _ _ _ _
 unfold aa4 at h;refine AW.seq ?_;refine zC func58 h fun u14 I h=>?_;refine wY 3 (decide (0<u14)) [(4,.pointer (some ⟨u1,0,none⟩)),(5,.string u13),(6,.pointer u12),(22,.bool ((decide (0<u14)) || (decide (u13=(⟨#[]⟩:ZA)))))] ?_ ?_ ?_
 .intro e3 hk3
  refine zv e3 ?_;exact hk3 _ (Fe e3)
 .intro e3 hk3
  refine zv e3 ?_;exact hk3 _ (Fe e3)
 intro fr hl
 refine Lfr hl ?_
 refine zw ?_;refine AW.iff rfl (vr me me) h (fun h=>?_) (fun h=>?_)
 rotate_left
 .refine AW.exit ?_;refine zw ?_;refine qX ?_
  refine zw ?_;exact⟨FL,h⟩
 refine zc func55 h ?_;rintro v I ⟨u15,rfl,h⟩;refine zc func56 h ?_;rintro v I ⟨u16,rfl,h⟩;refine zm (wB (vs:=[(1,Sl.v u16)]) (cs:= #[.int .i64 0,.int .i64 0,.int .i64 0,.int .i64 0,Sl.v u16]) rfl mL aqS aqT rfl rfl) ?_;refine zA (wt rfl rfl) h fun u17 h=>?_;refine zc func54 h ?_;rintro v I ⟨u18,rfl,h⟩;refine zc func54 h ?_;rintro v I ⟨u19,rfl,h⟩;refine zc func54 h ?_
 rintro v I ⟨u20,rfl,h⟩;refine zm (kW rfl rfl) ?_;refine zf mL wx ?_;refine zf mE ty3 ?_;refine zs ty3 h fun I h=>?_;refine zm (kW rfl rfl) ?_;refine zf mL wx ?_;refine zf mE ty3 ?_;refine zs ty3 h fun I h=>?_;refine zm (kW rfl rfl) ?_;refine zf mL wx ?_;refine zf mE ty3 ?_;refine zsp ty3 h fun I h=>?_
 refine AW.seq ?_;refine zC func57 h fun u21 I h=>?_;refine qI 7 (!(decide (u21=0))) (qu me) h (fun fr I=> ∃(u22:Bool),qo [(4,.pointer (some ⟨u1,0,none⟩)),(6,.pointer u12),(7,.string u15),(57,.bool u22)] fr/\xP B ro u1 u12 u15 Q Y17 u22 I) ?_ ?_ ?_
 .intro h e3 hk3;refine zv e3 ?_;exact hk3 _ _ ⟨_,FL,h⟩
 .intro h e3 hk3;refine zv e3 ?_;refine Lyb rfl rfl rfl rfl e3 (kG rfl func133 rfl rfl rfl (qc.mono h ?_))
  rintro v I ⟨u23,rfl,h⟩;refine zv e3 ?_;exact hk3 _ _ ⟨_,FL,h⟩
 rintro fr I ⟨u22,hl,h⟩;unfold xP at h;refine Lfr hl ?_
 refine zj h (fun h=>?_) fun h=>?_
 .exact zrr h
 refine zw ?_;refine qi.head (fr':=[(4,.pointer (some ⟨u1,0,none⟩)),(6,.pointer u12),(5,.string u15)]) ?_ FL
 exact hY17 _ _ h
def pA(B:ZB)(ro:AH)(u0:ZO)(Q:Sl->AH->Prop)(I:AH):=
 aas B ro u0 I fun u1 u2 I=>
 Q u1 I
def ju(B:ZB)(ro:AH)(a0 u0:ZO)(u1:Sl)(Q:Sl->AH->Prop):Int->AH->(Int->AH->Prop)->Prop:=fun u2 I Y6=>
 if u2<(u1.len:Int)then
 ∃p3,u1.a=some p3/\(0:Int)<=u2/\u2<(u1.len:Int)/\
 ∃u4,qa ro I (p3.add (Int.toNat u2*1))=some (.string u4)/\
 ∃p5,a0=some p5/\
 ∃u6,qa ro I p5=some (.map u6)/\
 awp prog ro (Instr.lookup 237 (.map u6) (.string u4) false) (fun v I=>
  (∃(u7:ZO),v= .pointer u7/\
  nw ro I (.cells #[.string u4] 9) fun u8 I=>
  vy B ro u0 (⟨some ⟨u8,0,none⟩,1,1⟩:Sl) I fun I=>
  ∃p9,u7=some p9/\
  ∃u10,qa ro I (p9.add 4)=some (Sl.v u10)/\
  nw ro I (.cells #[Sl.v u10] 24) fun u11 I=>
  jR B ro u0 (⟨some ⟨u11,0,none⟩,1,1⟩:Sl) I fun I=>
  ∃p12,u7=some p12/\
  ∃p13,u7=some p13/\
  ∃p14,u7=some p14/\
  ∃u15,qa ro I p12=some (.int .i64 u15)/\
  ∃u16,qa ro I (p13.add 1)=some (.int .i64 u16)/\
  ∃u17,qa ro I (p14.add 2)=some (.int .i64 u17)/\
  nw ro I (.cells #[.int .i64 u15,.int .i64 u16,.int .i64 u17] 3) fun u18 I=>
  wZ B ro u0 (⟨some ⟨u18,0,none⟩,3,3⟩:Sl) I fun I=>
  Y6 (i64.wrap (u2+1)) I)) I
 else
 pA B ro u0 Q I
def abA(B:ZB)(ro:AH)(a0:ZO)(I:AH)(Q:Sl->AH->Prop):=
 aaY B ro I fun u0 I=>
 xU B ro a0 I fun u1 I=>
 lfpD (ju B ro a0 u0 u1 Q) (0) I
def aiw{a0 Q}(h:Sep ro I->abA B ro a0 I Q):abx B ro a0 I Q:=by
 refine zb h func78 ntmps78 fun h=>?_;unfold abA at h;refine zC func43 h fun u0 I h=>?_;refine AW.seqJ (fun fr I=>qo [(3,.pointer u0)] fr/\pA B ro u0 Q I) ?_ ?_
 .rintro fr I ⟨hl,h⟩;refine AW.weaken ?_ hl (HLe.refl _)
  unfold pA at h;refine zc func47 h ?_;rintro v I ⟨u1,u2,rfl,h⟩;exact zr h
 refine zc func84 h ?_;rintro v I ⟨u3,rfl,h⟩;refine zm (qC rfl rfl mx rfl rfl) ?_;refine zw ?_;refine qi.loop (fr':=[(0,.pointer a0),(3,.pointer u0),(11,Sl.v u3),(12,.int .i64 (u3.len:Int)),(13,.int .i64 0)]) ?_ FL
 refine h (fun u4 I=>qi _ _ _ _ _ _ [(0,.pointer a0),(3,.pointer u0),(11,Sl.v u3),(12,.int .i64 (u3.len:Int)),(13,.int .i64 u4)] I) ?_
 rintro u4 I Y6 hY6 h
 show AW _ _ _ _ _ _ _ _
 unfold ju at h;refine zw ?_;refine AW.seq ?_;refine zi h (fun h=>?_) fun h=>?_
 rotate_left
 .refine AW.exit ?_;refine zw ?_;refine qX ?_
  refine zw ?_;exact⟨FL,h⟩
 refine zw ?_;refine AW.seq ?_;refine zw ?_;obtain⟨p5,ha,h0,h1,h⟩:=h
 refine zm (wO rfl mx ty9 (ixL rfl ha) rfl h0 h1) ?_;refine zL mo h fun u6 h=>?_;refine zN h fun p7 h=>?_;refine zf nx abN ?_;refine zLp nK h fun u8 h=>?_;refine zl (yj rfl rfl rfl (qk _ h ?_))
 rintro v I ⟨u9,rfl,h⟩;refine zw ?_;refine zA (wj (vs:=[(0,.string u6)]) (cs:= #[.string u6]) rfl mx ty9 y1 rfl rfl) h fun u10 h=>?_;refine zc func45 h ?_;rintro v I ⟨rfl,h⟩;refine zN h fun p11 h=>?_;refine zf mL wg ?_;refine zL mn h fun u12 h=>?_;refine zA (wj (vs:=[(0,Sl.v u12)]) (cs:= #[Sl.v u12]) rfl nW wg y1 rfl rfl) h fun u13 h=>?_
 refine zc func46 h ?_;rintro v I ⟨rfl,h⟩;refine zw ?_;refine AW.drawn0 (fun i=>([0,0,0,0,0,3,0,0,0,0,3,0,0,0,0,3,1,2]:List Nat).getD i 2) [(5,16),(5,17),(10,16),(10,17),(15,16),(15,17)] [0,1,2,3,4,6,7,8,9,11,12,13,14,5,10,15,16,17] mixed j3 ?_
 refine zM h fun p14 h=>?_;refine zg mL wx ?_;refine zg mE ty3 ?_;refine zM h fun p15 h=>?_;refine zg mL wx ?_;refine zg mE ty3 ?_;refine zM h fun p16 h=>?_;refine zg mL wx ?_;refine zg mE ty3 ?_;refine zR mf h fun u17 h=>?_;refine zR mf h fun u18 h=>?_;refine zR mf h fun u19 h=>?_
 refine Da rfl rfl rfl rfl (wj (vs:=[(0,.int .i64 u17),(1,.int .i64 u18),(2,.int .i64 u19)]) (cs:= #[.int .i64 u17,.int .i64 u18,.int .i64 u19]) rfl mO ty3 y1 rfl rfl) fun u20 g1 g2=>?_
 replace h:=h u20 g1 g2
 refine zG func44 h ?_;rintro v I ⟨rfl,h⟩;refine wG ?_
 refine zw ?_;refine qi.head (fr':=[(0,.pointer a0),(3,.pointer u0),(11,Sl.v u3),(12,.int .i64 (u3.len:Int)),(13,.int .i64 (i64.wrap (u4+1)))]) ?_ FL
 exact hY6 _ _ h
def acP(B:ZB)(ro:AH)(a0:ZO)(a1:ZA)(I:AH)(Q:ZO->Int->AH->Prop):=
 vC B ro a1 I fun u0 I=>
 if¬(u0=0)then
 Q none u0 I
 else
 ∃p1,a0=some p1/\
 ∃u2,qa ro I p1=some (.map u2)/\
 awp prog ro (Instr.lookup 237 (.map u2) (.string a1) false) (fun v I=>
 (∃(u3:ZO),v= .pointer u3/\
  if u3=none then
  Q none 70 I
  else
  Q u3 0 I)) I
def ajG{a0 a1 Q}(h:Sep ro I->acP B ro a0 a1 I Q):pi B ro a0 a1 I Q:=by
 refine zb h func79 ntmps79 fun h=>?_;unfold acP at h;refine zw ?_;refine AW.seq ?_;refine zC func82 h fun u0 I h=>?_;refine AW.iff rfl (qu me) h (fun h=>?_) (fun h=>?_)
 .exact zrr h
 refine zN h fun p1 h=>?_;refine zf nx abN ?_;refine zLp nK h fun u2 h=>?_;refine zl (yj rfl rfl rfl (qk _ h ?_))
 rintro v I ⟨u3,rfl,h⟩;refine zw ?_;refine AW.seq ?_;refine zw ?_;refine zm (ae3 rfl Pg rfl rfl) ?_;refine zw ?_;refine AW.iff rfl zJ h (fun h=>?_) (fun h=>?_)
 .exact zrr h
 exact zrr h
def acb(B:ZB)(ro:AH)(a0:ZO)(I:AH)(Q:Sl->AH->Prop):=
 ∃p0,a0=some p0/\
 ∃u1,qa ro I p0=some (.map u1)/\
 ac3 B ro u1 I fun u2 I=>
 ac2 B ro u2 I fun u3 I=>
 Q u3 I
def ajg{a0 Q}(h:Sep ro I->acb B ro a0 I Q):xU B ro a0 I Q:=by
 refine zb h func84 ntmps84 fun h=>?_;unfold acb at h;refine zN h fun p0 h=>?_;refine zf nx abN ?_;refine zL nK h fun u1 h=>?_;refine zc func137 h ?_;rintro u2 I ⟨_,rfl,h⟩
 refine zc func136 h ?_;rintro v I ⟨u3,rfl,h⟩;exact zr h
def aaH(B:ZB)(ro:AH)(a0:ZA)(a1:Addr)(I:AH)(Q:Bool->AH->Prop):=
 ∃u0,qa ro I a1=some (.string u0)/\
 agq B ro u0 a0 I fun u1 u2 I=>
 Q (!u1) I
def ahw{a0 a1 Q}(h:Sep ro I->aaH B ro a0 a1 I Q):adX B ro a0 a1 I Q:=by
 refine zb h func85 ntmps85 fun h=>?_;unfold aaH at h;refine zL mo h fun u0 h=>?_;refine zc func86 h ?_;rintro v I ⟨u1,u2,rfl,h⟩;exact zr h
def kw(B:ZB)(ro:AH)(a0:ZO)(a2:Sl)(a3:Int)(u0:ZO)(Q:ZA->Int->AH->Prop)(u1:ZA)(I:AH):=
 ∃p2,a0=some p2/\
 ∃u3,qa ro I p2=some (.map u3)/\
 awp prog ro (Instr.lookup 237 (.map u3) (.string u1) false) (fun v I=>
 (∃(u4:ZO),v= .pointer u4/\
  if¬(u4=none)then
  Q (⟨#[]⟩:ZA) 71 I
  else
  jX I fun ψ I=>
  ∃p5,a0=some p5/\
  ∃u6,qa (join ro ψ) (fun _=>none) p5=some (.map u6)/\
  kT B (join ro ψ) a2 I fun u7 I=>
  nw (join ro ψ) I (.cells #[.int .i64 0,.int .i64 0,.int .i64 a3,.int .i64 0,Sl.v u7] 168) fun u8 I=>
  awp prog (join ro ψ) (Instr.mapUpdate 237 (.map u6) (.string u1) (.pointer (some ⟨u8,0,none⟩))) (fun _ I=>
   (qL ψ I->(fun I=>
   ∃p9,u0=some p9/\
   ∃u10,qa ro I (p9.add 1)=some (.int .i64 u10)/\
   ∃p11,u0=some p11/\
   stN (p11.add 1) (fun I=>
    ∃p12,u0=some p12/\
    ∃u13,qa ro I (p12.add 3)=some (.int .i64 u13)/\
    ∃p14,u0=some p14/\
    stN (p14.add 3) (fun I=>
    Q u1 0 I) [.int .i64 (i64.wrap (u13+1))] 0 I) [.int .i64 (i64.wrap (u10+1))] 0 I) (join ψ I))) I)) I
def abB(B:ZB)(ro:AH)(a0:ZO)(a1:ZA)(a2:Sl)(a3:Int)(a4:Bool)(I:AH)(Q:ZA->Int->AH->Prop):=
 yX B ro a1 I fun u0 u1 I=>
 if¬(u1=0)then
 Q (⟨#[]⟩:ZA) u1 I
 else
 if 256<(a2.len:Int)then
 Q (⟨#[]⟩:ZA) 75 I
 else
 if(a3<0)\/(4611686018427387903<a3)then
 Q (⟨#[]⟩:ZA) 10 I
 else
 ∃p2,a0=some p2/\
 ∃u3,qa ro I p2=some (.map u3)/\
 awp prog ro (Instr.lookup 237 (.map u3) (.string u0) false) (fun v I=>
 (∃(u4:ZO),v= .pointer u4/\
  if u4=none then
  Q (⟨#[]⟩:ZA) 70 I
  else
  ∃p5,u4=some p5/\
  ∃u6,qa ro I (p5.add 2)=some (.int .i64 u6)/\
  if¬(u6=0)then
  Q (⟨#[]⟩:ZA) 74 I
  else
  ∃p7,u4=some p7/\
  ∃u8,qa ro I (p7.add 1)=some (.int .i64 u8)/\
  if 9999999999<u8 then
  Q (⟨#[]⟩:ZA) 76 I
  else
  if a4=true then
  ∃p9,u4=some p9/\
  ∃u10,qa ro I (p9.add 1)=some (.int .i64 u10)/\
  afC B ro a1 u10 I fun u11 u12 I=>
  if¬(u12=0)then
   Q (⟨#[]⟩:ZA) u12 I
  else
  kw B ro a0 a2 a3 u4 Q u11 I
  else
  kw B ro a0 a2 a3 u4 Q a1 I)) I
def aix{a0 a1 a2 a3 a4 Q}(h:Sep ro I->abB B ro a0 a1 a2 a3 a4 I Q):jS B ro a0 a1 a2 a3 a4 I Q:=by
 refine zb h func122 ntmps122 fun h=>?_;unfold abB at h;refine zc func179 h ?_;rintro v I ⟨u0,u1,rfl,h⟩;refine zw ?_;refine AW.seq ?_;refine zw ?_;refine AW.iff rfl (qu me) h (fun h=>?_) (fun h=>?_)
 .exact zrr h
 refine zw ?_;refine zm (qC rfl rfl mn rfl rfl) ?_;refine zi h (fun h=>?_) fun h=>?_
 .exact zrr h
 refine zw ?_;refine wY 3 (decide (a3<0)) [(0,.pointer a0),(1,.string a1),(2,Sl.v a2),(3,.int .i64 a3),(4,.bool a4),(12,.string u0),(34,.bool ((decide (a3<0)) || (decide (4611686018427387903<a3))))] ?_ ?_ ?_
 .intro e2 hk2
  refine zv e2 ?_;exact hk2 _ (Fe e2)
 .intro e2 hk2
  refine zv e2 ?_;exact hk2 _ (Fe e2)
 intro fr hl
 refine Lfr hl ?_
 refine zw ?_;refine AW.iff rfl (vr me me) h (fun h=>?_) (fun h=>?_)
 .exact zrr h
 refine zN h fun p2 h=>?_;refine zf nx abN ?_;refine zLp nK h fun u3 h=>?_;refine zl (yj rfl rfl rfl (qk _ h ?_))
 rintro v I ⟨u4,rfl,h⟩;refine zw ?_;refine AW.seq ?_;refine zw ?_;refine zm (ae3 rfl Pg rfl rfl) ?_;refine zw ?_;refine AW.iff rfl zJ h (fun h=>?_) (fun h=>?_)
 .exact zrr h
 refine zN h fun p5 h=>?_;refine zf mL wx ?_;refine zf mE ty3 ?_;refine zLp mf h fun u6 h=>?_;refine AW.iff rfl (qu me) h (fun h=>?_) (fun h=>?_)
 .exact zrr h
 refine zN h fun p7 h=>?_;refine zf mL wx ?_;refine zf mE ty3 ?_;refine zL mf h fun u8 h=>?_;refine zi h (fun h=>?_) fun h=>?_
 .exact zrr h
 refine zw ?_;refine AW.seqJ (fun fr I=> ∃(u9:ZA),qo [(0,.pointer a0),(2,Sl.v a2),(3,.int .i64 a3),(14,.pointer u4),(1,.string u9)] fr/\kw B ro a0 a2 a3 u4 Q u9 I) ?_ ?_
 rotate_left
 .refine zj h (fun h=>?_) fun h=>?_
  rotate_left
  .refine zw ?_;exact⟨_,FL,h⟩
  refine zN h fun p10 h=>?_;refine zf mL wx ?_;refine zf mE ty3 ?_;refine zL mf h fun u11 h=>?_;refine zc func180 h ?_;rintro v I ⟨u12,u13,rfl,h⟩;refine zw ?_;refine AW.iff rfl (qu me) h (fun h=>?_) (fun h=>?_)
  rotate_left
  .refine zw ?_;exact⟨_,FL,h⟩
  exact zrr h
 rintro fr I ⟨u9,hl,h⟩;refine AW.weaken ?_ hl (HLe.refl _)
 unfold kw at h;refine AW.seq ?_;refine zN h fun p14 h=>?_;refine zf nx abN ?_;refine zLp nK h fun u15 h=>?_;refine zl (yj rfl rfl rfl (qk _ h ?_))
 rintro v I ⟨u16,rfl,h⟩;refine zm (aom rfl Pg rfl rfl) ?_;refine zw ?_;refine AW.iff rfl (qu zJ) h (fun h=>?_) (fun h=>?_)
 .exact zrr h
 refine zw ?_;refine AW.seq ?_;refine AW.drawnL (fun i=>([0,0,0,0,0,0,0,0,2,0,1,2]:List Nat).getD i 2) [] [0,1,2,3,4,5,6,7,8,9,10,11] mixed h j3 ?_
 clear h
 intro ψ I h
 refine zM h fun p17 h=>?_;refine zg nx abN ?_;refine zS nK h fun u18 h=>?_;refine zw ?_;refine Dp rfl rfl rfl rfl (wB (vs:=[(2,.int .i64 a3)]) (cs:= #[.int .i64 0,.int .i64 0,.int .i64 a3,.int .i64 0]) rfl mE wx ato rfl rfl) ?_
 refine zG func80 h ?_;rintro v I ⟨u19,rfl,h⟩;refine Dp rfl rfl rfl rfl (wB (vs:=[(0,.agg #[.int .i64 0,.int .i64 0,.int .i64 a3,.int .i64 0]),(1,Sl.v u19)]) (cs:= #[.int .i64 0,.int .i64 0,.int .i64 a3,.int .i64 0,Sl.v u19]) rfl mL aqS aqT rfl rfl) ?_
 refine Da rfl rfl rfl rfl (wt rfl rfl) fun u20 g1 g2=>?_
 replace h:=h u20 g1 g2
 refine Dg rfl rfl rfl rfl (agW (.inl rfl) rfl rfl rfl (qk _ h ?_))
 rintro _ I h
 refine⟨_,wW.refl _,fun hdj=>?_⟩
 replace h:=h hdj
 refine zN h fun p21 h=>?_;refine zf mL wx ?_;refine zf mE ty3 ?_;refine zL mf h fun u22 h=>?_;refine zN h fun p23 h=>?_;refine zf mL wx ?_;refine zf mE ty3 ?_;refine zs ty3 h fun I h=>?_;refine zN h fun p24 h=>?_;refine zf mL wx ?_;refine zf mE ty3 ?_;refine zL mf h fun u25 h=>?_;refine zN h fun p26 h=>?_
 refine zf mL wx ?_;refine zf mE ty3 ?_;refine zs ty3 h fun I h=>?_;exact zrr h
def kM(B:ZB)(ro:AH)(Q:Bool->AH->Prop)(u0:Bool)(I:AH):=
 Q u0 I
def xV(B:ZB)(ro:AH)(a3:ZO)(Q:Bool->AH->Prop)(u0:Bool)(I:AH):=
 if u0=true then
 ∃p1,a3=some p1/\
 ∃u2,qa ro I (p1.add 2)=some (.int .i64 u2)/\
 kM B ro Q (decide (u2=0)) I
 else
 kM B ro Q false I
def xW(B:ZB)(ro:AH)(a3:ZO)(Q:Bool->AH->Prop)(u0:Bool)(I:AH):=
 if u0=true then
 ∃p1,a3=some p1/\
 ∃u2,qa ro I p1=some (.int .i64 u2)/\
 xV B ro a3 Q (decide (u2=0)) I
 else
 xV B ro a3 Q false I
def vg(B:ZB)(ro:AH)(a0:ZO)(a1:ZA)(a3 u0:ZO)(Q:Bool->AH->Prop)(u1:Bool)(I:AH):=
 if u1=true then
 Q false I
 else
 ∃p2,u0=some p2/\
 ∃u3,qa ro I (p2.add 3)=some (.int .i64 u3)/\
 ∃p4,u0=some p4/\
 stN (p4.add 3) (fun I=>
 ∃p5,a0=some p5/\
 ∃u6,qa ro I p5=some (.map u6)/\
 awp prog ro (Instr.mapUpdate 237 (.map u6) (.string a1) (.pointer a3)) (fun _ I=>
  Q true I) I) [.int .i64 (i64.wrap (u3+1))] 0 I
def ki(B:ZB)(ro:AH)(a0:ZO)(a1 a2:ZA)(a3:ZO)(Q:Bool->AH->Prop)(u0:Bool)(I:AH):=
 if u0=true then
 Q false I
 else
 if a2=(⟨#[]⟩:ZA)then
 ∃p1,a0=some p1/\
 ∃u2,qa ro I p1=some (.map u2)/\
 awp prog ro (Instr.mapUpdate 237 (.map u2) (.string a1) (.pointer a3)) (fun _ I=>
  if a1=(⟨#[47]⟩:ZA)then
  ∃p3,a3=some p3/\
  ∃u4,qa ro I (p3.add 4)=some (Sl.v u4)/\
  xW B ro a3 Q (decide ((u4.len:Int)=0)) I
  else
  xW B ro a3 Q false I) I
 else
 yX B ro a1 I fun u5 u6 I=>
 ∃p7,a0=some p7/\
 ∃u8,qa ro I p7=some (.map u8)/\
 awp prog ro (Instr.lookup 237 (.map u8) (.string u5) false) (fun v I=>
 (∃(u9:ZO),v= .pointer u9/\
  if u9=none then
  vg B ro a0 a1 a3 u9 Q true I
  else
  ∃p10,u9=some p10/\
  ∃u11,qa ro I (p10.add 2)=some (.int .i64 u11)/\
  vg B ro a0 a1 a3 u9 Q (!(decide (u11=0))) I)) I
def xX(B:ZB)(ro:AH)(a0:ZO)(a1 a2:ZA)(a3:ZO)(u0:Bool)(Q:Bool->AH->Prop)(u1:Bool)(I:AH):=
 ki B ro a0 a1 a2 a3 Q u1 I
def xg(B:ZB)(ro:AH)(a0:ZO)(a1 a2:ZA)(a3:ZO)(Q:Bool->AH->Prop)(u0:Bool)(I:AH):=
 if u0=true then
 ki B ro a0 a1 a2 a3 Q true I
 else
 ∃p1,a3=some p1/\
 ∃u2,qa ro I (p1.add 2)=some (.int .i64 u2)/\
 if¬(u2=0)then
 ∃p3,a3=some p3/\
 ∃u4,qa ro I (p3.add 1)=some (.int .i64 u4)/\
 xX B ro a0 a1 a2 a3 u0 Q (decide (0<u4)) I
 else
 xX B ro a0 a1 a2 a3 u0 Q false I
def xh(B:ZB)(ro:AH)(a0:ZO)(a1 a2:ZA)(a3:ZO)(Q:Bool->AH->Prop)(u0:Bool)(I:AH):=
 if u0=true then
 xg B ro a0 a1 a2 a3 Q true I
 else
 ∃p1,a3=some p1/\
 ∃u2,qa ro I (p1.add 1)=some (.int .i64 u2)/\
 xg B ro a0 a1 a2 a3 Q (decide (10000000000<u2)) I
def adD(B:ZB)(ro:AH)(a0:ZO)(a1 a2:ZA)(a3:ZO)(I:AH)(Q:Bool->AH->Prop):=
 vC B ro a1 I fun u0 I=>
 if(¬(u0=0))\/(((agV a1 a2)=true)\/(a1=a2))then
 xh B ro a0 a1 a2 a3 Q true I
 else
 ∃p1,a3=some p1/\
 ∃u2,qa ro I (p1.add 4)=some (Sl.v u2)/\
 xh B ro a0 a1 a2 a3 Q (decide (256<(u2.len:Int))) I
def akA{a0 a1 a2 a3 Q}(h:Sep ro I->adD B ro a0 a1 a2 a3 I Q):adx B ro a0 a1 a2 a3 I Q:=by
 refine zb h func133 ntmps133 fun h=>?_;unfold adD at h;refine zw ?_;refine AW.seq ?_;refine zC func82 h fun u0 I h=>?_;refine wY 4 (!(decide (u0=0))) [(0,.pointer a0),(1,.string a1),(2,.string a2),(3,.pointer a3),(20,.bool ((!(decide (u0=0))) || ((agV a1 a2) || (decide (a1=a2)))))] ?_ ?_ ?_
 .intro e3 hk3
  refine zv e3 ?_;exact hk3 _ (Fe e3)
 .intro e3 hk3
  refine zv e3 ?_;refine qO (avY rfl rfl rfl) rfl rfl rfl rfl e3 ?_
  refine zk e3 ?_;exact hk3 _ (Fe e3)
 intro fr hl
 refine Lfr hl ?_
 refine zw ?_;refine qI 7 ((!(decide (u0=0))) || ((agV a1 a2) || (decide (a1=a2)))) (vr (qu me) (vr Iff.rfl me)) h (fun fr I=> ∃(u1:Bool),qo [(0,.pointer a0),(1,.string a1),(2,.string a2),(3,.pointer a3),(28,.bool u1)] fr/\xh B ro a0 a1 a2 a3 Q u1 I) ?_ ?_ ?_
 .intro h e8 hk8;refine zv e8 ?_;exact hk8 _ _ ⟨_,FL,h⟩
 .intro h e8 hk8;refine zy e8 ?_;obtain⟨p2,hc,h⟩:=h
  refine qO (kW rfl (by rw[<-hc];try rfl)) rfl rfl rfl rfl e8 ?_
  refine qO (qW rfl mL rfl wg y1 rfl) rfl rfl rfl rfl e8 ?_
  obtain⟨u3,hc,h⟩:=h
  refine Lyb rfl rfl rfl rfl e8 (vc rfl mn rfl rfl hc ?_)
  refine qO (qC rfl rfl mn rfl rfl) rfl rfl rfl rfl e8 ?_
  refine zv e8 ?_;exact hk8 _ _ ⟨_,FL,h⟩
 rintro fr I ⟨u1,hl,h⟩;unfold xh at h;refine Lfr hl ?_
 refine zw ?_;refine qI 7 u1 Iff.rfl h (fun fr I=> ∃(u4:Bool),qo [(0,.pointer a0),(1,.string a1),(2,.string a2),(3,.pointer a3),(36,.bool u4)] fr/\xg B ro a0 a1 a2 a3 Q u4 I) ?_ ?_ ?_
 .intro h e16 hk16;refine zv e16 ?_;exact hk16 _ _ ⟨_,FL,h⟩
 .intro h e16 hk16;refine zy e16 ?_;obtain⟨p5,hc,h⟩:=h
  refine qO (kW rfl (by rw[<-hc];try rfl)) rfl rfl rfl rfl e16 ?_
  refine qO (qW rfl mL rfl wx y1 rfl) rfl rfl rfl rfl e16 ?_
  refine qO (qW rfl mE rfl ty3 y1 rfl) rfl rfl rfl rfl e16 ?_
  obtain⟨u6,hc,h⟩:=h
  refine Lyb rfl rfl rfl rfl e16 (vc rfl mf rfl rfl hc ?_)
  refine zv e16 ?_;exact hk16 _ _ ⟨_,FL,h⟩
 rintro fr I ⟨u4,hl,h⟩;unfold xg at h;refine Lfr hl ?_
 refine zw ?_;refine qI 15 u4 Iff.rfl h (fun fr I=> ∃(u7:Bool),qo [(0,.pointer a0),(1,.string a1),(2,.string a2),(3,.pointer a3),(52,.bool u7)] fr/\ki B ro a0 a1 a2 a3 Q u7 I) ?_ ?_ ?_
 .intro h e24 hk24;refine zv e24 ?_;refine Ln rfl rfl rfl rfl (.inr rfl) ?_
  refine Ln rfl rfl rfl rfl (.inr rfl) ?_
  refine Ln rfl rfl rfl rfl (.inr rfl) ?_
  refine Ln rfl rfl rfl rfl (.inr rfl) ?_
  refine Ln rfl rfl rfl rfl (.inr rfl) ?_
  refine Ln rfl rfl rfl rfl (.inr rfl) ?_
  refine zv e24 ?_;exact hk24 _ _ ⟨_,FL,h⟩
 .intro h e24 hk24;refine zy e24 ?_;obtain⟨p8,hc,h⟩:=h
  refine qO (kW rfl (by rw[<-hc];try rfl)) rfl rfl rfl rfl e24 ?_
  refine qO (qW rfl mL rfl wx y1 rfl) rfl rfl rfl rfl e24 ?_
  refine qO (qW rfl mE rfl ty3 y1 rfl) rfl rfl rfl rfl e24 ?_
  obtain⟨u9,hc,h⟩:=h
  refine Lyb rfl rfl rfl rfl e24 (vc rfl mf rfl rfl hc ?_)
  refine zv e24 ?_;refine qI 7 (!(decide (u9=0))) (qu me) h (fun fr I=> ∃(u10:Bool),qo [(0,.pointer a0),(1,.string a1),(2,.string a2),(3,.pointer a3),(37,.bool u4),(51,.bool u10)] fr/\xX B ro a0 a1 a2 a3 u4 Q u10 I) ?_ ?_ ?_
  .intro h e31 hk31;refine zy e31 ?_;obtain⟨p11,hc,h⟩:=h
   refine qO (kW rfl (by rw[<-hc];try rfl)) rfl rfl rfl rfl e31 ?_
   refine qO (qW rfl mL rfl wx y1 rfl) rfl rfl rfl rfl e31 ?_
   refine qO (qW rfl mE rfl ty3 y1 rfl) rfl rfl rfl rfl e31 ?_
   obtain⟨u12,hc,h⟩:=h
   refine Lyb rfl rfl rfl rfl e31 (vc rfl mf rfl rfl hc ?_)
   refine zy e31 ?_;refine qO (pN rfl (evb e31) rfl) rfl rfl rfl rfl e24 ?_
   exact hk31 _ _ ⟨_,FL,h⟩
  .intro h e31 hk31;refine zv e31 ?_;refine qO (ux rfl (evb e31) rfl) rfl rfl rfl rfl e24 ?_
   exact hk31 _ _ ⟨_,FL,h⟩
  rintro fr I ⟨u10,hl,h⟩;unfold xX at h;refine Lfr hl ?_
  refine zk e24 ?_;exact hk24 _ _ ⟨_,FL,h⟩
 rintro fr I ⟨u7,hl,h⟩;unfold ki at h;refine Lfr hl ?_
 refine zj h (fun h=>?_) fun h=>?_
 .exact zr h
 refine zi h (fun h=>?_) fun h=>?_
 rotate_left
 .refine zc func179 h ?_;rintro v I ⟨u13,u14,rfl,h⟩;refine zN h fun p15 h=>?_;refine zf nx abN ?_;refine zLp nK h fun u16 h=>?_;refine zl (yj rfl rfl rfl (qk _ h ?_))
  rintro v I ⟨u17,rfl,h⟩;refine zw ?_;refine AW.seq ?_;refine zw ?_;refine zm (ae3 rfl Pg rfl rfl) ?_;refine zw ?_;refine qI 7 u17.isNone zJ h (fun fr I=> ∃(u18:Bool),qo [(0,.pointer a0),(1,.string a1),(3,.pointer a3),(11,.pointer u17),(108,.bool u18)] fr/\vg B ro a0 a1 a3 u17 Q u18 I) ?_ ?_ ?_
  .intro h e2 hk2;refine zv e2 ?_;exact hk2 _ _ ⟨_,FL,h⟩
  .intro h e2 hk2;refine zy e2 ?_;obtain⟨p19,hc,h⟩:=h
   refine qO (kW rfl (by rw[<-hc];try rfl)) rfl rfl rfl rfl e2 ?_
   refine qO (qW rfl mL rfl wx y1 rfl) rfl rfl rfl rfl e2 ?_
   refine qO (qW rfl mE rfl ty3 y1 rfl) rfl rfl rfl rfl e2 ?_
   obtain⟨u20,hc,h⟩:=h
   refine Lyb rfl rfl rfl rfl e2 (vc rfl mf rfl rfl hc ?_)
   refine zv e2 ?_;exact hk2 _ _ ⟨_,FL,h⟩
  rintro fr I ⟨u18,hl,h⟩;unfold vg at h;refine Lfr hl ?_
  refine zj h (fun h=>?_) fun h=>?_
  .exact zr h
  refine zN h fun p21 h=>?_;refine zf mL wx ?_;refine zf mE ty3 ?_;refine zL mf h fun u22 h=>?_;refine zN h fun p23 h=>?_;refine zf mL wx ?_;refine zf mE ty3 ?_;refine zs ty3 h fun I h=>?_;refine zN h fun p24 h=>?_;refine zf nx abN ?_;refine zLp nK h fun u25 h=>?_;refine zl (agW (.inl rfl) rfl rfl rfl (qk _ h ?_))
  rintro _ I h
  exact zr h
 refine zN h fun p26 h=>?_;refine zf nx abN ?_;refine zLp nK h fun u27 h=>?_;refine zl (agW (.inl rfl) rfl rfl rfl (qk _ h ?_))
 rintro _ I h
 refine zw ?_;refine qI 7 (decide (a1=(⟨#[47]⟩:ZA))) me h (fun fr I=> ∃(u28:Bool),qo [(3,.pointer a3),(71,.bool u28)] fr/\xW B ro a3 Q u28 I) ?_ ?_ ?_
 .intro h e2 hk2;refine zy e2 ?_;obtain⟨p29,hc,h⟩:=h
  refine qO (kW rfl (by rw[<-hc];try rfl)) rfl rfl rfl rfl e2 ?_
  refine qO (qW rfl mL rfl wg y1 rfl) rfl rfl rfl rfl e2 ?_
  obtain⟨u30,hc,h⟩:=h
  refine Lyb rfl rfl rfl rfl e2 (vc rfl mn rfl rfl hc ?_)
  refine qO (qC rfl rfl mn rfl rfl) rfl rfl rfl rfl e2 ?_
  refine zv e2 ?_;exact hk2 _ _ ⟨_,FL,h⟩
 .intro h e2 hk2;refine zv e2 ?_;exact hk2 _ _ ⟨_,FL,h⟩
 rintro fr I ⟨u28,hl,h⟩;unfold xW at h;refine Lfr hl ?_
 refine zw ?_;refine qI 7 u28 Iff.rfl h (fun fr I=> ∃(u31:Bool),qo [(3,.pointer a3),(79,.bool u31)] fr/\xV B ro a3 Q u31 I) ?_ ?_ ?_
 .intro h e10 hk10;refine zy e10 ?_;obtain⟨p32,hc,h⟩:=h
  refine qO (kW rfl (by rw[<-hc];try rfl)) rfl rfl rfl rfl e10 ?_
  refine qO (qW rfl mL rfl wx y1 rfl) rfl rfl rfl rfl e10 ?_
  refine qO (qW rfl mE rfl ty3 y1 rfl) rfl rfl rfl rfl e10 ?_
  obtain⟨u33,hc,h⟩:=h
  refine Lyb rfl rfl rfl rfl e10 (vc rfl mf rfl rfl hc ?_)
  refine zv e10 ?_;exact hk10 _ _ ⟨_,FL,h⟩
 .intro h e10 hk10;refine zv e10 ?_;exact hk10 _ _ ⟨_,FL,h⟩
 rintro fr I ⟨u31,hl,h⟩;unfold xV at h;refine Lfr hl ?_
 refine zw ?_;refine qI 7 u31 Iff.rfl h (fun fr I=> ∃(u34:Bool),qo [(87,.bool u34)] fr/\kM B ro Q u34 I) ?_ ?_ ?_
 .intro h e18 hk18;refine zy e18 ?_;obtain⟨p35,hc,h⟩:=h
  refine qO (kW rfl (by rw[<-hc];try rfl)) rfl rfl rfl rfl e18 ?_
  refine qO (qW rfl mL rfl wx y1 rfl) rfl rfl rfl rfl e18 ?_
  refine qO (qW rfl mE rfl ty3 y1 rfl) rfl rfl rfl rfl e18 ?_
  obtain⟨u36,hc,h⟩:=h
  refine Lyb rfl rfl rfl rfl e18 (vc rfl mf rfl rfl hc ?_)
  refine zv e18 ?_;exact hk18 _ _ ⟨_,FL,h⟩
 .intro h e18 hk18;refine zv e18 ?_;exact hk18 _ _ ⟨_,FL,h⟩
 rintro fr I ⟨u34,hl,h⟩;unfold kM at h;refine Lfr hl ?_
 exact zr h
def um(B:ZB)(ro:AH)(Q:Sl->AH->Prop)(u0:Sl)(I:AH):=
 Q u0 I
def xw(B:ZB)(ro:AH)(a0:ZO)(a1 u0:Sl)(u1:Int)(Q:Sl->AH->Prop)(Y4:(Sl×Int)->AH->Prop)(u2:Sl)(I:AH):=
 Y4 (u2,i64.wrap (u1+1)) I
def kX(B:ZB)(ro:AH)(a0:ZO)(a1 u0 u1:Sl)(u2:Int)(u3:ZA)(Q:Sl->AH->Prop)(Y4:(Sl×Int)->AH->Prop)(u4:Bool)(I:AH):=
 if u4=true then
 nw ro I (.cells #[.string u3] 9) fun u5 I=>
 awp prog ro (Builtin.append_ #[27,27] 27 #[Sl.v u0,Sl.v (⟨some ⟨u5,0,none⟩,1,1⟩:Sl)]) (fun v I=> ∃(u6:Sl),v=Sl.v u6/\
  xw B ro a0 a1 u1 u2 Q Y4 u6 I) I
 else
 xw B ro a0 a1 u1 u2 Q Y4 u0 I
def xx(B:ZB)(ro:AH)(a0:ZO)(a1 u0:Sl)(Q:Sl->AH->Prop):(Sl×Int)->AH->((Sl×Int)->AH->Prop)->Prop:=fun⟨u1,u2⟩ I Y4=>
 if u2<(u0.len:Int)then
 ∃p3,u0.a=some p3/\(0:Int)<=u2/\u2<(u0.len:Int)/\
 ∃u4,qa ro I (p3.add (Int.toNat u2*1))=some (.string u4)/\
 ∃p5,a0=some p5/\
 ∃u6,qa ro I p5=some (.map u6)/\
 awp prog ro (Instr.lookup 237 (.map u6) (.string u4) false) (fun v I=>
  (∃(u7:ZO),v= .pointer u7/\
  ∃p8,u7=some p8/\
  ∃u9,qa ro I (p8.add 2)=some (.int .i64 u9)/\
  if¬(u9=0)then
   px B ro a1 u9 I fun u10 I=>
   kX B ro a0 a1 u1 u0 u2 u4 Q Y4 u10 I
  else
  kX B ro a0 a1 u1 u0 u2 u4 Q Y4 false I)) I
 else
 um B ro Q u1 I
def acd(B:ZB)(ro:AH)(a0:ZO)(a1:Sl)(I:AH)(Q:Sl->AH->Prop):=
 xU B ro a0 I fun u0 I=>
 lfpD (xx B ro a0 a1 u0 Q) ((⟨none,0,0⟩:Sl),0) I
def ajh{a0 a1 Q}(h:Sep ro I->acd B ro a0 a1 I Q):ab6 B ro a0 a1 I Q:=by
 refine zb h func183 ntmps183 fun h=>?_;unfold acd at h;refine zw ?_;refine AW.seqJ (fun fr I=> ∃(u0:Sl),qo [(5,Sl.v u0)] fr/\um B ro Q u0 I) ?_ ?_
 .rintro fr I ⟨u0,hl,h⟩;refine AW.weaken ?_ hl (HLe.refl _)
  unfold um at h;exact zr h
 refine zc func84 h ?_;rintro v I ⟨u1,rfl,h⟩;refine zm (qC rfl rfl mx rfl rfl) ?_;refine zw ?_;refine qi.loop (fr':=[(0,.pointer a0),(1,Sl.v a1),(10,Sl.v u1),(11,.int .i64 (u1.len:Int)),(5,Sl.v (⟨none,0,0⟩:Sl)),(12,.int .i64 0)]) ?_ FL
 refine h (fun⟨u2,u3⟩ I=>qi _ _ _ _ _ _ [(0,.pointer a0),(1,Sl.v a1),(10,Sl.v u1),(11,.int .i64 (u1.len:Int)),(5,Sl.v u2),(12,.int .i64 u3)] I) ?_
 rintro⟨u2,u3⟩ I Y4 hY4 h
 show AW _ _ _ _ _ _ _ _
 unfold xx at h;dsimp only at h;refine zw ?_;refine AW.seq ?_;refine zi h (fun h=>?_) fun h=>?_
 rotate_left
 .refine AW.exit ?_;refine zw ?_;refine qX ?_
  refine zw ?_;exact⟨_,FL,h⟩
 refine zw ?_;refine AW.seqJ (fun fr I=> ∃(u4:Sl),qo [(0,.pointer a0),(1,Sl.v a1),(10,Sl.v u1),(11,.int .i64 (u1.len:Int)),(12,.int .i64 u3),(5,Sl.v u4)] fr/\xw B ro a0 a1 u1 u3 Q Y4 u4 I) ?_ ?_
 .rintro fr I ⟨u4,hl,h⟩;refine AW.weaken ?_ hl (HLe.refl _)
  unfold xw at h;refine zw ?_;refine qi.head (fr':=[(0,.pointer a0),(1,Sl.v a1),(10,Sl.v u1),(11,.int .i64 (u1.len:Int)),(5,Sl.v u4),(12,.int .i64 (i64.wrap (u3+1)))]) ?_ FL
  exact hY4 _ _ h
 refine zw ?_;obtain⟨p5,ha,h0,h1,h⟩:=h
 refine zm (wO rfl mx ty9 (ixL rfl ha) rfl h0 h1) ?_;refine zL mo h fun u6 h=>?_;refine zN h fun p7 h=>?_;refine zf nx abN ?_;refine zLp nK h fun u8 h=>?_;refine zl (yj rfl rfl rfl (qk _ h ?_))
 rintro v I ⟨u9,rfl,h⟩;refine zN h fun p10 h=>?_;refine zf mL wx ?_;refine zf mE ty3 ?_;refine zLp mf h fun u11 h=>?_;refine qI 4 (!(decide (u11=0))) (qu me) h (fun fr I=> ∃(u12:Bool),qo [(0,.pointer a0),(1,Sl.v a1),(5,Sl.v u2),(7,.string u6),(10,Sl.v u1),(11,.int .i64 (u1.len:Int)),(12,.int .i64 u3),(32,.bool u12)] fr/\kX B ro a0 a1 u2 u1 u3 u6 Q Y4 u12 I) ?_ ?_ ?_
 .intro h e2 hk2;refine zv e2 ?_;refine Lyb rfl rfl rfl rfl e2 (kG rfl func205 rfl rfl rfl (qc.mono h ?_))
  rintro v I ⟨u13,rfl,h⟩;refine zk e2 ?_;exact hk2 _ _ ⟨_,FL,h⟩
 .intro h e2 hk2;refine zv e2 ?_;exact hk2 _ _ ⟨_,FL,h⟩
 rintro fr I ⟨u12,hl,h⟩;unfold kX at h;refine Lfr hl ?_
 refine zj h (fun h=>?_) fun h=>?_
 rotate_left
 .refine zw ?_;exact⟨_,FL,h⟩
 refine zw ?_;refine zA (wj (vs:=[(0,.string u6)]) (cs:= #[.string u6]) rfl mx ty9 y1 rfl rfl) h fun u14 h=>?_;refine zl (vZ (s:=Builtin.append_ #[27,27] 27 #[Sl.v u2,Sl.v (⟨some ⟨u14,0,none⟩,1,1⟩:Sl)]) rfl rfl (fun _=>rfl) (qk _ h ?_))
 rintro v I ⟨u15,rfl,h⟩;refine zw ?_;exact⟨_,FL,h⟩
def abC(B:ZB)(ro:AH)(a0:ZO)(a1:ZA)(a2:Int)(I:AH)(Q:Int->AH->Prop):=
 uJ B ro a0 a1 a2 I fun u0 u1 I=>
 if¬(u1=0)then
 Q u1 I
 else
 ∃p2,u0=some p2/\
 ∃u3,qa ro I (p2.add 3)=some (.int .i64 u3)/\
 if 0<u3 then
 Q 73 I
 else
 yX B ro a1 I fun u4 u5 I=>
 ∃p6,a0=some p6/\
 ∃u7,qa ro I p6=some (.map u7)/\
 awp prog ro (Instr.lookup 237 (.map u7) (.string u4) false) (fun v I=>
 (∃(u8:ZO),v= .pointer u8/\
  ∃p9,u8=some p9/\
  ∃u10,qa ro I (p9.add 3)=some (.int .i64 u10)/\
  ∃p11,u8=some p11/\
  stN (p11.add 3) (fun I=>
  ∃p12,a0=some p12/\
  ∃u13,qa ro I p12=some (.map u13)/\
  awp prog ro (Builtin.delete_ #[237,9] 0 #[.map u13,.string a1]) (fun v I=>v= .tuple #[]/\
   Q 0 I) I) [.int .i64 (i64.wrap (u10 - 1))] 0 I)) I
def aiy{a0 a1 a2 Q}(h:Sep ro I->abC B ro a0 a1 a2 I Q):jT B ro a0 a1 a2 I Q:=by
 refine zb h func184 ntmps184 fun h=>?_;unfold abC at h;refine zc func231 h ?_;rintro v I ⟨u0,u1,rfl,h⟩;refine zw ?_;refine AW.seq ?_;refine zw ?_;refine AW.iff rfl (qu me) h (fun h=>?_) (fun h=>?_)
 .exact zr h
 refine zN h fun p2 h=>?_;refine zf mL wx ?_;refine zf mE ty3 ?_;refine zL mf h fun u3 h=>?_;refine zi h (fun h=>?_) fun h=>?_
 .exact zr h
 refine zc func179 h ?_;rintro v I ⟨u4,u5,rfl,h⟩;refine zN h fun p6 h=>?_;refine zf nx abN ?_;refine zLp nK h fun u7 h=>?_;refine zl (yj rfl rfl rfl (qk _ h ?_))
 rintro v I ⟨u8,rfl,h⟩;refine zN h fun p9 h=>?_;refine zf mL wx ?_;refine zf mE ty3 ?_;refine zL mf h fun u10 h=>?_;refine zN h fun p11 h=>?_;refine zf mL wx ?_;refine zf mE ty3 ?_;refine zs ty3 h fun I h=>?_;refine zN h fun p12 h=>?_;refine zf nx abN ?_;refine zLp nK h fun u13 h=>?_;refine zl (vZ (s:=Builtin.delete_ #[237,9] 0 #[.map u13,.string a1]) rfl rfl (fun _=>rfl) (qk _ h ?_))
 rintro v I ⟨rfl,h⟩;exact zr h
def vz(B:ZB)(ro:AH)(u0:ZO)(u1:Int)(Q:ZO->Int->AH->Prop)(u2:Bool)(I:AH):=
 if u2=true then
 Q none 72 I
 else
 Q u0 u1 I
def ace(B:ZB)(ro:AH)(a0:ZO)(a1:ZA)(a2:Int)(I:AH)(Q:ZO->Int->AH->Prop):=
 if a1=(⟨#[47]⟩:ZA)then
 Q none 20 I
 else
 pi B ro a0 a1 I fun u0 u1 I=>
 if(u1=0)/\(¬(a2=(-1)))then
 ∃p2,u0=some p2/\
 ∃u3,qa ro I p2=some (.int .i64 u3)/\
 vz B ro u0 u1 Q (!(decide (a2=u3))) I
 else
 vz B ro u0 u1 Q false I
def aji{a0 a1 a2 Q}(h:Sep ro I->ace B ro a0 a1 a2 I Q):uJ B ro a0 a1 a2 I Q:=by
 refine zb h func231 ntmps231 fun h=>?_;unfold ace at h;refine zw ?_;refine AW.seq ?_;refine zi h (fun h=>?_) fun h=>?_
 .exact zrr h
 refine zc func79 h ?_;rintro v I ⟨u0,u1,rfl,h⟩;refine zw ?_;refine AW.seq ?_;refine zw ?_;refine wY 3 (decide (u1=0)) [(2,.int .i64 a2),(8,.pointer u0),(9,.int .i64 u1),(23,.bool ((decide (u1=0)) && (!(decide (a2=(-1))))))] ?_ ?_ ?_
 .intro e2 hk2
  refine zv e2 ?_;exact hk2 _ (Fe e2)
 .intro e2 hk2
  refine zv e2 ?_;exact hk2 _ (Fe e2)
 intro fr hl
 refine Lfr hl ?_
 refine zw ?_;refine qI 8 ((decide (u1=0)) && (!(decide (a2=(-1))))) (ab2 me (qu me)) h (fun fr I=> ∃(u2:Bool),qo [(8,.pointer u0),(9,.int .i64 u1),(32,.bool u2)] fr/\vz B ro u0 u1 Q u2 I) ?_ ?_ ?_
 .intro h e6 hk6;refine zv e6 ?_;obtain⟨p3,hc,h⟩:=h
  refine qO (kW rfl (by rw[<-hc];try rfl)) rfl rfl rfl rfl e6 ?_
  refine qO (qW rfl mL rfl wx y1 rfl) rfl rfl rfl rfl e6 ?_
  refine qO (qW rfl mE rfl ty3 y1 rfl) rfl rfl rfl rfl e6 ?_
  obtain⟨u4,hc,h⟩:=h
  refine Lyb rfl rfl rfl rfl e6 (vc rfl mf rfl rfl hc ?_)
  refine zv e6 ?_;exact hk6 _ _ ⟨_,FL,h⟩
 .intro h e6 hk6;refine zv e6 ?_;exact hk6 _ _ ⟨_,FL,h⟩
 rintro fr I ⟨u2,hl,h⟩;unfold vz at h;refine Lfr hl ?_
 refine zj h (fun h=>?_) fun h=>?_
 .exact zrr h
 exact zrr h
def ym(B:ZB)(ro:AH)(Q:Sl->Int->AH->Prop)(u0:Sl)(I:AH):=
 Q u0 0 I
def vo(B:ZB)(ro:AH)(a1:ZA)(u0:Sl)(u1:Int)(Q:Sl->Int->AH->Prop)(Y6:(Sl×Int)->AH->Prop)(u2:Sl)(I:AH):=
 Y6 (u2,i64.wrap (u1+1)) I
def kh(B:ZB)(ro:AH)(a1:ZA)(u0:Sl)(Q:Sl->Int->AH->Prop):(Sl×Int)->AH->((Sl×Int)->AH->Prop)->Prop:=fun⟨u1,u2⟩ I Y6=>
 if u2<(u0.len:Int)then
 ∃p3,u0.a=some p3/\(0:Int)<=u2/\u2<(u0.len:Int)/\
 ∃u4,qa ro I (p3.add (Int.toNat u2*1))=some (.string u4)/\
 yX B ro u4 I fun u5 u6 I=>
 if(u6=0)/\(u5=a1)then
  ahq B ro u4 I fun u7 u8 I=>
  nw ro I (.cells #[.string u7] 9) fun u9 I=>
  awp prog ro (Builtin.append_ #[27,27] 27 #[Sl.v u1,Sl.v (⟨some ⟨u9,0,none⟩,1,1⟩:Sl)]) (fun v I=> ∃(u10:Sl),v=Sl.v u10/\
  vo B ro a1 u0 u2 Q Y6 u10 I) I
 else
 vo B ro a1 u0 u2 Q Y6 u1 I
 else
 ym B ro Q u1 I
def aaI(B:ZB)(ro:AH)(a0:ZO)(a1:ZA)(I:AH)(Q:Sl->Int->AH->Prop):=
 pi B ro a0 a1 I fun u0 u1 I=>
 if¬(u1=0)then
 Q (⟨none,0,0⟩:Sl) u1 I
 else
 xU B ro a0 I fun u2 I=>
 lfpD (kh B ro a1 u2 Q) ((⟨none,0,0⟩:Sl),0) I
def ahx{a0 a1 Q}(h:Sep ro I->aaI B ro a0 a1 I Q):aaF B ro a0 a1 I Q:=by
 refine zb h func237 ntmps237 fun h=>?_;unfold aaI at h;refine zw ?_;refine AW.seq ?_;refine zc func79 h ?_;rintro v I ⟨u0,u1,rfl,h⟩;refine zw ?_;refine AW.iff rfl (qu me) h (fun h=>?_) (fun h=>?_)
 .exact zrr h
 refine zw ?_;refine AW.seqJ (fun fr I=> ∃(u2:Sl),qo [(8,Sl.v u2)] fr/\ym B ro Q u2 I) ?_ ?_
 .rintro fr I ⟨u2,hl,h⟩;refine AW.weaken ?_ hl (HLe.refl _)
  unfold ym at h;exact zrr h
 refine zc func84 h ?_;rintro v I ⟨u3,rfl,h⟩;refine zm (qC rfl rfl mx rfl rfl) ?_;refine zw ?_;refine qi.loop (fr':=[(1,.string a1),(25,Sl.v u3),(26,.int .i64 (u3.len:Int)),(8,Sl.v (⟨none,0,0⟩:Sl)),(27,.int .i64 0)]) ?_ FL
 refine h (fun⟨u4,u5⟩ I=>qi _ _ _ _ _ _ [(1,.string a1),(25,Sl.v u3),(26,.int .i64 (u3.len:Int)),(8,Sl.v u4),(27,.int .i64 u5)] I) ?_
 rintro⟨u4,u5⟩ I Y6 hY6 h
 show AW _ _ _ _ _ _ _ _
 unfold kh at h;dsimp only at h;refine zw ?_;refine AW.seq ?_;refine zi h (fun h=>?_) fun h=>?_
 rotate_left
 .refine AW.exit ?_;refine zw ?_;refine qX ?_
  refine zw ?_;exact⟨_,FL,h⟩
 refine zw ?_;refine AW.seqJ (fun fr I=> ∃(u6:Sl),qo [(1,.string a1),(25,Sl.v u3),(26,.int .i64 (u3.len:Int)),(27,.int .i64 u5),(8,Sl.v u6)] fr/\vo B ro a1 u3 u5 Q Y6 u6 I) ?_ ?_
 .rintro fr I ⟨u6,hl,h⟩;refine AW.weaken ?_ hl (HLe.refl _)
  unfold vo at h;refine zw ?_;refine qi.head (fr':=[(1,.string a1),(25,Sl.v u3),(26,.int .i64 (u3.len:Int)),(8,Sl.v u6),(27,.int .i64 (i64.wrap (u5+1)))]) ?_ FL
  exact hY6 _ _ h
 refine zw ?_;obtain⟨p7,ha,h0,h1,h⟩:=h
 refine zm (wO rfl mx ty9 (ixL rfl ha) rfl h0 h1) ?_;refine zL mo h fun u8 h=>?_;refine zc func179 h ?_;rintro v I ⟨u9,u10,rfl,h⟩;refine zw ?_;refine wY 4 (decide (u10=0)) [(1,.string a1),(8,Sl.v u4),(10,.string u8),(25,Sl.v u3),(26,.int .i64 (u3.len:Int)),(27,.int .i64 u5),(42,.bool ((decide (u10=0)) && (decide (u9=a1))))] ?_ ?_ ?_
 .intro e2 hk2
  refine zv e2 ?_;exact hk2 _ (Fe e2)
 .intro e2 hk2
  refine zv e2 ?_;exact hk2 _ (Fe e2)
 intro fr hl
 refine Lfr hl ?_
 refine zw ?_;refine AW.iff rfl (ab2 me me) h (fun h=>?_) (fun h=>?_)
 rotate_left
 .refine zw ?_;exact⟨_,FL,h⟩
 refine zc func274 h ?_;rintro v I ⟨u11,u12,rfl,h⟩;refine zw ?_;refine zA (wj (vs:=[(0,.string u11)]) (cs:= #[.string u11]) rfl mx ty9 y1 rfl rfl) h fun u13 h=>?_;refine zl (vZ (s:=Builtin.append_ #[27,27] 27 #[Sl.v u4,Sl.v (⟨some ⟨u13,0,none⟩,1,1⟩:Sl)]) rfl rfl (fun _=>rfl) (qk _ h ?_))
 rintro v I ⟨u14,rfl,h⟩;refine zw ?_;exact⟨_,FL,h⟩
def jA(B:ZB)(ro:AH)(a0:ZO)(a1:ZA)(a2:Sl)(a3:Int)(Q:Int->Int->AH->Prop)(u0:Bool)(I:AH):=
 if u0=true then
 Q 0 20 I
 else
 if 256<(a2.len:Int)then
 Q 0 75 I
 else
 uJ B ro a0 a1 a3 I fun u1 u2 I=>
 if¬(u2=0)then
 Q 0 u2 I
 else
 kT B ro a2 I fun u3 I=>
 ∃p4,u1=some p4/\
 stN (p4.add 4) (fun I=>
 ∃p5,u1=some p5/\
 ∃u6,qa ro I p5=some (.int .i64 u6)/\
 ∃p7,u1=some p7/\
 stN p7 (fun I=>
  ∃p8,u1=some p8/\
  ∃u9,qa ro I p8=some (.int .i64 u9)/\
  Q u9 0 I) [.int .i64 (i64.wrap (u6+1))] 0 I) [Sl.v u3] 0 I
def adE(B:ZB)(ro:AH)(a0:ZO)(a1:ZA)(a2:Sl)(a3:Int)(I:AH)(Q:Int->Int->AH->Prop):=
 if a1=(⟨#[47]⟩:ZA)then
 jA B ro a0 a1 a2 a3 Q true I
 else
 vC B ro a1 I fun u0 I=>
 jA B ro a0 a1 a2 a3 Q (!(decide (u0=0))) I
def akB{a0 a1 a2 a3 Q}(h:Sep ro I->adE B ro a0 a1 a2 a3 I Q):ady B ro a0 a1 a2 a3 I Q:=by
 refine zb h func273 ntmps273 fun h=>?_;unfold adE at h;refine zw ?_;refine AW.seq ?_;refine zw ?_;refine qI 4 (decide (a1=(⟨#[47]⟩:ZA))) me h (fun fr I=> ∃(u0:Bool),qo [(0,.pointer a0),(1,.string a1),(2,Sl.v a2),(3,.int .i64 a3),(18,.bool u0)] fr/\jA B ro a0 a1 a2 a3 Q u0 I) ?_ ?_ ?_
 .intro h e2 hk2;refine zv e2 ?_;exact hk2 _ _ ⟨_,FL,h⟩
 .intro h e2 hk2;refine zy e2 ?_;refine Lyb rfl rfl rfl rfl e2 (kG rfl func82 rfl rfl rfl (qc.mono h ?_))
  rintro v I ⟨u1,rfl,h⟩;refine zv e2 ?_;exact hk2 _ _ ⟨_,FL,h⟩
 rintro fr I ⟨u0,hl,h⟩;unfold jA at h;refine Lfr hl ?_
 refine zj h (fun h=>?_) fun h=>?_
 .exact zrr h
 refine zw ?_;refine AW.seq ?_;refine zw ?_;refine zm (qC rfl rfl mn rfl rfl) ?_;refine zi h (fun h=>?_) fun h=>?_
 .exact zrr h
 refine zc func231 h ?_;rintro v I ⟨u2,u3,rfl,h⟩;refine zw ?_;refine AW.seq ?_;refine zw ?_;refine AW.iff rfl (qu me) h (fun h=>?_) (fun h=>?_)
 .exact zrr h
 refine zc func80 h ?_;rintro v I ⟨u4,rfl,h⟩;refine zN h fun p5 h=>?_;refine zf mL wg ?_;refine zs wg h fun I h=>?_;refine zN h fun p6 h=>?_;refine zf mL wx ?_;refine zf mE ty3 ?_;refine zL mf h fun u7 h=>?_;refine zN h fun p8 h=>?_;refine zf mL wx ?_;refine zf mE ty3 ?_;refine zs ty3 h fun I h=>?_;refine zN h fun p9 h=>?_
 refine zf mL wx ?_;refine zf mE ty3 ?_;refine zL mf h fun u10 h=>?_;exact zrr h
end G
namespace Zt
open Go SL G Pa
variable{B:ZB}{ro I I':AH}{tag tag':Nat->Nat}
structure Nd where
 ver:Int
 ctr:Int
 own:Int
 kids:Int
 data:Str
abbrev St:=List (Str×Nd)
abbrev vI(x:Int):ZC:= .int .i64 x
abbrev vU(c:UInt8):ZC:= .int .u8 c.toNat
abbrev ptr(b:Nat):ZC:= .pointer (some ⟨b,0,none⟩)
def ac7(tag:Nat->Nat)(I:AH)(r b:Nat)(n:Nd):Prop:=
 ∃s:Sl,Row tag I (r+64*(b+2)) 168 ⟨some ⟨b,0,none⟩,5,5⟩ [vI n.ver,vI n.ctr,vI n.own,vI n.kids,Sl.v s]/\Row tag I 6 5 s (n.data.map vU)
def kv:St->List Nat->KV
 | (p,_)::st,b::bs=>(p,ptr b)::kv st bs
 | _,_=>[]
structure wa(tag:Nat->Nat)(I:AH)(r T M:Nat)(bs:List Nat)(st:St):Prop where
 keys:(st.map (·.1)).Nodup
 len:bs.length=st.length
 nd:bs.Nodup
 cell:Row tag I r 239 ⟨some ⟨T,0,none⟩,1,1⟩ [.map (some M)]
 map:zW tag I (r+64) M (kv st bs)
 nodes:∀ (i b:Nat) (p:Str×Nd),bs[i]?=some b->st[i]?=some p->ac7 tag I r b p.2
def wd(tag:Nat->Nat)(I:AH)(r T:Nat)(st:St):Prop:= ∃M bs,wa tag I r T M bs st
def ac7.keep{R:List Nat}{r b:Nat}{n:Nd}(h:ac7 tag I r b n)(k:qd R ro tag I tag' I')(h1:r+64*(b+2)∉R:=by simp)(h2:6∉R:=by simp):ac7 tag' I' r b n:=by
 obtain⟨s,a,c⟩:=h
 exact⟨s,a.keep k h1,c.keep k h2⟩
def wa.keepC{c r T M:Nat}{bs:List Nat}{st:St}(h:wa tag I r T M bs st)(k:zK c ro tag I tag' I')(hr:r%64≠c:=by decide)(h6:c≠6:=by decide):wa tag' I' r T M bs st:=
 ⟨h.keys,h.len,h.nd,h.cell.keepC k hr,h.map.keepC k z7,fun i b p hb hp=>by
  obtain⟨s,a,e⟩:=h.nodes i b p hb hp
  exact⟨s,a.keepC k z7,e.keepC k z7⟩⟩
def wa.keep{R:List Nat}{r T M:Nat}{bs:List Nat}{st:St}(h:wa tag I r T M bs st)(k:qd R ro tag I tag' I')(hR:∀ x∈R,x%64≠r%64/\x≠6:=by simp):wa tag' I' r T M bs st:=
 ⟨h.keys,h.len,h.nd,h.cell.keep k fun m=>(hR _ m).1 rfl,h.map.keep k fun m=>(hR _ m).1 z7,fun i b p hb hp=>(h.nodes i b p hb hp).keep k (fun m=>(hR _ m).1 z7) fun m=>(hR _ m).2 rfl⟩
def wd.keep{R:List Nat}{r T:Nat}{st:St}(h:wd tag I r T st)(k:qd R ro tag I tag' I')(hR:∀ x∈R,x%64≠r%64/\x≠6:=by simp):wd tag' I' r T st:=by
 obtain⟨M,bs,h⟩:=h
 exact⟨M,bs,h.keep k hR⟩
def acf:∀ (st:St) (bs:List Nat) (u:Str),bs.length=st.length->
  (st.lookup u=none/\(kv st bs).lookup u=none)\/∃ (i b:Nat) (n:Nd),bs[i]?=some b/\st[i]?=some (u,n)/\st.lookup u=some n/\(kv st bs).lookup u=some (ptr b):=by
 intro st
 induction st with
 | nil=>intro bs u h;exact .inl ⟨rfl,by cases bs<;>rfl⟩
 | cons p st ih=>
  intro bs u h
  cases bs with
  | nil=>simp at h
  | cons b bs=>
   obtain⟨p,n⟩:=p
   simp only[mz,Nat.add_right_cancel_iff]at h
   unfold kv
   rw[na,na]
   by_cases c:u=p
   .subst c
    rw[show(u == u)=true by simp]
    exact .inr ⟨0,b,n,rfl,rfl,rfl,rfl⟩
   .rw[show(u == p)=false by simpa using c]
    rcases ih bs u h with h' | ⟨i,b',n',h1,h2,h3,h4⟩
    .exact .inl h'
    .exact .inr ⟨i+1,b',n',j4 h1,j4 h2,h3,h4⟩
def wH(st:St)(u:Str)(f:Nd->Nd):St:=st.map fun p=>if p.1=u then(p.1,f p.2)else p
def aiz{st:St}(hk:(st.map (·.1)).Nodup){i:Nat}{u:Str}{n:Nd}(h:st[i]?=some (u,n))(f:Nd->Nd):wH st u f=st.set i (u,f n):=by
 unfold wH
 apply nJ
 intro j
 rw[mh,nP]
 have hil:i<st.length:=by
  rcases mM i st.length with h' | h'
  .exact h'
  .rw[mG h']at h;cases h
 by_cases c:i=j
 .subst c;rw[mc rfl,mc hil,h];simp
 .rw[ma c]
  cases e:st[j]? with
  | none=>rfl
  | some p=>
   have hne:p.1≠u:=by
    intro hp
    apply c
    have hjl:j<st.length:=by
     rcases mM j st.length with h' | h'
     .exact h'
     .rw[mG h']at e;cases e
    refine(List.getElem_inj (h₀:=by simpa using hil) (h₁:=by simpa using hjl) hk).1 ?_
    rw[md hil]at h
    rw[md hjl]at e
    simp only[List.getElem_map]
    rw[mB h,mB e,hp]
   simp[hne]
def av9:∀ (st:St) (bs:List Nat) (i:Nat) (u:Str) (n n':Nd),st[i]?=some (u,n)->kv (st.set i (u,n')) bs=kv st bs:=by
 intro st
 induction st with
 | nil=>intro bs i u n n' h;cases h
 | cons p st ih=>
  intro bs i u n n' h
  cases bs with
  | nil=>cases i<;>simp[kv]
  | cons b bs=>
   cases i with
   | zero=>cases h;rfl
   | succ i=>simp only[List.set_cons_succ];unfold kv;rw[ih bs i u n n' (j4 h)]
def atz{st:St}{i:Nat}{u:Str}{n n':Nd}(h:st[i]?=some (u,n)):(st.set i (u,n')).map (·.1)=st.map (·.1):=by
 rw[List.map_set]
 apply nJ
 intro j
 rw[nP,mh]
 by_cases c:i=j
 .subst c;rw[h];simp
  rcases mM i st.length with h' | h'
  .exact h'
  .rw[mG h']at h;cases h
 .rw[ma c]
def aqa{α:Type}{l:List α}(hn:l.Nodup){i j:Nat}{x:α}(hi:l[i]?=some x)(hj:l[j]?=some x):i=j:=by
 have hil:i<l.length:=by
  rcases mM i l.length with h' | h'
  .exact h'
  .rw[mG h']at hi;cases hi
 have hjl:j<l.length:=by
  rcases mM j l.length with h' | h'
  .exact h'
  .rw[mG h']at hj;cases hj
 rw[md hil]at hi
 rw[md hjl]at hj
 exact(List.getElem_inj hn).1 (by rw[mB hi,mB hj])
def wa.write{r T i b M:Nat}{st:St}{bs:List Nat}{u:Str}{n n':Nd}(h:wa tag I r T M bs st)(hr:r<64)(hr6:r≠6)(hb:bs[i]?=some b)(hp:st[i]?=some (u,n))(k:qd [r+64*(b+2)] ro tag I tag' I')(hnew:ac7 tag' I' r b n'):wa tag' I' r T M bs (st.set i (u,n')):=by
 refine⟨by rw[atz hp];exact h.keys,j4 h.len,h.nd,h.cell.keep k,?_,fun j c p hc hp'=>?_⟩
 .rw[av9 _ _ _ _ _ _ hp];exact h.map.keep k j2
 .rw[nP]at hp'
  by_cases e:i=j
  .subst e
   rw[hb]at hc;cases hc
   rw[mc rfl]at hp'
   split at hp'
   .cases hp';exact hnew
   .cases hp'
  .rw[ma e]at hp'
   refine(h.nodes j c p hc hp').keep k ?_ ?_
   .simp
    intro h'
    have:b=c:=by omega
    subst this
    exact e (aqa h.nd hb hc)
   .simp;omega
def u126:prog.underlying 237=some (.map 9 164):=j0
def u9:prog.underlying 9=some .string:=j0
def u30:prog.underlying 24=some (.slice 5):=j0
def aiA:qp prog 164 (.pointer none) 1 8:=qp.of j0
def acg{s:Sl}{l:List Value}{Q:Sl->AH->Prop}(h:SL.qJ ro I s l)(hs:SL.Sep ro I)(hl:l.length<=140737488355328)(hv:∀ v∈l,qg v=true)(hQ:∀ s' tag' I',(∀R,qd R ro tag I tag' I')->Row tag' I' 6 5 s' l->Q s' I'):kT B ro s I Q:=by
 refine amH fun _=>?_
 unfold afF
 by_cases h0:s.a=none
 .rw[mc h0]
  rw[h.2.1 h0]at hQ
  exact hQ _ tag I (fun _=>qd.refl hs) (Row.nil 6 5)
 .rw[ma h0]
  refine qf (tag:=tag) 6 hs fun b tag1 I1 st1 r1=>?_
  have h':SL.qJ ro I1 s l:=h.step (st1 [])
  refine jm r1 (st1 []).sep h' u30 ty5 rfl hv j2 y1 fun s' tag2 I2 st2 r2=>?_
  exact⟨s',rfl,hQ s' tag2 I2 (fun R=>(st1 R).trans (st2 R (.inl rfl))) r2⟩
def St.new:St:=[([47],⟨0,0,0,0,[]⟩)]
def arY{Q:ZO->AH->Prop}(r:Nat)(hr:r<64)(hr6:r≠6)(hQ:∀ T tag' I',zK r ro tag I tag' I'->wd tag' I' r T St.new->Q (some ⟨T,0,none⟩) I'):ahp B ro I Q:=by
 refine aoM fun hs=>?_
 unfold ahv
 refine arP (tag:=tag) (r+64) hs fun M tag1 I1 st1 m1=>?_
 refine agX (tag:=tag1) (fun b=>r+64*(b+2)) (st1 []).sep fun b tag2 I2 _ _ st2 r2=>?_
 have m2:=m1.keep (st2 [])
 refine acz (k:=[47]) m2 (st2 []).sep u126 u9 fun I3 st3 m3=>?_
 have r3:=r2.keep st3 j2
 refine qf (tag:=tag2) r st3.sep fun T tag4 I4 st4 r4=>?_
 have st:zK r ro tag I tag4 I4:=((st1 []).c y0).trans (((st2 []).c y0).trans ((st3.c j2).trans ((st4 []).c y0)))
 refine hQ T tag4 I4 st ⟨M,[b],by simp[St.new],rfl,y0,r4,m3.keep (st4 []),fun i c p hc hp=>?_⟩
 rcases i with _ | i
 .cases hc;cases hp
  exact⟨⟨none,0,0⟩,r3.keep (st4 []),Row.nil 6 5⟩
 .cases hc
def amN{r T M:Nat}{bs:List Nat}{st:St}{p:ZA}{Q:ZO->Int->AH->Prop}(g:ze ro)(h:wa tag I r T M bs st)(hs:SL.Sep ro I)(hbad:parts (L p)=none->Q none 20 I)
  (hmiss:∀ ps,parts (L p)=some ps->st.lookup (L p)=none->Q none 70 I) (hhit:∀ (ps:List Str) (i b:Nat) (n:Nd),parts (L p)=some ps->bs[i]?=some b->st[i]?=some (L p,n)->st.lookup (L p)=some n->Q (some ⟨b,0,none⟩) 0 I):
  pi B ro (some ⟨T,0,none⟩) p I Q:=by
 refine ajG fun _=>?_
 unfold acP
 refine aaj g ?_
 by_cases h1:Pa.chk (L p)=0
 .rw[ma (j4 h1)]
  obtain⟨ps,hps⟩:=vE.1 h1
  refine⟨_,rfl,_,Row.cell1 h.cell hs,?_⟩
  rw[<-S_L p]
  refine ya h.map hs u126 u9 aiA ?_
  rcases acf st bs (L p) h.len with⟨a,e⟩ | ⟨i,b,n,a1,a2,a3,e⟩
  .rw[e]
   exact⟨none,rfl,by rw[mc rfl];exact hmiss ps hps a⟩
  .rw[e]
   exact⟨some ⟨b,0,none⟩,rfl,by rw[ma y0];exact hhit ps i b n hps a1 a2 a3⟩
 .rw[mc (j4 h1)]
  have e:parts (L p)=none:=by
   cases h:parts (L p)with
   | none=>rfl
   | some ps=>exact mt (vE.2 ⟨ps,h⟩) h1
  have:Pa.chk (L p)=20:=by unfold Pa.chk;rw[e];try rfl
  rw[this];exact hbad e
def ant{r T M:Nat}{bs:List Nat}{st:St}{p:ZA}{v:Int}{Q:ZO->Int->AH->Prop}(g:ze ro)(h:wa tag I r T M bs st)(hs:SL.Sep ro I)(hbad:(L p=[47]\/parts (L p)=none)->Q none 20 I)
  (hmiss:L p≠[47]->∀ ps,parts (L p)=some ps->st.lookup (L p)=none->Q none 70 I)
  (hver:L p≠[47]->∀ (ps:List Str) (n:Nd),parts (L p)=some ps->st.lookup (L p)=some n->v≠ -1->v≠n.ver->Q none 72 I)
  (hhit:L p≠[47]->∀ (ps:List Str) (i b:Nat) (n:Nd),parts (L p)=some ps->bs[i]?=some b->st[i]?=some (L p,n)->st.lookup (L p)=some n->(v= -1\/v=n.ver)->Q (some ⟨b,0,none⟩) 0 I):
  uJ B ro (some ⟨T,0,none⟩) p v I Q:=by
 refine aji fun _=>?_
 unfold ace
 by_cases h1:p=⟨#[47]⟩
 .rw[mc h1]
  exact hbad (.inl (by rw[h1];try rfl))
 .rw[ma h1]
  have hne:L p≠[47]:=fun h=>h1 (uG h)
  refine amN g h hs (fun hb=>?_) (fun ps hps hl=>?_) (fun ps i b n hps hb hp hl=>?_)
  .rw[ma y0]
   unfold vz
   rw[ma y0]
   exact hbad (.inr hb)
  .rw[ma y0]
   unfold vz
   rw[ma y0]
   exact hmiss hne ps hps hl
  .by_cases h2:v= -1
   .rw[ma (by simp[h2])]
    unfold vz
    rw[ma y0]
    exact hhit hne ps i b n hps hb hp hl (.inl h2)
   .rw[mc ⟨rfl,h2⟩]
    obtain⟨s,hn,_⟩:=h.nodes i b _ hb hp
    obtain⟨q,hq,hg⟩:=hn.ptr hs y0
    cases hq
    refine⟨_,rfl,n.ver,hg 0 _ rfl,?_⟩
    unfold vz
    by_cases h3:v=n.ver
    .rw[ma (by simp[h3])]
     exact hhit hne ps i b n hps hb hp hl (.inr h3)
    .rw[mc (by simp[h3])]
     exact hver hne ps n hps hl h2 h3
def jL(n:Nd):Nd:={n with ctr:=i64.wrap (n.ctr+1),kids:=i64.wrap (n.kids+1)}
def we(st:St)(p data:Str)(o:Int)(seq:Bool):St×Str×Int:=
 match qw p with
 | none=>(st,[],20)
 | some u=>
  if 256<data.length then(st,[],75)
  else if o<0\/4611686018427387903<o then(st,[],10)
  else match st.lookup u with
   | none=>(st,[],70)
   | some n=>
    if n.own≠0 then(st,[],74)
    else if 9999999999<n.ctr then(st,[],76)
    else match(if seq then pn p n.ctr else some p)with
     | none=>(st,[],20)
     | some q=>if(st.lookup q).isSome then(st,[],71)else(wH (st++[(q,⟨0,0,o,0,data⟩)]) u jL,q,0)
def arZ:∀ (st:St) (bs:List Nat) (q:Str) (n:Nd) (b:Nat),bs.length=st.length->kv (st++[(q,n)]) (bs++[b])=kv st bs++[(q,ptr b)]:=by
 intro st
 induction st with
 | nil=>intro bs q n b h;have:bs=[]:=nb h;subst this;rfl
 | cons p st ih=>
  intro bs q n b h
  cases bs with
  | nil=>simp at h
  | cons c bs=>
   obtain⟨p,m⟩:=p
   simp only[ng]
   unfold kv
   rw[ih bs q n b (j4 h)];try rfl
def aqb:∀ (st:St) (bs:List Nat) (q:Str) (b:Nat),bs.length=st.length->st.lookup q=none->agl (kv st bs) q (ptr b)=kv st bs++[(q,ptr b)]:=by
 intro st
 induction st with
 | nil=>intro bs q b h _;cases bs<;>rfl
 | cons p st ih=>
  intro bs q b h hl
  cases bs with
  | nil=>simp at h
  | cons c bs=>
   obtain⟨p,m⟩:=p
   rw[na]at hl
   by_cases e:q=p
   .subst e;simp at hl
   .rw[show(q == p)=false by simpa using e]at hl
    unfold kv agl
    rw[ma e,ih bs q b (j4 h) hl];try rfl
def ac8{st:St}{q:Str}(h:st.lookup q=none):q∉st.map (·.1):=by
 intro hm
 obtain⟨p,hp,e⟩:=mN.1 hm
 rw[List.lookup_eq_none_iff]at h
 have:=h p hp
 simp at this
 exact this e.symm
def wa.add{r T M b:Nat}{bs:List Nat}{st:St}{q:Str}{n:Nd}{tag2:Nat->Nat}{I2:AH}(h:wa tag I r T M bs st)(hr:r<64)(hr6:r≠6)(hq:st.lookup q=none)(hb:I b=none)(k:qd [r+64] ro tag I tag2 I2)(hnew:ac7 tag2 I2 r b n)(hm:zW tag2 I2 (r+64) M (agl (kv st bs) q (ptr b))):wa tag2 I2 r T M (bs++[b]) (st++[(q,n)]):=by
 have hnb:b∉bs:=fun hm'=>by
  obtain⟨i,hi,e⟩:=ni hm'
  have hb':bs[i]?=some b:=by rw[md hi,e]
  have hil:i<st.length:=by rw[<-h.len];exact hi
  obtain⟨s,hn,_⟩:=h.nodes i b _ hb' (md hil)
  obtain⟨_,o,ho⟩:=hn.tagOf
  rw[hb]at ho;cases ho
 refine⟨?_,by simp[h.len],?_,h.cell.keep k,?_,fun i c p hc hp=>?_⟩
 .rw[my,List.nodup_append]
  refine⟨h.keys,y0,?_⟩
  intro x hx y hy
  simp at hy
  intro e
  exact ac8 hq (by rw[<-hy,<-e];exact hx)
 .rw[List.nodup_append]
  refine⟨h.nd,y0,?_⟩
  intro x hx y hy
  simp at hy
  intro e
  exact hnb (by rw[<-hy,<-e];exact hx)
 .rw[arZ _ _ _ _ _ h.len,<-aqb _ _ _ _ h.len hq];exact hm
 .rcases mM i bs.length with hi | hi
  .rw[mQ hi]at hc
   rw[mQ (by rw[<-h.len];exact hi)]at hp
   exact(h.nodes i c p hc hp).keep k j2 y0
  .rw[mU hi]at hc
   rw[mU (by rw[<-h.len];exact hi),<-h.len]at hp
   cases hd:i - bs.length with
   | zero=>
    rw[hd]at hc hp
    cases hc;cases hp
    exact hnew
   | succ j=>rw[hd]at hc;cases hc
def avd{q:Str}{n:Nd}(st:St){i:Nat}{u:Str}{m:Nd}(h:st[i]?=some (u,m)):(st++[(q,n)])[i]?=some (u,m):=by
 have hil:i<st.length:=by
  rcases mM i st.length with h' | h'
  .exact h'
  .rw[mG h']at h;cases h
 rw[mQ hil];exact h
def ave{bs:List Nat}{c i b:Nat}(h:bs[i]?=some b):(bs++[c])[i]?=some b:=by
 have hil:i<bs.length:=by
  rcases mM i bs.length with h' | h'
  .exact h'
  .rw[mG h']at h;cases h
 rw[mQ hil];exact h
def ajH{r T:Nat}{st:St}{p:ZA}{s:Sl}{d:Str}{o:Int}{seq:Bool}{Q:ZA->Int->AH->Prop}(g:ze ro)(hr:r<64)(hr6:r≠6)(hr0:r≠0)(h:wd tag I r T st)(hd:SL.qJ ro I s (d.map vU))(hdl:d.length<4611686018427387904)
  (hQ:∀ tag' I',zK r ro tag I tag' I'->wd tag' I' r T (we st (L p) d o seq).1->Q (S (we st (L p) d o seq).2.1) (we st (L p) d o seq).2.2 I'):jS B ro (some ⟨T,0,none⟩) p s o seq I Q:=by
 refine aix fun hs=>?_
 unfold abB
 have hsl:s.len=d.length:=by rw[hd.1,mg]
 have same:∀ e:Int,we st (L p) d o seq=(st,[],e)->Q (⟨#[]⟩:ZA) e I:=fun e he=>by
  have:=hQ tag I (zK.refl hs) (by rw[he];exact h)
  rw[he]at this;exact this
 refine afk g (fun hp=>?_) (fun u hu=>?_)
 .rw[mc y1]
  exact same 20 (by unfold we;rw[hp])
 .rw[ma y1]
  by_cases h1:256<(s.len:Int)
  .rw[mc h1]
   exact same 75 (by unfold we;rw[hu];simp only;rw[mc z7])
  .rw[ma h1]
   have h1':¬ 256<d.length:=by omega
   by_cases h2:o<0\/4611686018427387903<o
   .rw[mc h2]
    exact same 10 (by unfold we;rw[hu];simp only;rw[ma h1',mc h2])
   .rw[ma h2]
    obtain⟨M,bs,hA⟩:=h
    refine⟨_,rfl,_,Row.cell1 hA.cell hs,?_⟩
    refine ya hA.map hs u126 u9 aiA ?_
    rcases acf st bs u hA.len with⟨a,e⟩ | ⟨i,b,n,a1,a2,a3,e⟩
    .rw[e]
     refine⟨none,rfl,?_⟩
     rw[mc rfl]
     exact same 70 (by unfold we;rw[hu];simp only;rw[ma h1',ma h2,a])
    .rw[e]
     refine⟨some ⟨b,0,none⟩,rfl,?_⟩
     rw[ma y0]
     obtain⟨ds,hn,hdat⟩:=hA.nodes i b _ a1 a2
     obtain⟨q,hq,hg⟩:=hn.ptr hs y0
     cases hq
     refine⟨_,rfl,n.own,hg 2 _ rfl,?_⟩
     by_cases h3:n.own=0
     .rw[ma (by simp[h3])]
      refine⟨_,rfl,n.ctr,hg 1 _ rfl,?_⟩
      by_cases h4:9999999999<n.ctr
      .rw[mc h4]
       exact same 76 (by unfold we;rw[hu];simp only;rw[ma h1',ma h2,a3];simp only;rw[ma (by simp[h3]),mc h4])
      .rw[ma h4]
       have hcr:we st (L p) d o seq=match(if seq then pn (L p) n.ctr else some (L p))with
         | none=>(st,[],20)
         | some q=>if(st.lookup q).isSome then(st,[],71)else(wH (st++[(q,⟨0,0,o,0,d⟩)]) u jL,q,0):=by
        unfold we;rw[hu];simp only;rw[ma h1',ma h2,a3];simp only;rw[ma (by simp[h3]),ma h4];try rfl
       have main:∀ q:Str,(if seq then pn (L p) n.ctr else some (L p))=some q->kw B ro (some ⟨T,0,none⟩) s o (some ⟨b,0,none⟩) Q (S q) I:=by
        intro q hq
        rw[hq]at hcr
        simp only at hcr
        unfold kw
        refine⟨_,rfl,_,Row.cell1 hA.cell hs,?_⟩
        refine ya hA.map hs u126 u9 aiA ?_
        rcases acf st bs q hA.len with⟨c,e2⟩ | ⟨i2,b2,n2,c1,c2,c3,e2⟩
        .rw[e2]
         refine⟨none,rfl,?_⟩
         rw[ma y0]
         rw[c]at hcr
         simp only[Option.isSome_none,Bool.false_eq_true,if_false]at hcr
         refine aec T ?_
         obtain⟨hT0,hTo⟩:=hA.cell.tagOf
         have hs1:SL.Sep (join ro (SL.one I T)) (SL.del I T):=hs.lent
         refine⟨_,rfl,some M,hA.cell.lend hs (i:=0) rfl,?_⟩
         refine acg (tag:=tag) (hd.lent T) hs1 j2 (by simp[qg]) fun s' tag1 I1 st1 r1=>?_
         refine agX (tag:=tag1) (fun b=>r+64*(b+2)) (st1 []).sep fun c' tag2 I2 hro2 hc2 st2 r2=>?_
         have hM1:=((hA.map.del (by rw[hT0];omega)).keep (st1 [])).keep (st2 [])
         refine acz hM1 (st2 []).sep u126 u9 fun I3 st3 m3=>?_
         intro hdj
         have stA:qd [r+64] (join ro (SL.one I T)) tag (SL.del I T) tag2 I3:=(st1 _).trans ((st2 _).trans st3)
         have stB:=stA.back hs hdj hTo
         have m4:=m3.back (r':=tag T) hdj hTo
         have hnode:ac7 (setTag tag2 T (tag T)) (join (SL.one I T) I3) r c' ⟨0,0,o,0,d⟩:=
          ⟨s',(r2.keep st3 j2).back hdj hTo,((r1.keep (st2 [])).keep st3).back hdj hTo⟩
         have hfree:I c'=none:=by
          cases hcc:I c' with
          | none=>rfl
          | some x=>
           have hne:c'≠T:=fun e=>by
            have:=(uD hro2).2
            unfold SL.one at this
            rw[mc e,hcc]at this;cases this
           obtain⟨_,x',hx'⟩:=(st1 []).old c' x (by unfold SL.del;rw[ma hne];exact hcc)
           rw[hc2]at hx';cases hx'
         have hA2:=hA.add (n:=⟨0,0,o,0,d⟩) hr hr6 c hfree stB hnode m4
         have b1:=ave (c:=c') a1
         have b2:=avd (q:=q) (n:=⟨0,0,o,0,d⟩) st a2
         generalize setTag tag2 T (tag T)=tagx at*
         generalize join (SL.one I T) I3=Ix at*
         have hsx:=stB.sep
         obtain⟨d1,hn1,hd1⟩:=hA2.nodes i b _ b1 b2
         obtain⟨q1,hq1,hg1⟩:=hn1.ptr hsx y0
         cases hq1
         refine⟨_,rfl,n.ctr,hg1 1 _ rfl,_,rfl,?_⟩
         refine hn1.st (i:=1) hsx rfl y0 rfl fun I4 st4 r4=>?_
         have hA3:=hA2.write (n':={n with ctr:=i64.wrap (n.ctr+1)}) hr hr6 b1 b2 st4 ⟨d1,r4,hd1.keep st4 j2⟩
         have b3:((st++[(q,(⟨0,0,o,0,d⟩:Nd))]).set i (u,{n with ctr:=i64.wrap (n.ctr+1)}))[i]?=some (u,{n with ctr:=i64.wrap (n.ctr+1)}):=by
          rw[nP,mc rfl,mc]
          rcases mM i (st++[(q,(⟨0,0,o,0,d⟩:Nd))]).length with h' | h'
          .exact h'
          .rw[mG h']at b2;cases b2
         obtain⟨q2,hq2,hg2⟩:=r4.ptr st4.sep y0
         cases hq2
         refine⟨_,rfl,n.kids,hg2 3 _ rfl,_,rfl,?_⟩
         refine r4.st (i:=3) st4.sep rfl y0 rfl fun I5 st5 r5=>?_
         have hA4:=hA3.write (n':=jL n) hr hr6 b1 b3 st5 ⟨d1,r5,(hd1.keep st4 j2).keep st5 j2⟩
         rw[List.set_set]at hA4
         rw[<-aiz hA2.keys b2 jL]at hA4
         have hres:=hQ tagx I5 ((stB.c j2).trans ((st4.c j2).trans (st5.c j2))) (by rw[hcr];exact⟨M,_,hA4⟩)
         rw[hcr]at hres
         exact hres
        .rw[e2]
         refine⟨some ⟨b2,0,none⟩,rfl,?_⟩
         rw[mc y0]
         refine same 71 ?_
         rw[hcr,c3];try rfl
       by_cases h5:seq=true
       .rw[mc h5]
        refine⟨_,rfl,n.ctr,hg 1 _ rfl,?_⟩
        refine arX g (fun hnone=>?_) (fun q hq=>?_)
        .rw[mc y1]
         refine same 20 ?_
         rw[hcr,mc h5,hnone]
        .rw[ma y1]
         exact main q (by rw[mc h5];exact hq)
       .rw[ma h5]
        have:=main (L p) (by rw[ma h5])
        rw[S_L]at this;exact this
     .rw[mc (by simp[h3])]
      exact same 74 (by unfold we;rw[hu];simp only;rw[ma h1',ma h2,a3];simp only;rw[mc (by simp[h3])])
def pd:St->Str->St
 | [],_=>[]
 | (k',n)::r,k=>if k=k' then r else(k',n)::pd r k
def pB(n:Nd):Nd:={n with kids:=i64.wrap (n.kids - 1)}
def wo(st:St)(p:Str)(v:Int):St×Int:=
 if p=[47]\/parts p=none then(st,20)
 else match st.lookup p with
  | none=>(st,70)
  | some n=>if v≠ -1/\v≠n.ver then(st,72)else if 0<n.kids then(st,73)
   else match qw p with
    | none=>(st,20)
    | some u=>(pd (wH st u pB) p,0)
def ae6(d:Str)(n:Nd):Nd:={n with ver:=i64.wrap (n.ver+1),data:=d}
def kn(st:St)(p d:Str)(v:Int):St×Int×Int:=
 if p=[47]\/parts p=none then(st,0,20)
 else if 256<d.length then(st,0,75)
 else match st.lookup p with
  | none=>(st,0,70)
  | some n=>if v≠ -1/\v≠n.ver then(st,0,72)else(wH st p (ae6 d),i64.wrap (n.ver+1),0)
def atA:∀ (st:St) (bs:List Nat) (i b:Nat) (q:Str) (n:Nd),bs.length=st.length->(st.map (·.1)).Nodup->bs[i]?=some b->st[i]?=some (q,n)->
  pd st q=st.eraseIdx i/\agm (kv st bs) q=kv (st.eraseIdx i) (bs.eraseIdx i):=by
 intro st
 induction st with
 | nil=>intro bs i b q n _ _ _ h;cases h
 | cons p st ih=>
  intro bs i b q n hl hk hb hp
  cases bs with
  | nil=>simp at hl
  | cons c bs=>
   obtain⟨p,m⟩:=p
   rw[mF,nv]at hk
   cases i with
   | zero=>
    cases hp
    exact⟨by simp[pd],by simp[kv,agm]⟩
   | succ i=>
    simp only[LY]at hb hp
    have hne:q≠p:=fun e=>hk.1 (by rw[<-e];exact mN.2 ⟨_,mW hp,rfl⟩)
    obtain⟨h1,h2⟩:=ih bs i b q n (j4 hl) hk.2 hb hp
    refine⟨by simp[pd,hne,h1],?_⟩
    simp only[List.eraseIdx_cons_succ]
    unfold kv agm
    rw[ma hne,h2]
def aoN{α:Type}(l:List α)(i j:Nat):(l.eraseIdx i)[j]?=if j<i then l[j]? else l[j+1]?:=by
 rw[List.getElem?_eraseIdx]
def wa.rem{r T M i b:Nat}{bs:List Nat}{st:St}{q:Str}{n:Nd}(h:wa tag I r T M bs st)(hr:r<64)(hr6:r≠6)(hb:bs[i]?=some b)(hp:st[i]?=some (q,n))(k:qd [r+64] ro tag I tag' I')
  (hm:zW tag' I' (r+64) M (agm (kv st bs) q)):wa tag' I' r T M (bs.eraseIdx i) (pd st q):=by
 obtain⟨e1,e2⟩:=atA st bs i b q n h.len h.keys hb hp
 rw[e1]
 rw[e2]at hm
 refine⟨List.Nodup.sublist ((List.eraseIdx_sublist ..).map _) h.keys,?_,List.Nodup.sublist (List.eraseIdx_sublist ..) h.nd,h.cell.keep k,hm,fun j c p hc hp'=>?_⟩
 .rw[List.length_eraseIdx,List.length_eraseIdx,h.len]
 .rw[aoN]at hc hp'
  by_cases hj:j<i
  .rw[mc hj]at hc hp'
   exact(h.nodes j c p hc hp').keep k j2 y0
  .rw[ma hj]at hc hp'
   exact(h.nodes (j+1) c p hc hp').keep k j2 y0
def atB{st:St}{u:Str}{f:Nd->Nd}{i:Nat}{q:Str}{n:Nd}(h:st[i]?=some (q,n))(hne:q≠u):(wH st u f)[i]?=some (q,n):=by
 unfold wH
 rw[mh,h]
 simp[hne]
def afl{p u:Str}(h:qw p=some u):p≠u:=by
 unfold qw at h
 cases hp:parts p with
 | none=>rw[hp]at h;cases h
 | some ps=>
  rw[hp]at h
  simp only at h
  split at h
  .cases h
  .rename_i hn
   cases h
   obtain⟨hl,hg⟩:=qZ.1 hp
   intro e
   have:=arQ hg hg.up (by rw[<-hl];exact e)
   have h1:=mj List.length this
   have h2:=nI.2 hn
   simp at h1;omega
def akU{p:Str}{ps:List Str}(h:parts p=some ps)(hne:p≠[47]):∃ u,qw p=some u:=by
 unfold qw
 rw[h]
 simp only
 rw[ma]
 .exact⟨_,rfl⟩
 .intro e;obtain⟨hl,_⟩:=qZ.1 h;exact hne (by rw[hl,e];try rfl)
def al1{r T M:Nat}{bs:List Nat}{st:St}{p:ZA}{v:Int}{Q:Int->AH->Prop}(g:ze ro)(hr:r<64)(hr6:r≠6)(hr0:r≠0)(hA:wa tag I r T M bs st)
  (hup:∀ u n,qw (L p)=some u->st.lookup (L p)=some n->∃ m,st.lookup u=some m)
  (hQ:∀ tag' I' bs',zK r ro tag I tag' I'->wa tag' I' r T M bs' (wo st (L p) v).1->Q (wo st (L p) v).2 I'):jT B ro (some ⟨T,0,none⟩) p v I Q:=by
 refine aiy fun hs=>?_
 unfold abC
 have same:∀ e:Int,wo st (L p) v=(st,e)->Q e I:=fun e he=>by
  have:=hQ tag I bs (zK.refl hs) (by rw[he];exact hA)
  rw[he]at this;exact this
 have hgood:L p≠[47]->∀ ps,parts (L p)=some ps->¬ (L p=[47]\/parts (L p)=none):=fun h1 ps h2 h3=>by
  rcases h3 with h3 | h3
  .exact h1 h3
  .rw[h2]at h3;cases h3
 refine ant g hA hs (fun hb=>?_) (fun hne ps hps hl=>?_) (fun hne ps n hps hl hv1 hv2=>?_) (fun hne ps i b n hps hb hp hl hv=>?_)
 .rw[mc y1]
  exact same 20 (by unfold wo;rw[mc hb])
 .rw[mc y1]
  exact same 70 (by unfold wo;rw[ma (hgood hne ps hps),hl])
 .rw[mc y1]
  exact same 72 (by unfold wo;rw[ma (hgood hne ps hps),hl];simp only;rw[mc ⟨hv1,hv2⟩])
 .rw[ma y1]
  have hre:wo st (L p) v=if 0<n.kids then(st,(73:Int))else match qw (L p)with
    | none=>(st,(20:Int))
    | some u=>(pd (wH st u pB) (L p),(0:Int)):=by
   unfold wo;rw[ma (hgood hne ps hps),hl];simp only;rw[ma z7];all_goals (cases qw (L p)<;>rfl)
  obtain⟨s,hn,hd⟩:=hA.nodes i b _ hb hp
  obtain⟨q,hq,hg⟩:=hn.ptr hs y0
  cases hq
  refine⟨_,rfl,n.kids,hg 3 _ rfl,?_⟩
  by_cases h1:0<n.kids
  .rw[mc h1]
   exact same 73 (by rw[hre,mc h1])
  .rw[ma h1]
   rw[ma h1]at hre
   refine afk g (fun hnone=>?_) (fun u hu=>?_)
   .obtain⟨u,hu⟩:=akU hps hne
    rw[hu]at hnone;cases hnone
   .rw[hu]at hre
    simp only at hre
    obtain⟨m,hm⟩:=hup u n hu hl
    refine⟨_,rfl,_,Row.cell1 hA.cell hs,?_⟩
    refine ya hA.map hs u126 u9 aiA ?_
    rcases acf st bs u hA.len with⟨a,e⟩ | ⟨j,c,m',c1,c2,c3,e⟩
    .rw[hm]at a;cases a
    .rw[e]
     refine⟨some ⟨c,0,none⟩,rfl,?_⟩
     obtain⟨s2,hn2,hd2⟩:=hA.nodes j c _ c1 c2
     obtain⟨q2,hq2,hg2⟩:=hn2.ptr hs y0
     cases hq2
     refine⟨_,rfl,m'.kids,hg2 3 _ rfl,_,rfl,?_⟩
     refine hn2.st (i:=3) hs rfl y0 rfl fun I1 st1 r1=>?_
     have hA1:=hA.write (n':=pB m') hr hr6 c1 c2 st1 ⟨s2,r1,hd2.keep st1 j2⟩
     rw[<-aiz hA.keys c2 pB]at hA1
     refine⟨_,rfl,_,Row.cell1 hA1.cell st1.sep,?_⟩
     rw[<-S_L p]
     refine amF hA1.map st1.sep u126 u9 fun I2 st2 m2=>⟨rfl,?_⟩
     have hA2:=hA1.rem hr hr6 hb (atB hp (afl hu)) st2 m2
     have hres:=hQ tag I2 _ ((st1.c j2).trans (st2.c j2)) (by rw[hre];exact hA2)
     rw[hre]at hres
     exact hres
def ar0{r T:Nat}{st:St}{p:ZA}{v:Int}{Q:Int->AH->Prop}(g:ze ro)(hr:r<64)(hr6:r≠6)(hr0:r≠0)(h:wd tag I r T st)
  (hup:∀ u n,qw (L p)=some u->st.lookup (L p)=some n->∃ m,st.lookup u=some m)
  (hQ:∀ tag' I',zK r ro tag I tag' I'->wd tag' I' r T (wo st (L p) v).1->Q (wo st (L p) v).2 I'):jT B ro (some ⟨T,0,none⟩) p v I Q:=by
 obtain⟨M,bs,hA⟩:=h
 exact al1 g hr hr6 hr0 hA hup fun tag' I' bs' st h'=>hQ tag' I' st ⟨M,bs',h'⟩
def awa{r T:Nat}{st:St}{p:ZA}{s:Sl}{d:Str}{v:Int}{Q:Int->Int->AH->Prop}(g:ze ro)(hr:r<64)(hr6:r≠6)(hr0:r≠0)(h:wd tag I r T st)(hd:SL.qJ ro I s (d.map vU))(hdl:d.length<4611686018427387904)
  (hQ:∀ tag' I',zK r ro tag I tag' I'->wd tag' I' r T (kn st (L p) d v).1->Q (kn st (L p) d v).2.1 (kn st (L p) d v).2.2 I'):ady B ro (some ⟨T,0,none⟩) p s v I Q:=by
 refine akB fun hs=>?_
 unfold adE
 have hsl:s.len=d.length:=by rw[hd.1,mg]
 have same:∀ e:Int,kn st (L p) d v=(st,0,e)->Q 0 e I:=fun e he=>by
  have:=hQ tag I (zK.refl hs) (by rw[he];exact h)
  rw[he]at this;exact this
 by_cases h0:p=⟨#[47]⟩
 .rw[mc h0]
  unfold jA
  rw[mc rfl]
  exact same 20 (by unfold kn;rw[mc (.inl (by rw[h0];try rfl))])
 .rw[ma h0]
  have hne:L p≠[47]:=fun h=>h0 (uG h)
  refine aaj g ?_
  unfold jA
  by_cases h1:Pa.chk (L p)=0
  .rw[ma (j4 h1)]
   obtain⟨ps,hps⟩:=vE.1 h1
   have hgood:¬ (L p=[47]\/parts (L p)=none):=fun h3=>by
    rcases h3 with h3 | h3
    .exact hne h3
    .rw[hps]at h3;cases h3
   by_cases h2:256<(s.len:Int)
   .rw[mc h2]
    exact same 75 (by unfold kn;rw[ma hgood,mc z7])
   .rw[ma h2]
    have h2':¬ 256<d.length:=by omega
    obtain⟨M,bs,hA⟩:=h
    refine ant g hA hs (fun hb=>mt hb hgood) (fun _ _ _ hl=>?_) (fun _ _ n _ hl hv1 hv2=>?_) (fun _ _ i b n _ hb hp hl hv=>?_)
    .rw[mc y1]
     exact same 70 (by unfold kn;rw[ma hgood,ma h2',hl])
    .rw[mc y1]
     exact same 72 (by unfold kn;rw[ma hgood,ma h2',hl];simp only;rw[mc ⟨hv1,hv2⟩])
    .rw[ma y1]
     have hre:kn st (L p) d v=(wH st (L p) (ae6 d),i64.wrap (n.ver+1),0):=by
      unfold kn;rw[ma hgood,ma h2',hl];simp only;rw[ma z7]
     refine acg (tag:=tag) hd hs j2 (by simp[qg]) fun s' tag1 I1 st1 r1=>?_
     have hA1:=hA.keep (st1 [])
     have hs1:=(st1 []).sep
     obtain⟨ds,hn,hdd⟩:=hA1.nodes i b _ hb hp
     refine⟨_,rfl,?_⟩
     refine hn.st (i:=4) hs1 rfl y0 rfl fun I2 st2 r2=>?_
     obtain⟨q,hq,hg⟩:=r2.ptr st2.sep y0
     cases hq
     refine⟨_,rfl,n.ver,hg 0 _ rfl,_,rfl,?_⟩
     refine r2.st (i:=0) st2.sep rfl y0 rfl fun I3 st3 r3=>?_
     obtain⟨q3,hq3,hg3⟩:=r3.ptr st3.sep y0
     cases hq3
     refine⟨_,rfl,_,hg3 0 _ rfl,?_⟩
     have st23:=st2.trans st3
     have hA3:=hA1.write (n':=ae6 d n) hr hr6 hb hp st23 ⟨s',r3,r1.keep st23 j2⟩
     rw[<-aiz hA.keys hp (ae6 d)]at hA3
     have hres:=hQ tag1 I3 (((st1 []).c y0).trans (st23.c j2)) (by rw[hre];exact⟨M,_,hA3⟩)
     rw[hre]at hres
     exact hres
  .rw[mc (j4 h1)]
   have e:parts (L p)=none:=by
    cases h:parts (L p)with
    | none=>rfl
    | some ps=>exact mt (vE.2 ⟨ps,h⟩) h1
   exact same 20 (by unfold kn;rw[mc (.inr e)])