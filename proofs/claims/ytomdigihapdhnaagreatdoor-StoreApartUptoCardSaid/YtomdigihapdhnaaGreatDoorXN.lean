import Derived.Test.YtomdigihapdhnaaGreatDoorXM
set_option linter.all false
set_option maxRecDepth 99999
set_option maxHeartbeats 0
open Go.IntKind(i64)
open Go.Proofs.Tryz
namespace Go.Proofs.YtomdigihapdhnaaGreatDoor
namespace G
open Go SL
variable{B:ZB}{ro I:AH}
def yD(B:ZB)(ro:AH)(u0:Nat)(u1:ZO)(Q:Sl->Int->AH->Prop)(I:AH):=
 ∃u2,qa ro I ((⟨u0,0,none⟩:Addr).add 11)=some (.int .i64 u2)/\
 nw ro I (.cells #[.int .i64 u2] 3) fun u3 I=>
 wZ B ro u1 (⟨some ⟨u3,0,none⟩,1,1⟩:Sl) I fun I=>
 aas B ro u1 I fun u4 u5 I=>
 if¬(u5=0)then
 Q (⟨none,0,0⟩:Sl) 170 I
 else
 Q u4 0 I
def yE(B:ZB)(ro:AH)(u0:Nat)(u1:ZO)(u2:Sl)(Q:Sl->Int->AH->Prop):Int->AH->(Int->AH->Prop)->Prop:=fun u3 I Y34=>
 if u3<(u2.len:Int)then
 ∃p4,u2.a=some p4/\(0:Int)<=u3/\u3<(u2.len:Int)/\
 ∃u5 u6 u7,qe ro I (p4.add (Int.toNat u3*3)) 0 [.int .i64 u5,.int .i64 u6,.string u7]/\
 nw ro I (.cells #[.int .i64 0,.int .i64 0,.string ByteArray.empty] 132) fun u8 I=>
 stN ⟨u8,0,none⟩ (fun I=>
  ∃u9,qa ro I ⟨u8,0,none⟩=some (.int .i64 u9)/\
  ∃u10,qa ro I ((⟨u8,0,none⟩:Addr).add 1)=some (.int .i64 u10)/\
  nw ro I (.cells #[.int .i64 u9,.int .i64 u10] 3) fun u11 I=>
  wZ B ro u1 (⟨some ⟨u11,0,none⟩,2,2⟩:Sl) I fun I=>
  ∃u12,qa ro I ((⟨u8,0,none⟩:Addr).add 2)=some (.string u12)/\
  nw ro I (.cells #[.string u12] 9) fun u13 I=>
  vy B ro u1 (⟨some ⟨u13,0,none⟩,1,1⟩:Sl) I fun I=>
  Y34 (i64.wrap (u3+1)) I) [.int .i64 u5,.int .i64 u6,.string u7] 0 I
 else
 yD B ro u0 u1 Q I
def yF(B:ZB)(ro:AH)(u0:Nat)(u1:ZO)(Q:Sl->Int->AH->Prop)(I:AH):=
 ∃u2,qa ro I ((⟨u0,0,none⟩:Addr).add 3)=some (.int .i64 u2)/\
 nw ro I (.cells #[.int .i64 (i64.wrap (u2+1))] 3) fun u3 I=>
 wZ B ro u1 (⟨some ⟨u3,0,none⟩,1,1⟩:Sl) I fun I=>
 ∃u4,qa ro I ((⟨u0,0,none⟩:Addr).add 4)=some (Sl.v u4)/\
 nw ro I (.cells #[Sl.v u4] 24) fun u5 I=>
 jR B ro u1 (⟨some ⟨u5,0,none⟩,1,1⟩:Sl) I fun I=>
 ∃u6,qa ro I ((⟨u0,0,none⟩:Addr).add 5)=some (.int .i64 u6)/\
 ∃u7,qa ro I (((⟨u0,0,none⟩:Addr).add 5).add 1)=some (.int .i64 u7)/\
 ∃u8,qa ro I (((⟨u0,0,none⟩:Addr).add 5).add 2)=some (.int .i64 u8)/\
 ∃u9,qa ro I (((⟨u0,0,none⟩:Addr).add 5).add 3)=some (.int .i64 u9)/\
 ∃u10,qa ro I ((⟨u0,0,none⟩:Addr).add 9)=some (Sl.v u10)/\
 nw ro I (.cells #[.int .i64 u6,.int .i64 u7,.int .i64 u8,.int .i64 u9,.int .i64 (u10.len:Int)] 3) fun u11 I=>
 wZ B ro u1 (⟨some ⟨u11,0,none⟩,5,5⟩:Sl) I fun I=>
 ∃u12,qa ro I ((⟨u0,0,none⟩:Addr).add 9)=some (Sl.v u12)/\
 vy B ro u1 u12 I fun I=>
 ∃u13,qa ro I ((⟨u0,0,none⟩:Addr).add 10)=some (Sl.v u13)/\
 nw ro I (.cells #[.int .i64 (u13.len:Int)] 3) fun u14 I=>
 wZ B ro u1 (⟨some ⟨u14,0,none⟩,1,1⟩:Sl) I fun I=>
 ∃u15,qa ro I ((⟨u0,0,none⟩:Addr).add 10)=some (Sl.v u15)/\
 lfpD (yE B ro u0 u1 u15 Q) (0) I
def yG(B:ZB)(ro:AH)(u0:Nat)(u1:ZO)(u2:Sl)(Q:Sl->Int->AH->Prop):Int->AH->(Int->AH->Prop)->Prop:=fun u3 I Y45=>
 if u3<(u2.len:Int)then
 ∃p4,u2.a=some p4/\(0:Int)<=u3/\u3<(u2.len:Int)/\
 ∃u5 u6,qe ro I (p4.add (Int.toNat u3*2)) 0 [.string u5,.int .i64 u6]/\
 nw ro I (.cells #[.string ByteArray.empty,.int .i64 0] 128) fun u7 I=>
 stN ⟨u7,0,none⟩ (fun I=>
  ∃u8,qa ro I ⟨u7,0,none⟩=some (.string u8)/\
  nw ro I (.cells #[.string u8] 9) fun u9 I=>
  vy B ro u1 (⟨some ⟨u9,0,none⟩,1,1⟩:Sl) I fun I=>
  ∃u10,qa ro I ((⟨u7,0,none⟩:Addr).add 1)=some (.int .i64 u10)/\
  nw ro I (.cells #[.int .i64 u10] 3) fun u11 I=>
  wZ B ro u1 (⟨some ⟨u11,0,none⟩,1,1⟩:Sl) I fun I=>
  Y45 (i64.wrap (u3+1)) I) [.string u5,.int .i64 u6] 0 I
 else
 yF B ro u0 u1 Q I
def xk(B:ZB)(ro:AH)(u0:Nat)(Q:Sl->Int->AH->Prop)(u1:Bool)(I:AH):=
 if u1=true then
 Q (⟨none,0,0⟩:Sl) 170 I
 else
 aaY B ro I fun u2 I=>
 ∃u3,qa ro I ⟨u0,0,none⟩=some (.int .i64 u3)/\
 ∃u4,qa ro I ((⟨u0,0,none⟩:Addr).add 1)=some (.int .i64 u4)/\
 ∃u5,qa ro I ((⟨u0,0,none⟩:Addr).add 2)=some (Sl.v u5)/\
 nw ro I (.cells #[.int .i64 u3,.int .i64 u4,.int .i64 (u5.len:Int)] 3) fun u6 I=>
 wZ B ro u2 (⟨some ⟨u6,0,none⟩,3,3⟩:Sl) I fun I=>
 ∃u7,qa ro I ((⟨u0,0,none⟩:Addr).add 2)=some (Sl.v u7)/\
 lfpD (yG B ro u0 u2 u7 Q) (0) I
def xl(B:ZB)(ro:AH)(u0:Nat)(Q:Sl->Int->AH->Prop)(u1:Bool)(I:AH):=
 if u1=true then
 xk B ro u0 Q true I
 else
 ∃u2,qa ro I ((⟨u0,0,none⟩:Addr).add 3)=some (.int .i64 u2)/\
 xk B ro u0 Q (decide (4611686018427387903<=u2)) I
def xm(B:ZB)(ro:AH)(u0:Nat)(Q:Sl->Int->AH->Prop)(u1:Bool)(I:AH):=
 if u1=true then
 xl B ro u0 Q true I
 else
 ∃u2,qa ro I ((⟨u0,0,none⟩:Addr).add 10)=some (Sl.v u2)/\
 xl B ro u0 Q (decide (32<(u2.len:Int))) I
def adN(B:ZB)(ro:AH)(a0_0 a0_1:Int)(a0_2:Sl)(a0_3:Int)(a0_4:Sl)(a0_5 a0_6 a0_7 a0_8:Int)(a0_9 a0_10:Sl)(a0_11:Int)(I:AH)(Q:Sl->Int->AH->Prop):=
 nw ro I (.cells #[.int .i64 a0_0,.int .i64 a0_1,Sl.v a0_2,.int .i64 a0_3,Sl.v a0_4,.int .i64 a0_5,.int .i64 a0_6,.int .i64 a0_7,.int .i64 a0_8,Sl.v a0_9,Sl.v a0_10,.int .i64 a0_11] 30) fun u0 I=>
 ∃u1,qa ro I ((⟨u0,0,none⟩:Addr).add 2)=some (Sl.v u1)/\
 if 16<(u1.len:Int)then
 xm B ro u0 Q true I
 else
 ∃u2,qa ro I ((⟨u0,0,none⟩:Addr).add 9)=some (Sl.v u2)/\
 xm B ro u0 Q (decide (4096<(u2.len:Int))) I
def akF{a0_0 a0_1 a0_2 a0_3 a0_4 a0_5 a0_6 a0_7 a0_8 a0_9 a0_10 a0_11 Q}(h:Sep ro I->adN B ro a0_0 a0_1 a0_2 a0_3 a0_4 a0_5 a0_6 a0_7 a0_8 a0_9 a0_10 a0_11 I Q):ads B ro a0_0 a0_1 a0_2 a0_3 a0_4 a0_5 a0_6 a0_7 a0_8 a0_9 a0_10 a0_11 I Q:=by
 refine zb h func12 ntmps12 fun h=>?_;unfold adN at h;refine zw ?_;refine zAp (wt rfl rfl) h fun u0 h=>?_;refine AW.seq ?_;refine zf mi aeI ?_;refine zL nM h fun u1 h=>?_;refine zm (qC rfl rfl nM rfl rfl) ?_;refine zw ?_;refine qI 5 (decide (16<(u1.len:Int))) me h (fun fr I=> ∃(u2:Bool),qo [(1,.pointer (some ⟨u0,0,none⟩)),(20,.bool u2)] fr/\xm B ro u0 Q u2 I) ?_ ?_ ?_
 .intro h e4 hk4;refine zv e4 ?_;exact hk4 _ _ ⟨_,FL,h⟩
 .intro h e4 hk4;refine qO (qW rfl mi rfl aeJ y1 rfl) rfl rfl rfl rfl e4 ?_
  obtain⟨u3,hc,h⟩:=h
  refine Lyb rfl rfl rfl rfl e4 (vc rfl mx rfl rfl hc ?_)
  refine qO (qC rfl rfl mx rfl rfl) rfl rfl rfl rfl e4 ?_
  refine zv e4 ?_;exact hk4 _ _ ⟨_,FL,h⟩
 rintro fr I ⟨u2,hl,h⟩;unfold xm at h;refine Lfr hl ?_
 refine zw ?_;refine qI 5 u2 Iff.rfl h (fun fr I=> ∃(u4:Bool),qo [(1,.pointer (some ⟨u0,0,none⟩)),(26,.bool u4)] fr/\xl B ro u0 Q u4 I) ?_ ?_ ?_
 .intro h e10 hk10;refine zv e10 ?_;exact hk10 _ _ ⟨_,FL,h⟩
 .intro h e10 hk10;refine qO (qW rfl mi rfl aaA y1 rfl) rfl rfl rfl rfl e10 ?_
  obtain⟨u5,hc,h⟩:=h
  refine Lyb rfl rfl rfl rfl e10 (vc rfl nf rfl rfl hc ?_)
  refine qO (qC rfl rfl nf rfl rfl) rfl rfl rfl rfl e10 ?_
  refine zv e10 ?_;exact hk10 _ _ ⟨_,FL,h⟩
 rintro fr I ⟨u4,hl,h⟩;unfold xl at h;refine Lfr hl ?_
 refine zw ?_;refine qI 4 u4 Iff.rfl h (fun fr I=> ∃(u6:Bool),qo [(1,.pointer (some ⟨u0,0,none⟩)),(31,.bool u6)] fr/\xk B ro u0 Q u6 I) ?_ ?_ ?_
 .intro h e16 hk16;refine zv e16 ?_;exact hk16 _ _ ⟨_,FL,h⟩
 .intro h e16 hk16;refine qO (qW rfl mi rfl ty3 y1 rfl) rfl rfl rfl rfl e16 ?_
  obtain⟨u7,hc,h⟩:=h
  refine Lyb rfl rfl rfl rfl e16 (vc rfl mf rfl rfl hc ?_)
  refine zv e16 ?_;exact hk16 _ _ ⟨_,FL,h⟩
 rintro fr I ⟨u6,hl,h⟩;unfold xk at h;refine Lfr hl ?_
 refine zj h (fun h=>?_) fun h=>?_
 .exact zrr h
 refine zc func43 h ?_;rintro v I ⟨u8,rfl,h⟩;refine zf mi afx ?_;refine zL LW h fun u9 h=>?_;refine zf mi ty3 ?_;refine zL mf h fun u10 h=>?_;refine zf mi aeI ?_;refine zL nM h fun u11 h=>?_;refine zm (qC rfl rfl nM rfl rfl) ?_;refine zA (wj (vs:=[(0,.int .i64 u9),(1,.int .i64 u10),(2,.int .i64 (u11.len:Int))]) (cs:= #[.int .i64 u9,.int .i64 u10,.int .i64 (u11.len:Int)]) rfl mO ty3 y1 rfl rfl) h fun u12 h=>?_
 refine zc func44 h ?_;rintro v I ⟨rfl,h⟩;refine zw ?_;refine AW.seqJ (fun fr I=>qo [(1,.pointer (some ⟨u0,0,none⟩)),(4,.pointer u8)] fr/\yF B ro u0 u8 Q I) ?_ ?_
 rotate_left
 .refine zf mi aeI ?_;refine zL nM h fun u13 h=>?_;refine zm (qC rfl rfl nM rfl rfl) ?_;refine zw ?_;refine qi.loop (fr':=[(1,.pointer (some ⟨u0,0,none⟩)),(4,.pointer u8),(44,Sl.v u13),(45,.int .i64 (u13.len:Int)),(46,.int .i64 0)]) ?_ FL
  refine h (fun u14 I=>qi _ _ _ _ _ _ [(1,.pointer (some ⟨u0,0,none⟩)),(4,.pointer u8),(44,Sl.v u13),(45,.int .i64 (u13.len:Int)),(46,.int .i64 u14)] I) ?_
  rintro u14 I Y45 hY45 h
  show AW _ _ _ _ _ _ _ _
  unfold yG at h;refine zw ?_;refine AW.seq ?_;refine zi h (fun h=>?_) fun h=>?_
  rotate_left
  .refine AW.exit ?_;refine zw ?_;refine qX ?_
   refine zw ?_;exact⟨FL,h⟩
  refine zw ?_;refine AW.seq ?_;refine zw ?_;obtain⟨p15,ha,h0,h1,h⟩:=h
  refine zm (wO rfl nM abM (ixL rfl ha) rfl h0 h1) ?_;obtain⟨u16,u17,hc,h⟩:=h
  refine zl (wq rfl Lc rfl abM rfl hc ?_)
  refine zA (qT rfl abM) h fun u18 h=>?_;refine zs abM h fun I h=>?_;refine zf Lc ty9 ?_;refine zL mo h fun u19 h=>?_;refine zA (wj (vs:=[(0,.string u19)]) (cs:= #[.string u19]) rfl mx ty9 y1 rfl rfl) h fun u20 h=>?_;refine zc func45 h ?_;rintro v I ⟨rfl,h⟩;refine zf Lc ty3 ?_;refine zL mf h fun u21 h=>?_
  refine zA (wj (vs:=[(0,.int .i64 u21)]) (cs:= #[.int .i64 u21]) rfl mO ty3 y1 rfl rfl) h fun u22 h=>?_;refine zc func44 h ?_;rintro v I ⟨rfl,h⟩;refine zw ?_;refine qi.head (fr':=[(1,.pointer (some ⟨u0,0,none⟩)),(4,.pointer u8),(44,Sl.v u13),(45,.int .i64 (u13.len:Int)),(46,.int .i64 (i64.wrap (u14+1)))]) ?_ FL
  exact hY45 _ _ h
 rintro fr I ⟨hl,h⟩;refine AW.weaken ?_ hl (HLe.refl _)
 unfold yF at h;refine zf mi ty3 ?_;refine zLp mf h fun u23 h=>?_;refine zA (wj (vs:=[(0,.int .i64 (i64.wrap (u23+1)))]) (cs:= #[.int .i64 (i64.wrap (u23+1))]) rfl mO ty3 y1 rfl rfl) h fun u24 h=>?_;refine zc func44 h ?_;rintro v I ⟨rfl,h⟩;refine zf mi wg ?_;refine zL mn h fun u25 h=>?_;refine zA (wj (vs:=[(0,Sl.v u25)]) (cs:= #[Sl.v u25]) rfl nW wg y1 rfl rfl) h fun u26 h=>?_
 refine zc func46 h ?_;rintro v I ⟨rfl,h⟩;refine zf mi wx ?_;refine zf mE ty3 ?_;refine zL mf h fun u27 h=>?_;refine zf mi wx ?_;refine zf mE ty3 ?_;refine zL mf h fun u28 h=>?_;refine zf mi wx ?_;refine zf mE ty3 ?_;refine zL mf h fun u29 h=>?_;refine zf mi wx ?_;refine zf mE ty3 ?_
 refine zL mf h fun u30 h=>?_;refine zf mi aeJ ?_;refine zL mx h fun u31 h=>?_;refine zm (qC rfl rfl mx rfl rfl) ?_;refine zA (wj (vs:=[(0,.int .i64 u27),(1,.int .i64 u28),(2,.int .i64 u29),(3,.int .i64 u30),(4,.int .i64 (u31.len:Int))]) (cs:= #[.int .i64 u27,.int .i64 u28,.int .i64 u29,.int .i64 u30,.int .i64 (u31.len:Int)]) rfl mO ty3 y1 rfl rfl) h fun u32 h=>?_
 refine zc func44 h ?_;rintro v I ⟨rfl,h⟩;refine zf mi aeJ ?_;refine zL mx h fun u33 h=>?_;refine zc func45 h ?_;rintro v I ⟨rfl,h⟩;refine zf mi aaA ?_;refine zL nf h fun u34 h=>?_;refine zm (qC rfl rfl nf rfl rfl) ?_;refine zA (wj (vs:=[(0,.int .i64 (u34.len:Int))]) (cs:= #[.int .i64 (u34.len:Int)]) rfl mO ty3 y1 rfl rfl) h fun u35 h=>?_
 refine zc func44 h ?_;rintro v I ⟨rfl,h⟩;refine zw ?_;refine AW.seqJ (fun fr I=>qo [(1,.pointer (some ⟨u0,0,none⟩)),(4,.pointer u8)] fr/\yD B ro u0 u8 Q I) ?_ ?_
 .rintro fr I ⟨hl,h⟩;refine AW.weaken ?_ hl (HLe.refl _)
  unfold yD at h;refine zf mi ty3 ?_;refine zL mf h fun u36 h=>?_;refine zA (wj (vs:=[(0,.int .i64 u36)]) (cs:= #[.int .i64 u36]) rfl mO ty3 y1 rfl rfl) h fun u37 h=>?_;refine zc func44 h ?_;rintro v I ⟨rfl,h⟩;refine zc func47 h ?_;rintro v I ⟨u38,u39,rfl,h⟩;refine zw ?_;refine AW.seq ?_;refine zw ?_;refine AW.iff rfl (qu me) h (fun h=>?_) (fun h=>?_)
  .exact zrr h
  exact zrr h
 refine zf mi aaA ?_;refine zL nf h fun u40 h=>?_;refine zm (qC rfl rfl nf rfl rfl) ?_;refine zw ?_;refine qi.loop (fr':=[(1,.pointer (some ⟨u0,0,none⟩)),(4,.pointer u8),(101,Sl.v u40),(102,.int .i64 (u40.len:Int)),(103,.int .i64 0)]) ?_ FL
 refine h (fun u41 I=>qi _ _ _ _ _ _ [(1,.pointer (some ⟨u0,0,none⟩)),(4,.pointer u8),(101,Sl.v u40),(102,.int .i64 (u40.len:Int)),(103,.int .i64 u41)] I) ?_
 rintro u41 I Y34 hY34 h
 show AW _ _ _ _ _ _ _ _
 unfold yE at h;refine zw ?_;refine AW.seq ?_;refine zi h (fun h=>?_) fun h=>?_
 rotate_left
 .refine AW.exit ?_;refine zw ?_;refine qX ?_
  refine zw ?_;exact⟨FL,h⟩
 refine zw ?_;refine AW.seq ?_;refine zw ?_;obtain⟨p42,ha,h0,h1,h⟩:=h
 refine zm (wO rfl nf xJ (ixL rfl ha) rfl h0 h1) ?_;obtain⟨u43,u44,u45,hc,h⟩:=h
 refine zl (wq rfl nG rfl xJ rfl hc ?_)
 refine zA (qT rfl xJ) h fun u46 h=>?_;refine zs xJ h fun I h=>?_;refine zf nG ty3 ?_;refine zL mf h fun u47 h=>?_;refine zf nG ty3 ?_;refine zL mf h fun u48 h=>?_;refine zA (wj (vs:=[(0,.int .i64 u47),(1,.int .i64 u48)]) (cs:= #[.int .i64 u47,.int .i64 u48]) rfl mO ty3 y1 rfl rfl) h fun u49 h=>?_;refine zc func44 h ?_
 rintro v I ⟨rfl,h⟩;refine zf nG ty9 ?_;refine zL mo h fun u50 h=>?_;refine zA (wj (vs:=[(0,.string u50)]) (cs:= #[.string u50]) rfl mx ty9 y1 rfl rfl) h fun u51 h=>?_;refine zc func45 h ?_;rintro v I ⟨rfl,h⟩;refine zw ?_;refine qi.head (fr':=[(1,.pointer (some ⟨u0,0,none⟩)),(4,.pointer u8),(101,Sl.v u40),(102,.int .i64 (u40.len:Int)),(103,.int .i64 (i64.wrap (u41+1)))]) ?_ FL
 exact hY34 _ _ h
def jb(B:ZB)(ro:AH)(u0 u1:Nat)(u2 u3 u4:Int)(Q:Int->Int->Sl->Int->Sl->Int->Int->Int->Int->Sl->Sl->Int->Int->AH->Prop)(u5:Bool)(I:AH):=
 if(((u5=true)\/(16<u2))\/(4096<u3))\/(32<u4)then
 stN ⟨u0,0,none⟩ (fun I=>
  ∃u6 u7 u8 u9 u10 u11 u12 u13 u14 u15 u16 u17,qe ro I ⟨u0,0,none⟩ 0 [.int .i64 u6,.int .i64 u7,Sl.v u8,.int .i64 u9,Sl.v u10,.int .i64 u11,.int .i64 u12,.int .i64 u13,.int .i64 u14,Sl.v u15,Sl.v u16,.int .i64 u17]/\
  Q u6 u7 u8 u9 u10 u11 u12 u13 u14 u15 u16 u17 13 I) [.int .i64 0,.int .i64 0,Sl.v (⟨none,0,0⟩:Sl),.int .i64 0,Sl.v (⟨none,0,0⟩:Sl),.int .i64 0,.int .i64 0,.int .i64 0,.int .i64 0,Sl.v (⟨none,0,0⟩:Sl),Sl.v (⟨none,0,0⟩:Sl),.int .i64 0] 0 I
 else
 ∃u18 u19 u20 u21 u22 u23 u24 u25 u26 u27 u28 u29,qe ro I ⟨u1,0,none⟩ 0 [.int .i64 u18,.int .i64 u19,Sl.v u20,.int .i64 u21,Sl.v u22,.int .i64 u23,.int .i64 u24,.int .i64 u25,.int .i64 u26,Sl.v u27,Sl.v u28,.int .i64 u29]/\
 stN ⟨u0,0,none⟩ (fun I=>
 ∃u30 u31 u32 u33 u34 u35 u36 u37 u38 u39 u40 u41,qe ro I ⟨u0,0,none⟩ 0 [.int .i64 u30,.int .i64 u31,Sl.v u32,.int .i64 u33,Sl.v u34,.int .i64 u35,.int .i64 u36,.int .i64 u37,.int .i64 u38,Sl.v u39,Sl.v u40,.int .i64 u41]/\
 Q u30 u31 u32 u33 u34 u35 u36 u37 u38 u39 u40 u41 0 I) [.int .i64 u18,.int .i64 u19,Sl.v u20,.int .i64 u21,Sl.v u22,.int .i64 u23,.int .i64 u24,.int .i64 u25,.int .i64 u26,Sl.v u27,Sl.v u28,.int .i64 u29] 0 I
def yH(B:ZB)(ro:AH)(u0 u1:Nat)(u2:ZO)(u3 u4 u5:Int)(Q:Int->Int->Sl->Int->Sl->Int->Int->Int->Int->Sl->Sl->Int->Int->AH->Prop)(I:AH):=
 qN B ro u2 I fun u6 I=>
 stN ((⟨u1,0,none⟩:Addr).add 11) (fun I=>
 aat B ro u2 I fun u7 I=>
 if¬(u7=0)then
  jb B ro u0 u1 u3 u4 u5 Q true I
 else
 uH B ro u2 I fun u8 I=>
 jb B ro u0 u1 u3 u4 u5 Q (decide (0<u8)) I) [.int .i64 u6] 0 I
def yI(B:ZB)(ro:AH)(u0 u1:Nat)(u2:ZO)(u3 u4 u5:Int)(Q:Int->Int->Sl->Int->Sl->Int->Int->Int->Int->Sl->Sl->Int->Int->AH->Prop):Int->AH->(Int->AH->Prop)->Prop:=fun u6 I Y26=>
 if u6<(if 32<u5 then 32 else u5)then
 jX I fun ψ I=>
  ∃u7,qa (join ro ψ) (fun _=>none) ((⟨u1,0,none⟩:Addr).add 10)=some (Sl.v u7)/\
  qN B (join ro ψ) u2 I fun u8 I=>
  qN B (join ro ψ) u2 I fun u9 I=>
  xT B (join ro ψ) u2 I fun u10 I=>
  nw (join ro ψ) I (.cells #[.int .i64 u8,.int .i64 u9,.string u10] 132) fun u11 I=>
  (qL ψ I->(fun I=>
  awp prog ro (Builtin.append_ #[28,28] 28 #[Sl.v u7,Sl.v (⟨some ⟨u11,0,none⟩,1,1⟩:Sl)]) (fun v I=> ∃(u12:Sl),v=Sl.v u12/\
   stN ((⟨u1,0,none⟩:Addr).add 10) (fun I=>
   Y26 (i64.wrap (u6+1)) I) [Sl.v u12] 0 I) I) (join ψ I))
 else
 yH B ro u0 u1 u2 u3 u4 u5 Q I
def uW(B:ZB)(ro:AH)(u0 u1:Nat)(u2:ZO)(u3 u4:Int)(Q:Int->Int->Sl->Int->Sl->Int->Int->Int->Int->Sl->Sl->Int->Int->AH->Prop)(I:AH):=
 qN B ro u2 I fun u5 I=>
 lfpD (yI B ro u0 u1 u2 u3 u4 u5 Q) (0) I
def yJ(B:ZB)(ro:AH)(u0 u1:Nat)(u2:ZO)(u3 u4:Int)(Q:Int->Int->Sl->Int->Sl->Int->Int->Int->Int->Sl->Sl->Int->Int->AH->Prop):Int->AH->(Int->AH->Prop)->Prop:=fun u5 I Y34=>
 if u5<(if 4096<u4 then 4096 else u4)then
 jX I fun ψ I=>
  ∃u6,qa (join ro ψ) (fun _=>none) ((⟨u1,0,none⟩:Addr).add 9)=some (Sl.v u6)/\
  xT B (join ro ψ) u2 I fun u7 I=>
  nw (join ro ψ) I (.cells #[.string u7] 9) fun u8 I=>
  (qL ψ I->(fun I=>
  awp prog ro (Builtin.append_ #[27,27] 27 #[Sl.v u6,Sl.v (⟨some ⟨u8,0,none⟩,1,1⟩:Sl)]) (fun v I=> ∃(u9:Sl),v=Sl.v u9/\
   stN ((⟨u1,0,none⟩:Addr).add 9) (fun I=>
   Y34 (i64.wrap (u5+1)) I) [Sl.v u9] 0 I) I) (join ψ I))
 else
 uW B ro u0 u1 u2 u3 u4 Q I
def po(B:ZB)(ro:AH)(u0 u1:Nat)(u2:ZO)(u3:Int)(Q:Int->Int->Sl->Int->Sl->Int->Int->Int->Int->Sl->Sl->Int->Int->AH->Prop)(I:AH):=
 qN B ro u2 I fun u4 I=>
 stN ((⟨u1,0,none⟩:Addr).add 3) (fun I=>
 yv B ro u2 I fun u5 I=>
 stN ((⟨u1,0,none⟩:Addr).add 4) (fun I=>
  qN B ro u2 I fun u6 I=>
  qN B ro u2 I fun u7 I=>
  qN B ro u2 I fun u8 I=>
  qN B ro u2 I fun u9 I=>
  stN ((⟨u1,0,none⟩:Addr).add 5) (fun I=>
  qN B ro u2 I fun u10 I=>
  lfpD (yJ B ro u0 u1 u2 u3 u10 Q) (0) I) [.int .i64 u6,.int .i64 u7,.int .i64 u8,.int .i64 u9] 0 I) [Sl.v u5] 0 I) [.int .i64 (i64.wrap (u4 - 1))] 0 I
def yK(B:ZB)(ro:AH)(u0 u1:Nat)(u2:ZO)(u3:Int)(Q:Int->Int->Sl->Int->Sl->Int->Int->Int->Int->Sl->Sl->Int->Int->AH->Prop):Int->AH->(Int->AH->Prop)->Prop:=fun u4 I Y40=>
 if u4<(if 16<u3 then 16 else u3)then
 jX I fun ψ I=>
  ∃u5,qa (join ro ψ) (fun _=>none) ((⟨u1,0,none⟩:Addr).add 2)=some (Sl.v u5)/\
  xT B (join ro ψ) u2 I fun u6 I=>
  qN B (join ro ψ) u2 I fun u7 I=>
  nw (join ro ψ) I (.cells #[.string u6,.int .i64 u7] 128) fun u8 I=>
  (qL ψ I->(fun I=>
  awp prog ro (Builtin.append_ #[23,23] 23 #[Sl.v u5,Sl.v (⟨some ⟨u8,0,none⟩,1,1⟩:Sl)]) (fun v I=> ∃(u9:Sl),v=Sl.v u9/\
   stN ((⟨u1,0,none⟩:Addr).add 2) (fun I=>
   Y40 (i64.wrap (u4+1)) I) [Sl.v u9] 0 I) I) (join ψ I))
 else
 po B ro u0 u1 u2 u3 Q I
def adO(B:ZB)(ro:AH)(a0:Sl)(I:AH)(Q:Int->Int->Sl->Int->Sl->Int->Int->Int->Int->Sl->Sl->Int->Int->AH->Prop):=
 nw ro I (.cells #[.int .i64 0,.int .i64 0,Sl.v (⟨none,0,0⟩:Sl),.int .i64 0,Sl.v (⟨none,0,0⟩:Sl),.int .i64 0,.int .i64 0,.int .i64 0,.int .i64 0,Sl.v (⟨none,0,0⟩:Sl),Sl.v (⟨none,0,0⟩:Sl),.int .i64 0] 30) fun u0 I=>
 aaZ B ro a0 I fun u1 I=>
 qN B ro u1 I fun u2 I=>
 qN B ro u1 I fun u3 I=>
 nw ro I (.cells #[.int .i64 0,.int .i64 0,Sl.v (⟨none,0,0⟩:Sl),.int .i64 0,Sl.v (⟨none,0,0⟩:Sl),.int .i64 0,.int .i64 0,.int .i64 0,.int .i64 0,Sl.v (⟨none,0,0⟩:Sl),Sl.v (⟨none,0,0⟩:Sl),.int .i64 0] 30) fun u4 I=>
 stN ⟨u4,0,none⟩ (fun I=>
 qN B ro u1 I fun u5 I=>
 lfpD (yK B ro u0 u4 u1 u5 Q) (0) I) [.int .i64 u2,.int .i64 u3,Sl.v (⟨none,0,0⟩:Sl),.int .i64 0,Sl.v (⟨none,0,0⟩:Sl),.int .i64 0,.int .i64 0,.int .i64 0,.int .i64 0,Sl.v (⟨none,0,0⟩:Sl),Sl.v (⟨none,0,0⟩:Sl),.int .i64 0] 0 I
def akG{a0 Q}(h:Sep ro I->adO B ro a0 I Q):adt B ro a0 I Q:=by
 refine zb h func15 ntmps15 fun h=>?_;unfold adO at h;refine zw ?_;refine zA (qT rfl qM) h fun u0 h=>?_;refine zc func53 h ?_;rintro v I ⟨u1,rfl,h⟩;refine zc func54 h ?_;rintro v I ⟨u2,rfl,h⟩;refine zc func54 h ?_;rintro v I ⟨u3,rfl,h⟩;refine zm (wB (vs:=[(0,.int .i64 u2),(1,.int .i64 u3)]) (cs:= #[.int .i64 u2,.int .i64 u3,Sl.v (⟨none,0,0⟩:Sl),.int .i64 0,Sl.v (⟨none,0,0⟩:Sl),.int .i64 0,.int .i64 0,.int .i64 0,.int .i64 0,Sl.v (⟨none,0,0⟩:Sl),Sl.v (⟨none,0,0⟩:Sl),.int .i64 0]) rfl mi qM agn rfl j0) ?_
 refine zA (qT rfl qM) h fun u4 h=>?_;refine zs qM h fun I h=>?_;refine zC func54 h fun u5 I h=>?_;refine AW.seqJ (fun fr I=>qo [(2,.pointer (some ⟨u0,0,none⟩)),(4,.pointer u1),(5,.pointer (some ⟨u4,0,none⟩)),(6,.int .i64 u5)] fr/\po B ro u0 u4 u1 u5 Q I) ?_ ?_
 rotate_left
 .refine zw ?_;refine zm (aoA rfl rfl) ?_;refine zw ?_;refine qi.loop (fr':=[(2,.pointer (some ⟨u0,0,none⟩)),(4,.pointer u1),(5,.pointer (some ⟨u4,0,none⟩)),(6,.int .i64 u5),(19,.int .i64 (if 16<u5 then 16 else u5)),(20,.int .i64 0)]) ?_ FL
  refine h (fun u6 I=>qi _ _ _ _ _ _ [(2,.pointer (some ⟨u0,0,none⟩)),(4,.pointer u1),(5,.pointer (some ⟨u4,0,none⟩)),(6,.int .i64 u5),(19,.int .i64 (if 16<u5 then 16 else u5)),(20,.int .i64 u6)] I) ?_
  rintro u6 I Y40 hY40 h
  show AW _ _ _ _ _ _ _ _
  unfold yK at h;refine zw ?_;refine AW.seq ?_;refine zi h (fun h=>?_) fun h=>?_
  rotate_left
  .refine AW.exit ?_;refine zw ?_;refine qX ?_
   refine zw ?_;exact⟨FL,h⟩
  refine zw ?_;refine AW.seq ?_;refine zw ?_;refine AW.drawn2 (fun i=>([0,0,0,2,0,2,0,1,2,0,2]:List Nat).getD i 2) [(0,1),(0,8),(2,3),(2,6),(2,7),(2,8),(3,6),(3,7),(3,8),(4,5),(4,6),(4,7),(4,8),(6,7),(6,8)] [0,1,2,4,3,5,6,7] [8,9,10] mixed h j3 ?_
  clear h
  intro ψ I h
  refine zg mi aeI ?_;refine zS nM h fun u7 h=>?_;refine zG func55 h ?_;rintro v I ⟨u8,rfl,h⟩;refine zG func54 h ?_;rintro v I ⟨u9,rfl,h⟩;refine Dp rfl rfl rfl rfl (wB (vs:=[(0,.string u8),(1,.int .i64 u9)]) (cs:= #[.string u8,.int .i64 u9]) rfl Lc abM awU rfl rfl) ?_
  refine Da rfl rfl rfl rfl (wj (vs:=[(0,.agg #[.string u8,.int .i64 u9])]) (cs:= #[.string u8,.int .i64 u9]) rfl nM abM y1 rfl rfl) fun u10 g1 g2=>?_
  replace h:=h u10 g1 g2
  refine⟨_,wW.refl _,fun hdj=>?_⟩
  replace h:=h hdj
  refine Dg rfl rfl rfl rfl (vZ (s:=Builtin.append_ #[23,23] 23 #[Sl.v u7,Sl.v (⟨some ⟨u10,0,none⟩,1,1⟩:Sl)]) rfl rfl (fun _=>rfl) (qk _ h ?_))
  rintro v I ⟨u11,rfl,h⟩;refine zg mi aeI ?_;refine Dg rfl rfl rfl rfl (us rfl aeI rfl rfl rfl rfl (zY h fun I h=>?_))
  refine wG ?_
  refine zw ?_;refine qi.head (fr':=[(2,.pointer (some ⟨u0,0,none⟩)),(4,.pointer u1),(5,.pointer (some ⟨u4,0,none⟩)),(6,.int .i64 u5),(19,.int .i64 (if 16<u5 then 16 else u5)),(20,.int .i64 (i64.wrap (u6+1)))]) ?_ FL
  exact hY40 _ _ h
 rintro fr I ⟨hl,h⟩;refine AW.weaken ?_ hl (HLe.refl _)
 unfold po at h;refine zc func54 h ?_;rintro v I ⟨u12,rfl,h⟩;refine zf mi ty3 ?_;refine zs ty3 h fun I h=>?_;refine zc func56 h ?_;rintro v I ⟨u13,rfl,h⟩;refine zf mi wg ?_;refine zs wg h fun I h=>?_;refine zc func54 h ?_;rintro v I ⟨u14,rfl,h⟩;refine zc func54 h ?_;rintro v I ⟨u15,rfl,h⟩;refine zc func54 h ?_;rintro v I ⟨u16,rfl,h⟩
 refine zc func54 h ?_;rintro v I ⟨u17,rfl,h⟩;refine zm (wB (vs:=[(0,.int .i64 u14),(1,.int .i64 u15),(2,.int .i64 u16),(3,.int .i64 u17)]) (cs:= #[.int .i64 u14,.int .i64 u15,.int .i64 u16,.int .i64 u17]) rfl mE wx ato rfl rfl) ?_;refine zf mi wx ?_;refine zs wx h fun I h=>?_;refine zC func54 h fun u18 I h=>?_;refine AW.seqJ (fun fr I=>qo [(2,.pointer (some ⟨u0,0,none⟩)),(4,.pointer u1),(5,.pointer (some ⟨u4,0,none⟩)),(6,.int .i64 u5),(7,.int .i64 u18)] fr/\uW B ro u0 u4 u1 u5 u18 Q I) ?_ ?_
 rotate_left
 .refine zw ?_;refine zm (aoA rfl rfl) ?_;refine zw ?_;refine qi.loop (fr':=[(2,.pointer (some ⟨u0,0,none⟩)),(4,.pointer u1),(5,.pointer (some ⟨u4,0,none⟩)),(6,.int .i64 u5),(7,.int .i64 u18),(53,.int .i64 (if 4096<u18 then 4096 else u18)),(54,.int .i64 0)]) ?_ FL
  refine h (fun u19 I=>qi _ _ _ _ _ _ [(2,.pointer (some ⟨u0,0,none⟩)),(4,.pointer u1),(5,.pointer (some ⟨u4,0,none⟩)),(6,.int .i64 u5),(7,.int .i64 u18),(53,.int .i64 (if 4096<u18 then 4096 else u18)),(54,.int .i64 u19)] I) ?_
  rintro u19 I Y34 hY34 h
  show AW _ _ _ _ _ _ _ _
  unfold yJ at h;refine zw ?_;refine AW.seq ?_;refine zi h (fun h=>?_) fun h=>?_
  rotate_left
  .refine AW.exit ?_;refine zw ?_;refine qX ?_
   refine zw ?_;exact⟨FL,h⟩
  refine zw ?_;refine AW.seq ?_;refine zw ?_;refine AW.drawn2 (fun i=>([0,0,0,2,1,2,0,2]:List Nat).getD i 2) [(0,1),(0,5),(2,3),(2,4),(2,5)] [0,1,2,3,4] [5,6,7] mixed h j3 ?_
  clear h
  intro ψ I h
  refine zg mi aeJ ?_;refine zS mx h fun u20 h=>?_;refine zG func55 h ?_;rintro v I ⟨u21,rfl,h⟩;refine Da rfl rfl rfl rfl (wj (vs:=[(0,.string u21)]) (cs:= #[.string u21]) rfl mx ty9 y1 rfl rfl) fun u22 g1 g2=>?_
  replace h:=h u22 g1 g2
  refine⟨_,wW.refl _,fun hdj=>?_⟩
  replace h:=h hdj
  refine Dg rfl rfl rfl rfl (vZ (s:=Builtin.append_ #[27,27] 27 #[Sl.v u20,Sl.v (⟨some ⟨u22,0,none⟩,1,1⟩:Sl)]) rfl rfl (fun _=>rfl) (qk _ h ?_))
  rintro v I ⟨u23,rfl,h⟩;refine zg mi aeJ ?_;refine Dg rfl rfl rfl rfl (us rfl aeJ rfl rfl rfl rfl (zY h fun I h=>?_))
  refine wG ?_
  refine zw ?_;refine qi.head (fr':=[(2,.pointer (some ⟨u0,0,none⟩)),(4,.pointer u1),(5,.pointer (some ⟨u4,0,none⟩)),(6,.int .i64 u5),(7,.int .i64 u18),(53,.int .i64 (if 4096<u18 then 4096 else u18)),(54,.int .i64 (i64.wrap (u19+1)))]) ?_ FL
  exact hY34 _ _ h
 rintro fr I ⟨hl,h⟩;refine AW.weaken ?_ hl (HLe.refl _)
 unfold uW at h;refine zC func54 h fun u24 I h=>?_;refine AW.seqJ (fun fr I=>qo [(2,.pointer (some ⟨u0,0,none⟩)),(4,.pointer u1),(5,.pointer (some ⟨u4,0,none⟩)),(6,.int .i64 u5),(7,.int .i64 u18),(8,.int .i64 u24)] fr/\yH B ro u0 u4 u1 u5 u18 u24 Q I) ?_ ?_
 rotate_left
 .refine zw ?_;refine zm (aoA rfl rfl) ?_;refine zw ?_;refine qi.loop (fr':=[(2,.pointer (some ⟨u0,0,none⟩)),(4,.pointer u1),(5,.pointer (some ⟨u4,0,none⟩)),(6,.int .i64 u5),(7,.int .i64 u18),(8,.int .i64 u24),(67,.int .i64 (if 32<u24 then 32 else u24)),(68,.int .i64 0)]) ?_ FL
  refine h (fun u25 I=>qi _ _ _ _ _ _ [(2,.pointer (some ⟨u0,0,none⟩)),(4,.pointer u1),(5,.pointer (some ⟨u4,0,none⟩)),(6,.int .i64 u5),(7,.int .i64 u18),(8,.int .i64 u24),(67,.int .i64 (if 32<u24 then 32 else u24)),(68,.int .i64 u25)] I) ?_
  rintro u25 I Y26 hY26 h
  show AW _ _ _ _ _ _ _ _
  unfold yI at h;refine zw ?_;refine AW.seq ?_;refine zi h (fun h=>?_) fun h=>?_
  rotate_left
  .refine AW.exit ?_;refine zw ?_;refine qX ?_
   refine zw ?_;exact⟨FL,h⟩
  refine zw ?_;refine AW.seq ?_;refine zw ?_;refine AW.drawn2 (fun i=>([0,0,0,2,0,2,0,2,0,1,2,0,2]:List Nat).getD i 2) [(0,1),(0,10),(2,3),(2,8),(2,9),(2,10),(3,5),(3,7),(3,8),(3,9),(3,10),(4,5),(4,8),(4,9),(4,10),(5,8),(5,9),(5,10),(6,7),(6,8),(6,9),(6,10),(8,9),(8,10)] [0,1,2,4,6,3,5,7,8,9] [10,11,12] mixed h j3 ?_
  clear h
  intro ψ I h
  refine zg mi aaA ?_;refine zS nf h fun u26 h=>?_;refine zG func54 h ?_;rintro v I ⟨u27,rfl,h⟩;refine zG func54 h ?_;rintro v I ⟨u28,rfl,h⟩;refine zG func55 h ?_;rintro v I ⟨u29,rfl,h⟩;refine Dp rfl rfl rfl rfl (wB (vs:=[(0,.int .i64 u27),(1,.int .i64 u28),(2,.string u29)]) (cs:= #[.int .i64 u27,.int .i64 u28,.string u29]) rfl nG xJ auR rfl rfl) ?_
  refine Da rfl rfl rfl rfl (wj (vs:=[(0,.agg #[.int .i64 u27,.int .i64 u28,.string u29])]) (cs:= #[.int .i64 u27,.int .i64 u28,.string u29]) rfl nf xJ y1 rfl rfl) fun u30 g1 g2=>?_
  replace h:=h u30 g1 g2
  refine⟨_,wW.refl _,fun hdj=>?_⟩
  replace h:=h hdj
  refine Dg rfl rfl rfl rfl (vZ (s:=Builtin.append_ #[28,28] 28 #[Sl.v u26,Sl.v (⟨some ⟨u30,0,none⟩,1,1⟩:Sl)]) rfl rfl (fun _=>rfl) (qk _ h ?_))
  rintro v I ⟨u31,rfl,h⟩;refine zg mi aaA ?_;refine Dg rfl rfl rfl rfl (us rfl aaA rfl rfl rfl rfl (zY h fun I h=>?_))
  refine wG ?_
  refine zw ?_;refine qi.head (fr':=[(2,.pointer (some ⟨u0,0,none⟩)),(4,.pointer u1),(5,.pointer (some ⟨u4,0,none⟩)),(6,.int .i64 u5),(7,.int .i64 u18),(8,.int .i64 u24),(67,.int .i64 (if 32<u24 then 32 else u24)),(68,.int .i64 (i64.wrap (u25+1)))]) ?_ FL
  exact hY26 _ _ h
 rintro fr I ⟨hl,h⟩;refine AW.weaken ?_ hl (HLe.refl _)
 unfold yH at h;refine zc func54 h ?_;rintro v I ⟨u32,rfl,h⟩;refine zf mi ty3 ?_;refine zsp ty3 h fun I h=>?_;refine AW.seq ?_;refine zC func57 h fun u33 I h=>?_;refine qI 4 (!(decide (u33=0))) (qu me) h (fun fr I=> ∃(u34:Bool),qo [(2,.pointer (some ⟨u0,0,none⟩)),(5,.pointer (some ⟨u4,0,none⟩)),(6,.int .i64 u5),(7,.int .i64 u18),(8,.int .i64 u24),(93,.bool u34)] fr/\jb B ro u0 u4 u5 u18 u24 Q u34 I) ?_ ?_ ?_
 .intro h e3 hk3;refine zv e3 ?_;exact hk3 _ _ ⟨_,FL,h⟩
 .intro h e3 hk3;refine zy e3 ?_;refine Lyb rfl rfl rfl rfl e3 (kG rfl func58 rfl rfl rfl (qc.mono h ?_))
  rintro v I ⟨u35,rfl,h⟩;refine zv e3 ?_;exact hk3 _ _ ⟨_,FL,h⟩
 rintro fr I ⟨u34,hl,h⟩;unfold jb at h;refine Lfr hl ?_
 refine zw ?_;refine wY 3 u34 [(2,.pointer (some ⟨u0,0,none⟩)),(5,.pointer (some ⟨u4,0,none⟩)),(7,.int .i64 u18),(8,.int .i64 u24),(97,.bool (u34 || (decide (16<u5))))] ?_ ?_ ?_
 .intro e8 hk8
  refine zv e8 ?_;exact hk8 _ (Fe e8)
 .intro e8 hk8
  refine zv e8 ?_;exact hk8 _ (Fe e8)
 intro fr hl
 refine Lfr hl ?_
 refine zw ?_;refine wY 3 (u34 || (decide (16<u5))) [(2,.pointer (some ⟨u0,0,none⟩)),(5,.pointer (some ⟨u4,0,none⟩)),(8,.int .i64 u24),(101,.bool ((u34 || (decide (16<u5))) || (decide (4096<u18))))] ?_ ?_ ?_
 .intro e12 hk12
  refine zv e12 ?_;exact hk12 _ (Fe e12)
 .intro e12 hk12
  refine zv e12 ?_;exact hk12 _ (Fe e12)
 intro fr hl
 refine Lfr hl ?_
 refine zw ?_;refine wY 3 ((u34 || (decide (16<u5))) || (decide (4096<u18))) [(2,.pointer (some ⟨u0,0,none⟩)),(5,.pointer (some ⟨u4,0,none⟩)),(105,.bool (((u34 || (decide (16<u5))) || (decide (4096<u18))) || (decide (32<u24))))] ?_ ?_ ?_
 .intro e16 hk16
  refine zv e16 ?_;exact hk16 _ (Fe e16)
 .intro e16 hk16
  refine zv e16 ?_;exact hk16 _ (Fe e16)
 intro fr hl
 refine Lfr hl ?_
 refine zw ?_;refine AW.iff rfl (vr (vr (vr Iff.rfl me) me) me) h (fun h=>?_) (fun h=>?_)
 rotate_left
 .refine zw ?_;obtain⟨u36,u37,u38,u39,u40,u41,u42,u43,u44,u45,u46,u47,hc,h⟩:=h
  refine zl (wq rfl mi rfl qM rfl hc ?_)
  refine zsp qM h fun I h=>?_;obtain⟨u48,u49,u50,u51,u52,u53,u54,u55,u56,u57,u58,u59,hc0,h⟩:=h
  exact bRM results15 (wA (vN rfl mi rfl qM hc0) (wA (ahj rfl) vM)) ⟨_,_,_,_,_,_,_,_,_,_,_,_,_,rfl,h⟩
 refine zw ?_;refine zm (wB (vs:=[]) (cs:= #[.int .i64 0,.int .i64 0,Sl.v (⟨none,0,0⟩:Sl),.int .i64 0,Sl.v (⟨none,0,0⟩:Sl),.int .i64 0,.int .i64 0,.int .i64 0,.int .i64 0,Sl.v (⟨none,0,0⟩:Sl),Sl.v (⟨none,0,0⟩:Sl),.int .i64 0]) rfl mi qM agn rfl j0) ?_;refine zsp qM h fun I h=>?_;obtain⟨u60,u61,u62,u63,u64,u65,u66,u67,u68,u69,u70,u71,hc0,h⟩:=h
 exact bRM results15 (wA (vN rfl mi rfl qM hc0) (wA (ahj rfl) vM)) ⟨_,_,_,_,_,_,_,_,_,_,_,_,_,rfl,h⟩
end G
namespace SL
open Go
variable{ro I:AH}{tag:Nat->Nat}
variable{K:AH->Prop}
def aua{b i:Nat}{v:ZC}{vs:List Value}(h:stN ((⟨b,0,none⟩:Addr).add (i*1)) (fun I=>stN ⟨b,0,none⟩ K vs (i+1) I) [v] 0 I):stN ⟨b,0,none⟩ K (v::vs) i I:=by
 have e:((⟨b,0,none⟩:Addr).add (i*1)).add 0=(⟨b,0,none⟩:Addr).add i:=by rw[vq,vq,vq,mV,Nat.add_zero]
 unfold stN at h⊢
 rw[e]at h
 exact h
def Row.stPre{r:Nat}{e:TypeId}{b n c:Nat}:∀ (vs:List Value) (i:Nat) (l:List Value) (I:AH),Row tag I r e ⟨some ⟨b,0,none⟩,n,c⟩ l->Sep ro I->i+vs.length<=l.length->(∀v∈vs,qg v=true)->
  (∀I',qd [r] ro tag I tag I'->Row tag I' r e ⟨some ⟨b,0,none⟩,n,c⟩ (l.take i++vs++l.drop (i+vs.length))->K I')->stN ⟨b,0,none⟩ K vs i I:=by
 intro vs
 induction vs with
 | nil=>
  intro i l I h hs _ _ hK
  refine hK I (qd.refl hs) ?_
  simpa using h
 | cons v vs ih=>
  intro i l I h hs hl hv hK
  simp only[mz]at hl
  refine aua ?_
  refine h.st hs rfl z7 (hv v y0) fun I1 st1 h1=>?_
  refine ih (i+1) (l.set i v) I1 h1 st1.sep j2 (fun w hw=>hv w (by simp[hw])) fun I2 st2 h2=>?_
  refine hK I2 (st1.trans st2) ?_
  have e1:(l.set i v).take (i+1)=l.take i++[v]:=by
   rw[mK,List.take_set_of_le (mR _),List.getElem?_set_self z7];try rfl
  have e2:(l.set i v).drop (i+1+vs.length)=l.drop (i+(v::vs).length):=by
   rw[List.drop_set_of_lt z7];congr 1;simp;omega
  rw[e1,e2]at h2
  simpa using h2
end SL
namespace Zt
open Go SL G Pa Wi
variable{B:ZB}{ro I I':AH}{tag tag':Nat->Nat}
def abH(e:Int×Int×Str):List Value:=[vI e.1,vI e.2.1,Pa.vS e.2.2]
structure abb(ro I:AH)(rs ds ns es:Sl)(x:Rep):Prop where
 res:SL.vt ro I 2 rs (x.results.map xQ)
 data:SL.qJ ro I ds (x.data.map vU)
 names:SL.qJ ro I ns (x.names.map Pa.vS)
 evs:SL.vt ro I 3 es (x.events.map abH)
abbrev CR:List Nat:=[0,1,2,30]
def apK{rs ds ns es:Sl}{x:Rep}{Q:Sl->Int->AH->Prop}(hx:∀ tag' I',StepS CR ro tag I tag' I'->abb ro I' rs ds ns es x)(hsm:uv x)(hb: -9223372036854775808<=x.bad)
  (hno:vF x=none->∀ tag' I',StepS CR ro tag I tag' I'->Q ⟨none,0,0⟩ 170 I')
  (hyes:∀ b,vF x=some b->∀ s tag' I',StepS CR ro tag I tag' I'->Row tag' I' 6 5 s (b.map vU)->Q s 0 I'):ads B ro x.code x.session rs x.bad ds x.ver x.ctr x.own x.kids ns es x.epoch I Q:=by
 refine akF fun hs=>?_
 unfold adN
 have hx0:=hx tag I (StepS.refl hs)
 have lr:rs.len=x.results.length:=by rw[hx0.res.1,mg]
 have ln:ns.len=x.names.length:=by rw[hx0.names.1,mg]
 have le:es.len=x.events.length:=by rw[hx0.evs.1,mg]
 refine qf (tag:=tag) 2 hs fun X tag1 I1 st1 r1=>?_
 have s1:StepS CR ro tag I tag1 I1:=(st1 []).s y0
 obtain⟨p,hp,hg⟩:=r1.ptr (st1 []).sep y0
 cases hp
 have no:¬ vv x->Q ⟨none,0,0⟩ 170 I1:=fun h=>hno (by unfold vF;rw[ma h]) tag1 I1 s1
 have n7:¬ vv x->xk B ro X Q true I1:=fun h=>by unfold xk;rw[mc rfl];exact no h
 have n5:¬ vv x->xl B ro X Q true I1:=fun h=>by unfold xl;rw[mc rfl];exact n7 h
 have n3:¬ vv x->xm B ro X Q true I1:=fun h=>by unfold xm;rw[mc rfl];exact n5 h
 refine⟨rs,hg 2 _ rfl,?_⟩
 by_cases h1:16<x.results.length
 .rw[mc z7];exact n3 fun k=>by have:=k.1;omega
 rw[ma z7]
 refine⟨ns,hg 9 _ rfl,?_⟩
 by_cases h2:4096<x.names.length
 .rw[show decide ((4096:Int)<(ns.len:Int))=true by simp;omega]
  exact n3 fun k=>by have:=k.2.1;omega
 rw[show decide ((4096:Int)<(ns.len:Int))=false by simp;omega]
 unfold xm
 rw[ma y0]
 refine⟨es,hg 10 _ rfl,?_⟩
 by_cases h3:32<x.events.length
 .rw[show decide ((32:Int)<(es.len:Int))=true by simp;omega]
  exact n5 fun k=>by have:=k.2.2.1;omega
 rw[show decide ((32:Int)<(es.len:Int))=false by simp;omega]
 unfold xl
 rw[ma y0]
 refine⟨x.bad,hg 3 _ rfl,?_⟩
 by_cases h5:4611686018427387903<=x.bad
 .rw[show decide ((4611686018427387903:Int)<=x.bad)=true by simpa using h5]
  exact n7 fun k=>by have:=k.2.2.2.2.1;omega
 rw[show decide ((4611686018427387903:Int)<=x.bad)=false by simpa using h5]
 unfold xk
 rw[ma y0]
 have b1:x.results.length<=16:=by omega
 have b2:x.names.length<=4096:=by omega
 have b3:x.events.length<=32:=by omega
 refine ajV (tag:=tag1) (r:=30) fun W tag2 I2 st2 w2=>?_
 have r2:=r1.keep (st2 [])
 obtain⟨p,hp,hg⟩:=r2.ptr (st2 []).sep y0
 cases hp
 refine⟨x.code,by simpa using hg 0 _ rfl,x.session,hg 1 _ rfl,rs,hg 2 _ rfl,?_⟩
 have e2:[x.code,x.session,(rs.len:Int)]=[x.code,x.session,(x.results.length:Int)]:=by rw[lr]
 refine agJ (tag:=tag2) (a:=([],false)) [x.code,x.session,(rs.len:Int)] w2 y1 (st2 []).sep y0 fun tag3 I3 st3 w3=>?_
 rw[e2]at w3
 have r3:=r2.keep st3 y1
 have s3:StepS CR ro tag I tag3 I3:=s1.trans (((st2 []).s y0).trans (st3.s y1))
 obtain⟨p,hp,hg⟩:=r3.ptr st3.sep y0
 cases hp
 refine⟨rs,hg 2 _ rfl,?_⟩
 have last:∀ tag4 I4,StepS CR ro tag I tag4 I4->Row tag4 I4 2 30 ⟨some ⟨X,0,none⟩,12,12⟩ [vI x.code,vI x.session,Sl.v rs,vI x.bad,Sl.v ds,vI x.ver,vI x.ctr,vI x.own,vI x.kids,Sl.v ns,Sl.v es,vI x.epoch]->vB tag4 I4 30 W (wr6 x).1 (wr6 x).2->yD B ro X (some ⟨W,0,none⟩) Q I4:=fun tag4 I4 s4 r4 w4=>by
  unfold yD
  obtain⟨p,hp,hg⟩:=r4.ptr s4.sep y0
  cases hp
  have l6:=avx x hsm b1 b2 b3
  refine⟨x.epoch,hg 11 _ rfl,?_⟩
  refine agJ (tag:=tag4) (a:=wr6 x) [x.epoch] w4 y1 s4.sep j2 fun tag5 I5 st5 w5=>?_
  have l7:(afP x).1.length<=5000000009:=by have:=xi (wr6 x) x.epoch;unfold afP;omega
  refine asd (a:=afP x) w5 st5.sep z7 (fun hbad=>?_) fun hgood s tag6 I6 st6 r6=>?_
  .rw[mc y1]
   refine hno ?_ tag5 I5 (s4.trans (st5.s y1))
   unfold vF
   rw[ma]
   intro k
   rw[apa k hsm]at hbad
   cases hbad
  .rw[ma y1]
   by_cases k:vv x
   .rw[apa k hsm]at r6
    exact hyes _ (by unfold vF;rw[mc k]) s tag6 I6 (s4.trans ((st5.s y1).trans ((st6 []).s y0))) r6
   .have:=avy k b1 b2 b3 z7
    rw[hgood]at this
    cases this
 have evs:∀ k j tag4 I4,j+k=x.events.length->StepS CR ro tag I tag4 I4->Row tag4 I4 2 30 ⟨some ⟨X,0,none⟩,12,12⟩ [vI x.code,vI x.session,Sl.v rs,vI x.bad,Sl.v ds,vI x.ver,vI x.ctr,vI x.own,vI x.kids,Sl.v ns,Sl.v es,vI x.epoch]->vB tag4 I4 30 W ((x.events.take j).foldl wev (wr5 x)).1 ((x.events.take j).foldl wev (wr5 x)).2->lfpD (yE B ro X (some ⟨W,0,none⟩) es Q) (j:Int) I4:=by
  intro k
  induction k with
  | zero=>
   intro j tag4 I4 hj s4 r4 w4
   refine lfpD.intro ?_
   unfold yE
   rw[ma z7]
   rw[mD z7]at w4
   exact last tag4 I4 s4 r4 w4
  | succ k ih=>
   intro j tag4 I4 hj s4 r4 w4
   have hjl:j<x.events.length:=by omega
   obtain⟨q,hq,hc⟩:=(hx tag4 I4 s4).evs.at (j:=j) (x:=abH x.events[j]) (by rw[mh,md hjl];try rfl)
   have hlen:=ao7 x hsm b1 b2 b3 j
   have hel:=hsm.evs x.events[j] (mJ hjl)
   have etk:(x.events.take (j+1)).foldl wev (wr5 x)=wev ((x.events.take j).foldl wev (wr5 x)) x.events[j]:=by
    rw[mK,md hjl,List.foldl_append];try rfl
   generalize x.events[j]=e at hc hel etk
   generalize hA:(x.events.take j).foldl wev (wr5 x)=A at w4 hlen etk
   refine lfpD.intro ?_
   unfold yE
   rw[mc z7]
   refine⟨q,hq,z7,z7,e.1,e.2.1,S e.2.2,by rw[mq];exact hc,?_⟩
   refine kz (tag:=tag4) 0 s4.sep rfl (by simp[qg]) fun Y tag5 I5 st5 r5=>?_
   have h5:=(st5 []).sep
   obtain⟨p,hp,hg⟩:=r5.ptr h5 y0
   cases hp
   refine⟨e.1,by simpa using hg 0 _ rfl,e.2.1,hg 1 _ rfl,?_⟩
   refine agJ (tag:=tag5) (a:=A) [e.1,e.2.1] (w4.keep (st5 [])) y1 h5 j2 fun tag6 I6 st6 w6=>?_
   have l6:=aj1 [e.1,e.2.1] A
   simp only[mz,nH]at l6
   have r6:=r5.keep st6 y1
   obtain⟨p,hp,hg⟩:=r6.ptr st6.sep y0
   cases hp
   refine⟨S e.2.2,hg 2 _ rfl,?_⟩
   refine asA (tag:=tag6) (a:=[e.1,e.2.1].foldl wS A) e.2.2 w6 y1 st6.sep z7 fun tag7 I7 st7 w7=>?_
   rw[Pa.inc j z7]
   have s47:StepS CR ro tag4 I4 tag7 I7:=((st5 []).s y0).trans ((st6.s y1).trans (st7.s y1))
   refine ih (j+1) tag7 I7 z7 (s4.trans s47) (((r4.keep (st5 [])).keep st6 y1).keep st7 y1) ?_
   rw[etk]
   exact w7
 have mid:∀ tag4 I4,StepS CR ro tag I tag4 I4->Row tag4 I4 2 30 ⟨some ⟨X,0,none⟩,12,12⟩ [vI x.code,vI x.session,Sl.v rs,vI x.bad,Sl.v ds,vI x.ver,vI x.ctr,vI x.own,vI x.kids,Sl.v ns,Sl.v es,vI x.epoch]->vB tag4 I4 30 W (wr2 x).1 (wr2 x).2->yF B ro X (some ⟨W,0,none⟩) Q I4:=fun tag4 I4 s4 r4 w4=>by
  unfold yF
  obtain⟨p,hp,hg⟩:=r4.ptr s4.sep y0
  cases hp
  have l2:=aqq x hsm b1
  have hd:=hsm.data
  refine⟨x.bad,hg 3 _ rfl,?_⟩
  rw[show i64.wrap (x.bad+1)=x.bad+1 from SL.qY z7 z7]
  refine agJ (tag:=tag4) (a:=wr2 x) [x.bad+1] w4 y1 s4.sep j2 fun tag5 I5 st5 w5=>?_
  have l3:=xi (wr2 x) (x.bad+1)
  have r5:=r4.keep st5 y1
  have s5:=s4.trans (st5.s (C:=CR) y1)
  obtain⟨p,hp,hg⟩:=r5.ptr st5.sep y0
  cases hp
  refine⟨ds,hg 4 _ rfl,?_⟩
  refine awo (tag:=tag5) (a:=wS (wr2 x) (x.bad+1)) x.data w5 y1 st5.sep z7 (fun tag' I' st=>(hx tag' I' (s5.trans (st.s y1))).data) fun tag6 I6 st6 w6=>?_
  have r6:=r5.keep st6 y1
  have s6:=s5.trans (st6.s (C:=CR) y1)
  obtain⟨p,hp,hg⟩:=r6.ptr st6.sep y0
  cases hp
  have l4:=aqr x hsm b1
  refine⟨x.ver,hg 5 _ rfl,x.ctr,by rw[aal];exact hg 6 _ rfl,x.own,by rw[aal];exact hg 7 _ rfl,x.kids,by rw[aal];exact hg 8 _ rfl,ns,hg 9 _ rfl,?_⟩
  have l4':(wr3 x).1.length<=20000000:=by
   have:=pJ (wS (wr2 x) (x.bad+1)) x.data
   unfold wr3;omega
  have e4:[x.ver,x.ctr,x.own,x.kids,(ns.len:Int)]=[x.ver,x.ctr,x.own,x.kids,(x.names.length:Int)]:=by rw[ln]
  refine agJ (tag:=tag6) (a:=wr3 x) [x.ver,x.ctr,x.own,x.kids,(ns.len:Int)] w6 y1 st6.sep j2 fun tag7 I7 st7 w7=>?_
  rw[e4]at w7
  have r7:=r6.keep st7 y1
  have s7:=s6.trans (st7.s (C:=CR) y1)
  obtain⟨p,hp,hg⟩:=r7.ptr st7.sep y0
  cases hp
  refine⟨ns,hg 9 _ rfl,?_⟩
  have c:x.names.length*(1048576+9)<=4096*1048585:=Nat.mul_le_mul_right _ b2
  refine at8 (m:=1048576) (a:=wr4 x) (ps:=x.names) w7 y1 st7.sep hsm.names z7 (fun tag' I' st=>(hx tag' I' (s7.trans (st.s y1))).names) fun tag8 I8 st8 w8=>?_
  have r8:=r7.keep st8 y1
  have s8:=s7.trans (st8.s (C:=CR) y1)
  obtain⟨p,hp,hg⟩:=r8.ptr st8.sep y0
  cases hp
  refine⟨es,hg 10 _ rfl,?_⟩
  have l5:=af7 (m:=1048576) x.names (wr4 x) hsm.names
  rw[le]
  refine agJ (tag:=tag8) (a:=x.names.foldl wm (wr4 x)) [(x.events.length:Int)] w8 y1 st8.sep j2 fun tag9 I9 st9 w9=>?_
  have r9:=r8.keep st9 y1
  obtain⟨p,hp,hg⟩:=r9.ptr st9.sep y0
  cases hp
  refine⟨es,hg 10 _ rfl,?_⟩
  exact evs _ 0 tag9 I9 (ml _) (s8.trans (st9.s y1)) r9 (by rw[Lm];exact w9)
 suffices∀k j tag4 I4,j+k=x.results.length->StepS CR ro tag I tag4 I4->Row tag4 I4 2 30 ⟨some ⟨X,0,none⟩,12,12⟩ [vI x.code,vI x.session,Sl.v rs,vI x.bad,Sl.v ds,vI x.ver,vI x.ctr,vI x.own,vI x.kids,Sl.v ns,Sl.v es,vI x.epoch]->vB tag4 I4 30 W ((x.results.take j).foldl acr (wr1 x)).1 ((x.results.take j).foldl acr (wr1 x)).2->lfpD (yG B ro X (some ⟨W,0,none⟩) rs Q) (j:Int) I4 from
  this _ 0 tag3 I3 (ml _) s3 r3 (by rw[Lm];exact w3)
 intro k
 induction k with
 | zero=>
  intro j tag4 I4 hj s4 r4 w4
  refine lfpD.intro ?_
  unfold yG
  rw[ma z7]
  rw[mD z7]at w4
  exact mid tag4 I4 s4 r4 w4
 | succ k ih=>
  intro j tag4 I4 hj s4 r4 w4
  have hjl:j<x.results.length:=by omega
  obtain⟨q,hq,hc⟩:=(hx tag4 I4 s4).res.at (j:=j) (x:=xQ x.results[j]) (by rw[mh,md hjl];try rfl)
  have hlen:=anH x hsm b1 j
  have hel:=hsm.res x.results[j] (mJ hjl)
  have etk:(x.results.take (j+1)).foldl acr (wr1 x)=acr ((x.results.take j).foldl acr (wr1 x)) x.results[j]:=by
   rw[mK,md hjl,List.foldl_append];try rfl
  generalize x.results[j]=e at hc hel etk
  generalize hA:(x.results.take j).foldl acr (wr1 x)=A at w4 hlen etk
  refine lfpD.intro ?_
  unfold yG
  rw[mc z7]
  refine⟨q,hq,z7,z7,S e.1,e.2,by rw[mq];exact hc,?_⟩
  refine kz (tag:=tag4) 0 s4.sep rfl (by simp[qg]) fun Y tag5 I5 st5 r5=>?_
  have h5:=(st5 []).sep
  obtain⟨p,hp,hg⟩:=r5.ptr h5 y0
  cases hp
  refine⟨S e.1,by simpa using hg 0 _ rfl,?_⟩
  refine asA (tag:=tag5) (a:=A) e.1 (w4.keep (st5 [])) y1 h5 z7 fun tag6 I6 st6 w6=>?_
  have l6:=pJ A e.1
  have r6:=r5.keep st6 y1
  obtain⟨p,hp,hg⟩:=r6.ptr st6.sep y0
  cases hp
  refine⟨e.2,hg 1 _ rfl,?_⟩
  refine agJ (tag:=tag6) (a:=wm A e.1) [e.2] w6 y1 st6.sep j2 fun tag7 I7 st7 w7=>?_
  rw[Pa.inc j z7]
  have s47:StepS CR ro tag4 I4 tag7 I7:=((st5 []).s y0).trans ((st6.s y1).trans (st7.s y1))
  refine ih (j+1) tag7 I7 z7 (s4.trans s47) (((r4.keep (st5 [])).keep st6 y1).keep st7 y1) ?_
  rw[etk]
  exact w7
end Zt
namespace SL
open Go
variable{ro I:AH}{tag:Nat->Nat}
variable{K:AH->Prop}
def avz{b o:Nat}:∀ (vs:List Value) (i:Nat) {I:AH},stN ⟨b,0,none⟩ K vs (o+i) I->stN ((⟨b,0,none⟩:Addr).add o) K vs i I:=by
 intro vs
 induction vs with
 | nil=>intro i I h;exact h
 | cons v vs ih=>
  intro i I h
  unfold stN at h⊢
  rw[aal]
  exact stN_mono' h fun I h=>by
   have:=ih (i+1) (I:=I) (by rw[show o+(i+1)=o+i+1 by omega];exact h)
   exact this
where
 stN_mono' {a:Addr} {v:ZC} {K K':AH->Prop} {I:AH} (h:qg v=true/\a.spot=none/\∃ c e fz,I a.block=some (.cells c e fz)/\a.off<c.size/\¬ (fz.1<=a.off/\a.off<fz.2)/\K (upd I a.block (.cells (c.setIfInBounds a.off v) e fz)))
   (hk:∀ I,K I->K' I):qg v=true/\a.spot=none/\∃ c e fz,I a.block=some (.cells c e fz)/\a.off<c.size/\¬ (fz.1<=a.off/\a.off<fz.2)/\K' (upd I a.block (.cells (c.setIfInBounds a.off v) e fz)):=by
  obtain⟨h1,h2,c,e,fz,h3,h4,h5,h6⟩:=h
  exact⟨h1,h2,c,e,fz,h3,h4,h5,hk _ h6⟩
def Row.stAt{r:Nat}{e:TypeId}{b n c:Nat}(vs:List Value)(i:Nat){l:List Value}(h:Row tag I r e ⟨some ⟨b,0,none⟩,n,c⟩ l)(hs:Sep ro I)(hl:i+vs.length<=l.length)(hv:∀ v∈vs,qg v=true)
  (hK:∀ I',qd [r] ro tag I tag I'->Row tag I' r e ⟨some ⟨b,0,none⟩,n,c⟩ (l.take i++vs++l.drop (i+vs.length))->K I'):stN ((⟨b,0,none⟩:Addr).add i) K vs 0 I:=
 avz vs 0 (h.stPre vs i l I hs hl hv hK)
end SL
namespace Wi
open Go SL G Zt
variable{B:ZB}{ro I I':AH}{tag tag':Nat->Nat}
variable{τ:AH}{A b q r r':Nat}{x:Rd}{s:Sl}{l:Str}
def yx.del(h:yx tag I q s l)(hb:tag b≠q):yx tag (SL.del I b) q s l:=by
 unfold yx at h⊢
 rcases h with h | h
 .exact .inl h
 .obtain⟨c,o,cs,h1,h2,h3,h4⟩:=h
  exact .inr ⟨c,o,cs,h1,h2,by unfold SL.del;rw[ma (fun e=>hb (by rw[<-e];exact h2))];exact h3,h4⟩
def ye.del(h:ye tag I r A x)(h1:r≠tag b)(h2:tag b≠6):ye tag (SL.del I b) r A x:=by
 obtain⟨s,a,c⟩:=h
 exact⟨s,a.del rfl h1,c.1.del h2,c.2⟩
def yx.back(h:yx tag' τ q s l)(hd:qL (SL.one I b) τ)(hb:∃ o,I b=some o):yx (setTag tag' b r') (join (SL.one I b) τ) q s l:=by
 unfold yx at h⊢
 rcases h with h | h
 .exact .inl h
 .obtain⟨c,o,cs,h1,h2,h3,h4⟩:=h
  have hcb:c≠b:=fun e=>by
   obtain⟨ob,ho⟩:=hb
   have:=hd b ob (by unfold SL.one;rw[mc rfl];exact ho)
   rw[<-e,h3]at this;cases this
  exact .inr ⟨c,o,cs,h1,by unfold setTag;rw[ma hcb];exact h2,by unfold join SL.one;rw[ma hcb];exact h3,h4⟩
def ye.back(h:ye tag' τ r A x)(hd:qL (SL.one I b) τ)(hb:∃ o,I b=some o):ye (setTag tag' b r') (join (SL.one I b) τ) r A x:=by
 obtain⟨s,a,c⟩:=h
 exact⟨s,a.back hd hb,c.1.back hd hb,c.2⟩
end Wi
namespace SL
open Go
variable{ro I:AH}{tag:Nat->Nat}
def Row.again{r:Nat}{e:TypeId}{b n c:Nat}{l:List Value}{tag1:Nat->Nat}{τ:AH}(h:Row tag I r e ⟨some ⟨b,0,none⟩,n,c⟩ l)(hd:qL (SL.one I b) τ):Row (setTag tag1 b (tag b)) (join (SL.one I b) τ) r e ⟨some ⟨b,0,none⟩,n,c⟩ l:=by
 rcases h with⟨e,_⟩ | ⟨d,cs,ha,ht,hs,hx⟩
 .cases e
 .cases ha
  exact .inr ⟨b,cs,rfl,by simp[setTag,ht],by unfold join SL.one;rw[mc rfl,hs],hx⟩
end SL
namespace Zt
open Go SL G Pa Wi
variable{B:ZB}{ro I I':AH}{tag tag':Nat->Nat}
def axe:qp prog 128 (.agg #[.string ByteArray.empty,.int .i64 0]) 2 24:=qp.of j0
def ark:qp prog 132 (.agg #[.int .i64 0,.int .i64 0,.string ByteArray.empty]) 3 32:=qp.of j0
def akq{n m:Nat}:(if(m:Int)<(n:Int)then(m:Int)else(n:Int))=((min n m:Nat):Int):=by
 split<;>omega
structure akr(tag:Nat->Nat)(I:AH)(q:Nat)(rs ds ns es:Sl)(x:Rep):Prop where
 res:ql tag I q 128 2 rs (x.results.map xQ)
 data:Row tag I 6 5 ds (x.data.map vU)
 names:Row tag I (q+1) 9 ns (x.names.map Pa.vS)
 evs:ql tag I (q+2) 132 3 es (x.events.map abH)
def akr.keepS{C:List Nat}{q:Nat}{rs ds ns es:Sl}{x:Rep}(h:akr tag I q rs ds ns es x)(k:StepS C ro tag I tag' I')(h0:q%64∉C:=by decide)(h1:(q+1)%64∉C:=by decide)(h2:(q+2)%64∉C:=by decide)(h6:6∉C:=by decide):akr tag' I' q rs ds ns es x:=
 ⟨ql.keepS h.res k h0,h.data.keepS k h6,h.names.keepS k h1,ql.keepS h.evs k h2⟩
abbrev CG(q:Nat):List Nat:=[0,2,3,31,q,q+1,q+2]
def apL{a0:Sl}{b:Str}{q:Nat}{Q:Int->Int->Sl->Int->Sl->Int->Int->Int->Int->Sl->Sl->Int->Int->AH->Prop}(hq:q+2<64)(hq7:7<=q)(hq31:q∉[29,30,31])(h:SL.qJ ro I a0 (b.map vU))(hl:b.length<=140737488355328)
  (hno:uT b=none->∀ tag' I',StepS (CG q) ro tag I tag' I'->Q 0 0 ⟨none,0,0⟩ 0 ⟨none,0,0⟩ 0 0 0 0 ⟨none,0,0⟩ ⟨none,0,0⟩ 0 13 I')
  (hyes:∀ x,uT b=some x->∀ rs ds ns es tag' I',StepS (CG q) ro tag I tag' I'->akr tag' I' q rs ds ns es x->Q x.code x.session rs x.bad ds x.ver x.ctr x.own x.kids ns es x.epoch 0 I'):adt B ro a0 I Q:=by
 refine akG fun hs=>?_
 unfold adO
 simp only[mp,nj,or_false,not_or]at hq31
 have q0:q%64=q:=nN z7
 have q1:(q+1)%64=q+1:=nN z7
 have q2:(q+2)%64=q+2:=nN z7
 obtain⟨A1,e1⟩:∃ A,rnum ⟨b,0⟩=A:=⟨_,rfl⟩
 obtain⟨A2,e2⟩:∃ A,rnum A1.2=A:=⟨_,rfl⟩
 obtain⟨A3,e3⟩:∃ A,rnum A2.2=A:=⟨_,rfl⟩
 obtain⟨A4,e4⟩:∃ A,gres (min A3.1 16) A3.2=A:=⟨_,rfl⟩
 obtain⟨A5,e5⟩:∃ A,rnum A4.2=A:=⟨_,rfl⟩
 obtain⟨A6,e6⟩:∃ A,rblob A5.2=A:=⟨_,rfl⟩
 obtain⟨A7,e7⟩:∃ A,rnum A6.2=A:=⟨_,rfl⟩
 obtain⟨A8,e8⟩:∃ A,rnum A7.2=A:=⟨_,rfl⟩
 obtain⟨A9,e9⟩:∃ A,rnum A8.2=A:=⟨_,rfl⟩
 obtain⟨B0,f0⟩:∃ A,rnum A9.2=A:=⟨_,rfl⟩
 obtain⟨B1,f1⟩:∃ A,rnum B0.2=A:=⟨_,rfl⟩
 obtain⟨B2,f2⟩:∃ A,gnames (min B1.1 4096) B1.2=A:=⟨_,rfl⟩
 obtain⟨B3,f3⟩:∃ A,rnum B2.2=A:=⟨_,rfl⟩
 obtain⟨B4,f4⟩:∃ A,aev (min B3.1 32) B3.2=A:=⟨_,rfl⟩
 obtain⟨B5,f5⟩:∃ A,rnum B4.2=A:=⟨_,rfl⟩
 have hR:zP b=⟨⟨A1.1,A2.1,A4.1,(A5.1:Int) - 1,A6.1,A7.1,A8.1,A9.1,B0.1,B2.1,B4.1,B5.1⟩,A3.1,B1.1,B3.1,B5.2⟩:=by
  unfold zP
  simp only[e1,e2,e3,e4,e5,e6,e7,e8,e9,f0,f1,f2,f3,f4,f5]
 have lt5:A5.1<4611686018427387904:=by rw[<-e5];exact alq _
 refine qf (tag:=tag) 2 hs fun Y tag1 I1 st1 r1=>?_
 refine ajW (tag:=tag1) (r:=31) (h.step (st1 [])) (st1 []).sep hl fun A tag2 I2 st2 rd2=>?_
 refine kq rd2 y1 (st2 []).sep fun I3 st3 rd3=>?_
 rw[e1]at rd3⊢
 refine kq rd3 y1 st3.sep fun I4 st4 rd4=>?_
 rw[e2]at rd4⊢
 refine kz (tag:=tag2) 3 st4.sep rfl (by simp[qg,Sl.v]) fun X tag5 I5 st5 r5=>?_
 have y5:=(((r1.keep (st2 [])).keep st3 y1).keep st4 y1).keep (st5 [])
 refine kq (rd4.keep (st5 [])) y1 (st5 []).sep fun I6 st6 rd6=>?_
 rw[e3]at rd6⊢
 have r6:=r5.keep st6 y1
 have y6:=y5.keep st6 y1
 have s6:StepS (CG q) ro tag I tag5 I6:=((st1 []).s y0).trans (((st2 []).s y0).trans ((st3.s y0).trans ((st4.s y0).trans (((st5 []).s y0).trans (st6.s y0)))))
 have wide:∀ {R:List Nat} {ta tb:Nat->Nat} {a c:AH},qd R ro ta a tb c->(∀x∈R,x%64∈CG q)->StepS (CG q) ro ta a tb c:=fun k h=>k.s h
 have last:∀ (rs ds ns es:Sl) tag7 I7,StepS (CG q) ro tag I tag7 I7->Row tag7 I7 2 30 ⟨some ⟨Y,0,none⟩,12,12⟩ [vI 0,vI 0,Sl.v ⟨none,0,0⟩,vI 0,Sl.v ⟨none,0,0⟩,vI 0,vI 0,vI 0,vI 0,Sl.v ⟨none,0,0⟩,Sl.v ⟨none,0,0⟩,vI 0]->
   Row tag7 I7 3 30 ⟨some ⟨X,0,none⟩,12,12⟩ [vI A1.1,vI A2.1,Sl.v rs,vI ((A5.1:Int) - 1),Sl.v ds,vI A7.1,vI A8.1,vI A9.1,vI B0.1,Sl.v ns,Sl.v es,vI 0]->ql tag7 I7 q 128 2 rs (A4.1.map xQ)->Row tag7 I7 6 5 ds (A6.1.map vU)->Row tag7 I7 (q+1) 9 ns (B2.1.map Pa.vS)->ql tag7 I7 (q+2) 132 3 es (B4.1.map abH)->
   ye tag7 I7 31 A B4.2->yH B ro Y X (some ⟨A,0,none⟩) (A3.1:Nat) (B1.1:Nat) (B3.1:Nat) Q I7:=fun rs ds ns es tag7 I7 s7 y7 x7 o1 o2 o3 o4 rd7=>by
  unfold yH
  refine kq rd7 y1 s7.sep fun I8 st8 rd8=>?_
  rw[f5]at rd8⊢
  have s8:=s7.trans (st8.s (C:=CG q) y0)
  refine(x7.keep st8 y1).stAt [.int .i64 (B5.1:Nat)] 11 st8.sep y0 (by simp[qg]) fun I9 st9 x9=>?_
  have s9:=s8.trans (st9.s (C:=CG q) y0)
  have x9:Row tag7 I9 3 30 ⟨some ⟨X,0,none⟩,12,12⟩ [vI A1.1,vI A2.1,Sl.v rs,vI ((A5.1:Int) - 1),Sl.v ds,vI A7.1,vI A8.1,vI A9.1,vI B0.1,Sl.v ns,Sl.v es,vI B5.1]:=x9
  have rd9:=rd8.keep st9 y1 y1
  have y9:=(y7.keep st8 y1).keep st9 y1
  have k9:StepS [3,31] ro tag7 I7 tag7 I9:=(st8.s y0).trans (st9.s y0)
  have hat:akr tag7 I9 q rs ds ns es (zP b).x:=by
   rw[hR]
   exact⟨ql.keepS o1 k9 (by rw[q0];simp;omega),o2.keepS k9,o3.keepS k9 (by rw[q1];simp;omega),ql.keepS o4 k9 (by rw[q2];simp;omega)⟩
  refine aqk rd9 st9.sep ?_
  have fin:∀ (c:Bool),(((c=true\/16<A3.1)\/4096<B1.1)\/32<B3.1↔((zP b).r.err≠0\/0<(zP b).r.rest.length\/16<(zP b).nr\/4096<(zP b).nn\/32<(zP b).ne))->jb B ro Y X (A3.1:Nat) (B1.1:Nat) (B3.1:Nat) Q c I9:=fun c hc=>by
   unfold jb
   by_cases k:(zP b).r.err≠0\/0<(zP b).r.rest.length\/16<(zP b).nr\/4096<(zP b).nn\/32<(zP b).ne
   .have k':=hc.2 k
    rw[mc (by
     rcases k' with((k' | k') | k') | k'
     .exact .inl (.inl (.inl k'))
     .exact .inl (.inl (.inr z7))
     .exact .inl (.inr z7)
     .exact .inr z7)]
    refine y9.stAll s9.sep rfl (by simp[qg,Sl.v]) fun Ia sta ra=>?_
    exact⟨_,_,_,_,_,_,_,_,_,_,_,_,Row.cellsAt ra sta.sep,hno (by unfold uT;rw[mc k]) tag7 Ia (s9.trans (sta.s y0))⟩
   .have k':¬ (((c=true\/16<A3.1)\/4096<B1.1)\/32<B3.1):=fun h=>k (hc.1 h)
    rw[ma (by
     rintro(((h | h) | h) | h)
     .exact k' (.inl (.inl (.inl h)))
     .exact k' (.inl (.inl (.inr z7)))
     .exact k' (.inl (.inr z7))
     .exact k' (.inr z7))]
    refine⟨_,_,_,_,_,_,_,_,_,_,_,_,Row.cellsAt x9 s9.sep,?_⟩
    refine y9.stAll s9.sep rfl (by simp[qg,Sl.v]) fun Ia sta ra=>?_
    have ka:StepS [2] ro tag7 I9 tag7 Ia:=sta.s y0
    have:=hyes (zP b).x (by unfold uT;rw[ma k]) rs ds ns es tag7 Ia (s9.trans (sta.s y0)) (hat.keepS ka (by rw[q0];simp;omega) (by rw[q1];simp;omega) (by rw[q2];simp;omega) y1)
    rw[hR]at this
    exact⟨_,_,_,_,_,_,_,_,_,_,_,_,Row.cellsAt ra sta.sep,this⟩
  have hr1:(zP b).r=B5.2:=by rw[hR]
  have hr2:(zP b).nr=A3.1:=by rw[hR]
  have hr3:(zP b).nn=B1.1:=by rw[hR]
  have hr4:(zP b).ne=B3.1:=by rw[hR]
  by_cases c:B5.2.err=0
  .rw[ma (j4 c)]
   refine aqj rd9 st9.sep ?_
   refine fin _ ?_
   rw[hr1,hr2,hr3,hr4]
   simp only[mS,ne_eq,c,not_true_eq_false,false_or]
   constructor
   .rintro(((h | h) | h) | h)
    .exact .inl z7
    .exact .inr (.inl h)
    .exact .inr (.inr (.inl h))
    .exact .inr (.inr (.inr h))
   .rintro(h | h | h | h)
    .exact .inl (.inl (.inl z7))
    .exact .inl (.inl (.inr h))
    .exact .inl (.inr h)
    .exact .inr h
  .rw[mc c]
   refine fin true ?_
   rw[hr1]
   exact⟨fun _=> .inl c,fun _=> .inl (.inl (.inl rfl))⟩
 have evs:∀ k j (es:Sl) (l:List (Int×Int×Str)) (x:Rd) (rs ds ns:Sl) tag7 I7,j+k=min B3.1 32->l.length=j->(l++(aev k x).1,(aev k x).2)=B4->StepS (CG q) ro tag I tag7 I7->Row tag7 I7 2 30 ⟨some ⟨Y,0,none⟩,12,12⟩ [vI 0,vI 0,Sl.v ⟨none,0,0⟩,vI 0,Sl.v ⟨none,0,0⟩,vI 0,vI 0,vI 0,vI 0,Sl.v ⟨none,0,0⟩,Sl.v ⟨none,0,0⟩,vI 0]->
   Row tag7 I7 3 30 ⟨some ⟨X,0,none⟩,12,12⟩ [vI A1.1,vI A2.1,Sl.v rs,vI ((A5.1:Int) - 1),Sl.v ds,vI A7.1,vI A8.1,vI A9.1,vI B0.1,Sl.v ns,Sl.v es,vI 0]->ql tag7 I7 q 128 2 rs (A4.1.map xQ)->Row tag7 I7 6 5 ds (A6.1.map vU)->Row tag7 I7 (q+1) 9 ns (B2.1.map Pa.vS)->ql tag7 I7 (q+2) 132 3 es (l.map abH)->
   ye tag7 I7 31 A x->lfpD (yI B ro Y X (some ⟨A,0,none⟩) (A3.1:Nat) (B1.1:Nat) (B3.1:Nat) Q) (j:Int) I7:=by
  intro k
  induction k with
  | zero=>
   intro j es l x rs ds ns tag7 I7 hj hlj hg s7 y7 x7 o1 o2 o3 o4 rd7
   refine lfpD.intro ?_
   unfold yI
   have:=akq (n:=B3.1) (m:=32)
   rw[ma (by rw[show((32:Nat):Int)=32 from rfl]at this;rw[this];omega)]
   have h1:l=B4.1:=by rw[<-hg];simp[aev]
   have h2:x=B4.2:=by rw[<-hg];simp[aev]
   rw[h1]at o4;rw[h2]at rd7
   exact last rs ds ns es tag7 I7 s7 y7 x7 o1 o2 o3 o4 rd7
  | succ k ih=>
   intro j es l x rs ds ns tag7 I7 hj hlj hg s7 y7 x7 o1 o2 o3 o4 rd7
   refine lfpD.intro ?_
   unfold yI
   have:=akq (n:=B3.1) (m:=32)
   rw[mc (by rw[show((32:Nat):Int)=32 from rfl]at this;rw[this];omega)]
   have hs7:=s7.sep
   obtain⟨tX,hX⟩:=x7.tagOf
   refine aec X ?_
   refine⟨es,by have:=x7.lend hs7 (τ:=fun _=>none) (i:=10) rfl;rwa [mV]at this,?_⟩
   have rdL:=rd7.del (b:=X) (by rw[tX];decide) (by rw[tX];decide)
   refine kq rdL y1 hs7.lent fun I8 st8 rd8=>?_
   refine kq rd8 y1 st8.sep fun I9 st9 rd9=>?_
   refine ag4 rd9 y1 st9.sep fun tagA IA stA rdA=>?_
   refine qf (tag:=tagA) 0 stA.sep fun Z tagB IB stB rB=>?_
   intro hdis
   have kL:StepS [31] (join ro (SL.one I7 X)) tag7 (SL.del I7 X) tagB IB:=(st8.s y0).trans ((st9.s y0).trans ((stA.s y0).trans ((stB []).s y0)))
   have kB:=StepS.back kL hs7 hdis hX
   have hsB:=kB.sep
   have xB:=x7.again (tag1:=tagB) hdis
   have rdB:=(rdA.keep (stB [])).back (r':=tag7 X) hdis hX
   have zB:=rB.back (r':=tag7 X) hdis hX
   have o4B:=ql.keepS o4 kB (by rw[q2];simp;omega)
   generalize hT:setTag tagB X (tag7 X)=tagC at*
   generalize hS:join (SL.one I7 X) IB=IC at*
   have ll:(l.map abH).length=j:=by rw[mg,hlj]
   refine jn (l2:=[abH ((((rnum x).1:Nat):Int),(((rnum (rnum x).2).1:Nat):Int),(rblob (rnum (rnum x).2).2).1)]) o4B hsB (Row.readW1 zB hsB rfl y1) (t:=28) j0 ark rfl (by simp[abH,qg]) (by rw[ll];simp;omega) y1 fun es' tagD ID stD rD=>?_
   have stD:=stD [q+2] (.inr y0)
   refine⟨es',rfl,?_⟩
   have kD:StepS [q+2] ro tagC IC tagD ID:=stD.s (by simp[q2])
   refine(xB.keep stD j2).stAt [Sl.v es'] 10 stD.sep y0 (by simp[qg,Sl.v]) fun IE stE xE=>?_
   have kE:StepS [3] ro tagD ID tagD IE:=stE.s y0
   rw[Pa.inc j z7]
   have k7E:StepS (CG q) ro tag7 I7 tagD IE:=(kB.mono y0).trans ((kD.mono y0).trans (kE.mono y0))
   refine ih (j+1) es' (l++[((((rnum x).1:Nat):Int),(((rnum (rnum x).2).1:Nat):Int),(rblob (rnum (rnum x).2).2).1)]) (rblob (rnum (rnum x).2).2).2 rs ds ns tagD IE z7 (by simp[hlj]) ?_ (s7.trans k7E) ?_ xE ?_ ?_ ?_ ?_ ?_
   .rw[<-hg,nl];try rfl
   .exact((y7.keepS kB).keepS kD j2).keepS kE
   .exact ql.keepS (ql.keepS (ql.keepS o1 kB (by rw[q0];simp;omega)) kD (by rw[q0];simp)) kE (by rw[q0];simp;omega)
   .exact((o2.keepS kB).keepS kD j2).keepS kE
   .exact((o3.keepS kB (by rw[q1];simp;omega)).keepS kD (by rw[q1];simp)).keepS kE (by rw[q1];simp;omega)
   .rw[my]
    exact ql.keepS rD kE (by rw[q2];simp;omega)
   .exact(rdB.keep stD j2 j2).keep stE y1 y1
 have names:∀ k j (ns:Sl) (l:List Str) (x:Rd) (rs ds:Sl) tag7 I7,j+k=min B1.1 4096->l.length=j->(l++(gnames k x).1,(gnames k x).2)=B2->StepS (CG q) ro tag I tag7 I7->Row tag7 I7 2 30 ⟨some ⟨Y,0,none⟩,12,12⟩ [vI 0,vI 0,Sl.v ⟨none,0,0⟩,vI 0,Sl.v ⟨none,0,0⟩,vI 0,vI 0,vI 0,vI 0,Sl.v ⟨none,0,0⟩,Sl.v ⟨none,0,0⟩,vI 0]->
   Row tag7 I7 3 30 ⟨some ⟨X,0,none⟩,12,12⟩ [vI A1.1,vI A2.1,Sl.v rs,vI ((A5.1:Int) - 1),Sl.v ds,vI A7.1,vI A8.1,vI A9.1,vI B0.1,Sl.v ns,Sl.v ⟨none,0,0⟩,vI 0]->ql tag7 I7 q 128 2 rs (A4.1.map xQ)->Row tag7 I7 6 5 ds (A6.1.map vU)->Row tag7 I7 (q+1) 9 ns (l.map Pa.vS)->
   ye tag7 I7 31 A x->lfpD (yJ B ro Y X (some ⟨A,0,none⟩) (A3.1:Nat) (B1.1:Nat) Q) (j:Int) I7:=by
  intro k
  induction k with
  | zero=>
   intro j ns l x rs ds tag7 I7 hj hlj hg s7 y7 x7 o1 o2 o3 rd7
   refine lfpD.intro ?_
   unfold yJ
   have:=akq (n:=B1.1) (m:=4096)
   rw[ma (by rw[show((4096:Nat):Int)=4096 from rfl]at this;rw[this];omega)]
   have h1:l=B2.1:=by rw[<-hg];simp[gnames]
   have h2:x=B2.2:=by rw[<-hg];simp[gnames]
   rw[h1]at o3;rw[h2]at rd7
   unfold uW
   refine kq rd7 y1 s7.sep fun I8 st8 rd8=>?_
   rw[f3]at rd8⊢
   have k8:StepS [31] ro tag7 I7 tag7 I8:=st8.s y0
   exact evs _ 0 ⟨none,0,0⟩ [] B3.2 rs ds ns tag7 I8 (ml _) rfl (by rw[f4];try rfl) (s7.trans (k8.mono y0)) (y7.keepS k8) (x7.keepS k8) (ql.keepS o1 k8 (by rw[q0];simp;omega)) (o2.keepS k8) (o3.keepS k8 (by rw[q1];simp;omega)) (ql.nil _ _ _) rd8
  | succ k ih=>
   intro j ns l x rs ds tag7 I7 hj hlj hg s7 y7 x7 o1 o2 o3 rd7
   refine lfpD.intro ?_
   unfold yJ
   have:=akq (n:=B1.1) (m:=4096)
   rw[mc (by rw[show((4096:Nat):Int)=4096 from rfl]at this;rw[this];omega)]
   have hs7:=s7.sep
   obtain⟨tX,hX⟩:=x7.tagOf
   refine aec X ?_
   refine⟨ns,by have:=x7.lend hs7 (τ:=fun _=>none) (i:=9) rfl;rwa [mV]at this,?_⟩
   have rdL:=rd7.del (b:=X) (by rw[tX];decide) (by rw[tX];decide)
   refine ag4 rdL y1 hs7.lent fun tagA IA stA rdA=>?_
   refine qf (tag:=tagA) 0 stA.sep fun Z tagB IB stB rB=>?_
   intro hdis
   have kL:StepS [31] (join ro (SL.one I7 X)) tag7 (SL.del I7 X) tagB IB:=(stA.s y0).trans ((stB []).s y0)
   have kB:=StepS.back kL hs7 hdis hX
   have hsB:=kB.sep
   have xB:=x7.again (tag1:=tagB) hdis
   have rdB:=(rdA.keep (stB [])).back (r':=tag7 X) hdis hX
   have zB:=rB.back (r':=tag7 X) hdis hX
   have o3B:=o3.keepS kB (by rw[q1];simp;omega)
   generalize hT:setTag tagB X (tag7 X)=tagC at*
   generalize hS:join (SL.one I7 X) IB=IC at*
   refine abr o3B hsB t25 ty9 rfl rfl (Row.cell1 zB hsB) rfl (by rw[mg,hlj];omega) y1 fun ns' tagD ID stD rD=>?_
   refine⟨ns',rfl,?_⟩
   have kD:StepS [q+1] ro tagC IC tagD ID:=stD.s (by simp[q1])
   refine(xB.keep stD j2).stAt [Sl.v ns'] 9 stD.sep y0 (by simp[qg,Sl.v]) fun IE stE xE=>?_
   have kE:StepS [3] ro tagD ID tagD IE:=stE.s y0
   rw[Pa.inc j z7]
   have k7E:StepS (CG q) ro tag7 I7 tagD IE:=(kB.mono y0).trans ((kD.mono y0).trans (kE.mono y0))
   refine ih (j+1) ns' (l++[(rblob x).1]) (rblob x).2 rs ds tagD IE z7 (by simp[hlj]) ?_ (s7.trans k7E) ?_ xE ?_ ?_ ?_ ?_
   .rw[<-hg,nl];try rfl
   .exact((y7.keepS kB).keepS kD j2).keepS kE
   .exact ql.keepS (ql.keepS (ql.keepS o1 kB (by rw[q0];simp;omega)) kD (by rw[q0];simp)) kE (by rw[q0];simp;omega)
   .exact((o2.keepS kB).keepS kD j2).keepS kE
   .rw[my]
    exact rD.keepS kE (by rw[q1];simp;omega)
   .exact(rdB.keep stD j2 j2).keep stE y1 y1
 have mid:∀ (rs:Sl) tag7 I7,StepS (CG q) ro tag I tag7 I7->Row tag7 I7 2 30 ⟨some ⟨Y,0,none⟩,12,12⟩ [vI 0,vI 0,Sl.v ⟨none,0,0⟩,vI 0,Sl.v ⟨none,0,0⟩,vI 0,vI 0,vI 0,vI 0,Sl.v ⟨none,0,0⟩,Sl.v ⟨none,0,0⟩,vI 0]->
   Row tag7 I7 3 30 ⟨some ⟨X,0,none⟩,12,12⟩ [vI A1.1,vI A2.1,Sl.v rs,vI 0,Sl.v ⟨none,0,0⟩,vI 0,vI 0,vI 0,vI 0,Sl.v ⟨none,0,0⟩,Sl.v ⟨none,0,0⟩,vI 0]->ql tag7 I7 q 128 2 rs (A4.1.map xQ)->ye tag7 I7 31 A A4.2->po B ro Y X (some ⟨A,0,none⟩) (A3.1:Nat) Q I7:=fun rs tag7 I7 s7 y7 x7 o1 rd7=>by
  unfold po
  refine kq rd7 y1 s7.sep fun I8 st8 rd8=>?_
  rw[e5]at rd8⊢
  rw[show i64.wrap ((A5.1:Nat) - 1:Int)=(A5.1:Int) - 1 from SL.qY z7 z7]
  refine(x7.keep st8 y1).stAt [.int .i64 ((A5.1:Int) - 1)] 3 st8.sep y0 (by simp[qg]) fun I9 st9 x9=>?_
  refine ajX (rd8.keep st9 y1 y1) y1 st9.sep fun ds tagA IA stA oA rdA=>?_
  rw[e6]at oA rdA
  refine(x9.keep stA y1).stAt [Sl.v ds] 4 stA.sep y0 (by simp[qg,Sl.v]) fun IB stB xB=>?_
  refine kq (rdA.keep stB y1 y1) y1 stB.sep fun IC stC rdC=>?_
  rw[e7]at rdC⊢
  refine kq rdC y1 stC.sep fun ID stD rdD=>?_
  rw[e8]at rdD⊢
  refine kq rdD y1 stD.sep fun IE stE rdE=>?_
  rw[e9]at rdE⊢
  refine kq rdE y1 stE.sep fun IF stF rdF=>?_
  rw[f0]at rdF⊢
  refine((((xB.keep stC y1).keep stD y1).keep stE y1).keep stF y1).stAt [.int .i64 (A7.1:Nat),.int .i64 (A8.1:Nat),.int .i64 (A9.1:Nat),.int .i64 (B0.1:Nat)] 5 stF.sep y0 (by simp[qg]) fun IG stG xG=>?_
  refine kq (rdF.keep stG y1 y1) y1 stG.sep fun IH stH rdH=>?_
  rw[f1]at rdH⊢
  have k8:StepS [3,31] ro tag7 I7 tag7 I9:=(st8.s y0).trans (st9.s y0)
  have kH:StepS [3,31] ro tagA IA tagA IH:=(stB.s y0).trans ((stC.s y0).trans ((stD.s y0).trans ((stE.s y0).trans ((stF.s y0).trans ((stG.s y0).trans (stH.s y0))))))
  have k7:StepS [3,31] ro tag7 I7 tagA IH:=k8.trans ((stA.s y0).trans kH)
  exact names _ 0 ⟨none,0,0⟩ [] B1.2 rs ds tagA IH (ml _) rfl (by rw[f2];try rfl) (s7.trans (k7.mono y0)) (y7.keepS k7) (xG.keep stH y1) (ql.keepS o1 k7 (by rw[q0];simp;omega)) (oA.keepS kH) (Row.nil _ _) rdH
 suffices∀k j (rs:Sl) (l:List (Str×Int)) (x:Rd) tag7 I7,j+k=min A3.1 16->l.length=j->(l++(gres k x).1,(gres k x).2)=A4->StepS (CG q) ro tag I tag7 I7->Row tag7 I7 2 30 ⟨some ⟨Y,0,none⟩,12,12⟩ [vI 0,vI 0,Sl.v ⟨none,0,0⟩,vI 0,Sl.v ⟨none,0,0⟩,vI 0,vI 0,vI 0,vI 0,Sl.v ⟨none,0,0⟩,Sl.v ⟨none,0,0⟩,vI 0]->
   Row tag7 I7 3 30 ⟨some ⟨X,0,none⟩,12,12⟩ [vI A1.1,vI A2.1,Sl.v rs,vI 0,Sl.v ⟨none,0,0⟩,vI 0,vI 0,vI 0,vI 0,Sl.v ⟨none,0,0⟩,Sl.v ⟨none,0,0⟩,vI 0]->ql tag7 I7 q 128 2 rs (l.map xQ)->ye tag7 I7 31 A x->lfpD (yK B ro Y X (some ⟨A,0,none⟩) (A3.1:Nat) Q) (j:Int) I7 from
  this _ 0 ⟨none,0,0⟩ [] A3.2 tag5 I6 (ml _) rfl (by rw[e4];try rfl) s6 y6 r6 (ql.nil _ _ _) rd6
 intro k
 induction k with
 | zero=>
  intro j rs l x tag7 I7 hj hlj hg s7 y7 x7 o1 rd7
  refine lfpD.intro ?_
  unfold yK
  have:=akq (n:=A3.1) (m:=16)
  rw[ma (by rw[show((16:Nat):Int)=16 from rfl]at this;rw[this];omega)]
  have h1:l=A4.1:=by rw[<-hg];simp[gres]
  have h2:x=A4.2:=by rw[<-hg];simp[gres]
  rw[h1]at o1;rw[h2]at rd7
  exact mid rs tag7 I7 s7 y7 x7 o1 rd7
 | succ k ih=>
  intro j rs l x tag7 I7 hj hlj hg s7 y7 x7 o1 rd7
  refine lfpD.intro ?_
  unfold yK
  have:=akq (n:=A3.1) (m:=16)
  rw[mc (by rw[show((16:Nat):Int)=16 from rfl]at this;rw[this];omega)]
  have hs7:=s7.sep
  obtain⟨tX,hX⟩:=x7.tagOf
  refine aec X ?_
  refine⟨rs,by have:=x7.lend hs7 (τ:=fun _=>none) (i:=2) rfl;rwa [mV]at this,?_⟩
  have rdL:=rd7.del (b:=X) (by rw[tX];decide) (by rw[tX];decide)
  refine ag4 rdL y1 hs7.lent fun tagA IA stA rdA=>?_
  refine kq rdA y1 stA.sep fun I9 st9 rd9=>?_
  refine qf (tag:=tagA) 0 st9.sep fun Z tagB IB stB rB=>?_
  intro hdis
  have kL:StepS [31] (join ro (SL.one I7 X)) tag7 (SL.del I7 X) tagB IB:=(stA.s y0).trans ((st9.s y0).trans ((stB []).s y0))
  have kB:=StepS.back kL hs7 hdis hX
  have hsB:=kB.sep
  have xB:=x7.again (tag1:=tagB) hdis
  have rdB:=(rd9.keep (stB [])).back (r':=tag7 X) hdis hX
  have zB:=rB.back (r':=tag7 X) hdis hX
  have o1B:=ql.keepS o1 kB (by rw[q0];simp;omega)
  generalize hT:setTag tagB X (tag7 X)=tagC at*
  generalize hS:join (SL.one I7 X) IB=IC at*
  have ll:(l.map xQ).length=j:=by rw[mg,hlj]
  refine jn (l2:=[xQ ((rblob x).1,(((rnum (rblob x).2).1:Nat):Int))]) o1B hsB (Row.readW1 zB hsB rfl y1) (t:=23) j0 axe rfl (by simp[xQ,qg]) (by rw[ll];simp;omega) y1 fun rs' tagD ID stD rD=>?_
  have stD:=stD [q] (.inr y0)
  refine⟨rs',rfl,?_⟩
  have kD:StepS [q] ro tagC IC tagD ID:=stD.s (by simp[q0])
  refine(xB.keep stD j2).stAt [Sl.v rs'] 2 stD.sep y0 (by simp[qg,Sl.v]) fun IE stE xE=>?_
  have kE:StepS [3] ro tagD ID tagD IE:=stE.s y0
  rw[Pa.inc j z7]
  have k7E:StepS (CG q) ro tag7 I7 tagD IE:=(kB.mono y0).trans ((kD.mono y0).trans (kE.mono y0))
  refine ih (j+1) rs' (l++[((rblob x).1,(((rnum (rblob x).2).1:Nat):Int))]) (rnum (rblob x).2).2 tagD IE z7 (by simp[hlj]) ?_ (s7.trans k7E) ?_ xE ?_ ?_
  .rw[<-hg,nl];try rfl
  .exact((y7.keepS kB).keepS kD j2).keepS kE
  .rw[my]
   exact ql.keepS rD kE (by rw[q0];simp;omega)
  .exact(rdB.keep stD j2 j2).keep stE y1 y1
end Zt
namespace SL
open Go
variable{P:Program}{B:ZB}{ro I I':AH}{tag tag':Nat->Nat}
variable{I1 τ:AH}{a p:Addr}{C R:List Nat}{l:List Value}{b i r w:Nat}{tag1:Nat->Nat}{o:Obj}{s:Sl}{e:TypeId}{v:ZC}
abbrev T7:Nat->Nat:=fun _=>7
def qd.hle(st:qd R ro T7 I tag1 I1)(h:7∉R):HLe I I1:=fun b o hb=>(st.keep b o hb h).2
def StepS.hle(st:StepS C ro T7 I tag1 I1)(h:7∉C):HLe I I1:=by
 obtain⟨R,h1,h2⟩:=st
 exact h2.hle fun m=>h (h1 7 m)
def awr(h:HLe I I')(hr:rd ro I b=some o):rd ro I' b=some o:=by
 unfold rd at hr⊢
 cases hb:ro b with
 | some x=>rw[hb]at hr;exact hr
 | none=>rw[hb]at hr;exact h b o hr
def ag9(h:HLe I I')(hr:qa ro I a=some v):qa ro I' a=some v:=by
 unfold qa at hr⊢
 cases hb:rd ro I a.block with
 | none=>rw[hb]at hr;simp[zF]at hr
 | some o=>rw[awr h hb,<-hb];exact hr
def qJ.hle(h:qJ ro I s l)(k:HLe I I'):qJ ro I' s l:=⟨h.1,h.2.1,fun p hp i v hv=>ag9 k (h.2.2 p hp i v hv)⟩
def vt.hle{l:List (List Value)}(h:vt ro I w s l)(k:HLe I I'):vt ro I' w s l:=⟨h.1,h.2.1,h.2.2.1,fun p hp i v hv=>ag9 k (h.2.2.2 p hp i v hv)⟩
def aeW(I:AH)(tag tag1:Nat->Nat):Nat->Nat:=fun c=>if(I c).isSome then tag c else tag1 c
def StepS.mix(st:StepS C ro T7 I tag1 I1)(h:7∉C)(tag:Nat->Nat):∀ R,qd R ro tag I (aeW I tag tag1) I1:=fun R=>by
 have hl:=st.hle h
 exact⟨fun b o hb _=>⟨by simp[aeW,hb],hl b o hb⟩,fun b o hb=>⟨by simp[aeW,hb],o,hl b o hb⟩,st.sep⟩
def StepS.old7(st:StepS C ro T7 I tag1 I1)(hb:I b=some o):tag1 b=7:=by
 obtain⟨R,h1,h2⟩:=st
 exact(h2.old b o hb).1
def Row.mix(h:Row tag1 I1 r e s l)(st:StepS C ro T7 I tag1 I1)(hr:r≠7)(tag:Nat->Nat):Row (aeW I tag tag1) I1 r e s l:=by
 rcases h with h | ⟨b,cs,ha,ht,hb,hx⟩
 .exact .inl h
 .refine .inr ⟨b,cs,ha,?_,hb,hx⟩
  unfold aeW
  cases e:I b with
  | none=>simpa using ht
  | some o=>exact mt (by rw[<-ht];exact st.old7 e) hr
def anK(st:∀ R,qd R ro T7 I tag1 I1)(hr:r≠7)(tag:Nat->Nat)(q:Nat):
  ∃tag',(∀R,qd R ro tag I tag' I1)/\∀ e s l,Row tag1 I1 r e s l->Row tag' I1 q e s l:=by
 refine⟨fun c=>if(I c).isSome then tag c else q,fun R=>⟨fun b o hb _=>⟨by simp[hb],((st []).keep b o hb y0).2⟩,fun b o hb=>⟨by simp[hb],o,((st []).keep b o hb y0).2⟩,(st []).sep⟩,fun e s l h=>?_⟩
 rcases h with h | ⟨b,cs,ha,ht,hb,hx'⟩
 .exact .inl h
 .refine .inr ⟨b,cs,ha,?_,hb,hx'⟩
  cases e:I b with
  | none=>simp[e]
  | some o=>
   have:=((st []).old b o e).1
   rw[ht]at this;exact mt this hr
def agK(h:qe ro I p 0 l)(hv:l[i]?=some v):qa ro I (p.add i)=some v:=by
 have gen:∀ (l:List Value) (k i:Nat) (v:ZC),qe ro I p k l->l[i]?=some v->qa ro I (p.add (k+i))=some v:=by
  intro l
  induction l with
  | nil=>intro k i v _ hv;cases hv
  | cons x l ih=>
   intro k i v h hv
   cases i with
   | zero=>cases hv;exact h.1
   | succ i=>have:=ih (k+1) i v h.2 (j4 hv);rw[<-this];congr 2;omega
 have:=gen l 0 i v h hv
 rwa [ml]at this
def alu{K:AH->AH->Prop}(h:K I (fun _=>none)):jX I K:=by
 refine⟨I,fun _=>none,fun c o hc=>rfl,?_,h⟩
 funext c;unfold join;cases I c<;>rfl
def Sep.none:Sep ro (fun _=>Option.none):=fun c o hc=>by cases hc
def afs(hs:Sep ro I)(h:qa ro I a=some v):qa (join ro I) τ a=some v:=by
 unfold qa rd at h⊢
 cases hr:ro a.block with
 | some o=>rw[hr]at h;unfold join;rw[hr];exact h
 | none=>
  rw[hr]at h
  cases hb:I a.block with
  | none=>simp only at h;rw[hb]at h;simp[zF]at h
  | some o=>unfold join;simp only[hr,hb]at h ⊢;exact h
def qJ.all(h:qJ ro I s l)(hs:Sep ro I):qJ (join ro I) τ s l:=⟨h.1,h.2.1,fun p hp i v hv=>afs hs (h.2.2 p hp i v hv)⟩
def vt.all{l:List (List Value)}(h:vt ro I w s l)(hs:Sep ro I):vt (join ro I) τ w s l:=⟨h.1,h.2.1,h.2.2.1,fun p hp i v hv=>afs hs (h.2.2.2 p hp i v hv)⟩
def alv(hs:Sep ro I)(hd:qL I τ)(ht:Sep (join ro I) τ)(tag:Nat->Nat):∀ R,qd R ro tag I (aeW I tag tag1) (join I τ):=fun R=>
 ⟨fun b o hb _=>⟨by simp[aeW,hb],vJ hb⟩,fun b o hb=>⟨by simp[aeW,hb],o,vJ hb⟩,fun c o hc=>by
  rcases abV hc with h | ⟨h1,h2⟩
  .exact hs c o h
  .exact(uD (ht c o h2)).1⟩
def Row.allB(h:Row tag1 τ r e s l)(hd:qL I τ)(tag:Nat->Nat):Row (aeW I tag tag1) (join I τ) r e s l:=by
 rcases h with h | ⟨b,cs,ha,ht,hb,hx⟩
 .exact .inl h
 .have hn:I b=Option.none:=by
   cases e:I b with
   | none=>rfl
   | some o=>have:=hd b o e;rw[hb]at this;cases this
  exact .inr ⟨b,cs,ha,by simp[aeW,hn,ht],by unfold join;rw[hn];exact hb,hx⟩
end SL
namespace SL
open Go
variable{P:Program}{B:ZB}{ro I:AH}{o:Oper}{fr:Fr}{x:Operand}
def au0{t e:TypeId}{n:Nat}{ad:Addr}{zv:ZC}{s bt:Nat}(ho:o.op= .slice t x none none none)(ht:P.underlying t=some (.array n e))(hz:qp P e zv s bt)(hx:qm fr x=some (.pointer (some ad))):qG P ro o fr (.slice (some ad) n n):=by
 intro O hρ
 have e':execOp O o=(do pure (.value (<-Instr.sliceAt t (.pointer (some ad)) none none none))):=by
  unfold execOp;rw[ho];simp only[hρ _ _ hx];rfl
 rw[e']
 show qh P ro (Sem.bind (Instr.sliceAt t (.pointer (some ad)) none none none) _) _=_
 unfold Instr.sliceAt
 simp only[qy,bind_assoc']
 rw[qF _ _ ht];dsimp only
 unfold Instr.sureAddr Instr.sliceBounds
 simp only[qy,bind_assoc',qS,wL]
 rw[pt hz]
 have:ad.add (0*s)=ad:=by rw[Pk];try rfl
 rw[this]
 simp only[ite_self,Nat.sub_zero]
 try rfl