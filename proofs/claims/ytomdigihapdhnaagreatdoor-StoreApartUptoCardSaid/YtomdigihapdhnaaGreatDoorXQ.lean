import Derived.Test.YtomdigihapdhnaaGreatDoorXP
set_option linter.all false
set_option maxRecDepth 99999
set_option maxHeartbeats 0
open Go.IntKind(i64)
open Go.Proofs.Tryz
namespace Go.Proofs.YtomdigihapdhnaaGreatDoor
namespace G
open Go SL
variable{B:ZB}{ro I:AH}
def ae9(B:ZB)(ro:AH)(a0:Sl)(I:AH)(Q:ZO->Int->AH->Prop):=
 jp B ro a0 I fun u0 I=>
 if¬(u0=true)then
 Q none 190 I
 else
 xA B ro a0 I fun u1 I=>
 ahp B ro I fun u2 I=>
 ajb B ro I fun u3 I=>
 akP B ro I fun u4 I=>
 nw ro I (.cells #[.int .i64 0,Sl.v u1,.pointer u2,.pointer u3,.pointer u4] 153) fun u5 I=>
 Q (some ⟨u5,0,none⟩) 0 I
def aj2{a0 Q}(h:Sep ro I->ae9 B ro a0 I Q):abs B ro a0 I Q:=by
 refine zb h func21 ntmps21 fun h=>?_;unfold ae9 at h;refine zw ?_;refine AW.seq ?_;refine zC func64 h fun u0 I h=>?_;refine AW.iff rfl (qu Iff.rfl) h (fun h=>?_) (fun h=>?_)
 .exact zrr h
 refine zc func65 h ?_;rintro v I ⟨u1,rfl,h⟩;refine zm (wB (vs:=[(0,.int .i64 0),(1,Sl.v u1)]) (cs:= #[.int .i64 0,Sl.v u1]) rfl Lt afZ awX rfl rfl) ?_;refine zc func66 h ?_;rintro v I ⟨u2,rfl,h⟩;refine zc func67 h ?_;rintro v I ⟨u3,rfl,h⟩;refine zc func68 h ?_;rintro v I ⟨u4,rfl,h⟩;refine zm (wB (vs:=[(0,.agg #[.int .i64 0,Sl.v u1]),(1,.pointer u2),(2,.pointer u3),(3,.pointer u4)]) (cs:= #[.int .i64 0,Sl.v u1,.pointer u2,.pointer u3,.pointer u4]) rfl mX awM awY rfl rfl) ?_
 refine zA (wt rfl rfl) h fun u5 h=>?_;exact zrr h
def wy(B:ZB)(ro:AH)(a0:ZO)(u0 u1:Nat)(Q:Int->Int->Sl->Int->Sl->Int->Int->Int->Int->Sl->Sl->Int->AH->Prop)(u2:Bool)(I:AH):=
 if u2=true then
 ∃u3 u4 u5 u6 u7 u8 u9 u10 u11 u12 u13 u14 u15,qe ro I ⟨u0,0,none⟩ 0 [.int .i64 u3,.string u4,.int .i64 u5,.int .i64 u6,.int .i64 u7,.int .i64 u8,.int .i64 u9,.int .i64 u10,Sl.v u11,.string u12,.bool u13,.int .i64 u14,Sl.v u15]/\
 aa1 B ro a0 u3 u4 u5 u6 u7 u8 u9 u10 u11 u12 u13 u14 u15 I fun u16 u17 u18 u19 u20 u21 u22 u23 u24 u25 u26 u27 I=>
 stN ⟨u1,0,none⟩ (fun I=>
  ∃u28 u29 u30 u31 u32 u33 u34 u35 u36 u37 u38 u39,qe ro I ⟨u1,0,none⟩ 0 [.int .i64 u28,.int .i64 u29,Sl.v u30,.int .i64 u31,Sl.v u32,.int .i64 u33,.int .i64 u34,.int .i64 u35,.int .i64 u36,Sl.v u37,Sl.v u38,.int .i64 u39]/\
  Q u28 u29 u30 u31 u32 u33 u34 u35 u36 u37 u38 u39 I) [.int .i64 u16,.int .i64 u17,Sl.v u18,.int .i64 u19,Sl.v u20,.int .i64 u21,.int .i64 u22,.int .i64 u23,.int .i64 u24,Sl.v u25,Sl.v u26,.int .i64 u27] 0 I
 else
 wJ B ro 170 I fun u40 u41 u42 u43 u44 u45 u46 u47 u48 u49 u50 u51 I=>
 stN ⟨u1,0,none⟩ (fun I=>
 ∃u52 u53 u54 u55 u56 u57 u58 u59 u60 u61 u62 u63,qe ro I ⟨u1,0,none⟩ 0 [.int .i64 u52,.int .i64 u53,Sl.v u54,.int .i64 u55,Sl.v u56,.int .i64 u57,.int .i64 u58,.int .i64 u59,.int .i64 u60,Sl.v u61,Sl.v u62,.int .i64 u63]/\
 Q u52 u53 u54 u55 u56 u57 u58 u59 u60 u61 u62 u63 I) [.int .i64 u40,.int .i64 u41,Sl.v u42,.int .i64 u43,Sl.v u44,.int .i64 u45,.int .i64 u46,.int .i64 u47,.int .i64 u48,Sl.v u49,Sl.v u50,.int .i64 u51] 0 I
def uo(B:ZB)(ro:AH)(a0:ZO)(a1_0:Int)(a1_1:ZA)(a1_2 a1_3 a1_4 a1_5 a1_6 a1_7:Int)(a1_8:Sl)(a1_9:ZA)(a1_10:Bool)(a1_11:Int)(a1_12:Sl)(I:AH)(Q:Int->Int->Sl->Int->Sl->Int->Int->Int->Int->Sl->Sl->Int->AH->Prop):=
 nw ro I (.cells #[.int .i64 a1_0,.string a1_1,.int .i64 a1_2,.int .i64 a1_3,.int .i64 a1_4,.int .i64 a1_5,.int .i64 a1_6,.int .i64 a1_7,Sl.v a1_8,.string a1_9,.bool a1_10,.int .i64 a1_11,Sl.v a1_12] 57) fun u0 I=>
 nw ro I (.cells #[.int .i64 0,.int .i64 0,Sl.v (⟨none,0,0⟩:Sl),.int .i64 0,Sl.v (⟨none,0,0⟩:Sl),.int .i64 0,.int .i64 0,.int .i64 0,.int .i64 0,Sl.v (⟨none,0,0⟩:Sl),Sl.v (⟨none,0,0⟩:Sl),.int .i64 0] 30) fun u1 I=>
 ∃u2,qa ro I ⟨u0,0,none⟩=some (.int .i64 u2)/\
 if u2=1 then
 ∃u3 u4 u5 u6 u7 u8 u9 u10 u11 u12 u13 u14 u15,qe ro I ⟨u0,0,none⟩ 0 [.int .i64 u3,.string u4,.int .i64 u5,.int .i64 u6,.int .i64 u7,.int .i64 u8,.int .i64 u9,.int .i64 u10,Sl.v u11,.string u12,.bool u13,.int .i64 u14,Sl.v u15]/\
 uI B ro a0 u3 u4 u5 u6 u7 u8 u9 u10 u11 u12 u13 u14 u15 I fun u16 u17 u18 u19 u20 u21 u22 u23 u24 u25 u26 u27 I=>
 stN ⟨u1,0,none⟩ (fun I=>
  ∃u28 u29 u30 u31 u32 u33 u34 u35 u36 u37 u38 u39,qe ro I ⟨u1,0,none⟩ 0 [.int .i64 u28,.int .i64 u29,Sl.v u30,.int .i64 u31,Sl.v u32,.int .i64 u33,.int .i64 u34,.int .i64 u35,.int .i64 u36,Sl.v u37,Sl.v u38,.int .i64 u39]/\
  Q u28 u29 u30 u31 u32 u33 u34 u35 u36 u37 u38 u39 I) [.int .i64 u16,.int .i64 u17,Sl.v u18,.int .i64 u19,Sl.v u20,.int .i64 u21,.int .i64 u22,.int .i64 u23,.int .i64 u24,Sl.v u25,Sl.v u26,.int .i64 u27] 0 I
 else
 if u2=4 then
 jX I fun ψ I=>
  ∃p40,a0=some p40/\
  ∃u41,qa (join ro ψ) (fun _=>none) (p40.add 3)=some (.pointer u41)/\
  ∃u42,qa (join ro ψ) (fun _=>none) ((⟨u0,0,none⟩:Addr).add 6)=some (.int .i64 u42)/\
  ∃u43 u44 u45 u46 u47 u48 u49 u50 u51 u52 u53 u54 u55,qe (join ro ψ) I ⟨u0,0,none⟩ 0 [.int .i64 u43,.string u44,.int .i64 u45,.int .i64 u46,.int .i64 u47,.int .i64 u48,.int .i64 u49,.int .i64 u50,Sl.v u51,.string u52,.bool u53,.int .i64 u54,Sl.v u55]/\
  vO B (join ro ψ) u43 u44 u45 u46 u47 u48 u49 u50 u51 u52 u53 u54 u55 I fun u56 u57 I=>
  aag B (join ro ψ) u41 u56 u57 u42 I fun u58 I=>
  (qL ψ I->(fun I=>
  if¬(u58=true)then
   wJ B ro 150 I fun u59 u60 u61 u62 u63 u64 u65 u66 u67 u68 u69 u70 I=>
   stN ⟨u1,0,none⟩ (fun I=>
   ∃u71 u72 u73 u74 u75 u76 u77 u78 u79 u80 u81 u82,qe ro I ⟨u1,0,none⟩ 0 [.int .i64 u71,.int .i64 u72,Sl.v u73,.int .i64 u74,Sl.v u75,.int .i64 u76,.int .i64 u77,.int .i64 u78,.int .i64 u79,Sl.v u80,Sl.v u81,.int .i64 u82]/\
   Q u71 u72 u73 u74 u75 u76 u77 u78 u79 u80 u81 u82 I) [.int .i64 u59,.int .i64 u60,Sl.v u61,.int .i64 u62,Sl.v u63,.int .i64 u64,.int .i64 u65,.int .i64 u66,.int .i64 u67,Sl.v u68,Sl.v u69,.int .i64 u70] 0 I
  else
  ∃u83 u84 u85 u86 u87 u88 u89 u90 u91 u92 u93 u94 u95,qe ro I ⟨u0,0,none⟩ 0 [.int .i64 u83,.string u84,.int .i64 u85,.int .i64 u86,.int .i64 u87,.int .i64 u88,.int .i64 u89,.int .i64 u90,Sl.v u91,.string u92,.bool u93,.int .i64 u94,Sl.v u95]/\
  vO B ro u83 u84 u85 u86 u87 u88 u89 u90 u91 u92 u93 u94 u95 I fun u96 u97 I=>
  uh B ro a0 u96 u97 I fun I=>
  stN ⟨u1,0,none⟩ (fun I=>
   ∃u98 u99 u100 u101 u102 u103 u104 u105 u106 u107 u108 u109,qe ro I ⟨u1,0,none⟩ 0 [.int .i64 u98,.int .i64 u99,Sl.v u100,.int .i64 u101,Sl.v u102,.int .i64 u103,.int .i64 u104,.int .i64 u105,.int .i64 u106,Sl.v u107,Sl.v u108,.int .i64 u109]/\
   Q u98 u99 u100 u101 u102 u103 u104 u105 u106 u107 u108 u109 I) [.int .i64 0,.int .i64 0,Sl.v (⟨none,0,0⟩:Sl),.int .i64 0,Sl.v (⟨none,0,0⟩:Sl),.int .i64 0,.int .i64 0,.int .i64 0,.int .i64 0,Sl.v (⟨none,0,0⟩:Sl),Sl.v (⟨none,0,0⟩:Sl),.int .i64 0] 0 I) (join ψ I))
 else
 if u2=8 then
 ∃u110 u111 u112 u113 u114 u115 u116 u117 u118 u119 u120 u121 u122,qe ro I ⟨u0,0,none⟩ 0 [.int .i64 u110,.string u111,.int .i64 u112,.int .i64 u113,.int .i64 u114,.int .i64 u115,.int .i64 u116,.int .i64 u117,Sl.v u118,.string u119,.bool u120,.int .i64 u121,Sl.v u122]/\
 aa0 B ro a0 u110 u111 u112 u113 u114 u115 u116 u117 u118 u119 u120 u121 u122 I fun u123 u124 u125 u126 u127 u128 u129 u130 u131 u132 u133 u134 I=>
 stN ⟨u1,0,none⟩ (fun I=>
  ∃u135 u136 u137 u138 u139 u140 u141 u142 u143 u144 u145 u146,qe ro I ⟨u1,0,none⟩ 0 [.int .i64 u135,.int .i64 u136,Sl.v u137,.int .i64 u138,Sl.v u139,.int .i64 u140,.int .i64 u141,.int .i64 u142,.int .i64 u143,Sl.v u144,Sl.v u145,.int .i64 u146]/\
  Q u135 u136 u137 u138 u139 u140 u141 u142 u143 u144 u145 u146 I) [.int .i64 u123,.int .i64 u124,Sl.v u125,.int .i64 u126,Sl.v u127,.int .i64 u128,.int .i64 u129,.int .i64 u130,.int .i64 u131,Sl.v u132,Sl.v u133,.int .i64 u134] 0 I
 else
 if u2=2 then
 wy B ro a0 u0 u1 Q (decide (u2=2)) I
 else
 if u2=3 then
 wy B ro a0 u0 u1 Q (decide (u2=3)) I
 else
 if u2=5 then
 wy B ro a0 u0 u1 Q (decide (u2=5)) I
 else
 if u2=6 then
 wy B ro a0 u0 u1 Q (decide (u2=6)) I
 else
 wy B ro a0 u0 u1 Q (decide (u2=7)) I
def aeA{a0 a1_0 a1_1 a1_2 a1_3 a1_4 a1_5 a1_6 a1_7 a1_8 a1_9 a1_10 a1_11 a1_12 Q}(h:Sep ro I->uo B ro a0 a1_0 a1_1 a1_2 a1_3 a1_4 a1_5 a1_6 a1_7 a1_8 a1_9 a1_10 a1_11 a1_12 I Q):xv B ro a0 a1_0 a1_1 a1_2 a1_3 a1_4 a1_5 a1_6 a1_7 a1_8 a1_9 a1_10 a1_11 a1_12 I Q:=by
 refine zb h func22 ntmps22 fun h=>?_;unfold uo at h;refine zw ?_;refine zA (wt rfl rfl) h fun u0 h=>?_;refine zAp (qT rfl qM) h fun u1 h=>?_;refine AW.seq ?_;refine zf mw ty3 ?_;refine zL mf h fun u2 h=>?_;refine zi h (fun h=>?_) fun h=>?_
 .refine zw ?_;obtain⟨u3,u4,u5,u6,u7,u8,u9,u10,u11,u12,u13,u14,u15,hc,h⟩:=h
  refine zl (wq rfl mw rfl yV rfl hc ?_)
  refine zc func69 h ?_;rintro v I ⟨u16,u17,u18,u19,u20,u21,u22,u23,u24,u25,u26,u27,rfl,h⟩;refine zsp qM h fun I h=>?_;obtain⟨u28,u29,u30,u31,u32,u33,u34,u35,u36,u37,u38,u39,hc0,h⟩:=h
  exact xN results22 (wA (vN rfl mi rfl qM hc0) vM) ⟨_,_,_,_,_,_,_,_,_,_,_,_,rfl,h⟩
 refine zi h (fun h=>?_) fun h=>?_
 .refine AW.seq (AW.seq ?_);refine AW.drawnL (fun i=>([0,0,0,0,3,2,0,0,2,0]:List Nat).getD i 2) [(4,5),(4,8)] [0,1,2,3,6,7,4,5,8,9] mixed h j3 ?_
  clear h
  intro ψ I h
  refine zM h fun p40 h=>?_;refine zg mX aio ?_;refine zS LP h fun u41 h=>?_;refine zg mw ty3 ?_;refine zS mf h fun u42 h=>?_;obtain⟨u43,u44,u45,u46,u47,u48,u49,u50,u51,u52,u53,u54,u55,hc,h⟩:=h
  refine Dr rfl rfl rfl rfl (jh rfl mw rfl yV rfl hc) ?_
  refine zG func71 h ?_;rintro v I ⟨u56,u57,rfl,h⟩;refine zG func70 h ?_;rintro v I ⟨u58,rfl,h⟩;refine zw ?_;refine⟨_,wW.refl _,fun hdj=>?_⟩
  replace h:=h hdj
  refine zw ?_;refine AW.iff rfl (qu Iff.rfl) h (fun h=>?_) (fun h=>?_)
  .refine zc func72 h ?_;rintro v I ⟨u59,u60,u61,u62,u63,u64,u65,u66,u67,u68,u69,u70,rfl,h⟩;refine zsp qM h fun I h=>?_;obtain⟨u71,u72,u73,u74,u75,u76,u77,u78,u79,u80,u81,u82,hc0,h⟩:=h
   exact xN results22 (wA (vN rfl mi rfl qM hc0) vM) ⟨_,_,_,_,_,_,_,_,_,_,_,_,rfl,h⟩
  refine zw ?_;obtain⟨u83,u84,u85,u86,u87,u88,u89,u90,u91,u92,u93,u94,u95,hc,h⟩:=h
  refine zl (wq rfl mw rfl yV rfl hc ?_)
  refine zc func71 h ?_;rintro v I ⟨u96,u97,rfl,h⟩;refine zc func73 h ?_;rintro v I ⟨rfl,h⟩;refine zw ?_;refine zm (wB (vs:=[]) (cs:= #[.int .i64 0,.int .i64 0,Sl.v (⟨none,0,0⟩:Sl),.int .i64 0,Sl.v (⟨none,0,0⟩:Sl),.int .i64 0,.int .i64 0,.int .i64 0,.int .i64 0,Sl.v (⟨none,0,0⟩:Sl),Sl.v (⟨none,0,0⟩:Sl),.int .i64 0]) rfl mi qM agn rfl j0) ?_
  refine zsp qM h fun I h=>?_;obtain⟨u98,u99,u100,u101,u102,u103,u104,u105,u106,u107,u108,u109,hc0,h⟩:=h
  exact xN results22 (wA (vN rfl mi rfl qM hc0) vM) ⟨_,_,_,_,_,_,_,_,_,_,_,_,rfl,h⟩
 refine zi h (fun h=>?_) fun h=>?_
 .refine zw ?_;obtain⟨u110,u111,u112,u113,u114,u115,u116,u117,u118,u119,u120,u121,u122,hc,h⟩:=h
  refine zl (wq rfl mw rfl yV rfl hc ?_)
  refine zc func74 h ?_;rintro v I ⟨u123,u124,u125,u126,u127,u128,u129,u130,u131,u132,u133,u134,rfl,h⟩;refine zsp qM h fun I h=>?_;obtain⟨u135,u136,u137,u138,u139,u140,u141,u142,u143,u144,u145,u146,hc0,h⟩:=h
  exact xN results22 (wA (vN rfl mi rfl qM hc0) vM) ⟨_,_,_,_,_,_,_,_,_,_,_,_,rfl,h⟩
 refine AW.seqJ (fun fr I=> ∃(u147:Bool),qo [(0,.pointer a0),(3,.pointer (some ⟨u0,0,none⟩)),(4,.pointer (some ⟨u1,0,none⟩)),(35,.bool u147)] fr/\wy B ro a0 u0 u1 Q u147 I) ?_ ?_
 rotate_left
 .refine zi h (fun h=>?_) fun h=>?_
  .refine zw ?_;exact⟨_,FL,h⟩
  refine zi h (fun h=>?_) fun h=>?_
  .refine zw ?_;exact⟨_,FL,h⟩
  refine zi h (fun h=>?_) fun h=>?_
  .refine zw ?_;exact⟨_,FL,h⟩
  refine zi h (fun h=>?_) fun h=>?_
  .refine zw ?_;exact⟨_,FL,h⟩
  refine zw ?_;exact⟨_,FL,h⟩
 rintro fr I ⟨u147,hl,h⟩;refine AW.weaken ?_ hl (HLe.refl _)
 unfold wy at h;refine zj h (fun h=>?_) fun h=>?_
 rotate_left
 .refine zc func72 h ?_;rintro v I ⟨u148,u149,u150,u151,u152,u153,u154,u155,u156,u157,u158,u159,rfl,h⟩;refine zsp qM h fun I h=>?_;obtain⟨u160,u161,u162,u163,u164,u165,u166,u167,u168,u169,u170,u171,hc0,h⟩:=h
  exact xN results22 (wA (vN rfl mi rfl qM hc0) vM) ⟨_,_,_,_,_,_,_,_,_,_,_,_,rfl,h⟩
 refine zw ?_;obtain⟨u172,u173,u174,u175,u176,u177,u178,u179,u180,u181,u182,u183,u184,hc,h⟩:=h
 refine zl (wq rfl mw rfl yV rfl hc ?_)
 refine zc func75 h ?_;rintro v I ⟨u185,u186,u187,u188,u189,u190,u191,u192,u193,u194,u195,u196,rfl,h⟩;refine zsp qM h fun I h=>?_;obtain⟨u197,u198,u199,u200,u201,u202,u203,u204,u205,u206,u207,u208,hc0,h⟩:=h
 exact xN results22 (wA (vN rfl mi rfl qM hc0) vM) ⟨_,_,_,_,_,_,_,_,_,_,_,_,rfl,h⟩
def abc(B:ZB)(ro:AH)(a0:ZO)(I:AH)(Q:Int->AH->Prop):=
 ∃p0,a0=some p0/\
 ∃u1,qa ro I p0=some (.int .i64 u1)/\
 Q u1 I
def ah2{a0 Q}(h:Sep ro I->abc B ro a0 I Q):aeg B ro a0 I Q:=by
 refine zb h func62 ntmps62 fun h=>?_;unfold abc at h;refine zN h fun p0 h=>?_;refine zf Lt ty3 ?_;refine zL mf h fun u1 h=>?_;exact zr h
def aam(B:ZB)(ro:AH)(a0:ZO)(I:AH)(Q:Sl->AH->Prop):=
 ∃p0,a0=some p0/\
 ∃u1,qa ro I (p0.add 1)=some (Sl.v u1)/\
 xA B ro u1 I fun u2 I=>
 Q u2 I
def agS{a0 Q}(h:Sep ro I->aam B ro a0 I Q):ac1 B ro a0 I Q:=by
 refine zb h func63 ntmps63 fun h=>?_;unfold aam at h;refine zN h fun p0 h=>?_;refine zf Lt aho ?_;refine zL mO h fun u1 h=>?_;refine zc func65 h ?_;rintro v I ⟨u2,rfl,h⟩;exact zr h
def jc(B:ZB)(ro:AH)(a0:Sl)(Q:Bool->AH->Prop)(I:AH):=
 Q ((decide (1<=(a0.len:Int))) && (decide ((a0.len:Int)<=7))) I
def wz(B:ZB)(ro:AH)(a0:Sl)(u0:Int)(Q:Bool->AH->Prop)(Y2:Int->AH->Prop)(u1:Bool)(I:AH):=
 if u1=true then
 Q false I
 else
 Y2 (i64.wrap (u0+1)) I
def zo(B:ZB)(ro:AH)(a0:Sl)(u0 u1:Int)(Q:Bool->AH->Prop)(Y2:Int->AH->Prop)(u2:Bool)(I:AH):=
 wz B ro a0 u0 Q Y2 u2 I
def wh(B:ZB)(ro:AH)(a0:Sl)(Q:Bool->AH->Prop):Int->AH->(Int->AH->Prop)->Prop:=fun u0 I Y2=>
 if u0<(a0.len:Int)then
 ∃p1,a0.a=some p1/\(0:Int)<=u0/\u0<(a0.len:Int)/\
 ∃u2,qa ro I (p1.add (Int.toNat u0*1))=some (.int .i64 u2)/\
 if(u2<0)\/(31<u2)then
  wz B ro a0 u0 Q Y2 true I
 else
 if 0<u0 then
  ∃p3,a0.a=some p3/\(0:Int)<=(i64.wrap (u0 - 1))/\(i64.wrap (u0 - 1))<(a0.len:Int)/\
  ∃u4,qa ro I (p3.add (Int.toNat (i64.wrap (u0 - 1))*1))=some (.int .i64 u4)/\
  zo B ro a0 u0 u2 Q Y2 (decide (u2<=u4)) I
 else
 zo B ro a0 u0 u2 Q Y2 false I
 else
 jc B ro a0 Q I
def pE(B:ZB)(ro:AH)(a0:Sl)(I:AH)(Q:Bool->AH->Prop):=
 lfpD (wh B ro a0 Q) (0) I
def ad0{a0 Q}(h:Sep ro I->pE B ro a0 I Q):jp B ro a0 I Q:=by
 refine zb h func64 ntmps64 fun h=>?_;unfold pE at h;refine zw ?_;refine AW.seqJ (fun fr I=>qo [(0,Sl.v a0)] fr/\jc B ro a0 Q I) ?_ ?_
 .rintro fr I ⟨hl,h⟩;refine AW.weaken ?_ hl (HLe.refl _)
  unfold jc at h;refine zw ?_;refine zm (qC rfl rfl mO rfl rfl) ?_;refine zw ?_;refine wY 4 (decide (1<=(a0.len:Int))) [(39,.bool ((decide (1<=(a0.len:Int))) && (decide ((a0.len:Int)<=7))))] ?_ ?_ ?_
  .intro e3 hk3
   refine zy e3 ?_;refine qO (qC rfl rfl mO rfl rfl) rfl rfl rfl rfl e3 ?_
   refine zv e3 ?_;exact hk3 _ (Fe e3)
  .intro e3 hk3
   refine zv e3 ?_;exact hk3 _ (Fe e3)
  intro fr hl
  refine Lfr hl ?_
  exact zr h
 refine zw ?_;refine zm (qC rfl rfl mO rfl rfl) ?_;refine zw ?_;refine qi.loop (fr':=[(0,Sl.v a0),(5,Sl.v a0),(6,.int .i64 (a0.len:Int)),(7,.int .i64 0)]) ?_ FL
 refine h (fun u0 I=>qi _ _ _ _ _ _ [(0,Sl.v a0),(5,Sl.v a0),(6,.int .i64 (a0.len:Int)),(7,.int .i64 u0)] I) ?_
 rintro u0 I Y2 hY2 h
 show AW _ _ _ _ _ _ _ _
 unfold wh at h;refine zw ?_;refine AW.seq ?_;refine zi h (fun h=>?_) fun h=>?_
 rotate_left
 .refine AW.exit ?_;refine zw ?_;refine qX ?_
  refine zw ?_;exact⟨FL,h⟩
 refine zw ?_;refine AW.seq ?_;refine zw ?_;obtain⟨p1,ha,h0,h1,h⟩:=h
 refine zm (wO rfl mO ty3 (ixL rfl ha) rfl h0 h1) ?_;refine zLp mf h fun u2 h=>?_;refine wY 3 (decide (u2<0)) [(0,Sl.v a0),(3,.int .i64 u0),(4,.int .i64 u2),(5,Sl.v a0),(6,.int .i64 (a0.len:Int)),(7,.int .i64 u0),(17,.bool ((decide (u2<0)) || (decide (31<u2))))] ?_ ?_ ?_
 .intro e2 hk2
  refine zv e2 ?_;exact hk2 _ (Fe e2)
 .intro e2 hk2
  refine zv e2 ?_;exact hk2 _ (Fe e2)
 intro fr hl
 refine Lfr hl ?_
 refine zw ?_;refine qI 12 ((decide (u2<0)) || (decide (31<u2))) (vr me me) h (fun fr I=> ∃(u3:Bool),qo [(0,Sl.v a0),(5,Sl.v a0),(6,.int .i64 (a0.len:Int)),(7,.int .i64 u0),(30,.bool u3)] fr/\wz B ro a0 u0 Q Y2 u3 I) ?_ ?_ ?_
 .intro h e6 hk6;refine zv e6 ?_;refine Ln rfl rfl rfl rfl (.inr rfl) ?_
  refine Ln rfl rfl rfl rfl (.inr rfl) ?_
  refine Ln rfl rfl rfl rfl (.inr rfl) ?_
  refine Ln rfl rfl rfl rfl (.inr rfl) ?_
  refine Ln rfl rfl rfl rfl (.inr rfl) ?_
  refine Ln rfl rfl rfl rfl (.inr rfl) ?_
  refine Ln rfl rfl rfl rfl (.inr rfl) ?_
  refine zv e6 ?_;exact hk6 _ _ ⟨_,FL,h⟩
 .intro h e6 hk6;refine zv e6 ?_;refine qI 8 (decide (0<u0)) me h (fun fr I=> ∃(u4:Bool),qo [(0,Sl.v a0),(5,Sl.v a0),(6,.int .i64 (a0.len:Int)),(7,.int .i64 u0),(18,.bool ((decide (u2<0)) || (decide (31<u2)))),(29,.bool u4)] fr/\zo B ro a0 u0 u2 Q Y2 u4 I) ?_ ?_ ?_
  .intro h e9 hk9;refine zv e9 ?_;obtain⟨p5,ha,h0,h1,h⟩:=h
   refine qO (wO rfl mO ty3 (ixL rfl ha) rfl h0 h1) rfl rfl rfl rfl e9 ?_
   obtain⟨u6,hc,h⟩:=h
   refine Lyb rfl rfl rfl rfl e9 (vc rfl mf rfl rfl hc ?_)
   refine zy e9 ?_;refine qO (pN rfl (evb e9) rfl) rfl rfl rfl rfl e6 ?_
   exact hk9 _ _ ⟨_,FL,h⟩
  .intro h e9 hk9;refine zv e9 ?_;refine qO (ux rfl (evb e9) rfl) rfl rfl rfl rfl e6 ?_
   exact hk9 _ _ ⟨_,FL,h⟩
  rintro fr I ⟨u4,hl,h⟩;unfold zo at h;refine Lfr hl ?_
  refine zk e6 ?_;exact hk6 _ _ ⟨_,FL,h⟩
 rintro fr I ⟨u3,hl,h⟩;unfold wz at h;refine Lfr hl ?_
 refine zj h (fun h=>?_) fun h=>?_
 .exact zr h
 refine zw ?_;refine qi.head (fr':=[(0,Sl.v a0),(5,Sl.v a0),(6,.int .i64 (a0.len:Int)),(7,.int .i64 (i64.wrap (u0+1)))]) ?_ FL
 exact hY2 _ _ h
def zz(B:ZB)(ro:AH)(u0:Nat)(u1:Int)(Q:Int->Int->Sl->Int->Sl->Int->Int->Int->Int->Sl->Sl->Int->AH->Prop)(I:AH):=
 stN ⟨u0,0,none⟩ (fun I=>
 ∃u2 u3 u4 u5 u6 u7 u8 u9 u10 u11 u12 u13,qe ro I ⟨u0,0,none⟩ 0 [.int .i64 u2,.int .i64 u3,Sl.v u4,.int .i64 u5,Sl.v u6,.int .i64 u7,.int .i64 u8,.int .i64 u9,.int .i64 u10,Sl.v u11,Sl.v u12,.int .i64 u13]/\
 Q u2 u3 u4 u5 u6 u7 u8 u9 u10 u11 u12 u13 I) [.int .i64 0,.int .i64 u1,Sl.v (⟨none,0,0⟩:Sl),.int .i64 0,Sl.v (⟨none,0,0⟩:Sl),.int .i64 0,.int .i64 0,.int .i64 0,.int .i64 0,Sl.v (⟨none,0,0⟩:Sl),Sl.v (⟨none,0,0⟩:Sl),.int .i64 0] 0 I
def aab(B:ZB)(ro:AH)(a0:ZO)(a1_0:Int)(a1_1:ZA)(a1_2 a1_3 a1_4 a1_5 a1_6 a1_7:Int)(a1_8:Sl)(a1_9:ZA)(a1_10:Bool)(a1_11:Int)(a1_12:Sl)(I:AH)(Q:Int->Int->Sl->Int->Sl->Int->Int->Int->Int->Sl->Sl->Int->AH->Prop):=
 nw ro I (.cells #[.int .i64 a1_0,.string a1_1,.int .i64 a1_2,.int .i64 a1_3,.int .i64 a1_4,.int .i64 a1_5,.int .i64 a1_6,.int .i64 a1_7,Sl.v a1_8,.string a1_9,.bool a1_10,.int .i64 a1_11,Sl.v a1_12] 57) fun u0 I=>
 nw ro I (.cells #[.int .i64 0,.int .i64 0,Sl.v (⟨none,0,0⟩:Sl),.int .i64 0,Sl.v (⟨none,0,0⟩:Sl),.int .i64 0,.int .i64 0,.int .i64 0,.int .i64 0,Sl.v (⟨none,0,0⟩:Sl),Sl.v (⟨none,0,0⟩:Sl),.int .i64 0] 30) fun u1 I=>
 ∃u2,qa ro I ((⟨u0,0,none⟩:Addr).add 1)=some (.string u2)/\
 (⟨#[47]⟩:ZA).size+u2.size<=9223372036854775807/\
 ∃p3,a0=some p3/\
 ∃u4,qa ro I (p3.add 2)=some (.pointer u4)/\
 yb B ro u4 ((⟨#[47]⟩:ZA)++u2) I fun u5 u6 u7 u8 u9 u10 I=>
 nw ro I (.cells #[.int .i64 0,.int .i64 0,.int .i64 0,.int .i64 0] 26) fun u11 I=>
 stN ⟨u11,0,none⟩ (fun I=>
 ∃u12,qa ro I ((⟨u0,0,none⟩:Addr).add 1)=some (.string u12)/\
 pH B ro u12 I fun u13 I=>
 ∃p14,a0=some p14/\
 ∃u15,qa ro I (p14.add 3)=some (.pointer u15)/\
 ∃u16,qa ro I ((⟨u0,0,none⟩:Addr).add 1)=some (.string u16)/\
 ∃u17,qa ro I ((⟨u0,0,none⟩:Addr).add 4)=some (.int .i64 u17)/\
 ∃u18,qa ro I ((⟨u0,0,none⟩:Addr).add 5)=some (.int .i64 u18)/\
 jq B ro u15 u16 u17 u18 I fun u19 u20 u21 I=>
 if¬(u21=0)then
  wJ B ro u21 I fun u22 u23 u24 u25 u26 u27 u28 u29 u30 u31 u32 u33 I=>
  stN ⟨u1,0,none⟩ (fun I=>
  ∃u34 u35 u36 u37 u38 u39 u40 u41 u42 u43 u44 u45,qe ro I ⟨u1,0,none⟩ 0 [.int .i64 u34,.int .i64 u35,Sl.v u36,.int .i64 u37,Sl.v u38,.int .i64 u39,.int .i64 u40,.int .i64 u41,.int .i64 u42,Sl.v u43,Sl.v u44,.int .i64 u45]/\
  Q u34 u35 u36 u37 u38 u39 u40 u41 u42 u43 u44 u45 I) [.int .i64 u22,.int .i64 u23,Sl.v u24,.int .i64 u25,Sl.v u26,.int .i64 u27,.int .i64 u28,.int .i64 u29,.int .i64 u30,Sl.v u31,Sl.v u32,.int .i64 u33] 0 I
 else
 if(u13=true)/\(u10=70)then
  ∃p46,a0=some p46/\
  ∃u47,qa ro I (p46.add 2)=some (.pointer u47)/\
  jS B ro u47 ((⟨#[47]⟩:ZA)++u2) (⟨none,0,0⟩:Sl) 0 false I fun u48 u49 I=>
  zz B ro u1 u19 Q I
 else
 zz B ro u1 u19 Q I) [.int .i64 u6,.int .i64 u7,.int .i64 u8,.int .i64 u9] 0 I
def aeE{a0 a1_0 a1_1 a1_2 a1_3 a1_4 a1_5 a1_6 a1_7 a1_8 a1_9 a1_10 a1_11 a1_12 Q}(h:Sep ro I->aab B ro a0 a1_0 a1_1 a1_2 a1_3 a1_4 a1_5 a1_6 a1_7 a1_8 a1_9 a1_10 a1_11 a1_12 I Q):uI B ro a0 a1_0 a1_1 a1_2 a1_3 a1_4 a1_5 a1_6 a1_7 a1_8 a1_9 a1_10 a1_11 a1_12 I Q:=by
 refine zb h func69 ntmps69 fun h=>?_;unfold aab at h;refine zw ?_;refine zA (wt rfl rfl) h fun u0 h=>?_;refine zA (qT rfl qM) h fun u1 h=>?_;refine zf mw ty9 ?_;refine zL mo h fun u2 h=>?_;obtain⟨hc,h⟩:=h
 refine zm (alO rfl rfl rfl hc) ?_;refine zN h fun p3 h=>?_;refine zf mX aeK ?_;refine zL nY h fun u4 h=>?_;refine zc func25 h ?_;rintro v I ⟨u5,u6,u7,u8,u9,u10,rfl,h⟩;refine zw ?_;refine zA (qT rfl wx) h fun u11 h=>?_;refine zs wx h fun I h=>?_;refine zf mw ty9 ?_;refine zL mo h fun u12 h=>?_;refine zC func99 h fun u13 I h=>?_
 refine wY 3 u13 [(0,.pointer a0),(3,.pointer (some ⟨u0,0,none⟩)),(4,.pointer (some ⟨u1,0,none⟩)),(5,.string ((⟨#[47]⟩:ZA)++u2)),(31,.bool (u13 && (decide (u10=70))))] ?_ ?_ ?_
 .intro e3 hk3
  refine zv e3 ?_;exact hk3 _ (Fe e3)
 .intro e3 hk3
  refine zv e3 ?_;exact hk3 _ (Fe e3)
 intro fr hl
 refine Lfr hl ?_
 refine zw ?_;refine AW.seq ?_;refine AW.drawn0 (fun i=>([0,0,0,3,0,3,0,3,0,3,2,0,0,0,0,0,0,0]:List Nat).getD i 2) [] [0,1,2,4,6,8,3,5,7,9,10,11,12,13,14,15,16,17] mixed j3 ?_
 refine zM h fun p14 h=>?_;refine zg mX aio ?_;refine zg mw ty9 ?_;refine zg mw ty3 ?_;refine zg mw ty3 ?_;refine zR LP h fun u15 h=>?_;refine zR mo h fun u16 h=>?_;refine zR mf h fun u17 h=>?_;refine zR mf h fun u18 h=>?_;refine zG func121 h ?_;rintro v I ⟨u19,u20,u21,rfl,h⟩;refine zw ?_;refine wG ?_
 refine zw ?_;refine AW.seq ?_;refine zw ?_;refine AW.iff rfl (qu me) h (fun h=>?_) (fun h=>?_)
 .refine zc func72 h ?_;rintro v I ⟨u22,u23,u24,u25,u26,u27,u28,u29,u30,u31,u32,u33,rfl,h⟩;refine zsp qM h fun I h=>?_;obtain⟨u34,u35,u36,u37,u38,u39,u40,u41,u42,u43,u44,u45,hc0,h⟩:=h
  exact xN results69 (wA (vN rfl mi rfl qM hc0) vM) ⟨_,_,_,_,_,_,_,_,_,_,_,_,rfl,h⟩
 refine zw ?_;refine AW.seqJ (fun fr I=>qo [(4,.pointer (some ⟨u1,0,none⟩)),(10,.int .i64 u19)] fr/\zz B ro u1 u19 Q I) ?_ ?_
 rotate_left
 .refine zw ?_;refine AW.iff rfl (ab2 Iff.rfl me) h (fun h=>?_) (fun h=>?_)
  rotate_left
  .refine zw ?_;exact⟨FL,h⟩
  refine zN h fun p46 h=>?_;refine zf mX aeK ?_;refine zL nY h fun u47 h=>?_;refine zc func122 h ?_;rintro v I ⟨u48,u49,rfl,h⟩;refine zw ?_;exact⟨FL,h⟩
 rintro fr I ⟨hl,h⟩;refine AW.weaken ?_ hl (HLe.refl _)
 unfold zz at h;refine zw ?_;refine zm (wB (vs:=[(1,.int .i64 u19)]) (cs:= #[.int .i64 0,.int .i64 u19,Sl.v (⟨none,0,0⟩:Sl),.int .i64 0,Sl.v (⟨none,0,0⟩:Sl),.int .i64 0,.int .i64 0,.int .i64 0,.int .i64 0,Sl.v (⟨none,0,0⟩:Sl),Sl.v (⟨none,0,0⟩:Sl),.int .i64 0]) rfl mi qM agn rfl j0) ?_;refine zsp qM h fun I h=>?_;obtain⟨u50,u51,u52,u53,u54,u55,u56,u57,u58,u59,u60,u61,hc0,h⟩:=h
 exact xN results69 (wA (vN rfl mi rfl qM hc0) vM) ⟨_,_,_,_,_,_,_,_,_,_,_,_,rfl,h⟩
def adQ(B:ZB)(ro:AH)(a0_0:Int)(a0_1:ZA)(a0_2 a0_3 a0_4 a0_5 a0_6 a0_7:Int)(a0_8:Sl)(a0_9:ZA)(a0_10:Bool)(a0_11:Int)(a0_12:Sl)(I:AH)(Q:ZA->Int->AH->Prop):=
 nw ro I (.cells #[.int .i64 a0_0,.string a0_1,.int .i64 a0_2,.int .i64 a0_3,.int .i64 a0_4,.int .i64 a0_5,.int .i64 a0_6,.int .i64 a0_7,Sl.v a0_8,.string a0_9,.bool a0_10,.int .i64 a0_11,Sl.v a0_12] 57) fun u0 I=>
 nw ro I (.cells #[.string ByteArray.empty,.int .i64 0] 81) fun u1 I=>
 ∃u2,qa ro I ((⟨u0,0,none⟩:Addr).add 1)=some (.string u2)/\
 ∃u3,qa ro I ((⟨u0,0,none⟩:Addr).add 2)=some (.int .i64 u3)/\
 stN ⟨u1,0,none⟩ (fun I=>
 ∃u4 u5,qe ro I ⟨u1,0,none⟩ 0 [.string u4,.int .i64 u5]/\
 Q u4 u5 I) [.string u2,.int .i64 u3] 0 I
def akI{a0_0 a0_1 a0_2 a0_3 a0_4 a0_5 a0_6 a0_7 a0_8 a0_9 a0_10 a0_11 a0_12 Q}(h:Sep ro I->adQ B ro a0_0 a0_1 a0_2 a0_3 a0_4 a0_5 a0_6 a0_7 a0_8 a0_9 a0_10 a0_11 a0_12 I Q):vO B ro a0_0 a0_1 a0_2 a0_3 a0_4 a0_5 a0_6 a0_7 a0_8 a0_9 a0_10 a0_11 a0_12 I Q:=by
 refine zb h func71 ntmps71 fun h=>?_;unfold adQ at h;refine zw ?_;refine zA (wt rfl rfl) h fun u0 h=>?_;refine zA (qT rfl vl) h fun u1 h=>?_;refine zf mw ty9 ?_;refine zL mo h fun u2 h=>?_;refine zf mw ty3 ?_;refine zL mf h fun u3 h=>?_;refine zm (wB (vs:=[(0,.string u2),(1,.int .i64 u3)]) (cs:= #[.string u2,.int .i64 u3]) rfl mH vl av7 rfl rfl) ?_
 refine zsp vl h fun I h=>?_;obtain⟨u4,u5,hc0,h⟩:=h
 exact xN results71 (wA (vN rfl mH rfl vl hc0) vM) ⟨_,_,rfl,h⟩
def afS(B:ZB)(ro:AH)(a0:Int)(I:AH)(Q:Int->Int->Sl->Int->Sl->Int->Int->Int->Int->Sl->Sl->Int->AH->Prop):=
 nw ro I (.cells #[.int .i64 0,.int .i64 0,Sl.v (⟨none,0,0⟩:Sl),.int .i64 0,Sl.v (⟨none,0,0⟩:Sl),.int .i64 0,.int .i64 0,.int .i64 0,.int .i64 0,Sl.v (⟨none,0,0⟩:Sl),Sl.v (⟨none,0,0⟩:Sl),.int .i64 0] 30) fun u0 I=>
 stN ⟨u0,0,none⟩ (fun I=>
 ∃u1 u2 u3 u4 u5 u6 u7 u8 u9 u10 u11 u12,qe ro I ⟨u0,0,none⟩ 0 [.int .i64 u1,.int .i64 u2,Sl.v u3,.int .i64 u4,Sl.v u5,.int .i64 u6,.int .i64 u7,.int .i64 u8,.int .i64 u9,Sl.v u10,Sl.v u11,.int .i64 u12]/\
 Q u1 u2 u3 u4 u5 u6 u7 u8 u9 u10 u11 u12 I) [.int .i64 a0,.int .i64 0,Sl.v (⟨none,0,0⟩:Sl),.int .i64 0,Sl.v (⟨none,0,0⟩:Sl),.int .i64 0,.int .i64 0,.int .i64 0,.int .i64 0,Sl.v (⟨none,0,0⟩:Sl),Sl.v (⟨none,0,0⟩:Sl),.int .i64 0] 0 I
def ana{a0 Q}(h:Sep ro I->afS B ro a0 I Q):wJ B ro a0 I Q:=by
 refine zb h func72 ntmps72 fun h=>?_;unfold afS at h;refine zw ?_;refine zAp (qT rfl qM) h fun u0 h=>?_;refine zm (wB (vs:=[(0,.int .i64 a0)]) (cs:= #[.int .i64 a0,.int .i64 0,Sl.v (⟨none,0,0⟩:Sl),.int .i64 0,Sl.v (⟨none,0,0⟩:Sl),.int .i64 0,.int .i64 0,.int .i64 0,.int .i64 0,Sl.v (⟨none,0,0⟩:Sl),Sl.v (⟨none,0,0⟩:Sl),.int .i64 0]) rfl mi qM agn rfl j0) ?_
 refine zsp qM h fun I h=>?_;obtain⟨u1,u2,u3,u4,u5,u6,u7,u8,u9,u10,u11,u12,hc0,h⟩:=h
 exact xN results72 (wA (vN rfl mi rfl qM hc0) vM) ⟨_,_,_,_,_,_,_,_,_,_,_,_,rfl,h⟩
def abI(B:ZB)(ro:AH)(a0:ZO)(a1_0:ZA)(a1_1:Int)(I:AH)(Q:AH->Prop):=
 nw ro I (.cells #[.string a1_0,.int .i64 a1_1] 81) fun u0 I=>
 ∃p1,a0=some p1/\
 ∃u2,qa ro I (p1.add 4)=some (.pointer u2)/\
 ∃u3 u4,qe ro I ⟨u0,0,none⟩ 0 [.string u3,.int .i64 u4]/\
 nw ro I (.cells #[.string u3,.int .i64 u4] 81) fun u5 I=>
 adv B ro u2 (⟨some ⟨u5,0,none⟩,1,1⟩:Sl) I fun I=>
 jX I fun ψ I=>
 ∃p6,a0=some p6/\
 ∃u7,qa (join ro ψ) (fun _=>none) (p6.add 4)=some (.pointer u7)/\
 ∃p8,a0=some p8/\
 ∃u9,qa (join ro ψ) I (p8.add 2)=some (.pointer u9)/\
 ∃u10,qa (join ro ψ) I ⟨u0,0,none⟩=some (.string u10)/\
 ∃u11,qa (join ro ψ) I ((⟨u0,0,none⟩:Addr).add 1)=some (.int .i64 u11)/\
 nw (join ro ψ) I (.cells #[.int .i64 u11] 3) fun u12 I=>
 abj B (join ro ψ) u9 u10 (⟨some ⟨u12,0,none⟩,1,1⟩:Sl) I fun u13 I=>
 aa2 B (join ro ψ) u7 u13 I fun u14 I=>
 (qL ψ I->(fun I=>
  Q I) (join ψ I))
def ai0{a0 a1_0 a1_1 Q}(h:Sep ro I->abI B ro a0 a1_0 a1_1 I Q):uh B ro a0 a1_0 a1_1 I Q:=by
 refine zb h func73 ntmps73 fun h=>?_;unfold abI at h;refine zw ?_;refine zAp (wt rfl rfl) h fun u0 h=>?_;refine AW.seq ?_;refine AW.drawn0 (fun i=>([0,0,0,3,3,1,2]:List Nat).getD i 2) [(4,5),(4,6)] [0,1,2,3,4,5,6] mixed j3 ?_
 refine zM h fun p1 h=>?_;refine zg mX af0 ?_;refine zR Lu h fun u2 h=>?_;obtain⟨u3,u4,hc,h⟩:=h
 refine Dr rfl rfl rfl rfl (jh rfl mH rfl vl rfl hc) ?_
 refine Da rfl rfl rfl rfl (wj (vs:=[(0,.agg #[.string u3,.int .i64 u4])]) (cs:= #[.string u3,.int .i64 u4]) rfl Lv vl y1 rfl rfl) fun u5 g1 g2=>?_
 replace h:=h u5 g1 g2
 refine zG func124 h ?_;rintro v I ⟨rfl,h⟩;refine wG ?_
 refine zw ?_;refine AW.drawnL (fun i=>([0,0,0,0,0,0,0,3,0,3,0,3,1,2,2]:List Nat).getD i 2) [(7,13),(7,14),(9,13),(9,14),(11,12),(11,13),(11,14),(12,13),(12,14)] [0,1,2,3,4,5,6,8,10,7,9,11,12,13,14] mixed h j3 ?_
 clear h
 intro ψ I h
 refine zM h fun p6 h=>?_;refine zg mX af0 ?_;refine zS Lu h fun u7 h=>?_;refine zM h fun p8 h=>?_;refine zg mX aeK ?_;refine zg mH ty9 ?_;refine zg mH ty3 ?_;refine zR nY h fun u9 h=>?_;refine zR mo h fun u10 h=>?_;refine zR mf h fun u11 h=>?_;refine Da rfl rfl rfl rfl (wj (vs:=[(0,.int .i64 u11)]) (cs:= #[.int .i64 u11]) rfl mO ty3 y1 rfl rfl) fun u12 g1 g2=>?_
 replace h:=h u12 g1 g2
 refine zG func126 h ?_;rintro v I ⟨u13,rfl,h⟩;refine zG func125 h ?_;rintro v I ⟨u14,rfl,h⟩;refine⟨_,wW.refl _,fun hdj=>?_⟩
 replace h:=h hdj
 exact bN0 results73 ⟨rfl,h⟩
def abd(B:ZB)(ro:AH)(a0:ZO)(a1_0:Int)(a1_1:ZA)(a1_2 a1_3 a1_4 a1_5 a1_6 a1_7:Int)(a1_8:Sl)(a1_9:ZA)(a1_10:Bool)(a1_11:Int)(a1_12:Sl)(I:AH)(Q:Int->Int->Sl->Int->Sl->Int->Int->Int->Int->Sl->Sl->Int->AH->Prop):=
 nw ro I (.cells #[.int .i64 a1_0,.string a1_1,.int .i64 a1_2,.int .i64 a1_3,.int .i64 a1_4,.int .i64 a1_5,.int .i64 a1_6,.int .i64 a1_7,Sl.v a1_8,.string a1_9,.bool a1_10,.int .i64 a1_11,Sl.v a1_12] 57) fun u0 I=>
 nw ro I (.cells #[.int .i64 0,.int .i64 0,Sl.v (⟨none,0,0⟩:Sl),.int .i64 0,Sl.v (⟨none,0,0⟩:Sl),.int .i64 0,.int .i64 0,.int .i64 0,.int .i64 0,Sl.v (⟨none,0,0⟩:Sl),Sl.v (⟨none,0,0⟩:Sl),.int .i64 0] 30) fun u1 I=>
 ∃u2,qa ro I ((⟨u0,0,none⟩:Addr).add 12)=some (Sl.v u2)/\
 jp B ro u2 I fun u3 I=>
 if¬(u3=true)then
 wJ B ro 190 I fun u4 u5 u6 u7 u8 u9 u10 u11 u12 u13 u14 u15 I=>
 stN ⟨u1,0,none⟩ (fun I=>
  ∃u16 u17 u18 u19 u20 u21 u22 u23 u24 u25 u26 u27,qe ro I ⟨u1,0,none⟩ 0 [.int .i64 u16,.int .i64 u17,Sl.v u18,.int .i64 u19,Sl.v u20,.int .i64 u21,.int .i64 u22,.int .i64 u23,.int .i64 u24,Sl.v u25,Sl.v u26,.int .i64 u27]/\
  Q u16 u17 u18 u19 u20 u21 u22 u23 u24 u25 u26 u27 I) [.int .i64 u4,.int .i64 u5,Sl.v u6,.int .i64 u7,Sl.v u8,.int .i64 u9,.int .i64 u10,.int .i64 u11,.int .i64 u12,Sl.v u13,Sl.v u14,.int .i64 u15] 0 I
 else
 ∃p28,a0=some p28/\
 ∃u29,qa ro I ((⟨u0,0,none⟩:Addr).add 11)=some (.int .i64 u29)/\
 ∃u30,qa ro I p28=some (.int .i64 u30)/\
 if¬(u29=u30)then
 wJ B ro 191 I fun u31 u32 u33 u34 u35 u36 u37 u38 u39 u40 u41 u42 I=>
 stN ⟨u1,0,none⟩ (fun I=>
  ∃u43 u44 u45 u46 u47 u48 u49 u50 u51 u52 u53 u54,qe ro I ⟨u1,0,none⟩ 0 [.int .i64 u43,.int .i64 u44,Sl.v u45,.int .i64 u46,Sl.v u47,.int .i64 u48,.int .i64 u49,.int .i64 u50,.int .i64 u51,Sl.v u52,Sl.v u53,.int .i64 u54]/\
  Q u43 u44 u45 u46 u47 u48 u49 u50 u51 u52 u53 u54 I) [.int .i64 u31,.int .i64 u32,Sl.v u33,.int .i64 u34,Sl.v u35,.int .i64 u36,.int .i64 u37,.int .i64 u38,.int .i64 u39,Sl.v u40,Sl.v u41,.int .i64 u42] 0 I
 else
 jX I fun ψ I=>
 ∃p55,a0=some p55/\
 ∃u56,qa (join ro ψ) (fun _=>none) p55=some (.int .i64 u56)/\
 ∃u57,qa (join ro ψ) I ((⟨u0,0,none⟩:Addr).add 12)=some (Sl.v u57)/\
 xA B (join ro ψ) u57 I fun u58 I=>
 ∃p59,a0=some p59/\
 (qL ψ I->(fun I=>
  stN p59 (fun I=>
  ∃p60,a0=some p60/\
  stN (p60.add 1) (fun I=>
   ∃p61,a0=some p61/\
   ∃u62,qa ro I p61=some (.int .i64 u62)/\
   stN ⟨u1,0,none⟩ (fun I=>
   ∃u63 u64 u65 u66 u67 u68 u69 u70 u71 u72 u73 u74,qe ro I ⟨u1,0,none⟩ 0 [.int .i64 u63,.int .i64 u64,Sl.v u65,.int .i64 u66,Sl.v u67,.int .i64 u68,.int .i64 u69,.int .i64 u70,.int .i64 u71,Sl.v u72,Sl.v u73,.int .i64 u74]/\
   Q u63 u64 u65 u66 u67 u68 u69 u70 u71 u72 u73 u74 I) [.int .i64 0,.int .i64 0,Sl.v (⟨none,0,0⟩:Sl),.int .i64 0,Sl.v (⟨none,0,0⟩:Sl),.int .i64 0,.int .i64 0,.int .i64 0,.int .i64 0,Sl.v (⟨none,0,0⟩:Sl),Sl.v (⟨none,0,0⟩:Sl),.int .i64 u62] 0 I) [Sl.v u58] 0 I) [.int .i64 (i64.wrap (u56+1))] 0 I) (join ψ I))
def ah3{a0 a1_0 a1_1 a1_2 a1_3 a1_4 a1_5 a1_6 a1_7 a1_8 a1_9 a1_10 a1_11 a1_12 Q}(h:Sep ro I->abd B ro a0 a1_0 a1_1 a1_2 a1_3 a1_4 a1_5 a1_6 a1_7 a1_8 a1_9 a1_10 a1_11 a1_12 I Q):aa0 B ro a0 a1_0 a1_1 a1_2 a1_3 a1_4 a1_5 a1_6 a1_7 a1_8 a1_9 a1_10 a1_11 a1_12 I Q:=by
 refine zb h func74 ntmps74 fun h=>?_;unfold abd at h;refine zw ?_;refine zA (wt rfl rfl) h fun u0 h=>?_;refine zAp (qT rfl qM) h fun u1 h=>?_;refine AW.seq ?_;refine zf mw aho ?_;refine zL mO h fun u2 h=>?_;refine zC func64 h fun u3 I h=>?_;refine AW.iff rfl (qu Iff.rfl) h (fun h=>?_) (fun h=>?_)
 .refine zc func72 h ?_;rintro v I ⟨u4,u5,u6,u7,u8,u9,u10,u11,u12,u13,u14,u15,rfl,h⟩;refine zsp qM h fun I h=>?_;obtain⟨u16,u17,u18,u19,u20,u21,u22,u23,u24,u25,u26,u27,hc0,h⟩:=h
  exact xN results74 (wA (vN rfl mi rfl qM hc0) vM) ⟨_,_,_,_,_,_,_,_,_,_,_,_,rfl,h⟩
 refine AW.seq ?_;refine AW.drawn0 (fun i=>([0,3,0,0,0,0,3,0,0]:List Nat).getD i 2) [] [0,2,3,4,5,1,6,7,8] mixed j3 ?_
 refine zg mw ty3 ?_;refine zM h fun p28 h=>?_;refine zg mX afZ ?_;refine zg Lt ty3 ?_;refine zR mf h fun u29 h=>?_;refine zR mf h fun u30 h=>?_;refine zw ?_;refine wG ?_
 refine zw ?_;refine AW.iff rfl (qu me) h (fun h=>?_) (fun h=>?_)
 .refine zc func72 h ?_;rintro v I ⟨u31,u32,u33,u34,u35,u36,u37,u38,u39,u40,u41,u42,rfl,h⟩;refine zsp qM h fun I h=>?_;obtain⟨u43,u44,u45,u46,u47,u48,u49,u50,u51,u52,u53,u54,hc0,h⟩:=h
  exact xN results74 (wA (vN rfl mi rfl qM hc0) vM) ⟨_,_,_,_,_,_,_,_,_,_,_,_,rfl,h⟩
 refine zw ?_;refine AW.seq ?_;refine AW.drawn2 (fun i=>([0,0,0,0,0,0,0,0,0,3,2,0,0,0,2,0,0,0,2]:List Nat).getD i 2) [(8,9),(8,10),(8,11),(8,12),(8,13),(8,14),(9,10),(9,11),(9,12),(9,13),(9,14),(11,12),(11,13),(11,14),(12,13),(12,14)] [0,2,3,4,5,6,7,8,9,10,11,12,13] [1,14,15,16,17,18] mixed h j3 ?_
 clear h
 intro ψ I h
 refine zM h fun p55 h=>?_;refine zg mX afZ ?_;refine zg Lt ty3 ?_;refine zS mf h fun u56 h=>?_;refine zg mw aho ?_;refine zR mO h fun u57 h=>?_;refine zG func65 h ?_;rintro v I ⟨u58,rfl,h⟩;refine zM h fun p59 h=>?_;refine zg mX afZ ?_;refine zg Lt ty3 ?_;refine⟨_,wW.refl _,fun hdj=>?_⟩
 replace h:=h hdj
 refine zw ?_;refine Dg rfl rfl rfl rfl (us rfl ty3 rfl rfl rfl rfl (zY h fun I h=>?_))
 refine zM h fun p60 h=>?_;refine zg mX afZ ?_;refine zg Lt aho ?_;refine Dg rfl rfl rfl rfl (us rfl aho rfl rfl rfl rfl (zY h fun I h=>?_))
 refine wG ?_
 refine zN h fun p61 h=>?_;refine zf mX afZ ?_;refine zf Lt ty3 ?_;refine zL mf h fun u62 h=>?_;refine zm (wB (vs:=[(8,.int .i64 u62)]) (cs:= #[.int .i64 0,.int .i64 0,Sl.v (⟨none,0,0⟩:Sl),.int .i64 0,Sl.v (⟨none,0,0⟩:Sl),.int .i64 0,.int .i64 0,.int .i64 0,.int .i64 0,Sl.v (⟨none,0,0⟩:Sl),Sl.v (⟨none,0,0⟩:Sl),.int .i64 u62]) rfl mi qM agn rfl j0) ?_
 refine zsp qM h fun I h=>?_;obtain⟨u63,u64,u65,u66,u67,u68,u69,u70,u71,u72,u73,u74,hc0,h⟩:=h
 exact xN results74 (wA (vN rfl mi rfl qM hc0) vM) ⟨_,_,_,_,_,_,_,_,_,_,_,_,rfl,h⟩
def abe(B:ZB)(ro:AH)(a0:ZO)(a1_0:Int)(a1_1:ZA)(a1_2 a1_3 a1_4 a1_5 a1_6 a1_7:Int)(a1_8:Sl)(a1_9:ZA)(a1_10:Bool)(a1_11:Int)(a1_12:Sl)(I:AH)(Q:Int->Int->Sl->Int->Sl->Int->Int->Int->Int->Sl->Sl->Int->AH->Prop):=
 nw ro I (.cells #[.int .i64 a1_0,.string a1_1,.int .i64 a1_2,.int .i64 a1_3,.int .i64 a1_4,.int .i64 a1_5,.int .i64 a1_6,.int .i64 a1_7,Sl.v a1_8,.string a1_9,.bool a1_10,.int .i64 a1_11,Sl.v a1_12] 57) fun u0 I=>
 nw ro I (.cells #[.int .i64 0,.int .i64 0,Sl.v (⟨none,0,0⟩:Sl),.int .i64 0,Sl.v (⟨none,0,0⟩:Sl),.int .i64 0,.int .i64 0,.int .i64 0,.int .i64 0,Sl.v (⟨none,0,0⟩:Sl),Sl.v (⟨none,0,0⟩:Sl),.int .i64 0] 30) fun u1 I=>
 ∃u2 u3 u4 u5 u6 u7 u8 u9 u10 u11 u12 u13 u14,qe ro I ⟨u0,0,none⟩ 0 [.int .i64 u2,.string u3,.int .i64 u4,.int .i64 u5,.int .i64 u6,.int .i64 u7,.int .i64 u8,.int .i64 u9,Sl.v u10,.string u11,.bool u12,.int .i64 u13,Sl.v u14]/\
 vO B ro u2 u3 u4 u5 u6 u7 u8 u9 u10 u11 u12 u13 u14 I fun u15 u16 I=>
 nw ro I (.cells #[.string ByteArray.empty,.int .i64 0] 81) fun u17 I=>
 stN ⟨u17,0,none⟩ (fun I=>
 ∃p18,a0=some p18/\
 ∃u19,qa ro I (p18.add 3)=some (.pointer u19)/\
 ∃u20 u21,qe ro I ⟨u17,0,none⟩ 0 [.string u20,.int .i64 u21]/\
 ∃u22,qa ro I ((⟨u0,0,none⟩:Addr).add 3)=some (.int .i64 u22)/\
 aaC B ro u19 u20 u21 u22 I fun u23 u24 u25 I=>
 if¬(u25=0)then
  wJ B ro u25 I fun u26 u27 u28 u29 u30 u31 u32 u33 u34 u35 u36 u37 I=>
  stN ⟨u1,0,none⟩ (fun I=>
  ∃u38 u39 u40 u41 u42 u43 u44 u45 u46 u47 u48 u49,qe ro I ⟨u1,0,none⟩ 0 [.int .i64 u38,.int .i64 u39,Sl.v u40,.int .i64 u41,Sl.v u42,.int .i64 u43,.int .i64 u44,.int .i64 u45,.int .i64 u46,Sl.v u47,Sl.v u48,.int .i64 u49]/\
  Q u38 u39 u40 u41 u42 u43 u44 u45 u46 u47 u48 u49 I) [.int .i64 u26,.int .i64 u27,Sl.v u28,.int .i64 u29,Sl.v u30,.int .i64 u31,.int .i64 u32,.int .i64 u33,.int .i64 u34,Sl.v u35,Sl.v u36,.int .i64 u37] 0 I
 else
 if u24=true then
  adt B ro u23 I fun u50 u51 u52 u53 u54 u55 u56 u57 u58 u59 u60 u61 u62 I=>
  nw ro I (.cells #[.int .i64 0,.int .i64 0,Sl.v (⟨none,0,0⟩:Sl),.int .i64 0,Sl.v (⟨none,0,0⟩:Sl),.int .i64 0,.int .i64 0,.int .i64 0,.int .i64 0,Sl.v (⟨none,0,0⟩:Sl),Sl.v (⟨none,0,0⟩:Sl),.int .i64 0] 30) fun u63 I=>
  stN ⟨u63,0,none⟩ (fun I=>
  ∃p64,a0=some p64/\
  ∃u65,qa ro I (p64.add 4)=some (.pointer u65)/\
  ∃u66 u67,qe ro I ⟨u17,0,none⟩ 0 [.string u66,.int .i64 u67]/\
  jz B ro u65 u66 u67 I fun u68 I=>
  stN ((⟨u63,0,none⟩:Addr).add 10) (fun I=>
   ∃u69 u70 u71 u72 u73 u74 u75 u76 u77 u78 u79 u80,qe ro I ⟨u63,0,none⟩ 0 [.int .i64 u69,.int .i64 u70,Sl.v u71,.int .i64 u72,Sl.v u73,.int .i64 u74,.int .i64 u75,.int .i64 u76,.int .i64 u77,Sl.v u78,Sl.v u79,.int .i64 u80]/\
   stN ⟨u1,0,none⟩ (fun I=>
   ∃u81 u82 u83 u84 u85 u86 u87 u88 u89 u90 u91 u92,qe ro I ⟨u1,0,none⟩ 0 [.int .i64 u81,.int .i64 u82,Sl.v u83,.int .i64 u84,Sl.v u85,.int .i64 u86,.int .i64 u87,.int .i64 u88,.int .i64 u89,Sl.v u90,Sl.v u91,.int .i64 u92]/\
   Q u81 u82 u83 u84 u85 u86 u87 u88 u89 u90 u91 u92 I) [.int .i64 u69,.int .i64 u70,Sl.v u71,.int .i64 u72,Sl.v u73,.int .i64 u74,.int .i64 u75,.int .i64 u76,.int .i64 u77,Sl.v u78,Sl.v u79,.int .i64 u80] 0 I) [Sl.v u68] 0 I) [.int .i64 u50,.int .i64 u51,Sl.v u52,.int .i64 u53,Sl.v u54,.int .i64 u55,.int .i64 u56,.int .i64 u57,.int .i64 u58,Sl.v u59,Sl.v u60,.int .i64 u61] 0 I
 else
 ∃p93,a0=some p93/\
 ∃u94,qa ro I (p93.add 4)=some (.pointer u94)/\
 ∃u95 u96,qe ro I ⟨u17,0,none⟩ 0 [.string u95,.int .i64 u96]/\
 ∃u97,qa ro I ((⟨u0,0,none⟩:Addr).add 7)=some (.int .i64 u97)/\
 aei B ro u94 u95 u96 u97 I fun u98 I=>
 ∃u99,qa ro I ⟨u0,0,none⟩=some (.int .i64 u99)/\
 if u99=3 then
  ∃p100,a0=some p100/\
  ∃u101,qa ro I (p100.add 3)=some (.pointer u101)/\
  ∃u102 u103,qe ro I ⟨u17,0,none⟩ 0 [.string u102,.int .i64 u103]/\
  aaD B ro u101 u102 u103 I fun u104 I=>
  ∃u105 u106,qe ro I ⟨u17,0,none⟩ 0 [.string u105,.int .i64 u106]/\
  uh B ro a0 u105 u106 I fun I=>
  stN ⟨u1,0,none⟩ (fun I=>
  ∃u107 u108 u109 u110 u111 u112 u113 u114 u115 u116 u117 u118,qe ro I ⟨u1,0,none⟩ 0 [.int .i64 u107,.int .i64 u108,Sl.v u109,.int .i64 u110,Sl.v u111,.int .i64 u112,.int .i64 u113,.int .i64 u114,.int .i64 u115,Sl.v u116,Sl.v u117,.int .i64 u118]/\
  Q u107 u108 u109 u110 u111 u112 u113 u114 u115 u116 u117 u118 I) [.int .i64 0,.int .i64 0,Sl.v (⟨none,0,0⟩:Sl),.int .i64 0,Sl.v (⟨none,0,0⟩:Sl),.int .i64 0,.int .i64 0,.int .i64 0,.int .i64 0,Sl.v (⟨none,0,0⟩:Sl),Sl.v (⟨none,0,0⟩:Sl),.int .i64 0] 0 I
 else
 ∃u119 u120 u121 u122 u123 u124 u125 u126 u127 u128 u129 u130 u131,qe ro I ⟨u0,0,none⟩ 0 [.int .i64 u119,.string u120,.int .i64 u121,.int .i64 u122,.int .i64 u123,.int .i64 u124,.int .i64 u125,.int .i64 u126,Sl.v u127,.string u128,.bool u129,.int .i64 u130,Sl.v u131]/\
 adw B ro a0 u119 u120 u121 u122 u123 u124 u125 u126 u127 u128 u129 u130 u131 I fun u132 u133 u134 u135 u136 u137 u138 u139 u140 u141 u142 u143 I=>
 nw ro I (.cells #[.int .i64 0,.int .i64 0,Sl.v (⟨none,0,0⟩:Sl),.int .i64 0,Sl.v (⟨none,0,0⟩:Sl),.int .i64 0,.int .i64 0,.int .i64 0,.int .i64 0,Sl.v (⟨none,0,0⟩:Sl),Sl.v (⟨none,0,0⟩:Sl),.int .i64 0] 30) fun u144 I=>
 stN ⟨u144,0,none⟩ (fun I=>
  ∃u145 u146 u147 u148 u149 u150 u151 u152 u153 u154 u155 u156,qe ro I ⟨u144,0,none⟩ 0 [.int .i64 u145,.int .i64 u146,Sl.v u147,.int .i64 u148,Sl.v u149,.int .i64 u150,.int .i64 u151,.int .i64 u152,.int .i64 u153,Sl.v u154,Sl.v u155,.int .i64 u156]/\
  ads B ro u145 u146 u147 u148 u149 u150 u151 u152 u153 u154 u155 u156 I fun u157 u158 I=>
  ∃p159,a0=some p159/\
  ∃u160,qa ro I (p159.add 3)=some (.pointer u160)/\
  ∃u161 u162,qe ro I ⟨u17,0,none⟩ 0 [.string u161,.int .i64 u162]/\
  ∃u163,qa ro I ((⟨u0,0,none⟩:Addr).add 3)=some (.int .i64 u163)/\
  ui B ro u160 u161 u162 u163 u157 I fun u164 I=>
  ∃p165,a0=some p165/\
  ∃u166,qa ro I (p165.add 4)=some (.pointer u166)/\
  ∃u167 u168,qe ro I ⟨u17,0,none⟩ 0 [.string u167,.int .i64 u168]/\
  jz B ro u166 u167 u168 I fun u169 I=>
  stN ((⟨u144,0,none⟩:Addr).add 10) (fun I=>
  ∃u170 u171 u172 u173 u174 u175 u176 u177 u178 u179 u180 u181,qe ro I ⟨u144,0,none⟩ 0 [.int .i64 u170,.int .i64 u171,Sl.v u172,.int .i64 u173,Sl.v u174,.int .i64 u175,.int .i64 u176,.int .i64 u177,.int .i64 u178,Sl.v u179,Sl.v u180,.int .i64 u181]/\
  stN ⟨u1,0,none⟩ (fun I=>
   ∃u182 u183 u184 u185 u186 u187 u188 u189 u190 u191 u192 u193,qe ro I ⟨u1,0,none⟩ 0 [.int .i64 u182,.int .i64 u183,Sl.v u184,.int .i64 u185,Sl.v u186,.int .i64 u187,.int .i64 u188,.int .i64 u189,.int .i64 u190,Sl.v u191,Sl.v u192,.int .i64 u193]/\
   Q u182 u183 u184 u185 u186 u187 u188 u189 u190 u191 u192 u193 I) [.int .i64 u170,.int .i64 u171,Sl.v u172,.int .i64 u173,Sl.v u174,.int .i64 u175,.int .i64 u176,.int .i64 u177,.int .i64 u178,Sl.v u179,Sl.v u180,.int .i64 u181] 0 I) [Sl.v u169] 0 I) [.int .i64 u132,.int .i64 u133,Sl.v u134,.int .i64 u135,Sl.v u136,.int .i64 u137,.int .i64 u138,.int .i64 u139,.int .i64 u140,Sl.v u141,Sl.v u142,.int .i64 u143] 0 I) [.string u15,.int .i64 u16] 0 I
def ah4{a0 a1_0 a1_1 a1_2 a1_3 a1_4 a1_5 a1_6 a1_7 a1_8 a1_9 a1_10 a1_11 a1_12 Q}(h:Sep ro I->abe B ro a0 a1_0 a1_1 a1_2 a1_3 a1_4 a1_5 a1_6 a1_7 a1_8 a1_9 a1_10 a1_11 a1_12 I Q):aa1 B ro a0 a1_0 a1_1 a1_2 a1_3 a1_4 a1_5 a1_6 a1_7 a1_8 a1_9 a1_10 a1_11 a1_12 I Q:=by
 refine zb h func75 ntmps75 fun h=>?_;unfold abe at h;refine zw ?_;refine zA (wt rfl rfl) h fun u0 h=>?_;refine zAp (qT rfl qM) h fun u1 h=>?_;obtain⟨u2,u3,u4,u5,u6,u7,u8,u9,u10,u11,u12,u13,u14,hc,h⟩:=h
 refine zl (wq rfl mw rfl yV rfl hc ?_)
 refine zc func71 h ?_;rintro v I ⟨u15,u16,rfl,h⟩;refine zA (qT rfl vl) h fun u17 h=>?_;refine zsp vl h fun I h=>?_;refine AW.seq ?_;refine AW.drawn0 (fun i=>([0,0,0,3,3,0,3,2,0,0,0,0,0,0,0]:List Nat).getD i 2) [] [0,1,2,5,3,4,6,7,8,9,10,11,12,13,14] mixed j3 ?_
 refine zM h fun p18 h=>?_;refine zg mX aio ?_;refine zg mw ty3 ?_;refine zR LP h fun u19 h=>?_;obtain⟨u20,u21,hc,h⟩:=h
 refine Dr rfl rfl rfl rfl (jh rfl mH rfl vl rfl hc) ?_
 refine zR mf h fun u22 h=>?_;refine zG func127 h ?_;rintro v I ⟨u23,u24,u25,rfl,h⟩;refine zw ?_;refine wG ?_
 refine zw ?_;refine AW.seq ?_;refine zw ?_;refine AW.iff rfl (qu me) h (fun h=>?_) (fun h=>?_)
 .refine zc func72 h ?_;rintro v I ⟨u26,u27,u28,u29,u30,u31,u32,u33,u34,u35,u36,u37,rfl,h⟩;refine zsp qM h fun I h=>?_;obtain⟨u38,u39,u40,u41,u42,u43,u44,u45,u46,u47,u48,u49,hc0,h⟩:=h
  exact xN results75 (wA (vN rfl mi rfl qM hc0) vM) ⟨_,_,_,_,_,_,_,_,_,_,_,_,rfl,h⟩
 refine zw ?_;refine AW.seq ?_;refine zj h (fun h=>?_) fun h=>?_
 .refine zc func15 h ?_;rintro v I ⟨u50,u51,u52,u53,u54,u55,u56,u57,u58,u59,u60,u61,u62,rfl,h⟩;refine zw ?_;refine zA (qT rfl qM) h fun u63 h=>?_;refine zsp qM h fun I h=>?_;refine AW.seq ?_;refine AW.drawn0 (fun i=>([0,0,0,3,3,2,0,2]:List Nat).getD i 2) [] [0,1,2,3,4,5,6,7] mixed j3 ?_
  refine zM h fun p64 h=>?_;refine zg mX af0 ?_;refine zR Lu h fun u65 h=>?_;obtain⟨u66,u67,hc,h⟩:=h
  refine Dr rfl rfl rfl rfl (jh rfl mH rfl vl rfl hc) ?_
  refine zG func128 h ?_;rintro v I ⟨u68,rfl,h⟩;refine zg mi aaA ?_;refine Dg rfl rfl rfl rfl (us rfl aaA rfl rfl rfl rfl (zY h fun I h=>?_))
  refine wG ?_
  refine zw ?_;obtain⟨u69,u70,u71,u72,u73,u74,u75,u76,u77,u78,u79,u80,hc,h⟩:=h
  refine zl (wq rfl mi rfl qM rfl hc ?_)
  refine zsp qM h fun I h=>?_;obtain⟨u81,u82,u83,u84,u85,u86,u87,u88,u89,u90,u91,u92,hc0,h⟩:=h
  exact xN results75 (wA (vN rfl mi rfl qM hc0) vM) ⟨_,_,_,_,_,_,_,_,_,_,_,_,rfl,h⟩
 refine zw ?_;refine AW.seq ?_;refine AW.drawn0 (fun i=>([0,0,0,3,3,0,3,2]:List Nat).getD i 2) [] [0,1,2,5,3,4,6,7] mixed j3 ?_
 refine zM h fun p93 h=>?_;refine zg mX af0 ?_;refine zg mw ty3 ?_;refine zR Lu h fun u94 h=>?_;obtain⟨u95,u96,hc,h⟩:=h
 refine Dr rfl rfl rfl rfl (jh rfl mH rfl vl rfl hc) ?_
 refine zR mf h fun u97 h=>?_;refine zG func129 h ?_;rintro v I ⟨u98,rfl,h⟩;refine wG ?_
 refine zw ?_;refine AW.seq ?_;refine zf mw ty3 ?_;refine zL mf h fun u99 h=>?_;refine zi h (fun h=>?_) fun h=>?_
 .refine AW.seq ?_;refine AW.drawn0 (fun i=>([0,0,0,3,3,2]:List Nat).getD i 2) [] [0,1,2,3,4,5] mixed j3 ?_
  refine zM h fun p100 h=>?_;refine zg mX aio ?_;refine zR LP h fun u101 h=>?_;obtain⟨u102,u103,hc,h⟩:=h
  refine Dr rfl rfl rfl rfl (jh rfl mH rfl vl rfl hc) ?_
  refine zG func130 h ?_;rintro v I ⟨u104,rfl,h⟩;refine wG ?_
  refine zw ?_;obtain⟨u105,u106,hc,h⟩:=h
  refine zl (wq rfl mH rfl vl rfl hc ?_)
  refine zc func73 h ?_;rintro v I ⟨rfl,h⟩;refine zw ?_;refine zm (wB (vs:=[]) (cs:= #[.int .i64 0,.int .i64 0,Sl.v (⟨none,0,0⟩:Sl),.int .i64 0,Sl.v (⟨none,0,0⟩:Sl),.int .i64 0,.int .i64 0,.int .i64 0,.int .i64 0,Sl.v (⟨none,0,0⟩:Sl),Sl.v (⟨none,0,0⟩:Sl),.int .i64 0]) rfl mi qM agn rfl j0) ?_;refine zsp qM h fun I h=>?_;obtain⟨u107,u108,u109,u110,u111,u112,u113,u114,u115,u116,u117,u118,hc0,h⟩:=h
  exact xN results75 (wA (vN rfl mi rfl qM hc0) vM) ⟨_,_,_,_,_,_,_,_,_,_,_,_,rfl,h⟩
 refine zw ?_;obtain⟨u119,u120,u121,u122,u123,u124,u125,u126,u127,u128,u129,u130,u131,hc,h⟩:=h
 refine zl (wq rfl mw rfl yV rfl hc ?_)
 refine zc func131 h ?_;rintro v I ⟨u132,u133,u134,u135,u136,u137,u138,u139,u140,u141,u142,u143,rfl,h⟩;refine zA (qT rfl qM) h fun u144 h=>?_;refine zsp qM h fun I h=>?_;obtain⟨u145,u146,u147,u148,u149,u150,u151,u152,u153,u154,u155,u156,hc,h⟩:=h
 refine zl (wq rfl mi rfl qM rfl hc ?_)
 refine zc func12 h ?_;rintro v I ⟨u157,u158,rfl,h⟩;refine zw ?_;refine AW.seq ?_;refine AW.drawn0 (fun i=>([0,0,0,3,3,0,3,0,2]:List Nat).getD i 2) [] [0,1,2,5,7,3,4,6,8] mixed j3 ?_
 refine zM h fun p159 h=>?_;refine zg mX aio ?_;refine zg mw ty3 ?_;refine zR LP h fun u160 h=>?_;obtain⟨u161,u162,hc,h⟩:=h
 refine Dr rfl rfl rfl rfl (jh rfl mH rfl vl rfl hc) ?_
 refine zR mf h fun u163 h=>?_;refine zG func132 h ?_;rintro v I ⟨u164,rfl,h⟩;refine wG ?_
 refine zw ?_;refine AW.seq ?_;refine AW.drawn0 (fun i=>([0,0,0,3,3,2,0,2]:List Nat).getD i 2) [] [0,1,2,3,4,5,6,7] mixed j3 ?_
 refine zM h fun p165 h=>?_;refine zg mX af0 ?_;refine zR Lu h fun u166 h=>?_;obtain⟨u167,u168,hc,h⟩:=h
 refine Dr rfl rfl rfl rfl (jh rfl mH rfl vl rfl hc) ?_
 refine zG func128 h ?_;rintro v I ⟨u169,rfl,h⟩;refine zg mi aaA ?_;refine Dg rfl rfl rfl rfl (us rfl aaA rfl rfl rfl rfl (zY h fun I h=>?_))
 refine wG ?_
 refine zw ?_;obtain⟨u170,u171,u172,u173,u174,u175,u176,u177,u178,u179,u180,u181,hc,h⟩:=h
 refine zl (wq rfl mi rfl qM rfl hc ?_)
 refine zsp qM h fun I h=>?_;obtain⟨u182,u183,u184,u185,u186,u187,u188,u189,u190,u191,u192,u193,hc0,h⟩:=h
 exact xN results75 (wA (vN rfl mi rfl qM hc0) vM) ⟨_,_,_,_,_,_,_,_,_,_,_,_,rfl,h⟩
def jF(B:ZB)(ro:AH)(u0:Nat)(Q:Int->Int->Sl->Int->Sl->Int->Int->Int->Int->Sl->Sl->Int->AH->Prop)(I:AH):=
 stN ⟨u0,0,none⟩ (fun I=>
 ∃u1 u2 u3 u4 u5 u6 u7 u8 u9 u10 u11 u12,qe ro I ⟨u0,0,none⟩ 0 [.int .i64 u1,.int .i64 u2,Sl.v u3,.int .i64 u4,Sl.v u5,.int .i64 u6,.int .i64 u7,.int .i64 u8,.int .i64 u9,Sl.v u10,Sl.v u11,.int .i64 u12]/\
 Q u1 u2 u3 u4 u5 u6 u7 u8 u9 u10 u11 u12 I) [.int .i64 0,.int .i64 0,Sl.v (⟨none,0,0⟩:Sl),.int .i64 0,Sl.v (⟨none,0,0⟩:Sl),.int .i64 0,.int .i64 0,.int .i64 0,.int .i64 0,Sl.v (⟨none,0,0⟩:Sl),Sl.v (⟨none,0,0⟩:Sl),.int .i64 0] 0 I
def adR(B:ZB)(ro:AH)(a0:ZO)(a1_0:Int)(a1_1:ZA)(a1_2 a1_3 a1_4 a1_5 a1_6 a1_7:Int)(a1_8:Sl)(a1_9:ZA)(a1_10:Bool)(a1_11:Int)(a1_12:Sl)(I:AH)(Q:Int->Int->Sl->Int->Sl->Int->Int->Int->Int->Sl->Sl->Int->AH->Prop):=
 nw ro I (.cells #[.int .i64 a1_0,.string a1_1,.int .i64 a1_2,.int .i64 a1_3,.int .i64 a1_4,.int .i64 a1_5,.int .i64 a1_6,.int .i64 a1_7,Sl.v a1_8,.string a1_9,.bool a1_10,.int .i64 a1_11,Sl.v a1_12] 57) fun u0 I=>
 nw ro I (.cells #[.int .i64 0,.int .i64 0,Sl.v (⟨none,0,0⟩:Sl),.int .i64 0,Sl.v (⟨none,0,0⟩:Sl),.int .i64 0,.int .i64 0,.int .i64 0,.int .i64 0,Sl.v (⟨none,0,0⟩:Sl),Sl.v (⟨none,0,0⟩:Sl),.int .i64 0] 30) fun u1 I=>
 ∃u2,qa ro I ⟨u0,0,none⟩=some (.int .i64 u2)/\
 if u2=2 then
 jX I fun ψ I=>
  ∃p3,a0=some p3/\
  ∃u4,qa (join ro ψ) (fun _=>none) (p3.add 3)=some (.pointer u4)/\
  ∃u5 u6 u7 u8 u9 u10 u11 u12 u13 u14 u15 u16 u17,qe (join ro ψ) I ⟨u0,0,none⟩ 0 [.int .i64 u5,.string u6,.int .i64 u7,.int .i64 u8,.int .i64 u9,.int .i64 u10,.int .i64 u11,.int .i64 u12,Sl.v u13,.string u14,.bool u15,.int .i64 u16,Sl.v u17]/\
  vO B (join ro ψ) u5 u6 u7 u8 u9 u10 u11 u12 u13 u14 u15 u16 u17 I fun u18 u19 I=>
  nw (join ro ψ) I (.cells #[.string u18,.int .i64 u19] 81) fun u20 I=>
  aaE B (join ro ψ) u4 (⟨some ⟨u20,0,none⟩,1,1⟩:Sl) I fun u21 I=>
  (qL ψ I->(fun I=>
  jF B ro u1 Q I) (join ψ I))
 else
 if u2=5 then
 jX I fun ψ I=>
  ∃p22,a0=some p22/\
  ∃u23,qa (join ro ψ) (fun _=>none) (p22.add 2)=some (.pointer u23)/\
  ∃u24,qa (join ro ψ) (fun _=>none) ((⟨u0,0,none⟩:Addr).add 1)=some (.string u24)/\
  ∃u25,qa (join ro ψ) (fun _=>none) ((⟨u0,0,none⟩:Addr).add 2)=some (.int .i64 u25)/\
  ∃u26,qa (join ro ψ) (fun _=>none) ((⟨u0,0,none⟩:Addr).add 8)=some (Sl.v u26)/\
  afD B (join ro ψ) I fun u27 u28 I=>
  adk B (join ro ψ) u23 u24 u25 u27 u28 u26 I fun u29 u30 u31 u32 I=>
  nw (join ro ψ) I (.cells #[Sl.v (⟨none,0,0⟩:Sl),Sl.v (⟨none,0,0⟩:Sl),.int .i64 0] 348) fun u33 I=>
  stN ⟨u33,0,none⟩ (fun I=>
  (qL ψ I->(fun I=>
   ∃p34,a0=some p34/\
   ∃u35,qa ro I (p34.add 4)=some (.pointer u35)/\
   ∃u36,qa ro I ((⟨u33,0,none⟩:Addr).add 1)=some (Sl.v u36)/\
   aa2 B ro u35 u36 I fun u37 I=>
   ∃u38,qa ro I ⟨u33,0,none⟩=some (Sl.v u38)/\
   ∃u39,qa ro I ((⟨u33,0,none⟩:Addr).add 2)=some (.int .i64 u39)/\
   stN ⟨u1,0,none⟩ (fun I=>
   ∃u40 u41 u42 u43 u44 u45 u46 u47 u48 u49 u50 u51,qe ro I ⟨u1,0,none⟩ 0 [.int .i64 u40,.int .i64 u41,Sl.v u42,.int .i64 u43,Sl.v u44,.int .i64 u45,.int .i64 u46,.int .i64 u47,.int .i64 u48,Sl.v u49,Sl.v u50,.int .i64 u51]/\
   Q u40 u41 u42 u43 u44 u45 u46 u47 u48 u49 u50 u51 I) [.int .i64 u32,.int .i64 0,Sl.v u38,.int .i64 u39,Sl.v (⟨none,0,0⟩:Sl),.int .i64 0,.int .i64 0,.int .i64 0,.int .i64 0,Sl.v (⟨none,0,0⟩:Sl),Sl.v (⟨none,0,0⟩:Sl),.int .i64 0] 0 I) (join ψ I))) [Sl.v u29,Sl.v u30,.int .i64 u31] 0 I
 else
 if u2=6 then
 ∃u52 u53 u54 u55 u56 u57 u58 u59 u60 u61 u62 u63 u64,qe ro I ⟨u0,0,none⟩ 0 [.int .i64 u52,.string u53,.int .i64 u54,.int .i64 u55,.int .i64 u56,.int .i64 u57,.int .i64 u58,.int .i64 u59,Sl.v u60,.string u61,.bool u62,.int .i64 u63,Sl.v u64]/\
 acM B ro a0 u52 u53 u54 u55 u56 u57 u58 u59 u60 u61 u62 u63 u64 I fun u65 u66 u67 u68 u69 u70 u71 u72 u73 u74 u75 u76 I=>
 stN ⟨u1,0,none⟩ (fun I=>
  ∃u77 u78 u79 u80 u81 u82 u83 u84 u85 u86 u87 u88,qe ro I ⟨u1,0,none⟩ 0 [.int .i64 u77,.int .i64 u78,Sl.v u79,.int .i64 u80,Sl.v u81,.int .i64 u82,.int .i64 u83,.int .i64 u84,.int .i64 u85,Sl.v u86,Sl.v u87,.int .i64 u88]/\
  Q u77 u78 u79 u80 u81 u82 u83 u84 u85 u86 u87 u88 I) [.int .i64 u65,.int .i64 u66,Sl.v u67,.int .i64 u68,Sl.v u69,.int .i64 u70,.int .i64 u71,.int .i64 u72,.int .i64 u73,Sl.v u74,Sl.v u75,.int .i64 u76] 0 I
 else
 if u2=7 then
 ∃u89 u90 u91 u92 u93 u94 u95 u96 u97 u98 u99 u100 u101,qe ro I ⟨u0,0,none⟩ 0 [.int .i64 u89,.string u90,.int .i64 u91,.int .i64 u92,.int .i64 u93,.int .i64 u94,.int .i64 u95,.int .i64 u96,Sl.v u97,.string u98,.bool u99,.int .i64 u100,Sl.v u101]/\
 ab8 B ro a0 u89 u90 u91 u92 u93 u94 u95 u96 u97 u98 u99 u100 u101 I fun u102 u103 u104 u105 u106 u107 u108 u109 u110 u111 u112 u113 I=>
 stN ⟨u1,0,none⟩ (fun I=>
  ∃u114 u115 u116 u117 u118 u119 u120 u121 u122 u123 u124 u125,qe ro I ⟨u1,0,none⟩ 0 [.int .i64 u114,.int .i64 u115,Sl.v u116,.int .i64 u117,Sl.v u118,.int .i64 u119,.int .i64 u120,.int .i64 u121,.int .i64 u122,Sl.v u123,Sl.v u124,.int .i64 u125]/\
  Q u114 u115 u116 u117 u118 u119 u120 u121 u122 u123 u124 u125 I) [.int .i64 u102,.int .i64 u103,Sl.v u104,.int .i64 u105,Sl.v u106,.int .i64 u107,.int .i64 u108,.int .i64 u109,.int .i64 u110,Sl.v u111,Sl.v u112,.int .i64 u113] 0 I
 else
 jF B ro u1 Q I
def akJ{a0 a1_0 a1_1 a1_2 a1_3 a1_4 a1_5 a1_6 a1_7 a1_8 a1_9 a1_10 a1_11 a1_12 Q}(h:Sep ro I->adR B ro a0 a1_0 a1_1 a1_2 a1_3 a1_4 a1_5 a1_6 a1_7 a1_8 a1_9 a1_10 a1_11 a1_12 I Q):adw B ro a0 a1_0 a1_1 a1_2 a1_3 a1_4 a1_5 a1_6 a1_7 a1_8 a1_9 a1_10 a1_11 a1_12 I Q:=by
 refine zb h func131 ntmps131 fun h=>?_;unfold adR at h;refine zw ?_;refine zA (wt rfl rfl) h fun u0 h=>?_;refine zAp (qT rfl qM) h fun u1 h=>?_;refine AW.seqJ (fun fr I=>qo [(4,.pointer (some ⟨u1,0,none⟩))] fr/\jF B ro u1 Q I) ?_ ?_
 .rintro fr I ⟨hl,h⟩;refine AW.weaken ?_ hl (HLe.refl _)
  unfold jF at h;refine zw ?_;refine zm (wB (vs:=[]) (cs:= #[.int .i64 0,.int .i64 0,Sl.v (⟨none,0,0⟩:Sl),.int .i64 0,Sl.v (⟨none,0,0⟩:Sl),.int .i64 0,.int .i64 0,.int .i64 0,.int .i64 0,Sl.v (⟨none,0,0⟩:Sl),Sl.v (⟨none,0,0⟩:Sl),.int .i64 0]) rfl mi qM agn rfl j0) ?_;refine zsp qM h fun I h=>?_;obtain⟨u2,u3,u4,u5,u6,u7,u8,u9,u10,u11,u12,u13,hc0,h⟩:=h
  exact xN results131 (wA (vN rfl mi rfl qM hc0) vM) ⟨_,_,_,_,_,_,_,_,_,_,_,_,rfl,h⟩
 refine zf mw ty3 ?_;refine zL mf h fun u14 h=>?_;refine zi h (fun h=>?_) fun h=>?_
 .refine AW.drawnL (fun i=>([0,0,0,0,3,2,1,2]:List Nat).getD i 2) [(4,5),(4,6),(4,7)] [0,1,2,3,4,5,6,7] mixed h j3 ?_
  clear h
  intro ψ I h
  refine zM h fun p15 h=>?_;refine zg mX aio ?_;refine zS LP h fun u16 h=>?_;obtain⟨u17,u18,u19,u20,u21,u22,u23,u24,u25,u26,u27,u28,u29,hc,h⟩:=h
  refine Dr rfl rfl rfl rfl (jh rfl mw rfl yV rfl hc) ?_
  refine zG func71 h ?_;rintro v I ⟨u30,u31,rfl,h⟩;refine Da rfl rfl rfl rfl (wj (vs:=[(0,.agg #[.string u30,.int .i64 u31])]) (cs:= #[.string u30,.int .i64 u31]) rfl Lv vl y1 rfl rfl) fun u32 g1 g2=>?_
  replace h:=h u32 g1 g2
  refine zG func188 h ?_;rintro v I ⟨u33,rfl,h⟩;refine⟨_,wW.refl _,fun hdj=>?_⟩
  replace h:=h hdj
  refine zw ?_;exact⟨FL,h⟩
 refine zi h (fun h=>?_) fun h=>?_
 rotate_left
 .refine zi h (fun h=>?_) fun h=>?_
  .refine zw ?_;obtain⟨u34,u35,u36,u37,u38,u39,u40,u41,u42,u43,u44,u45,u46,hc,h⟩:=h
   refine zl (wq rfl mw rfl yV rfl hc ?_)
   refine zc func191 h ?_;rintro v I ⟨u47,u48,u49,u50,u51,u52,u53,u54,u55,u56,u57,u58,rfl,h⟩;refine zsp qM h fun I h=>?_;obtain⟨u59,u60,u61,u62,u63,u64,u65,u66,u67,u68,u69,u70,hc0,h⟩:=h
   exact xN results131 (wA (vN rfl mi rfl qM hc0) vM) ⟨_,_,_,_,_,_,_,_,_,_,_,_,rfl,h⟩
  refine zi h (fun h=>?_) fun h=>?_
  rotate_left
  .refine zw ?_;exact⟨FL,h⟩
  refine zw ?_;obtain⟨u71,u72,u73,u74,u75,u76,u77,u78,u79,u80,u81,u82,u83,hc,h⟩:=h
  refine zl (wq rfl mw rfl yV rfl hc ?_)
  refine zc func192 h ?_;rintro v I ⟨u84,u85,u86,u87,u88,u89,u90,u91,u92,u93,u94,u95,rfl,h⟩;refine zsp qM h fun I h=>?_;obtain⟨u96,u97,u98,u99,u100,u101,u102,u103,u104,u105,u106,u107,hc0,h⟩:=h
  exact xN results131 (wA (vN rfl mi rfl qM hc0) vM) ⟨_,_,_,_,_,_,_,_,_,_,_,_,rfl,h⟩
 refine AW.seq ?_;refine AW.drawnL (fun i=>([0,0,0,0,0,0,0,0,2,0,0,2,0,0,0,1,2,0]:List Nat).getD i 2) [] [0,1,2,3,4,5,6,7,9,10,8,11,12,13,14,15,16,17] mixed h j3 ?_
 clear h
 intro ψ I h
 refine zM h fun p108 h=>?_;refine zg mX aeK ?_;refine zS nY h fun u109 h=>?_;refine zg mw ty9 ?_;refine zS mo h fun u110 h=>?_;refine zg mw ty3 ?_;refine zS mf h fun u111 h=>?_;refine zg mw aoD ?_;refine zS Lo h fun u112 h=>?_;refine zG func190 h ?_;rintro v I ⟨u113,u114,rfl,h⟩;refine zG func189 h ?_
 rintro v I ⟨u115,u116,u117,u118,rfl,h⟩;refine zw ?_;refine Da rfl rfl rfl rfl (qT rfl jM) fun u119 g1 g2=>?_
 replace h:=h u119 g1 g2
 refine Dg rfl rfl rfl rfl (us rfl jM rfl rfl rfl rfl (zY h fun I h=>?_))
 refine zw ?_;refine⟨_,wW.refl _,fun hdj=>?_⟩
 replace h:=h hdj
 refine zw ?_;refine AW.seq ?_;refine AW.drawn0 (fun i=>([0,0,0,3,0,3,2]:List Nat).getD i 2) [] [0,1,2,4,3,5,6] mixed j3 ?_
 refine zM h fun p120 h=>?_;refine zg mX af0 ?_;refine zg nz aiq ?_;refine zR Lu h fun u121 h=>?_;refine zR Lr h fun u122 h=>?_;refine zG func125 h ?_;rintro v I ⟨u123,rfl,h⟩;refine wG ?_
 refine zf nz aeI ?_;refine zL nM h fun u124 h=>?_;refine zf nz ty3 ?_;refine zL mf h fun u125 h=>?_;refine zm (wB (vs:=[(0,.int .i64 u118),(2,Sl.v u124),(3,.int .i64 u125)]) (cs:= #[.int .i64 u118,.int .i64 0,Sl.v u124,.int .i64 u125,Sl.v (⟨none,0,0⟩:Sl),.int .i64 0,.int .i64 0,.int .i64 0,.int .i64 0,Sl.v (⟨none,0,0⟩:Sl),Sl.v (⟨none,0,0⟩:Sl),.int .i64 0]) rfl mi qM agn rfl j0) ?_
 refine zsp qM h fun I h=>?_;obtain⟨u126,u127,u128,u129,u130,u131,u132,u133,u134,u135,u136,u137,hc0,h⟩:=h
 exact xN results131 (wA (vN rfl mi rfl qM hc0) vM) ⟨_,_,_,_,_,_,_,_,_,_,_,_,rfl,h⟩
def afT(B:ZB)(ro I:AH)(Q:Int->Int->AH->Prop):Prop:=
 nw ro I (.cells #[.int .i64 0,.int .i64 0] 66) fun u0 I=>
 stN ⟨u0,0,none⟩ (fun I=>
 ∃u1 u2,qe ro I ⟨u0,0,none⟩ 0 [.int .i64 u1,.int .i64 u2]/\
 Q u1 u2 I) [.int .i64 64,.int .i64 8192] 0 I
def anb{Q}(h:Sep ro I->afT B ro I Q):afD B ro I Q:=by
 refine zb h func190 ntmps190 fun h=>?_;unfold afT at h;refine zw ?_;refine zAp (qT rfl adr) h fun u0 h=>?_;refine zm (wB (vs:=[(0,.int .i64 64),(1,.int .i64 8192)]) (cs:= #[.int .i64 64,.int .i64 8192]) rfl nX adr axr rfl rfl) ?_;refine zsp adr h fun I h=>?_;obtain⟨u1,u2,hc0,h⟩:=h
 exact xN results190 (wA (vN rfl nX rfl adr hc0) vM) ⟨_,_,rfl,h⟩
def kQ(B:ZB)(ro:AH)(a0:ZO)(u0 u1:Nat)(Q:Int->Int->Sl->Int->Sl->Int->Int->Int->Int->Sl->Sl->Int->AH->Prop)(I:AH):=
 ∃p2,a0=some p2/\
 ∃u3,qa ro I (p2.add 2)=some (.pointer u3)/\
 ∃u4,qa ro I ((⟨u0,0,none⟩:Addr).add 9)=some (.string u4)/\
 yb B ro u3 u4 I fun u5 u6 u7 u8 u9 u10 I=>
 nw ro I (.cells #[.int .i64 0,.int .i64 0,.int .i64 0,.int .i64 0] 26) fun u11 I=>
 stN ⟨u11,0,none⟩ (fun I=>
 ∃u12 u13 u14 u15,qe ro I ⟨u11,0,none⟩ 0 [.int .i64 u12,.int .i64 u13,.int .i64 u14,.int .i64 u15]/\
 stN ⟨u1,0,none⟩ (fun I=>
  ∃u16 u17 u18 u19 u20 u21 u22 u23 u24 u25 u26 u27,qe ro I ⟨u1,0,none⟩ 0 [.int .i64 u16,.int .i64 u17,Sl.v u18,.int .i64 u19,Sl.v u20,.int .i64 u21,.int .i64 u22,.int .i64 u23,.int .i64 u24,Sl.v u25,Sl.v u26,.int .i64 u27]/\
  Q u16 u17 u18 u19 u20 u21 u22 u23 u24 u25 u26 u27 I) [.int .i64 u10,.int .i64 0,Sl.v (⟨none,0,0⟩:Sl),.int .i64 0,Sl.v u5,.int .i64 u12,.int .i64 u13,.int .i64 u14,.int .i64 u15,Sl.v (⟨none,0,0⟩:Sl),Sl.v (⟨none,0,0⟩:Sl),.int .i64 0] 0 I) [.int .i64 u6,.int .i64 u7,.int .i64 u8,.int .i64 u9] 0 I
def acW(B:ZB)(ro:AH)(a0:ZO)(a1_0:Int)(a1_1:ZA)(a1_2 a1_3 a1_4 a1_5 a1_6 a1_7:Int)(a1_8:Sl)(a1_9:ZA)(a1_10:Bool)(a1_11:Int)(a1_12:Sl)(I:AH)(Q:Int->Int->Sl->Int->Sl->Int->Int->Int->Int->Sl->Sl->Int->AH->Prop):=
 nw ro I (.cells #[.int .i64 a1_0,.string a1_1,.int .i64 a1_2,.int .i64 a1_3,.int .i64 a1_4,.int .i64 a1_5,.int .i64 a1_6,.int .i64 a1_7,Sl.v a1_8,.string a1_9,.bool a1_10,.int .i64 a1_11,Sl.v a1_12] 57) fun u0 I=>
 nw ro I (.cells #[.int .i64 0,.int .i64 0,Sl.v (⟨none,0,0⟩:Sl),.int .i64 0,Sl.v (⟨none,0,0⟩:Sl),.int .i64 0,.int .i64 0,.int .i64 0,.int .i64 0,Sl.v (⟨none,0,0⟩:Sl),Sl.v (⟨none,0,0⟩:Sl),.int .i64 0] 30) fun u1 I=>
 ∃u2 u3 u4 u5 u6 u7 u8 u9 u10 u11 u12 u13 u14,qe ro I ⟨u0,0,none⟩ 0 [.int .i64 u2,.string u3,.int .i64 u4,.int .i64 u5,.int .i64 u6,.int .i64 u7,.int .i64 u8,.int .i64 u9,Sl.v u10,.string u11,.bool u12,.int .i64 u13,Sl.v u14]/\
 af2 B ro u2 u3 u4 u5 u6 u7 u8 u9 u10 u11 u12 u13 u14 I fun u15 I=>
 if¬(u15=0)then
 wJ B ro u15 I fun u16 u17 u18 u19 u20 u21 u22 u23 u24 u25 u26 u27 I=>
 stN ⟨u1,0,none⟩ (fun I=>
  ∃u28 u29 u30 u31 u32 u33 u34 u35 u36 u37 u38 u39,qe ro I ⟨u1,0,none⟩ 0 [.int .i64 u28,.int .i64 u29,Sl.v u30,.int .i64 u31,Sl.v u32,.int .i64 u33,.int .i64 u34,.int .i64 u35,.int .i64 u36,Sl.v u37,Sl.v u38,.int .i64 u39]/\
  Q u28 u29 u30 u31 u32 u33 u34 u35 u36 u37 u38 u39 I) [.int .i64 u16,.int .i64 u17,Sl.v u18,.int .i64 u19,Sl.v u20,.int .i64 u21,.int .i64 u22,.int .i64 u23,.int .i64 u24,Sl.v u25,Sl.v u26,.int .i64 u27] 0 I
 else
 ∃u40,qa ro I ((⟨u0,0,none⟩:Addr).add 10)=some (.bool u40)/\
 if u40=true then
 jX I fun ψ I=>
  ∃p41,a0=some p41/\
  ∃u42,qa (join ro ψ) (fun _=>none) (p41.add 4)=some (.pointer u42)/\
  ∃u43,qa (join ro ψ) (fun _=>none) ((⟨u0,0,none⟩:Addr).add 9)=some (.string u43)/\
  ∃u44 u45 u46 u47 u48 u49 u50 u51 u52 u53 u54 u55 u56,qe (join ro ψ) I ⟨u0,0,none⟩ 0 [.int .i64 u44,.string u45,.int .i64 u46,.int .i64 u47,.int .i64 u48,.int .i64 u49,.int .i64 u50,.int .i64 u51,Sl.v u52,.string u53,.bool u54,.int .i64 u55,Sl.v u56]/\
  vO B (join ro ψ) u44 u45 u46 u47 u48 u49 u50 u51 u52 u53 u54 u55 u56 I fun u57 u58 I=>
  uK B (join ro ψ) u42 u57 u58 1 u43 I fun u59 I=>
  (qL ψ I->(fun I=>
  if¬(u59=0)then
   wJ B ro u59 I fun u60 u61 u62 u63 u64 u65 u66 u67 u68 u69 u70 u71 I=>
   stN ⟨u1,0,none⟩ (fun I=>
   ∃u72 u73 u74 u75 u76 u77 u78 u79 u80 u81 u82 u83,qe ro I ⟨u1,0,none⟩ 0 [.int .i64 u72,.int .i64 u73,Sl.v u74,.int .i64 u75,Sl.v u76,.int .i64 u77,.int .i64 u78,.int .i64 u79,.int .i64 u80,Sl.v u81,Sl.v u82,.int .i64 u83]/\
   Q u72 u73 u74 u75 u76 u77 u78 u79 u80 u81 u82 u83 I) [.int .i64 u60,.int .i64 u61,Sl.v u62,.int .i64 u63,Sl.v u64,.int .i64 u65,.int .i64 u66,.int .i64 u67,.int .i64 u68,Sl.v u69,Sl.v u70,.int .i64 u71] 0 I
  else
  kQ B ro a0 u0 u1 Q I) (join ψ I))
 else
 kQ B ro a0 u0 u1 Q I
def aj3{a0 a1_0 a1_1 a1_2 a1_3 a1_4 a1_5 a1_6 a1_7 a1_8 a1_9 a1_10 a1_11 a1_12 Q}(h:Sep ro I->acW B ro a0 a1_0 a1_1 a1_2 a1_3 a1_4 a1_5 a1_6 a1_7 a1_8 a1_9 a1_10 a1_11 a1_12 I Q):acM B ro a0 a1_0 a1_1 a1_2 a1_3 a1_4 a1_5 a1_6 a1_7 a1_8 a1_9 a1_10 a1_11 a1_12 I Q:=by
 refine zb h func191 ntmps191 fun h=>?_;unfold acW at h;refine zw ?_;refine zA (wt rfl rfl) h fun u0 h=>?_;refine zAp (qT rfl qM) h fun u1 h=>?_;refine AW.seq ?_;refine zw ?_;obtain⟨u2,u3,u4,u5,u6,u7,u8,u9,u10,u11,u12,u13,u14,hc,h⟩:=h
 refine zl (wq rfl mw rfl yV rfl hc ?_)
 refine zC func235 h fun u15 I h=>?_;refine AW.iff rfl (qu me) h (fun h=>?_) (fun h=>?_)
 .refine zc func72 h ?_;rintro v I ⟨u16,u17,u18,u19,u20,u21,u22,u23,u24,u25,u26,u27,rfl,h⟩;refine zsp qM h fun I h=>?_;obtain⟨u28,u29,u30,u31,u32,u33,u34,u35,u36,u37,u38,u39,hc0,h⟩:=h
  exact xN results191 (wA (vN rfl mi rfl qM hc0) vM) ⟨_,_,_,_,_,_,_,_,_,_,_,_,rfl,h⟩
 refine zw ?_;refine AW.seqJ (fun fr I=>qo [(0,.pointer a0),(3,.pointer (some ⟨u0,0,none⟩)),(4,.pointer (some ⟨u1,0,none⟩))] fr/\kQ B ro a0 u0 u1 Q I) ?_ ?_
 .rintro fr I ⟨hl,h⟩;refine AW.weaken ?_ hl (HLe.refl _)
  unfold kQ at h;refine AW.seq ?_;refine AW.drawn0 (fun i=>([0,0,0,3,0,3,2,0,0,0,0,1,0,2,0]:List Nat).getD i 2) [] [0,1,2,4,3,5,6,7,8,9,10,11,12,13,14] mixed j3 ?_
  refine zM h fun p40 h=>?_;refine zg mX aeK ?_;refine zg mw ty9 ?_;refine zR nY h fun u41 h=>?_;refine zR mo h fun u42 h=>?_;refine zG func25 h ?_;rintro v I ⟨u43,u44,u45,u46,u47,u48,rfl,h⟩;refine zw ?_;refine Da rfl rfl rfl rfl (qT rfl wx) fun u49 g1 g2=>?_
  replace h:=h u49 g1 g2
  refine zw ?_;refine Dg rfl rfl rfl rfl (us rfl wx rfl rfl rfl rfl (zY h fun I h=>?_))
  refine zw ?_;refine wG ?_
  refine zw ?_;obtain⟨u50,u51,u52,u53,hc,h⟩:=h
  refine zl (wq rfl mE rfl wx rfl hc ?_)
  refine zm (wB (vs:=[(0,.int .i64 u48),(4,Sl.v u43),(5,.agg #[.int .i64 u50,.int .i64 u51,.int .i64 u52,.int .i64 u53])]) (cs:= #[.int .i64 u48,.int .i64 0,Sl.v (⟨none,0,0⟩:Sl),.int .i64 0,Sl.v u43,.int .i64 u50,.int .i64 u51,.int .i64 u52,.int .i64 u53,Sl.v (⟨none,0,0⟩:Sl),Sl.v (⟨none,0,0⟩:Sl),.int .i64 0]) rfl mi qM agn rfl j0) ?_;refine zsp qM h fun I h=>?_
  obtain⟨u54,u55,u56,u57,u58,u59,u60,u61,u62,u63,u64,u65,hc0,h⟩:=h
  exact xN results191 (wA (vN rfl mi rfl qM hc0) vM) ⟨_,_,_,_,_,_,_,_,_,_,_,_,rfl,h⟩
 refine zf mw ty4 ?_;refine zL Lg h fun u66 h=>?_;refine zj h (fun h=>?_) fun h=>?_
 rotate_left
 .refine zw ?_;exact⟨FL,h⟩
 refine AW.seq ?_;refine AW.drawnL (fun i=>([0,0,0,0,3,2,0,0,2,0]:List Nat).getD i 2) [(4,5),(4,8)] [0,1,2,3,6,7,4,5,8,9] mixed h j3 ?_
 clear h
 intro ψ I h
 refine zM h fun p67 h=>?_;refine zg mX af0 ?_;refine zS Lu h fun u68 h=>?_;refine zg mw ty9 ?_;refine zS mo h fun u69 h=>?_;obtain⟨u70,u71,u72,u73,u74,u75,u76,u77,u78,u79,u80,u81,u82,hc,h⟩:=h
 refine Dr rfl rfl rfl rfl (jh rfl mw rfl yV rfl hc) ?_
 refine zG func71 h ?_;rintro v I ⟨u83,u84,rfl,h⟩;refine zG func236 h ?_;rintro v I ⟨u85,rfl,h⟩;refine zw ?_;refine⟨_,wW.refl _,fun hdj=>?_⟩
 replace h:=h hdj
 refine zw ?_;refine AW.iff rfl (qu me) h (fun h=>?_) (fun h=>?_)
 rotate_left
 .refine zw ?_;exact⟨FL,h⟩
 refine zc func72 h ?_;rintro v I ⟨u86,u87,u88,u89,u90,u91,u92,u93,u94,u95,u96,u97,rfl,h⟩;refine zsp qM h fun I h=>?_;obtain⟨u98,u99,u100,u101,u102,u103,u104,u105,u106,u107,u108,u109,hc0,h⟩:=h
 exact xN results191 (wA (vN rfl mi rfl qM hc0) vM) ⟨_,_,_,_,_,_,_,_,_,_,_,_,rfl,h⟩
def vk(B:ZB)(ro:AH)(u0:Nat)(u1:Sl)(u2:Int)(Q:Int->Int->Sl->Int->Sl->Int->Int->Int->Int->Sl->Sl->Int->AH->Prop)(I:AH):=
 stN ⟨u0,0,none⟩ (fun I=>
 ∃u3 u4 u5 u6 u7 u8 u9 u10 u11 u12 u13 u14,qe ro I ⟨u0,0,none⟩ 0 [.int .i64 u3,.int .i64 u4,Sl.v u5,.int .i64 u6,Sl.v u7,.int .i64 u8,.int .i64 u9,.int .i64 u10,.int .i64 u11,Sl.v u12,Sl.v u13,.int .i64 u14]/\
 Q u3 u4 u5 u6 u7 u8 u9 u10 u11 u12 u13 u14 I) [.int .i64 u2,.int .i64 0,Sl.v (⟨none,0,0⟩:Sl),.int .i64 0,Sl.v (⟨none,0,0⟩:Sl),.int .i64 0,.int .i64 0,.int .i64 0,.int .i64 0,Sl.v u1,Sl.v (⟨none,0,0⟩:Sl),.int .i64 0] 0 I
def xa(B:ZB)(ro:AH)(a0:ZO)(u0 u1:Nat)(u2:Sl)(u3:Int)(Q:Int->Int->Sl->Int->Sl->Int->Int->Int->Int->Sl->Sl->Int->AH->Prop)(u4:Bool)(I:AH):=
 if u4=true then
 jX I fun ψ I=>
  ∃p5,a0=some p5/\
  ∃u6,qa (join ro ψ) (fun _=>none) (p5.add 4)=some (.pointer u6)/\
  ∃u7,qa (join ro ψ) (fun _=>none) ((⟨u0,0,none⟩:Addr).add 9)=some (.string u7)/\
  ∃u8 u9 u10 u11 u12 u13 u14 u15 u16 u17 u18 u19 u20,qe (join ro ψ) I ⟨u0,0,none⟩ 0 [.int .i64 u8,.string u9,.int .i64 u10,.int .i64 u11,.int .i64 u12,.int .i64 u13,.int .i64 u14,.int .i64 u15,Sl.v u16,.string u17,.bool u18,.int .i64 u19,Sl.v u20]/\
  vO B (join ro ψ) u8 u9 u10 u11 u12 u13 u14 u15 u16 u17 u18 u19 u20 I fun u21 u22 I=>
  uK B (join ro ψ) u6 u21 u22 2 u7 I fun u23 I=>
  (qL ψ I->(fun I=>
  if¬(u23=0)then
   wJ B ro u23 I fun u24 u25 u26 u27 u28 u29 u30 u31 u32 u33 u34 u35 I=>
   stN ⟨u1,0,none⟩ (fun I=>
   ∃u36 u37 u38 u39 u40 u41 u42 u43 u44 u45 u46 u47,qe ro I ⟨u1,0,none⟩ 0 [.int .i64 u36,.int .i64 u37,Sl.v u38,.int .i64 u39,Sl.v u40,.int .i64 u41,.int .i64 u42,.int .i64 u43,.int .i64 u44,Sl.v u45,Sl.v u46,.int .i64 u47]/\
   Q u36 u37 u38 u39 u40 u41 u42 u43 u44 u45 u46 u47 I) [.int .i64 u24,.int .i64 u25,Sl.v u26,.int .i64 u27,Sl.v u28,.int .i64 u29,.int .i64 u30,.int .i64 u31,.int .i64 u32,Sl.v u33,Sl.v u34,.int .i64 u35] 0 I
  else
  vk B ro u1 u2 u3 Q I) (join ψ I))
 else
 vk B ro u1 u2 u3 Q I
def acu(B:ZB)(ro:AH)(a0:ZO)(a1_0:Int)(a1_1:ZA)(a1_2 a1_3 a1_4 a1_5 a1_6 a1_7:Int)(a1_8:Sl)(a1_9:ZA)(a1_10:Bool)(a1_11:Int)(a1_12:Sl)(I:AH)(Q:Int->Int->Sl->Int->Sl->Int->Int->Int->Int->Sl->Sl->Int->AH->Prop):=
 nw ro I (.cells #[.int .i64 a1_0,.string a1_1,.int .i64 a1_2,.int .i64 a1_3,.int .i64 a1_4,.int .i64 a1_5,.int .i64 a1_6,.int .i64 a1_7,Sl.v a1_8,.string a1_9,.bool a1_10,.int .i64 a1_11,Sl.v a1_12] 57) fun u0 I=>
 nw ro I (.cells #[.int .i64 0,.int .i64 0,Sl.v (⟨none,0,0⟩:Sl),.int .i64 0,Sl.v (⟨none,0,0⟩:Sl),.int .i64 0,.int .i64 0,.int .i64 0,.int .i64 0,Sl.v (⟨none,0,0⟩:Sl),Sl.v (⟨none,0,0⟩:Sl),.int .i64 0] 30) fun u1 I=>
 ∃u2 u3 u4 u5 u6 u7 u8 u9 u10 u11 u12 u13 u14,qe ro I ⟨u0,0,none⟩ 0 [.int .i64 u2,.string u3,.int .i64 u4,.int .i64 u5,.int .i64 u6,.int .i64 u7,.int .i64 u8,.int .i64 u9,Sl.v u10,.string u11,.bool u12,.int .i64 u13,Sl.v u14]/\
 af2 B ro u2 u3 u4 u5 u6 u7 u8 u9 u10 u11 u12 u13 u14 I fun u15 I=>
 if¬(u15=0)then
 wJ B ro u15 I fun u16 u17 u18 u19 u20 u21 u22 u23 u24 u25 u26 u27 I=>
 stN ⟨u1,0,none⟩ (fun I=>
  ∃u28 u29 u30 u31 u32 u33 u34 u35 u36 u37 u38 u39,qe ro I ⟨u1,0,none⟩ 0 [.int .i64 u28,.int .i64 u29,Sl.v u30,.int .i64 u31,Sl.v u32,.int .i64 u33,.int .i64 u34,.int .i64 u35,.int .i64 u36,Sl.v u37,Sl.v u38,.int .i64 u39]/\
  Q u28 u29 u30 u31 u32 u33 u34 u35 u36 u37 u38 u39 I) [.int .i64 u16,.int .i64 u17,Sl.v u18,.int .i64 u19,Sl.v u20,.int .i64 u21,.int .i64 u22,.int .i64 u23,.int .i64 u24,Sl.v u25,Sl.v u26,.int .i64 u27] 0 I
 else
 ∃p40,a0=some p40/\
 ∃u41,qa ro I (p40.add 2)=some (.pointer u41)/\
 ∃u42,qa ro I ((⟨u0,0,none⟩:Addr).add 9)=some (.string u42)/\
 aaF B ro u41 u42 I fun u43 u44 I=>
 if u44=0 then
 ∃u45,qa ro I ((⟨u0,0,none⟩:Addr).add 10)=some (.bool u45)/\
 xa B ro a0 u0 u1 u43 u44 Q u45 I
 else
 xa B ro a0 u0 u1 u43 u44 Q false I
def ajo{a0 a1_0 a1_1 a1_2 a1_3 a1_4 a1_5 a1_6 a1_7 a1_8 a1_9 a1_10 a1_11 a1_12 Q}(h:Sep ro I->acu B ro a0 a1_0 a1_1 a1_2 a1_3 a1_4 a1_5 a1_6 a1_7 a1_8 a1_9 a1_10 a1_11 a1_12 I Q):ab8 B ro a0 a1_0 a1_1 a1_2 a1_3 a1_4 a1_5 a1_6 a1_7 a1_8 a1_9 a1_10 a1_11 a1_12 I Q:=by
 refine zb h func192 ntmps192 fun h=>?_;unfold acu at h;refine zw ?_;refine zA (wt rfl rfl) h fun u0 h=>?_;refine zAp (qT rfl qM) h fun u1 h=>?_;refine AW.seq ?_;refine zw ?_;obtain⟨u2,u3,u4,u5,u6,u7,u8,u9,u10,u11,u12,u13,u14,hc,h⟩:=h
 refine zl (wq rfl mw rfl yV rfl hc ?_)
 refine zC func235 h fun u15 I h=>?_;refine AW.iff rfl (qu me) h (fun h=>?_) (fun h=>?_)
 .refine zc func72 h ?_;rintro v I ⟨u16,u17,u18,u19,u20,u21,u22,u23,u24,u25,u26,u27,rfl,h⟩;refine zsp qM h fun I h=>?_;obtain⟨u28,u29,u30,u31,u32,u33,u34,u35,u36,u37,u38,u39,hc0,h⟩:=h
  exact xN results192 (wA (vN rfl mi rfl qM hc0) vM) ⟨_,_,_,_,_,_,_,_,_,_,_,_,rfl,h⟩
 refine zw ?_;refine AW.seq ?_;refine AW.drawn0 (fun i=>([0,0,0,3,0,3,2,0,0,0,0,0]:List Nat).getD i 2) [] [0,1,2,4,3,5,6,7,8,9,10,11] mixed j3 ?_
 refine zM h fun p40 h=>?_;refine zg mX aeK ?_;refine zg mw ty9 ?_;refine zR nY h fun u41 h=>?_;refine zR mo h fun u42 h=>?_;refine zG func237 h ?_;rintro v I ⟨u43,u44,rfl,h⟩;refine zw ?_;refine wG ?_
 refine zw ?_;refine AW.seqJ (fun fr I=>qo [(4,.pointer (some ⟨u1,0,none⟩)),(6,Sl.v u43),(7,.int .i64 u44)] fr/\vk B ro u1 u43 u44 Q I) ?_ ?_
 .rintro fr I ⟨hl,h⟩;refine AW.weaken ?_ hl (HLe.refl _)
  unfold vk at h;refine zw ?_;refine zm (wB (vs:=[(0,.int .i64 u44),(6,Sl.v u43)]) (cs:= #[.int .i64 u44,.int .i64 0,Sl.v (⟨none,0,0⟩:Sl),.int .i64 0,Sl.v (⟨none,0,0⟩:Sl),.int .i64 0,.int .i64 0,.int .i64 0,.int .i64 0,Sl.v u43,Sl.v (⟨none,0,0⟩:Sl),.int .i64 0]) rfl mi qM agn rfl j0) ?_;refine zsp qM h fun I h=>?_;obtain⟨u45,u46,u47,u48,u49,u50,u51,u52,u53,u54,u55,u56,hc0,h⟩:=h
  exact xN results192 (wA (vN rfl mi rfl qM hc0) vM) ⟨_,_,_,_,_,_,_,_,_,_,_,_,rfl,h⟩
 refine zw ?_;refine qI 3 (decide (u44=0)) me h (fun fr I=> ∃(u57:Bool),qo [(0,.pointer a0),(3,.pointer (some ⟨u0,0,none⟩)),(4,.pointer (some ⟨u1,0,none⟩)),(6,Sl.v u43),(7,.int .i64 u44),(30,.bool u57)] fr/\xa B ro a0 u0 u1 u43 u44 Q u57 I) ?_ ?_ ?_
 .intro h e2 hk2;refine qO (qW rfl mw rfl ty4 y1 rfl) rfl rfl rfl rfl e2 ?_
  obtain⟨u58,hc,h⟩:=h
  refine Lyb rfl rfl rfl rfl e2 (vc rfl Lg rfl rfl hc ?_)
  refine zk e2 ?_;exact hk2 _ _ ⟨_,FL,h⟩
 .intro h e2 hk2;refine zv e2 ?_;exact hk2 _ _ ⟨_,FL,h⟩
 rintro fr I ⟨u57,hl,h⟩;unfold xa at h;refine Lfr hl ?_
 refine zj h (fun h=>?_) fun h=>?_
 rotate_left
 .refine zw ?_;exact⟨FL,h⟩
 refine AW.seq ?_;refine AW.drawnL (fun i=>([0,0,0,0,3,2,0,0,2,0]:List Nat).getD i 2) [(4,5),(4,8)] [0,1,2,3,6,7,4,5,8,9] mixed h j3 ?_
 clear h
 intro ψ I h
 refine zM h fun p59 h=>?_;refine zg mX af0 ?_;refine zS Lu h fun u60 h=>?_;refine zg mw ty9 ?_;refine zS mo h fun u61 h=>?_;obtain⟨u62,u63,u64,u65,u66,u67,u68,u69,u70,u71,u72,u73,u74,hc,h⟩:=h
 refine Dr rfl rfl rfl rfl (jh rfl mw rfl yV rfl hc) ?_
 refine zG func71 h ?_;rintro v I ⟨u75,u76,rfl,h⟩;refine zG func236 h ?_;rintro v I ⟨u77,rfl,h⟩;refine zw ?_;refine⟨_,wW.refl _,fun hdj=>?_⟩
 replace h:=h hdj
 refine zw ?_;refine AW.iff rfl (qu me) h (fun h=>?_) (fun h=>?_)
 rotate_left
 .refine zw ?_;exact⟨FL,h⟩
 refine zc func72 h ?_;rintro v I ⟨u78,u79,u80,u81,u82,u83,u84,u85,u86,u87,u88,u89,rfl,h⟩;refine zsp qM h fun I h=>?_;obtain⟨u90,u91,u92,u93,u94,u95,u96,u97,u98,u99,u100,u101,hc0,h⟩:=h
 exact xN results192 (wA (vN rfl mi rfl qM hc0) vM) ⟨_,_,_,_,_,_,_,_,_,_,_,_,rfl,h⟩
def abv(B:ZB)(ro:AH)(u0:Int)(Q:Int->AH->Prop)(u1:Bool)(I:AH):=
 if u1=true then
 Q 82 I
 else
 Q u0 I
def ai1(B:ZB)(ro:AH)(a0_0:Int)(a0_1:ZA)(a0_2 a0_3 a0_4 a0_5 a0_6 a0_7:Int)(a0_8:Sl)(a0_9:ZA)(a0_10:Bool)(a0_11:Int)(a0_12:Sl)(I:AH)(Q:Int->AH->Prop):=
 nw ro I (.cells #[.int .i64 a0_0,.string a0_1,.int .i64 a0_2,.int .i64 a0_3,.int .i64 a0_4,.int .i64 a0_5,.int .i64 a0_6,.int .i64 a0_7,Sl.v a0_8,.string a0_9,.bool a0_10,.int .i64 a0_11,Sl.v a0_12] 57) fun u0 I=>
 ∃u1,qa ro I ((⟨u0,0,none⟩:Addr).add 9)=some (.string u1)/\
 pG B ro u1 I fun u2 u3 I=>
 if u3=0 then
 ∃u4,qa ro I ((⟨u0,0,none⟩:Addr).add 1)=some (.string u4)/\
 abv B ro u3 Q (!(decide (u2=u4))) I
 else
 abv B ro u3 Q false I
def apM{a0_0 a0_1 a0_2 a0_3 a0_4 a0_5 a0_6 a0_7 a0_8 a0_9 a0_10 a0_11 a0_12 Q}(h:Sep ro I->ai1 B ro a0_0 a0_1 a0_2 a0_3 a0_4 a0_5 a0_6 a0_7 a0_8 a0_9 a0_10 a0_11 a0_12 I Q):af2 B ro a0_0 a0_1 a0_2 a0_3 a0_4 a0_5 a0_6 a0_7 a0_8 a0_9 a0_10 a0_11 a0_12 I Q:=by
 refine zb h func235 ntmps235 fun h=>?_;unfold ai1 at h;refine zw ?_;refine zA (wt rfl rfl) h fun u0 h=>?_;refine zf mw ty9 ?_;refine zL mo h fun u1 h=>?_;refine zc func81 h ?_;rintro v I ⟨u2,u3,rfl,h⟩;refine zw ?_;refine AW.seq ?_;refine zw ?_;refine qI 5 (decide (u3=0)) me h (fun fr I=> ∃(u4:Bool),qo [(4,.int .i64 u3),(18,.bool u4)] fr/\abv B ro u3 Q u4 I) ?_ ?_ ?_
 .intro h e2 hk2;refine zy e2 ?_;refine qO (qW rfl mw rfl ty9 y1 rfl) rfl rfl rfl rfl e2 ?_
  obtain⟨u5,hc,h⟩:=h
  refine Lyb rfl rfl rfl rfl e2 (vc rfl mo rfl rfl hc ?_)
  refine qO (ajw rfl rfl rfl) rfl rfl rfl rfl e2 ?_
  refine zk e2 ?_;exact hk2 _ _ ⟨_,FL,h⟩
 .intro h e2 hk2;refine zv e2 ?_;exact hk2 _ _ ⟨_,FL,h⟩
 rintro fr I ⟨u4,hl,h⟩;unfold abv at h;refine Lfr hl ?_
 refine zj h (fun h=>?_) fun h=>?_
 .exact zr h
 exact zr h