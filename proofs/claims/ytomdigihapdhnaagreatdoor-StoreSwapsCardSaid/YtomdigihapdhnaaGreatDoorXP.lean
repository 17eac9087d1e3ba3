import Derived.Test.YtomdigihapdhnaaGreatDoorXO
set_option linter.all false
set_option maxRecDepth 99999
set_option maxHeartbeats 0
open Go.IntKind(i64)
open Go.Proofs.Tryz
namespace Go.Proofs.YtomdigihapdhnaaGreatDoor
namespace G
open Go SL
variable{B:World}{ro I:AH}
def adR(B:World)(ro:AH)(a0:Sl)(I:AH)(Q:Option Addr->Int->AH->Prop):=
 xJ B ro a0 I fun u0 I=>
 if¬(u0=true)then
 Q none 190 I
 else
 xb B ro a0 I fun u1 I=>
 afJ B ro I fun u2 I=>
 ahr B ro I fun u3 I=>
 aiY B ro I fun u4 I=>
 nw ro I (.cells #[.int .i64 0,Sl.v u1,.pointer u2,.pointer u3,.pointer u4] 153) fun u5 I=>
 Q (some ⟨u5,0,none⟩) 0 I
theorem aij{a0:Sl}{Q:Option Addr->Int->AH->Prop}(h:Sep ro I->adR B ro a0 I Q):abQ B ro a0 I Q:=by
 refine zb h func21 ntmps21 fun h=>?_;unfold adR at h;refine z3 ?_;iterate 2 refine zp ?_
 refine z2 (AW.seq (z3 ?_))
 refine zp ?_;refine zc func64 h ?_;rintro v I ⟨u0,rfl,h⟩;refine zp ?_;refine z2 ?_;refine AW.iff rfl (qu Iff.rfl) h (fun h=>?_) (fun h=>?_)
 .refine z3 ?_;iterate 2 refine zp ?_
  refine z2 ?_;refine AW.ret ?_;refine qi ?_;exact bR2 results21 rfl rfl ⟨_,_,rfl,h⟩
 refine AW.skip ?_;refine qd (z3 ?_);refine zp ?_;refine zc func65 h ?_;rintro v I ⟨u1,rfl,h⟩;refine zm (wz (vs:=[(0,.int .i64 0),(1,Sl.v u1)]) (cs:= #[.int .i64 0,Sl.v u1]) rfl underlying149 aeC atF rfl rfl) ?_;refine zc func66 h ?_;rintro v I ⟨u2,rfl,h⟩;refine zc func67 h ?_;rintro v I ⟨u3,rfl,h⟩;refine zc func68 h ?_;rintro v I ⟨u4,rfl,h⟩;refine zm (wz (vs:=[(0,.agg #[.int .i64 0,Sl.v u1]),(1,.pointer u2),(2,.pointer u3),(3,.pointer u4)]) (cs:= #[.int .i64 0,Sl.v u1,.pointer u2,.pointer u3,.pointer u4]) rfl underlying153 atv atG rfl rfl) ?_
 refine zA (wI rfl rfl) h fun u5 h=>?_;iterate 2 refine zp ?_
 refine z2 ?_;refine AW.ret ?_;exact bR2 results21 rfl rfl ⟨_,_,rfl,h⟩
def wx(B:World)(ro:AH)(a0:Option Addr)(u0 u1:Nat)(Q:Int->Int->Sl->Int->Sl->Int->Int->Int->Int->Sl->Sl->Int->AH->Prop)(u2:Bool)(I:AH):=
 if u2=true then
 ∃u3 u4 u5 u6 u7 u8 u9 u10 u11 u12 u13 u14 u15,qg ro I ⟨u0,0,none⟩ 0 [.int .i64 u3,.string u4,.int .i64 u5,.int .i64 u6,.int .i64 u7,.int .i64 u8,.int .i64 u9,.int .i64 u10,Sl.v u11,.string u12,.bool u13,.int .i64 u14,Sl.v u15]/\
 uU B ro a0 u3 u4 u5 u6 u7 u8 u9 u10 u11 u12 u13 u14 u15 I fun u16 u17 u18 u19 u20 u21 u22 u23 u24 u25 u26 u27 I=>
 stN ⟨u1,0,none⟩ (fun I=>
  ∃u28 u29 u30 u31 u32 u33 u34 u35 u36 u37 u38 u39,qg ro I ⟨u1,0,none⟩ 0 [.int .i64 u28,.int .i64 u29,Sl.v u30,.int .i64 u31,Sl.v u32,.int .i64 u33,.int .i64 u34,.int .i64 u35,.int .i64 u36,Sl.v u37,Sl.v u38,.int .i64 u39]/\
  Q u28 u29 u30 u31 u32 u33 u34 u35 u36 u37 u38 u39 I) [.int .i64 u16,.int .i64 u17,Sl.v u18,.int .i64 u19,Sl.v u20,.int .i64 u21,.int .i64 u22,.int .i64 u23,.int .i64 u24,Sl.v u25,Sl.v u26,.int .i64 u27] 0 I
 else
 wK B ro 170 I fun u40 u41 u42 u43 u44 u45 u46 u47 u48 u49 u50 u51 I=>
 stN ⟨u1,0,none⟩ (fun I=>
 ∃u52 u53 u54 u55 u56 u57 u58 u59 u60 u61 u62 u63,qg ro I ⟨u1,0,none⟩ 0 [.int .i64 u52,.int .i64 u53,Sl.v u54,.int .i64 u55,Sl.v u56,.int .i64 u57,.int .i64 u58,.int .i64 u59,.int .i64 u60,Sl.v u61,Sl.v u62,.int .i64 u63]/\
 Q u52 u53 u54 u55 u56 u57 u58 u59 u60 u61 u62 u63 I) [.int .i64 u40,.int .i64 u41,Sl.v u42,.int .i64 u43,Sl.v u44,.int .i64 u45,.int .i64 u46,.int .i64 u47,.int .i64 u48,Sl.v u49,Sl.v u50,.int .i64 u51] 0 I
def py(B:World)(ro:AH)(a0:Option Addr)(a1_0:Int)(a1_1:ByteArray)(a1_2 a1_3 a1_4 a1_5 a1_6 a1_7:Int)(a1_8:Sl)(a1_9:ByteArray)(a1_10:Bool)(a1_11:Int)(a1_12:Sl)(I:AH)(Q:Int->Int->Sl->Int->Sl->Int->Int->Int->Int->Sl->Sl->Int->AH->Prop):=
 nw ro I (.cells #[.int .i64 a1_0,.string a1_1,.int .i64 a1_2,.int .i64 a1_3,.int .i64 a1_4,.int .i64 a1_5,.int .i64 a1_6,.int .i64 a1_7,Sl.v a1_8,.string a1_9,.bool a1_10,.int .i64 a1_11,Sl.v a1_12] 57) fun u0 I=>
 nw ro I (.cells #[.int .i64 0,.int .i64 0,Sl.v (⟨none,0,0⟩:Sl),.int .i64 0,Sl.v (⟨none,0,0⟩:Sl),.int .i64 0,.int .i64 0,.int .i64 0,.int .i64 0,Sl.v (⟨none,0,0⟩:Sl),Sl.v (⟨none,0,0⟩:Sl),.int .i64 0] 30) fun u1 I=>
 ∃u2,qa ro I ⟨u0,0,none⟩=some (.int .i64 u2)/\
 if u2=1 then
 ∃u3 u4 u5 u6 u7 u8 u9 u10 u11 u12 u13 u14 u15,qg ro I ⟨u0,0,none⟩ 0 [.int .i64 u3,.string u4,.int .i64 u5,.int .i64 u6,.int .i64 u7,.int .i64 u8,.int .i64 u9,.int .i64 u10,Sl.v u11,.string u12,.bool u13,.int .i64 u14,Sl.v u15]/\
 pN B ro a0 u3 u4 u5 u6 u7 u8 u9 u10 u11 u12 u13 u14 u15 I fun u16 u17 u18 u19 u20 u21 u22 u23 u24 u25 u26 u27 I=>
 stN ⟨u1,0,none⟩ (fun I=>
  ∃u28 u29 u30 u31 u32 u33 u34 u35 u36 u37 u38 u39,qg ro I ⟨u1,0,none⟩ 0 [.int .i64 u28,.int .i64 u29,Sl.v u30,.int .i64 u31,Sl.v u32,.int .i64 u33,.int .i64 u34,.int .i64 u35,.int .i64 u36,Sl.v u37,Sl.v u38,.int .i64 u39]/\
  Q u28 u29 u30 u31 u32 u33 u34 u35 u36 u37 u38 u39 I) [.int .i64 u16,.int .i64 u17,Sl.v u18,.int .i64 u19,Sl.v u20,.int .i64 u21,.int .i64 u22,.int .i64 u23,.int .i64 u24,Sl.v u25,Sl.v u26,.int .i64 u27] 0 I
 else
 if u2=4 then
 yP I fun ψ I=>
  ∃p40,a0=some p40/\
  ∃u41,qa (join ro ψ) (fun _=>none) (p40.add 3)=some (.pointer u41)/\
  ∃u42,qa (join ro ψ) (fun _=>none) ((⟨u0,0,none⟩:Addr).add 6)=some (.int .i64 u42)/\
  ∃u43 u44 u45 u46 u47 u48 u49 u50 u51 u52 u53 u54 u55,qg (join ro ψ) I ⟨u0,0,none⟩ 0 [.int .i64 u43,.string u44,.int .i64 u45,.int .i64 u46,.int .i64 u47,.int .i64 u48,.int .i64 u49,.int .i64 u50,Sl.v u51,.string u52,.bool u53,.int .i64 u54,Sl.v u55]/\
  vB B (join ro ψ) u43 u44 u45 u46 u47 u48 u49 u50 u51 u52 u53 u54 u55 I fun u56 u57 I=>
  ud B (join ro ψ) u41 u56 u57 u42 I fun u58 I=>
  (qP ψ I->(fun I=>
  if¬(u58=true)then
   wK B ro 150 I fun u59 u60 u61 u62 u63 u64 u65 u66 u67 u68 u69 u70 I=>
   stN ⟨u1,0,none⟩ (fun I=>
   ∃u71 u72 u73 u74 u75 u76 u77 u78 u79 u80 u81 u82,qg ro I ⟨u1,0,none⟩ 0 [.int .i64 u71,.int .i64 u72,Sl.v u73,.int .i64 u74,Sl.v u75,.int .i64 u76,.int .i64 u77,.int .i64 u78,.int .i64 u79,Sl.v u80,Sl.v u81,.int .i64 u82]/\
   Q u71 u72 u73 u74 u75 u76 u77 u78 u79 u80 u81 u82 I) [.int .i64 u59,.int .i64 u60,Sl.v u61,.int .i64 u62,Sl.v u63,.int .i64 u64,.int .i64 u65,.int .i64 u66,.int .i64 u67,Sl.v u68,Sl.v u69,.int .i64 u70] 0 I
  else
  ∃u83 u84 u85 u86 u87 u88 u89 u90 u91 u92 u93 u94 u95,qg ro I ⟨u0,0,none⟩ 0 [.int .i64 u83,.string u84,.int .i64 u85,.int .i64 u86,.int .i64 u87,.int .i64 u88,.int .i64 u89,.int .i64 u90,Sl.v u91,.string u92,.bool u93,.int .i64 u94,Sl.v u95]/\
  vB B ro u83 u84 u85 u86 u87 u88 u89 u90 u91 u92 u93 u94 u95 I fun u96 u97 I=>
  ph B ro a0 u96 u97 I fun I=>
  stN ⟨u1,0,none⟩ (fun I=>
   ∃u98 u99 u100 u101 u102 u103 u104 u105 u106 u107 u108 u109,qg ro I ⟨u1,0,none⟩ 0 [.int .i64 u98,.int .i64 u99,Sl.v u100,.int .i64 u101,Sl.v u102,.int .i64 u103,.int .i64 u104,.int .i64 u105,.int .i64 u106,Sl.v u107,Sl.v u108,.int .i64 u109]/\
   Q u98 u99 u100 u101 u102 u103 u104 u105 u106 u107 u108 u109 I) [.int .i64 0,.int .i64 0,Sl.v (⟨none,0,0⟩:Sl),.int .i64 0,Sl.v (⟨none,0,0⟩:Sl),.int .i64 0,.int .i64 0,.int .i64 0,.int .i64 0,Sl.v (⟨none,0,0⟩:Sl),Sl.v (⟨none,0,0⟩:Sl),.int .i64 0] 0 I) (join ψ I))
 else
 if u2=8 then
 ∃u110 u111 u112 u113 u114 u115 u116 u117 u118 u119 u120 u121 u122,qg ro I ⟨u0,0,none⟩ 0 [.int .i64 u110,.string u111,.int .i64 u112,.int .i64 u113,.int .i64 u114,.int .i64 u115,.int .i64 u116,.int .i64 u117,Sl.v u118,.string u119,.bool u120,.int .i64 u121,Sl.v u122]/\
 uT B ro a0 u110 u111 u112 u113 u114 u115 u116 u117 u118 u119 u120 u121 u122 I fun u123 u124 u125 u126 u127 u128 u129 u130 u131 u132 u133 u134 I=>
 stN ⟨u1,0,none⟩ (fun I=>
  ∃u135 u136 u137 u138 u139 u140 u141 u142 u143 u144 u145 u146,qg ro I ⟨u1,0,none⟩ 0 [.int .i64 u135,.int .i64 u136,Sl.v u137,.int .i64 u138,Sl.v u139,.int .i64 u140,.int .i64 u141,.int .i64 u142,.int .i64 u143,Sl.v u144,Sl.v u145,.int .i64 u146]/\
  Q u135 u136 u137 u138 u139 u140 u141 u142 u143 u144 u145 u146 I) [.int .i64 u123,.int .i64 u124,Sl.v u125,.int .i64 u126,Sl.v u127,.int .i64 u128,.int .i64 u129,.int .i64 u130,.int .i64 u131,Sl.v u132,Sl.v u133,.int .i64 u134] 0 I
 else
 if u2=2 then
 wx B ro a0 u0 u1 Q (decide (u2=2)) I
 else
 if u2=3 then
 wx B ro a0 u0 u1 Q (decide (u2=3)) I
 else
 if u2=5 then
 wx B ro a0 u0 u1 Q (decide (u2=5)) I
 else
 if u2=6 then
 wx B ro a0 u0 u1 Q (decide (u2=6)) I
 else
 wx B ro a0 u0 u1 Q (decide (u2=7)) I
theorem ado{a0:Option Addr}{a1_0:Int}{a1_1:ByteArray}{a1_2 a1_3 a1_4 a1_5 a1_6 a1_7:Int}{a1_8:Sl}{a1_9:ByteArray}{a1_10:Bool}{a1_11:Int}{a1_12:Sl}{Q:Int->Int->Sl->Int->Sl->Int->Int->Int->Int->Sl->Sl->Int->AH->Prop}(h:Sep ro I->py B ro a0 a1_0 a1_1 a1_2 a1_3 a1_4 a1_5 a1_6 a1_7 a1_8 a1_9 a1_10 a1_11 a1_12 I Q):kX B ro a0 a1_0 a1_1 a1_2 a1_3 a1_4 a1_5 a1_6 a1_7 a1_8 a1_9 a1_10 a1_11 a1_12 I Q:=by
 refine zb h func22 ntmps22 fun h=>?_;unfold py at h;refine z3 ?_;refine zA (wI rfl rfl) h fun u0 h=>?_;refine zA (qY rfl qM) h fun u1 h=>?_;refine z2 (AW.seq (z3 ?_))
 refine zf underlying57 ty3 ?_;refine zL underlying3 h fun u2 h=>?_;refine z2 (AW.block (z3 ?_))
 iterate 2 refine zp ?_
 refine z2 ?_;refine zi h (fun h=>?_) fun h=>?_
 .refine z3 ?_;refine zp ?_;obtain⟨u3,u4,u5,u6,u7,u8,u9,u10,u11,u12,u13,u14,u15,hc,h⟩:=h
  refine zl (wY rfl underlying57 rfl aaY rfl hc ?_)
  refine zc func69 h ?_;rintro v I ⟨u16,u17,u18,u19,u20,u21,u22,u23,u24,u25,u26,u27,rfl,h⟩;refine zs qM h fun I h=>?_;refine z2 ?_;refine AW.ret ?_;refine qx (qi ?_);obtain⟨u28,u29,u30,u31,u32,u33,u34,u35,u36,u37,u38,u39,hc0,h⟩:=h
  exact xI results22 (wC (vV rfl underlying30 rfl qM hc0) vT) ⟨_,_,_,_,_,_,_,_,_,_,_,_,rfl,h⟩
 refine z3 ?_;iterate 2 refine zp ?_
 refine z2 ?_;refine zi h (fun h=>?_) fun h=>?_
 .refine AW.seq (AW.seq ?_);refine AW.drawnL (fun i=>([0,0,0,0,3,2,0,0,2,0]:List Nat).getD i 2) [(4,5),(4,8)] [0,1,2,3,6,7,4,5,8,9] mixed h (by decide+kernel) ?_
  clear h
  intro ψ I h
  refine zq ?_;obtain⟨p40,hc,h⟩:=h
  refine Dp rfl rfl rfl rfl (qr rfl (by rw[<-hc];try rfl)) ?_
  refine zg underlying153 agF ?_;obtain⟨u41,hc,h⟩:=h
  refine Dp rfl rfl rfl rfl (yQ rfl underlying150 rfl rfl hc) ?_
  refine zg underlying57 ty3 ?_;obtain⟨u42,hc,h⟩:=h
  refine Dp rfl rfl rfl rfl (yQ rfl underlying3 rfl rfl hc) ?_
  obtain⟨u43,u44,u45,u46,u47,u48,u49,u50,u51,u52,u53,u54,u55,hc,h⟩:=h
  refine Dr rfl rfl rfl rfl (xH rfl underlying57 rfl aaY rfl hc) ?_
  refine Dg rfl rfl rfl rfl (qF rfl func71 rfl rfl rfl (qc.mono h ?_))
  rintro v I ⟨u56,u57,rfl,h⟩;refine Dg rfl rfl rfl rfl (qF rfl func70 rfl rfl rfl (qc.mono h ?_))
  rintro v I ⟨u58,rfl,h⟩;refine zq ?_;refine⟨_,zr.refl _,fun hdj=>?_⟩
  replace h:=h hdj
  refine qd ?_;refine AW.iff rfl (qu Iff.rfl) h (fun h=>?_) (fun h=>?_)
  .refine z3 ?_;refine zc func72 h ?_;rintro v I ⟨u59,u60,u61,u62,u63,u64,u65,u66,u67,u68,u69,u70,rfl,h⟩;refine zs qM h fun I h=>?_;refine z2 ?_;refine AW.ret ?_;refine qi (qx (qi ?_));obtain⟨u71,u72,u73,u74,u75,u76,u77,u78,u79,u80,u81,u82,hc0,h⟩:=h
   exact xI results22 (wC (vV rfl underlying30 rfl qM hc0) vT) ⟨_,_,_,_,_,_,_,_,_,_,_,_,rfl,h⟩
  refine AW.skip ?_;refine qd (z3 ?_);refine zp ?_;obtain⟨u83,u84,u85,u86,u87,u88,u89,u90,u91,u92,u93,u94,u95,hc,h⟩:=h
  refine zl (wY rfl underlying57 rfl aaY rfl hc ?_)
  refine zc func71 h ?_;rintro v I ⟨u96,u97,rfl,h⟩;refine zc func73 h ?_;rintro v I ⟨rfl,h⟩;refine z4 ?_;refine zm (wz (vs:=[]) (cs:= #[.int .i64 0,.int .i64 0,Sl.v (⟨none,0,0⟩:Sl),.int .i64 0,Sl.v (⟨none,0,0⟩:Sl),.int .i64 0,.int .i64 0,.int .i64 0,.int .i64 0,Sl.v (⟨none,0,0⟩:Sl),Sl.v (⟨none,0,0⟩:Sl),.int .i64 0]) rfl underlying30 qM aeX rfl (by kernel_rfl)) ?_
  refine zs qM h fun I h=>?_;refine z2 ?_;refine AW.ret ?_;refine qx (qi ?_);obtain⟨u98,u99,u100,u101,u102,u103,u104,u105,u106,u107,u108,u109,hc0,h⟩:=h
  exact xI results22 (wC (vV rfl underlying30 rfl qM hc0) vT) ⟨_,_,_,_,_,_,_,_,_,_,_,_,rfl,h⟩
 refine z3 ?_;iterate 2 refine zp ?_
 refine z2 ?_;refine zi h (fun h=>?_) fun h=>?_
 .refine z3 ?_;refine zp ?_;obtain⟨u110,u111,u112,u113,u114,u115,u116,u117,u118,u119,u120,u121,u122,hc,h⟩:=h
  refine zl (wY rfl underlying57 rfl aaY rfl hc ?_)
  refine zc func74 h ?_;rintro v I ⟨u123,u124,u125,u126,u127,u128,u129,u130,u131,u132,u133,u134,rfl,h⟩;refine zs qM h fun I h=>?_;refine z2 ?_;refine AW.ret ?_;refine qx (qi ?_);obtain⟨u135,u136,u137,u138,u139,u140,u141,u142,u143,u144,u145,u146,hc0,h⟩:=h
  exact xI results22 (wC (vV rfl underlying30 rfl qM hc0) vT) ⟨_,_,_,_,_,_,_,_,_,_,_,_,rfl,h⟩
 refine AW.seqJ (fun fr I=> ∃(u147:Bool),qo [(0,.pointer a0),(3,.pointer (some ⟨u0,0,none⟩)),(4,.pointer (some ⟨u1,0,none⟩)),(35,.bool u147)] fr/\wx B ro a0 u0 u1 Q u147 I) ?_ ?_
 rotate_left
 .refine z3 ?_;iterate 2 refine zp ?_
  refine z2 ?_;refine zi h (fun h=>?_) fun h=>?_
  .refine AW.skip ?_;refine qd ?_;exact⟨_,FL,h⟩
  refine z3 ?_;iterate 2 refine zp ?_
  refine z2 ?_;refine zi h (fun h=>?_) fun h=>?_
  .refine AW.skip ?_;refine qd ?_;exact⟨_,FL,h⟩
  refine z3 ?_;iterate 2 refine zp ?_
  refine z2 ?_;refine zi h (fun h=>?_) fun h=>?_
  .refine AW.skip ?_;refine qd ?_;exact⟨_,FL,h⟩
  refine z3 ?_;iterate 2 refine zp ?_
  refine z2 ?_;refine zi h (fun h=>?_) fun h=>?_
  .refine AW.skip ?_;refine qd ?_;exact⟨_,FL,h⟩
  refine AW.reg ?_;iterate 2 refine zp ?_
  refine z2 ?_;exact⟨_,FL,h⟩
 rintro fr I ⟨u147,hl,h⟩;refine AW.weaken ?_ hl (HLe.refl _)
 unfold wx at h;refine zj h (fun h=>?_) fun h=>?_
 rotate_left
 .refine AW.skip ?_;refine qD (qd (z3 ?_));refine zc func72 h ?_;rintro v I ⟨u148,u149,u150,u151,u152,u153,u154,u155,u156,u157,u158,u159,rfl,h⟩;refine zs qM h fun I h=>?_;refine z2 ?_;refine AW.ret ?_;obtain⟨u160,u161,u162,u163,u164,u165,u166,u167,u168,u169,u170,u171,hc0,h⟩:=h
  exact xI results22 (wC (vV rfl underlying30 rfl qM hc0) vT) ⟨_,_,_,_,_,_,_,_,_,_,_,_,rfl,h⟩
 refine z3 ?_;refine zp ?_;obtain⟨u172,u173,u174,u175,u176,u177,u178,u179,u180,u181,u182,u183,u184,hc,h⟩:=h
 refine zl (wY rfl underlying57 rfl aaY rfl hc ?_)
 refine zc func75 h ?_;rintro v I ⟨u185,u186,u187,u188,u189,u190,u191,u192,u193,u194,u195,u196,rfl,h⟩;refine zs qM h fun I h=>?_;refine z2 ?_;refine AW.ret ?_;refine qx (qi ?_);obtain⟨u197,u198,u199,u200,u201,u202,u203,u204,u205,u206,u207,u208,hc0,h⟩:=h
 exact xI results22 (wC (vV rfl underlying30 rfl qM hc0) vT) ⟨_,_,_,_,_,_,_,_,_,_,_,_,rfl,h⟩
def abj(B:World)(ro:AH)(a0:Option Addr)(I:AH)(Q:Option Addr->AH->Prop):=
 ∃p0,a0=some p0/\
 ∃u1,qa ro I (p0.add 2)=some (.pointer u1)/\
 pi B ro u1 I fun u2 I=>
 abr B ro u2 I fun u3 u4 I=>
 Q u3 I
theorem ahD{a0:Option Addr}{Q:Option Addr->AH->Prop}(h:Sep ro I->abj B ro a0 I Q):aaZ B ro a0 I Q:=by
 refine zb h func24 ntmps24 fun h=>?_;unfold abj at h;refine z3 ?_;refine zp ?_;refine z4 ?_;refine zp ?_;refine zN h fun p0 h=>?_;refine zf underlying153 ac3 ?_;refine zL underlying61 h fun u1 h=>?_;refine zc func78 h ?_;rintro v I ⟨u2,rfl,h⟩;refine zc func77 h ?_;rintro v I ⟨u3,u4,rfl,h⟩;iterate 5 refine zp ?_
 refine z4 ?_;iterate 2 refine zp ?_
 refine z2 ?_;refine AW.ret ?_;exact bR1 results24 rfl ⟨_,rfl,h⟩
def aag(B:World)(ro:AH)(a0:Option Addr)(I:AH)(Q:Int->AH->Prop):=
 ∃p0,a0=some p0/\
 ∃u1,qa ro I p0=some (.int .i64 u1)/\
 Q u1 I
theorem agn{a0:Option Addr}{Q:Int->AH->Prop}(h:Sep ro I->aag B ro a0 I Q):ac5 B ro a0 I Q:=by
 refine zb h func62 ntmps62 fun h=>?_;unfold aag at h;refine z3 ?_;refine zp ?_;refine z4 ?_;refine zp ?_;refine zN h fun p0 h=>?_;refine zf underlying149 ty3 ?_;refine zL underlying3 h fun u1 h=>?_;refine zp ?_;refine z2 ?_;refine AW.ret ?_;exact bR1 results62 rfl ⟨_,rfl,h⟩
def uk(B:World)(ro:AH)(a0:Option Addr)(I:AH)(Q:Sl->AH->Prop):=
 ∃p0,a0=some p0/\
 ∃u1,qa ro I (p0.add 1)=some (Sl.v u1)/\
 xb B ro u1 I fun u2 I=>
 Q u2 I
theorem afm{a0:Option Addr}{Q:Sl->AH->Prop}(h:Sep ro I->uk B ro a0 I Q):abR B ro a0 I Q:=by
 refine zb h func63 ntmps63 fun h=>?_;unfold uk at h;refine z3 ?_;refine zp ?_;refine z4 ?_;refine zp ?_;refine zN h fun p0 h=>?_;refine zf underlying149 ajh ?_;refine zL underlying55 h fun u1 h=>?_;refine zc func65 h ?_;rintro v I ⟨u2,rfl,h⟩;refine zp ?_;refine z2 ?_;refine AW.ret ?_;exact bR1 results63 rfl ⟨_,rfl,h⟩
def xv(B:World)(ro:AH)(a0:Sl)(Q:Bool->AH->Prop)(I:AH):=
 Q ((decide (1<=(a0.len:Int))) && (decide ((a0.len:Int)<=7))) I
def wy(B:World)(ro:AH)(a0:Sl)(u0:Int)(Q:Bool->AH->Prop)(Y2:Int->AH->Prop)(u1:Bool)(I:AH):=
 if u1=true then
 Q false I
 else
 Y2 (i64.wrap (u0+1)) I
def zo(B:World)(ro:AH)(a0:Sl)(u0 u1:Int)(Q:Bool->AH->Prop)(Y2:Int->AH->Prop)(u2:Bool)(I:AH):=
 wy B ro a0 u0 Q Y2 u2 I
def wh(B:World)(ro:AH)(a0:Sl)(Q:Bool->AH->Prop):Int->AH->(Int->AH->Prop)->Prop:=fun u0 I Y2=>
 if u0<(a0.len:Int)then
 ∃p1,a0.a=some p1/\(0:Int)<=u0/\u0<(a0.len:Int)/\
 ∃u2,qa ro I (p1.add (Int.toNat u0*1))=some (.int .i64 u2)/\
 if(u2<0)\/(31<u2)then
  wy B ro a0 u0 Q Y2 true I
 else
 if 0<u0 then
  ∃p3,a0.a=some p3/\(0:Int)<=(i64.wrap (u0 - 1))/\(i64.wrap (u0 - 1))<(a0.len:Int)/\
  ∃u4,qa ro I (p3.add (Int.toNat (i64.wrap (u0 - 1))*1))=some (.int .i64 u4)/\
  zo B ro a0 u0 u2 Q Y2 (decide (u2<=u4)) I
 else
 zo B ro a0 u0 u2 Q Y2 false I
 else
 xv B ro a0 Q I
def yA(B:World)(ro:AH)(a0:Sl)(I:AH)(Q:Bool->AH->Prop):=
 lfpD (wh B ro a0 Q) (0) I
theorem acT{a0:Sl}{Q:Bool->AH->Prop}(h:Sep ro I->yA B ro a0 I Q):xJ B ro a0 I Q:=by
 refine zb h func64 ntmps64 fun h=>?_;unfold yA at h;refine z3 ?_;refine zp ?_;refine z2 ?_;refine AW.seqJ (fun fr I=>qo [(0,Sl.v a0)] fr/\xv B ro a0 Q I) ?_ ?_
 .rintro fr I ⟨hl,h⟩;refine AW.weaken ?_ hl (HLe.refl _)
  unfold xv at h;refine z3 ?_;refine zp ?_;refine zm (qT rfl rfl underlying55 rfl rfl) ?_;iterate 2 refine zp ?_
  refine wW 4 (decide (1<=(a0.len:Int))) [(39,.bool ((decide (1<=(a0.len:Int))) && (decide ((a0.len:Int)<=7))))] ?_ ?_ ?_
  .intro e3 hk3
   refine zy e3 ?_;refine qX (qT rfl rfl underlying55 rfl rfl) rfl rfl rfl rfl e3 ?_
   refine zy e3 ?_;refine zk e3 ?_;exact hk3 _ (Fe e3)
  .intro e3 hk3
   iterate 3 refine zn e3 ?_
   refine zk e3 ?_;exact hk3 _ (Fe e3)
  intro fr hl
  refine Lfr hl ?_
  refine zp ?_;refine z2 ?_;refine AW.ret ?_;exact bR1 results64 rfl ⟨_,rfl,h⟩
 refine z3 ?_;refine zp ?_;refine zm (qT rfl rfl underlying55 rfl rfl) ?_;refine zp ?_;refine z2 (AW.block ?_)
 refine qk.loop (fr':=[(0,Sl.v a0),(5,Sl.v a0),(6,.int .i64 (a0.len:Int)),(7,.int .i64 0)]) ?_ FL
 refine h (fun u0 I=>qk _ _ _ _ _ _ [(0,Sl.v a0),(5,Sl.v a0),(6,.int .i64 (a0.len:Int)),(7,.int .i64 u0)] I) ?_
 rintro u0 I Y2 hY2 h
 show AW _ _ _ _ _ _ _ _
 unfold wh at h;refine z3 ?_;refine zp ?_;refine z2 (AW.seq ?_)
 refine zi h (fun h=>?_) fun h=>?_
 rotate_left
 .refine AW.exit ?_;refine qH (qH ?_);refine wB ?_
  refine qd ?_;exact⟨FL,h⟩
 refine AW.skip ?_;refine qd (AW.seq (AW.block (z3 ?_)));refine zp ?_;obtain⟨p1,ha,h0,h1,h⟩:=h
 refine zm (vv rfl underlying55 ty3 (ixL rfl ha) rfl h0 h1) ?_;refine zL underlying3 h fun u2 h=>?_;iterate 2 refine zp ?_
 refine z4 ?_;iterate 3 refine zp ?_
 refine wW 3 (decide (u2<0)) [(0,Sl.v a0),(3,.int .i64 u0),(4,.int .i64 u2),(5,Sl.v a0),(6,.int .i64 (a0.len:Int)),(7,.int .i64 u0),(17,.bool ((decide (u2<0)) || (decide (31<u2))))] ?_ ?_ ?_
 .intro e2 hk2
  iterate 2 refine zn e2 ?_
  refine zk e2 ?_;exact hk2 _ (Fe e2)
 .intro e2 hk2
  refine zy e2 ?_;refine zy e2 ?_;refine zk e2 ?_;exact hk2 _ (Fe e2)
 intro fr hl
 refine Lfr hl ?_
 refine zp ?_;refine qO 12 ((decide (u2<0)) || (decide (31<u2))) (zG decide_eq_true_iff decide_eq_true_iff) h (fun fr I=> ∃(u3:Bool),qo [(0,Sl.v a0),(5,Sl.v a0),(6,.int .i64 (a0.len:Int)),(7,.int .i64 u0),(30,.bool u3)] fr/\wy B ro a0 u0 Q Y2 u3 I) ?_ ?_ ?_
 .intro h e6 hk6;iterate 3 refine zn e6 ?_
  refine Ln rfl rfl rfl rfl (.inr rfl) ?_
  refine Ln rfl rfl rfl rfl (.inr rfl) ?_
  refine Ln rfl rfl rfl rfl (.inr rfl) ?_
  refine Ln rfl rfl rfl rfl (.inr rfl) ?_
  refine Ln rfl rfl rfl rfl (.inr rfl) ?_
  refine Ln rfl rfl rfl rfl (.inr rfl) ?_
  refine Ln rfl rfl rfl rfl (.inr rfl) ?_
  refine zn e6 ?_;refine zk e6 ?_;exact hk6 _ _ ⟨_,FL,h⟩
 .intro h e6 hk6;refine zy e6 ?_;refine zy e6 ?_;refine zy e6 ?_;refine qO 8 (decide (0<u0)) decide_eq_true_iff h (fun fr I=> ∃(u4:Bool),qo [(0,Sl.v a0),(5,Sl.v a0),(6,.int .i64 (a0.len:Int)),(7,.int .i64 u0),(18,.bool ((decide (u2<0)) || (decide (31<u2)))),(29,.bool u4)] fr/\zo B ro a0 u0 u2 Q Y2 u4 I) ?_ ?_ ?_
  .intro h e9 hk9;refine zy e9 ?_;refine zy e9 ?_;refine zy e9 ?_;refine zy e9 ?_;obtain⟨p5,ha,h0,h1,h⟩:=h
   refine qX (vv rfl underlying55 ty3 (ixL rfl ha) rfl h0 h1) rfl rfl rfl rfl e9 ?_
   obtain⟨u6,hc,h⟩:=h
   refine Lyb rfl rfl rfl rfl e9 (vG rfl underlying3 rfl rfl hc ?_)
   refine zy e9 ?_;refine qX (yH rfl (evb e9) rfl) rfl rfl rfl rfl e6 ?_
   exact hk9 _ _ ⟨_,FL,h⟩
  .intro h e9 hk9;iterate 7 refine zn e9 ?_
   refine qX (pF rfl (evb e9) rfl) rfl rfl rfl rfl e6 ?_
   exact hk9 _ _ ⟨_,FL,h⟩
  rintro fr I ⟨u4,hl,h⟩;unfold zo at h;refine Lfr hl ?_
  refine zk e6 ?_;exact hk6 _ _ ⟨_,FL,h⟩
 rintro fr I ⟨u3,hl,h⟩;unfold wy at h;refine Lfr hl ?_
 refine z2 ?_;refine zj h (fun h=>?_) fun h=>?_
 .refine z3 ?_;refine zp ?_;refine z2 ?_;refine AW.ret ?_;refine qx (qi (qi (qx (qi ?_))));exact bR1 results64 rfl ⟨_,rfl,h⟩
 refine AW.skip ?_;refine qD (qd (AW.reg ?_));iterate 2 refine zp ?_
 refine z2 ?_;refine qk.head (fr':=[(0,Sl.v a0),(5,Sl.v a0),(6,.int .i64 (a0.len:Int)),(7,.int .i64 (i64.wrap (u0+1)))]) ?_ FL
 exact hY2 _ _ h
def zx(B:World)(ro:AH)(u0:Nat)(u1:Int)(Q:Int->Int->Sl->Int->Sl->Int->Int->Int->Int->Sl->Sl->Int->AH->Prop)(I:AH):=
 stN ⟨u0,0,none⟩ (fun I=>
 ∃u2 u3 u4 u5 u6 u7 u8 u9 u10 u11 u12 u13,qg ro I ⟨u0,0,none⟩ 0 [.int .i64 u2,.int .i64 u3,Sl.v u4,.int .i64 u5,Sl.v u6,.int .i64 u7,.int .i64 u8,.int .i64 u9,.int .i64 u10,Sl.v u11,Sl.v u12,.int .i64 u13]/\
 Q u2 u3 u4 u5 u6 u7 u8 u9 u10 u11 u12 u13 I) [.int .i64 0,.int .i64 u1,Sl.v (⟨none,0,0⟩:Sl),.int .i64 0,Sl.v (⟨none,0,0⟩:Sl),.int .i64 0,.int .i64 0,.int .i64 0,.int .i64 0,Sl.v (⟨none,0,0⟩:Sl),Sl.v (⟨none,0,0⟩:Sl),.int .i64 0] 0 I
def pZ(B:World)(ro:AH)(a0:Option Addr)(a1_0:Int)(a1_1:ByteArray)(a1_2 a1_3 a1_4 a1_5 a1_6 a1_7:Int)(a1_8:Sl)(a1_9:ByteArray)(a1_10:Bool)(a1_11:Int)(a1_12:Sl)(I:AH)(Q:Int->Int->Sl->Int->Sl->Int->Int->Int->Int->Sl->Sl->Int->AH->Prop):=
 nw ro I (.cells #[.int .i64 a1_0,.string a1_1,.int .i64 a1_2,.int .i64 a1_3,.int .i64 a1_4,.int .i64 a1_5,.int .i64 a1_6,.int .i64 a1_7,Sl.v a1_8,.string a1_9,.bool a1_10,.int .i64 a1_11,Sl.v a1_12] 57) fun u0 I=>
 nw ro I (.cells #[.int .i64 0,.int .i64 0,Sl.v (⟨none,0,0⟩:Sl),.int .i64 0,Sl.v (⟨none,0,0⟩:Sl),.int .i64 0,.int .i64 0,.int .i64 0,.int .i64 0,Sl.v (⟨none,0,0⟩:Sl),Sl.v (⟨none,0,0⟩:Sl),.int .i64 0] 30) fun u1 I=>
 ∃u2,qa ro I ((⟨u0,0,none⟩:Addr).add 1)=some (.string u2)/\
 (⟨#[47]⟩:ByteArray).size+u2.size<=9223372036854775807/\
 ∃p3,a0=some p3/\
 ∃u4,qa ro I (p3.add 2)=some (.pointer u4)/\
 xj B ro u4 ((⟨#[47]⟩:ByteArray)++u2) I fun u5 u6 u7 u8 u9 u10 I=>
 nw ro I (.cells #[.int .i64 0,.int .i64 0,.int .i64 0,.int .i64 0] 26) fun u11 I=>
 stN ⟨u11,0,none⟩ (fun I=>
 ∃u12,qa ro I ((⟨u0,0,none⟩:Addr).add 1)=some (.string u12)/\
 yE B ro u12 I fun u13 I=>
 ∃p14,a0=some p14/\
 ∃u15,qa ro I (p14.add 3)=some (.pointer u15)/\
 ∃u16,qa ro I ((⟨u0,0,none⟩:Addr).add 1)=some (.string u16)/\
 ∃u17,qa ro I ((⟨u0,0,none⟩:Addr).add 4)=some (.int .i64 u17)/\
 ∃u18,qa ro I ((⟨u0,0,none⟩:Addr).add 5)=some (.int .i64 u18)/\
 xK B ro u15 u16 u17 u18 I fun u19 u20 u21 I=>
 if¬(u21=0)then
  wK B ro u21 I fun u22 u23 u24 u25 u26 u27 u28 u29 u30 u31 u32 u33 I=>
  stN ⟨u1,0,none⟩ (fun I=>
  ∃u34 u35 u36 u37 u38 u39 u40 u41 u42 u43 u44 u45,qg ro I ⟨u1,0,none⟩ 0 [.int .i64 u34,.int .i64 u35,Sl.v u36,.int .i64 u37,Sl.v u38,.int .i64 u39,.int .i64 u40,.int .i64 u41,.int .i64 u42,Sl.v u43,Sl.v u44,.int .i64 u45]/\
  Q u34 u35 u36 u37 u38 u39 u40 u41 u42 u43 u44 u45 I) [.int .i64 u22,.int .i64 u23,Sl.v u24,.int .i64 u25,Sl.v u26,.int .i64 u27,.int .i64 u28,.int .i64 u29,.int .i64 u30,Sl.v u31,Sl.v u32,.int .i64 u33] 0 I
 else
 if(u13=true)/\(u10=70)then
  ∃p46,a0=some p46/\
  ∃u47,qa ro I (p46.add 2)=some (.pointer u47)/\
  jn B ro u47 ((⟨#[47]⟩:ByteArray)++u2) (⟨none,0,0⟩:Sl) 0 false I fun u48 u49 I=>
  zx B ro u1 u19 Q I
 else
 zx B ro u1 u19 Q I) [.int .i64 u6,.int .i64 u7,.int .i64 u8,.int .i64 u9] 0 I
theorem ads{a0:Option Addr}{a1_0:Int}{a1_1:ByteArray}{a1_2 a1_3 a1_4 a1_5 a1_6 a1_7:Int}{a1_8:Sl}{a1_9:ByteArray}{a1_10:Bool}{a1_11:Int}{a1_12:Sl}{Q:Int->Int->Sl->Int->Sl->Int->Int->Int->Int->Sl->Sl->Int->AH->Prop}(h:Sep ro I->pZ B ro a0 a1_0 a1_1 a1_2 a1_3 a1_4 a1_5 a1_6 a1_7 a1_8 a1_9 a1_10 a1_11 a1_12 I Q):pN B ro a0 a1_0 a1_1 a1_2 a1_3 a1_4 a1_5 a1_6 a1_7 a1_8 a1_9 a1_10 a1_11 a1_12 I Q:=by
 refine zb h func69 ntmps69 fun h=>?_;unfold pZ at h;refine z3 ?_;refine zA (wI rfl rfl) h fun u0 h=>?_;refine zA (qY rfl qM) h fun u1 h=>?_;refine z4 ?_;refine zf underlying57 ty9 ?_;refine zL underlying9 h fun u2 h=>?_;obtain⟨hc,h⟩:=h
 refine zm (ajM rfl rfl rfl hc) ?_;refine zp ?_;refine z4 ?_;refine zp ?_;refine zN h fun p3 h=>?_;refine zf underlying153 ac3 ?_;refine zL underlying61 h fun u4 h=>?_;refine zp ?_;refine zc func25 h ?_;rintro v I ⟨u5,u6,u7,u8,u9,u10,rfl,h⟩;iterate 4 refine zp ?_
 refine zA (qY rfl wA) h fun u11 h=>?_;refine zp ?_;refine zs wA h fun I h=>?_;refine zp ?_;refine z4 ?_;refine zf underlying57 ty9 ?_;refine zL underlying9 h fun u12 h=>?_;refine zc func99 h ?_;rintro v I ⟨u13,rfl,h⟩;refine zp ?_;refine wW 3 u13 [(0,.pointer a0),(3,.pointer (some ⟨u0,0,none⟩)),(4,.pointer (some ⟨u1,0,none⟩)),(5,.string ((⟨#[47]⟩:ByteArray)++u2)),(31,.bool (u13 && (decide (u10=70))))] ?_ ?_ ?_
 .intro e3 hk3
  refine zy e3 ?_;refine zy e3 ?_;refine zk e3 ?_;exact hk3 _ (Fe e3)
 .intro e3 hk3
  iterate 2 refine zn e3 ?_
  refine zk e3 ?_;exact hk3 _ (Fe e3)
 intro fr hl
 refine Lfr hl ?_
 refine zp ?_;refine z2 (AW.seq ?_)
 refine AW.drawn0 (fun i=>([0,0,0,3,0,3,0,3,0,3,2,0,0,0,0,0,0,0]:List Nat).getD i 2) [] [0,1,2,4,6,8,3,5,7,9,10,11,12,13,14,15,16,17] mixed (by decide+kernel) ?_
 refine zq ?_;obtain⟨p14,hc,h⟩:=h
 refine Dp rfl rfl rfl rfl (qr rfl (by rw[<-hc];try rfl)) ?_
 refine zg underlying153 agF ?_;refine zg underlying57 ty9 ?_;refine zg underlying57 ty3 ?_;refine zg underlying57 ty3 ?_;obtain⟨u15,hc,h⟩:=h
 refine Dr rfl rfl rfl rfl (qA rfl underlying150 rfl rfl hc) ?_
 obtain⟨u16,hc,h⟩:=h
 refine Dr rfl rfl rfl rfl (qA rfl underlying9 rfl rfl hc) ?_
 obtain⟨u17,hc,h⟩:=h
 refine Dr rfl rfl rfl rfl (qA rfl underlying3 rfl rfl hc) ?_
 obtain⟨u18,hc,h⟩:=h
 refine Dr rfl rfl rfl rfl (qA rfl underlying3 rfl rfl hc) ?_
 refine Dg rfl rfl rfl rfl (qF rfl func121 rfl rfl rfl (qc.mono h ?_))
 rintro v I ⟨u19,u20,u21,rfl,h⟩;iterate 7 refine zq ?_
 refine wH ?_
 refine qd (AW.seq (z3 ?_));iterate 2 refine zp ?_
 refine z2 ?_;refine AW.iff rfl (qu decide_eq_true_iff) h (fun h=>?_) (fun h=>?_)
 .refine z3 ?_;refine zp ?_;refine zc func72 h ?_;rintro v I ⟨u22,u23,u24,u25,u26,u27,u28,u29,u30,u31,u32,u33,rfl,h⟩;refine zs qM h fun I h=>?_;refine z2 ?_;refine AW.ret ?_;refine qi ?_;obtain⟨u34,u35,u36,u37,u38,u39,u40,u41,u42,u43,u44,u45,hc0,h⟩:=h
  exact xI results69 (wC (vV rfl underlying30 rfl qM hc0) vT) ⟨_,_,_,_,_,_,_,_,_,_,_,_,rfl,h⟩
 refine AW.skip ?_;refine qd ?_;refine AW.seqJ (fun fr I=>qo [(4,.pointer (some ⟨u1,0,none⟩)),(10,.int .i64 u19)] fr/\zx B ro u1 u19 Q I) ?_ ?_
 rotate_left
 .refine z3 ?_;refine zp ?_;refine z2 ?_;refine AW.iff rfl (acj Iff.rfl decide_eq_true_iff) h (fun h=>?_) (fun h=>?_)
  rotate_left
  .refine AW.skip ?_;refine qd ?_;exact⟨FL,h⟩
  refine AW.reg ?_;refine zp ?_;refine zN h fun p46 h=>?_;refine zf underlying153 ac3 ?_;refine zL underlying61 h fun u47 h=>?_;refine zp ?_;refine zc func122 h ?_;rintro v I ⟨u48,u49,rfl,h⟩;refine z2 ?_;exact⟨FL,h⟩
 rintro fr I ⟨hl,h⟩;refine AW.weaken ?_ hl (HLe.refl _)
 unfold zx at h;refine z3 ?_;refine zp ?_;refine zm (wz (vs:=[(1,.int .i64 u19)]) (cs:= #[.int .i64 0,.int .i64 u19,Sl.v (⟨none,0,0⟩:Sl),.int .i64 0,Sl.v (⟨none,0,0⟩:Sl),.int .i64 0,.int .i64 0,.int .i64 0,.int .i64 0,Sl.v (⟨none,0,0⟩:Sl),Sl.v (⟨none,0,0⟩:Sl),.int .i64 0]) rfl underlying30 qM aeX rfl (by kernel_rfl)) ?_;refine zs qM h fun I h=>?_
 refine z2 ?_;refine AW.ret ?_;obtain⟨u50,u51,u52,u53,u54,u55,u56,u57,u58,u59,u60,u61,hc0,h⟩:=h
 exact xI results69 (wC (vV rfl underlying30 rfl qM hc0) vT) ⟨_,_,_,_,_,_,_,_,_,_,_,_,rfl,h⟩
def acG(B:World)(ro:AH)(a0_0:Int)(a0_1:ByteArray)(a0_2 a0_3 a0_4 a0_5 a0_6 a0_7:Int)(a0_8:Sl)(a0_9:ByteArray)(a0_10:Bool)(a0_11:Int)(a0_12:Sl)(I:AH)(Q:ByteArray->Int->AH->Prop):=
 nw ro I (.cells #[.int .i64 a0_0,.string a0_1,.int .i64 a0_2,.int .i64 a0_3,.int .i64 a0_4,.int .i64 a0_5,.int .i64 a0_6,.int .i64 a0_7,Sl.v a0_8,.string a0_9,.bool a0_10,.int .i64 a0_11,Sl.v a0_12] 57) fun u0 I=>
 nw ro I (.cells #[.string ByteArray.empty,.int .i64 0] 81) fun u1 I=>
 ∃u2,qa ro I ((⟨u0,0,none⟩:Addr).add 1)=some (.string u2)/\
 ∃u3,qa ro I ((⟨u0,0,none⟩:Addr).add 2)=some (.int .i64 u3)/\
 stN ⟨u1,0,none⟩ (fun I=>
 ∃u4 u5,qg ro I ⟨u1,0,none⟩ 0 [.string u4,.int .i64 u5]/\
 Q u4 u5 I) [.string u2,.int .i64 u3] 0 I
theorem aiR{a0_0:Int}{a0_1:ByteArray}{a0_2 a0_3 a0_4 a0_5 a0_6 a0_7:Int}{a0_8:Sl}{a0_9:ByteArray}{a0_10:Bool}{a0_11:Int}{a0_12:Sl}{Q:ByteArray->Int->AH->Prop}(h:Sep ro I->acG B ro a0_0 a0_1 a0_2 a0_3 a0_4 a0_5 a0_6 a0_7 a0_8 a0_9 a0_10 a0_11 a0_12 I Q):vB B ro a0_0 a0_1 a0_2 a0_3 a0_4 a0_5 a0_6 a0_7 a0_8 a0_9 a0_10 a0_11 a0_12 I Q:=by
 refine zb h func71 ntmps71 fun h=>?_;unfold acG at h;refine z3 ?_;refine zA (wI rfl rfl) h fun u0 h=>?_;refine zA (qY rfl zX) h fun u1 h=>?_;refine z4 ?_;refine zf underlying57 ty9 ?_;refine zL underlying9 h fun u2 h=>?_;refine zf underlying57 ty3 ?_;refine zL underlying3 h fun u3 h=>?_;refine zm (wz (vs:=[(0,.string u2),(1,.int .i64 u3)]) (cs:= #[.string u2,.int .i64 u3]) rfl underlying81 zX asR rfl rfl) ?_
 refine zs zX h fun I h=>?_;refine z2 ?_;refine AW.ret ?_;obtain⟨u4,u5,hc0,h⟩:=h
 exact xI results71 (wC (vV rfl underlying81 rfl zX hc0) vT) ⟨_,_,rfl,h⟩
def aev(B:World)(ro:AH)(a0:Int)(I:AH)(Q:Int->Int->Sl->Int->Sl->Int->Int->Int->Int->Sl->Sl->Int->AH->Prop):=
 nw ro I (.cells #[.int .i64 0,.int .i64 0,Sl.v (⟨none,0,0⟩:Sl),.int .i64 0,Sl.v (⟨none,0,0⟩:Sl),.int .i64 0,.int .i64 0,.int .i64 0,.int .i64 0,Sl.v (⟨none,0,0⟩:Sl),Sl.v (⟨none,0,0⟩:Sl),.int .i64 0] 30) fun u0 I=>
 stN ⟨u0,0,none⟩ (fun I=>
 ∃u1 u2 u3 u4 u5 u6 u7 u8 u9 u10 u11 u12,qg ro I ⟨u0,0,none⟩ 0 [.int .i64 u1,.int .i64 u2,Sl.v u3,.int .i64 u4,Sl.v u5,.int .i64 u6,.int .i64 u7,.int .i64 u8,.int .i64 u9,Sl.v u10,Sl.v u11,.int .i64 u12]/\
 Q u1 u2 u3 u4 u5 u6 u7 u8 u9 u10 u11 u12 I) [.int .i64 a0,.int .i64 0,Sl.v (⟨none,0,0⟩:Sl),.int .i64 0,Sl.v (⟨none,0,0⟩:Sl),.int .i64 0,.int .i64 0,.int .i64 0,.int .i64 0,Sl.v (⟨none,0,0⟩:Sl),Sl.v (⟨none,0,0⟩:Sl),.int .i64 0] 0 I
theorem akW{a0:Int}{Q:Int->Int->Sl->Int->Sl->Int->Int->Int->Int->Sl->Sl->Int->AH->Prop}(h:Sep ro I->aev B ro a0 I Q):wK B ro a0 I Q:=by
 refine zb h func72 ntmps72 fun h=>?_;unfold aev at h;refine z3 ?_;refine zA (qY rfl qM) h fun u0 h=>?_;refine z4 ?_;refine zp ?_;refine zm (wz (vs:=[(0,.int .i64 a0)]) (cs:= #[.int .i64 a0,.int .i64 0,Sl.v (⟨none,0,0⟩:Sl),.int .i64 0,Sl.v (⟨none,0,0⟩:Sl),.int .i64 0,.int .i64 0,.int .i64 0,.int .i64 0,Sl.v (⟨none,0,0⟩:Sl),Sl.v (⟨none,0,0⟩:Sl),.int .i64 0]) rfl underlying30 qM aeX rfl (by kernel_rfl)) ?_
 refine zs qM h fun I h=>?_;refine z2 ?_;refine AW.ret ?_;obtain⟨u1,u2,u3,u4,u5,u6,u7,u8,u9,u10,u11,u12,hc0,h⟩:=h
 exact xI results72 (wC (vV rfl underlying30 rfl qM hc0) vT) ⟨_,_,_,_,_,_,_,_,_,_,_,_,rfl,h⟩
def aaI(B:World)(ro:AH)(a0:Option Addr)(a1_0:ByteArray)(a1_1:Int)(I:AH)(Q:AH->Prop):=
 nw ro I (.cells #[.string a1_0,.int .i64 a1_1] 81) fun u0 I=>
 ∃p1,a0=some p1/\
 ∃u2,qa ro I (p1.add 4)=some (.pointer u2)/\
 ∃u3 u4,qg ro I ⟨u0,0,none⟩ 0 [.string u3,.int .i64 u4]/\
 nw ro I (.cells #[.string u3,.int .i64 u4] 81) fun u5 I=>
 aco B ro u2 (⟨some ⟨u5,0,none⟩,1,1⟩:Sl) I fun I=>
 yP I fun ψ I=>
 ∃p6,a0=some p6/\
 ∃u7,qa (join ro ψ) (fun _=>none) (p6.add 4)=some (.pointer u7)/\
 ∃p8,a0=some p8/\
 ∃u9,qa (join ro ψ) I (p8.add 2)=some (.pointer u9)/\
 ∃u10,qa (join ro ψ) I ⟨u0,0,none⟩=some (.string u10)/\
 ∃u11,qa (join ro ψ) I ((⟨u0,0,none⟩:Addr).add 1)=some (.int .i64 u11)/\
 nw (join ro ψ) I (.cells #[.int .i64 u11] 3) fun u12 I=>
 aan B (join ro ψ) u9 u10 (⟨some ⟨u12,0,none⟩,1,1⟩:Sl) I fun u13 I=>
 uV B (join ro ψ) u7 u13 I fun u14 I=>
 (qP ψ I->(fun I=>
  Q I) (join ψ I))
theorem ahj{a0:Option Addr}{a1_0:ByteArray}{a1_1:Int}{Q:AH->Prop}(h:Sep ro I->aaI B ro a0 a1_0 a1_1 I Q):ph B ro a0 a1_0 a1_1 I Q:=by
 refine zb h func73 ntmps73 fun h=>?_;unfold aaI at h;refine z3 ?_;refine zA (wI rfl rfl) h fun u0 h=>?_;refine z2 (AW.seq ?_)
 refine AW.drawn0 (fun i=>([0,0,0,3,3,1,2]:List Nat).getD i 2) [(4,5),(4,6)] [0,1,2,3,4,5,6] mixed (by decide+kernel) ?_
 refine zq ?_;obtain⟨p1,hc,h⟩:=h
 refine Dp rfl rfl rfl rfl (qr rfl (by rw[<-hc];try rfl)) ?_
 refine zg underlying153 aeD ?_;obtain⟨u2,hc,h⟩:=h
 refine Dr rfl rfl rfl rfl (qA rfl underlying151 rfl rfl hc) ?_
 obtain⟨u3,u4,hc,h⟩:=h
 refine Dr rfl rfl rfl rfl (xH rfl underlying81 rfl zX rfl hc) ?_
 refine Da rfl rfl rfl rfl (zR (vs:=[(0,.agg #[.string u3,.int .i64 u4])]) (cs:= #[.string u3,.int .i64 u4]) rfl underlying178 zX (by decide) rfl rfl) fun u5 g1 g2=>?_
 replace h:=h u5 g1 g2
 refine Dg rfl rfl rfl rfl (qF rfl func124 rfl rfl rfl (qc.mono h ?_))
 rintro v I ⟨rfl,h⟩;refine wH ?_
 refine qd ?_;refine AW.drawnL (fun i=>([0,0,0,0,0,0,0,3,0,3,0,3,1,2,2]:List Nat).getD i 2) [(7,13),(7,14),(9,13),(9,14),(11,12),(11,13),(11,14),(12,13),(12,14)] [0,1,2,3,4,5,6,8,10,7,9,11,12,13,14] mixed h (by decide+kernel) ?_
 clear h
 intro ψ I h
 refine zq ?_;obtain⟨p6,hc,h⟩:=h
 refine Dp rfl rfl rfl rfl (qr rfl (by rw[<-hc];try rfl)) ?_
 refine zg underlying153 aeD ?_;obtain⟨u7,hc,h⟩:=h
 refine Dp rfl rfl rfl rfl (yQ rfl underlying151 rfl rfl hc) ?_
 refine zq ?_;obtain⟨p8,hc,h⟩:=h
 refine Dp rfl rfl rfl rfl (qr rfl (by rw[<-hc];try rfl)) ?_
 refine zg underlying153 ac3 ?_;refine zg underlying81 ty9 ?_;refine zg underlying81 ty3 ?_;obtain⟨u9,hc,h⟩:=h
 refine Dr rfl rfl rfl rfl (qA rfl underlying61 rfl rfl hc) ?_
 obtain⟨u10,hc,h⟩:=h
 refine Dr rfl rfl rfl rfl (qA rfl underlying9 rfl rfl hc) ?_
 obtain⟨u11,hc,h⟩:=h
 refine Dr rfl rfl rfl rfl (qA rfl underlying3 rfl rfl hc) ?_
 refine Da rfl rfl rfl rfl (zR (vs:=[(0,.int .i64 u11)]) (cs:= #[.int .i64 u11]) rfl underlying55 ty3 (by decide) rfl rfl) fun u12 g1 g2=>?_
 replace h:=h u12 g1 g2
 refine Dg rfl rfl rfl rfl (qF rfl func126 rfl rfl rfl (qc.mono h ?_))
 rintro v I ⟨u13,rfl,h⟩;refine Dg rfl rfl rfl rfl (qF rfl func125 rfl rfl rfl (qc.mono h ?_))
 rintro v I ⟨u14,rfl,h⟩;refine⟨_,zr.refl _,fun hdj=>?_⟩
 replace h:=h hdj
 exact bN0 results73 ⟨rfl,h⟩
def aah(B:World)(ro:AH)(a0:Option Addr)(a1_0:Int)(a1_1:ByteArray)(a1_2 a1_3 a1_4 a1_5 a1_6 a1_7:Int)(a1_8:Sl)(a1_9:ByteArray)(a1_10:Bool)(a1_11:Int)(a1_12:Sl)(I:AH)(Q:Int->Int->Sl->Int->Sl->Int->Int->Int->Int->Sl->Sl->Int->AH->Prop):=
 nw ro I (.cells #[.int .i64 a1_0,.string a1_1,.int .i64 a1_2,.int .i64 a1_3,.int .i64 a1_4,.int .i64 a1_5,.int .i64 a1_6,.int .i64 a1_7,Sl.v a1_8,.string a1_9,.bool a1_10,.int .i64 a1_11,Sl.v a1_12] 57) fun u0 I=>
 nw ro I (.cells #[.int .i64 0,.int .i64 0,Sl.v (⟨none,0,0⟩:Sl),.int .i64 0,Sl.v (⟨none,0,0⟩:Sl),.int .i64 0,.int .i64 0,.int .i64 0,.int .i64 0,Sl.v (⟨none,0,0⟩:Sl),Sl.v (⟨none,0,0⟩:Sl),.int .i64 0] 30) fun u1 I=>
 ∃u2,qa ro I ((⟨u0,0,none⟩:Addr).add 12)=some (Sl.v u2)/\
 xJ B ro u2 I fun u3 I=>
 if¬(u3=true)then
 wK B ro 190 I fun u4 u5 u6 u7 u8 u9 u10 u11 u12 u13 u14 u15 I=>
 stN ⟨u1,0,none⟩ (fun I=>
  ∃u16 u17 u18 u19 u20 u21 u22 u23 u24 u25 u26 u27,qg ro I ⟨u1,0,none⟩ 0 [.int .i64 u16,.int .i64 u17,Sl.v u18,.int .i64 u19,Sl.v u20,.int .i64 u21,.int .i64 u22,.int .i64 u23,.int .i64 u24,Sl.v u25,Sl.v u26,.int .i64 u27]/\
  Q u16 u17 u18 u19 u20 u21 u22 u23 u24 u25 u26 u27 I) [.int .i64 u4,.int .i64 u5,Sl.v u6,.int .i64 u7,Sl.v u8,.int .i64 u9,.int .i64 u10,.int .i64 u11,.int .i64 u12,Sl.v u13,Sl.v u14,.int .i64 u15] 0 I
 else
 ∃p28,a0=some p28/\
 ∃u29,qa ro I ((⟨u0,0,none⟩:Addr).add 11)=some (.int .i64 u29)/\
 ∃u30,qa ro I p28=some (.int .i64 u30)/\
 if¬(u29=u30)then
 wK B ro 191 I fun u31 u32 u33 u34 u35 u36 u37 u38 u39 u40 u41 u42 I=>
 stN ⟨u1,0,none⟩ (fun I=>
  ∃u43 u44 u45 u46 u47 u48 u49 u50 u51 u52 u53 u54,qg ro I ⟨u1,0,none⟩ 0 [.int .i64 u43,.int .i64 u44,Sl.v u45,.int .i64 u46,Sl.v u47,.int .i64 u48,.int .i64 u49,.int .i64 u50,.int .i64 u51,Sl.v u52,Sl.v u53,.int .i64 u54]/\
  Q u43 u44 u45 u46 u47 u48 u49 u50 u51 u52 u53 u54 I) [.int .i64 u31,.int .i64 u32,Sl.v u33,.int .i64 u34,Sl.v u35,.int .i64 u36,.int .i64 u37,.int .i64 u38,.int .i64 u39,Sl.v u40,Sl.v u41,.int .i64 u42] 0 I
 else
 yP I fun ψ I=>
 ∃p55,a0=some p55/\
 ∃u56,qa (join ro ψ) (fun _=>none) p55=some (.int .i64 u56)/\
 ∃u57,qa (join ro ψ) I ((⟨u0,0,none⟩:Addr).add 12)=some (Sl.v u57)/\
 xb B (join ro ψ) u57 I fun u58 I=>
 ∃p59,a0=some p59/\
 (qP ψ I->(fun I=>
  stN p59 (fun I=>
  ∃p60,a0=some p60/\
  stN (p60.add 1) (fun I=>
   ∃p61,a0=some p61/\
   ∃u62,qa ro I p61=some (.int .i64 u62)/\
   stN ⟨u1,0,none⟩ (fun I=>
   ∃u63 u64 u65 u66 u67 u68 u69 u70 u71 u72 u73 u74,qg ro I ⟨u1,0,none⟩ 0 [.int .i64 u63,.int .i64 u64,Sl.v u65,.int .i64 u66,Sl.v u67,.int .i64 u68,.int .i64 u69,.int .i64 u70,.int .i64 u71,Sl.v u72,Sl.v u73,.int .i64 u74]/\
   Q u63 u64 u65 u66 u67 u68 u69 u70 u71 u72 u73 u74 I) [.int .i64 0,.int .i64 0,Sl.v (⟨none,0,0⟩:Sl),.int .i64 0,Sl.v (⟨none,0,0⟩:Sl),.int .i64 0,.int .i64 0,.int .i64 0,.int .i64 0,Sl.v (⟨none,0,0⟩:Sl),Sl.v (⟨none,0,0⟩:Sl),.int .i64 u62] 0 I) [Sl.v u58] 0 I) [.int .i64 (i64.wrap (u56+1))] 0 I) (join ψ I))
theorem ago{a0:Option Addr}{a1_0:Int}{a1_1:ByteArray}{a1_2 a1_3 a1_4 a1_5 a1_6 a1_7:Int}{a1_8:Sl}{a1_9:ByteArray}{a1_10:Bool}{a1_11:Int}{a1_12:Sl}{Q:Int->Int->Sl->Int->Sl->Int->Int->Int->Int->Sl->Sl->Int->AH->Prop}(h:Sep ro I->aah B ro a0 a1_0 a1_1 a1_2 a1_3 a1_4 a1_5 a1_6 a1_7 a1_8 a1_9 a1_10 a1_11 a1_12 I Q):uT B ro a0 a1_0 a1_1 a1_2 a1_3 a1_4 a1_5 a1_6 a1_7 a1_8 a1_9 a1_10 a1_11 a1_12 I Q:=by
 refine zb h func74 ntmps74 fun h=>?_;unfold aah at h;refine z3 ?_;refine zA (wI rfl rfl) h fun u0 h=>?_;refine zA (qY rfl qM) h fun u1 h=>?_;refine z2 (AW.seq (AW.block (z3 ?_)))
 refine zf underlying57 ajh ?_;refine zL underlying55 h fun u2 h=>?_;refine zc func64 h ?_;rintro v I ⟨u3,rfl,h⟩;iterate 2 refine zp ?_
 refine z2 ?_;refine AW.iff rfl (qu Iff.rfl) h (fun h=>?_) (fun h=>?_)
 .refine z3 ?_;refine zc func72 h ?_;rintro v I ⟨u4,u5,u6,u7,u8,u9,u10,u11,u12,u13,u14,u15,rfl,h⟩;refine zs qM h fun I h=>?_;refine z2 ?_;refine AW.ret ?_;refine qx (qi ?_);obtain⟨u16,u17,u18,u19,u20,u21,u22,u23,u24,u25,u26,u27,hc0,h⟩:=h
  exact xI results74 (wC (vV rfl underlying30 rfl qM hc0) vT) ⟨_,_,_,_,_,_,_,_,_,_,_,_,rfl,h⟩
 refine AW.seq ?_;refine AW.drawn0 (fun i=>([0,3,0,0,0,0,3,0,0]:List Nat).getD i 2) [] [0,2,3,4,5,1,6,7,8] mixed (by decide+kernel) ?_
 refine zg underlying57 ty3 ?_;refine zq ?_;obtain⟨p28,hc,h⟩:=h
 refine Dp rfl rfl rfl rfl (qr rfl (by rw[<-hc];try rfl)) ?_
 refine zg underlying153 aeC ?_;refine zg underlying149 ty3 ?_;obtain⟨u29,hc,h⟩:=h
 refine Dr rfl rfl rfl rfl (qA rfl underlying3 rfl rfl hc) ?_
 obtain⟨u30,hc,h⟩:=h
 refine Dr rfl rfl rfl rfl (qA rfl underlying3 rfl rfl hc) ?_
 iterate 2 refine zq ?_
 refine wH ?_
 refine qd ?_;refine AW.iff rfl (qu decide_eq_true_iff) h (fun h=>?_) (fun h=>?_)
 .refine z3 ?_;refine zc func72 h ?_;rintro v I ⟨u31,u32,u33,u34,u35,u36,u37,u38,u39,u40,u41,u42,rfl,h⟩;refine zs qM h fun I h=>?_;refine z2 ?_;refine AW.ret ?_;refine qx (qi ?_);obtain⟨u43,u44,u45,u46,u47,u48,u49,u50,u51,u52,u53,u54,hc0,h⟩:=h
  exact xI results74 (wC (vV rfl underlying30 rfl qM hc0) vT) ⟨_,_,_,_,_,_,_,_,_,_,_,_,rfl,h⟩
 refine AW.skip ?_;refine qD (qd (AW.seq ?_));refine AW.drawn2 (fun i=>([0,0,0,0,0,0,0,0,0,3,2,0,0,0,2,0,0,0,2]:List Nat).getD i 2) [(8,9),(8,10),(8,11),(8,12),(8,13),(8,14),(9,10),(9,11),(9,12),(9,13),(9,14),(11,12),(11,13),(11,14),(12,13),(12,14)] [0,2,3,4,5,6,7,8,9,10,11,12,13] [1,14,15,16,17,18] mixed h (by decide+kernel) ?_
 clear h
 intro ψ I h
 iterate 2 refine zq ?_
 obtain⟨p55,hc,h⟩:=h
 refine Dp rfl rfl rfl rfl (qr rfl (by rw[<-hc];try rfl)) ?_
 refine zg underlying153 aeC ?_;refine zg underlying149 ty3 ?_;obtain⟨u56,hc,h⟩:=h
 refine Dp rfl rfl rfl rfl (yQ rfl underlying3 rfl rfl hc) ?_
 refine zq ?_;refine zg underlying57 ajh ?_;obtain⟨u57,hc,h⟩:=h
 refine Dr rfl rfl rfl rfl (qA rfl underlying55 rfl rfl hc) ?_
 refine Dg rfl rfl rfl rfl (qF rfl func65 rfl rfl rfl (qc.mono h ?_))
 rintro v I ⟨u58,rfl,h⟩;obtain⟨p59,hc,h⟩:=h
 refine Dp rfl rfl rfl rfl (qr rfl (by rw[<-hc];try rfl)) ?_
 refine zg underlying153 aeC ?_;refine zg underlying149 ty3 ?_;refine⟨_,zr.refl _,fun hdj=>?_⟩
 replace h:=h hdj
 refine zq ?_;refine Dg rfl rfl rfl rfl (yR rfl ty3 rfl rfl rfl rfl (zD h fun I h=>?_))
 obtain⟨p60,hc,h⟩:=h
 refine Dp rfl rfl rfl rfl (qr rfl (by rw[<-hc];try rfl)) ?_
 refine zg underlying153 aeC ?_;refine zg underlying149 ajh ?_;refine Dg rfl rfl rfl rfl (yR rfl ajh rfl rfl rfl rfl (zD h fun I h=>?_))
 refine wH ?_
 refine qd (z3 ?_);refine zp ?_;refine zN h fun p61 h=>?_;refine zf underlying153 aeC ?_;refine zf underlying149 ty3 ?_;refine zL underlying3 h fun u62 h=>?_;refine zm (wz (vs:=[(8,.int .i64 u62)]) (cs:= #[.int .i64 0,.int .i64 0,Sl.v (⟨none,0,0⟩:Sl),.int .i64 0,Sl.v (⟨none,0,0⟩:Sl),.int .i64 0,.int .i64 0,.int .i64 0,.int .i64 0,Sl.v (⟨none,0,0⟩:Sl),Sl.v (⟨none,0,0⟩:Sl),.int .i64 u62]) rfl underlying30 qM aeX rfl (by kernel_rfl)) ?_
 refine zs qM h fun I h=>?_;refine z2 ?_;refine AW.ret ?_;obtain⟨u63,u64,u65,u66,u67,u68,u69,u70,u71,u72,u73,u74,hc0,h⟩:=h
 exact xI results74 (wC (vV rfl underlying30 rfl qM hc0) vT) ⟨_,_,_,_,_,_,_,_,_,_,_,_,rfl,h⟩
def aai(B:World)(ro:AH)(a0:Option Addr)(a1_0:Int)(a1_1:ByteArray)(a1_2 a1_3 a1_4 a1_5 a1_6 a1_7:Int)(a1_8:Sl)(a1_9:ByteArray)(a1_10:Bool)(a1_11:Int)(a1_12:Sl)(I:AH)(Q:Int->Int->Sl->Int->Sl->Int->Int->Int->Int->Sl->Sl->Int->AH->Prop):=
 nw ro I (.cells #[.int .i64 a1_0,.string a1_1,.int .i64 a1_2,.int .i64 a1_3,.int .i64 a1_4,.int .i64 a1_5,.int .i64 a1_6,.int .i64 a1_7,Sl.v a1_8,.string a1_9,.bool a1_10,.int .i64 a1_11,Sl.v a1_12] 57) fun u0 I=>
 nw ro I (.cells #[.int .i64 0,.int .i64 0,Sl.v (⟨none,0,0⟩:Sl),.int .i64 0,Sl.v (⟨none,0,0⟩:Sl),.int .i64 0,.int .i64 0,.int .i64 0,.int .i64 0,Sl.v (⟨none,0,0⟩:Sl),Sl.v (⟨none,0,0⟩:Sl),.int .i64 0] 30) fun u1 I=>
 ∃u2 u3 u4 u5 u6 u7 u8 u9 u10 u11 u12 u13 u14,qg ro I ⟨u0,0,none⟩ 0 [.int .i64 u2,.string u3,.int .i64 u4,.int .i64 u5,.int .i64 u6,.int .i64 u7,.int .i64 u8,.int .i64 u9,Sl.v u10,.string u11,.bool u12,.int .i64 u13,Sl.v u14]/\
 vB B ro u2 u3 u4 u5 u6 u7 u8 u9 u10 u11 u12 u13 u14 I fun u15 u16 I=>
 nw ro I (.cells #[.string ByteArray.empty,.int .i64 0] 81) fun u17 I=>
 stN ⟨u17,0,none⟩ (fun I=>
 ∃p18,a0=some p18/\
 ∃u19,qa ro I (p18.add 3)=some (.pointer u19)/\
 ∃u20 u21,qg ro I ⟨u17,0,none⟩ 0 [.string u20,.int .i64 u21]/\
 ∃u22,qa ro I ((⟨u0,0,none⟩:Addr).add 3)=some (.int .i64 u22)/\
 uy B ro u19 u20 u21 u22 I fun u23 u24 u25 I=>
 if¬(u25=0)then
  wK B ro u25 I fun u26 u27 u28 u29 u30 u31 u32 u33 u34 u35 u36 u37 I=>
  stN ⟨u1,0,none⟩ (fun I=>
  ∃u38 u39 u40 u41 u42 u43 u44 u45 u46 u47 u48 u49,qg ro I ⟨u1,0,none⟩ 0 [.int .i64 u38,.int .i64 u39,Sl.v u40,.int .i64 u41,Sl.v u42,.int .i64 u43,.int .i64 u44,.int .i64 u45,.int .i64 u46,Sl.v u47,Sl.v u48,.int .i64 u49]/\
  Q u38 u39 u40 u41 u42 u43 u44 u45 u46 u47 u48 u49 I) [.int .i64 u26,.int .i64 u27,Sl.v u28,.int .i64 u29,Sl.v u30,.int .i64 u31,.int .i64 u32,.int .i64 u33,.int .i64 u34,Sl.v u35,Sl.v u36,.int .i64 u37] 0 I
 else
 if u24=true then
  acn B ro u23 I fun u50 u51 u52 u53 u54 u55 u56 u57 u58 u59 u60 u61 u62 I=>
  nw ro I (.cells #[.int .i64 0,.int .i64 0,Sl.v (⟨none,0,0⟩:Sl),.int .i64 0,Sl.v (⟨none,0,0⟩:Sl),.int .i64 0,.int .i64 0,.int .i64 0,.int .i64 0,Sl.v (⟨none,0,0⟩:Sl),Sl.v (⟨none,0,0⟩:Sl),.int .i64 0] 30) fun u63 I=>
  stN ⟨u63,0,none⟩ (fun I=>
  ∃p64,a0=some p64/\
  ∃u65,qa ro I (p64.add 4)=some (.pointer u65)/\
  ∃u66 u67,qg ro I ⟨u17,0,none⟩ 0 [.string u66,.int .i64 u67]/\
  xT B ro u65 u66 u67 I fun u68 I=>
  stN ((⟨u63,0,none⟩:Addr).add 10) (fun I=>
   ∃u69 u70 u71 u72 u73 u74 u75 u76 u77 u78 u79 u80,qg ro I ⟨u63,0,none⟩ 0 [.int .i64 u69,.int .i64 u70,Sl.v u71,.int .i64 u72,Sl.v u73,.int .i64 u74,.int .i64 u75,.int .i64 u76,.int .i64 u77,Sl.v u78,Sl.v u79,.int .i64 u80]/\
   stN ⟨u1,0,none⟩ (fun I=>
   ∃u81 u82 u83 u84 u85 u86 u87 u88 u89 u90 u91 u92,qg ro I ⟨u1,0,none⟩ 0 [.int .i64 u81,.int .i64 u82,Sl.v u83,.int .i64 u84,Sl.v u85,.int .i64 u86,.int .i64 u87,.int .i64 u88,.int .i64 u89,Sl.v u90,Sl.v u91,.int .i64 u92]/\
   Q u81 u82 u83 u84 u85 u86 u87 u88 u89 u90 u91 u92 I) [.int .i64 u69,.int .i64 u70,Sl.v u71,.int .i64 u72,Sl.v u73,.int .i64 u74,.int .i64 u75,.int .i64 u76,.int .i64 u77,Sl.v u78,Sl.v u79,.int .i64 u80] 0 I) [Sl.v u68] 0 I) [.int .i64 u50,.int .i64 u51,Sl.v u52,.int .i64 u53,Sl.v u54,.int .i64 u55,.int .i64 u56,.int .i64 u57,.int .i64 u58,Sl.v u59,Sl.v u60,.int .i64 u61] 0 I
 else
 ∃p93,a0=some p93/\
 ∃u94,qa ro I (p93.add 4)=some (.pointer u94)/\
 ∃u95 u96,qg ro I ⟨u17,0,none⟩ 0 [.string u95,.int .i64 u96]/\
 ∃u97,qa ro I ((⟨u0,0,none⟩:Addr).add 7)=some (.int .i64 u97)/\
 ac7 B ro u94 u95 u96 u97 I fun u98 I=>
 ∃u99,qa ro I ⟨u0,0,none⟩=some (.int .i64 u99)/\
 if u99=3 then
  ∃p100,a0=some p100/\
  ∃u101,qa ro I (p100.add 3)=some (.pointer u101)/\
  ∃u102 u103,qg ro I ⟨u17,0,none⟩ 0 [.string u102,.int .i64 u103]/\
  uz B ro u101 u102 u103 I fun u104 I=>
  ∃u105 u106,qg ro I ⟨u17,0,none⟩ 0 [.string u105,.int .i64 u106]/\
  ph B ro a0 u105 u106 I fun I=>
  stN ⟨u1,0,none⟩ (fun I=>
  ∃u107 u108 u109 u110 u111 u112 u113 u114 u115 u116 u117 u118,qg ro I ⟨u1,0,none⟩ 0 [.int .i64 u107,.int .i64 u108,Sl.v u109,.int .i64 u110,Sl.v u111,.int .i64 u112,.int .i64 u113,.int .i64 u114,.int .i64 u115,Sl.v u116,Sl.v u117,.int .i64 u118]/\
  Q u107 u108 u109 u110 u111 u112 u113 u114 u115 u116 u117 u118 I) [.int .i64 0,.int .i64 0,Sl.v (⟨none,0,0⟩:Sl),.int .i64 0,Sl.v (⟨none,0,0⟩:Sl),.int .i64 0,.int .i64 0,.int .i64 0,.int .i64 0,Sl.v (⟨none,0,0⟩:Sl),Sl.v (⟨none,0,0⟩:Sl),.int .i64 0] 0 I
 else
 ∃u119 u120 u121 u122 u123 u124 u125 u126 u127 u128 u129 u130 u131,qg ro I ⟨u0,0,none⟩ 0 [.int .i64 u119,.string u120,.int .i64 u121,.int .i64 u122,.int .i64 u123,.int .i64 u124,.int .i64 u125,.int .i64 u126,Sl.v u127,.string u128,.bool u129,.int .i64 u130,Sl.v u131]/\
 acp B ro a0 u119 u120 u121 u122 u123 u124 u125 u126 u127 u128 u129 u130 u131 I fun u132 u133 u134 u135 u136 u137 u138 u139 u140 u141 u142 u143 I=>
 nw ro I (.cells #[.int .i64 0,.int .i64 0,Sl.v (⟨none,0,0⟩:Sl),.int .i64 0,Sl.v (⟨none,0,0⟩:Sl),.int .i64 0,.int .i64 0,.int .i64 0,.int .i64 0,Sl.v (⟨none,0,0⟩:Sl),Sl.v (⟨none,0,0⟩:Sl),.int .i64 0] 30) fun u144 I=>
 stN ⟨u144,0,none⟩ (fun I=>
  ∃u145 u146 u147 u148 u149 u150 u151 u152 u153 u154 u155 u156,qg ro I ⟨u144,0,none⟩ 0 [.int .i64 u145,.int .i64 u146,Sl.v u147,.int .i64 u148,Sl.v u149,.int .i64 u150,.int .i64 u151,.int .i64 u152,.int .i64 u153,Sl.v u154,Sl.v u155,.int .i64 u156]/\
  acm B ro u145 u146 u147 u148 u149 u150 u151 u152 u153 u154 u155 u156 I fun u157 u158 I=>
  ∃p159,a0=some p159/\
  ∃u160,qa ro I (p159.add 3)=some (.pointer u160)/\
  ∃u161 u162,qg ro I ⟨u17,0,none⟩ 0 [.string u161,.int .i64 u162]/\
  ∃u163,qa ro I ((⟨u0,0,none⟩:Addr).add 3)=some (.int .i64 u163)/\
  pj B ro u160 u161 u162 u163 u157 I fun u164 I=>
  ∃p165,a0=some p165/\
  ∃u166,qa ro I (p165.add 4)=some (.pointer u166)/\
  ∃u167 u168,qg ro I ⟨u17,0,none⟩ 0 [.string u167,.int .i64 u168]/\
  xT B ro u166 u167 u168 I fun u169 I=>
  stN ((⟨u144,0,none⟩:Addr).add 10) (fun I=>
  ∃u170 u171 u172 u173 u174 u175 u176 u177 u178 u179 u180 u181,qg ro I ⟨u144,0,none⟩ 0 [.int .i64 u170,.int .i64 u171,Sl.v u172,.int .i64 u173,Sl.v u174,.int .i64 u175,.int .i64 u176,.int .i64 u177,.int .i64 u178,Sl.v u179,Sl.v u180,.int .i64 u181]/\
  stN ⟨u1,0,none⟩ (fun I=>
   ∃u182 u183 u184 u185 u186 u187 u188 u189 u190 u191 u192 u193,qg ro I ⟨u1,0,none⟩ 0 [.int .i64 u182,.int .i64 u183,Sl.v u184,.int .i64 u185,Sl.v u186,.int .i64 u187,.int .i64 u188,.int .i64 u189,.int .i64 u190,Sl.v u191,Sl.v u192,.int .i64 u193]/\
   Q u182 u183 u184 u185 u186 u187 u188 u189 u190 u191 u192 u193 I) [.int .i64 u170,.int .i64 u171,Sl.v u172,.int .i64 u173,Sl.v u174,.int .i64 u175,.int .i64 u176,.int .i64 u177,.int .i64 u178,Sl.v u179,Sl.v u180,.int .i64 u181] 0 I) [Sl.v u169] 0 I) [.int .i64 u132,.int .i64 u133,Sl.v u134,.int .i64 u135,Sl.v u136,.int .i64 u137,.int .i64 u138,.int .i64 u139,.int .i64 u140,Sl.v u141,Sl.v u142,.int .i64 u143] 0 I) [.string u15,.int .i64 u16] 0 I
theorem agp{a0:Option Addr}{a1_0:Int}{a1_1:ByteArray}{a1_2 a1_3 a1_4 a1_5 a1_6 a1_7:Int}{a1_8:Sl}{a1_9:ByteArray}{a1_10:Bool}{a1_11:Int}{a1_12:Sl}{Q:Int->Int->Sl->Int->Sl->Int->Int->Int->Int->Sl->Sl->Int->AH->Prop}(h:Sep ro I->aai B ro a0 a1_0 a1_1 a1_2 a1_3 a1_4 a1_5 a1_6 a1_7 a1_8 a1_9 a1_10 a1_11 a1_12 I Q):uU B ro a0 a1_0 a1_1 a1_2 a1_3 a1_4 a1_5 a1_6 a1_7 a1_8 a1_9 a1_10 a1_11 a1_12 I Q:=by
 refine zb h func75 ntmps75 fun h=>?_;unfold aai at h;refine z3 ?_;refine zA (wI rfl rfl) h fun u0 h=>?_;refine zA (qY rfl qM) h fun u1 h=>?_;refine z4 ?_;obtain⟨u2,u3,u4,u5,u6,u7,u8,u9,u10,u11,u12,u13,u14,hc,h⟩:=h
 refine zl (wY rfl underlying57 rfl aaY rfl hc ?_)
 refine zc func71 h ?_;rintro v I ⟨u15,u16,rfl,h⟩;refine zA (qY rfl zX) h fun u17 h=>?_;refine zs zX h fun I h=>?_;refine z2 (AW.seq ?_)
 refine AW.drawn0 (fun i=>([0,0,0,3,3,0,3,2,0,0,0,0,0,0,0]:List Nat).getD i 2) [] [0,1,2,5,3,4,6,7,8,9,10,11,12,13,14] mixed (by decide+kernel) ?_
 refine zq ?_;obtain⟨p18,hc,h⟩:=h
 refine Dp rfl rfl rfl rfl (qr rfl (by rw[<-hc];try rfl)) ?_
 refine zg underlying153 agF ?_;refine zg underlying57 ty3 ?_;obtain⟨u19,hc,h⟩:=h
 refine Dr rfl rfl rfl rfl (qA rfl underlying150 rfl rfl hc) ?_
 obtain⟨u20,u21,hc,h⟩:=h
 refine Dr rfl rfl rfl rfl (xH rfl underlying81 rfl zX rfl hc) ?_
 obtain⟨u22,hc,h⟩:=h
 refine Dr rfl rfl rfl rfl (qA rfl underlying3 rfl rfl hc) ?_
 refine Dg rfl rfl rfl rfl (qF rfl func127 rfl rfl rfl (qc.mono h ?_))
 rintro v I ⟨u23,u24,u25,rfl,h⟩;iterate 7 refine zq ?_
 refine wH ?_
 refine qd (AW.seq (z3 ?_));iterate 2 refine zp ?_
 refine z2 ?_;refine AW.iff rfl (qu decide_eq_true_iff) h (fun h=>?_) (fun h=>?_)
 .refine z3 ?_;refine zp ?_;refine zc func72 h ?_;rintro v I ⟨u26,u27,u28,u29,u30,u31,u32,u33,u34,u35,u36,u37,rfl,h⟩;refine zs qM h fun I h=>?_;refine z2 ?_;refine AW.ret ?_;refine qi ?_;obtain⟨u38,u39,u40,u41,u42,u43,u44,u45,u46,u47,u48,u49,hc0,h⟩:=h
  exact xI results75 (wC (vV rfl underlying30 rfl qM hc0) vT) ⟨_,_,_,_,_,_,_,_,_,_,_,_,rfl,h⟩
 refine AW.skip ?_;refine qd (AW.seq (z3 ?_));refine zp ?_;refine z2 ?_;refine zj h (fun h=>?_) fun h=>?_
 .refine z3 ?_;refine zp ?_;refine zc func15 h ?_;rintro v I ⟨u50,u51,u52,u53,u54,u55,u56,u57,u58,u59,u60,u61,u62,rfl,h⟩;iterate 3 refine zp ?_
  refine zA (qY rfl qM) h fun u63 h=>?_;refine zs qM h fun I h=>?_;refine zp ?_;refine z2 (AW.seq ?_)
  refine AW.drawn0 (fun i=>([0,0,0,3,3,2,0,2]:List Nat).getD i 2) [] [0,1,2,3,4,5,6,7] mixed (by decide+kernel) ?_
  refine zq ?_;obtain⟨p64,hc,h⟩:=h
  refine Dp rfl rfl rfl rfl (qr rfl (by rw[<-hc];try rfl)) ?_
  refine zg underlying153 aeD ?_;obtain⟨u65,hc,h⟩:=h
  refine Dr rfl rfl rfl rfl (qA rfl underlying151 rfl rfl hc) ?_
  obtain⟨u66,u67,hc,h⟩:=h
  refine Dr rfl rfl rfl rfl (xH rfl underlying81 rfl zX rfl hc) ?_
  refine Dg rfl rfl rfl rfl (qF rfl func128 rfl rfl rfl (qc.mono h ?_))
  rintro v I ⟨u68,rfl,h⟩;refine zg underlying30 uQ ?_;refine Dg rfl rfl rfl rfl (yR rfl uQ rfl rfl rfl rfl (zD h fun I h=>?_))
  refine wH ?_
  refine qd (z3 ?_);obtain⟨u69,u70,u71,u72,u73,u74,u75,u76,u77,u78,u79,u80,hc,h⟩:=h
  refine zl (wY rfl underlying30 rfl qM rfl hc ?_)
  refine zs qM h fun I h=>?_;refine z2 ?_;refine AW.ret ?_;refine qi ?_;obtain⟨u81,u82,u83,u84,u85,u86,u87,u88,u89,u90,u91,u92,hc0,h⟩:=h
  exact xI results75 (wC (vV rfl underlying30 rfl qM hc0) vT) ⟨_,_,_,_,_,_,_,_,_,_,_,_,rfl,h⟩
 refine AW.skip ?_;refine qd (AW.seq ?_);refine AW.drawn0 (fun i=>([0,0,0,3,3,0,3,2]:List Nat).getD i 2) [] [0,1,2,5,3,4,6,7] mixed (by decide+kernel) ?_
 refine zq ?_;obtain⟨p93,hc,h⟩:=h
 refine Dp rfl rfl rfl rfl (qr rfl (by rw[<-hc];try rfl)) ?_
 refine zg underlying153 aeD ?_;refine zg underlying57 ty3 ?_;obtain⟨u94,hc,h⟩:=h
 refine Dr rfl rfl rfl rfl (qA rfl underlying151 rfl rfl hc) ?_
 obtain⟨u95,u96,hc,h⟩:=h
 refine Dr rfl rfl rfl rfl (xH rfl underlying81 rfl zX rfl hc) ?_
 obtain⟨u97,hc,h⟩:=h
 refine Dr rfl rfl rfl rfl (qA rfl underlying3 rfl rfl hc) ?_
 refine Dg rfl rfl rfl rfl (qF rfl func129 rfl rfl rfl (qc.mono h ?_))
 rintro v I ⟨u98,rfl,h⟩;refine wH ?_
 refine qd (AW.seq (z3 ?_));refine zf underlying57 ty3 ?_;refine zL underlying3 h fun u99 h=>?_;refine zp ?_;refine z2 ?_;refine zi h (fun h=>?_) fun h=>?_
 .refine AW.seq ?_;refine AW.drawn0 (fun i=>([0,0,0,3,3,2]:List Nat).getD i 2) [] [0,1,2,3,4,5] mixed (by decide+kernel) ?_
  refine zq ?_;obtain⟨p100,hc,h⟩:=h
  refine Dp rfl rfl rfl rfl (qr rfl (by rw[<-hc];try rfl)) ?_
  refine zg underlying153 agF ?_;obtain⟨u101,hc,h⟩:=h
  refine Dr rfl rfl rfl rfl (qA rfl underlying150 rfl rfl hc) ?_
  obtain⟨u102,u103,hc,h⟩:=h
  refine Dr rfl rfl rfl rfl (xH rfl underlying81 rfl zX rfl hc) ?_
  refine Dg rfl rfl rfl rfl (qF rfl func130 rfl rfl rfl (qc.mono h ?_))
  rintro v I ⟨u104,rfl,h⟩;refine wH ?_
  refine qd (z3 ?_);refine zp ?_;obtain⟨u105,u106,hc,h⟩:=h
  refine zl (wY rfl underlying81 rfl zX rfl hc ?_)
  refine zc func73 h ?_;rintro v I ⟨rfl,h⟩;refine z4 ?_;refine zm (wz (vs:=[]) (cs:= #[.int .i64 0,.int .i64 0,Sl.v (⟨none,0,0⟩:Sl),.int .i64 0,Sl.v (⟨none,0,0⟩:Sl),.int .i64 0,.int .i64 0,.int .i64 0,.int .i64 0,Sl.v (⟨none,0,0⟩:Sl),Sl.v (⟨none,0,0⟩:Sl),.int .i64 0]) rfl underlying30 qM aeX rfl (by kernel_rfl)) ?_;refine zs qM h fun I h=>?_;refine z2 ?_
  refine AW.ret ?_;refine qi ?_;obtain⟨u107,u108,u109,u110,u111,u112,u113,u114,u115,u116,u117,u118,hc0,h⟩:=h
  exact xI results75 (wC (vV rfl underlying30 rfl qM hc0) vT) ⟨_,_,_,_,_,_,_,_,_,_,_,_,rfl,h⟩
 refine AW.skip ?_;refine qd (z3 ?_);refine zp ?_;obtain⟨u119,u120,u121,u122,u123,u124,u125,u126,u127,u128,u129,u130,u131,hc,h⟩:=h
 refine zl (wY rfl underlying57 rfl aaY rfl hc ?_)
 refine zc func131 h ?_;rintro v I ⟨u132,u133,u134,u135,u136,u137,u138,u139,u140,u141,u142,u143,rfl,h⟩;refine zA (qY rfl qM) h fun u144 h=>?_;refine zs qM h fun I h=>?_;refine z4 ?_;obtain⟨u145,u146,u147,u148,u149,u150,u151,u152,u153,u154,u155,u156,hc,h⟩:=h
 refine zl (wY rfl underlying30 rfl qM rfl hc ?_)
 refine zc func12 h ?_;rintro v I ⟨u157,u158,rfl,h⟩;iterate 5 refine zp ?_
 refine z2 (AW.seq ?_)
 refine AW.drawn0 (fun i=>([0,0,0,3,3,0,3,0,2]:List Nat).getD i 2) [] [0,1,2,5,7,3,4,6,8] mixed (by decide+kernel) ?_
 refine zq ?_;obtain⟨p159,hc,h⟩:=h
 refine Dp rfl rfl rfl rfl (qr rfl (by rw[<-hc];try rfl)) ?_
 refine zg underlying153 agF ?_;refine zg underlying57 ty3 ?_;refine zq ?_;obtain⟨u160,hc,h⟩:=h
 refine Dr rfl rfl rfl rfl (qA rfl underlying150 rfl rfl hc) ?_
 obtain⟨u161,u162,hc,h⟩:=h
 refine Dr rfl rfl rfl rfl (xH rfl underlying81 rfl zX rfl hc) ?_
 obtain⟨u163,hc,h⟩:=h
 refine Dr rfl rfl rfl rfl (qA rfl underlying3 rfl rfl hc) ?_
 refine Dg rfl rfl rfl rfl (qF rfl func132 rfl rfl rfl (qc.mono h ?_))
 rintro v I ⟨u164,rfl,h⟩;refine wH ?_
 refine qd (AW.seq ?_);refine AW.drawn0 (fun i=>([0,0,0,3,3,2,0,2]:List Nat).getD i 2) [] [0,1,2,3,4,5,6,7] mixed (by decide+kernel) ?_
 refine zq ?_;obtain⟨p165,hc,h⟩:=h
 refine Dp rfl rfl rfl rfl (qr rfl (by rw[<-hc];try rfl)) ?_
 refine zg underlying153 aeD ?_;obtain⟨u166,hc,h⟩:=h
 refine Dr rfl rfl rfl rfl (qA rfl underlying151 rfl rfl hc) ?_
 obtain⟨u167,u168,hc,h⟩:=h
 refine Dr rfl rfl rfl rfl (xH rfl underlying81 rfl zX rfl hc) ?_
 refine Dg rfl rfl rfl rfl (qF rfl func128 rfl rfl rfl (qc.mono h ?_))
 rintro v I ⟨u169,rfl,h⟩;refine zg underlying30 uQ ?_;refine Dg rfl rfl rfl rfl (yR rfl uQ rfl rfl rfl rfl (zD h fun I h=>?_))
 refine wH ?_
 refine qd (z3 ?_);obtain⟨u170,u171,u172,u173,u174,u175,u176,u177,u178,u179,u180,u181,hc,h⟩:=h
 refine zl (wY rfl underlying30 rfl qM rfl hc ?_)
 refine zs qM h fun I h=>?_;refine z2 ?_;refine AW.ret ?_;obtain⟨u182,u183,u184,u185,u186,u187,u188,u189,u190,u191,u192,u193,hc0,h⟩:=h
 exact xI results75 (wC (vV rfl underlying30 rfl qM hc0) vT) ⟨_,_,_,_,_,_,_,_,_,_,_,_,rfl,h⟩
def xZ(B:World)(ro:AH)(u0:Nat)(Q:Int->Int->Sl->Int->Sl->Int->Int->Int->Int->Sl->Sl->Int->AH->Prop)(I:AH):=
 stN ⟨u0,0,none⟩ (fun I=>
 ∃u1 u2 u3 u4 u5 u6 u7 u8 u9 u10 u11 u12,qg ro I ⟨u0,0,none⟩ 0 [.int .i64 u1,.int .i64 u2,Sl.v u3,.int .i64 u4,Sl.v u5,.int .i64 u6,.int .i64 u7,.int .i64 u8,.int .i64 u9,Sl.v u10,Sl.v u11,.int .i64 u12]/\
 Q u1 u2 u3 u4 u5 u6 u7 u8 u9 u10 u11 u12 I) [.int .i64 0,.int .i64 0,Sl.v (⟨none,0,0⟩:Sl),.int .i64 0,Sl.v (⟨none,0,0⟩:Sl),.int .i64 0,.int .i64 0,.int .i64 0,.int .i64 0,Sl.v (⟨none,0,0⟩:Sl),Sl.v (⟨none,0,0⟩:Sl),.int .i64 0] 0 I
def acH(B:World)(ro:AH)(a0:Option Addr)(a1_0:Int)(a1_1:ByteArray)(a1_2 a1_3 a1_4 a1_5 a1_6 a1_7:Int)(a1_8:Sl)(a1_9:ByteArray)(a1_10:Bool)(a1_11:Int)(a1_12:Sl)(I:AH)(Q:Int->Int->Sl->Int->Sl->Int->Int->Int->Int->Sl->Sl->Int->AH->Prop):=
 nw ro I (.cells #[.int .i64 a1_0,.string a1_1,.int .i64 a1_2,.int .i64 a1_3,.int .i64 a1_4,.int .i64 a1_5,.int .i64 a1_6,.int .i64 a1_7,Sl.v a1_8,.string a1_9,.bool a1_10,.int .i64 a1_11,Sl.v a1_12] 57) fun u0 I=>
 nw ro I (.cells #[.int .i64 0,.int .i64 0,Sl.v (⟨none,0,0⟩:Sl),.int .i64 0,Sl.v (⟨none,0,0⟩:Sl),.int .i64 0,.int .i64 0,.int .i64 0,.int .i64 0,Sl.v (⟨none,0,0⟩:Sl),Sl.v (⟨none,0,0⟩:Sl),.int .i64 0] 30) fun u1 I=>
 ∃u2,qa ro I ⟨u0,0,none⟩=some (.int .i64 u2)/\
 if u2=2 then
 yP I fun ψ I=>
  ∃p3,a0=some p3/\
  ∃u4,qa (join ro ψ) (fun _=>none) (p3.add 3)=some (.pointer u4)/\
  ∃u5 u6 u7 u8 u9 u10 u11 u12 u13 u14 u15 u16 u17,qg (join ro ψ) I ⟨u0,0,none⟩ 0 [.int .i64 u5,.string u6,.int .i64 u7,.int .i64 u8,.int .i64 u9,.int .i64 u10,.int .i64 u11,.int .i64 u12,Sl.v u13,.string u14,.bool u15,.int .i64 u16,Sl.v u17]/\
  vB B (join ro ψ) u5 u6 u7 u8 u9 u10 u11 u12 u13 u14 u15 u16 u17 I fun u18 u19 I=>
  nw (join ro ψ) I (.cells #[.string u18,.int .i64 u19] 81) fun u20 I=>
  uA B (join ro ψ) u4 (⟨some ⟨u20,0,none⟩,1,1⟩:Sl) I fun u21 I=>
  (qP ψ I->(fun I=>
  xZ B ro u1 Q I) (join ψ I))
 else
 if u2=5 then
 yP I fun ψ I=>
  ∃p22,a0=some p22/\
  ∃u23,qa (join ro ψ) (fun _=>none) (p22.add 2)=some (.pointer u23)/\
  ∃u24,qa (join ro ψ) (fun _=>none) ((⟨u0,0,none⟩:Addr).add 1)=some (.string u24)/\
  ∃u25,qa (join ro ψ) (fun _=>none) ((⟨u0,0,none⟩:Addr).add 2)=some (.int .i64 u25)/\
  ∃u26,qa (join ro ψ) (fun _=>none) ((⟨u0,0,none⟩:Addr).add 8)=some (Sl.v u26)/\
  aei B (join ro ψ) I fun u27 u28 I=>
  acb B (join ro ψ) u23 u24 u25 u27 u28 u26 I fun u29 u30 u31 u32 I=>
  nw (join ro ψ) I (.cells #[Sl.v (⟨none,0,0⟩:Sl),Sl.v (⟨none,0,0⟩:Sl),.int .i64 0] 348) fun u33 I=>
  stN ⟨u33,0,none⟩ (fun I=>
  (qP ψ I->(fun I=>
   ∃p34,a0=some p34/\
   ∃u35,qa ro I (p34.add 4)=some (.pointer u35)/\
   ∃u36,qa ro I ((⟨u33,0,none⟩:Addr).add 1)=some (Sl.v u36)/\
   uV B ro u35 u36 I fun u37 I=>
   ∃u38,qa ro I ⟨u33,0,none⟩=some (Sl.v u38)/\
   ∃u39,qa ro I ((⟨u33,0,none⟩:Addr).add 2)=some (.int .i64 u39)/\
   stN ⟨u1,0,none⟩ (fun I=>
   ∃u40 u41 u42 u43 u44 u45 u46 u47 u48 u49 u50 u51,qg ro I ⟨u1,0,none⟩ 0 [.int .i64 u40,.int .i64 u41,Sl.v u42,.int .i64 u43,Sl.v u44,.int .i64 u45,.int .i64 u46,.int .i64 u47,.int .i64 u48,Sl.v u49,Sl.v u50,.int .i64 u51]/\
   Q u40 u41 u42 u43 u44 u45 u46 u47 u48 u49 u50 u51 I) [.int .i64 u32,.int .i64 0,Sl.v u38,.int .i64 u39,Sl.v (⟨none,0,0⟩:Sl),.int .i64 0,.int .i64 0,.int .i64 0,.int .i64 0,Sl.v (⟨none,0,0⟩:Sl),Sl.v (⟨none,0,0⟩:Sl),.int .i64 0] 0 I) (join ψ I))) [Sl.v u29,Sl.v u30,.int .i64 u31] 0 I
 else
 if u2=6 then
 ∃u52 u53 u54 u55 u56 u57 u58 u59 u60 u61 u62 u63 u64,qg ro I ⟨u0,0,none⟩ 0 [.int .i64 u52,.string u53,.int .i64 u54,.int .i64 u55,.int .i64 u56,.int .i64 u57,.int .i64 u58,.int .i64 u59,Sl.v u60,.string u61,.bool u62,.int .i64 u63,Sl.v u64]/\
 abA B ro a0 u52 u53 u54 u55 u56 u57 u58 u59 u60 u61 u62 u63 u64 I fun u65 u66 u67 u68 u69 u70 u71 u72 u73 u74 u75 u76 I=>
 stN ⟨u1,0,none⟩ (fun I=>
  ∃u77 u78 u79 u80 u81 u82 u83 u84 u85 u86 u87 u88,qg ro I ⟨u1,0,none⟩ 0 [.int .i64 u77,.int .i64 u78,Sl.v u79,.int .i64 u80,Sl.v u81,.int .i64 u82,.int .i64 u83,.int .i64 u84,.int .i64 u85,Sl.v u86,Sl.v u87,.int .i64 u88]/\
  Q u77 u78 u79 u80 u81 u82 u83 u84 u85 u86 u87 u88 I) [.int .i64 u65,.int .i64 u66,Sl.v u67,.int .i64 u68,Sl.v u69,.int .i64 u70,.int .i64 u71,.int .i64 u72,.int .i64 u73,Sl.v u74,Sl.v u75,.int .i64 u76] 0 I
 else
 if u2=7 then
 ∃u89 u90 u91 u92 u93 u94 u95 u96 u97 u98 u99 u100 u101,qg ro I ⟨u0,0,none⟩ 0 [.int .i64 u89,.string u90,.int .i64 u91,.int .i64 u92,.int .i64 u93,.int .i64 u94,.int .i64 u95,.int .i64 u96,Sl.v u97,.string u98,.bool u99,.int .i64 u100,Sl.v u101]/\
 aa3 B ro a0 u89 u90 u91 u92 u93 u94 u95 u96 u97 u98 u99 u100 u101 I fun u102 u103 u104 u105 u106 u107 u108 u109 u110 u111 u112 u113 I=>
 stN ⟨u1,0,none⟩ (fun I=>
  ∃u114 u115 u116 u117 u118 u119 u120 u121 u122 u123 u124 u125,qg ro I ⟨u1,0,none⟩ 0 [.int .i64 u114,.int .i64 u115,Sl.v u116,.int .i64 u117,Sl.v u118,.int .i64 u119,.int .i64 u120,.int .i64 u121,.int .i64 u122,Sl.v u123,Sl.v u124,.int .i64 u125]/\
  Q u114 u115 u116 u117 u118 u119 u120 u121 u122 u123 u124 u125 I) [.int .i64 u102,.int .i64 u103,Sl.v u104,.int .i64 u105,Sl.v u106,.int .i64 u107,.int .i64 u108,.int .i64 u109,.int .i64 u110,Sl.v u111,Sl.v u112,.int .i64 u113] 0 I
 else
 xZ B ro u1 Q I
theorem aiS{a0:Option Addr}{a1_0:Int}{a1_1:ByteArray}{a1_2 a1_3 a1_4 a1_5 a1_6 a1_7:Int}{a1_8:Sl}{a1_9:ByteArray}{a1_10:Bool}{a1_11:Int}{a1_12:Sl}{Q:Int->Int->Sl->Int->Sl->Int->Int->Int->Int->Sl->Sl->Int->AH->Prop}(h:Sep ro I->acH B ro a0 a1_0 a1_1 a1_2 a1_3 a1_4 a1_5 a1_6 a1_7 a1_8 a1_9 a1_10 a1_11 a1_12 I Q):acp B ro a0 a1_0 a1_1 a1_2 a1_3 a1_4 a1_5 a1_6 a1_7 a1_8 a1_9 a1_10 a1_11 a1_12 I Q:=by
 refine zb h func131 ntmps131 fun h=>?_;unfold acH at h;refine z3 ?_;refine zA (wI rfl rfl) h fun u0 h=>?_;refine zA (qY rfl qM) h fun u1 h=>?_;refine z2 ?_;refine AW.seqJ (fun fr I=>qo [(4,.pointer (some ⟨u1,0,none⟩))] fr/\xZ B ro u1 Q I) ?_ ?_
 .rintro fr I ⟨hl,h⟩;refine AW.weaken ?_ hl (HLe.refl _)
  unfold xZ at h;refine z3 ?_;refine zm (wz (vs:=[]) (cs:= #[.int .i64 0,.int .i64 0,Sl.v (⟨none,0,0⟩:Sl),.int .i64 0,Sl.v (⟨none,0,0⟩:Sl),.int .i64 0,.int .i64 0,.int .i64 0,.int .i64 0,Sl.v (⟨none,0,0⟩:Sl),Sl.v (⟨none,0,0⟩:Sl),.int .i64 0]) rfl underlying30 qM aeX rfl (by kernel_rfl)) ?_;refine zs qM h fun I h=>?_;refine z2 ?_;refine AW.ret ?_
  obtain⟨u2,u3,u4,u5,u6,u7,u8,u9,u10,u11,u12,u13,hc0,h⟩:=h
  exact xI results131 (wC (vV rfl underlying30 rfl qM hc0) vT) ⟨_,_,_,_,_,_,_,_,_,_,_,_,rfl,h⟩
 refine z3 ?_;refine zf underlying57 ty3 ?_;refine zL underlying3 h fun u14 h=>?_;refine z2 (AW.block (z3 ?_))
 iterate 2 refine zp ?_
 refine z2 ?_;refine zi h (fun h=>?_) fun h=>?_
 .refine AW.drawnL (fun i=>([0,0,0,0,3,2,1,2]:List Nat).getD i 2) [(4,5),(4,6),(4,7)] [0,1,2,3,4,5,6,7] mixed h (by decide+kernel) ?_
  clear h
  intro ψ I h
  refine zq ?_;obtain⟨p15,hc,h⟩:=h
  refine Dp rfl rfl rfl rfl (qr rfl (by rw[<-hc];try rfl)) ?_
  refine zg underlying153 agF ?_;obtain⟨u16,hc,h⟩:=h
  refine Dp rfl rfl rfl rfl (yQ rfl underlying150 rfl rfl hc) ?_
  obtain⟨u17,u18,u19,u20,u21,u22,u23,u24,u25,u26,u27,u28,u29,hc,h⟩:=h
  refine Dr rfl rfl rfl rfl (xH rfl underlying57 rfl aaY rfl hc) ?_
  refine Dg rfl rfl rfl rfl (qF rfl func71 rfl rfl rfl (qc.mono h ?_))
  rintro v I ⟨u30,u31,rfl,h⟩;refine Da rfl rfl rfl rfl (zR (vs:=[(0,.agg #[.string u30,.int .i64 u31])]) (cs:= #[.string u30,.int .i64 u31]) rfl underlying178 zX (by decide) rfl rfl) fun u32 g1 g2=>?_
  replace h:=h u32 g1 g2
  refine Dg rfl rfl rfl rfl (qF rfl func188 rfl rfl rfl (qc.mono h ?_))
  rintro v I ⟨u33,rfl,h⟩;refine⟨_,zr.refl _,fun hdj=>?_⟩
  replace h:=h hdj
  refine qD (qd ?_);exact⟨FL,h⟩
 refine z3 ?_;iterate 2 refine zp ?_
 refine z2 ?_;refine zi h (fun h=>?_) fun h=>?_
 rotate_left
 .refine z3 ?_;iterate 2 refine zp ?_
  refine z2 ?_;refine zi h (fun h=>?_) fun h=>?_
  .refine z3 ?_;refine zp ?_;obtain⟨u34,u35,u36,u37,u38,u39,u40,u41,u42,u43,u44,u45,u46,hc,h⟩:=h
   refine zl (wY rfl underlying57 rfl aaY rfl hc ?_)
   refine zc func191 h ?_;rintro v I ⟨u47,u48,u49,u50,u51,u52,u53,u54,u55,u56,u57,u58,rfl,h⟩;refine zs qM h fun I h=>?_;refine z2 ?_;refine AW.ret ?_;refine qx (qi ?_);obtain⟨u59,u60,u61,u62,u63,u64,u65,u66,u67,u68,u69,u70,hc0,h⟩:=h
   exact xI results131 (wC (vV rfl underlying30 rfl qM hc0) vT) ⟨_,_,_,_,_,_,_,_,_,_,_,_,rfl,h⟩
  refine z3 ?_;iterate 2 refine zp ?_
  refine z2 ?_;refine zi h (fun h=>?_) fun h=>?_
  rotate_left
  .refine AW.skip ?_;refine qD (qd ?_);exact⟨FL,h⟩
  refine z3 ?_;refine zp ?_;obtain⟨u71,u72,u73,u74,u75,u76,u77,u78,u79,u80,u81,u82,u83,hc,h⟩:=h
  refine zl (wY rfl underlying57 rfl aaY rfl hc ?_)
  refine zc func192 h ?_;rintro v I ⟨u84,u85,u86,u87,u88,u89,u90,u91,u92,u93,u94,u95,rfl,h⟩;refine zs qM h fun I h=>?_;refine z2 ?_;refine AW.ret ?_;refine qx (qi ?_);obtain⟨u96,u97,u98,u99,u100,u101,u102,u103,u104,u105,u106,u107,hc0,h⟩:=h
  exact xI results131 (wC (vV rfl underlying30 rfl qM hc0) vT) ⟨_,_,_,_,_,_,_,_,_,_,_,_,rfl,h⟩
 refine AW.seq ?_;refine AW.drawnL (fun i=>([0,0,0,0,0,0,0,0,2,0,0,2,0,0,0,1,2,0]:List Nat).getD i 2) [] [0,1,2,3,4,5,6,7,9,10,8,11,12,13,14,15,16,17] mixed h (by decide+kernel) ?_
 clear h
 intro ψ I h
 refine zq ?_;obtain⟨p108,hc,h⟩:=h
 refine Dp rfl rfl rfl rfl (qr rfl (by rw[<-hc];try rfl)) ?_
 refine zg underlying153 ac3 ?_;obtain⟨u109,hc,h⟩:=h
 refine Dp rfl rfl rfl rfl (yQ rfl underlying61 rfl rfl hc) ?_
 refine zg underlying57 ty9 ?_;obtain⟨u110,hc,h⟩:=h
 refine Dp rfl rfl rfl rfl (yQ rfl underlying9 rfl rfl hc) ?_
 refine zg underlying57 ty3 ?_;obtain⟨u111,hc,h⟩:=h
 refine Dp rfl rfl rfl rfl (yQ rfl underlying3 rfl rfl hc) ?_
 refine zg underlying57 asQ ?_;obtain⟨u112,hc,h⟩:=h
 refine Dp rfl rfl rfl rfl (yQ rfl underlying54 rfl rfl hc) ?_
 refine Dg rfl rfl rfl rfl (qF rfl func190 rfl rfl rfl (qc.mono h ?_))
 rintro v I ⟨u113,u114,rfl,h⟩;refine Dg rfl rfl rfl rfl (qF rfl func189 rfl rfl rfl (qc.mono h ?_))
 rintro v I ⟨u115,u116,u117,u118,rfl,h⟩;iterate 3 refine zq ?_
 refine Da rfl rfl rfl rfl (qY rfl jg) fun u119 g1 g2=>?_
 replace h:=h u119 g1 g2
 refine Dg rfl rfl rfl rfl (yR rfl jg rfl rfl rfl rfl (zD h fun I h=>?_))
 refine zq ?_;refine⟨_,zr.refl _,fun hdj=>?_⟩
 replace h:=h hdj
 refine qd (AW.seq ?_);refine AW.drawn0 (fun i=>([0,0,0,3,0,3,2]:List Nat).getD i 2) [] [0,1,2,4,3,5,6] mixed (by decide+kernel) ?_
 refine zq ?_;obtain⟨p120,hc,h⟩:=h
 refine Dp rfl rfl rfl rfl (qr rfl (by rw[<-hc];try rfl)) ?_
 refine zg underlying153 aeD ?_;refine zg underlying348 agH ?_;obtain⟨u121,hc,h⟩:=h
 refine Dr rfl rfl rfl rfl (qA rfl underlying151 rfl rfl hc) ?_
 obtain⟨u122,hc,h⟩:=h
 refine Dr rfl rfl rfl rfl (qA rfl underlying258 rfl rfl hc) ?_
 refine Dg rfl rfl rfl rfl (qF rfl func125 rfl rfl rfl (qc.mono h ?_))
 rintro v I ⟨u123,rfl,h⟩;refine wH ?_
 refine qd (z3 ?_);refine zp ?_;refine zf underlying348 aee ?_;refine zL underlying23 h fun u124 h=>?_;refine zf underlying348 ty3 ?_;refine zL underlying3 h fun u125 h=>?_;refine zm (wz (vs:=[(0,.int .i64 u118),(2,Sl.v u124),(3,.int .i64 u125)]) (cs:= #[.int .i64 u118,.int .i64 0,Sl.v u124,.int .i64 u125,Sl.v (⟨none,0,0⟩:Sl),.int .i64 0,.int .i64 0,.int .i64 0,.int .i64 0,Sl.v (⟨none,0,0⟩:Sl),Sl.v (⟨none,0,0⟩:Sl),.int .i64 0]) rfl underlying30 qM aeX rfl (by kernel_rfl)) ?_
 refine zs qM h fun I h=>?_;refine z2 ?_;refine AW.ret ?_;refine qx (qi ?_);obtain⟨u126,u127,u128,u129,u130,u131,u132,u133,u134,u135,u136,u137,hc0,h⟩:=h
 exact xI results131 (wC (vV rfl underlying30 rfl qM hc0) vT) ⟨_,_,_,_,_,_,_,_,_,_,_,_,rfl,h⟩
def aew(B:World)(ro I:AH)(Q:Int->Int->AH->Prop):Prop:=
 nw ro I (.cells #[.int .i64 0,.int .i64 0] 66) fun u0 I=>
 stN ⟨u0,0,none⟩ (fun I=>
 ∃u1 u2,qg ro I ⟨u0,0,none⟩ 0 [.int .i64 u1,.int .i64 u2]/\
 Q u1 u2 I) [.int .i64 64,.int .i64 8192] 0 I
theorem akX{Q:Int->Int->AH->Prop}(h:Sep ro I->aew B ro I Q):aei B ro I Q:=by
 refine zb h func190 ntmps190 fun h=>?_;unfold aew at h;refine z3 ?_;refine zA (qY rfl acl) h fun u0 h=>?_;refine z4 ?_;refine zm (wz (vs:=[(0,.int .i64 64),(1,.int .i64 8192)]) (cs:= #[.int .i64 64,.int .i64 8192]) rfl underlying66 acl at4 rfl rfl) ?_;refine zs acl h fun I h=>?_;refine z2 ?_;refine AW.ret ?_;obtain⟨u1,u2,hc0,h⟩:=h
 exact xI results190 (wC (vV rfl underlying66 rfl acl hc0) vT) ⟨_,_,rfl,h⟩
def kl(B:World)(ro:AH)(a0:Option Addr)(u0 u1:Nat)(Q:Int->Int->Sl->Int->Sl->Int->Int->Int->Int->Sl->Sl->Int->AH->Prop)(I:AH):=
 ∃p2,a0=some p2/\
 ∃u3,qa ro I (p2.add 2)=some (.pointer u3)/\
 ∃u4,qa ro I ((⟨u0,0,none⟩:Addr).add 9)=some (.string u4)/\
 xj B ro u3 u4 I fun u5 u6 u7 u8 u9 u10 I=>
 nw ro I (.cells #[.int .i64 0,.int .i64 0,.int .i64 0,.int .i64 0] 26) fun u11 I=>
 stN ⟨u11,0,none⟩ (fun I=>
 ∃u12 u13 u14 u15,qg ro I ⟨u11,0,none⟩ 0 [.int .i64 u12,.int .i64 u13,.int .i64 u14,.int .i64 u15]/\
 stN ⟨u1,0,none⟩ (fun I=>
  ∃u16 u17 u18 u19 u20 u21 u22 u23 u24 u25 u26 u27,qg ro I ⟨u1,0,none⟩ 0 [.int .i64 u16,.int .i64 u17,Sl.v u18,.int .i64 u19,Sl.v u20,.int .i64 u21,.int .i64 u22,.int .i64 u23,.int .i64 u24,Sl.v u25,Sl.v u26,.int .i64 u27]/\
  Q u16 u17 u18 u19 u20 u21 u22 u23 u24 u25 u26 u27 I) [.int .i64 u10,.int .i64 0,Sl.v (⟨none,0,0⟩:Sl),.int .i64 0,Sl.v u5,.int .i64 u12,.int .i64 u13,.int .i64 u14,.int .i64 u15,Sl.v (⟨none,0,0⟩:Sl),Sl.v (⟨none,0,0⟩:Sl),.int .i64 0] 0 I) [.int .i64 u6,.int .i64 u7,.int .i64 u8,.int .i64 u9] 0 I
def abJ(B:World)(ro:AH)(a0:Option Addr)(a1_0:Int)(a1_1:ByteArray)(a1_2 a1_3 a1_4 a1_5 a1_6 a1_7:Int)(a1_8:Sl)(a1_9:ByteArray)(a1_10:Bool)(a1_11:Int)(a1_12:Sl)(I:AH)(Q:Int->Int->Sl->Int->Sl->Int->Int->Int->Int->Sl->Sl->Int->AH->Prop):=
 nw ro I (.cells #[.int .i64 a1_0,.string a1_1,.int .i64 a1_2,.int .i64 a1_3,.int .i64 a1_4,.int .i64 a1_5,.int .i64 a1_6,.int .i64 a1_7,Sl.v a1_8,.string a1_9,.bool a1_10,.int .i64 a1_11,Sl.v a1_12] 57) fun u0 I=>
 nw ro I (.cells #[.int .i64 0,.int .i64 0,Sl.v (⟨none,0,0⟩:Sl),.int .i64 0,Sl.v (⟨none,0,0⟩:Sl),.int .i64 0,.int .i64 0,.int .i64 0,.int .i64 0,Sl.v (⟨none,0,0⟩:Sl),Sl.v (⟨none,0,0⟩:Sl),.int .i64 0] 30) fun u1 I=>
 ∃u2 u3 u4 u5 u6 u7 u8 u9 u10 u11 u12 u13 u14,qg ro I ⟨u0,0,none⟩ 0 [.int .i64 u2,.string u3,.int .i64 u4,.int .i64 u5,.int .i64 u6,.int .i64 u7,.int .i64 u8,.int .i64 u9,Sl.v u10,.string u11,.bool u12,.int .i64 u13,Sl.v u14]/\
 aeF B ro u2 u3 u4 u5 u6 u7 u8 u9 u10 u11 u12 u13 u14 I fun u15 I=>
 if¬(u15=0)then
 wK B ro u15 I fun u16 u17 u18 u19 u20 u21 u22 u23 u24 u25 u26 u27 I=>
 stN ⟨u1,0,none⟩ (fun I=>
  ∃u28 u29 u30 u31 u32 u33 u34 u35 u36 u37 u38 u39,qg ro I ⟨u1,0,none⟩ 0 [.int .i64 u28,.int .i64 u29,Sl.v u30,.int .i64 u31,Sl.v u32,.int .i64 u33,.int .i64 u34,.int .i64 u35,.int .i64 u36,Sl.v u37,Sl.v u38,.int .i64 u39]/\
  Q u28 u29 u30 u31 u32 u33 u34 u35 u36 u37 u38 u39 I) [.int .i64 u16,.int .i64 u17,Sl.v u18,.int .i64 u19,Sl.v u20,.int .i64 u21,.int .i64 u22,.int .i64 u23,.int .i64 u24,Sl.v u25,Sl.v u26,.int .i64 u27] 0 I
 else
 ∃u40,qa ro I ((⟨u0,0,none⟩:Addr).add 10)=some (.bool u40)/\
 if u40=true then
 yP I fun ψ I=>
  ∃p41,a0=some p41/\
  ∃u42,qa (join ro ψ) (fun _=>none) (p41.add 4)=some (.pointer u42)/\
  ∃u43,qa (join ro ψ) (fun _=>none) ((⟨u0,0,none⟩:Addr).add 9)=some (.string u43)/\
  ∃u44 u45 u46 u47 u48 u49 u50 u51 u52 u53 u54 u55 u56,qg (join ro ψ) I ⟨u0,0,none⟩ 0 [.int .i64 u44,.string u45,.int .i64 u46,.int .i64 u47,.int .i64 u48,.int .i64 u49,.int .i64 u50,.int .i64 u51,Sl.v u52,.string u53,.bool u54,.int .i64 u55,Sl.v u56]/\
  vB B (join ro ψ) u44 u45 u46 u47 u48 u49 u50 u51 u52 u53 u54 u55 u56 I fun u57 u58 I=>
  pP B (join ro ψ) u42 u57 u58 1 u43 I fun u59 I=>
  (qP ψ I->(fun I=>
  if¬(u59=0)then
   wK B ro u59 I fun u60 u61 u62 u63 u64 u65 u66 u67 u68 u69 u70 u71 I=>
   stN ⟨u1,0,none⟩ (fun I=>
   ∃u72 u73 u74 u75 u76 u77 u78 u79 u80 u81 u82 u83,qg ro I ⟨u1,0,none⟩ 0 [.int .i64 u72,.int .i64 u73,Sl.v u74,.int .i64 u75,Sl.v u76,.int .i64 u77,.int .i64 u78,.int .i64 u79,.int .i64 u80,Sl.v u81,Sl.v u82,.int .i64 u83]/\
   Q u72 u73 u74 u75 u76 u77 u78 u79 u80 u81 u82 u83 I) [.int .i64 u60,.int .i64 u61,Sl.v u62,.int .i64 u63,Sl.v u64,.int .i64 u65,.int .i64 u66,.int .i64 u67,.int .i64 u68,Sl.v u69,Sl.v u70,.int .i64 u71] 0 I
  else
  kl B ro a0 u0 u1 Q I) (join ψ I))
 else
 kl B ro a0 u0 u1 Q I
theorem aik{a0:Option Addr}{a1_0:Int}{a1_1:ByteArray}{a1_2 a1_3 a1_4 a1_5 a1_6 a1_7:Int}{a1_8:Sl}{a1_9:ByteArray}{a1_10:Bool}{a1_11:Int}{a1_12:Sl}{Q:Int->Int->Sl->Int->Sl->Int->Int->Int->Int->Sl->Sl->Int->AH->Prop}(h:Sep ro I->abJ B ro a0 a1_0 a1_1 a1_2 a1_3 a1_4 a1_5 a1_6 a1_7 a1_8 a1_9 a1_10 a1_11 a1_12 I Q):abA B ro a0 a1_0 a1_1 a1_2 a1_3 a1_4 a1_5 a1_6 a1_7 a1_8 a1_9 a1_10 a1_11 a1_12 I Q:=by
 refine zb h func191 ntmps191 fun h=>?_;unfold abJ at h;refine z3 ?_;refine zA (wI rfl rfl) h fun u0 h=>?_;refine zA (qY rfl qM) h fun u1 h=>?_;refine z2 (AW.seq (z3 ?_))
 obtain⟨u2,u3,u4,u5,u6,u7,u8,u9,u10,u11,u12,u13,u14,hc,h⟩:=h
 refine zl (wY rfl underlying57 rfl aaY rfl hc ?_)
 refine zc func235 h ?_;rintro v I ⟨u15,rfl,h⟩;refine zp ?_;refine z4 ?_;iterate 2 refine zp ?_
 refine z2 ?_;refine AW.iff rfl (qu decide_eq_true_iff) h (fun h=>?_) (fun h=>?_)
 .refine z3 ?_;refine zp ?_;refine zc func72 h ?_;rintro v I ⟨u16,u17,u18,u19,u20,u21,u22,u23,u24,u25,u26,u27,rfl,h⟩;refine zs qM h fun I h=>?_;refine z2 ?_;refine AW.ret ?_;refine qi ?_;obtain⟨u28,u29,u30,u31,u32,u33,u34,u35,u36,u37,u38,u39,hc0,h⟩:=h
  exact xI results191 (wC (vV rfl underlying30 rfl qM hc0) vT) ⟨_,_,_,_,_,_,_,_,_,_,_,_,rfl,h⟩
 refine AW.skip ?_;refine qd ?_;refine AW.seqJ (fun fr I=>qo [(0,.pointer a0),(3,.pointer (some ⟨u0,0,none⟩)),(4,.pointer (some ⟨u1,0,none⟩))] fr/\kl B ro a0 u0 u1 Q I) ?_ ?_
 .rintro fr I ⟨hl,h⟩;refine AW.weaken ?_ hl (HLe.refl _)
  unfold kl at h;refine AW.seq ?_;refine AW.drawn0 (fun i=>([0,0,0,3,0,3,2,0,0,0,0,1,0,2,0]:List Nat).getD i 2) [] [0,1,2,4,3,5,6,7,8,9,10,11,12,13,14] mixed (by decide+kernel) ?_
  refine zq ?_;obtain⟨p40,hc,h⟩:=h
  refine Dp rfl rfl rfl rfl (qr rfl (by rw[<-hc];try rfl)) ?_
  refine zg underlying153 ac3 ?_;refine zg underlying57 ty9 ?_;obtain⟨u41,hc,h⟩:=h
  refine Dr rfl rfl rfl rfl (qA rfl underlying61 rfl rfl hc) ?_
  obtain⟨u42,hc,h⟩:=h
  refine Dr rfl rfl rfl rfl (qA rfl underlying9 rfl rfl hc) ?_
  refine Dg rfl rfl rfl rfl (qF rfl func25 rfl rfl rfl (qc.mono h ?_))
  rintro v I ⟨u43,u44,u45,u46,u47,u48,rfl,h⟩;iterate 4 refine zq ?_
  refine Da rfl rfl rfl rfl (qY rfl wA) fun u49 g1 g2=>?_
  replace h:=h u49 g1 g2
  refine zq ?_;refine Dg rfl rfl rfl rfl (yR rfl wA rfl rfl rfl rfl (zD h fun I h=>?_))
  refine zq ?_;refine wH ?_
  refine qd (z3 ?_);iterate 2 refine zp ?_
  obtain⟨u50,u51,u52,u53,hc,h⟩:=h
  refine zl (wY rfl underlying26 rfl wA rfl hc ?_)
  refine zm (wz (vs:=[(0,.int .i64 u48),(4,Sl.v u43),(5,.agg #[.int .i64 u50,.int .i64 u51,.int .i64 u52,.int .i64 u53])]) (cs:= #[.int .i64 u48,.int .i64 0,Sl.v (⟨none,0,0⟩:Sl),.int .i64 0,Sl.v u43,.int .i64 u50,.int .i64 u51,.int .i64 u52,.int .i64 u53,Sl.v (⟨none,0,0⟩:Sl),Sl.v (⟨none,0,0⟩:Sl),.int .i64 0]) rfl underlying30 qM aeX rfl (by kernel_rfl)) ?_;refine zs qM h fun I h=>?_
  refine z2 ?_;refine AW.ret ?_;obtain⟨u54,u55,u56,u57,u58,u59,u60,u61,u62,u63,u64,u65,hc0,h⟩:=h
  exact xI results191 (wC (vV rfl underlying30 rfl qM hc0) vT) ⟨_,_,_,_,_,_,_,_,_,_,_,_,rfl,h⟩
 refine z3 ?_;refine zf underlying57 ty4 ?_;refine zL underlying4 h fun u66 h=>?_;refine z2 ?_;refine zj h (fun h=>?_) fun h=>?_
 rotate_left
 .refine AW.skip ?_;refine qd ?_;exact⟨FL,h⟩
 refine AW.seq ?_;refine AW.drawnL (fun i=>([0,0,0,0,3,2,0,0,2,0]:List Nat).getD i 2) [(4,5),(4,8)] [0,1,2,3,6,7,4,5,8,9] mixed h (by decide+kernel) ?_
 clear h
 intro ψ I h
 refine zq ?_;obtain⟨p67,hc,h⟩:=h
 refine Dp rfl rfl rfl rfl (qr rfl (by rw[<-hc];try rfl)) ?_
 refine zg underlying153 aeD ?_;obtain⟨u68,hc,h⟩:=h
 refine Dp rfl rfl rfl rfl (yQ rfl underlying151 rfl rfl hc) ?_
 refine zg underlying57 ty9 ?_;obtain⟨u69,hc,h⟩:=h
 refine Dp rfl rfl rfl rfl (yQ rfl underlying9 rfl rfl hc) ?_
 obtain⟨u70,u71,u72,u73,u74,u75,u76,u77,u78,u79,u80,u81,u82,hc,h⟩:=h
 refine Dr rfl rfl rfl rfl (xH rfl underlying57 rfl aaY rfl hc) ?_
 refine Dg rfl rfl rfl rfl (qF rfl func71 rfl rfl rfl (qc.mono h ?_))
 rintro v I ⟨u83,u84,rfl,h⟩;refine Dg rfl rfl rfl rfl (qF rfl func236 rfl rfl rfl (qc.mono h ?_))
 rintro v I ⟨u85,rfl,h⟩;refine zq ?_;refine⟨_,zr.refl _,fun hdj=>?_⟩
 replace h:=h hdj
 refine qd (z3 ?_);iterate 2 refine zp ?_
 refine z2 ?_;refine AW.iff rfl (qu decide_eq_true_iff) h (fun h=>?_) (fun h=>?_)
 rotate_left
 .refine AW.skip ?_;refine qd ?_;exact⟨FL,h⟩
 refine z3 ?_;refine zp ?_;refine zc func72 h ?_;rintro v I ⟨u86,u87,u88,u89,u90,u91,u92,u93,u94,u95,u96,u97,rfl,h⟩;refine zs qM h fun I h=>?_;refine z2 ?_;refine AW.ret ?_;refine qi ?_;obtain⟨u98,u99,u100,u101,u102,u103,u104,u105,u106,u107,u108,u109,hc0,h⟩:=h
 exact xI results191 (wC (vV rfl underlying30 rfl qM hc0) vT) ⟨_,_,_,_,_,_,_,_,_,_,_,_,rfl,h⟩
def zV(B:World)(ro:AH)(u0:Nat)(u1:Sl)(u2:Int)(Q:Int->Int->Sl->Int->Sl->Int->Int->Int->Int->Sl->Sl->Int->AH->Prop)(I:AH):=
 stN ⟨u0,0,none⟩ (fun I=>
 ∃u3 u4 u5 u6 u7 u8 u9 u10 u11 u12 u13 u14,qg ro I ⟨u0,0,none⟩ 0 [.int .i64 u3,.int .i64 u4,Sl.v u5,.int .i64 u6,Sl.v u7,.int .i64 u8,.int .i64 u9,.int .i64 u10,.int .i64 u11,Sl.v u12,Sl.v u13,.int .i64 u14]/\
 Q u3 u4 u5 u6 u7 u8 u9 u10 u11 u12 u13 u14 I) [.int .i64 u2,.int .i64 0,Sl.v (⟨none,0,0⟩:Sl),.int .i64 0,Sl.v (⟨none,0,0⟩:Sl),.int .i64 0,.int .i64 0,.int .i64 0,.int .i64 0,Sl.v u1,Sl.v (⟨none,0,0⟩:Sl),.int .i64 0] 0 I
def ky(B:World)(ro:AH)(a0:Option Addr)(u0 u1:Nat)(u2:Sl)(u3:Int)(Q:Int->Int->Sl->Int->Sl->Int->Int->Int->Int->Sl->Sl->Int->AH->Prop)(u4:Bool)(I:AH):=
 if u4=true then
 yP I fun ψ I=>
  ∃p5,a0=some p5/\
  ∃u6,qa (join ro ψ) (fun _=>none) (p5.add 4)=some (.pointer u6)/\
  ∃u7,qa (join ro ψ) (fun _=>none) ((⟨u0,0,none⟩:Addr).add 9)=some (.string u7)/\
  ∃u8 u9 u10 u11 u12 u13 u14 u15 u16 u17 u18 u19 u20,qg (join ro ψ) I ⟨u0,0,none⟩ 0 [.int .i64 u8,.string u9,.int .i64 u10,.int .i64 u11,.int .i64 u12,.int .i64 u13,.int .i64 u14,.int .i64 u15,Sl.v u16,.string u17,.bool u18,.int .i64 u19,Sl.v u20]/\
  vB B (join ro ψ) u8 u9 u10 u11 u12 u13 u14 u15 u16 u17 u18 u19 u20 I fun u21 u22 I=>
  pP B (join ro ψ) u6 u21 u22 2 u7 I fun u23 I=>
  (qP ψ I->(fun I=>
  if¬(u23=0)then
   wK B ro u23 I fun u24 u25 u26 u27 u28 u29 u30 u31 u32 u33 u34 u35 I=>
   stN ⟨u1,0,none⟩ (fun I=>
   ∃u36 u37 u38 u39 u40 u41 u42 u43 u44 u45 u46 u47,qg ro I ⟨u1,0,none⟩ 0 [.int .i64 u36,.int .i64 u37,Sl.v u38,.int .i64 u39,Sl.v u40,.int .i64 u41,.int .i64 u42,.int .i64 u43,.int .i64 u44,Sl.v u45,Sl.v u46,.int .i64 u47]/\
   Q u36 u37 u38 u39 u40 u41 u42 u43 u44 u45 u46 u47 I) [.int .i64 u24,.int .i64 u25,Sl.v u26,.int .i64 u27,Sl.v u28,.int .i64 u29,.int .i64 u30,.int .i64 u31,.int .i64 u32,Sl.v u33,Sl.v u34,.int .i64 u35] 0 I
  else
  zV B ro u1 u2 u3 Q I) (join ψ I))
 else
 zV B ro u1 u2 u3 Q I
def abk(B:World)(ro:AH)(a0:Option Addr)(a1_0:Int)(a1_1:ByteArray)(a1_2 a1_3 a1_4 a1_5 a1_6 a1_7:Int)(a1_8:Sl)(a1_9:ByteArray)(a1_10:Bool)(a1_11:Int)(a1_12:Sl)(I:AH)(Q:Int->Int->Sl->Int->Sl->Int->Int->Int->Int->Sl->Sl->Int->AH->Prop):=
 nw ro I (.cells #[.int .i64 a1_0,.string a1_1,.int .i64 a1_2,.int .i64 a1_3,.int .i64 a1_4,.int .i64 a1_5,.int .i64 a1_6,.int .i64 a1_7,Sl.v a1_8,.string a1_9,.bool a1_10,.int .i64 a1_11,Sl.v a1_12] 57) fun u0 I=>
 nw ro I (.cells #[.int .i64 0,.int .i64 0,Sl.v (⟨none,0,0⟩:Sl),.int .i64 0,Sl.v (⟨none,0,0⟩:Sl),.int .i64 0,.int .i64 0,.int .i64 0,.int .i64 0,Sl.v (⟨none,0,0⟩:Sl),Sl.v (⟨none,0,0⟩:Sl),.int .i64 0] 30) fun u1 I=>
 ∃u2 u3 u4 u5 u6 u7 u8 u9 u10 u11 u12 u13 u14,qg ro I ⟨u0,0,none⟩ 0 [.int .i64 u2,.string u3,.int .i64 u4,.int .i64 u5,.int .i64 u6,.int .i64 u7,.int .i64 u8,.int .i64 u9,Sl.v u10,.string u11,.bool u12,.int .i64 u13,Sl.v u14]/\
 aeF B ro u2 u3 u4 u5 u6 u7 u8 u9 u10 u11 u12 u13 u14 I fun u15 I=>
 if¬(u15=0)then
 wK B ro u15 I fun u16 u17 u18 u19 u20 u21 u22 u23 u24 u25 u26 u27 I=>
 stN ⟨u1,0,none⟩ (fun I=>
  ∃u28 u29 u30 u31 u32 u33 u34 u35 u36 u37 u38 u39,qg ro I ⟨u1,0,none⟩ 0 [.int .i64 u28,.int .i64 u29,Sl.v u30,.int .i64 u31,Sl.v u32,.int .i64 u33,.int .i64 u34,.int .i64 u35,.int .i64 u36,Sl.v u37,Sl.v u38,.int .i64 u39]/\
  Q u28 u29 u30 u31 u32 u33 u34 u35 u36 u37 u38 u39 I) [.int .i64 u16,.int .i64 u17,Sl.v u18,.int .i64 u19,Sl.v u20,.int .i64 u21,.int .i64 u22,.int .i64 u23,.int .i64 u24,Sl.v u25,Sl.v u26,.int .i64 u27] 0 I
 else
 ∃p40,a0=some p40/\
 ∃u41,qa ro I (p40.add 2)=some (.pointer u41)/\
 ∃u42,qa ro I ((⟨u0,0,none⟩:Addr).add 9)=some (.string u42)/\
 uB B ro u41 u42 I fun u43 u44 I=>
 if u44=0 then
 ∃u45,qa ro I ((⟨u0,0,none⟩:Addr).add 10)=some (.bool u45)/\
 ky B ro a0 u0 u1 u43 u44 Q u45 I
 else
 ky B ro a0 u0 u1 u43 u44 Q false I
theorem ahE{a0:Option Addr}{a1_0:Int}{a1_1:ByteArray}{a1_2 a1_3 a1_4 a1_5 a1_6 a1_7:Int}{a1_8:Sl}{a1_9:ByteArray}{a1_10:Bool}{a1_11:Int}{a1_12:Sl}{Q:Int->Int->Sl->Int->Sl->Int->Int->Int->Int->Sl->Sl->Int->AH->Prop}(h:Sep ro I->abk B ro a0 a1_0 a1_1 a1_2 a1_3 a1_4 a1_5 a1_6 a1_7 a1_8 a1_9 a1_10 a1_11 a1_12 I Q):aa3 B ro a0 a1_0 a1_1 a1_2 a1_3 a1_4 a1_5 a1_6 a1_7 a1_8 a1_9 a1_10 a1_11 a1_12 I Q:=by
 refine zb h func192 ntmps192 fun h=>?_;unfold abk at h;refine z3 ?_;refine zA (wI rfl rfl) h fun u0 h=>?_;refine zA (qY rfl qM) h fun u1 h=>?_;refine z2 (AW.seq (z3 ?_))
 obtain⟨u2,u3,u4,u5,u6,u7,u8,u9,u10,u11,u12,u13,u14,hc,h⟩:=h
 refine zl (wY rfl underlying57 rfl aaY rfl hc ?_)
 refine zc func235 h ?_;rintro v I ⟨u15,rfl,h⟩;refine zp ?_;refine z4 ?_;iterate 2 refine zp ?_
 refine z2 ?_;refine AW.iff rfl (qu decide_eq_true_iff) h (fun h=>?_) (fun h=>?_)
 .refine z3 ?_;refine zp ?_;refine zc func72 h ?_;rintro v I ⟨u16,u17,u18,u19,u20,u21,u22,u23,u24,u25,u26,u27,rfl,h⟩;refine zs qM h fun I h=>?_;refine z2 ?_;refine AW.ret ?_;refine qi ?_;obtain⟨u28,u29,u30,u31,u32,u33,u34,u35,u36,u37,u38,u39,hc0,h⟩:=h
  exact xI results192 (wC (vV rfl underlying30 rfl qM hc0) vT) ⟨_,_,_,_,_,_,_,_,_,_,_,_,rfl,h⟩
 refine AW.skip ?_;refine qd (AW.seq ?_);refine AW.drawn0 (fun i=>([0,0,0,3,0,3,2,0,0,0,0,0]:List Nat).getD i 2) [] [0,1,2,4,3,5,6,7,8,9,10,11] mixed (by decide+kernel) ?_
 refine zq ?_;obtain⟨p40,hc,h⟩:=h
 refine Dp rfl rfl rfl rfl (qr rfl (by rw[<-hc];try rfl)) ?_
 refine zg underlying153 ac3 ?_;refine zg underlying57 ty9 ?_;obtain⟨u41,hc,h⟩:=h
 refine Dr rfl rfl rfl rfl (qA rfl underlying61 rfl rfl hc) ?_
 obtain⟨u42,hc,h⟩:=h
 refine Dr rfl rfl rfl rfl (qA rfl underlying9 rfl rfl hc) ?_
 refine Dg rfl rfl rfl rfl (qF rfl func237 rfl rfl rfl (qc.mono h ?_))
 rintro v I ⟨u43,u44,rfl,h⟩;iterate 5 refine zq ?_
 refine wH ?_
 refine qd ?_;refine AW.seqJ (fun fr I=>qo [(4,.pointer (some ⟨u1,0,none⟩)),(6,Sl.v u43),(7,.int .i64 u44)] fr/\zV B ro u1 u43 u44 Q I) ?_ ?_
 .rintro fr I ⟨hl,h⟩;refine AW.weaken ?_ hl (HLe.refl _)
  unfold zV at h;refine z3 ?_;iterate 2 refine zp ?_
  refine zm (wz (vs:=[(0,.int .i64 u44),(6,Sl.v u43)]) (cs:= #[.int .i64 u44,.int .i64 0,Sl.v (⟨none,0,0⟩:Sl),.int .i64 0,Sl.v (⟨none,0,0⟩:Sl),.int .i64 0,.int .i64 0,.int .i64 0,.int .i64 0,Sl.v u43,Sl.v (⟨none,0,0⟩:Sl),.int .i64 0]) rfl underlying30 qM aeX rfl (by kernel_rfl)) ?_;refine zs qM h fun I h=>?_;refine z2 ?_;refine AW.ret ?_;obtain⟨u45,u46,u47,u48,u49,u50,u51,u52,u53,u54,u55,u56,hc0,h⟩:=h
  exact xI results192 (wC (vV rfl underlying30 rfl qM hc0) vT) ⟨_,_,_,_,_,_,_,_,_,_,_,_,rfl,h⟩
 refine z3 ?_;iterate 3 refine zp ?_
 refine qO 3 (decide (u44=0)) decide_eq_true_iff h (fun fr I=> ∃(u57:Bool),qo [(0,.pointer a0),(3,.pointer (some ⟨u0,0,none⟩)),(4,.pointer (some ⟨u1,0,none⟩)),(6,Sl.v u43),(7,.int .i64 u44),(30,.bool u57)] fr/\ky B ro a0 u0 u1 u43 u44 Q u57 I) ?_ ?_ ?_
 .intro h e2 hk2;refine qX (wm rfl underlying57 rfl ty4 (by decide) rfl) rfl rfl rfl rfl e2 ?_
  obtain⟨u58,hc,h⟩:=h
  refine Lyb rfl rfl rfl rfl e2 (vG rfl underlying4 rfl rfl hc ?_)
  refine zk e2 ?_;exact hk2 _ _ ⟨_,FL,h⟩
 .intro h e2 hk2;iterate 2 refine zn e2 ?_
  refine zk e2 ?_;exact hk2 _ _ ⟨_,FL,h⟩
 rintro fr I ⟨u57,hl,h⟩;unfold ky at h;refine Lfr hl ?_
 refine z2 ?_;refine zj h (fun h=>?_) fun h=>?_
 rotate_left
 .refine AW.skip ?_;refine qd ?_;exact⟨FL,h⟩
 refine AW.seq ?_;refine AW.drawnL (fun i=>([0,0,0,0,3,2,0,0,2,0]:List Nat).getD i 2) [(4,5),(4,8)] [0,1,2,3,6,7,4,5,8,9] mixed h (by decide+kernel) ?_
 clear h
 intro ψ I h
 refine zq ?_;obtain⟨p59,hc,h⟩:=h
 refine Dp rfl rfl rfl rfl (qr rfl (by rw[<-hc];try rfl)) ?_
 refine zg underlying153 aeD ?_;obtain⟨u60,hc,h⟩:=h
 refine Dp rfl rfl rfl rfl (yQ rfl underlying151 rfl rfl hc) ?_
 refine zg underlying57 ty9 ?_;obtain⟨u61,hc,h⟩:=h
 refine Dp rfl rfl rfl rfl (yQ rfl underlying9 rfl rfl hc) ?_
 obtain⟨u62,u63,u64,u65,u66,u67,u68,u69,u70,u71,u72,u73,u74,hc,h⟩:=h
 refine Dr rfl rfl rfl rfl (xH rfl underlying57 rfl aaY rfl hc) ?_
 refine Dg rfl rfl rfl rfl (qF rfl func71 rfl rfl rfl (qc.mono h ?_))
 rintro v I ⟨u75,u76,rfl,h⟩;refine Dg rfl rfl rfl rfl (qF rfl func236 rfl rfl rfl (qc.mono h ?_))
 rintro v I ⟨u77,rfl,h⟩;refine zq ?_;refine⟨_,zr.refl _,fun hdj=>?_⟩
 replace h:=h hdj
 refine qd (z3 ?_);iterate 2 refine zp ?_
 refine z2 ?_;refine AW.iff rfl (qu decide_eq_true_iff) h (fun h=>?_) (fun h=>?_)
 rotate_left
 .refine AW.skip ?_;refine qd ?_;exact⟨FL,h⟩
 refine z3 ?_;refine zp ?_;refine zc func72 h ?_;rintro v I ⟨u78,u79,u80,u81,u82,u83,u84,u85,u86,u87,u88,u89,rfl,h⟩;refine zs qM h fun I h=>?_;refine z2 ?_;refine AW.ret ?_;refine qi ?_;obtain⟨u90,u91,u92,u93,u94,u95,u96,u97,u98,u99,u100,u101,hc0,h⟩:=h
 exact xI results192 (wC (vV rfl underlying30 rfl qM hc0) vT) ⟨_,_,_,_,_,_,_,_,_,_,_,_,rfl,h⟩
def aax(B:World)(ro:AH)(u0:Int)(Q:Int->AH->Prop)(u1:Bool)(I:AH):=
 if u1=true then
 Q 82 I
 else
 Q u0 I
def ahk(B:World)(ro:AH)(a0_0:Int)(a0_1:ByteArray)(a0_2 a0_3 a0_4 a0_5 a0_6 a0_7:Int)(a0_8:Sl)(a0_9:ByteArray)(a0_10:Bool)(a0_11:Int)(a0_12:Sl)(I:AH)(Q:Int->AH->Prop):=
 nw ro I (.cells #[.int .i64 a0_0,.string a0_1,.int .i64 a0_2,.int .i64 a0_3,.int .i64 a0_4,.int .i64 a0_5,.int .i64 a0_6,.int .i64 a0_7,Sl.v a0_8,.string a0_9,.bool a0_10,.int .i64 a0_11,Sl.v a0_12] 57) fun u0 I=>
 ∃u1,qa ro I ((⟨u0,0,none⟩:Addr).add 9)=some (.string u1)/\
 yD B ro u1 I fun u2 u3 I=>
 if u3=0 then
 ∃u4,qa ro I ((⟨u0,0,none⟩:Addr).add 1)=some (.string u4)/\
 aax B ro u3 Q (!(decide (u2=u4))) I
 else
 aax B ro u3 Q false I
theorem ang{a0_0:Int}{a0_1:ByteArray}{a0_2 a0_3 a0_4 a0_5 a0_6 a0_7:Int}{a0_8:Sl}{a0_9:ByteArray}{a0_10:Bool}{a0_11:Int}{a0_12:Sl}{Q:Int->AH->Prop}(h:Sep ro I->ahk B ro a0_0 a0_1 a0_2 a0_3 a0_4 a0_5 a0_6 a0_7 a0_8 a0_9 a0_10 a0_11 a0_12 I Q):aeF B ro a0_0 a0_1 a0_2 a0_3 a0_4 a0_5 a0_6 a0_7 a0_8 a0_9 a0_10 a0_11 a0_12 I Q:=by
 refine zb h func235 ntmps235 fun h=>?_;unfold ahk at h;refine z3 ?_;refine zA (wI rfl rfl) h fun u0 h=>?_;refine zp ?_;refine z4 ?_;refine zf underlying57 ty9 ?_;refine zL underlying9 h fun u1 h=>?_;refine zc func81 h ?_;rintro v I ⟨u2,u3,rfl,h⟩;iterate 5 refine zp ?_
 refine z2 (AW.seq (z3 ?_))
 iterate 3 refine zp ?_
 refine qO 5 (decide (u3=0)) decide_eq_true_iff h (fun fr I=> ∃(u4:Bool),qo [(4,.int .i64 u3),(18,.bool u4)] fr/\aax B ro u3 Q u4 I) ?_ ?_ ?_
 .intro h e2 hk2;refine zy e2 ?_;refine qX (wm rfl underlying57 rfl ty9 (by decide) rfl) rfl rfl rfl rfl e2 ?_
  obtain⟨u5,hc,h⟩:=h
  refine Lyb rfl rfl rfl rfl e2 (vG rfl underlying9 rfl rfl hc ?_)
  refine qX (ajL rfl rfl rfl) rfl rfl rfl rfl e2 ?_
  refine zk e2 ?_;exact hk2 _ _ ⟨_,FL,h⟩
 .intro h e2 hk2;iterate 4 refine zn e2 ?_
  refine zk e2 ?_;exact hk2 _ _ ⟨_,FL,h⟩
 rintro fr I ⟨u4,hl,h⟩;unfold aax at h;refine Lfr hl ?_
 refine z2 ?_;refine zj h (fun h=>?_) fun h=>?_
 .refine z3 ?_;refine zp ?_;refine z2 ?_;refine AW.ret ?_;refine qi ?_;exact bR1 results235 rfl ⟨_,rfl,h⟩
 refine AW.skip ?_;refine qd (z3 ?_);iterate 2 refine zp ?_
 refine z2 ?_;refine AW.ret ?_;exact bR1 results235 rfl ⟨_,rfl,h⟩