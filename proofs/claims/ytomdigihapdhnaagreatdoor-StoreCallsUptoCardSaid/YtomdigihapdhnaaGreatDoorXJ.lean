import Derived.Test.YtomdigihapdhnaaGreatDoorXI
set_option linter.all false
set_option maxRecDepth 99999
set_option maxHeartbeats 0
open Go.IntKind(i64)
open Go.Proofs.Tryz
namespace Go.Proofs.YtomdigihapdhnaaGreatDoor
namespace G
open Go SL
variable{B:World}{ro I:AH}
def vw(B:World)(ro:AH)(Q:Bool->AH->Prop)(u0:Bool)(I:AH):=
 Q u0 I
def vy(B:World)(ro:AH)(Q:Bool->AH->Prop)(u0:Bool)(I:AH):=
 if u0=true then
 uo B ro I fun u1 I=>
 vw B ro Q u1 I
 else
 vw B ro Q false I
def vz(B:World)(ro:AH)(u0:Nat)(Q:Bool->AH->Prop)(u1:Bool)(I:AH):=
 if u1=true then
 ∃u2,qa ro I ((⟨u0,0,none⟩:Addr).add 2)=some (Sl.v u2)/\
 vy B ro Q (decide ((u2.len:Int)=0)) I
 else
 vy B ro Q false I
def vA(B:World)(ro:AH)(Q:Bool->AH->Prop)(u0:Bool)(I:AH):=
 Q u0 I
def zO(B:World)(ro:AH)(Q:Bool->AH->Prop)(u0:Bool)(I:AH):=
 if u0=true then
 uo B ro I fun u1 I=>
 vA B ro Q u1 I
 else
 vA B ro Q false I
def vB(B:World)(ro:AH)(u0:Bool)(Q:Bool->AH->Prop)(u1:Bool)(I:AH):=
 zO B ro Q u1 I
def vC(B:World)(ro:AH)(u0 u1:Nat)(u2:Bool)(Q:Bool->AH->Prop)(u3:Bool)(I:AH):=
 if u3=true then
 ∃u4,qa ro I ((⟨u1,0,none⟩:Addr).add 1)=some (.string u4)/\
 ∃u5,qa ro I ((⟨u0,0,none⟩:Addr).add 1)=some (.string u5)/\
 vB B ro u2 Q (decide (u4=u5)) I
 else
 vB B ro u2 Q false I
def zP(B:World)(ro:AH)(u0 u1:Nat)(Q:Bool->AH->Prop)(u2:Bool)(I:AH):=
 if u2=true then
 zO B ro Q true I
 else
 ∃u3,qa ro I ⟨u0,0,none⟩=some (.int .i64 u3)/\
 if¬(u3=8)then
 ∃u4,qa ro I ⟨u1,0,none⟩=some (.int .i64 u4)/\
 vC B ro u0 u1 u2 Q (decide (u4=1)) I
 else
 vC B ro u0 u1 u2 Q false I
def zQ(B:World)(ro:AH)(u0 u1:Nat)(Q:Bool->AH->Prop)(u2:Bool)(I:AH):=
 if u2=true then
 ∃u3,qa ro I ((⟨u1,0,none⟩:Addr).add 1)=some (.string u3)/\
 zP B ro u0 u1 Q (decide (u3=(⟨#[]⟩:ByteArray))) I
 else
 zP B ro u0 u1 Q false I
def wF(B:World)(ro:AH)(u0 u1:Nat)(Q:Bool->AH->Prop)(u2:Bool)(I:AH):=
 if u2=true then
 Q false I
 else
 ∃u3,qa ro I ⟨u0,0,none⟩=some (.int .i64 u3)/\
 if u3=8 then
 ∃u4,qa ro I ⟨u1,0,none⟩=some (.int .i64 u4)/\
 zQ B ro u0 u1 Q (decide (u4=2)) I
 else
 zQ B ro u0 u1 Q false I
def wv(B:World)(ro:AH)(u0 u1:Nat)(u2 u3:Sl)(u4:Int)(Q:Bool->AH->Prop)(u5:Bool)(I:AH):=
 if u5=true then
 if u4=170 then
  ∃u6,qa ro I ⟨u1,0,none⟩=some (.int .i64 u6)/\
  vz B ro u1 Q (decide (u6=0)) I
 else
 vz B ro u1 Q false I
 else
 kG B ro u2 I fun u7 u8 u9 u10 u11 u12 u13 u14 u15 u16 u17 u18 u19 u20 I=>
 nw ro I (.cells #[.int .i64 0,.string ByteArray.empty,.int .i64 0,.int .i64 0,.int .i64 0,.int .i64 0,.int .i64 0,.int .i64 0,Sl.v (⟨none,0,0⟩:Sl),.string ByteArray.empty,.bool false,.int .i64 0,Sl.v (⟨none,0,0⟩:Sl)] 57) fun u21 I=>
 stN ⟨u21,0,none⟩ (fun I=>
 pn I fun U I=>
  if¬(u20=0)then
  (qz U I->(fun I=>
   wF B ro u0 u1 Q true I) (join U I))
  else
  ∃u22 u23 u24 u25 u26 u27 u28 u29 u30 u31 u32 u33 u34,qj (join ro U) (fun _=>none) ⟨u0,0,none⟩ 0 [.int .i64 u22,.string u23,.int .i64 u24,.int .i64 u25,.int .i64 u26,.int .i64 u27,.int .i64 u28,.int .i64 u29,Sl.v u30,.string u31,.bool u32,.int .i64 u33,Sl.v u34]/\
  ∃u35 u36 u37 u38 u39 u40 u41 u42 u43 u44 u45 u46 u47,qj (join ro U) I ⟨u21,0,none⟩ 0 [.int .i64 u35,.string u36,.int .i64 u37,.int .i64 u38,.int .i64 u39,.int .i64 u40,.int .i64 u41,.int .i64 u42,Sl.v u43,.string u44,.bool u45,.int .i64 u46,Sl.v u47]/\
  vc B (join ro U) u35 u36 u37 u38 u39 u40 u41 u42 u43 u44 u45 u46 u47 I fun u48 u49 u50 u51 u52 u53 u54 u55 u56 u57 u58 u59 u60 I=>
  vc B (join ro U) u22 u23 u24 u25 u26 u27 u28 u29 u30 u31 u32 u33 u34 I fun u61 u62 u63 u64 u65 u66 u67 u68 u69 u70 u71 u72 u73 I=>
  zE B (join ro U) u48 u49 u50 u51 u52 u53 u54 u55 u56 u57 u58 u59 u60 u61 u62 u63 u64 u65 u66 u67 u68 u69 u70 u71 u72 u73 I fun u74 I=>
  if¬(u74=true)then
  (qz U I->(fun I=>
   wF B ro u0 u1 Q true I) (join U I))
  else
  if¬(u4=0)then
  (qz U I->(fun I=>
   wF B ro u0 u1 Q true I) (join U I))
  else
  ∃u75,qa (join ro U) I ((⟨u1,0,none⟩:Addr).add 2)=some (Sl.v u75)/\
  pr B (join ro U) u75 u3 I fun u76 I=>
  (qz U I->(fun I=>
  wF B ro u0 u1 Q (!u76) I) (join U I))) [.int .i64 u7,.string u8,.int .i64 u9,.int .i64 u10,.int .i64 u11,.int .i64 u12,.int .i64 u13,.int .i64 u14,Sl.v u15,.string u16,.bool u17,.int .i64 u18,Sl.v u19] 0 I
def zR(B:World)(ro:AH)(u0 u1:Nat)(u2 u3:Sl)(u4:Int)(u5:Bool)(Q:Bool->AH->Prop)(u6:Bool)(I:AH):=
 wv B ro u0 u1 u2 u3 u4 Q u6 I
def wY(B:World)(ro:AH)(u0 u1:Nat)(u2 u3:Sl)(u4:Int)(Q:Bool->AH->Prop)(u5:Bool)(I:AH):=
 if u5=true then
 wv B ro u0 u1 u2 u3 u4 Q true I
 else
 ∃u6,qa ro I ⟨u0,0,none⟩=some (.int .i64 u6)/\
 if¬(u6=8)then
 ∃u7,qa ro I ((⟨u0,0,none⟩:Addr).add 1)=some (.string u7)/\
 abq B ro u7 I fun u8 I=>
 zR B ro u0 u1 u2 u3 u4 u5 Q (!u8) I
 else
 zR B ro u0 u1 u2 u3 u4 u5 Q false I
def wG(B:World)(ro:AH)(u0 u1:Nat)(u2 u3:Sl)(u4:Int)(Q:Bool->AH->Prop)(u5:Bool)(I:AH):=
 if u5=true then
 wY B ro u0 u1 u2 u3 u4 Q true I
 else
 ∃u6,qa ro I ⟨u0,0,none⟩=some (.int .i64 u6)/\
 wY B ro u0 u1 u2 u3 u4 Q (decide (8<u6)) I
def qH(B:World)(ro:AH)(u0:Nat)(u1 u2:Sl)(u3:Bool)(Q:Bool->AH->Prop)(u4:Bool)(I:AH):=
 if u4=true then
 Q false I
 else
 ∃u5 u6 u7 u8 u9 u10 u11 u12 u13 u14 u15 u16 u17,qj ro I ⟨u0,0,none⟩ 0 [.int .i64 u5,.string u6,.int .i64 u7,.int .i64 u8,.int .i64 u9,.int .i64 u10,.int .i64 u11,.int .i64 u12,Sl.v u13,.string u14,.bool u15,.int .i64 u16,Sl.v u17]/\
 pP B ro u5 u6 u7 u8 u9 u10 u11 u12 u13 u14 u15 u16 u17 I fun u18 u19 u20 u21 u22 u23 u24 u25 u26 u27 u28 u29 u30 I=>
 uN B ro u18 u19 u20 u21 u22 u23 u24 u25 u26 u27 u28 u29 u30 I fun u31 u32 u33 u34 I=>
 nw ro I (.cells #[.int .i64 0,.string ByteArray.empty,Sl.v (⟨none,0,0⟩:Sl)] 96) fun u35 I=>
 stN ⟨u35,0,none⟩ (fun I=>
 if¬(u3=true)then
  wG B ro u0 u35 u1 u2 u34 Q true I
 else
 ∃u36,qa ro I ⟨u0,0,none⟩=some (.int .i64 u36)/\
 wG B ro u0 u35 u1 u2 u34 Q (decide (u36<1)) I) [.int .i64 u31,.string u32,Sl.v u33] 0 I
def pI(B:World)(ro:AH)(a0_0:Int)(a0_1:ByteArray)(a0_2 a0_3 a0_4 a0_5 a0_6 a0_7:Int)(a0_8:Sl)(a0_9:ByteArray)(a0_10:Bool)(a0_11:Int)(a0_12 a1:Sl)(I:AH)(Q:Bool->AH->Prop):=
 nw ro I (.cells #[.int .i64 a0_0,.string a0_1,.int .i64 a0_2,.int .i64 a0_3,.int .i64 a0_4,.int .i64 a0_5,.int .i64 a0_6,.int .i64 a0_7,Sl.v a0_8,.string a0_9,.bool a0_10,.int .i64 a0_11,Sl.v a0_12] 57) fun u0 I=>
 ∃u1 u2 u3 u4 u5 u6 u7 u8 u9 u10 u11 u12 u13,qj ro I ⟨u0,0,none⟩ 0 [.int .i64 u1,.string u2,.int .i64 u3,.int .i64 u4,.int .i64 u5,.int .i64 u6,.int .i64 u7,.int .i64 u8,Sl.v u9,.string u10,.bool u11,.int .i64 u12,Sl.v u13]/\
 pP B ro u1 u2 u3 u4 u5 u6 u7 u8 u9 u10 u11 u12 u13 I fun u14 u15 u16 u17 u18 u19 u20 u21 u22 u23 u24 u25 u26 I=>
 kz B ro u14 u15 u16 u17 u18 u19 u20 u21 u22 u23 u24 u25 u26 I fun u27 u28 I=>
 ∃u29 u30 u31 u32 u33 u34 u35 u36 u37 u38 u39 u40 u41,qj ro I ⟨u0,0,none⟩ 0 [.int .i64 u29,.string u30,.int .i64 u31,.int .i64 u32,.int .i64 u33,.int .i64 u34,.int .i64 u35,.int .i64 u36,Sl.v u37,.string u38,.bool u39,.int .i64 u40,Sl.v u41]/\
 vc B ro u29 u30 u31 u32 u33 u34 u35 u36 u37 u38 u39 u40 u41 I fun u42 u43 u44 u45 u46 u47 u48 u49 u50 u51 u52 u53 u54 I=>
 pd B ro u42 u43 u44 u45 u46 u47 u48 u49 u50 u51 u52 u53 u54 I fun u55 u56 I=>
 jU B ro a1 I fun u57 I=>
 kG B ro u57 I fun u58 u59 u60 u61 u62 u63 u64 u65 u66 u67 u68 u69 u70 u71 I=>
 nw ro I (.cells #[.int .i64 0,.string ByteArray.empty,.int .i64 0,.int .i64 0,.int .i64 0,.int .i64 0,.int .i64 0,.int .i64 0,Sl.v (⟨none,0,0⟩:Sl),.string ByteArray.empty,.bool false,.int .i64 0,Sl.v (⟨none,0,0⟩:Sl)] 57) fun u72 I=>
 stN ⟨u72,0,none⟩ (fun I=>
 uM B ro a1 I fun u73 u74 u75 u76 u77 u78 u79 u80 u81 u82 u83 u84 u85 u86 I=>
 nw ro I (.cells #[.int .i64 0,.string ByteArray.empty,.int .i64 0,.int .i64 0,.int .i64 0,.int .i64 0,.int .i64 0,.int .i64 0,Sl.v (⟨none,0,0⟩:Sl),.string ByteArray.empty,.bool false,.int .i64 0,Sl.v (⟨none,0,0⟩:Sl)] 88) fun u87 I=>
 stN ⟨u87,0,none⟩ (fun I=>
  pn I fun U I=>
  pr B (join ro U) u27 u55 I fun u88 I=>
  if¬(u88=true)then
   (qz U I->(fun I=>
   qH B ro u0 u27 u55 u56 Q true I) (join U I))
  else
  if¬(u56=(decide (u28=0)))then
   (qz U I->(fun I=>
   qH B ro u0 u27 u55 u56 Q true I) (join U I))
  else
  if¬(u56=true)then
   if¬(u28=170)then
   (qz U I->(fun I=>
    qH B ro u0 u27 u55 u56 Q true I) (join U I))
   else
   if¬(u86=(decide (u71=0)))then
   (qz U I->(fun I=>
    qH B ro u0 u27 u55 u56 Q true I) (join U I))
   else
   if¬(u86=true)then
   if¬(u71=13)then
    (qz U I->(fun I=>
    qH B ro u0 u27 u55 u56 Q true I) (join U I))
   else
   ∃u89 u90 u91 u92 u93 u94 u95 u96 u97 u98 u99 u100 u101,qj (join ro U) (fun _=>none) ⟨u87,0,none⟩ 0 [.int .i64 u89,.string u90,.int .i64 u91,.int .i64 u92,.int .i64 u93,.int .i64 u94,.int .i64 u95,.int .i64 u96,Sl.v u97,.string u98,.bool u99,.int .i64 u100,Sl.v u101]/\
   ∃u102 u103 u104 u105 u106 u107 u108 u109 u110 u111 u112 u113 u114,qj (join ro U) I ⟨u72,0,none⟩ 0 [.int .i64 u102,.string u103,.int .i64 u104,.int .i64 u105,.int .i64 u106,.int .i64 u107,.int .i64 u108,.int .i64 u109,Sl.v u110,.string u111,.bool u112,.int .i64 u113,Sl.v u114]/\
   vc B (join ro U) u102 u103 u104 u105 u106 u107 u108 u109 u110 u111 u112 u113 u114 I fun u115 u116 u117 u118 u119 u120 u121 u122 u123 u124 u125 u126 u127 I=>
   zE B (join ro U) u115 u116 u117 u118 u119 u120 u121 u122 u123 u124 u125 u126 u127 u89 u90 u91 u92 u93 u94 u95 u96 u97 u98 u99 u100 u101 I fun u128 I=>
   (qz U I->(fun I=>
    qH B ro u0 u27 u55 u56 Q (!u128) I) (join U I))
   else
   ∃u129 u130 u131 u132 u133 u134 u135 u136 u137 u138 u139 u140 u141,qj (join ro U) (fun _=>none) ⟨u87,0,none⟩ 0 [.int .i64 u129,.string u130,.int .i64 u131,.int .i64 u132,.int .i64 u133,.int .i64 u134,.int .i64 u135,.int .i64 u136,Sl.v u137,.string u138,.bool u139,.int .i64 u140,Sl.v u141]/\
   ∃u142 u143 u144 u145 u146 u147 u148 u149 u150 u151 u152 u153 u154,qj (join ro U) I ⟨u72,0,none⟩ 0 [.int .i64 u142,.string u143,.int .i64 u144,.int .i64 u145,.int .i64 u146,.int .i64 u147,.int .i64 u148,.int .i64 u149,Sl.v u150,.string u151,.bool u152,.int .i64 u153,Sl.v u154]/\
   vc B (join ro U) u142 u143 u144 u145 u146 u147 u148 u149 u150 u151 u152 u153 u154 I fun u155 u156 u157 u158 u159 u160 u161 u162 u163 u164 u165 u166 u167 I=>
   zE B (join ro U) u155 u156 u157 u158 u159 u160 u161 u162 u163 u164 u165 u166 u167 u129 u130 u131 u132 u133 u134 u135 u136 u137 u138 u139 u140 u141 I fun u168 I=>
   (qz U I->(fun I=>
   qH B ro u0 u27 u55 u56 Q (!u168) I) (join U I))
  else
  if¬(u86=(decide (u71=0)))then
   (qz U I->(fun I=>
   qH B ro u0 u27 u55 u56 Q true I) (join U I))
  else
  if¬(u86=true)then
   if¬(u71=13)then
   (qz U I->(fun I=>
    qH B ro u0 u27 u55 u56 Q true I) (join U I))
   else
   ∃u169 u170 u171 u172 u173 u174 u175 u176 u177 u178 u179 u180 u181,qj (join ro U) (fun _=>none) ⟨u87,0,none⟩ 0 [.int .i64 u169,.string u170,.int .i64 u171,.int .i64 u172,.int .i64 u173,.int .i64 u174,.int .i64 u175,.int .i64 u176,Sl.v u177,.string u178,.bool u179,.int .i64 u180,Sl.v u181]/\
   ∃u182 u183 u184 u185 u186 u187 u188 u189 u190 u191 u192 u193 u194,qj (join ro U) I ⟨u72,0,none⟩ 0 [.int .i64 u182,.string u183,.int .i64 u184,.int .i64 u185,.int .i64 u186,.int .i64 u187,.int .i64 u188,.int .i64 u189,Sl.v u190,.string u191,.bool u192,.int .i64 u193,Sl.v u194]/\
   vc B (join ro U) u182 u183 u184 u185 u186 u187 u188 u189 u190 u191 u192 u193 u194 I fun u195 u196 u197 u198 u199 u200 u201 u202 u203 u204 u205 u206 u207 I=>
   zE B (join ro U) u195 u196 u197 u198 u199 u200 u201 u202 u203 u204 u205 u206 u207 u169 u170 u171 u172 u173 u174 u175 u176 u177 u178 u179 u180 u181 I fun u208 I=>
   (qz U I->(fun I=>
   qH B ro u0 u27 u55 u56 Q (!u208) I) (join U I))
  else
  ∃u209 u210 u211 u212 u213 u214 u215 u216 u217 u218 u219 u220 u221,qj (join ro U) (fun _=>none) ⟨u87,0,none⟩ 0 [.int .i64 u209,.string u210,.int .i64 u211,.int .i64 u212,.int .i64 u213,.int .i64 u214,.int .i64 u215,.int .i64 u216,Sl.v u217,.string u218,.bool u219,.int .i64 u220,Sl.v u221]/\
  ∃u222 u223 u224 u225 u226 u227 u228 u229 u230 u231 u232 u233 u234,qj (join ro U) I ⟨u72,0,none⟩ 0 [.int .i64 u222,.string u223,.int .i64 u224,.int .i64 u225,.int .i64 u226,.int .i64 u227,.int .i64 u228,.int .i64 u229,Sl.v u230,.string u231,.bool u232,.int .i64 u233,Sl.v u234]/\
  vc B (join ro U) u222 u223 u224 u225 u226 u227 u228 u229 u230 u231 u232 u233 u234 I fun u235 u236 u237 u238 u239 u240 u241 u242 u243 u244 u245 u246 u247 I=>
  zE B (join ro U) u235 u236 u237 u238 u239 u240 u241 u242 u243 u244 u245 u246 u247 u209 u210 u211 u212 u213 u214 u215 u216 u217 u218 u219 u220 u221 I fun u248 I=>
  (qz U I->(fun I=>
   qH B ro u0 u27 u55 u56 Q (!u248) I) (join U I))) [.int .i64 u73,.string u74,.int .i64 u75,.int .i64 u76,.int .i64 u77,.int .i64 u78,.int .i64 u79,.int .i64 u80,Sl.v u81,.string u82,.bool u83,.int .i64 u84,Sl.v u85] 0 I) [.int .i64 u58,.string u59,.int .i64 u60,.int .i64 u61,.int .i64 u62,.int .i64 u63,.int .i64 u64,.int .i64 u65,Sl.v u66,.string u67,.bool u68,.int .i64 u69,Sl.v u70] 0 I
theorem adl{a0_0:Int}{a0_1:ByteArray}{a0_2 a0_3 a0_4 a0_5 a0_6 a0_7:Int}{a0_8:Sl}{a0_9:ByteArray}{a0_10:Bool}{a0_11:Int}{a0_12 a1:Sl}{Q:Bool->AH->Prop}(h:Sep ro I->pI B ro a0_0 a0_1 a0_2 a0_3 a0_4 a0_5 a0_6 a0_7 a0_8 a0_9 a0_10 a0_11 a0_12 a1 I Q):aaQ B ro a0_0 a0_1 a0_2 a0_3 a0_4 a0_5 a0_6 a0_7 a0_8 a0_9 a0_10 a0_11 a0_12 a1 I Q:=by
 refine zb h func8 ntmps8 fun h=>?_;unfold pI at h;refine z3 ?_;refine zA (vq rfl rfl) h fun u0 h=>?_;refine zp ?_;refine z4 ?_;obtain⟨u1,u2,u3,u4,u5,u6,u7,u8,u9,u10,u11,u12,u13,hc,h⟩:=h
 refine zl (jb rfl underlying57 rfl zK rfl hc ?_)
 refine zc func23 h ?_;rintro v I ⟨u14,u15,u16,u17,u18,u19,u20,u21,u22,u23,u24,u25,u26,rfl,h⟩;refine zc func30 h ?_;rintro v I ⟨u27,u28,rfl,h⟩;iterate 5 refine zp ?_
 refine z4 ?_;obtain⟨u29,u30,u31,u32,u33,u34,u35,u36,u37,u38,u39,u40,u41,hc,h⟩:=h
 refine zl (jb rfl underlying57 rfl zK rfl hc ?_)
 refine zc func32 h ?_;rintro v I ⟨u42,u43,u44,u45,u46,u47,u48,u49,u50,u51,u52,u53,u54,rfl,h⟩;refine zc func31 h ?_;rintro v I ⟨u55,u56,rfl,h⟩;iterate 5 refine zp ?_
 refine z4 ?_;refine zp ?_;refine zc func16 h ?_;rintro v I ⟨u57,rfl,h⟩;refine zc func33 h ?_;rintro v I ⟨u58,u59,u60,u61,u62,u63,u64,u65,u66,u67,u68,u69,u70,u71,rfl,h⟩;iterate 3 refine zp ?_
 refine zA (wH rfl zK) h fun u72 h=>?_;refine zs zK h fun I h=>?_;refine zp ?_;refine z4 ?_;refine zp ?_;refine zc func34 h ?_;rintro v I ⟨u73,u74,u75,u76,u77,u78,u79,u80,u81,u82,u83,u84,u85,u86,rfl,h⟩;iterate 3 refine zp ?_
 refine zA (wH rfl jT) h fun u87 h=>?_;refine zs jT h fun I h=>?_;refine zp ?_;refine z2 (AW.seq ?_)
 refine AW.seqJ (fun fr I=> ∃(u88:Bool),qk [(2,.pointer (some ⟨u0,0,none⟩)),(5,Sl.v u27),(7,Sl.v u55),(8,.bool u56),(78,.bool u88)] fr/\qH B ro u0 u27 u55 u56 Q u88 I) ?_ ?_
 rotate_left
 .refine AW.drawnL (fun i=>([0,0,2,0,0,0,0,0,0,0,0,0,0,0,0,0,0,0,0,0,0,0,0,0,0,0,0,0,0,0,0,0,0,3,2,0,2,0,0]:List Nat).getD i 2) [(2,4),(2,9),(2,10),(2,17),(2,18),(2,23),(2,24),(2,31),(2,32),(2,33),(2,34),(2,36),(33,34),(33,36)] [0,1,2,3,4,5,6,7,8,9,10,11,12,13,14,15,16,17,18,19,20,21,22,23,24,25,26,27,28,29,30,31,32,35,33,34,36,37,38] mixed h (by decide+kernel) ?_
  clear h
  intro U I h
  iterate 2 refine zq ?_
  refine Dg rfl rfl rfl rfl (qF rfl func18 rfl rfl rfl (qb.mono h ?_))
  rintro v I ⟨u89,rfl,h⟩;iterate 2 refine zq ?_
  refine jP (!u89) (qt Iff.rfl) h ?_ ?_
  .intro h e4
   refine Dpn rfl rfl rfl rfl rfl (.inl (by rw[e4];rfl)) rfl ?_
   refine Dpn rfl rfl rfl rfl rfl (.inl (by rw[e4];rfl)) rfl ?_
   refine Dpn rfl rfl rfl rfl rfl (.inl (by rw[e4];rfl)) rfl ?_
   refine Dpn rfl rfl rfl rfl rfl (.inl (by rw[e4];rfl)) rfl ?_
   refine Dp rfl rfl rfl rfl (wa rfl (evb e4) rfl) ?_
   refine zq ?_;refine Dpn rfl rfl rfl rfl rfl (.inl rfl) rfl ?_
   refine Dpn rfl rfl rfl rfl rfl (.inl rfl) rfl ?_
   refine Dpn rfl rfl rfl rfl rfl (.inl rfl) rfl ?_
   refine Dpn rfl rfl rfl rfl rfl (.inr rfl) rfl ?_
   refine Dpn rfl rfl rfl rfl rfl (.inr rfl) rfl ?_
   refine Dpn rfl rfl rfl rfl rfl (.inl rfl) rfl ?_
   refine Dp rfl rfl rfl rfl (wa rfl (evb rfl) rfl) ?_
   refine zq ?_;refine Dpn rfl rfl rfl rfl rfl (.inl rfl) rfl ?_
   refine Dpn rfl rfl rfl rfl rfl (.inl rfl) rfl ?_
   refine Dpn rfl rfl rfl rfl rfl (.inl rfl) rfl ?_
   refine Dpn rfl rfl rfl rfl rfl (.inl rfl) rfl ?_
   refine Dp rfl rfl rfl rfl (wa rfl (evb rfl) rfl) ?_
   refine zq ?_;refine Dpn rfl rfl rfl rfl rfl (.inl rfl) rfl ?_
   refine Dpn rfl rfl rfl rfl rfl (.inl rfl) rfl ?_
   refine Dpn rfl rfl rfl rfl rfl (.inl rfl) rfl ?_
   refine Dpn rfl rfl rfl rfl rfl (.inr rfl) rfl ?_
   refine Dpn rfl rfl rfl rfl rfl (.inr rfl) rfl ?_
   refine Dpn rfl rfl rfl rfl rfl (.inl rfl) rfl ?_
   refine Dp rfl rfl rfl rfl (wa rfl (evb rfl) rfl) ?_
   refine zq ?_;refine Dpn rfl rfl rfl rfl rfl (.inl rfl) rfl ?_
   refine Drn rfl rfl rfl rfl rfl (.inl rfl) rfl ?_
   refine Dgn rfl rfl rfl rfl rfl (.inl rfl) rfl ?_
   refine Dgn rfl rfl rfl rfl rfl (.inl rfl) rfl ?_
   refine Dpn rfl rfl rfl rfl rfl (.inl rfl) rfl ?_
   refine Dp rfl rfl rfl rfl (wa rfl (evb rfl) rfl) ?_
   refine⟨_,wg.refl _,fun hdj=>?_⟩
   replace h:=h hdj
   refine qc ?_;exact⟨_,FL,h⟩
  intro h e4
  refine Dpy rfl rfl rfl rfl rfl e4 rfl (vl rfl rfl) ?_
  refine Dpy rfl rfl rfl rfl rfl e4 rfl (vl rfl rfl) ?_
  refine Dpy rfl rfl rfl rfl rfl e4 rfl (adR rfl rfl rfl) ?_
  refine Dpy rfl rfl rfl rfl rfl e4 rfl (aeN rfl underlying4 rfl rfl) ?_
  refine Dp rfl rfl rfl rfl (wx rfl (evb e4) rfl) ?_
  refine zq ?_;refine jP (!(u56 == (decide (u28=0)))) (qt ael) h ?_ ?_
  .intro h e10
   refine Dpn rfl rfl rfl rfl rfl (.inl (by rw[e10];rfl)) rfl ?_
   refine Dpn rfl rfl rfl rfl rfl (.inl (by rw[e10];rfl)) rfl ?_
   refine Dpn rfl rfl rfl rfl rfl (.inl (by rw[e10];rfl)) rfl ?_
   refine Dpn rfl rfl rfl rfl rfl (.inr rfl) rfl ?_
   refine Dpn rfl rfl rfl rfl rfl (.inr rfl) rfl ?_
   refine Dpn rfl rfl rfl rfl rfl (.inl (by rw[e10];rfl)) rfl ?_
   refine Dp rfl rfl rfl rfl (wa rfl (evb e10) rfl) ?_
   refine zq ?_;refine Dpn rfl rfl rfl rfl rfl (.inl rfl) rfl ?_
   refine Dpn rfl rfl rfl rfl rfl (.inl rfl) rfl ?_
   refine Dpn rfl rfl rfl rfl rfl (.inl rfl) rfl ?_
   refine Dpn rfl rfl rfl rfl rfl (.inl rfl) rfl ?_
   refine Dp rfl rfl rfl rfl (wa rfl (evb rfl) rfl) ?_
   refine zq ?_;refine Dpn rfl rfl rfl rfl rfl (.inl rfl) rfl ?_
   refine Dpn rfl rfl rfl rfl rfl (.inl rfl) rfl ?_
   refine Dpn rfl rfl rfl rfl rfl (.inl rfl) rfl ?_
   refine Dpn rfl rfl rfl rfl rfl (.inr rfl) rfl ?_
   refine Dpn rfl rfl rfl rfl rfl (.inr rfl) rfl ?_
   refine Dpn rfl rfl rfl rfl rfl (.inl rfl) rfl ?_
   refine Dp rfl rfl rfl rfl (wa rfl (evb rfl) rfl) ?_
   refine zq ?_;refine Dpn rfl rfl rfl rfl rfl (.inl rfl) rfl ?_
   refine Drn rfl rfl rfl rfl rfl (.inl rfl) rfl ?_
   refine Dgn rfl rfl rfl rfl rfl (.inl rfl) rfl ?_
   refine Dgn rfl rfl rfl rfl rfl (.inl rfl) rfl ?_
   refine Dpn rfl rfl rfl rfl rfl (.inl rfl) rfl ?_
   refine Dp rfl rfl rfl rfl (wa rfl (evb rfl) rfl) ?_
   refine⟨_,wg.refl _,fun hdj=>?_⟩
   replace h:=h hdj
   refine qc ?_;exact⟨_,FL,h⟩
  intro h e10
  refine Dpy rfl rfl rfl rfl rfl e10 rfl (vl rfl rfl) ?_
  refine Dpy rfl rfl rfl rfl rfl e10 rfl (um rfl rfl) ?_
  refine Dpy rfl rfl rfl rfl rfl e10 rfl (vl rfl rfl) ?_
  refine jP (!u56) (qt Iff.rfl) h ?_ ?_
  rotate_left
  .intro h e13
   refine Dpn rfl rfl rfl rfl rfl (.inl (by rw[e13];rfl)) rfl ?_
   refine Dpn rfl rfl rfl rfl rfl (.inl (by rw[e13];rfl)) rfl ?_
   refine Dpy rfl rfl rfl rfl rfl e10 rfl (wx rfl (evb e13) rfl) ?_
   refine Dp rfl rfl rfl rfl (wx rfl (evb e10) rfl) ?_
   refine zq ?_;refine Dpy rfl rfl rfl rfl rfl rfl rfl (vl rfl rfl) ?_
   refine Dpy rfl rfl rfl rfl rfl rfl rfl (vl rfl rfl) ?_
   refine Dpy rfl rfl rfl rfl rfl rfl rfl (adR rfl rfl rfl) ?_
   refine Dpy rfl rfl rfl rfl rfl rfl rfl (aeN rfl underlying4 rfl rfl) ?_
   refine Dp rfl rfl rfl rfl (wx rfl (evb rfl) rfl) ?_
   refine zq ?_;refine jP (!(u86 == (decide (u71=0)))) (qt ael) h ?_ ?_
   .intro h e24
    refine Dpn rfl rfl rfl rfl rfl (.inl (by rw[e24];rfl)) rfl ?_
    refine Dpn rfl rfl rfl rfl rfl (.inl (by rw[e24];rfl)) rfl ?_
    refine Dpn rfl rfl rfl rfl rfl (.inl (by rw[e24];rfl)) rfl ?_
    refine Dpn rfl rfl rfl rfl rfl (.inr rfl) rfl ?_
    refine Dpn rfl rfl rfl rfl rfl (.inr rfl) rfl ?_
    refine Dpn rfl rfl rfl rfl rfl (.inl (by rw[e24];rfl)) rfl ?_
    refine Dp rfl rfl rfl rfl (wa rfl (evb e24) rfl) ?_
    refine zq ?_;refine Dpn rfl rfl rfl rfl rfl (.inl rfl) rfl ?_
    refine Drn rfl rfl rfl rfl rfl (.inl rfl) rfl ?_
    refine Dgn rfl rfl rfl rfl rfl (.inl rfl) rfl ?_
    refine Dgn rfl rfl rfl rfl rfl (.inl rfl) rfl ?_
    refine Dpn rfl rfl rfl rfl rfl (.inl rfl) rfl ?_
    refine Dp rfl rfl rfl rfl (wa rfl (evb rfl) rfl) ?_
    refine⟨_,wg.refl _,fun hdj=>?_⟩
    replace h:=h hdj
    refine qc ?_;exact⟨_,FL,h⟩
   intro h e24
   refine Dpy rfl rfl rfl rfl rfl e24 rfl (vl rfl rfl) ?_
   refine Dpy rfl rfl rfl rfl rfl e24 rfl (um rfl rfl) ?_
   refine Dpy rfl rfl rfl rfl rfl e24 rfl (vl rfl rfl) ?_
   refine jP (!u86) (qt Iff.rfl) h ?_ ?_
   rotate_left
   .intro h e27
    refine Dpn rfl rfl rfl rfl rfl (.inl (by rw[e27];rfl)) rfl ?_
    refine Dpn rfl rfl rfl rfl rfl (.inl (by rw[e27];rfl)) rfl ?_
    refine Dpy rfl rfl rfl rfl rfl e24 rfl (wx rfl (evb e27) rfl) ?_
    refine Dp rfl rfl rfl rfl (wx rfl (evb e24) rfl) ?_
    refine zq ?_;obtain⟨u90,u91,u92,u93,u94,u95,u96,u97,u98,u99,u100,u101,u102,hc,h⟩:=h
    refine Dpy rfl rfl rfl rfl rfl rfl rfl (acL rfl underlying88 rfl jT rfl hc) ?_
    obtain⟨u103,u104,u105,u106,u107,u108,u109,u110,u111,u112,u113,u114,u115,hc,h⟩:=h
    refine Dry rfl rfl rfl rfl rfl rfl rfl (abR rfl underlying57 rfl zK rfl hc) ?_
    refine Dgy rfl rfl rfl rfl rfl rfl rfl (qF rfl func32 rfl rfl rfl (qb.mono h ?_))
    rintro v I ⟨u116,u117,u118,u119,u120,u121,u122,u123,u124,u125,u126,u127,u128,rfl,h⟩;refine Dgy rfl rfl rfl rfl rfl rfl rfl (qF rfl func35 rfl rfl rfl (qb.mono h ?_))
    rintro v I ⟨u129,rfl,h⟩;refine Dpy rfl rfl rfl rfl rfl rfl rfl (um rfl rfl) ?_
    refine Dp rfl rfl rfl rfl (wx rfl (evb rfl) rfl) ?_
    refine⟨_,wg.refl _,fun hdj=>?_⟩
    replace h:=h hdj
    refine qc ?_;exact⟨_,FL,h⟩
   intro h e27
   refine Dpy rfl rfl rfl rfl rfl e27 rfl (vl rfl rfl) ?_
   refine Dpy rfl rfl rfl rfl rfl e27 rfl (acK rfl rfl rfl) ?_
   refine Dpy rfl rfl rfl rfl rfl e24 rfl (wa rfl (evb e27) rfl) ?_
   refine Dp rfl rfl rfl rfl (wx rfl (evb e24) rfl) ?_
   refine zq ?_;refine jP (!(decide (u71=13))) (qt decide_eq_true_iff) h ?_ ?_
   .intro h e32
    refine Dpn rfl rfl rfl rfl rfl (.inl (by rw[e32];rfl)) rfl ?_
    refine Drn rfl rfl rfl rfl rfl (.inl (by rw[e32];rfl)) rfl ?_
    refine Dgn rfl rfl rfl rfl rfl (.inl (by rw[e32];rfl)) rfl ?_
    refine Dgn rfl rfl rfl rfl rfl (.inl (by rw[e32];rfl)) rfl ?_
    refine Dpn rfl rfl rfl rfl rfl (.inl (by rw[e32];rfl)) rfl ?_
    refine Dp rfl rfl rfl rfl (wa rfl (evb e32) rfl) ?_
    refine⟨_,wg.refl _,fun hdj=>?_⟩
    replace h:=h hdj
    refine qc ?_;exact⟨_,FL,h⟩
   intro h e32
   obtain⟨u130,u131,u132,u133,u134,u135,u136,u137,u138,u139,u140,u141,u142,hc,h⟩:=h
   refine Dpy rfl rfl rfl rfl rfl e32 rfl (acL rfl underlying88 rfl jT rfl hc) ?_
   obtain⟨u143,u144,u145,u146,u147,u148,u149,u150,u151,u152,u153,u154,u155,hc,h⟩:=h
   refine Dry rfl rfl rfl rfl rfl e32 rfl (abR rfl underlying57 rfl zK rfl hc) ?_
   refine Dgy rfl rfl rfl rfl rfl e32 rfl (qF rfl func32 rfl rfl rfl (qb.mono h ?_))
   rintro v I ⟨u156,u157,u158,u159,u160,u161,u162,u163,u164,u165,u166,u167,u168,rfl,h⟩;refine Dgy rfl rfl rfl rfl rfl e32 rfl (qF rfl func35 rfl rfl rfl (qb.mono h ?_))
   rintro v I ⟨u169,rfl,h⟩;refine Dpy rfl rfl rfl rfl rfl e32 rfl (um rfl rfl) ?_
   refine Dp rfl rfl rfl rfl (wx rfl (evb e32) rfl) ?_
   refine⟨_,wg.refl _,fun hdj=>?_⟩
   replace h:=h hdj
   refine qc ?_;exact⟨_,FL,h⟩
  intro h e13
  refine Dpy rfl rfl rfl rfl rfl e13 rfl (vl rfl rfl) ?_
  refine Dpy rfl rfl rfl rfl rfl e13 rfl (acK rfl rfl rfl) ?_
  refine Dpy rfl rfl rfl rfl rfl e10 rfl (wa rfl (evb e13) rfl) ?_
  refine Dp rfl rfl rfl rfl (wx rfl (evb e10) rfl) ?_
  refine zq ?_;refine jP (!(decide (u28=170))) (qt decide_eq_true_iff) h ?_ ?_
  .intro h e18
   refine Dpn rfl rfl rfl rfl rfl (.inl (by rw[e18];rfl)) rfl ?_
   refine Dpn rfl rfl rfl rfl rfl (.inl (by rw[e18];rfl)) rfl ?_
   refine Dpn rfl rfl rfl rfl rfl (.inl (by rw[e18];rfl)) rfl ?_
   refine Dpn rfl rfl rfl rfl rfl (.inl (by rw[e18];rfl)) rfl ?_
   refine Dp rfl rfl rfl rfl (wa rfl (evb e18) rfl) ?_
   refine zq ?_;refine Dpn rfl rfl rfl rfl rfl (.inl rfl) rfl ?_
   refine Dpn rfl rfl rfl rfl rfl (.inl rfl) rfl ?_
   refine Dpn rfl rfl rfl rfl rfl (.inl rfl) rfl ?_
   refine Dpn rfl rfl rfl rfl rfl (.inr rfl) rfl ?_
   refine Dpn rfl rfl rfl rfl rfl (.inr rfl) rfl ?_
   refine Dpn rfl rfl rfl rfl rfl (.inl rfl) rfl ?_
   refine Dp rfl rfl rfl rfl (wa rfl (evb rfl) rfl) ?_
   refine zq ?_;refine Dpn rfl rfl rfl rfl rfl (.inl rfl) rfl ?_
   refine Drn rfl rfl rfl rfl rfl (.inl rfl) rfl ?_
   refine Dgn rfl rfl rfl rfl rfl (.inl rfl) rfl ?_
   refine Dgn rfl rfl rfl rfl rfl (.inl rfl) rfl ?_
   refine Dpn rfl rfl rfl rfl rfl (.inl rfl) rfl ?_
   refine Dp rfl rfl rfl rfl (wa rfl (evb rfl) rfl) ?_
   refine⟨_,wg.refl _,fun hdj=>?_⟩
   replace h:=h hdj
   refine qc ?_;exact⟨_,FL,h⟩
  intro h e18
  refine Dpy rfl rfl rfl rfl rfl e18 rfl (vl rfl rfl) ?_
  refine Dpy rfl rfl rfl rfl rfl e18 rfl (vl rfl rfl) ?_
  refine Dpy rfl rfl rfl rfl rfl e18 rfl (adR rfl rfl rfl) ?_
  refine Dpy rfl rfl rfl rfl rfl e18 rfl (aeN rfl underlying4 rfl rfl) ?_
  refine Dp rfl rfl rfl rfl (wx rfl (evb e18) rfl) ?_
  refine zq ?_;refine jP (!(u86 == (decide (u71=0)))) (qt ael) h ?_ ?_
  .intro h e24
   refine Dpn rfl rfl rfl rfl rfl (.inl (by rw[e24];rfl)) rfl ?_
   refine Dpn rfl rfl rfl rfl rfl (.inl (by rw[e24];rfl)) rfl ?_
   refine Dpn rfl rfl rfl rfl rfl (.inl (by rw[e24];rfl)) rfl ?_
   refine Dpn rfl rfl rfl rfl rfl (.inr rfl) rfl ?_
   refine Dpn rfl rfl rfl rfl rfl (.inr rfl) rfl ?_
   refine Dpn rfl rfl rfl rfl rfl (.inl (by rw[e24];rfl)) rfl ?_
   refine Dp rfl rfl rfl rfl (wa rfl (evb e24) rfl) ?_
   refine zq ?_;refine Dpn rfl rfl rfl rfl rfl (.inl rfl) rfl ?_
   refine Drn rfl rfl rfl rfl rfl (.inl rfl) rfl ?_
   refine Dgn rfl rfl rfl rfl rfl (.inl rfl) rfl ?_
   refine Dgn rfl rfl rfl rfl rfl (.inl rfl) rfl ?_
   refine Dpn rfl rfl rfl rfl rfl (.inl rfl) rfl ?_
   refine Dp rfl rfl rfl rfl (wa rfl (evb rfl) rfl) ?_
   refine⟨_,wg.refl _,fun hdj=>?_⟩
   replace h:=h hdj
   refine qc ?_;exact⟨_,FL,h⟩
  intro h e24
  refine Dpy rfl rfl rfl rfl rfl e24 rfl (vl rfl rfl) ?_
  refine Dpy rfl rfl rfl rfl rfl e24 rfl (um rfl rfl) ?_
  refine Dpy rfl rfl rfl rfl rfl e24 rfl (vl rfl rfl) ?_
  refine jP (!u86) (qt Iff.rfl) h ?_ ?_
  rotate_left
  .intro h e27
   refine Dpn rfl rfl rfl rfl rfl (.inl (by rw[e27];rfl)) rfl ?_
   refine Dpn rfl rfl rfl rfl rfl (.inl (by rw[e27];rfl)) rfl ?_
   refine Dpy rfl rfl rfl rfl rfl e24 rfl (wx rfl (evb e27) rfl) ?_
   refine Dp rfl rfl rfl rfl (wx rfl (evb e24) rfl) ?_
   refine zq ?_;obtain⟨u170,u171,u172,u173,u174,u175,u176,u177,u178,u179,u180,u181,u182,hc,h⟩:=h
   refine Dpy rfl rfl rfl rfl rfl rfl rfl (acL rfl underlying88 rfl jT rfl hc) ?_
   obtain⟨u183,u184,u185,u186,u187,u188,u189,u190,u191,u192,u193,u194,u195,hc,h⟩:=h
   refine Dry rfl rfl rfl rfl rfl rfl rfl (abR rfl underlying57 rfl zK rfl hc) ?_
   refine Dgy rfl rfl rfl rfl rfl rfl rfl (qF rfl func32 rfl rfl rfl (qb.mono h ?_))
   rintro v I ⟨u196,u197,u198,u199,u200,u201,u202,u203,u204,u205,u206,u207,u208,rfl,h⟩;refine Dgy rfl rfl rfl rfl rfl rfl rfl (qF rfl func35 rfl rfl rfl (qb.mono h ?_))
   rintro v I ⟨u209,rfl,h⟩;refine Dpy rfl rfl rfl rfl rfl rfl rfl (um rfl rfl) ?_
   refine Dp rfl rfl rfl rfl (wx rfl (evb rfl) rfl) ?_
   refine⟨_,wg.refl _,fun hdj=>?_⟩
   replace h:=h hdj
   refine qc ?_;exact⟨_,FL,h⟩
  intro h e27
  refine Dpy rfl rfl rfl rfl rfl e27 rfl (vl rfl rfl) ?_
  refine Dpy rfl rfl rfl rfl rfl e27 rfl (acK rfl rfl rfl) ?_
  refine Dpy rfl rfl rfl rfl rfl e24 rfl (wa rfl (evb e27) rfl) ?_
  refine Dp rfl rfl rfl rfl (wx rfl (evb e24) rfl) ?_
  refine zq ?_;refine jP (!(decide (u71=13))) (qt decide_eq_true_iff) h ?_ ?_
  .intro h e32
   refine Dpn rfl rfl rfl rfl rfl (.inl (by rw[e32];rfl)) rfl ?_
   refine Drn rfl rfl rfl rfl rfl (.inl (by rw[e32];rfl)) rfl ?_
   refine Dgn rfl rfl rfl rfl rfl (.inl (by rw[e32];rfl)) rfl ?_
   refine Dgn rfl rfl rfl rfl rfl (.inl (by rw[e32];rfl)) rfl ?_
   refine Dpn rfl rfl rfl rfl rfl (.inl (by rw[e32];rfl)) rfl ?_
   refine Dp rfl rfl rfl rfl (wa rfl (evb e32) rfl) ?_
   refine⟨_,wg.refl _,fun hdj=>?_⟩
   replace h:=h hdj
   refine qc ?_;exact⟨_,FL,h⟩
  intro h e32
  obtain⟨u210,u211,u212,u213,u214,u215,u216,u217,u218,u219,u220,u221,u222,hc,h⟩:=h
  refine Dpy rfl rfl rfl rfl rfl e32 rfl (acL rfl underlying88 rfl jT rfl hc) ?_
  obtain⟨u223,u224,u225,u226,u227,u228,u229,u230,u231,u232,u233,u234,u235,hc,h⟩:=h
  refine Dry rfl rfl rfl rfl rfl e32 rfl (abR rfl underlying57 rfl zK rfl hc) ?_
  refine Dgy rfl rfl rfl rfl rfl e32 rfl (qF rfl func32 rfl rfl rfl (qb.mono h ?_))
  rintro v I ⟨u236,u237,u238,u239,u240,u241,u242,u243,u244,u245,u246,u247,u248,rfl,h⟩;refine Dgy rfl rfl rfl rfl rfl e32 rfl (qF rfl func35 rfl rfl rfl (qb.mono h ?_))
  rintro v I ⟨u249,rfl,h⟩;refine Dpy rfl rfl rfl rfl rfl e32 rfl (um rfl rfl) ?_
  refine Dp rfl rfl rfl rfl (wx rfl (evb e32) rfl) ?_
  refine⟨_,wg.refl _,fun hdj=>?_⟩
  replace h:=h hdj
  refine qc ?_;exact⟨_,FL,h⟩
 rintro fr I ⟨u88,hl,h⟩;refine AW.weaken ?_ hl (HLe.refl _)
 unfold qH at h;refine zj h (fun h=>?_) fun h=>?_
 .refine z3 ?_;refine zp ?_;refine z2 ?_;refine AW.ret ?_;refine qi ?_;exact bR1 results8 rfl ⟨_,rfl,h⟩
 refine AW.skip ?_;refine qc (z3 ?_);obtain⟨u250,u251,u252,u253,u254,u255,u256,u257,u258,u259,u260,u261,u262,hc,h⟩:=h
 refine zl (jb rfl underlying57 rfl zK rfl hc ?_)
 refine zc func23 h ?_;rintro v I ⟨u263,u264,u265,u266,u267,u268,u269,u270,u271,u272,u273,u274,u275,rfl,h⟩;refine zc func36 h ?_;rintro v I ⟨u276,u277,u278,u279,rfl,h⟩;iterate 3 refine zp ?_
 refine zA (wH rfl ut) h fun u280 h=>?_;refine zs ut h fun I h=>?_;refine zp ?_;refine z2 (AW.seq (z3 ?_))
 iterate 3 refine zp ?_
 refine qq 4 (!u56) (qt Iff.rfl) h (fun fr I=> ∃(u281:Bool),qk [(2,.pointer (some ⟨u0,0,none⟩)),(5,Sl.v u27),(7,Sl.v u55),(13,.pointer (some ⟨u280,0,none⟩)),(14,.int .i64 u279),(91,.bool u281)] fr/\wG B ro u0 u280 u27 u55 u279 Q u281 I) ?_ ?_ ?_
 .intro h e2 hk2;iterate 3 refine zn e2 ?_
  refine zk e2 ?_;exact hk2 _ _ ⟨_,FL,h⟩
 .intro h e2 hk2;refine qr (qx rfl underlying57 rfl ty3 (by decide) rfl) rfl rfl rfl rfl e2 ?_
  obtain⟨u282,hc,h⟩:=h
  refine Lyb rfl rfl rfl rfl e2 (qM rfl underlying3 rfl rfl hc ?_)
  refine zy e2 ?_;refine zk e2 ?_;exact hk2 _ _ ⟨_,FL,h⟩
 rintro fr I ⟨u281,hl,h⟩;unfold wG at h;refine Lfr hl ?_
 refine zp ?_;refine qq 4 u281 Iff.rfl h (fun fr I=> ∃(u283:Bool),qk [(2,.pointer (some ⟨u0,0,none⟩)),(5,Sl.v u27),(7,Sl.v u55),(13,.pointer (some ⟨u280,0,none⟩)),(14,.int .i64 u279),(96,.bool u283)] fr/\wY B ro u0 u280 u27 u55 u279 Q u283 I) ?_ ?_ ?_
 .intro h e7 hk7;iterate 3 refine zn e7 ?_
  refine zk e7 ?_;exact hk7 _ _ ⟨_,FL,h⟩
 .intro h e7 hk7;refine qr (qx rfl underlying57 rfl ty3 (by decide) rfl) rfl rfl rfl rfl e7 ?_
  obtain⟨u284,hc,h⟩:=h
  refine Lyb rfl rfl rfl rfl e7 (qM rfl underlying3 rfl rfl hc ?_)
  refine zy e7 ?_;refine zk e7 ?_;exact hk7 _ _ ⟨_,FL,h⟩
 rintro fr I ⟨u283,hl,h⟩;unfold wY at h;refine Lfr hl ?_
 refine zp ?_;refine qq 10 u283 Iff.rfl h (fun fr I=> ∃(u285:Bool),qk [(2,.pointer (some ⟨u0,0,none⟩)),(5,Sl.v u27),(7,Sl.v u55),(13,.pointer (some ⟨u280,0,none⟩)),(14,.int .i64 u279),(107,.bool u285)] fr/\wv B ro u0 u280 u27 u55 u279 Q u285 I) ?_ ?_ ?_
 .intro h e12 hk12;iterate 4 refine zn e12 ?_
  refine Ln rfl rfl rfl rfl (.inr rfl) ?_
  refine Ln rfl rfl rfl rfl (.inr rfl) ?_
  refine Ln rfl rfl rfl rfl (.inr rfl) ?_
  refine Ln rfl rfl rfl rfl (.inr rfl) ?_
  refine zn e12 ?_;refine zk e12 ?_;exact hk12 _ _ ⟨_,FL,h⟩
 .intro h e12 hk12;refine qr (qx rfl underlying57 rfl ty3 (by decide) rfl) rfl rfl rfl rfl e12 ?_
  obtain⟨u286,hc,h⟩:=h
  refine Lyb rfl rfl rfl rfl e12 (qM rfl underlying3 rfl rfl hc ?_)
  refine zy e12 ?_;refine zy e12 ?_;refine qq 5 (!(decide (u286=8))) (qt decide_eq_true_iff) h (fun fr I=> ∃(u287:Bool),qk [(2,.pointer (some ⟨u0,0,none⟩)),(5,Sl.v u27),(7,Sl.v u55),(13,.pointer (some ⟨u280,0,none⟩)),(14,.int .i64 u279),(97,.bool u283),(106,.bool u287)] fr/\zR B ro u0 u280 u27 u55 u279 u283 Q u287 I) ?_ ?_ ?_
  .intro h e16 hk16;refine qr (qx rfl underlying57 rfl ty9 (by decide) rfl) rfl rfl rfl rfl e16 ?_
   obtain⟨u288,hc,h⟩:=h
   refine Lyb rfl rfl rfl rfl e16 (qM rfl underlying9 rfl rfl hc ?_)
   refine Lyb rfl rfl rfl rfl e16 (qF rfl func37 rfl rfl rfl (qb.mono h ?_))
   rintro v I ⟨u289,rfl,h⟩;refine zy e16 ?_;refine qr (wa rfl (evb e16) rfl) rfl rfl rfl rfl e12 ?_
   exact hk16 _ _ ⟨_,FL,h⟩
  .intro h e16 hk16;iterate 4 refine zn e16 ?_
   refine qr (wx rfl (evb e16) rfl) rfl rfl rfl rfl e12 ?_
   exact hk16 _ _ ⟨_,FL,h⟩
  rintro fr I ⟨u287,hl,h⟩;unfold zR at h;refine Lfr hl ?_
  refine zk e12 ?_;exact hk12 _ _ ⟨_,FL,h⟩
 rintro fr I ⟨u285,hl,h⟩;unfold wv at h;refine Lfr hl ?_
 refine z2 ?_;refine zj h (fun h=>?_) fun h=>?_
 .refine z3 ?_;iterate 3 refine zp ?_
  refine qq 4 (decide (u279=170)) decide_eq_true_iff h (fun fr I=> ∃(u290:Bool),qk [(13,.pointer (some ⟨u280,0,none⟩)),(114,.bool u290)] fr/\vz B ro u280 Q u290 I) ?_ ?_ ?_
  .intro h e2 hk2;refine qr (qx rfl underlying96 rfl ty3 (by decide) rfl) rfl rfl rfl rfl e2 ?_
   obtain⟨u291,hc,h⟩:=h
   refine Lyb rfl rfl rfl rfl e2 (qM rfl underlying3 rfl rfl hc ?_)
   refine zy e2 ?_;refine zk e2 ?_;exact hk2 _ _ ⟨_,FL,h⟩
  .intro h e2 hk2;iterate 3 refine zn e2 ?_
   refine zk e2 ?_;exact hk2 _ _ ⟨_,FL,h⟩
  rintro fr I ⟨u290,hl,h⟩;unfold vz at h;refine Lfr hl ?_
  refine zp ?_;refine qq 5 u290 Iff.rfl h (fun fr I=> ∃(u292:Bool),qk [(120,.bool u292)] fr/\vy B ro Q u292 I) ?_ ?_ ?_
  .intro h e7 hk7;refine qr (qx rfl underlying96 rfl qV (by decide) rfl) rfl rfl rfl rfl e7 ?_
   obtain⟨u293,hc,h⟩:=h
   refine Lyb rfl rfl rfl rfl e7 (qM rfl underlying24 rfl rfl hc ?_)
   refine qr (qJ rfl rfl underlying24 rfl rfl) rfl rfl rfl rfl e7 ?_
   refine zy e7 ?_;refine zk e7 ?_;exact hk7 _ _ ⟨_,FL,h⟩
  .intro h e7 hk7;iterate 4 refine zn e7 ?_
   refine zk e7 ?_;exact hk7 _ _ ⟨_,FL,h⟩
  rintro fr I ⟨u292,hl,h⟩;unfold vy at h;refine Lfr hl ?_
  refine zp ?_;refine qq 2 u292 Iff.rfl h (fun fr I=> ∃(u294:Bool),qk [(123,.bool u294)] fr/\vw B ro Q u294 I) ?_ ?_ ?_
  .intro h e13 hk13;refine Lyb rfl rfl rfl rfl e13 (qF rfl func20 rfl rfl rfl (qb.mono h ?_))
   rintro v I ⟨u295,rfl,h⟩;refine zk e13 ?_;exact hk13 _ _ ⟨_,FL,h⟩
  .intro h e13 hk13;refine zn e13 ?_;refine zk e13 ?_;exact hk13 _ _ ⟨_,FL,h⟩
  rintro fr I ⟨u294,hl,h⟩;unfold vw at h;refine Lfr hl ?_
  refine zp ?_;refine z2 ?_;refine AW.ret ?_;refine qi ?_;exact bR1 results8 rfl ⟨_,rfl,h⟩
 refine AW.skip ?_;refine qc (z3 ?_);refine zp ?_;refine zc func33 h ?_;rintro v I ⟨u296,u297,u298,u299,u300,u301,u302,u303,u304,u305,u306,u307,u308,u309,rfl,h⟩;iterate 3 refine zp ?_
 refine zA (wH rfl zK) h fun u310 h=>?_;refine zs zK h fun I h=>?_;refine zp ?_;refine z2 (AW.seq ?_)
 refine AW.seqJ (fun fr I=> ∃(u311:Bool),qk [(2,.pointer (some ⟨u0,0,none⟩)),(13,.pointer (some ⟨u280,0,none⟩)),(149,.bool u311)] fr/\wF B ro u0 u280 Q u311 I) ?_ ?_
 rotate_left
 .refine AW.drawnL (fun i=>([0,0,0,3,2,0,2,2,0,0,0,0,0,0,0,0,3,0,2,0,0]:List Nat).getD i 2) [(3,4),(3,6),(3,7),(3,8),(3,9),(3,10),(3,13),(3,14),(3,15),(3,16),(3,18),(4,7),(4,8),(4,9),(4,10),(4,13),(4,14),(4,15),(4,16),(4,18),(6,7),(6,8),(6,9),(6,10),(6,13),(6,14),(6,15),(6,16),(6,18),(7,10),(7,13),(7,14),(7,15),(7,16),(7,18)] [0,1,2,5,3,4,6,7,8,9,10,11,12,13,14,15,17,16,18,19,20] mixed h (by decide+kernel) ?_
  clear h
  intro U I h
  iterate 3 refine zq ?_
  refine jP (!(decide (u309=0))) (qt decide_eq_true_iff) h ?_ ?_
  .intro h e2
   refine Dpn rfl rfl rfl rfl rfl (.inl (by rw[e2];rfl)) rfl ?_
   refine Drn rfl rfl rfl rfl rfl (.inl (by rw[e2];rfl)) rfl ?_
   refine Dgn rfl rfl rfl rfl rfl (.inl (by rw[e2];rfl)) rfl ?_
   refine Dgn rfl rfl rfl rfl rfl (.inl (by rw[e2];rfl)) rfl ?_
   refine Dgn rfl rfl rfl rfl rfl (.inl (by rw[e2];rfl)) rfl ?_
   refine Dpn rfl rfl rfl rfl rfl (.inl (by rw[e2];rfl)) rfl ?_
   refine Dp rfl rfl rfl rfl (wa rfl (evb e2) rfl) ?_
   refine zq ?_;refine Dpn rfl rfl rfl rfl rfl (.inl rfl) rfl ?_
   refine Dpn rfl rfl rfl rfl rfl (.inl rfl) rfl ?_
   refine Dp rfl rfl rfl rfl (wa rfl (evb rfl) rfl) ?_
   refine zq ?_;refine Dpn rfl rfl rfl rfl rfl (.inl rfl) rfl ?_
   refine Dpn rfl rfl rfl rfl rfl (.inl rfl) rfl ?_
   refine Drn rfl rfl rfl rfl rfl (.inl rfl) rfl ?_
   refine Dgn rfl rfl rfl rfl rfl (.inl rfl) rfl ?_
   refine Dpn rfl rfl rfl rfl rfl (.inl rfl) rfl ?_
   refine Dp rfl rfl rfl rfl (wa rfl (evb rfl) rfl) ?_
   refine⟨_,wg.refl _,fun hdj=>?_⟩
   replace h:=h hdj
   refine qc ?_;exact⟨_,FL,h⟩
  intro h e2
  obtain⟨u312,u313,u314,u315,u316,u317,u318,u319,u320,u321,u322,u323,u324,hc,h⟩:=h
  refine Dpy rfl rfl rfl rfl rfl e2 rfl (acL rfl underlying57 rfl zK rfl hc) ?_
  obtain⟨u325,u326,u327,u328,u329,u330,u331,u332,u333,u334,u335,u336,u337,hc,h⟩:=h
  refine Dry rfl rfl rfl rfl rfl e2 rfl (abR rfl underlying57 rfl zK rfl hc) ?_
  refine Dgy rfl rfl rfl rfl rfl e2 rfl (qF rfl func32 rfl rfl rfl (qb.mono h ?_))
  rintro v I ⟨u338,u339,u340,u341,u342,u343,u344,u345,u346,u347,u348,u349,u350,rfl,h⟩;refine Dgy rfl rfl rfl rfl rfl e2 rfl (qF rfl func32 rfl rfl rfl (qb.mono h ?_))
  rintro v I ⟨u351,u352,u353,u354,u355,u356,u357,u358,u359,u360,u361,u362,u363,rfl,h⟩;refine Dgy rfl rfl rfl rfl rfl e2 rfl (qF rfl func35 rfl rfl rfl (qb.mono h ?_))
  rintro v I ⟨u364,rfl,h⟩;refine Dpy rfl rfl rfl rfl rfl e2 rfl (um rfl rfl) ?_
  refine Dp rfl rfl rfl rfl (wx rfl (evb e2) rfl) ?_
  refine zq ?_;refine jP (!u364) (qt Iff.rfl) h ?_ ?_
  .intro h e10
   refine Dpn rfl rfl rfl rfl rfl (.inl (by rw[e10];rfl)) rfl ?_
   refine Dpn rfl rfl rfl rfl rfl (.inl (by rw[e10];rfl)) rfl ?_
   refine Dp rfl rfl rfl rfl (wa rfl (evb e10) rfl) ?_
   refine zq ?_;refine Dpn rfl rfl rfl rfl rfl (.inl rfl) rfl ?_
   refine Dpn rfl rfl rfl rfl rfl (.inl rfl) rfl ?_
   refine Drn rfl rfl rfl rfl rfl (.inl rfl) rfl ?_
   refine Dgn rfl rfl rfl rfl rfl (.inl rfl) rfl ?_
   refine Dpn rfl rfl rfl rfl rfl (.inl rfl) rfl ?_
   refine Dp rfl rfl rfl rfl (wa rfl (evb rfl) rfl) ?_
   refine⟨_,wg.refl _,fun hdj=>?_⟩
   replace h:=h hdj
   refine qc ?_;exact⟨_,FL,h⟩
  intro h e10
  refine Dpy rfl rfl rfl rfl rfl e10 rfl (vl rfl rfl) ?_
  refine Dpy rfl rfl rfl rfl rfl e10 rfl (acK rfl rfl rfl) ?_
  refine Dp rfl rfl rfl rfl (wx rfl (evb e10) rfl) ?_
  refine zq ?_;refine jP (!(decide (u279=0))) (qt decide_eq_true_iff) h ?_ ?_
  .intro h e14
   refine Dpn rfl rfl rfl rfl rfl (.inl (by rw[e14];rfl)) rfl ?_
   refine Dpn rfl rfl rfl rfl rfl (.inl (by rw[e14];rfl)) rfl ?_
   refine Drn rfl rfl rfl rfl rfl (.inl (by rw[e14];rfl)) rfl ?_
   refine Dgn rfl rfl rfl rfl rfl (.inl (by rw[e14];rfl)) rfl ?_
   refine Dpn rfl rfl rfl rfl rfl (.inl (by rw[e14];rfl)) rfl ?_
   refine Dp rfl rfl rfl rfl (wa rfl (evb e14) rfl) ?_
   refine⟨_,wg.refl _,fun hdj=>?_⟩
   replace h:=h hdj
   refine qc ?_;exact⟨_,FL,h⟩
  intro h e14
  refine Dpy rfl rfl rfl rfl rfl e14 rfl (qx rfl underlying96 rfl qV (by decide) rfl) ?_
  refine Dpy rfl rfl rfl rfl rfl e14 rfl (vl rfl rfl) ?_
  obtain⟨u365,hc,h⟩:=h
  refine Dry rfl rfl rfl rfl rfl e14 rfl (vb rfl underlying24 rfl rfl hc) ?_
  refine Dgy rfl rfl rfl rfl rfl e14 rfl (qF rfl func18 rfl rfl rfl (qb.mono h ?_))
  rintro v I ⟨u366,rfl,h⟩;refine Dpy rfl rfl rfl rfl rfl e14 rfl (um rfl rfl) ?_
  refine Dp rfl rfl rfl rfl (wx rfl (evb e14) rfl) ?_
  refine⟨_,wg.refl _,fun hdj=>?_⟩
  replace h:=h hdj
  refine qc ?_;exact⟨_,FL,h⟩
 rintro fr I ⟨u311,hl,h⟩;refine AW.weaken ?_ hl (HLe.refl _)
 unfold wF at h;refine zj h (fun h=>?_) fun h=>?_
 .refine z3 ?_;refine zp ?_;refine z2 ?_;refine AW.ret ?_;refine qi ?_;exact bR1 results8 rfl ⟨_,rfl,h⟩
 refine AW.skip ?_;refine qc (z3 ?_);refine zf underlying57 ty3 ?_;refine zL underlying3 h fun u367 h=>?_;iterate 2 refine zp ?_
 refine qq 4 (decide (u367=8)) decide_eq_true_iff h (fun fr I=> ∃(u368:Bool),qk [(2,.pointer (some ⟨u0,0,none⟩)),(13,.pointer (some ⟨u280,0,none⟩)),(157,.bool u368)] fr/\zQ B ro u0 u280 Q u368 I) ?_ ?_ ?_
 .intro h e3 hk3;refine qr (qx rfl underlying96 rfl ty3 (by decide) rfl) rfl rfl rfl rfl e3 ?_
  obtain⟨u369,hc,h⟩:=h
  refine Lyb rfl rfl rfl rfl e3 (qM rfl underlying3 rfl rfl hc ?_)
  refine zy e3 ?_;refine zk e3 ?_;exact hk3 _ _ ⟨_,FL,h⟩
 .intro h e3 hk3;iterate 3 refine zn e3 ?_
  refine zk e3 ?_;exact hk3 _ _ ⟨_,FL,h⟩
 rintro fr I ⟨u368,hl,h⟩;unfold zQ at h;refine Lfr hl ?_
 refine zp ?_;refine qq 4 u368 Iff.rfl h (fun fr I=> ∃(u370:Bool),qk [(2,.pointer (some ⟨u0,0,none⟩)),(13,.pointer (some ⟨u280,0,none⟩)),(162,.bool u370)] fr/\zP B ro u0 u280 Q u370 I) ?_ ?_ ?_
 .intro h e8 hk8;refine qr (qx rfl underlying96 rfl ty9 (by decide) rfl) rfl rfl rfl rfl e8 ?_
  obtain⟨u371,hc,h⟩:=h
  refine Lyb rfl rfl rfl rfl e8 (qM rfl underlying9 rfl rfl hc ?_)
  refine zy e8 ?_;refine zk e8 ?_;exact hk8 _ _ ⟨_,FL,h⟩
 .intro h e8 hk8;iterate 3 refine zn e8 ?_
  refine zk e8 ?_;exact hk8 _ _ ⟨_,FL,h⟩
 rintro fr I ⟨u370,hl,h⟩;unfold zP at h;refine Lfr hl ?_
 refine zp ?_;refine qq 16 u370 Iff.rfl h (fun fr I=> ∃(u372:Bool),qk [(179,.bool u372)] fr/\zO B ro Q u372 I) ?_ ?_ ?_
 .intro h e13 hk13;iterate 4 refine zn e13 ?_
  refine Ln rfl rfl rfl rfl (.inr rfl) ?_
  refine Ln rfl rfl rfl rfl (.inr rfl) ?_
  refine Ln rfl rfl rfl rfl (.inr rfl) ?_
  iterate 2 refine zn e13 ?_
  refine Ln rfl rfl rfl rfl (.inr rfl) ?_
  refine Ln rfl rfl rfl rfl (.inr rfl) ?_
  refine Ln rfl rfl rfl rfl (.inr rfl) ?_
  refine Ln rfl rfl rfl rfl (.inr rfl) ?_
  refine Ln rfl rfl rfl rfl (.inr rfl) ?_
  refine zn e13 ?_;refine zk e13 ?_;exact hk13 _ _ ⟨_,FL,h⟩
 .intro h e13 hk13;refine qr (qx rfl underlying57 rfl ty3 (by decide) rfl) rfl rfl rfl rfl e13 ?_
  obtain⟨u373,hc,h⟩:=h
  refine Lyb rfl rfl rfl rfl e13 (qM rfl underlying3 rfl rfl hc ?_)
  refine zy e13 ?_;refine zy e13 ?_;refine qq 4 (!(decide (u373=8))) (qt decide_eq_true_iff) h (fun fr I=> ∃(u374:Bool),qk [(2,.pointer (some ⟨u0,0,none⟩)),(13,.pointer (some ⟨u280,0,none⟩)),(163,.bool u370),(171,.bool u374)] fr/\vC B ro u0 u280 u370 Q u374 I) ?_ ?_ ?_
  .intro h e17 hk17;refine qr (qx rfl underlying96 rfl ty3 (by decide) rfl) rfl rfl rfl rfl e17 ?_
   obtain⟨u375,hc,h⟩:=h
   refine Lyb rfl rfl rfl rfl e17 (qM rfl underlying3 rfl rfl hc ?_)
   refine zy e17 ?_;refine qr (wa rfl (evb e17) rfl) rfl rfl rfl rfl e13 ?_
   exact hk17 _ _ ⟨_,FL,h⟩
  .intro h e17 hk17;iterate 3 refine zn e17 ?_
   refine qr (wx rfl (evb e17) rfl) rfl rfl rfl rfl e13 ?_
   exact hk17 _ _ ⟨_,FL,h⟩
  rintro fr I ⟨u374,hl,h⟩;unfold vC at h;refine Lfr hl ?_
  refine zy e13 ?_;refine qq 6 u374 Iff.rfl h (fun fr I=> ∃(u376:Bool),qk [(163,.bool u370),(178,.bool u376)] fr/\vB B ro u370 Q u376 I) ?_ ?_ ?_
  .intro h e22 hk22;refine qr (qx rfl underlying96 rfl ty9 (by decide) rfl) rfl rfl rfl rfl e22 ?_
   obtain⟨u377,hc,h⟩:=h
   refine Lyb rfl rfl rfl rfl e22 (qM rfl underlying9 rfl rfl hc ?_)
   refine qr (qx rfl underlying57 rfl ty9 (by decide) rfl) rfl rfl rfl rfl e22 ?_
   obtain⟨u378,hc,h⟩:=h
   refine Lyb rfl rfl rfl rfl e22 (qM rfl underlying9 rfl rfl hc ?_)
   refine zy e22 ?_;refine qr (wa rfl (evb e22) rfl) rfl rfl rfl rfl e13 ?_
   exact hk22 _ _ ⟨_,FL,h⟩
  .intro h e22 hk22;iterate 5 refine zn e22 ?_
   refine qr (wx rfl (evb e22) rfl) rfl rfl rfl rfl e13 ?_
   exact hk22 _ _ ⟨_,FL,h⟩
  rintro fr I ⟨u376,hl,h⟩;unfold vB at h;refine Lfr hl ?_
  refine zk e13 ?_;exact hk13 _ _ ⟨_,FL,h⟩
 rintro fr I ⟨u372,hl,h⟩;unfold zO at h;refine Lfr hl ?_
 refine zp ?_;refine qq 2 u372 Iff.rfl h (fun fr I=> ∃(u379:Bool),qk [(182,.bool u379)] fr/\vA B ro Q u379 I) ?_ ?_ ?_
 .intro h e30 hk30;refine Lyb rfl rfl rfl rfl e30 (qF rfl func20 rfl rfl rfl (qb.mono h ?_))
  rintro v I ⟨u380,rfl,h⟩;refine zk e30 ?_;exact hk30 _ _ ⟨_,FL,h⟩
 .intro h e30 hk30;refine zn e30 ?_;refine zk e30 ?_;exact hk30 _ _ ⟨_,FL,h⟩
 rintro fr I ⟨u379,hl,h⟩;unfold vA at h;refine Lfr hl ?_
 refine zp ?_;refine z2 ?_;refine AW.ret ?_;exact bR1 results8 rfl ⟨_,rfl,h⟩
def abM(B:World)(ro:AH)(a0_0:Int)(a0_1:ByteArray)(a0_2 a0_3 a0_4 a0_5 a0_6 a0_7:Int)(a0_8:Sl)(a0_9:ByteArray)(a0_10:Bool)(a0_11:Int)(a0_12:Sl)(I:AH)(Q:Int->ByteArray->Int->Int->Int->Int->Int->Int->Sl->ByteArray->Bool->Int->Sl->AH->Prop):=
 nw ro I (.cells #[.int .i64 a0_0,.string a0_1,.int .i64 a0_2,.int .i64 a0_3,.int .i64 a0_4,.int .i64 a0_5,.int .i64 a0_6,.int .i64 a0_7,Sl.v a0_8,.string a0_9,.bool a0_10,.int .i64 a0_11,Sl.v a0_12] 57) fun u0 I=>
 nw ro I (.cells #[.int .i64 0,.string ByteArray.empty,.int .i64 0,.int .i64 0,.int .i64 0,.int .i64 0,.int .i64 0,.int .i64 0,Sl.v (⟨none,0,0⟩:Sl),.string ByteArray.empty,.bool false,.int .i64 0,Sl.v (⟨none,0,0⟩:Sl)] 88) fun u1 I=>
 pn I fun U I=>
 ∃u2,qa (join ro U) (fun _=>none) ⟨u0,0,none⟩=some (.int .i64 u2)/\
 ∃u3,qa (join ro U) (fun _=>none) ((⟨u0,0,none⟩:Addr).add 1)=some (.string u3)/\
 ∃u4,qa (join ro U) (fun _=>none) ((⟨u0,0,none⟩:Addr).add 2)=some (.int .i64 u4)/\
 ∃u5,qa (join ro U) (fun _=>none) ((⟨u0,0,none⟩:Addr).add 3)=some (.int .i64 u5)/\
 ∃u6,qa (join ro U) (fun _=>none) ((⟨u0,0,none⟩:Addr).add 4)=some (.int .i64 u6)/\
 ∃u7,qa (join ro U) (fun _=>none) ((⟨u0,0,none⟩:Addr).add 5)=some (.int .i64 u7)/\
 ∃u8,qa (join ro U) (fun _=>none) ((⟨u0,0,none⟩:Addr).add 6)=some (.int .i64 u8)/\
 ∃u9,qa (join ro U) (fun _=>none) ((⟨u0,0,none⟩:Addr).add 7)=some (.int .i64 u9)/\
 ∃u10,qa (join ro U) (fun _=>none) ((⟨u0,0,none⟩:Addr).add 9)=some (.string u10)/\
 ∃u11,qa (join ro U) (fun _=>none) ((⟨u0,0,none⟩:Addr).add 10)=some (.bool u11)/\
 ∃u12,qa (join ro U) (fun _=>none) ((⟨u0,0,none⟩:Addr).add 11)=some (.int .i64 u12)/\
 ∃u13,qa (join ro U) (fun _=>none) ((⟨u0,0,none⟩:Addr).add 12)=some (Sl.v u13)/\
 ∃u14,qa (join ro U) I ((⟨u0,0,none⟩:Addr).add 8)=some (Sl.v u14)/\
 acd B (join ro U) u14 I fun u15 I=>
 (qz U I->(fun I=>
  stN ⟨u1,0,none⟩ (fun I=>
  ∃u16 u17 u18 u19 u20 u21 u22 u23 u24 u25 u26 u27 u28,qj ro I ⟨u1,0,none⟩ 0 [.int .i64 u16,.string u17,.int .i64 u18,.int .i64 u19,.int .i64 u20,.int .i64 u21,.int .i64 u22,.int .i64 u23,Sl.v u24,.string u25,.bool u26,.int .i64 u27,Sl.v u28]/\
  Q u16 u17 u18 u19 u20 u21 u22 u23 u24 u25 u26 u27 u28 I) [.int .i64 u2,.string u3,.int .i64 u4,.int .i64 u5,.int .i64 u6,.int .i64 u7,.int .i64 u8,.int .i64 u9,Sl.v u15,.string u10,.bool u11,.int .i64 u12,Sl.v u13] 0 I) (join U I))
theorem af3{a0_0:Int}{a0_1:ByteArray}{a0_2 a0_3 a0_4 a0_5 a0_6 a0_7:Int}{a0_8:Sl}{a0_9:ByteArray}{a0_10:Bool}{a0_11:Int}{a0_12:Sl}{Q:Int->ByteArray->Int->Int->Int->Int->Int->Int->Sl->ByteArray->Bool->Int->Sl->AH->Prop}(h:Sep ro I->abM B ro a0_0 a0_1 a0_2 a0_3 a0_4 a0_5 a0_6 a0_7 a0_8 a0_9 a0_10 a0_11 a0_12 I Q):vc B ro a0_0 a0_1 a0_2 a0_3 a0_4 a0_5 a0_6 a0_7 a0_8 a0_9 a0_10 a0_11 a0_12 I Q:=by
 refine zb h func32 ntmps32 fun h=>?_;unfold abM at h;refine z3 ?_;refine zA (vq rfl rfl) h fun u0 h=>?_;refine zA (wH rfl jT) h fun u1 h=>?_;refine z2 (AW.seq ?_)
 refine AW.drawn2 (fun i=>([0,0,0,0,0,0,0,0,0,0,0,0,0,0,0,0,0,3,2,0,0,0,0,0,0,0,0,0,2]:List Nat).getD i 2) [(0,1),(0,27),(2,3),(2,27),(4,5),(4,27),(6,7),(6,27),(8,9),(8,27),(10,11),(10,27),(12,13),(12,27),(14,15),(14,27),(16,17),(16,18),(16,27),(17,18),(17,27),(19,20),(19,27),(21,22),(21,27),(23,24),(23,27),(25,26),(25,27)] [0,1,2,3,4,5,6,7,8,9,10,11,12,13,14,15,16,19,20,21,22,23,24,25,26,17,18] [27,28] mixed h (by decide+kernel) ?_
 clear h
 intro U I h
 refine zg underlying57 ty3 ?_;obtain⟨u2,hc,h⟩:=h
 refine Dp rfl rfl rfl rfl (zS rfl underlying3 rfl rfl hc) ?_
 refine zg underlying57 ty9 ?_;obtain⟨u3,hc,h⟩:=h
 refine Dp rfl rfl rfl rfl (zS rfl underlying9 rfl rfl hc) ?_
 refine zg underlying57 ty3 ?_;obtain⟨u4,hc,h⟩:=h
 refine Dp rfl rfl rfl rfl (zS rfl underlying3 rfl rfl hc) ?_
 refine zg underlying57 ty3 ?_;obtain⟨u5,hc,h⟩:=h
 refine Dp rfl rfl rfl rfl (zS rfl underlying3 rfl rfl hc) ?_
 refine zg underlying57 ty3 ?_;obtain⟨u6,hc,h⟩:=h
 refine Dp rfl rfl rfl rfl (zS rfl underlying3 rfl rfl hc) ?_
 refine zg underlying57 ty3 ?_;obtain⟨u7,hc,h⟩:=h
 refine Dp rfl rfl rfl rfl (zS rfl underlying3 rfl rfl hc) ?_
 refine zg underlying57 ty3 ?_;obtain⟨u8,hc,h⟩:=h
 refine Dp rfl rfl rfl rfl (zS rfl underlying3 rfl rfl hc) ?_
 refine zg underlying57 ty3 ?_;obtain⟨u9,hc,h⟩:=h
 refine Dp rfl rfl rfl rfl (zS rfl underlying3 rfl rfl hc) ?_
 refine zg underlying57 adt ?_;refine zg underlying57 ty9 ?_;obtain⟨u10,hc,h⟩:=h
 refine Dp rfl rfl rfl rfl (zS rfl underlying9 rfl rfl hc) ?_
 refine zg underlying57 ty4 ?_;obtain⟨u11,hc,h⟩:=h
 refine Dp rfl rfl rfl rfl (zS rfl underlying4 rfl rfl hc) ?_
 refine zg underlying57 ty3 ?_;obtain⟨u12,hc,h⟩:=h
 refine Dp rfl rfl rfl rfl (zS rfl underlying3 rfl rfl hc) ?_
 refine zg underlying57 xR ?_;obtain⟨u13,hc,h⟩:=h
 refine Dp rfl rfl rfl rfl (zS rfl underlying55 rfl rfl hc) ?_
 obtain⟨u14,hc,h⟩:=h
 refine Dr rfl rfl rfl rfl (vb rfl underlying54 rfl rfl hc) ?_
 refine Dg rfl rfl rfl rfl (qF rfl func93 rfl rfl rfl (qb.mono h ?_))
 rintro v I ⟨u15,rfl,h⟩;refine⟨_,wg.refl _,fun hdj=>?_⟩
 replace h:=h hdj
 refine Dp rfl rfl rfl rfl (wV (vs:=[(0,.int .i64 u2),(1,.string u3),(2,.int .i64 u4),(3,.int .i64 u5),(4,.int .i64 u6),(5,.int .i64 u7),(6,.int .i64 u8),(7,.int .i64 u9),(8,Sl.v u15),(9,.string u10),(10,.bool u11),(11,.int .i64 u12),(12,Sl.v u13)]) (cs:= #[.int .i64 u2,.string u3,.int .i64 u4,.int .i64 u5,.int .i64 u6,.int .i64 u7,.int .i64 u8,.int .i64 u9,Sl.v u15,.string u10,.bool u11,.int .i64 u12,Sl.v u13]) rfl underlying88 jT ai8 rfl (by kernel_rfl)) ?_
 refine Dg rfl rfl rfl rfl (aej rfl jT rfl rfl rfl rfl (us h fun I h=>?_))
 refine aat ?_
 refine qc ?_;refine AW.ret ?_;obtain⟨u16,u17,u18,u19,u20,u21,u22,u23,u24,u25,u26,u27,u28,hc0,h⟩:=h
 exact ab2 results32 (wS (jR rfl underlying88 rfl jT hc0) jQ) ⟨_,_,_,_,_,_,_,_,_,_,_,_,_,rfl,h⟩
def kk(B:World)(ro:AH)(Q:Bool->AH->Prop)(u0:Bool)(I:AH):=
 Q u0 I
def kl(B:World)(ro:AH)(u0 u1:Nat)(Q:Bool->AH->Prop)(u2:Bool)(I:AH):=
 if u2=true then
 ∃u3,qa ro I ((⟨u0,0,none⟩:Addr).add 12)=some (Sl.v u3)/\
 ∃u4,qa ro I ((⟨u1,0,none⟩:Addr).add 12)=some (Sl.v u4)/\
 uw B ro u3 u4 I fun u5 I=>
 kk B ro Q u5 I
 else
 kk B ro Q false I
def ko(B:World)(ro:AH)(u0 u1:Nat)(Q:Bool->AH->Prop)(u2:Bool)(I:AH):=
 if u2=true then
 ∃u3,qa ro I ((⟨u0,0,none⟩:Addr).add 11)=some (.int .i64 u3)/\
 ∃u4,qa ro I ((⟨u1,0,none⟩:Addr).add 11)=some (.int .i64 u4)/\
 kl B ro u0 u1 Q (decide (u3=u4)) I
 else
 kl B ro u0 u1 Q false I
def kp(B:World)(ro:AH)(u0 u1:Nat)(Q:Bool->AH->Prop)(u2:Bool)(I:AH):=
 if u2=true then
 ∃u3,qa ro I ((⟨u0,0,none⟩:Addr).add 10)=some (.bool u3)/\
 ∃u4,qa ro I ((⟨u1,0,none⟩:Addr).add 10)=some (.bool u4)/\
 ko B ro u0 u1 Q (u3 == u4) I
 else
 ko B ro u0 u1 Q false I
def kq(B:World)(ro:AH)(u0 u1:Nat)(Q:Bool->AH->Prop)(u2:Bool)(I:AH):=
 if u2=true then
 ∃u3,qa ro I ((⟨u0,0,none⟩:Addr).add 9)=some (.string u3)/\
 ∃u4,qa ro I ((⟨u1,0,none⟩:Addr).add 9)=some (.string u4)/\
 kp B ro u0 u1 Q (decide (u3=u4)) I
 else
 kp B ro u0 u1 Q false I
def kr(B:World)(ro:AH)(u0 u1:Nat)(Q:Bool->AH->Prop)(u2:Bool)(I:AH):=
 if u2=true then
 ∃u3,qa ro I ((⟨u0,0,none⟩:Addr).add 8)=some (Sl.v u3)/\
 ∃u4,qa ro I ((⟨u1,0,none⟩:Addr).add 8)=some (Sl.v u4)/\
 uQ B ro u3 u4 I fun u5 I=>
 kq B ro u0 u1 Q u5 I
 else
 kq B ro u0 u1 Q false I
def ks(B:World)(ro:AH)(u0 u1:Nat)(Q:Bool->AH->Prop)(u2:Bool)(I:AH):=
 if u2=true then
 ∃u3,qa ro I ((⟨u0,0,none⟩:Addr).add 7)=some (.int .i64 u3)/\
 ∃u4,qa ro I ((⟨u1,0,none⟩:Addr).add 7)=some (.int .i64 u4)/\
 kr B ro u0 u1 Q (decide (u3=u4)) I
 else
 kr B ro u0 u1 Q false I
def ku(B:World)(ro:AH)(u0 u1:Nat)(Q:Bool->AH->Prop)(u2:Bool)(I:AH):=
 if u2=true then
 ∃u3,qa ro I ((⟨u0,0,none⟩:Addr).add 6)=some (.int .i64 u3)/\
 ∃u4,qa ro I ((⟨u1,0,none⟩:Addr).add 6)=some (.int .i64 u4)/\
 ks B ro u0 u1 Q (decide (u3=u4)) I
 else
 ks B ro u0 u1 Q false I
def kw(B:World)(ro:AH)(u0 u1:Nat)(Q:Bool->AH->Prop)(u2:Bool)(I:AH):=
 if u2=true then
 ∃u3,qa ro I ((⟨u0,0,none⟩:Addr).add 5)=some (.int .i64 u3)/\
 ∃u4,qa ro I ((⟨u1,0,none⟩:Addr).add 5)=some (.int .i64 u4)/\
 ku B ro u0 u1 Q (decide (u3=u4)) I
 else
 ku B ro u0 u1 Q false I
def xw(B:World)(ro:AH)(u0 u1:Nat)(Q:Bool->AH->Prop)(u2:Bool)(I:AH):=
 if u2=true then
 ∃u3,qa ro I ((⟨u0,0,none⟩:Addr).add 4)=some (.int .i64 u3)/\
 ∃u4,qa ro I ((⟨u1,0,none⟩:Addr).add 4)=some (.int .i64 u4)/\
 kw B ro u0 u1 Q (decide (u3=u4)) I
 else
 kw B ro u0 u1 Q false I
def xx(B:World)(ro:AH)(u0 u1:Nat)(Q:Bool->AH->Prop)(u2:Bool)(I:AH):=
 if u2=true then
 ∃u3,qa ro I ((⟨u0,0,none⟩:Addr).add 3)=some (.int .i64 u3)/\
 ∃u4,qa ro I ((⟨u1,0,none⟩:Addr).add 3)=some (.int .i64 u4)/\
 xw B ro u0 u1 Q (decide (u3=u4)) I
 else
 xw B ro u0 u1 Q false I
def xy(B:World)(ro:AH)(u0 u1:Nat)(Q:Bool->AH->Prop)(u2:Bool)(I:AH):=
 if u2=true then
 ∃u3,qa ro I ((⟨u0,0,none⟩:Addr).add 2)=some (.int .i64 u3)/\
 ∃u4,qa ro I ((⟨u1,0,none⟩:Addr).add 2)=some (.int .i64 u4)/\
 xx B ro u0 u1 Q (decide (u3=u4)) I
 else
 xx B ro u0 u1 Q false I
def uF(B:World)(ro:AH)(a0_0:Int)(a0_1:ByteArray)(a0_2 a0_3 a0_4 a0_5 a0_6 a0_7:Int)(a0_8:Sl)(a0_9:ByteArray)(a0_10:Bool)(a0_11:Int)(a0_12:Sl)(a1_0:Int)(a1_1:ByteArray)(a1_2 a1_3 a1_4 a1_5 a1_6 a1_7:Int)(a1_8:Sl)(a1_9:ByteArray)(a1_10:Bool)(a1_11:Int)(a1_12:Sl)(I:AH)(Q:Bool->AH->Prop):=
 nw ro I (.cells #[.int .i64 a0_0,.string a0_1,.int .i64 a0_2,.int .i64 a0_3,.int .i64 a0_4,.int .i64 a0_5,.int .i64 a0_6,.int .i64 a0_7,Sl.v a0_8,.string a0_9,.bool a0_10,.int .i64 a0_11,Sl.v a0_12] 88) fun u0 I=>
 nw ro I (.cells #[.int .i64 a1_0,.string a1_1,.int .i64 a1_2,.int .i64 a1_3,.int .i64 a1_4,.int .i64 a1_5,.int .i64 a1_6,.int .i64 a1_7,Sl.v a1_8,.string a1_9,.bool a1_10,.int .i64 a1_11,Sl.v a1_12] 88) fun u1 I=>
 ∃u2,qa ro I ⟨u0,0,none⟩=some (.int .i64 u2)/\
 ∃u3,qa ro I ⟨u1,0,none⟩=some (.int .i64 u3)/\
 if u2=u3 then
 ∃u4,qa ro I ((⟨u0,0,none⟩:Addr).add 1)=some (.string u4)/\
 ∃u5,qa ro I ((⟨u1,0,none⟩:Addr).add 1)=some (.string u5)/\
 xy B ro u0 u1 Q (decide (u4=u5)) I
 else
 xy B ro u0 u1 Q false I
theorem ad6{a0_0:Int}{a0_1:ByteArray}{a0_2 a0_3 a0_4 a0_5 a0_6 a0_7:Int}{a0_8:Sl}{a0_9:ByteArray}{a0_10:Bool}{a0_11:Int}{a0_12:Sl}{a1_0:Int}{a1_1:ByteArray}{a1_2 a1_3 a1_4 a1_5 a1_6 a1_7:Int}{a1_8:Sl}{a1_9:ByteArray}{a1_10:Bool}{a1_11:Int}{a1_12:Sl}{Q:Bool->AH->Prop}(h:Sep ro I->uF B ro a0_0 a0_1 a0_2 a0_3 a0_4 a0_5 a0_6 a0_7 a0_8 a0_9 a0_10 a0_11 a0_12 a1_0 a1_1 a1_2 a1_3 a1_4 a1_5 a1_6 a1_7 a1_8 a1_9 a1_10 a1_11 a1_12 I Q):zE B ro a0_0 a0_1 a0_2 a0_3 a0_4 a0_5 a0_6 a0_7 a0_8 a0_9 a0_10 a0_11 a0_12 a1_0 a1_1 a1_2 a1_3 a1_4 a1_5 a1_6 a1_7 a1_8 a1_9 a1_10 a1_11 a1_12 I Q:=by
 refine zb h func35 ntmps35 fun h=>?_;unfold uF at h;refine z3 ?_;refine zA (vq rfl rfl) h fun u0 h=>?_;refine zA (vq rfl rfl) h fun u1 h=>?_;refine zp ?_;refine z4 ?_;refine zf underlying88 ty3 ?_;refine zL underlying3 h fun u2 h=>?_;refine zf underlying88 ty3 ?_;refine zL underlying3 h fun u3 h=>?_;iterate 2 refine zp ?_
 refine qq 6 (decide (u2=u3)) decide_eq_true_iff h (fun fr I=> ∃(u4:Bool),qk [(2,.pointer (some ⟨u0,0,none⟩)),(3,.pointer (some ⟨u1,0,none⟩)),(16,.bool u4)] fr/\xy B ro u0 u1 Q u4 I) ?_ ?_ ?_
 .intro h e5 hk5;refine qr (qx rfl underlying88 rfl ty9 (by decide) rfl) rfl rfl rfl rfl e5 ?_
  obtain⟨u5,hc,h⟩:=h
  refine Lyb rfl rfl rfl rfl e5 (qM rfl underlying9 rfl rfl hc ?_)
  refine qr (qx rfl underlying88 rfl ty9 (by decide) rfl) rfl rfl rfl rfl e5 ?_
  obtain⟨u6,hc,h⟩:=h
  refine Lyb rfl rfl rfl rfl e5 (qM rfl underlying9 rfl rfl hc ?_)
  refine zy e5 ?_;refine zk e5 ?_;exact hk5 _ _ ⟨_,FL,h⟩
 .intro h e5 hk5;iterate 5 refine zn e5 ?_
  refine zk e5 ?_;exact hk5 _ _ ⟨_,FL,h⟩
 rintro fr I ⟨u4,hl,h⟩;unfold xy at h;refine Lfr hl ?_
 refine zp ?_;refine qq 6 u4 Iff.rfl h (fun fr I=> ∃(u7:Bool),qk [(2,.pointer (some ⟨u0,0,none⟩)),(3,.pointer (some ⟨u1,0,none⟩)),(23,.bool u7)] fr/\xx B ro u0 u1 Q u7 I) ?_ ?_ ?_
 .intro h e12 hk12;refine qr (qx rfl underlying88 rfl ty3 (by decide) rfl) rfl rfl rfl rfl e12 ?_
  obtain⟨u8,hc,h⟩:=h
  refine Lyb rfl rfl rfl rfl e12 (qM rfl underlying3 rfl rfl hc ?_)
  refine qr (qx rfl underlying88 rfl ty3 (by decide) rfl) rfl rfl rfl rfl e12 ?_
  obtain⟨u9,hc,h⟩:=h
  refine Lyb rfl rfl rfl rfl e12 (qM rfl underlying3 rfl rfl hc ?_)
  refine zy e12 ?_;refine zk e12 ?_;exact hk12 _ _ ⟨_,FL,h⟩
 .intro h e12 hk12;iterate 5 refine zn e12 ?_
  refine zk e12 ?_;exact hk12 _ _ ⟨_,FL,h⟩
 rintro fr I ⟨u7,hl,h⟩;unfold xx at h;refine Lfr hl ?_
 refine zp ?_;refine qq 6 u7 Iff.rfl h (fun fr I=> ∃(u10:Bool),qk [(2,.pointer (some ⟨u0,0,none⟩)),(3,.pointer (some ⟨u1,0,none⟩)),(30,.bool u10)] fr/\xw B ro u0 u1 Q u10 I) ?_ ?_ ?_
 .intro h e19 hk19;refine qr (qx rfl underlying88 rfl ty3 (by decide) rfl) rfl rfl rfl rfl e19 ?_
  obtain⟨u11,hc,h⟩:=h
  refine Lyb rfl rfl rfl rfl e19 (qM rfl underlying3 rfl rfl hc ?_)
  refine qr (qx rfl underlying88 rfl ty3 (by decide) rfl) rfl rfl rfl rfl e19 ?_
  obtain⟨u12,hc,h⟩:=h
  refine Lyb rfl rfl rfl rfl e19 (qM rfl underlying3 rfl rfl hc ?_)
  refine zy e19 ?_;refine zk e19 ?_;exact hk19 _ _ ⟨_,FL,h⟩
 .intro h e19 hk19;iterate 5 refine zn e19 ?_
  refine zk e19 ?_;exact hk19 _ _ ⟨_,FL,h⟩
 rintro fr I ⟨u10,hl,h⟩;unfold xw at h;refine Lfr hl ?_
 refine zp ?_;refine qq 6 u10 Iff.rfl h (fun fr I=> ∃(u13:Bool),qk [(2,.pointer (some ⟨u0,0,none⟩)),(3,.pointer (some ⟨u1,0,none⟩)),(37,.bool u13)] fr/\kw B ro u0 u1 Q u13 I) ?_ ?_ ?_
 .intro h e26 hk26;refine qr (qx rfl underlying88 rfl ty3 (by decide) rfl) rfl rfl rfl rfl e26 ?_
  obtain⟨u14,hc,h⟩:=h
  refine Lyb rfl rfl rfl rfl e26 (qM rfl underlying3 rfl rfl hc ?_)
  refine qr (qx rfl underlying88 rfl ty3 (by decide) rfl) rfl rfl rfl rfl e26 ?_
  obtain⟨u15,hc,h⟩:=h
  refine Lyb rfl rfl rfl rfl e26 (qM rfl underlying3 rfl rfl hc ?_)
  refine zy e26 ?_;refine zk e26 ?_;exact hk26 _ _ ⟨_,FL,h⟩
 .intro h e26 hk26;iterate 5 refine zn e26 ?_
  refine zk e26 ?_;exact hk26 _ _ ⟨_,FL,h⟩
 rintro fr I ⟨u13,hl,h⟩;unfold kw at h;refine Lfr hl ?_
 refine zp ?_;refine qq 6 u13 Iff.rfl h (fun fr I=> ∃(u16:Bool),qk [(2,.pointer (some ⟨u0,0,none⟩)),(3,.pointer (some ⟨u1,0,none⟩)),(44,.bool u16)] fr/\ku B ro u0 u1 Q u16 I) ?_ ?_ ?_
 .intro h e33 hk33;refine qr (qx rfl underlying88 rfl ty3 (by decide) rfl) rfl rfl rfl rfl e33 ?_
  obtain⟨u17,hc,h⟩:=h
  refine Lyb rfl rfl rfl rfl e33 (qM rfl underlying3 rfl rfl hc ?_)
  refine qr (qx rfl underlying88 rfl ty3 (by decide) rfl) rfl rfl rfl rfl e33 ?_
  obtain⟨u18,hc,h⟩:=h
  refine Lyb rfl rfl rfl rfl e33 (qM rfl underlying3 rfl rfl hc ?_)
  refine zy e33 ?_;refine zk e33 ?_;exact hk33 _ _ ⟨_,FL,h⟩
 .intro h e33 hk33;iterate 5 refine zn e33 ?_
  refine zk e33 ?_;exact hk33 _ _ ⟨_,FL,h⟩
 rintro fr I ⟨u16,hl,h⟩;unfold ku at h;refine Lfr hl ?_
 refine zp ?_;refine qq 6 u16 Iff.rfl h (fun fr I=> ∃(u19:Bool),qk [(2,.pointer (some ⟨u0,0,none⟩)),(3,.pointer (some ⟨u1,0,none⟩)),(51,.bool u19)] fr/\ks B ro u0 u1 Q u19 I) ?_ ?_ ?_
 .intro h e40 hk40;refine qr (qx rfl underlying88 rfl ty3 (by decide) rfl) rfl rfl rfl rfl e40 ?_
  obtain⟨u20,hc,h⟩:=h
  refine Lyb rfl rfl rfl rfl e40 (qM rfl underlying3 rfl rfl hc ?_)
  refine qr (qx rfl underlying88 rfl ty3 (by decide) rfl) rfl rfl rfl rfl e40 ?_
  obtain⟨u21,hc,h⟩:=h
  refine Lyb rfl rfl rfl rfl e40 (qM rfl underlying3 rfl rfl hc ?_)
  refine zy e40 ?_;refine zk e40 ?_;exact hk40 _ _ ⟨_,FL,h⟩
 .intro h e40 hk40;iterate 5 refine zn e40 ?_
  refine zk e40 ?_;exact hk40 _ _ ⟨_,FL,h⟩
 rintro fr I ⟨u19,hl,h⟩;unfold ks at h;refine Lfr hl ?_
 refine zp ?_;refine qq 6 u19 Iff.rfl h (fun fr I=> ∃(u22:Bool),qk [(2,.pointer (some ⟨u0,0,none⟩)),(3,.pointer (some ⟨u1,0,none⟩)),(58,.bool u22)] fr/\kr B ro u0 u1 Q u22 I) ?_ ?_ ?_
 .intro h e47 hk47;refine qr (qx rfl underlying88 rfl ty3 (by decide) rfl) rfl rfl rfl rfl e47 ?_
  obtain⟨u23,hc,h⟩:=h
  refine Lyb rfl rfl rfl rfl e47 (qM rfl underlying3 rfl rfl hc ?_)
  refine qr (qx rfl underlying88 rfl ty3 (by decide) rfl) rfl rfl rfl rfl e47 ?_
  obtain⟨u24,hc,h⟩:=h
  refine Lyb rfl rfl rfl rfl e47 (qM rfl underlying3 rfl rfl hc ?_)
  refine zy e47 ?_;refine zk e47 ?_;exact hk47 _ _ ⟨_,FL,h⟩
 .intro h e47 hk47;iterate 5 refine zn e47 ?_
  refine zk e47 ?_;exact hk47 _ _ ⟨_,FL,h⟩
 rintro fr I ⟨u22,hl,h⟩;unfold kr at h;refine Lfr hl ?_
 refine zp ?_;refine qq 6 u22 Iff.rfl h (fun fr I=> ∃(u25:Bool),qk [(2,.pointer (some ⟨u0,0,none⟩)),(3,.pointer (some ⟨u1,0,none⟩)),(65,.bool u25)] fr/\kq B ro u0 u1 Q u25 I) ?_ ?_ ?_
 .intro h e54 hk54;refine qr (qx rfl underlying88 rfl ae8 (by decide) rfl) rfl rfl rfl rfl e54 ?_
  obtain⟨u26,hc,h⟩:=h
  refine Lyb rfl rfl rfl rfl e54 (qM rfl underlying86 rfl rfl hc ?_)
  refine qr (qx rfl underlying88 rfl ae8 (by decide) rfl) rfl rfl rfl rfl e54 ?_
  obtain⟨u27,hc,h⟩:=h
  refine Lyb rfl rfl rfl rfl e54 (qM rfl underlying86 rfl rfl hc ?_)
  refine Lyb rfl rfl rfl rfl e54 (qF rfl func97 rfl rfl rfl (qb.mono h ?_))
  rintro v I ⟨u28,rfl,h⟩;refine zk e54 ?_;exact hk54 _ _ ⟨_,FL,h⟩
 .intro h e54 hk54;iterate 5 refine zn e54 ?_
  refine zk e54 ?_;exact hk54 _ _ ⟨_,FL,h⟩
 rintro fr I ⟨u25,hl,h⟩;unfold kq at h;refine Lfr hl ?_
 refine zp ?_;refine qq 6 u25 Iff.rfl h (fun fr I=> ∃(u29:Bool),qk [(2,.pointer (some ⟨u0,0,none⟩)),(3,.pointer (some ⟨u1,0,none⟩)),(72,.bool u29)] fr/\kp B ro u0 u1 Q u29 I) ?_ ?_ ?_
 .intro h e61 hk61;refine qr (qx rfl underlying88 rfl ty9 (by decide) rfl) rfl rfl rfl rfl e61 ?_
  obtain⟨u30,hc,h⟩:=h
  refine Lyb rfl rfl rfl rfl e61 (qM rfl underlying9 rfl rfl hc ?_)
  refine qr (qx rfl underlying88 rfl ty9 (by decide) rfl) rfl rfl rfl rfl e61 ?_
  obtain⟨u31,hc,h⟩:=h
  refine Lyb rfl rfl rfl rfl e61 (qM rfl underlying9 rfl rfl hc ?_)
  refine zy e61 ?_;refine zk e61 ?_;exact hk61 _ _ ⟨_,FL,h⟩
 .intro h e61 hk61;iterate 5 refine zn e61 ?_
  refine zk e61 ?_;exact hk61 _ _ ⟨_,FL,h⟩
 rintro fr I ⟨u29,hl,h⟩;unfold kp at h;refine Lfr hl ?_
 refine zp ?_;refine qq 6 u29 Iff.rfl h (fun fr I=> ∃(u32:Bool),qk [(2,.pointer (some ⟨u0,0,none⟩)),(3,.pointer (some ⟨u1,0,none⟩)),(79,.bool u32)] fr/\ko B ro u0 u1 Q u32 I) ?_ ?_ ?_
 .intro h e68 hk68;refine qr (qx rfl underlying88 rfl ty4 (by decide) rfl) rfl rfl rfl rfl e68 ?_
  obtain⟨u33,hc,h⟩:=h
  refine Lyb rfl rfl rfl rfl e68 (qM rfl underlying4 rfl rfl hc ?_)
  refine qr (qx rfl underlying88 rfl ty4 (by decide) rfl) rfl rfl rfl rfl e68 ?_
  obtain⟨u34,hc,h⟩:=h
  refine Lyb rfl rfl rfl rfl e68 (qM rfl underlying4 rfl rfl hc ?_)
  refine qr (ak5 rfl underlying4 rfl rfl) rfl rfl rfl rfl e68 ?_
  refine zk e68 ?_;exact hk68 _ _ ⟨_,FL,h⟩
 .intro h e68 hk68;iterate 5 refine zn e68 ?_
  refine zk e68 ?_;exact hk68 _ _ ⟨_,FL,h⟩
 rintro fr I ⟨u32,hl,h⟩;unfold ko at h;refine Lfr hl ?_
 refine zp ?_;refine qq 6 u32 Iff.rfl h (fun fr I=> ∃(u35:Bool),qk [(2,.pointer (some ⟨u0,0,none⟩)),(3,.pointer (some ⟨u1,0,none⟩)),(86,.bool u35)] fr/\kl B ro u0 u1 Q u35 I) ?_ ?_ ?_
 .intro h e75 hk75;refine qr (qx rfl underlying88 rfl ty3 (by decide) rfl) rfl rfl rfl rfl e75 ?_
  obtain⟨u36,hc,h⟩:=h
  refine Lyb rfl rfl rfl rfl e75 (qM rfl underlying3 rfl rfl hc ?_)
  refine qr (qx rfl underlying88 rfl ty3 (by decide) rfl) rfl rfl rfl rfl e75 ?_
  obtain⟨u37,hc,h⟩:=h
  refine Lyb rfl rfl rfl rfl e75 (qM rfl underlying3 rfl rfl hc ?_)
  refine zy e75 ?_;refine zk e75 ?_;exact hk75 _ _ ⟨_,FL,h⟩
 .intro h e75 hk75;iterate 5 refine zn e75 ?_
  refine zk e75 ?_;exact hk75 _ _ ⟨_,FL,h⟩
 rintro fr I ⟨u35,hl,h⟩;unfold kl at h;refine Lfr hl ?_
 refine zp ?_;refine qq 6 u35 Iff.rfl h (fun fr I=> ∃(u38:Bool),qk [(93,.bool u38)] fr/\kk B ro Q u38 I) ?_ ?_ ?_
 .intro h e82 hk82;refine qr (qx rfl underlying88 rfl xR (by decide) rfl) rfl rfl rfl rfl e82 ?_
  obtain⟨u39,hc,h⟩:=h
  refine Lyb rfl rfl rfl rfl e82 (qM rfl underlying55 rfl rfl hc ?_)
  refine qr (qx rfl underlying88 rfl xR (by decide) rfl) rfl rfl rfl rfl e82 ?_
  obtain⟨u40,hc,h⟩:=h
  refine Lyb rfl rfl rfl rfl e82 (qM rfl underlying55 rfl rfl hc ?_)
  refine Lyb rfl rfl rfl rfl e82 (qF rfl func98 rfl rfl rfl (qb.mono h ?_))
  rintro v I ⟨u41,rfl,h⟩;refine zk e82 ?_;exact hk82 _ _ ⟨_,FL,h⟩
 .intro h e82 hk82;iterate 5 refine zn e82 ?_
  refine zk e82 ?_;exact hk82 _ _ ⟨_,FL,h⟩
 rintro fr I ⟨u38,hl,h⟩;unfold kk at h;refine Lfr hl ?_
 refine zp ?_;refine z2 ?_;refine AW.ret ?_;exact bR1 results35 rfl ⟨_,rfl,h⟩
def aaj(B:World)(ro:AH)(Q:Sl->AH->Prop)(u0:Sl)(I:AH):=
 Q u0 I
def pJ(B:World)(ro:AH)(a0:Sl)(Q:Sl->AH->Prop):(Sl×Int)->AH->((Sl×Int)->AH->Prop)->Prop:=fun⟨u0,u1⟩ I Y3=>
 if u1<(a0.len:Int)then
 ∃p2,a0.a=some p2/\(0:Int)<=u1/\u1<(a0.len:Int)/\
 ∃u3 u4 u5 u6 u7 u8,qj ro I (p2.add (Int.toNat u1*6)) 0 [.int .i64 u3,.string u4,Sl.v u5,.int .i64 u6,.bool u7,.bool u8]/\
 nw ro I (.cells #[.int .i64 0,.string ByteArray.empty,Sl.v (⟨none,0,0⟩:Sl),.int .i64 0,.bool false,.bool false] 72) fun u9 I=>
 stN ⟨u9,0,none⟩ (fun I=>
  ∃u10,qa ro I ⟨u9,0,none⟩=some (.int .i64 u10)/\
  ∃u11,qa ro I ((⟨u9,0,none⟩:Addr).add 1)=some (.string u11)/\
  ∃u12,qa ro I ((⟨u9,0,none⟩:Addr).add 2)=some (Sl.v u12)/\
  ∃u13,qa ro I ((⟨u9,0,none⟩:Addr).add 3)=some (.int .i64 u13)/\
  ∃u14,qa ro I ((⟨u9,0,none⟩:Addr).add 4)=some (.bool u14)/\
  ∃u15,qa ro I ((⟨u9,0,none⟩:Addr).add 5)=some (.bool u15)/\
  nw ro I (.cells #[.int .i64 u10,.string u11,Sl.v u12,.int .i64 u13,.bool u14,.bool u15] 276) fun u16 I=>
  awp prog ro (Builtin.append_ #[86,86] 86 #[Sl.v u0,Sl.v (⟨some ⟨u16,0,none⟩,1,1⟩:Sl)]) (fun v I=> ∃(u17:Sl),v=Sl.v u17/\
  Y3 (u17,i64.wrap (u1+1)) I) I) [.int .i64 u3,.string u4,Sl.v u5,.int .i64 u6,.bool u7,.bool u8] 0 I
 else
 aaj B ro Q u0 I
def acq(B:World)(ro:AH)(a0:Sl)(I:AH)(Q:Sl->AH->Prop):=
 lfpD (pJ B ro a0 Q) ((⟨none,0,0⟩:Sl),0) I
theorem agP{a0:Sl}{Q:Sl->AH->Prop}(h:Sep ro I->acq B ro a0 I Q):acd B ro a0 I Q:=by
 refine zb h func93 ntmps93 fun h=>?_;unfold acq at h;refine z3 ?_;refine zp ?_;refine z4 ?_;refine zp ?_;refine z2 ?_;refine AW.seqJ (fun fr I=> ∃(u0:Sl),qk [(3,Sl.v u0)] fr/\aaj B ro Q u0 I) ?_ ?_
 .rintro fr I ⟨u0,hl,h⟩;refine AW.weaken ?_ hl (HLe.refl _)
  unfold aaj at h;refine z3 ?_;iterate 2 refine zp ?_
  refine z2 ?_;refine AW.ret ?_;exact bR1 results93 rfl ⟨_,rfl,h⟩
 refine z3 ?_;refine zp ?_;refine zm (qJ rfl rfl underlying54 rfl rfl) ?_;refine zp ?_;refine z2 (AW.block ?_)
 refine qn.loop (fr':=[(6,Sl.v a0),(7,.int .i64 (a0.len:Int)),(3,Sl.v (⟨none,0,0⟩:Sl)),(8,.int .i64 0)]) ?_ FL
 refine h (fun⟨u1,u2⟩ I=>qn _ _ _ _ _ _ [(6,Sl.v a0),(7,.int .i64 (a0.len:Int)),(3,Sl.v u1),(8,.int .i64 u2)] I) ?_
 rintro⟨u1,u2⟩ I Y3 hY3 h
 show AW _ _ _ _ _ _ _ _
 unfold pJ at h;dsimp only at h;refine z3 ?_;refine zp ?_;refine z2 (AW.seq ?_)
 refine zi h (fun h=>?_) fun h=>?_
 rotate_left
 .refine AW.exit ?_;refine qR (qR ?_);refine wK ?_
  refine qc ?_;exact⟨_,FL,h⟩
 refine AW.skip ?_;refine qc (AW.seq (AW.block (z3 ?_)));obtain⟨p3,ha,h0,h1,h⟩:=h
 refine zm (vL rfl underlying54 je (ixL rfl ha) rfl h0 h1) ?_;obtain⟨u4,u5,u6,u7,u8,u9,hc,h⟩:=h
 refine zl (jb rfl underlying72 rfl je rfl hc ?_)
 refine zA (wH rfl je) h fun u10 h=>?_;refine zs je h fun I h=>?_;refine z2 (AW.reg ?_)
 refine zp ?_;refine zf underlying72 ty3 ?_;refine zL underlying3 h fun u11 h=>?_;refine zf underlying72 ty9 ?_;refine zL underlying9 h fun u12 h=>?_;refine zf underlying72 qV ?_;refine zL underlying24 h fun u13 h=>?_;refine zf underlying72 ty3 ?_;refine zL underlying3 h fun u14 h=>?_;refine zf underlying72 ty4 ?_;refine zL underlying4 h fun u15 h=>?_;refine zf underlying72 ty4 ?_
 refine zL underlying4 h fun u16 h=>?_;refine zm (wV (vs:=[(0,.int .i64 u11),(1,.string u12),(2,Sl.v u13),(3,.int .i64 u14),(4,.bool u15),(5,.bool u16)]) (cs:= #[.int .i64 u11,.string u12,Sl.v u13,.int .i64 u14,.bool u15,.bool u16]) rfl underlying276 vW ajW rfl rfl) ?_;refine zA (wI (vs:=[(0,.agg #[.int .i64 u11,.string u12,Sl.v u13,.int .i64 u14,.bool u15,.bool u16])]) (cs:= #[.int .i64 u11,.string u12,Sl.v u13,.int .i64 u14,.bool u15,.bool u16]) rfl underlying86 vW (by decide) rfl rfl) h fun u17 h=>?_
 refine zl (jz (s:=Builtin.append_ #[86,86] 86 #[Sl.v u1,Sl.v (⟨some ⟨u17,0,none⟩,1,1⟩:Sl)]) rfl rfl (fun _=>rfl) (qv _ h ?_))
 rintro v I ⟨u18,rfl,h⟩;refine zp ?_;refine pT (wq (qc (AW.reg ?_)));iterate 2 refine zp ?_
 refine z2 ?_;refine qn.head (fr':=[(6,Sl.v a0),(7,.int .i64 (a0.len:Int)),(3,Sl.v u18),(8,.int .i64 (i64.wrap (u2+1)))]) ?_ FL
 exact hY3 _ _ h
end G
namespace Zt
open Go SL G Pa Wi
variable{B:World}{ro I I':AH}{tag tag':Nat->Nat}
theorem ajx{ro1:AH}{a0:Sl}{ops:List MOp}{q:Nat}{Q:Sl->AH->Prop}(hq:q<64)(hq0:q≠0)(hq6:q≠6)(hO:∀ tag' I',qd [0,q] ro tag I tag' I'->ajw ro1 ro tag' I' a0 ops)(hl:ops.length<=2199023255488)(hQ:∀ s tag' I',qd [0,q] ro tag I tag' I'->qY ro1 tag' I' q s ops->Q s I'):acd B ro a0 I Q:=by
 refine agP fun hsep=>?_
 unfold acq
 have hqm:q%64=q:=Nat.mod_eq_of_lt hq
 have hln:=(hO tag I (qd.refl hsep)).1
 suffices∀m j s tag2 I2,j+m=ops.length->qd [0,q] ro tag I tag2 I2->qY ro1 tag2 I2 q s (ops.take j)->lfpD (pJ B ro a0 Q) (s,(j:Int)) I2 from
  this _ 0 ⟨none,0,0⟩ tag I (Nat.zero_add _) (qd.refl hsep) ⟨[],rfl,wj.nil _ _ _,fun i o d h=>by cases h⟩
 intro m
 induction m with
 | zero=>
  intro j s tag2 I2 hj st2 h2
  refine lfpD.intro ?_
  unfold pJ
  simp only
  rw[if_neg (by omega)]
  unfold aaj
  rw[List.take_of_length_le (by omega)]at h2
  exact hQ s tag2 I2 st2 h2
 | succ m ih=>
  intro j s tag2 I2 hj st2 h2
  have hjl:j<ops.length:=by omega
  obtain⟨p,ds,hp,hc,hrd⟩:=(hO tag2 I2 st2).2 j ops[j] (List.getElem?_eq_getElem hjl)
  refine lfpD.intro ?_
  unfold pJ
  simp only
  rw[if_pos (by omega)]
  refine⟨p,hp,by omega,by omega,ops[j].kind,S ops[j].path,ds,ops[j].ver,ops[j].eph,ops[j].seq,by rw[Int.toNat_natCast];exact hc,?_⟩
  refine pN (tag:=tag2) 0 st2.sep rfl (by simp[qg,Sl.v]) fun x tag3 I3 st3 r3=>?_
  have g3:=(r3.read (st3 []).sep).2.2 _ rfl
  refine⟨ops[j].kind,g3 0 _ rfl,S ops[j].path,g3 1 _ rfl,ds,g3 2 _ rfl,ops[j].ver,g3 3 _ rfl,ops[j].eph,g3 4 _ rfl,ops[j].seq,g3 5 _ rfl,?_⟩
  refine ql (tag:=tag3) 0 (st3 []).sep fun y tag6 I6 st6 r6=>?_
  have k26:qd [0] ro tag2 I2 tag6 I6:=((st3 []).s (by simp)).trans ((st6 []).s (by simp))
  obtain⟨dd,d1,d2,d3⟩:=h2.keepN k26 (by simp;omega) (by simp)
  have hlz:(List.zipWith opV (ops.take j) dd).length=j:=by rw[List.length_zipWith,d1,Nat.min_self,List.length_take];omega
  refine aaK (l2:=[opV ops[j] ds]) d2 (st6 []).sep (Row.readW1 r6 (st6 []).sep rfl (by decide)) (t:=86) (by kernel_rfl) vW rfl (by simp[opV,qg,Sl.v]) (by rw[hlz];simp;omega) (by decide) fun sn tag7 I7 st7 r7=>?_
  have st7':=st7 [q] (.inr (by simp))
  have s7:qd [q] ro tag6 I6 tag7 I7:=st7'.s (by simp[hqm])
  refine⟨sn,rfl,?_⟩
  rw[Pa.inc j (by omega)]
  refine ih (j+1) sn tag7 I7 (by omega) (st2.trans ((k26.mono (by simp)).trans (s7.mono (by simp)))) ?_
  have etk:ops.take (j+1)=ops.take j++[ops[j]]:=by rw[List.take_add_one,List.getElem?_eq_getElem hjl];rfl
  rw[etk]
  refine⟨dd++[ds],by rw[List.length_append,List.length_append,d1];rfl,?_,fun i o d ho hd=>?_⟩
  .rw[List.zipWith_append d1.symm];exact r7
  .rcases Nat.lt_or_ge i (ops.take j).length with h | h
   .rw[List.getElem?_append_left h]at ho
    rw[List.getElem?_append_left (by omega)]at hd
    exact(d3 i o d ho hd).keepN s7 (by simp;omega)
   .rw[List.getElem?_append_right h]at ho
    rw[List.getElem?_append_right (by omega),d1]at hd
    cases hz:i - (ops.take j).length with
    | zero=>
     rw[hz]at ho hd
     cases ho;cases hd
     exact(hrd.keepN k26 (by simp)).keepN s7 (by simp;omega)
    | succ k=>rw[hz]at ho;cases ho
theorem wm.del{r W b:Nat}{acc:Str}{bad:Bool}(h:wm tag I r W acc bad)(h1:r≠tag b)(h2:r+64≠tag b):wm tag (SL.del I b) r W acc bad:=by
 obtain⟨s,hc,lr,a,c⟩:=h
 exact⟨s,hc,lr,a.del rfl h1,c.del rfl h2⟩
theorem wm.back{r W b q:Nat}{acc:Str}{bad:Bool}{τ:AH}(h:wm tag' τ r W acc bad)(hd:qz (SL.one I b) τ)(hb:∃ o,I b=some o):wm (setTag tag' b q) (join (SL.one I b) τ) r W acc bad:=by
 obtain⟨s,hc,lr,a,c⟩:=h
 exact⟨s,hc,lr,a.back hd hb,c.back hd hb⟩
theorem ajy{o:MOp}{d:Sl}{Q:Int->AH->Prop}(hQ:∀ tag' I',qd [0] ro tag I tag' I'->Q (flagN o:Nat) I'):aa0 B ro o.kind (S o.path) d o.ver o.eph o.seq I Q:=by
 refine afo fun hs=>?_
 unfold aa8
 refine ql (tag:=tag) 0 hs fun X tag1 I1 st1 r1=>?_
 obtain⟨p,hp,hg⟩:=r1.ptr (st1 []).sep (by simp)
 cases hp
 have hq:=hQ tag1 I1 ((st1 []).s (by simp))
 refine⟨o.eph,hg 4 _ rfl,?_⟩
 have e1:kx .i64 0 1=1:=by decide
 have e2:kx .i64 0 2=2:=by decide
 have e3:kx .i64 1 2=3:=by decide
 unfold flagN at hq
 cases he:o.eph<;>cases hs':o.seq
 all_goals
  rw[he,hs']at hq
  first | rw[if_pos rfl] | rw[if_neg (by simp)]
  unfold yb
  refine⟨o.seq,hg 5 _ rfl,?_⟩
  rw[hs']
  first | rw[if_pos rfl] | rw[if_neg (by simp)]
  unfold jZ
  first | rw[e1,e3] | rw[e1] | rw[e2] | skip
  exact hq
theorem aak{a:Str}{n:Int}(h0:0<=n)(h1:n<=4611686018427387903):wo (a,false) n=(a++qC n.toNat,false):=by
 unfold wo
 rw[if_pos (akk (a:=a) h0 h1)]
theorem aiQ{a p:Str}(h:p.length<=4611686018427387903):vZ (a,false) p=(a++wT p,false):=by
 unfold vZ
 rw[aak (by omega) (by omega),Int.toNat_natCast]
 unfold wT
 simp
theorem akl{s:Sl}{ops:List MOp}{Q:Sl->Int->AH->Prop}(hO:∀ tag' I',qd [0,1,30] ro tag I tag' I'->aai ro tag' I' s ops)(hsm:∀ o∈ops,o.path.length<=1048576/\o.data.length<=1048576)
  (hno:yE ops=none->∀ tag' I',qd [0,1,30] ro tag I tag' I'->Q ⟨none,0,0⟩ 80 I')
  (hyes:∀ b,yE ops=some b->∀ s' tag' I',qd [0,1,30] ro tag I tag' I'->Row tag' I' 6 5 s' (b.map vU)->Q s' 0 I'):aca B ro s I Q:=by
 refine agD fun hs=>?_
 unfold aci
 have hln:=(hO tag I (qd.refl hs)).1
 by_cases c:16<ops.length
 .rw[if_pos (by omega)]
  exact hno (by unfold yE;rw[if_pos c]) tag I (qd.refl hs)
 rw[if_neg (by omega)]
 refine adD (tag:=tag) (r:=30) fun W tag1 I1 st1 b1=>?_
 refine ql (tag:=tag1) 0 (st1 []).sep fun X tag2 I2 st2 r2=>?_
 have r2':Row tag2 I2 0 3 ⟨some ⟨X,0,none⟩,1,1⟩ ([(ops.length:Int)].map Zt.vI):=by
  have:(#[Value.int .i64 (s.len:Int)]:Array Value).toList=[(ops.length:Int)].map Zt.vI:=by rw[hln];rfl
  rw[<-this];exact r2
 refine adX (r:=30) (q:=0) (ns:=[(ops.length:Int)]) (a:=([],false)) (by decide) (by decide) (b1.keep (st2 [])) (st2 []).sep (by simp) r2' fun tag3 I3 st3 b3=>?_
 have e3:[(ops.length:Int)].foldl wo ([],false)=(qC ops.length,false):=by
  show wo ([],false) _=_
  rw[aak (by omega) (by omega),Int.toNat_natCast];rfl
 rw[e3]at b3
 have s3:qd [0,1,30] ro tag I tag3 I3:=((st1 []).s (by simp)).trans (((st2 []).s (by simp)).trans (st3.s (by decide)))
 have hvl:(qC ops.length).length<=9:=by
  have:=kR ([],false) (ops.length:Int)
  rw[aak (by omega) (by omega),Int.toNat_natCast]at this
  simpa using this
 suffices∀m j tag4 I4,j+m=ops.length->(∀o∈ops.take j,yD o)->((ops.take j).flatMap vv).length<=2097200*j->qd [0,1,30] ro tag I tag4 I4->wm tag4 I4 30 W (qC ops.length++(ops.take j).flatMap vv) false->lfpD (kj B ro s (some ⟨W,0,none⟩) Q) (j:Int) I4 from
  this _ 0 tag3 I3 (Nat.zero_add _) (by simp) (by simp) s3 (by simpa using b3)
 intro m
 induction m with
 | zero=>
  intro j tag4 I4 hj hok hel st4 b4
  refine lfpD.intro ?_
  unfold kj
  rw[if_neg (by omega)]
  unfold aaa
  rw[List.take_of_length_le (by omega)]at b4 hok hel
  refine aiG (tag:=tag4) (a:=(qC ops.length++ops.flatMap vv,false)) b4 st4.sep (by simp only[List.length_append];omega) (fun h=>by cases h) fun _ s' tag5 I5 st5 r5=>?_
  refine hyes (adK ops) (by unfold yE;rw[if_neg c,if_pos hok]) s' tag5 I5 (st4.trans ((st5 []).s (by simp))) r5
 | succ m ih=>
  intro j tag4 I4 hj hok hel st4 b4
  have hjl:j<ops.length:=by omega
  obtain⟨p,ds,hp,hc,hrd⟩:=(hO tag4 I4 st4).2 j ops[j] (List.getElem?_eq_getElem hjl)
  obtain⟨hpl,hdl⟩:=hsm _ (List.getElem_mem hjl)
  have etk:ops.take (j+1)=ops.take j++[ops[j]]:=by rw[List.take_add_one,List.getElem?_eq_getElem hjl];rfl
  have hmem:ops[j]∈ops:=List.getElem_mem hjl
  generalize ops[j]=o at hc hrd hpl hdl etk hmem
  refine lfpD.intro ?_
  unfold kj
  rw[if_pos (by omega)]
  refine⟨p,hp,by omega,by omega,o.kind,S o.path,ds,o.ver,o.eph,o.seq,by rw[Int.toNat_natCast];exact hc,?_⟩
  refine pN (tag:=tag4) 0 st4.sep rfl (by simp[qg,Sl.v]) fun x tag5 I5 st5 r5=>?_
  have hs5:=(st5 []).sep
  have s5:qd [0,1,30] ro tag I tag5 I5:=st4.trans ((st5 []).s (by simp))
  have b5:=b4.keep (st5 [])
  have hrd5:=hrd.keepS ((st5 []).s (C:=[]) (by simp)) (by simp)
  obtain⟨p5,hp5,hg5⟩:=r5.ptr hs5 (by simp)
  cases hp5
  have no:¬ yD o->Q ⟨none,0,0⟩ 80 I5:=fun h=>hno (by unfold yE;rw[if_neg c,if_neg fun hall=>h (hall o hmem)]) tag5 I5 s5
  have no16:¬ yD o->kT B ro s x (some ⟨W,0,none⟩) (j:Int) Q (lfpD (kj B ro s (some ⟨W,0,none⟩) Q)) true I5:=fun h=>by
   unfold kT;rw[if_pos rfl];exact no h
  have no14:¬ yD o->kV B ro s x (some ⟨W,0,none⟩) (j:Int) Q (lfpD (kj B ro s (some ⟨W,0,none⟩) Q)) true I5:=fun h=>by
   unfold kV;rw[if_pos rfl];exact no16 h
  have no12:¬ yD o->kW B ro s x (some ⟨W,0,none⟩) (j:Int) Q (lfpD (kj B ro s (some ⟨W,0,none⟩) Q)) true I5:=fun h=>by
   unfold kW;rw[if_pos rfl];exact no14 h
  refine⟨o.kind,hg5 0 _ rfl,?_⟩
  by_cases k1:o.kind<1
  .rw[if_pos k1]
   exact no12 fun h=>by have:=h.1;omega
  rw[if_neg k1]
  refine⟨o.kind,hg5 0 _ rfl,?_⟩
  by_cases k2:4<o.kind
  .rw[show decide (4<o.kind)=true by simpa using k2]
   exact no12 fun h=>by have:=h.2.1;omega
  rw[show decide (4<o.kind)=false by simpa using k2]
  unfold kW
  rw[if_neg (by simp)]
  refine⟨o.ver,hg5 3 _ rfl,?_⟩
  by_cases k3:o.ver< -1
  .rw[show decide (o.ver< -1)=true by simpa using k3]
   exact no14 fun h=>by have:=h.2.2.1;omega
  rw[show decide (o.ver< -1)=false by simpa using k3]
  unfold kV
  rw[if_neg (by simp)]
  refine⟨o.ver,hg5 3 _ rfl,?_⟩
  by_cases k4:4611686018427387903<=o.ver
  .rw[show decide (4611686018427387903<=o.ver)=true by simpa using k4]
   exact no16 fun h=>by have:=h.2.2.2;omega
  rw[show decide (4611686018427387903<=o.ver)=false by simpa using k4]
  have hok1:yD o:=⟨by omega,by omega,by omega,by omega⟩
  unfold kT
  rw[if_neg (by simp)]
  have hpre:(qC ops.length++(ops.take j).flatMap vv).length<=9+2097200*16:=by
   rw[List.length_append]
   have:2097200*j<=2097200*16:=Nat.mul_le_mul_left _ (by omega)
   omega
  obtain⟨acc,hacc⟩:∃ acc,qC ops.length++(ops.take j).flatMap vv=acc:=⟨_,rfl⟩
  rw[hacc]at b5 hpre
  have k9:∀ n:Int,0<=n->n<=4611686018427387903->(qC n.toNat).length<=9:=fun n h0 h1=>by
   have:=kR ([],false) n
   rw[aak h0 h1]at this
   simpa using this
  refine⟨o.kind,hg5 0 _ rfl,?_⟩
  refine ql (tag:=tag5) 0 hs5 fun y1 tag6 I6 st6 q6=>?_
  refine adX (r:=30) (q:=0) (ns:=[o.kind]) (a:=(acc,false)) (by decide) (by decide) (b5.keep (st6 [])) (st6 []).sep (by simp;omega) q6 fun tag7 I7 st7 b7=>?_
  have e7:[o.kind].foldl wo (acc,false)=(acc++qC o.kind.toNat,false):=aak (by omega) (by omega)
  rw[e7]at b7
  have l7:=k9 o.kind (by omega) (by omega)
  have r7:=(r5.keep (st6 [])).keep st7 (by decide)
  obtain⟨p7,hp7,hg7⟩:=r7.ptr st7.sep (by simp)
  cases hp7
  refine⟨S o.path,hg7 1 _ rfl,?_⟩
  refine ql (tag:=tag7) 0 st7.sep fun y2 tag8 I8 st8 q8=>?_
  refine afD (r:=30) (q:=0) (p:=o.path) (a:=(acc++qC o.kind.toNat,false)) (b7.keep (st8 [])) (by decide) (by decide) (st8 []).sep (by simp only[List.length_append];omega) q8 fun tag9 I9 st9 b9=>?_
  rw[aiQ (by omega)]at b9
  have lb:∀ d:Str,d.length<=1048576->(wT d).length<=9+d.length:=fun d hd=>by
   unfold wT
   have:=k9 (d.length:Int) (by omega) (by omega)
   rw[Int.toNat_natCast]at this
   rw[List.length_append];omega
  have l9:=lb o.path hpl
  have r9:=(r7.keep (st8 [])).keep st9 (by decide)
  obtain⟨p9,hp9,hg9⟩:=r9.ptr st9.sep (by simp)
  cases hp9
  refine⟨ds,hg9 2 _ rfl,?_⟩
  refine ql (tag:=tag9) 0 st9.sep fun y3 tagA IA stA qA=>?_
  have s5A:qd [30,1] ro tag5 I5 tagA IA:=((st6 []).s (by simp)).trans ((st7.s (by decide)).trans (((st8 []).s (by simp)).trans ((st9.s (by decide)).trans ((stA []).s (by simp)))))
  have hrdA:=hrd5.keepS s5A
  refine afE (r:=30) (q:=0) (p:=o.data) (a:=(acc++qC o.kind.toNat++wT o.path,false)) (b9.keep (stA [])) (by decide) (by decide) (stA []).sep (by simp only[List.length_append];omega) qA hrd.len (fun tag' I' st=>(hrdA.keepS (st.s (C:=[30,1]) (by decide))).read st.sep) fun tagB IB stB bB=>?_
  rw[aiQ (by omega)]at bB
  have lB:=lb o.data hdl
  have rB:=(r9.keep (stA [])).keep stB (by decide)
  have hsB:=stB.sep
  obtain⟨tX,hX⟩:=rB.tagOf
  refine pO x ?_
  have hsL:SL.Sep (join ro (SL.one IB x)) (SL.del IB x):=hsB.lent
  have cX:∀ τ i v,(opV o ds)[i]?=some v->qa (join ro (SL.one IB x)) τ ((⟨x,0,none⟩:Addr).add i)=some v:=fun τ i v hv=>by
   have:=rB.lend hsB (τ:=τ) (i:=i) (v:=v) hv
   rwa [Nat.mul_one]at this
  refine⟨o.ver,cX _ 3 _ rfl,o.kind,S o.path,ds,o.ver,o.eph,o.seq,wr 0 fun i v hv=>by rw[Nat.zero_add];exact cX _ i v hv,?_⟩
  have bL:=wm.del (b:=x) bB (by rw[tX];decide) (by rw[tX];decide)
  refine ajy (tag:=tagB) (I:=SL.del IB x) fun tagC IC stC=>?_
  have hfl:=abL o
  have ev:i64.wrap (o.ver+1)=o.ver+1:=by rw[SL.qW (by omega) (by omega)]
  rw[ev]
  refine ql (tag:=tagC) 0 stC.sep fun y4 tagD ID stD qD=>?_
  have bD:wm tagD ID 30 W (acc++qC o.kind.toNat++wT o.path++wT o.data) false:=by
   obtain⟨R,hR,stC⟩:=stC
   exact(wm.keep (wm.keep bL stC (fun h=>absurd (hR _ h) (by decide)) (fun h=>absurd (hR _ h) (by decide))) (stD []))
  refine adX (r:=30) (q:=0) (ns:=[o.ver+1,(flagN o:Int)]) (a:=(acc++qC o.kind.toNat++wT o.path++wT o.data,false)) (by decide) (by decide) bD (stD []).sep (by simp only[List.length_append,List.length_cons,List.length_nil];omega) qD fun tagE IE stE bE=>?_
  have eE:[o.ver+1,(flagN o:Int)].foldl wo (acc++qC o.kind.toNat++wT o.path++wT o.data,false)=(acc++vv o,false):=by
   show wo (wo _ _) _=_
   rw[aak (by omega) (by omega),aak (by omega) (by omega),Int.toNat_natCast]
   unfold vv
   simp
  rw[eE]at bE
  intro hdis
  have sC:qd [0,1,30] (join ro (SL.one IB x)) tagB (SL.del IB x) tagE IE:=(stC.mono (by decide)).trans (((stD []).s (by simp)).trans (stE.s (by decide)))
  have stF:=qd.back sC hsB hdis hX
  have bF:=wm.back (q:=tagB x) bE hdis hX
  rw[Pa.inc j (by omega)]
  have l1:=k9 (o.ver+1) (by omega) (by omega)
  have l2:=k9 (flagN o:Int) (by omega) (by omega)
  have hoe:(vv o).length<=2097200:=by
   unfold vv
   simp only[List.length_append]
   rw[Int.toNat_natCast]at l2
   omega
  refine ih (j+1) _ _ (by omega) (fun y hy=>?_) ?_ (s5.trans ((s5A.mono (by decide)).trans ((stB.s (by decide)).trans stF))) ?_
  .rw[etk]at hy
   rcases List.mem_append.1 hy with h | h
   .exact hok y h
   .rw[List.mem_singleton.1 h];exact hok1
  .rw[etk,List.flatMap_append,List.length_append,List.flatMap_singleton]
   omega
  .rw[etk,List.flatMap_append,List.flatMap_singleton,<-List.append_assoc,hacc]
   exact bF