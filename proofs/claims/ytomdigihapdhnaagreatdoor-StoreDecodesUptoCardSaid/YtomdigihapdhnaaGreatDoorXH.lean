import Derived.Sort.Walk0
import Derived.Test.YtomdigihapdhnaaGreatDoorXG
set_option linter.all false
set_option maxRecDepth 99999
set_option maxHeartbeats 0
open Go.IntKind(i64)
open Go.Proofs.Tryz
namespace Go.Proofs.YtomdigihapdhnaaGreatDoor
namespace G
open Go SL
variable{B:World}{ro I:AH}
def acF(B:World)(ro I:AH)(Q:Option Addr->AH->Prop):Prop:=
 nw ro I (.cells #[Sl.v (⟨none,0,0⟩:Sl),.int .i64 0,.int .i8 0,.bool false] 221) fun u0 I=>
 Q (some ⟨u0,0,none⟩) I
theorem ais{Q}(h:Sep ro I->acF B ro I Q):jl B ro I Q:=by
 refine zb h func43 ntmps43 fun h=>?_;unfold acF at h;refine zw ?_;refine zm (wD (vs:=[]) (cs:= #[Sl.v (⟨none,0,0⟩:Sl),.int .i64 0,.int .i8 0,.bool false]) rfl Lt as0 as7 rfl rfl) ?_;refine zA (wY rfl rfl) h fun u0 h=>?_;exact zr h
def jh(B:World)(ro:AH)(a0:Option Addr)(a1:Sl)(Q:AH->Prop):Int->AH->(Int->AH->Prop)->Prop:=fun u0 I Y1=>
 if u0<(a1.len:Int)then
 ∃p1,a1.a=some p1/\(0:Int)<=u0/\u0<(a1.len:Int)/\
 ∃u2,qb ro I (p1.add (Int.toNat u0*1))=some (.int .i64 u2)/\
 ∃p3,a0=some p3/\
 ys B ro (some p3) u2 I fun I=>
 Y1 (i64.wrap (u0+1)) I
 else
 Q I
def abx(B:World)(ro:AH)(a0:Option Addr)(a1:Sl)(I:AH)(Q:AH->Prop):=
 lfpD (jh B ro a0 a1 Q) (0) I
theorem ahq{a0 a1 Q}(h:Sep ro I->abx B ro a0 a1 I Q):qX B ro a0 a1 I Q:=by
 refine zb h func44 ntmps44 fun h=>?_;unfold abx at h;refine zw ?_;refine zm (qD rfl rfl mx rfl rfl) ?_;refine zw ?_;refine qf.loop (fr':=[(0,.pointer a0),(6,Sl.v a1),(7,.int .i64 (a1.len:Int)),(8,.int .i64 0)]) ?_ FL
 refine h (fun u0 I=>qf _ _ _ _ _ _ [(0,.pointer a0),(6,Sl.v a1),(7,.int .i64 (a1.len:Int)),(8,.int .i64 u0)] I) ?_
 rintro u0 I Y1 hY1 h
 show AW _ _ _ _ _ _ _ _
 unfold jh at h;refine zw ?_;refine AW.seq ?_;refine zi h (fun h=>?_) fun h=>?_
 rotate_left
 .refine AW.exit ?_;refine zw ?_;refine qN ?_
  exact bN0 results44 ⟨rfl,h⟩
 refine zw ?_;refine AW.seq ?_;refine zw ?_;obtain⟨p1,ha,h0,h1,h⟩:=h
 refine zm (wR rfl mx ty3 (ixL rfl ha) rfl h0 h1) ?_;refine zL mj h fun u2 h=>?_;refine zN h fun p3 h=>?_;refine zf Lt afK ?_;refine zc func114 h ?_;rintro v I ⟨rfl,h⟩;refine zw ?_;refine qf.head (fr':=[(0,.pointer a0),(6,Sl.v a1),(7,.int .i64 (a1.len:Int)),(8,.int .i64 (i64.wrap (u0+1)))]) ?_ FL
 exact hY1 _ _ h
def aak(B:World)(ro:AH)(a0:Option Addr)(a1:Sl)(Q:AH->Prop):Int->AH->(Int->AH->Prop)->Prop:=fun u0 I Y1=>
 if u0<(a1.len:Int)then
 ∃p1,a1.a=some p1/\(0:Int)<=u0/\u0<(a1.len:Int)/\
 ∃u2,qb ro I (p1.add (Int.toNat u0*1))=some (.string u2)/\
 ∃p3,a0=some p3/\
 ys B ro (some p3) (u2.size:Int) I fun I=>
 ∃p4,a0=some p4/\
 yl B ro (some p4) u2 I fun u5 u6 I=>
 Y1 (i64.wrap (u0+1)) I
 else
 Q I
def aaV(B:World)(ro:AH)(a0:Option Addr)(a1:Sl)(I:AH)(Q:AH->Prop):=
 lfpD (aak B ro a0 a1 Q) (0) I
theorem agY{a0 a1 Q}(h:Sep ro I->aaV B ro a0 a1 I Q):zE B ro a0 a1 I Q:=by
 refine zb h func45 ntmps45 fun h=>?_;unfold aaV at h;refine zw ?_;refine zm (qD rfl rfl mP rfl rfl) ?_;refine zw ?_;refine qf.loop (fr':=[(0,.pointer a0),(6,Sl.v a1),(7,.int .i64 (a1.len:Int)),(8,.int .i64 0)]) ?_ FL
 refine h (fun u0 I=>qf _ _ _ _ _ _ [(0,.pointer a0),(6,Sl.v a1),(7,.int .i64 (a1.len:Int)),(8,.int .i64 u0)] I) ?_
 rintro u0 I Y1 hY1 h
 show AW _ _ _ _ _ _ _ _
 unfold aak at h;refine zw ?_;refine AW.seq ?_;refine zi h (fun h=>?_) fun h=>?_
 rotate_left
 .refine AW.exit ?_;refine zw ?_;refine qN ?_
  exact bN0 results45 ⟨rfl,h⟩
 refine zw ?_;refine AW.seq ?_;refine zw ?_;obtain⟨p1,ha,h0,h1,h⟩:=h
 refine zm (wR rfl mP ty9 (ixL rfl ha) rfl h0 h1) ?_;refine zL mu h fun u2 h=>?_;refine zN h fun p3 h=>?_;refine zf Lt afK ?_;refine zw ?_;refine zm (jG rfl rfl mu rfl rfl) ?_;refine zc func114 h ?_;rintro v I ⟨rfl,h⟩;refine zN h fun p4 h=>?_;refine zf Lt afK ?_;refine zf LH alG ?_;refine zc func115 h ?_;rintro v I ⟨u5,u6,rfl,h⟩
 refine zw ?_;refine qf.head (fr':=[(0,.pointer a0),(6,Sl.v a1),(7,.int .i64 (a1.len:Int)),(8,.int .i64 (i64.wrap (u0+1)))]) ?_ FL
 exact hY1 _ _ h
def zt(B:World)(ro:AH)(a0:Option Addr)(a1:Sl)(Q:AH->Prop):Int->AH->(Int->AH->Prop)->Prop:=fun u0 I Y1=>
 if u0<(a1.len:Int)then
 ∃p1,a1.a=some p1/\(0:Int)<=u0/\u0<(a1.len:Int)/\
 ∃u2,qb ro I (p1.add (Int.toNat u0*1))=some (Sl.v u2)/\
 ∃p3,a0=some p3/\
 ys B ro (some p3) (u2.len:Int) I fun I=>
 ∃p4,a0=some p4/\
 yv B ro (some p4) u2 I fun u5 u6 I=>
 Y1 (i64.wrap (u0+1)) I
 else
 Q I
def pj(B:World)(ro:AH)(a0:Option Addr)(a1:Sl)(I:AH)(Q:AH->Prop):=
 lfpD (zt B ro a0 a1 Q) (0) I
theorem adb{a0 a1 Q}(h:Sep ro I->pj B ro a0 a1 I Q):vo B ro a0 a1 I Q:=by
 refine zb h func46 ntmps46 fun h=>?_;unfold pj at h;refine zw ?_;refine zm (qD rfl rfl Lr rfl rfl) ?_;refine zw ?_;refine qf.loop (fr':=[(0,.pointer a0),(6,Sl.v a1),(7,.int .i64 (a1.len:Int)),(8,.int .i64 0)]) ?_ FL
 refine h (fun u0 I=>qf _ _ _ _ _ _ [(0,.pointer a0),(6,Sl.v a1),(7,.int .i64 (a1.len:Int)),(8,.int .i64 u0)] I) ?_
 rintro u0 I Y1 hY1 h
 show AW _ _ _ _ _ _ _ _
 unfold zt at h;refine zw ?_;refine AW.seq ?_;refine zi h (fun h=>?_) fun h=>?_
 rotate_left
 .refine AW.exit ?_;refine zw ?_;refine qN ?_
  exact bN0 results46 ⟨rfl,h⟩
 refine zw ?_;refine AW.seq ?_;refine zw ?_;obtain⟨p1,ha,h0,h1,h⟩:=h
 refine zm (wR rfl Lr wq (ixL rfl ha) rfl h0 h1) ?_;refine zL mo h fun u2 h=>?_;refine zN h fun p3 h=>?_;refine zf Lt afK ?_;refine zw ?_;refine zm (qD rfl rfl mo rfl rfl) ?_;refine zc func114 h ?_;rintro v I ⟨rfl,h⟩;refine zN h fun p4 h=>?_;refine zf Lt afK ?_;refine zf LH alG ?_;refine zc func116 h ?_
 rintro v I ⟨u5,u6,rfl,h⟩;refine zw ?_;refine qf.head (fr':=[(0,.pointer a0),(6,Sl.v a1),(7,.int .i64 (a1.len:Int)),(8,.int .i64 (i64.wrap (u0+1)))]) ?_ FL
 exact hY1 _ _ h
def abY(B:World)(ro:AH)(a0:Option Addr)(I:AH)(Q:Sl->Int->AH->Prop):=
 ∃p0,a0=some p0/\
 ∃u1,qb ro I (p0.add 3)=some (.bool u1)/\
 if u1=true then
 Q (⟨none,0,0⟩:Sl) 10 I
 else
 ∃p2,a0=some p2/\
 ac2 B ro (some p2) I fun u3 I=>
 xY B ro u3 I fun u4 I=>
 Q u4 0 I
theorem ahS{a0 Q}(h:Sep ro I->abY B ro a0 I Q):xT B ro a0 I Q:=by
 refine zb h func47 ntmps47 fun h=>?_;unfold abY at h;refine zw ?_;refine AW.seq ?_;refine zN h fun p0 h=>?_;refine zf Lt afK ?_;refine zf LH ty4 ?_;refine zL nW h fun u1 h=>?_;refine zj h (fun h=>?_) fun h=>?_
 .exact zrr h
 refine zN h fun p2 h=>?_;refine zf Lt afK ?_;refine zf LH alG ?_;refine zc func117 h ?_;rintro v I ⟨u3,rfl,h⟩;refine zc func80 h ?_;rintro v I ⟨u4,rfl,h⟩;exact zrr h
def acG(B:World)(ro:AH)(a0:Sl)(I:AH)(Q:Option Addr->AH->Prop):=
 xY B ro a0 I fun u0 I=>
 nw ro I (.cells #[Sl.v u0,.int .i64 0] 231) fun u1 I=>
 Q (some ⟨u1,0,none⟩) I
theorem ait{a0 Q}(h:Sep ro I->acG B ro a0 I Q):jm B ro a0 I Q:=by
 refine zb h func53 ntmps53 fun h=>?_;unfold acG at h;refine zc func80 h ?_;rintro v I ⟨u0,rfl,h⟩;refine zm (wD (vs:=[(0,Sl.v u0)]) (cs:= #[Sl.v u0,.int .i64 0]) rfl nG as1 as8 rfl rfl) ?_;refine zA (wY rfl rfl) h fun u1 h=>?_;exact zr h
def abZ(B:World)(ro:AH)(a0:Option Addr)(I:AH)(Q:Int->AH->Prop):=
 ∃p0,a0=some p0/\
 ∃u1,qb ro I (p0.add 1)=some (.int .i64 u1)/\
 if¬(u1=0)then
 Q 0 I
 else
 ∃p2,a0=some p2/\
 ∃u3,qb ro I p2=some (Sl.v u3)/\
 ael B ro u3 0 I fun u4 u5 u6 I=>
 ∃p7,a0=some p7/\
 stN (p7.add 1) (fun I=>
 ∃p8,a0=some p8/\
 ∃u9,qb ro I p8=some (Sl.v u9)/\
 cutOk (some u5) none u9.len u9.cap/\
 ∃p10,a0=some p10/\
 stN p10 (fun I=>
  Q u4 I) [Sl.v (⟨wH u9.a (Int.toNat u5) u9.cap 1,u9.len - Int.toNat u5,u9.cap - Int.toNat u5⟩:Sl)] 0 I) [.int .i64 u6] 0 I
theorem ahT{a0 Q}(h:Sep ro I->abZ B ro a0 I Q):qt B ro a0 I Q:=by
 refine zb h func54 ntmps54 fun h=>?_;unfold abZ at h;refine zw ?_;refine AW.seq ?_;refine zN h fun p0 h=>?_;refine zf nG af2 ?_;refine zLp Pf h fun u1 h=>?_;refine AW.iff rfl (qp mg) h (fun h=>?_) (fun h=>?_)
 .exact zr h
 refine zN h fun p2 h=>?_;refine zf nG wq ?_;refine zL mo h fun u3 h=>?_;refine zc func119 h ?_;rintro v I ⟨u4,u5,u6,rfl,h⟩;refine zN h fun p7 h=>?_;refine zf nG af2 ?_;refine zs af2 h fun I h=>?_;refine zN h fun p8 h=>?_;refine zf nG wq ?_;refine zLp mo h fun u9 h=>?_;obtain⟨hc,h⟩:=h
 refine zm (abI (lo:=(some u5)) (hi:=none) rfl mo ty5 rfl (wK rfl) vD hc) ?_;refine zN h fun p10 h=>?_;refine zf nG wq ?_;refine zs wq h fun I h=>?_;exact zr h
def aby(B:World)(ro:AH)(a0:Option Addr)(I:AH)(Q:ByteArray->AH->Prop):=
 wz B ro a0 I fun u0 I=>
 awp prog ro (convert 24 9 (Sl.v u0)) (fun v I=>
 (∃(u1:ByteArray),v= .string u1/\
  Q u1 I)) I
theorem ahr{a0 Q}(h:Sep ro I->aby B ro a0 I Q):vE B ro a0 I Q:=by
 refine zb h func55 ntmps55 fun h=>?_;unfold aby at h;refine zc func56 h ?_;rintro v I ⟨u0,rfl,h⟩;refine zl (aeK rfl rfl (qj _ h ?_))
 rintro v I ⟨u1,rfl,h⟩;exact zr h
def abz(B:World)(ro:AH)(a0:Option Addr)(I:AH)(Q:Sl->AH->Prop):=
 ∃p0,a0=some p0/\
 ∃u1,qb ro I p0=some (Sl.v u1)/\
 qt B ro a0 I fun u2 I=>
 ∃p3,a0=some p3/\
 ∃u4,qb ro I (p3.add 1)=some (.int .i64 u4)/\
 if¬(u4=0)then
 Q (⟨none,0,0⟩:Sl) I
 else
 ∃p5,a0=some p5/\
 ∃u6,qb ro I p5=some (Sl.v u6)/\
 if(u6.len:Int)<u2 then
 ∃p7,a0=some p7/\
 stN (p7.add 1) (fun I=>
  ∃p8,a0=some p8/\
  stN p8 (fun I=>
  Q (⟨none,0,0⟩:Sl) I) [Sl.v u1] 0 I) [.int .i64 12] 0 I
 else
 ∃p9,a0=some p9/\
 ∃u10,qb ro I p9=some (Sl.v u10)/\
 cutOk none (some u2) u10.len u10.cap/\
 xY B ro (⟨wH u10.a (0) u10.cap 1,Int.toNat u2 - 0,u10.cap - 0⟩:Sl) I fun u11 I=>
 ∃p12,a0=some p12/\
 ∃u13,qb ro I p12=some (Sl.v u13)/\
 cutOk (some u2) none u13.len u13.cap/\
 ∃p14,a0=some p14/\
 stN p14 (fun I=>
 Q u11 I) [Sl.v (⟨wH u13.a (Int.toNat u2) u13.cap 1,u13.len - Int.toNat u2,u13.cap - Int.toNat u2⟩:Sl)] 0 I
theorem ahs{a0 Q}(h:Sep ro I->abz B ro a0 I Q):wz B ro a0 I Q:=by
 refine zb h func56 ntmps56 fun h=>?_;unfold abz at h;refine zN h fun p0 h=>?_;refine zf nG wq ?_;refine zL mo h fun u1 h=>?_;refine zC func54 h fun u2 I h=>?_;refine AW.seq ?_;refine zN h fun p3 h=>?_;refine zf nG af2 ?_;refine zLp Pf h fun u4 h=>?_;refine AW.iff rfl (qp mg) h (fun h=>?_) (fun h=>?_)
 .exact zr h
 refine zw ?_;refine AW.seq ?_;refine zN h fun p5 h=>?_;refine zf nG wq ?_;refine zL mo h fun u6 h=>?_;refine zm (qD rfl rfl mo rfl rfl) ?_;refine zi h (fun h=>?_) fun h=>?_
 .refine zN h fun p7 h=>?_;refine zf nG af2 ?_;refine zs af2 h fun I h=>?_;refine zN h fun p8 h=>?_;refine zf nG wq ?_;refine zs wq h fun I h=>?_;exact zr h
 refine zN h fun p9 h=>?_;refine zf nG wq ?_;refine zLp mo h fun u10 h=>?_;obtain⟨hc,h⟩:=h
 refine zm (abI (lo:=none) (hi:=(some u2)) rfl mo ty5 rfl vD (wK rfl) hc) ?_;refine zc func80 h ?_;rintro v I ⟨u11,rfl,h⟩;refine zN h fun p12 h=>?_;refine zf nG wq ?_;refine zLp mo h fun u13 h=>?_;obtain⟨hc,h⟩:=h
 refine zm (abI (lo:=(some u2)) (hi:=none) rfl mo ty5 rfl (wK rfl) vD hc) ?_;refine zN h fun p14 h=>?_;refine zf nG wq ?_;refine zs wq h fun I h=>?_;exact zr h
def ab0(B:World)(ro:AH)(a0:Option Addr)(I:AH)(Q:Int->AH->Prop):=
 ∃p0,a0=some p0/\
 ∃u1,qb ro I (p0.add 1)=some (.int .i64 u1)/\
 Q u1 I
theorem ahU{a0 Q}(h:Sep ro I->ab0 B ro a0 I Q):wI B ro a0 I Q:=by
 refine zb h func57 ntmps57 fun h=>?_;unfold ab0 at h;refine zN h fun p0 h=>?_;refine zf nG af2 ?_;refine zL Pf h fun u1 h=>?_;exact zr h
def abA(B:World)(ro:AH)(a0:Option Addr)(I:AH)(Q:Int->AH->Prop):=
 ∃p0,a0=some p0/\
 ∃u1,qb ro I p0=some (Sl.v u1)/\
 Q (u1.len:Int) I
theorem aht{a0 Q}(h:Sep ro I->abA B ro a0 I Q):wZ B ro a0 I Q:=by
 refine zb h func58 ntmps58 fun h=>?_;unfold abA at h;refine zN h fun p0 h=>?_;refine zf nG wq ?_;refine zL mo h fun u1 h=>?_;refine zm (qD rfl rfl mo rfl rfl) ?_;exact zr h
def ab1(B:World)(ro:AH)(a0:Option Addr)(a1:Int)(I:AH)(Q:AH->Prop):=
 ac3 B ro a1 I fun u0 I=>
 if¬(u0=true)then
 ∃p1,a0=some p1/\
 stN (p1.add 3) (fun I=>
  Q I) [.bool true] 0 I
 else
 ∃p2,a0=some p2/\
 agK B ro (⟨none,0,0⟩:Sl) a1 I fun u3 I=>
 yv B ro (some p2) u3 I fun u4 u5 I=>
 Q I
theorem ahV{a0 a1 Q}(h:Sep ro I->ab1 B ro a0 a1 I Q):ys B ro a0 a1 I Q:=by
 refine zb h func114 ntmps114 fun h=>?_;unfold ab1 at h;refine AW.seq ?_;refine zC func174 h fun u0 I h=>?_;refine AW.iff rfl (qp Iff.rfl) h (fun h=>?_) (fun h=>?_)
 .refine zN h fun p1 h=>?_;refine zf LH ty4 ?_;refine zsp ty4 h fun I h=>?_;exact bR0 results114 ⟨rfl,h⟩
 refine zw ?_;refine AW.drawn0 (fun i=>([0,0,0,0,2,2]:List Nat).getD i 2) [] [0,1,2,3,4,5] mixed j0 ?_
 refine zM h fun p2 h=>?_;refine zg LH alG ?_;refine zG func175 h ?_;rintro v I ⟨u3,rfl,h⟩;refine zG func116 h ?_;rintro v I ⟨u4,u5,rfl,h⟩;refine vn ?_
 exact bN0 results114 ⟨rfl,h⟩
def jq(B:World)(ro:AH)(a0:Sl)(a1:Int)(Q:Int->Int->Int->AH->Prop)(I:AH):=
 if 9<=(i64.wrap ((a0.len:Int) - a1))then
 Q 0 0 13 I
 else
 Q 0 0 12 I
def yO(B:World)(ro:AH)(a1 u0 u1 u2:Int)(Q:Int->Int->Int->AH->Prop)(Y2:(Int×Int)->AH->Prop)(u3:Bool)(I:AH):=
 if u3=true then
 Q 0 0 13 I
 else
 Q (uT .i64 u0 (i64.wrap ((i64.wrap (abk .u8 u2 127))*2 ^ (min (Int.toNat (i64.wrap (7*u1))) 64)))) (i64.wrap ((i64.wrap (a1+u1))+1)) 0 I
def uF(B:World)(ro:AH)(a0:Sl)(a1:Int)(Q:Int->Int->Int->AH->Prop):(Int×Int)->AH->((Int×Int)->AH->Prop)->Prop:=fun⟨u0,u1⟩ I Y2=>
 if u1<((⟨wH a0.a (Int.toNat a1) a0.cap 1,a0.len - Int.toNat a1,a0.cap - Int.toNat a1⟩:Sl).len:Int)then
 ∃p2:Addr,(⟨wH a0.a (Int.toNat a1) a0.cap 1,a0.len - Int.toNat a1,a0.cap - Int.toNat a1⟩:Sl).a=some p2/\(0:Int)<=u1/\u1<((⟨wH a0.a (Int.toNat a1) a0.cap 1,a0.len - Int.toNat a1,a0.cap - Int.toNat a1⟩:Sl).len:Int)/\
 ∃u3,qb ro I (p2.add (Int.toNat u1*1))=some (.int .u8 u3)/\
 if u1=9 then
  jq B ro a0 a1 Q I
 else
 (0:Int)<=(i64.wrap (7*u1))/\
 if u3<128 then
  if(u3=0)/\(0<u1)then
  yO B ro a1 u0 u1 u3 Q Y2 true I
  else
  ac3 B ro (uT .i64 u0 (i64.wrap ((i64.wrap (abk .u8 u3 127))*2 ^ (min (Int.toNat (i64.wrap (7*u1))) 64)))) I fun u4 I=>
  yO B ro a1 u0 u1 u3 Q Y2 (!u4) I
 else
 Y2 (uT .i64 u0 (i64.wrap ((i64.wrap (abk .u8 u3 127))*2 ^ (min (Int.toNat (i64.wrap (7*u1))) 64))),i64.wrap (u1+1)) I
 else
 jq B ro a0 a1 Q I
def aev(B:World)(ro:AH)(a0:Sl)(a1:Int)(I:AH)(Q:Int->Int->Int->AH->Prop):=
 if(a1<0)\/((a0.len:Int)<a1)then
 Q 0 0 11 I
 else
 cutOk (some a1) none a0.len a0.cap/\
 lfpD (uF B ro a0 a1 Q) (0,0) I
theorem akt{a0 a1 Q}(h:Sep ro I->aev B ro a0 a1 I Q):ael B ro a0 a1 I Q:=by
 refine zb h func119 ntmps119 fun h=>?_;unfold aev at h;refine zw ?_;refine AW.seq ?_;refine zw ?_;refine qx 5 (decide (a1<0)) [(0,Sl.v a0),(1,.int .i64 a1),(4,.int .i64 0),(16,.bool ((decide (a1<0)) || (decide ((a0.len:Int)<a1))))] ?_ ?_ ?_
 .intro e2 hk2
  refine zv e2 ?_;exact hk2 _ (Fe e2)
 .intro e2 hk2
  refine zv e2 ?_;refine qo (qD rfl rfl mo rfl rfl) rfl rfl rfl rfl e2 ?_
  refine zv e2 ?_;exact hk2 _ (Fe e2)
 intro fr hl
 refine Lfr hl ?_
 refine zw ?_;refine AW.iff rfl (qJ mg mg) h (fun h=>?_) (fun h=>?_)
 .refine zw ?_;exact bR3 results119 rfl rfl rfl ⟨_,_,_,rfl,h⟩
 refine zw ?_;refine AW.seqJ (fun fr I=>qg [(0,Sl.v a0),(1,.int .i64 a1)] fr/\jq B ro a0 a1 Q I) ?_ ?_
 .rintro fr I ⟨hl,h⟩;refine AW.weaken ?_ hl (HLe.refl _)
  unfold jq at h;refine AW.seq ?_;refine zw ?_;refine zm (qD rfl rfl mo rfl rfl) ?_;refine zi h (fun h=>?_) fun h=>?_
  .refine zw ?_;exact bR3 results119 rfl rfl rfl ⟨_,_,_,rfl,h⟩
  refine zw ?_;exact bR3 results119 rfl rfl rfl ⟨_,_,_,rfl,h⟩
 refine zw ?_;obtain⟨hc,h⟩:=h
 refine zm (abI (lo:=(some a1)) (hi:=none) rfl mo ty5 rfl (wK rfl) vD hc) ?_;refine zm (qD rfl rfl mo rfl rfl) ?_;refine zw ?_;refine qf.loop (fr':=[(0,Sl.v a0),(1,.int .i64 a1),(19,Sl.v (⟨wH a0.a (Int.toNat a1) a0.cap 1,a0.len - Int.toNat a1,a0.cap - Int.toNat a1⟩:Sl)),(20,.int .i64 ((⟨wH a0.a (Int.toNat a1) a0.cap 1,a0.len - Int.toNat a1,a0.cap - Int.toNat a1⟩:Sl).len:Int)),(4,.int .i64 0),(21,.int .i64 0)]) ?_ FL
 refine h (fun⟨u0,u1⟩ I=>qf _ _ _ _ _ _ [(0,Sl.v a0),(1,.int .i64 a1),(19,Sl.v (⟨wH a0.a (Int.toNat a1) a0.cap 1,a0.len - Int.toNat a1,a0.cap - Int.toNat a1⟩:Sl)),(20,.int .i64 ((⟨wH a0.a (Int.toNat a1) a0.cap 1,a0.len - Int.toNat a1,a0.cap - Int.toNat a1⟩:Sl).len:Int)),(4,.int .i64 u0),(21,.int .i64 u1)] I) ?_
 rintro⟨u0,u1⟩ I Y2 hY2 h
 show AW _ _ _ _ _ _ _ _
 unfold uF at h;dsimp only at h;refine zw ?_;refine AW.seq ?_;refine zi h (fun h=>?_) fun h=>?_
 rotate_left
 .refine AW.exit ?_;refine zw ?_;refine qN ?_
  refine zw ?_;exact⟨FL,h⟩
 refine zw ?_;refine AW.seq ?_;refine zw ?_;obtain⟨p2,ha,h0,h1,h⟩:=h
 refine zm (wR rfl mo ty5 (ixL rfl ha) rfl h0 h1) ?_;refine zLp nF h fun u3 h=>?_;refine AW.seq ?_;refine zi h (fun h=>?_) fun h=>?_
 .refine AW.exit ?_;refine zw ?_;refine asc rfl ?_
  refine zw ?_;refine qN ?_
  refine zw ?_;exact⟨FL,h⟩
 refine zw ?_;refine zm (asU rfl rfl rfl) ?_;refine zm (alC rfl rfl nF mj) ?_;refine zw ?_;obtain⟨hc,h⟩:=h
 refine zm (asV rfl rfl rfl hc) ?_;refine zm (ar7 rfl rfl rfl) ?_;refine zi h (fun h=>?_) fun h=>?_
 rotate_left
 .refine zw ?_;refine qf.head (fr':=[(0,Sl.v a0),(1,.int .i64 a1),(19,Sl.v (⟨wH a0.a (Int.toNat a1) a0.cap 1,a0.len - Int.toNat a1,a0.cap - Int.toNat a1⟩:Sl)),(20,.int .i64 ((⟨wH a0.a (Int.toNat a1) a0.cap 1,a0.len - Int.toNat a1,a0.cap - Int.toNat a1⟩:Sl).len:Int)),(4,.int .i64 (uT .i64 u0 (i64.wrap ((i64.wrap (abk .u8 u3 127))*2 ^ (min (Int.toNat (i64.wrap (7*u1))) 64))))),(21,.int .i64 (i64.wrap (u1+1)))]) ?_ FL
  exact hY2 _ _ h
 refine AW.seq ?_;refine zw ?_;refine qx 3 (decide (u3=0)) [(1,.int .i64 a1),(4,.int .i64 (uT .i64 u0 (i64.wrap ((i64.wrap (abk .u8 u3 127))*2 ^ (min (Int.toNat (i64.wrap (7*u1))) 64))))),(7,.int .i64 u1),(43,.bool ((decide (u3=0)) && (decide (0<u1))))] ?_ ?_ ?_
 .intro e2 hk2
  refine zv e2 ?_;exact hk2 _ (Fe e2)
 .intro e2 hk2
  refine zv e2 ?_;exact hk2 _ (Fe e2)
 intro fr hl
 refine Lfr hl ?_
 refine zw ?_;refine qn 4 ((decide (u3=0)) && (decide (0<u1))) (xv mg mg) h (fun fr I=> ∃(u4:Bool),qg [(1,.int .i64 a1),(4,.int .i64 (uT .i64 u0 (i64.wrap ((i64.wrap (abk .u8 u3 127))*2 ^ (min (Int.toNat (i64.wrap (7*u1))) 64))))),(7,.int .i64 u1),(48,.bool u4)] fr/\yO B ro a1 u0 u1 u3 Q Y2 u4 I) ?_ ?_ ?_
 .intro h e6 hk6;refine zv e6 ?_;exact hk6 _ _ ⟨_,FL,h⟩
 .intro h e6 hk6;refine zy e6 ?_;refine Lyb rfl rfl rfl rfl e6 (wu rfl func174 rfl rfl rfl (qc.mono h ?_))
  rintro v I ⟨u5,rfl,h⟩;refine zv e6 ?_;exact hk6 _ _ ⟨_,FL,h⟩
 rintro fr I ⟨u4,hl,h⟩;unfold yO at h;refine Lfr hl ?_
 refine zj h (fun h=>?_) fun h=>?_
 .refine zw ?_;exact bR3 results119 rfl rfl rfl ⟨_,_,_,rfl,h⟩
 refine zw ?_;exact bR3 results119 rfl rfl rfl ⟨_,_,_,rfl,h⟩
def aft(B:World)(ro:AH)(a0:Int)(I:AH)(Q:Bool->AH->Prop):=
 Q ((decide (0<=a0)) && (decide (a0<=4611686018427387903))) I
theorem alt{a0 Q}(h:Sep ro I->aft B ro a0 I Q):ac3 B ro a0 I Q:=by
 refine zb h func174 ntmps174 fun h=>?_;unfold aft at h;refine zw ?_;refine qx 3 (decide (0<=a0)) [(8,.bool ((decide (0<=a0)) && (decide (a0<=4611686018427387903))))] ?_ ?_ ?_
 .intro e2 hk2
  refine zv e2 ?_;exact hk2 _ (Fe e2)
 .intro e2 hk2
  refine zv e2 ?_;exact hk2 _ (Fe e2)
 intro fr hl
 refine Lfr hl ?_
 exact zr h
def ace(B:World)(ro:AH)(Q:Sl->AH->Prop)(u0:Sl)(u1:Int)(I:AH):=
 nw ro I (.cells #[.int .u8 (IntKind.u8.wrap u1)] 5) fun u2 I=>
 awp prog ro (Builtin.append_ #[24,24] 24 #[Sl.v u0,Sl.v (⟨some ⟨u2,0,none⟩,1,1⟩:Sl)]) (fun v I=> ∃(u3:Sl),v=Sl.v u3/\
 Q u3 I) I
def acf(B:World)(ro:AH)(Q:Sl->AH->Prop):(Sl×Int)->AH->((Sl×Int)->AH->Prop)->Prop:=fun⟨u0,u1⟩ I Y6=>
 if 128<=u1 then
 nw ro I (.cells #[.int .u8 (uT .u8 (IntKind.u8.wrap u1) 128)] 5) fun u2 I=>
 awp prog ro (Builtin.append_ #[24,24] 24 #[Sl.v u0,Sl.v (⟨some ⟨u2,0,none⟩,1,1⟩:Sl)]) (fun v I=> ∃(u3:Sl),v=Sl.v u3/\
  Y6 (u3,Int.fdiv u1 (2 ^ (min (Int.toNat 7) 64))) I) I
 else
 ace B ro Q u0 u1 I
def agZ(B:World)(ro:AH)(a0:Sl)(a1:Int)(I:AH)(Q:Sl->AH->Prop):=
 lfpD (acf B ro Q) (a0,a1) I
theorem amA{a0 a1 Q}(h:Sep ro I->agZ B ro a0 a1 I Q):agK B ro a0 a1 I Q:=by
 refine zb h func175 ntmps175 fun h=>?_;unfold agZ at h;refine zw ?_;refine AW.seqJ (fun fr I=> ∃(u0:Sl) (u1:Int),qg [(0,Sl.v u0),(1,.int .i64 u1)] fr/\ace B ro Q u0 u1 I) ?_ ?_
 .rintro fr I ⟨u0,u1,hl,h⟩;refine AW.weaken ?_ hl (HLe.refl _)
  unfold ace at h;refine zw ?_;refine zm (alC rfl rfl mj nF) ?_;refine zA (wS (vs:=[(0,.int .u8 (IntKind.u8.wrap u1))]) (cs:= #[.int .u8 (IntKind.u8.wrap u1)]) rfl mo ty5 z8 rfl rfl) h fun u2 h=>?_;refine zl (yt (s:=Builtin.append_ #[24,24] 24 #[Sl.v u0,Sl.v (⟨some ⟨u2,0,none⟩,1,1⟩:Sl)]) rfl rfl (fun _=>rfl) (qj _ h ?_))
  rintro v I ⟨u3,rfl,h⟩;exact zr h
 refine zw ?_;refine qf.loop (fr':=[(0,Sl.v a0),(1,.int .i64 a1)]) ?_ FL
 refine h (fun⟨u4,u5⟩ I=>qf _ _ _ _ _ _ [(0,Sl.v u4),(1,.int .i64 u5)] I) ?_
 rintro⟨u4,u5⟩ I Y6 hY6 h
 show AW _ _ _ _ _ _ _ _
 unfold acf at h;dsimp only at h;refine AW.seq ?_;refine zi h (fun h=>?_) fun h=>?_
 rotate_left
 .refine AW.exit ?_;refine zw ?_;refine qN ?_
  refine zw ?_;exact⟨_,_,FL,h⟩
 refine zw ?_;refine AW.seq ?_;refine zw ?_;refine zm (alC rfl rfl mj nF) ?_;refine zm (ar7 rfl rfl rfl) ?_;refine zA (wS (vs:=[(0,.int .u8 (uT .u8 (IntKind.u8.wrap u5) 128))]) (cs:= #[.int .u8 (uT .u8 (IntKind.u8.wrap u5) 128)]) rfl mo ty5 z8 rfl rfl) h fun u6 h=>?_;refine zl (yt (s:=Builtin.append_ #[24,24] 24 #[Sl.v u4,Sl.v (⟨some ⟨u6,0,none⟩,1,1⟩:Sl)]) rfl rfl (fun _=>rfl) (qj _ h ?_))
 rintro v I ⟨u7,rfl,h⟩;refine zw ?_;refine zm (asW rfl rfl rfl z8) ?_;refine zw ?_;refine qf.head (fr':=[(0,Sl.v u7),(1,.int .i64 (Int.fdiv u5 (2 ^ (min (Int.toNat 7) 64))))]) ?_ FL
 exact hY6 _ _ h
end G
namespace Wi
open Go SL G Zt
variable{B:World}[Zd B]{ro I I':AH}{tag tag':Nat->Nat}
variable{Q:AH->Prop}{W n q r x:Nat}{s:Sl}{l p:Str}{a:Str×Bool}
theorem atC(n:Nat):uT .u8 (IntKind.u8.wrap (n:Int)) 128=((n%128+128:Nat):Int):=by
 have h:∀ c:Fin 256,uT .u8 ((c.val:Nat):Int) 128=((c.val%128+128:Nat):Int):=by decide+kernel
 have e:IntKind.u8.wrap (n:Int)=((n%256:Nat):Int):=by
  simp[IntKind.wrap,IntKind.bits,IntKind.signed]
 rw[e,h ⟨n%256,LQ _ z8⟩]
 simp only
 omega
theorem aoY(h:n<256):IntKind.u8.wrap (n:Int)=(n:Int):=by
 simp[IntKind.wrap,IntKind.bits,IntKind.signed];omega
theorem an6(h:n<256):vU (UInt8.ofNat n)= .int .u8 (n:Int):=by
 unfold vU;rw[aeN n h]
theorem al3{n:Int}{Q:Bool->AH->Prop}(hQ:Q (qY n) I):ac3 B ro n I Q:=by
 refine alt fun _=>?_
 unfold aft
 exact hQ
theorem asu{Q:Sl->AH->Prop}(hs:SL.Sep ro I)(hn:n<4611686018427387904)(hQ:∀ s tag' I',qd [1] ro tag I tag' I'->Row tag' I' 1 5 s ((qO n).map vU)->Q s I'):agK B ro ⟨none,0,0⟩ (n:Int) I Q:=by
 refine amA fun _=>?_
 unfold agZ
 suffices∀(m k:Nat) (acc:Str) (s:Sl) (tag1:Nat->Nat) (I1:AH),k<128 ^ (m+1)->acc.length+m<20->acc++qO k=qO n->qd [1] ro tag I tag1 I1->Row tag1 I1 1 5 s (acc.map vU)->lfpD (acf B ro Q) (s,(k:Int)) I1 from
  this 8 n [] ⟨none,0,0⟩ tag I z6 z8 rfl (qd.refl hs) (Row.nil 1 5)
 intro m
 induction m with
 | zero=>
  intro k acc s tag1 I1 hk ha he st r1
  have hk:k<128:=by simpa using hk
  refine lfpD.intro ?_
  unfold acf
  simp only
  rw[mc z6]
  unfold ace
  refine qr (tag:=tag1) 0 st.sep fun x tag2 I2 st2 r2=>?_
  rw[aoY z6]at r2
  refine aaI (l2:=[vU (UInt8.ofNat k)]) (r1.keep (st2 [])) (st2 []).sep (by rw[an6 z6];exact r2.read (st2 []).sep) u30 ty5 rfl (by simp[qk]) y6 z8 fun s' tag3 I3 st3 r3=>?_
  refine⟨s',rfl,hQ s' tag3 I3 (st.trans ((st2 _).trans (st3 _ (.inr z7)))) ?_⟩
  rw[<-he]
  rw[qO,me hk,mJ]
  exact r3
 | succ m ih=>
  intro k acc s tag1 I1 hk ha he st r1
  refine lfpD.intro ?_
  unfold acf
  simp only
  by_cases h128:128<=k
  .rw[me z6]
   refine qr (tag:=tag1) 0 st.sep fun x tag2 I2 st2 r2=>?_
   rw[atC]at r2
   refine aaI (l2:=[vU (UInt8.ofNat (k%128+128))]) (r1.keep (st2 [])) (st2 []).sep (by rw[an6 z6];exact r2.read (st2 []).sep) u30 ty5 rfl (by simp[qk]) y6 z8 fun s' tag3 I3 st3 r3=>?_
   refine⟨s',rfl,?_⟩
   rw[show Int.fdiv (k:Int) (2 ^ (min (Int.toNat 7) 64))=((k / 128:Nat):Int) by
    rw[show(2:Int) ^ (min (Int.toNat 7) 64)=128 from by decide,Int.fdiv_eq_ediv_of_nonneg _ z8];omega]
   refine ih (k / 128) (acc++[UInt8.ofNat (k%128+128)]) s' tag3 I3 (by rw[Nat.pow_succ]at hk;exact Nat.div_lt_of_lt_mul (by rw[Lk];exact hk)) y6 ?_ (st.trans ((st2 _).trans (st3 _ (.inr z7)))) (by rw[mJ];exact r3)
   rw[<-he,mI]
   conv=>rhs;rw[qO,mc z6]
   rfl
  .rw[mc z6]
   unfold ace
   refine qr (tag:=tag1) 0 st.sep fun x tag2 I2 st2 r2=>?_
   rw[aoY z6]at r2
   refine aaI (l2:=[vU (UInt8.ofNat k)]) (r1.keep (st2 [])) (st2 []).sep (by rw[an6 z6];exact r2.read (st2 []).sep) u30 ty5 rfl (by simp[qk]) y6 z8 fun s' tag3 I3 st3 r3=>?_
   refine⟨s',rfl,hQ s' tag3 I3 (st.trans ((st2 _).trans (st3 _ (.inr z7)))) ?_⟩
   rw[<-he]
   rw[qO,me z6,mJ]
   exact r3
def wB(a:Str×Bool)(n:Int):Str×Bool:=if qY n then(a.1++qO n.toNat,a.2)else(a.1,true)
theorem kl(a:Str×Bool)(n:Int):(wB a n).1.length<=a.1.length+9:=by
 unfold wB
 split
 .rename_i h
  unfold qY at h
  simp only[mv,mV]at h
  have:=(al0 8 n.toNat z6).2
  simp;omega
 .simp
theorem ajG{n:Int}(h:qP tag I r W a.1 a.2)(hr:r≠1)(hs:SL.Sep ro I)(hl:a.1.length+9<=140737488355328)
  (hQ:∀ tag' I',qd [r,r+64,1] ro tag I tag' I'->qP tag' I' r W (wB a n).1 (wB a n).2->Q I'):ys B ro (some ⟨W,0,none⟩) n I Q:=by
 refine ahV fun _=>?_
 unfold ab1
 refine al3 ?_
 unfold wB at hQ
 by_cases hn:qY n=true
 .rw[mc (by simp[hn])]
  simp only[hn,if_true]at hQ
  have hn':=hn
  unfold qY at hn'
  simp only[mv,mV]at hn'
  refine⟨_,rfl,?_⟩
  obtain⟨k,rfl⟩:=Int.eq_ofNat_of_zero_le hn'.1
  rw[mr]at hQ
  refine asu (tag:=tag) hs z6 fun s tag1 I1 st1 r1=>?_
  have hk:=(al0 8 k z6).2
  refine agb (d:=qO k) (h.keep st1 (j1 hr) z7) st1.sep z6 (by rw[r1.len];simp) (fun tag2 I2 st2=>(r1.keep st2 y6).read st2.sep) fun _ _ tag2 I2 st2 h2=>?_
  exact hQ tag2 I2 ((st1.mono z7).trans (st2.mono z7)) h2
 .rw[me (j1 hn)]
  simp only[hn]at hQ
  obtain⟨s0,hcap,lr,h1,h2⟩:=h
  refine⟨_,rfl,?_⟩
  refine h1.st (i:=3) hs rfl z7 rfl fun I1 st1 r1=>?_
  exact hQ tag I1 (st1.mono z7) ⟨s0,hcap,lr,r1,h2.keep st1⟩
theorem adc{Q:Option Addr->AH->Prop}(hQ:∀ W tag' I',(∀R,qd R ro tag I tag' I')->qP tag' I' r W [] false->Q (some ⟨W,0,none⟩) I'):jl B ro I Q:=by
 refine ais fun hs=>?_
 unfold acF
 refine qr (tag:=tag) r hs fun W tag1 I1 st1 r1=>?_
 exact hQ W tag1 I1 st1 ⟨⟨none,0,0⟩,z8,0,r1,Row.nil _ _⟩
theorem asv:¬ (i64.wrap (0+1)<((1:Nat):Int)):=z8
def wv(a:Str×Bool)(p:Str):Str×Bool:=((wB a p.length).1++p,(wB a p.length).2)
theorem vl(a:Str×Bool)(p:Str):(wv a p).1.length<=a.1.length+9+p.length:=by
 have:=kl a p.length
 unfold wv;simp;omega
theorem akW(h:qP tag I r W a.1 a.2)(hr:r≠1)(hq:q≠r/\q≠r+64/\q≠1)(hs:SL.Sep ro I)(hl:a.1.length+9+p.length<=140737488355328)(hx:Row tag I q 9 ⟨some ⟨x,0,none⟩,1,1⟩ [Pa.vS p])
  (hQ:∀ tag' I',qd [r,r+64,1] ro tag I tag' I'->qP tag' I' r W (wv a p).1 (wv a p).2->Q I'):zE B ro (some ⟨W,0,none⟩) ⟨some ⟨x,0,none⟩,1,1⟩ I Q:=by
 refine agY fun _=>?_
 unfold aaV
 refine lfpD.intro ?_
 unfold aak
 rw[me z7]
 refine⟨_,rfl,z8,z7,S p,hx.cell1 hs,_,rfl,?_⟩
 have hlen:=kl a p.length
 rw[show((S p).size:Int)=(p.length:Nat)from by rw[<-wT,L_S]]
 refine ajG h hr hs z6 fun tag1 I1 st1 h1=>?_
 refine⟨_,rfl,?_⟩
 refine aks h1 st1.sep (by rw[L_S];omega) fun _ _ tag2 I2 st2 h2=>?_
 rw[L_S]at h2
 refine lfpD.intro ?_
 rw[mc (show¬(i64.wrap (0+1)<((⟨some ⟨x,0,none⟩,1,1⟩:Sl).len:Int))from asv)]
 exact hQ tag2 I2 (st1.trans (st2.mono z7)) h2
theorem akX(h:qP tag I r W a.1 a.2)(hr:r≠1)(hq:q≠r/\q≠r+64/\q≠1)(hs:SL.Sep ro I)(hl:a.1.length+9+p.length<=140737488355328)(hx:Row tag I q 24 ⟨some ⟨x,0,none⟩,1,1⟩ [Sl.v s])(hsl:s.len=p.length)
  (hsrc:∀ tag' I',qd [r,r+64,1] ro tag I tag' I'->SL.qU ro I' s (p.map vU)) (hQ:∀ tag' I',qd [r,r+64,1] ro tag I tag' I'->qP tag' I' r W (wv a p).1 (wv a p).2->Q I'):
  vo B ro (some ⟨W,0,none⟩) ⟨some ⟨x,0,none⟩,1,1⟩ I Q:=by
 refine adb fun _=>?_
 unfold pj
 refine lfpD.intro ?_
 unfold zt
 rw[me z7]
 refine⟨_,rfl,z8,z7,s,hx.cell1 hs,_,rfl,?_⟩
 have hlen:=kl a p.length
 rw[hsl]
 refine ajG h hr hs z6 fun tag1 I1 st1 h1=>?_
 refine⟨_,rfl,?_⟩
 have wid:∀ x∈[r,r+64],x∈[r,r+64,1]:=fun x hx=>by
  simp only[mD,LE,or_false]at hx⊢
  rcases hx with h | h<;>simp[h]
 refine agb (d:=p) h1 st1.sep z6 hsl (fun tag2 I2 st2=>hsrc tag2 I2 (st1.trans (st2.mono wid))) fun _ _ tag2 I2 st2 h2=>?_
 refine lfpD.intro ?_
 rw[mc (show¬(i64.wrap (0+1)<((⟨some ⟨x,0,none⟩,1,1⟩:Sl).len:Int))from asv)]
 exact hQ tag2 I2 (st1.trans (st2.mono wid)) h2
theorem aku(hr:r≠1)(hq:q≠r/\q≠r+64/\q≠1){ns:List Int}(h:qP tag I r W a.1 a.2)(hs:SL.Sep ro I)(hl:a.1.length+9*ns.length<=140737488355328)(hx:Row tag I q 3 s (ns.map Zt.vI))
  (hQ:∀ tag' I',qd [r,r+64,1] ro tag I tag' I'->qP tag' I' r W (ns.foldl wB a).1 (ns.foldl wB a).2->Q I'):qX B ro (some ⟨W,0,none⟩) s I Q:=by
 refine ahq fun _=>?_
 unfold abx
 have hsl:s.len=ns.length:=by rw[hx.len,ml]
 suffices∀(m j:Nat) (tag1:Nat->Nat) (I1:AH),j+m=ns.length->qd [r,r+64,1] ro tag I tag1 I1->((ns.take j).foldl wB a).1.length<=a.1.length+9*j->qP tag1 I1 r W ((ns.take j).foldl wB a).1 ((ns.take j).foldl wB a).2->lfpD (jh B ro (some ⟨W,0,none⟩) s Q) (j:Int) I1 from
  this _ 0 tag I (mp _) (qd.refl hs) z7 (j1 h)
 intro m
 induction m with
 | zero=>
  intro j tag1 I1 hj st _ h1
  refine lfpD.intro ?_
  unfold jh
  rw[mc z6]
  rw[mT z6]at h1
  exact hQ tag1 I1 st h1
 | succ m ih=>
  intro j tag1 I1 hj st hln h1
  have hjl:j<ns.length:=by omega
  have hx1:=hx.keep st y6
  obtain⟨p,hp,hg⟩:=hx1.ptr st.sep y6
  refine lfpD.intro ?_
  unfold jh
  rw[me z6]
  refine⟨p,hp,z6,z6,ns[j],?_,_,rfl,?_⟩
  .have:=hg j (Zt.vI ns[j]) (by rw[mq,mh hjl];try rfl)
   rw[mr];exact this
  .refine ajG h1 hr st.sep z6 fun tag2 I2 st2 h2=>?_
   rw[Pa.inc j z6]
   have e:(ns.take (j+1)).foldl wB a=wB ((ns.take j).foldl wB a) ns[j]:=by
    rw[np,mh hjl,List.foldl_append];try rfl
   have:=kl ((ns.take j).foldl wB a) ns[j]
   exact ih (j+1) tag2 I2 z6 (st.trans st2) (by rw[e];omega) (by rw[e];exact h2)
theorem ajH{Q:Sl->Int->AH->Prop}(h:qP tag I r W a.1 a.2)(hs:SL.Sep ro I)(hl:a.1.length<=140737488355328)
  (hbad:a.2=true->Q ⟨none,0,0⟩ 10 I) (hgood:a.2=false->∀ s tag' I',(∀R,qd R ro tag I tag' I')->Row tag' I' 6 5 s (a.1.map vU)->Q s 0 I'):xT B ro (some ⟨W,0,none⟩) I Q:=by
 refine ahS fun _=>?_
 unfold abY
 obtain⟨s0,hcap,lr,h1,h2⟩:=h
 obtain⟨p,hp,hg⟩:=h1.ptr hs z7
 cases hp
 refine⟨_,rfl,a.2,hg 3 _ rfl,?_⟩
 by_cases hb:a.2=true
 .rw[me hb];exact hbad hb
 .rw[mc hb]
  refine⟨_,rfl,?_⟩
  refine agn fun _=>?_
  unfold aaj
  refine⟨_,rfl,_,rfl,s0,hg 0 _ rfl,0,hg 1 _ rfl,⟨trivial,z8,by simp only[cutHi];omega⟩,?_⟩
  rw[show(⟨wH s0.a (Int.toNat 0) s0.cap 1,s0.len - Int.toNat 0,s0.cap - Int.toNat 0⟩:Sl)=s0 from by rw[show Int.toNat 0=0 from rfl,uP];try rfl]
  refine clone_ok (tag:=tag) (h2.read hs) hs y6 (ajF _) fun s' tag1 I1 st1 r1=>?_
  exact hgood (j1 hb) s' tag1 I1 st1 r1
theorem ath(c:UInt8):abk .u8 (c.toNat:Int) 127=((c.toNat%128:Nat):Int):=by
 have h:∀ c:Fin 256,abk .u8 ((c.val:Nat):Int) 127=((c.val%128:Nat):Int):=by decide+kernel
 exact h ⟨c.toNat,an5 c⟩
theorem anf{i:Nat}(c:UInt8)(hi:i<=8)(hn:n<128 ^ i):
  uT .i64 (n:Int) (i64.wrap ((i64.wrap (abk .u8 (c.toNat:Int) 127))*2 ^ (min (Int.toNat (i64.wrap (7*(i:Int)))) 64)))=((n+128 ^ i*(c.toNat%128):Nat):Int):=by
 have hm:c.toNat%128<128:=LQ _ z8
 rw[ath]
 generalize c.toNat%128=m at hm
 rw[qM (n:=(m:Int)) z6 z6,qM (n:=7*(i:Int)) z6 z6]
 have hp:(2:Int) ^ (min (Int.toNat (7*(i:Int))) 64)=((128 ^ i:Nat):Int):=by
  have:i=0\/i=1\/i=2\/i=3\/i=4\/i=5\/i=6\/i=7\/i=8:=by omega
  rcases this with rfl | rfl | rfl | rfl | rfl | rfl | rfl | rfl | rfl<;>decide
 rw[hp]
 have h8:128 ^ i<=128 ^ 8:=Nat.pow_le_pow_right z8 hi
 have h9:m*128 ^ i<=127*128 ^ 8:=Nat.mul_le_mul z6 h8
 have h9':m*128 ^ i<=9151314442816847872:=by simpa using h9
 have hn':n<72057594037927936:=Nat.lt_of_lt_of_le hn (j1 h8)
 rw[<-Int.natCast_mul,qM z6 z6]
 unfold uT
 have e:(BitVec.ofInt IntKind.i64.bits (n:Int) ||| BitVec.ofInt IntKind.i64.bits ((m*128 ^ i:Nat):Int)).toNat=n+128 ^ i*m:=by
  rw[BitVec.toNat_or,BitVec.ofInt_natCast,BitVec.ofInt_natCast,BitVec.toNat_ofNat,BitVec.toNat_ofNat]
  rw[show IntKind.i64.bits=64 from rfl,Lf z6,Lf z6]
  have e2:128 ^ i=2 ^ (7*i):=by rw[Nat.pow_mul]
  rw[Nat.or_comm,Lk m,e2,<-Nat.two_pow_add_eq_or_of_lt (by rw[<-e2];exact hn)]
  omega
 rw[e]
 have:128 ^ i*m=m*128 ^ i:=Lk _ _
 rw[qM z6 z6]
theorem aoZ{Q:Int->Int->Int->AH->Prop}(h:SL.qU ro I s (l.map vU))(hl:l.length<=140737488355328)(hQ:Q (num l).1 (num l).2.1 (num l).2.2 I):ael B ro s 0 I Q:=by
 refine akt fun _=>?_
 unfold aev
 have hln:s.len=l.length:=by rw[h.1,ml]
 rw[mc z6]
 refine⟨⟨trivial,z8,by simp only[cutHi];omega⟩,?_⟩
 have e0:(⟨wH s.a (Int.toNat 0) s.cap 1,s.len - Int.toNat 0,s.cap - Int.toNat 0⟩:Sl)=s:=by rw[show Int.toNat 0=0 from rfl,uP];try rfl
 suffices∀(m i:Nat),i+m=9->i<=l.length->(∀j c,j<i->l[j]?=some c->128<=c.toNat)->lfpD (uF B ro s 0 Q) (((val (l.take i):Nat):Int),(i:Int)) I from
  this 9 0 rfl (Nat.zero_le _) (fun j c h=>by omega)
 intro m
 induction m with
 | zero=>
  intro i hi hil hall
  have hi9:i=9:=by omega
  subst hi9
  refine lfpD.intro ?_
  unfold uF
  simp only[e0]
  have hnum:num l=(0,0,if l.length<9 then 12 else 13):=by unfold num;rw[ac9 9 l hall]
  have hj:jq B ro s 0 Q I:=by
   unfold jq
   rw[Int.sub_zero,qM z6 z6,me z6]
   rw[hnum,mc z6]at hQ
   exact hQ
  by_cases hlt:9<l.length
  .rw[me z6]
   have ha:s.a≠none:=fun hn=>by have:=h.2.1 hn;simp at this;subst this;simp at hlt
   obtain⟨p,hs⟩:∃ p,s.a=some p:=by
    cases hs:s.a with
    | none=>exact mC hs ha
    | some p=>exact⟨p,rfl⟩
   .skip
    refine⟨p,by rw[show Int.toNat 0=0 from rfl,uP,hs],z8,z6,(l[9].toNat:Int),?_,?_⟩
    .have:=h.2.2 p hs 9 (vU l[9]) (by rw[mq,mh hlt];try rfl)
     exact this
    .rw[me z8];exact hj
  .rw[mc z6];exact hj
 | succ m ih=>
  intro i hi hil hall
  refine lfpD.intro ?_
  unfold uF
  simp only[e0]
  by_cases hlt:i<l.length
  .rw[me z6]
   have ha:s.a≠none:=fun hn=>by have:=h.2.1 hn;simp at this;subst this;simp at hlt
   obtain⟨p,hs⟩:∃ p,s.a=some p:=by
    cases hs:s.a with
    | none=>exact mC hs ha
    | some p=>exact⟨p,rfl⟩
   .skip
    refine⟨p,by rw[show Int.toNat 0=0 from rfl,uP,hs],z6,z6,(l[i].toNat:Int),?_,?_⟩
    .have:=h.2.2 p hs i (vU l[i]) (by rw[mq,mh hlt];try rfl)
     rw[mr,mX];exact this
    .rw[mc z6]
     refine⟨by rw[qM z6 z6];omega,?_⟩
     rw[anf l[i] z6 (agS l i)]
     have hlen:(l.take i).length=i:=by simp;omega
     have hval:val (l.take i)+128 ^ i*(l[i].toNat%128)=val (l.take (i+1)):=by
      have e:l.take (i+1)=l.take i++[l[i]]:=by rw[np,mh hlt];try rfl
      rw[e,aiY,hlen]
     rw[hval]
     by_cases hc:l[i].toNat<128
     .rw[me z6]
      have hscan:uD 9 l=some i:=am5 9 l i l[i] z6 hall (mh hlt) hc
      have hz:(l[i]?=some 0)↔l[i].toNat=0:=by
       rw[mh hlt]
       refine⟨fun h=>by rw[mQ h];try rfl,fun h=>mi some (alJ h)⟩
      unfold num at hQ
      rw[hscan]at hQ
      simp only at hQ
      by_cases hz0:((l[i].toNat:Int)=0)/\((0:Int)<(i:Int))
      .rw[me hz0]
       unfold yO
       rw[me rfl]
       rw[me (.inl ⟨z6,hz.2 z6⟩)]at hQ
       exact hQ
      .rw[mc hz0]
       refine al3 ?_
       unfold yO
       by_cases hr:4611686018427387904<=val (l.take (i+1))
       .rw[me (by simp[qY];omega)]
        rw[me (.inr hr)]at hQ
        exact hQ
       .rw[mc (by simp[qY];omega)]
        rw[mc (fun h=>by
         rcases h with⟨h1,h2⟩ | h
         .exact hz0 ⟨by rw[hz.1 h2];try rfl,z6⟩
         .exact hr h)]at hQ
        rw[Int.zero_add,anf l[i] z6 (agS l i),hval,qM (n:=(i:Int)) z6 z6,qM z6 z6]
        exact hQ
     .rw[mc z6]
      rw[Pa.inc i z6]
      refine ih (i+1) z6 z6 fun j c hj hjc=>?_
      rcases mB j i with h1 | h1
      .exact hall j c h1 hjc
      .have:j=i:=by omega
       subst this
       rw[mh hlt]at hjc
       cases hjc;omega
  .rw[mc z6]
   have hnone:uD 9 l=none:=ac9 9 l fun j c _ hjc=>hall j c (by
    rcases mB j l.length with h | h
    .omega
    .rw[mw h]at hjc;cases hjc) hjc
   unfold num at hQ
   rw[hnone]at hQ
   simp only at hQ
   unfold jq
   rw[Int.sub_zero,qM z6 z6,mc z6]
   rw[me z6]at hQ
   exact hQ
end Wi
namespace Zt
open Go SL G Pa Wi
variable{B:World}[Zd B]{ro I I':AH}{tag tag':Nat->Nat}
theorem atD:prog.underlying 5=some (.int .u8):=y0
theorem amB{P:Program}{f:Value->ByteArray->Sem (ForInStep ByteArray)}(hf:∀ (c:UInt8) (r:ByteArray),f (vU c) r=Sem.pure (.yield (r.push c))):
  ∀(l:Str) (s:Str),(forIn (l.map vU) (S s) f:Sem ByteArray)=Sem.pure (S (s++l)):=by
 intro l
 induction l with
 | nil=>intro s;simp;rfl
 | cons c l ih=>
  intro s
  simp only[nx,List.forIn_cons]
  rw[hf]
  show(match ForInStep.yield ((S s).push c)with | _=>_:Sem ByteArray)=_
  have e:(S s).push c=S (s++[c]):=by unfold S;simp[ByteArray.push]
  show forIn (l.map vU) ((S s).push c) f=_
  rw[e,ih]
  simp
theorem abO{s:Sl}{l:Str}{K:Value->AH->Prop}(h:SL.qU ro I s (l.map vU))(hK:K (.string (S l)) I):awp prog ro (convert 24 9 (Sl.v s)) K I:=by
 unfold convert
 simp only[qy]
 rw[qF u30,qF u9]
 simp only[Sl.v]
 rw[qF atD]
 simp only
 unfold Conv.bytesToString
 cases hs:s.a with
 | none=>
  have:l=[]:=by have:=h.2.1 hs;simpa using this
  subst this
  exact hK
 | some p=>
  simp only
  rw[h.1]
  refine(vC _ _).2 ?_
  refine xX (l.map vU) 0 #[] (wN 0 fun j v hj=>by rw[mp];exact h.2.2 p hs j v hj) ?_
  simp only[nZ,List.forIn_toArray,Array.empty_append]
  refine(vC _ _).2 ?_
  refine cast (mi (fun z=>awp prog ro z _ I) (amB (P:=prog) ?_ l [])).symm ?_
  .intro c r
   simp only[vU]
   show Sem.pure (ForInStep.yield (r.push (UInt8.ofNat (Int.toNat (c.toNat:Int)))))=_
   rw[mr];simp
  .exact hK
theorem arC{a b:Sl}{x y:Str}{Q:Bool->AH->Prop}(ha:SL.qU ro I a (x.map vU))(hb:SL.qU ro I b (y.map vU))(hQ:Q (decide (x=y)) I):ae7 B ro a b I Q:=by
 refine alr fun _=>?_
 unfold afq
 refine abO ha ⟨S x,rfl,abO hb ⟨S y,rfl,?_⟩⟩
 rw[show decide (S x=S y)=decide (x=y)from by simp only[yu]]
 exact hQ
def xE(a:Str×Bool)(p:Str×Nd):Str×Bool:=[p.2.ver,p.2.ctr,p.2.own].foldl wB (wv (wv a p.1) p.2.data)
theorem acH(a:Str×Bool)(n:Int)(h:a.2=true):(wB a n).2=true:=by unfold wB;split<;>simp[h]
theorem akY(a:Str×Bool)(p:Str)(h:a.2=true):(wv a p).2=true:=by unfold wv;exact acH _ _ h
theorem ao0(a:Str×Bool)(p:Str×Nd)(h:a.2=true):(xE a p).2=true:=by
 unfold xE
 simp only[nj,Lb]
 exact acH _ _ (acH _ _ (acH _ _ (akY _ _ (akY _ _ h))))
theorem al4(a:Str×Bool)(p:Str)(h:p.length<=4611686018427387903):wv a p=(a.1++ue p,a.2):=by
 have hr:qY (p.length:Int)=true:=by simp[qY];omega
 unfold wv wB
 rw[me hr]
 simp[ue]
theorem aqp(a:Str×Bool)(p:Str×Nd)(h1:p.1.length<=4611686018427387903)(h2:p.2.data.length<=4611686018427387903)(h:kC p.2=true):xE a p=(a.1++akq p,a.2):=by
 unfold kC at h
 simp only[mv]at h
 unfold xE
 rw[al4 _ _ h1,al4 _ _ h2]
 simp only[nj,Lb]
 unfold wB
 rw[me h.1.1,me h.1.2,me h.2]
 simp[akq]
theorem aqq(a:Str×Bool)(p:Str×Nd)(h:kC p.2=false):(xE a p).2=true:=by
 unfold xE
 simp only[nj,Lb]
 unfold kC at h
 by_cases h1:qY p.2.ver=true
 .by_cases h2:qY p.2.ctr=true
  .have h3:¬ qY p.2.own=true:=by simpa [h1,h2]using h
   unfold wB;rw[mc h3]
  .refine acH _ _ ?_
   unfold wB;rw[mc h2]
 .refine acH _ _ (acH _ _ ?_)
  unfold wB;rw[mc h1]
theorem ao1(a:Str×Bool)(p:Str×Nd):(xE a p).1.length<=a.1.length+45+p.1.length+p.2.data.length:=by
 unfold xE
 simp only[nj,Lb]
 have h1:=vl a p.1
 have h2:=vl (wv a p.1) p.2.data
 have h3:=kl (wv (wv a p.1) p.2.data) p.2.ver
 have h4:=kl (wB (wv (wv a p.1) p.2.data) p.2.ver) p.2.ctr
 have h5:=kl (wB (wB (wv (wv a p.1) p.2.data) p.2.ver) p.2.ctr) p.2.own
 omega
theorem ao2(x:St)(a:Str×Bool)(h:a.2=true):(x.foldl xE a).2=true:=by
 induction x generalizing a with
 | nil=>exact h
 | cons p x ih=>exact ih _ (ao0 a p h)
theorem ati(x:St)(hx:∀ p∈x,p.1.length<=4611686018427387903/\p.2.data.length<=4611686018427387903)(a:Str×Bool):
  (x.all (fun p=>kC p.2)=true->x.foldl xE a=(a.1++acD x,a.2))/\(x.all (fun p=>kC p.2)=false->(x.foldl xE a).2=true):=by
 induction x generalizing a with
 | nil=>exact⟨fun _=>by simp[acD],fun h=>by simp at h⟩
 | cons p x ih=>
  have hp:=hx p z7
  have:=ih (fun q hq=>hx q (by simp[hq])) (xE a p)
  refine⟨fun h=>?_,fun h=>?_⟩
  .simp only[LZ,mv]at h
   rw[nj,this.1 h.2,aqp a p hp.1 hp.2 h.1]
   simp[acD]
  .rw[nj]
   cases hn:kC p.2 with
   | false=>exact ao2 _ _ (aqq a p hn)
   | true=>exact this.2 (by simpa [hn]using h)
theorem ao3{r T M:Nat}{bs:List Nat}{st:St}{Q:Sl->AH->Prop}(hr:r<64)(hr0:r≠0)(hr1:r≠1)(hr6:r≠6)(hr3:r≠30)(h:zo tag I r T M bs st)(hl:∀ p∈st,p.1.length<=128/\p.2.data.length<=256)(hn:st.length<=4294967296)
  (hQ:∀ (s:Sl) (tag':Nat->Nat) (I':AH),qd [30,94,1] ro tag I tag' I'->Row tag' I' 6 5 s ((af9 st).map vU)->Q s I'):aaL B ro (some ⟨T,0,none⟩) I Q:=by
 refine agQ fun hs=>?_
 unfold aaQ
 have hR:∀ x∈[30,94,1],x%64≠r%64/\x≠6:=fun x hx=>by
  simp only[mD,LE,or_false]at hx
  omega
 refine adc (tag:=tag) (r:=30) fun W tag1 I1 st1 b1=>?_
 refine aqo (q:=22) (h.keep (st1 [])) (fun p hp=>(hl p hp).1) z6 fun s tag2 I2 ks st2 hpm hsrt hr2=>?_
 have hks:=aqn h.keys hpm hsrt
 have hsl:s.len=ks.length:=by rw[hr2.len,ml]
 have hkl:ks.length=(srt st).length:=by rw[hks,ml]
 have hkn:ks.length=st.length:=by rw[hpm.length_eq,ml]
 have hmem:∀ p∈srt st,p.1.length<=128/\p.2.data.length<=256:=fun p hp=>hl p ((afo st).mem_iff.1 hp)
 suffices∀(m j:Nat) (tag3:Nat->Nat) (I3:AH),j+m=ks.length->qd [30,94,1] ro tag I tag3 I3->zo tag3 I3 r T M bs st->Row tag3 I3 22 9 s (ks.map Pa.vS)->(((srt st).take j).foldl xE ([],false)).1.length<=429*j->
   qP tag3 I3 30 W (((srt st).take j).foldl xE ([],false)).1 (((srt st).take j).foldl xE ([],false)).2->lfpD (xD B ro (some ⟨T,0,none⟩) (some ⟨W,0,none⟩) s Q) (j:Int) I3 from
  this _ 0 tag2 I2 (mp _) ((st1 _).trans (st2 _)) ((h.keep (st1 [])).keep (st2 [])) hr2 z7 (b1.keep (st2 []))
 intro m
 induction m with
 | zero=>
  intro j tag3 I3 hj hst hA hrow hlen hb
  refine lfpD.intro ?_
  unfold xD
  rw[mc z6]
  unfold yx
  rw[mT z6]at hb hlen
  have hw:=ati (srt st) (fun p hp=>by have:=hmem p hp;omega) ([],false)
  have hes:af9 st=if(srt st).all (fun p=>kC p.2)=true then acD (srt st)else []:=rfl
  refine ajH hb hst.sep z6 (fun hbad=>?_) fun hgood s' tag4 I4 st4 r4=>?_
  .refine hQ _ tag3 I3 hst ?_
   rw[hes,mc (fun hall=>by rw[hw.1 hall]at hbad;cases hbad)]
   exact Row.nil 6 5
  .refine hQ s' tag4 I4 (hst.trans (st4 _)) ?_
   have hall:(srt st).all (fun p=>kC p.2)=true:=by
    cases e:(srt st).all (fun p=>kC p.2)with
    | true=>rfl
    | false=>rw[hw.2 e]at hgood;cases hgood
   rw[hes,me hall]
   rw[hw.1 hall]at r4
   simpa using r4
 | succ m ih=>
  intro j tag3 I3 hj hst hA hrow hlen hb
  have hjl:j<ks.length:=by omega
  have hjs:j<(srt st).length:=by omega
  obtain⟨pp,hpp,_,hget⟩:=Row.sget hrow hst.sep hjl
  have hs3:=hst.sep
  refine lfpD.intro ?_
  unfold xD
  rw[me z6]
  refine⟨pp,hpp,z6,z6,S ks[j],by rw[mr];exact hget j hjl,_,rfl,_,Row.cell1 hA.cell hs3,?_⟩
  refine uw hA.map hs3 u126 u9 ajB ?_
  have hkj:ks[j]=(srt st)[j].1:=by simp only[hks,List.getElem_map]
  have hnj:st.lookup ks[j]=some (srt st)[j].2:=by
   rw[jC h.keys,<-(afo st).mem_iff,hkj]
   exact mO hjs
  have hdl:=hmem _ (mO hjs)
  rcases ad6 st bs ks[j] h.len with⟨a,_⟩ | ⟨i,b,n,a1,a2,a3,e⟩
  .rw[hnj]at a;cases a
  .rw[e]
   rw[hnj]at a3
   have hn:n=(srt st)[j].2:=(mQ a3).symm
   refine⟨some ⟨b,0,none⟩,rfl,?_⟩
   refine qr (tag:=tag3) 0 hs3 fun x tag4 I4 st4 r4=>?_
   refine akW (r:=30) (q:=0) (p:=ks[j]) (hb.keep (st4 [])) z8 z8 (st4 []).sep (by rw[hkj];omega) r4 fun tag5 I5 st5 b5=>?_
   have hA5:=(hA.keep (st4 [])).keep st5 hR
   obtain⟨ds,hn1,hn2⟩:=hA5.nodes i b _ a1 a2
   obtain⟨q5,hq5,hg5⟩:=hn1.ptr st5.sep z7
   cases hq5
   refine⟨_,rfl,ds,hg5 4 _ rfl,?_⟩
   refine qr (tag:=tag5) 0 st5.sep fun y tag6 I6 st6 r6=>?_
   have hn26:=hn2.keep (st6 [])
   have hdn:n.data.length<=256:=by rw[hn];exact hdl.2
   have l5:=vl (((srt st).take j).foldl xE ([],false)) ks[j]
   refine akX (r:=30) (q:=0) (p:=n.data) (b5.keep (st6 [])) z8 z8 (st6 []).sep (by rw[hkj]at l5 ⊢;omega) r6 (by rw[hn2.len,ml]) (fun tag7 I7 st7=>(hn26.keep st7 z8).read st7.sep) fun tag7 I7 st7 b7=>?_
   have hA7:=(hA5.keep (st6 [])).keep st7 hR
   obtain⟨ds7,hn17,hn27⟩:=hA7.nodes i b _ a1 a2
   obtain⟨q7,hq7,hg7⟩:=hn17.ptr st7.sep z7
   cases hq7
   refine⟨_,rfl,_,rfl,_,rfl,n.ver,hg7 0 _ rfl,n.ctr,hg7 1 _ rfl,n.own,hg7 2 _ rfl,?_⟩
   refine qr (tag:=tag7) 0 st7.sep fun z tag8 I8 st8 r8=>?_
   have l7:=vl (wv (((srt st).take j).foldl xE ([],false)) ks[j]) n.data
   refine aku (r:=30) (q:=0) (ns:=[n.ver,n.ctr,n.own]) z8 z8 (b7.keep (st8 [])) (st8 []).sep (by rw[hkj]at l5 l7 ⊢;simp;omega) r8 fun tag9 I9 st9 b9=>?_
   rw[Pa.inc j z6]
   have e1:((srt st).take (j+1)).foldl xE ([],false)=[n.ver,n.ctr,n.own].foldl wB (wv (wv (((srt st).take j).foldl xE ([],false)) ks[j]) n.data):=by
    rw[np,mh hjs,List.foldl_append,hn,hkj];try rfl
   have l9:=ao1 (((srt st).take j).foldl xE ([],false)) (srt st)[j]
   have e2:xE (((srt st).take j).foldl xE ([],false)) (srt st)[j]=((srt st).take (j+1)).foldl xE ([],false):=by
    rw[np,mh hjs,List.foldl_append];try rfl
   refine ih (j+1) tag9 I9 z6 (((((((hst.trans (st4 _)).trans st5).trans (st6 _)).trans st7).trans (st8 _)).trans st9)) ((hA7.keep (st8 [])).keep st9 hR) ((((((hrow.keep (st4 [])).keep st5 z8).keep (st6 [])).keep st7 z8).keep (st8 [])).keep st9 z8) ?_ ?_
   .rw[<-e2];omega
   .rw[e1];exact b9
end Zt
namespace Wi
open Go SL G Zt
variable{B:World}[Zd B]{ro I I':AH}{tag tag':Nat->Nat}
variable{Q:Int->AH->Prop}{R:List Nat}{A q r:Nat}{x:Rd}{a s:Sl}{b l:Str}
def aaW(tag:Nat->Nat)(I:AH)(q:Nat)(s:Sl)(l:Str):Prop:=
 (s=⟨none,0,0⟩/\l=[])\/∃ (g:Nat) (cs:Array Value) (k:Nat),s.a=some ⟨g,k,none⟩/\tag g=q/\I g=some (.cells cs 5)/\s.len=l.length/\s.len<=s.cap/\∀ (i:Nat) (c:UInt8),l[i]?=some c->cs[k+i]?=some (vU c)
theorem aaW.len(h:aaW tag I q s l):s.len=l.length:=by
 rcases h with⟨rfl,rfl⟩ | ⟨_,_,_,_,_,_,h,_⟩
 .rfl
 .exact h
theorem aaW.cap(h:aaW tag I q s l):s.len<=s.cap:=by
 rcases h with⟨rfl,rfl⟩ | ⟨_,_,_,_,_,_,_,h,_⟩
 .exact mH _
 .exact h
theorem aaW.keep(h:aaW tag I q s l)(k:qd R ro tag I tag' I')(hr:q∉R:=by simp):aaW tag' I' q s l:=by
 rcases h with h | ⟨g,cs,o,ha,ht,hb,hx⟩
 .exact .inl h
 .obtain⟨t,e⟩:=k.keep g _ hb (by rw[ht];exact hr)
  exact .inr ⟨g,cs,o,ha,t.trans ht,e,hx⟩
theorem aaW.of_row(h:Row tag I q 5 s (l.map vU)):aaW tag I q s l:=by
 rcases h with⟨rfl,h⟩ | ⟨b,cs,ha,ht,hb,hln,hc,hle,hg⟩
 .exact .inl ⟨rfl,j1 h⟩
 .refine .inr ⟨b,cs,0,ha,ht,hb,by rw[hln,ml],hle,fun i c hi=>?_⟩
  have hil:i<l.length:=by
   rcases mB i l.length with h | h
   .exact h
   .rw[mw h]at hi;cases hi
  rw[mp,hg i (j1 hil),mq,hi];try rfl
theorem aaW.read(h:aaW tag I q s l)(hs:SL.Sep ro I):SL.qU ro I s (l.map vU):=by
 refine⟨by rw[h.len,ml],fun hn=>?_,fun p hp i v hv=>?_⟩
 .rcases h with⟨_,rfl⟩ | ⟨_,_,_,ha,_⟩
  .rfl
  .rw[hn]at ha;cases ha
 .rcases h with⟨rfl,_⟩ | ⟨g,cs,k,ha,ht,hb,hln,hle,hg⟩
  .cases hp
  .rw[hp]at ha;cases ha
   rw[mq]at hv
   obtain⟨c,hc,rfl⟩:=Li.1 hv
   unfold qb rd
   simp only[vg,hs g _ hb,hb,wM]
   exact hg i c hc
theorem aaW.drop{e:Nat}(h:aaW tag I q s l)(he:e<=l.length):aaW tag I q ⟨wH s.a e s.cap 1,s.len - e,s.cap - e⟩ (l.drop e):=by
 rcases h with⟨rfl,rfl⟩ | ⟨g,cs,k,ha,ht,hb,hln,hle,hg⟩
 .have:e=0:=by simpa using he
  subst this
  exact .inl ⟨by simp[wH],rfl⟩
 .unfold wH
  by_cases hc:s.cap=e
  .rw[me hc]
   refine .inr ⟨g,cs,k,ha,ht,hb,y6,y6,fun i c hi=>?_⟩
   rw[List.drop_of_length_le z6]at hi;cases hi
  .rw[mc hc]
   refine .inr ⟨g,cs,k+e,by simp[ha,vg],ht,hb,y6,y6,fun i c hi=>?_⟩
   rw[LM]at hi
   rw[Nat.add_assoc];exact hg (e+i) c hi
theorem aaW.takeR{n:Nat}(h:aaW tag I q s l)(hs:SL.Sep ro I)(hn:n<=l.length):SL.qU ro I ⟨wH s.a 0 s.cap 1,n - 0,s.cap - 0⟩ ((l.take n).map vU):=by
 have hr:=h.read hs
 rw[uP]
 refine⟨y6,fun ha=>?_,fun p hp i v hv=>?_⟩
 .have:=hr.2.1 ha
  have:l=[]:=by simpa using this
  rw[this];simp
 .refine hr.2.2 p hp i v ?_
  rw[List.map_take,La]at hv
  split at hv
  .exact hv
  .cases hv
def vd(tag:Nat->Nat)(I:AH)(r A:Nat)(x:Rd):Prop:=
 ∃s:Sl,Row tag I r 231 ⟨some ⟨A,0,none⟩,2,2⟩ [Sl.v s,Zt.vI x.err]/\aaW tag I 6 s x.rest/\x.rest.length<=140737488355328
theorem vd.keep(h:vd tag I r A x)(k:qd R ro tag I tag' I')(h1:r∉R:=by simp)(h2:6∉R:=by simp):vd tag' I' r A x:=by
 obtain⟨s,a,b,c⟩:=h
 exact⟨s,a.keep k h1,b.keep k h2,c⟩
theorem vd.keepC{c:Nat}(h:vd tag I r A x)(k:vf c ro tag I tag' I')(hr:r%64≠c:=by decide)(h6:c≠6:=by decide):vd tag' I' r A x:=by
 obtain⟨R,h1,h2⟩:=k
 exact h.keep h2 (fun m=>hr (h1 _ m)) (fun m=>h6 (h1 _ m).symm)
theorem ade{Q:Option Addr->AH->Prop}(h:SL.qU ro I a (b.map vU))(hs:SL.Sep ro I)(hl:b.length<=140737488355328)(hQ:∀ A tag' I',(∀R,qd R ro tag I tag' I')->vd tag' I' r A ⟨b,0⟩->Q (some ⟨A,0,none⟩) I'):
  jm B ro a I Q:=by
 refine ait fun _=>?_
 unfold acG
 refine clone_ok (tag:=tag) h hs y6 (ajF _) fun s tag1 I1 st1 r1=>?_
 refine qr (tag:=tag1) r (st1 []).sep fun A tag2 I2 st2 r2=>?_
 exact hQ A tag2 I2 (fun R=>(st1 R).trans (st2 R)) ⟨s,r2,aaW.of_row (r1.keep (st2 [])),hl⟩
theorem aii(h:vd tag I r A x)(hs:SL.Sep ro I)(hQ:Q (x.rest.length:Nat) I):wZ B ro (some ⟨A,0,none⟩) I Q:=by
 refine aht fun _=>?_
 unfold abA
 obtain⟨s,a,b,c⟩:=h
 obtain⟨p,hp,hg⟩:=a.ptr hs z7
 cases hp
 refine⟨_,rfl,s,hg 0 _ rfl,?_⟩
 rw[b.len];exact hQ
theorem aeX(h:vd tag I r A x)(hs:SL.Sep ro I)(hQ:Q x.err I):wI B ro (some ⟨A,0,none⟩) I Q:=by
 refine ahU fun _=>?_
 unfold ab0
 obtain⟨s,a,b,c⟩:=h
 obtain⟨p,hp,hg⟩:=a.ptr hs z7
 cases hp
 exact⟨_,rfl,x.err,hg 1 _ rfl,hQ⟩
theorem wW(h:vd tag I r A x)(h6:r≠6)(hs:SL.Sep ro I)(hQ:∀ I',qd [r] ro tag I tag I'->vd tag I' r A (qa x).2->Q ((qa x).1:Nat) I'):qt B ro (some ⟨A,0,none⟩) I Q:=by
 refine ahT fun _=>?_
 unfold abZ
 obtain⟨s,a,b,c⟩:=id h
 obtain⟨p,hp,hg⟩:=a.ptr hs z7
 cases hp
 refine⟨_,rfl,x.err,hg 1 _ rfl,?_⟩
 by_cases he:x.err=0
 .rw[mc (j1 he)]
  refine⟨_,rfl,s,hg 0 _ rfl,?_⟩
  refine aoZ (b.read hs) c ?_
  have hrn:qa x=((num x.rest).1,⟨x.rest.drop (num x.rest).2.1,(num x.rest).2.2⟩):=by unfold qa;rw[mc (j1 he)]
  rw[hrn]at hQ
  have hle:=ajD x.rest
  have hln:=b.len
  have hcp:=b.cap
  refine⟨_,rfl,?_⟩
  refine a.st (i:=1) hs rfl z7 rfl fun I1 st1 r1=>?_
  obtain⟨p1,hp1,hg1⟩:=r1.ptr st1.sep z7
  cases hp1
  refine⟨_,rfl,s,hg1 0 _ rfl,⟨trivial,z6,by simp only[cutHi];omega⟩,_,rfl,?_⟩
  rw[mr]
  refine r1.st (i:=0) st1.sep rfl z7 rfl fun I2 st2 r2=>?_
  refine hQ I2 (st1.trans st2) ⟨_,r2,((b.drop hle.1).keep st1 (by simpa using fun h=>h6 h.symm)).keep st2 (by simpa using fun h=>h6 h.symm),y6⟩
 .rw[me (j1 he)]
  rw[aah he]at hQ
  exact hQ I (qd.refl hs) h
theorem acN{Q:Sl->AH->Prop}(h:vd tag I r A x)(h6:r≠6)(hs:SL.Sep ro I)
  (hQ:∀ s tag' I',qd [r] ro tag I tag' I'->Row tag' I' 6 5 s ((rblob x).1.map vU)->vd tag' I' r A (rblob x).2->Q s I'):wz B ro (some ⟨A,0,none⟩) I Q:=by
 refine ahs fun _=>?_
 unfold abz
 obtain⟨s,a,b,c⟩:=id h
 obtain⟨p,hp,hg⟩:=a.ptr hs z7
 cases hp
 refine⟨_,rfl,s,hg 0 _ rfl,?_⟩
 refine wW h h6 hs fun I1 st1 h1=>?_
 have h61:6∉[r]:=by simpa using fun h=>h6 h.symm
 obtain⟨s1,a1,b1,c1⟩:=id h1
 obtain⟨p1,hp1,hg1⟩:=a1.ptr st1.sep z7
 cases hp1
 refine⟨_,rfl,_,hg1 1 _ rfl,?_⟩
 by_cases he:(qa x).2.err=0
 .rw[mc (j1 he)]
  refine⟨_,rfl,s1,hg1 0 _ rfl,?_⟩
  have hln1:=b1.len
  have hcp1:=b1.cap
  by_cases hlt:(qa x).2.rest.length<(qa x).1
  .rw[me z6]
   have hrb:rblob x=([],⟨x.rest,12⟩):=by unfold rblob;rw[mc (j1 he),me hlt]
   rw[hrb]at hQ
   refine⟨_,rfl,?_⟩
   refine a1.st (i:=1) st1.sep rfl z7 rfl fun I2 st2 r2=>?_
   refine⟨_,rfl,?_⟩
   refine r2.st (i:=0) st2.sep rfl z7 rfl fun I3 st3 r3=>?_
   exact hQ ⟨none,0,0⟩ tag I3 (st1.trans (st2.trans st3)) (Row.nil 6 5) ⟨s,r3,((b.keep st1 h61).keep st2 h61).keep st3 h61,c⟩
  .rw[mc z6]
   have hrb:rblob x=((qa x).2.rest.take (qa x).1,⟨(qa x).2.rest.drop (qa x).1,0⟩):=by unfold rblob;rw[mc (j1 he),mc hlt]
   rw[hrb]at hQ
   refine⟨_,rfl,s1,hg1 0 _ rfl,⟨⟨z6,z6⟩,trivial⟩,?_⟩
   rw[mr]
   refine clone_ok (tag:=tag) (b1.takeR st1.sep z6) st1.sep y6 (ajF _) fun s2 tag2 I2 st2 r2=>?_
   have a2:=a1.keep (st2 [])
   obtain⟨p2,hp2,hg2⟩:=a2.ptr (st2 []).sep z7
   cases hp2
   refine⟨_,rfl,s1,hg2 0 _ rfl,⟨trivial,z6,by simp only[cutHi];omega⟩,_,rfl,?_⟩
   refine a2.st (i:=0) (st2 []).sep rfl z7 rfl fun I3 st3 r3=>?_
   rw[he]at r3
   refine hQ s2 tag2 I3 (st1.trans ((st2 _).trans st3)) (r2.keep st3 h61) ⟨_,r3,((b1.drop z6).keep (st2 [])).keep st3 h61,y6⟩
 .rw[me (j1 he)]
  have hrb:rblob x=([],(qa x).2):=by unfold rblob;rw[me (j1 he)]
  rw[hrb]at hQ
  exact hQ ⟨none,0,0⟩ tag I1 st1 (Row.nil 6 5) h1
theorem ad8{Q:ByteArray->AH->Prop}(h:vd tag I r A x)(h6:r≠6)(hs:SL.Sep ro I)
  (hQ:∀ tag' I',qd [r] ro tag I tag' I'->vd tag' I' r A (rblob x).2->Q (S (rblob x).1) I'):vE B ro (some ⟨A,0,none⟩) I Q:=by
 refine ahr fun _=>?_
 unfold aby
 refine acN h h6 hs fun s tag1 I1 st1 r1 h1=>?_
 exact abO (r1.read st1.sep) ⟨_,rfl,hQ tag1 I1 st1 h1⟩
end Wi
namespace Zt
open Go SL G Pa Wi
variable{B:World}[Zd B]{ro I I':AH}{tag tag':Nat->Nat}
variable{C bs:List Nat}{M T r:Nat}{n:Nd}{Q:Option Addr->Int->AH->Prop}{st:St}{b q:Str}
theorem afQ(a b:ByteArray):zD a b=true↔L a<L b:=by
 unfold zD
 rw[Go.Proofs.bytesLess_eq,ByteArray.toList_eq,ByteArray.toList_eq]
 simp[L]
theorem uG(a b:ByteArray):(zD a b=true\/a=b)↔L a<=L b:=by
 rw[afQ,List.le_iff_lt_or_eq]
 constructor
 .rintro(h | h)
  .exact .inl h
  .exact .inr (by rw[h])
 .rintro(h | h)
  .exact .inl h
  .exact .inr (uX h)
theorem zo.add2{b:Nat}{tag2:Nat->Nat}{I2:AH}(h:zo tag I r T M bs st)(hr:r<64)(hr6:r≠6)(hq:st.lookup q=none)(hnb:b∉bs)(k:qd [r+64] ro tag I tag2 I2)(hnew:acd tag2 I2 r b n)(hm:xw tag2 I2 (r+64) M (ae5 (kv st bs) q (ptr b))):zo tag2 I2 r T M (bs++[b]) (st++[(q,n)]):=by
 refine⟨?_,by simp[h.len],?_,h.cell.keep k,?_,fun i c p hc hp=>?_⟩
 .rw[mJ,List.nodup_append]
  refine⟨h.keys,z7,?_⟩
  intro x hx y hy
  simp at hy
  intro e
  exact aiG hq (by rw[<-hy,<-e];exact hx)
 .rw[List.nodup_append]
  refine⟨h.nd,z7,?_⟩
  intro x hx y hy
  simp at hy
  intro e
  exact hnb (by rw[<-hy,<-e];exact hx)
 .rw[aoP _ _ _ _ _ h.len,<-am4 _ _ _ _ h.len hq];exact hm
 .rcases mB i bs.length with hi | hi
  .rw[mM hi]at hc
   rw[mM (by rw[<-h.len];exact hi)]at hp
   exact(h.nodes i c p hc hp).keep k (by simp<;>omega) z7
  .rw[mW hi]at hc
   rw[mW (by rw[<-h.len];exact hi),<-h.len]at hp
   cases hd:i - bs.length with
   | zero=>
    rw[hd]at hc hp
    cases hc;cases hp
    exact hnew
   | succ j=>rw[hd]at hc;cases hc
theorem asw{b:Nat}{p last:ByteArray}{Q:Bool->AH->Prop}(g:xC ro)(hr:r<64)(hr6:r≠6)(hr0:r≠0)(h:zo tag I r T M bs st)(hn:acd tag I r b n)(hnb:b∉bs)
  (hk:∀ x∈st,x.1<=L last) (hne:∀ x∈st,x.1≠[])
  (hno:lay st (L last) (L p) n=none->∀ tag' I',vf r ro tag I tag' I'->Q false I') (hyes:∀ st',lay st (L last) (L p) n=some st'->∀ tag' I',vf r ro tag I tag' I'->(∃bs',zo tag' I' r T M bs' st'/\∀ x∈bs',x∈bs\/x=b)->Q true I'):
  acx B ro (some ⟨T,0,none⟩) p last (some ⟨b,0,none⟩) I Q:=by
 refine air fun hs=>?_
 unfold acC
 obtain⟨ds,hn1,hn2⟩:=id hn
 obtain⟨pb,hpb,hg⟩:=hn1.ptr hs z7
 cases hpb
 have dlen:ds.len=n.data.length:=by rw[hn2.len,ml]
 let bad:Prop:=parts (L p)=none\/L p<=L last\/256<n.data.length\/10000000000<n.ctr\/(n.own≠0/\0<n.ctr)
 have hbad:bad->lay st (L last) (L p) n=none:=fun h=>by unfold lay;rw[me h]
 have refused:bad->vk B ro (some ⟨T,0,none⟩) p last (some ⟨b,0,none⟩) Q true I:=fun hb=>by
  unfold vk
  rw[me rfl]
  exact hno (hbad hb) tag I (vf.refl hs)
 have r4:bad->ki B ro (some ⟨T,0,none⟩) p last (some ⟨b,0,none⟩) Q true I:=fun hb=>by
  unfold ki;rw[me rfl];exact refused hb
 have r2:bad->kj B ro (some ⟨T,0,none⟩) p last (some ⟨b,0,none⟩) Q true I:=fun hb=>by
  unfold kj;rw[me rfl];exact r4 hb
 refine afl g ?_
 by_cases c1:(¬(Pa.chk (L p)=0))\/((zD p last=true)\/p=last)
 .rw[me c1]
  refine r2 ?_
  rcases c1 with c1 | c1
  .refine .inl ?_
   cases e:parts (L p)with
   | none=>rfl
   | some ps=>exact mC (uc.2 ⟨ps,e⟩) c1
  .exact .inr (.inl ((uG p last).1 c1))
 rw[mc c1]
 simp only[not_or]at c1
 have hgt:¬ L p<=L last:=fun h=>by
  rcases(uG p last).2 h with h | h
  .exact c1.2.1 h
  .exact c1.2.2 h
 obtain⟨ps,hps⟩:=uc.1 (mE.1 c1.1)
 refine⟨_,rfl,ds,hg 4 _ rfl,?_⟩
 by_cases c2:256<n.data.length
 .rw[show decide (256<(ds.len:Int))=true from by rw[dlen];simp;omega]
  exact r2 (.inr (.inr (.inl c2)))
 rw[show decide (256<(ds.len:Int))=false from by rw[dlen];simp;omega]
 unfold kj
 rw[mc z8]
 refine⟨_,rfl,n.ctr,hg 1 _ rfl,?_⟩
 by_cases c3:10000000000<n.ctr
 .rw[show decide (10000000000<n.ctr)=true from by simpa using c3]
  exact r4 (.inr (.inr (.inr (.inl c3))))
 rw[show decide (10000000000<n.ctr)=false from by simpa using c3]
 unfold ki
 rw[mc z8]
 refine⟨_,rfl,n.own,hg 2 _ rfl,?_⟩
 have good:¬ bad->vk B ro (some ⟨T,0,none⟩) p last (some ⟨b,0,none⟩) Q false I:=fun hnbad=>by
  have hq:st.lookup (L p)=none:=by
   cases e:st.lookup (L p)with
   | none=>rfl
   | some m=>exact mC (hk _ ((jC h.keys).1 e)) hgt
  unfold vk
  rw[mc z8]
  have hlay:lay st (L last) (L p) n=if L last=[]then(if L p=[47]/\n.data=[]/\n.ver=0/\n.own=0 then some (st++[(L p,n)])else none)
    else match ws (L p)with
     | none=>none
     | some u=>match st.lookup u with
      | none=>none
      | some m=>if m.own≠0 then none else some (xo st u uE++[(L p,n)]):=by
   conv=>lhs;unfold lay
   rw[mc hnbad]
   try rfl
  by_cases cl:last=⟨#[]⟩
  .rw[me cl]
   have cl':L last=[]:=by rw[cl];try rfl
   rw[me cl']at hlay
   refine⟨_,rfl,_,Row.cell1 h.cell hs,?_⟩
   rw[<-S_L p]
   refine abL h.map hs u126 u9 fun I1 st1 m1=>?_
   have st1c:vf r ro tag I tag I1:=st1.c (by simp<;>omega)
   have hn':=hn.keep st1 (by simp<;>omega) (by simp<;>omega)
   have hA:=h.add2 hr hr6 hq hnb st1 hn' m1
   obtain⟨ds',hn1',hn2'⟩:=hn'
   obtain⟨pb',hpb',hg'⟩:=hn1'.ptr st1.sep z7
   cases hpb'
   have dlen':ds'.len=n.data.length:=by rw[hn2'.len,ml]
   have fin:∀ x:Bool,(x=true↔(L p=[47]/\n.data=[]/\n.ver=0/\n.own=0))->Q x I1:=fun x hx=>by
    by_cases hc:L p=[47]/\n.data=[]/\n.ver=0/\n.own=0
    .rw[hx.2 hc]
     rw[me hc]at hlay
     exact hyes _ hlay tag I1 st1c ⟨_,hA,fun x hx=>by simpa using hx⟩
    .have:x=false:=by
      cases x with
      | false=>rfl
      | true=>exact mC (hx.1 rfl) hc
     rw[this]
     rw[mc hc]at hlay
     exact hno hlay tag I1 st1c
   have j10:∀ x:Bool,(x=true↔(L p=[47]/\n.data=[]))->kX B ro (some ⟨b,0,none⟩) Q x I1:=fun x hx=>by
    unfold kX
    cases x with
    | true=>
     rw[me rfl]
     have hx':=hx.1 rfl
     refine⟨_,rfl,n.ver,hg' 0 _ rfl,?_⟩
     unfold kW
     by_cases hv:n.ver=0
     .rw[me (j1 hv)]
      refine⟨_,rfl,n.own,hg' 2 _ rfl,?_⟩
      unfold vH
      exact fin _ (by simp[hx',hv])
     .rw[mc (j1 hv)]
      unfold vH
      exact fin _ (by simp[hv])
    | false=>
     rw[mc z8]
     have hx':¬ (L p=[47]/\n.data=[]):=fun h=>by have:=hx.2 h;cases this
     unfold kW
     rw[mc z8]
     unfold vH
     exact fin _ ⟨fun h=>(by cases h),fun h=>mC ⟨h.1,h.2.1⟩ hx'⟩
   by_cases cr:S (L p)=(⟨#[47]⟩:ByteArray)
   .rw[me cr]
    have cr':L p=[47]:=yu.1 cr
    refine⟨_,rfl,ds',hg' 4 _ rfl,?_⟩
    refine j10 _ ?_
    rw[dlen']
    simp only[mV,cr',true_and]
    constructor
    .intro h;exact mG z6
    .intro h;rw[h];try rfl
   .rw[mc cr]
    have cr':¬ L p=[47]:=fun h=>cr (yu.2 h)
    exact j10 _ ⟨fun h=>(by cases h),fun h=>mC h.1 cr'⟩
  .rw[mc cl]
   have cl':L last≠[]:=fun h=>cl (uX h)
   rw[mc cl']at hlay
   have j27no:∀ x98,lay st (L last) (L p) n=none->zh B ro (some ⟨T,0,none⟩) p (some ⟨b,0,none⟩) x98 Q true I:=fun x98 hl=>by
    unfold zh
    rw[me rfl]
    exact hno hl tag I (vf.refl hs)
   have look:∀ u:Str,(ws (L p)=none->lay st (L last) (L p) n=none)->(ws (L p)≠some u->st.lookup u=none)->(ws (L p)=some u\/ws (L p)=none)->
     awp prog ro (Instr.lookup 237 (.map (some M)) (.string (S u)) false) (fun v I=>
      (∃(x98_26:Option Addr),v= .pointer x98_26/\
       if x98_26=none then
       zh B ro (some ⟨T,0,none⟩) p (some ⟨b,0,none⟩) x98_26 Q true I
       else
       ∃p103_34:Addr,x98_26=some p103_34/\
       ∃(x106_35:Int),qb ro I (p103_34.add 2)=some (.int .i64 x106_35)/\
       zh B ro (some ⟨T,0,none⟩) p (some ⟨b,0,none⟩) x98_26 Q (!(decide (x106_35=0))) I)) I:=fun u hnp hnl hor=>by
    refine uw h.map hs u126 u9 ajB ?_
    rcases ad6 st bs u h.len with⟨a,e⟩ | ⟨i,b',m,a1,a2,a3,e⟩
    .rw[e]
     refine⟨none,rfl,?_⟩
     rw[me rfl]
     refine j27no none ?_
     rcases hor with hp | hp
     .rw[hlay,hp];simp only;rw[a]
     .exact hnp hp
    .rw[e]
     refine⟨some ⟨b',0,none⟩,rfl,?_⟩
     rw[mc z7]
     have hp:ws (L p)=some u:=nL fun hc=>by rw[hnl hc]at a3;cases a3
     obtain⟨dm,hm1,hm2⟩:=h.nodes i b' _ a1 a2
     obtain⟨pm,hpm,hgm⟩:=hm1.ptr hs z7
     cases hpm
     refine⟨_,rfl,m.own,hgm 2 _ rfl,?_⟩
     by_cases co:m.own=0
     .rw[show(!decide (m.own=0))=false from by simp[co]]
      have hl:lay st (L last) (L p) n=some (xo st u uE++[(L p,n)]):=by rw[hlay,hp];simp only;rw[a3];simp only;rw[mc (j1 co)]
      unfold zh
      rw[mc z8]
      refine⟨_,rfl,m.kids,hgm 3 _ rfl,_,rfl,?_⟩
      refine hm1.st (i:=3) hs rfl z7 rfl fun I1 st1 r1=>?_
      have hA1:=h.write (n':=uE m) hr hr6 a1 a2 st1 ⟨dm,r1,hm2.keep st1 (by simp<;>omega)⟩
      rw[<-alY h.keys a2 uE]at hA1
      have hbb:b≠b':=fun e=>hnb (by rw[e];exact nY a1)
      have hnk:=hn.keep st1 (by simp<;>omega) (by simp<;>omega)
      refine⟨_,rfl,_,Row.cell1 hA1.cell st1.sep,?_⟩
      rw[<-S_L p]
      refine abL hA1.map st1.sep u126 u9 fun I2 st2 m2=>?_
      have hq1:(xo st u uE).lookup (L p)=none:=by
       rw[ajC];split
       .rw[hq];try rfl
       .exact hq
      have hA2:=hA1.add2 hr hr6 hq1 hnb st2 (hnk.keep st2 (by simp<;>omega) (by simp<;>omega)) m2
      exact hyes _ hl tag I2 ((st1.c (by simp<;>omega)).trans (st2.c (by simp<;>omega))) ⟨_,hA2,fun x hx=>by simpa using hx⟩
     .rw[show(!decide (m.own=0))=true from by simp[co]]
      exact j27no _ (by rw[hlay,hp];simp only;rw[a3];simp only;rw[me co])
   refine Pa.akQ g (fun hpn=>?_) (fun u hu=>?_)
   .refine⟨_,rfl,_,Row.cell1 h.cell hs,?_⟩
    refine look [] (fun hp=>by rw[hlay,hp]) (fun _=>?_) (.inr hpn)
    cases e:st.lookup []with
    | none=>rfl
    | some m=>exact mC rfl (hne _ ((jC h.keys).1 e))
   .refine⟨_,rfl,_,Row.cell1 h.cell hs,?_⟩
    exact look u (fun hp=>by rw[hu]at hp;cases hp) (fun hc=>mC hu hc) (.inl hu)
 by_cases c4:n.own≠0
 .rw[me (j1 c4)]
  refine⟨_,rfl,n.ctr,hg 1 _ rfl,?_⟩
  unfold kY
  by_cases c5:0<n.ctr
  .rw[show decide (0<n.ctr)=true from by simpa using c5]
   exact refused (.inr (.inr (.inr (.inr ⟨c4,c5⟩))))
  .rw[show decide (0<n.ctr)=false from by simpa using c5]
   refine good ?_
   rintro(h | h | h | h | h)
   .rw[hps]at h;cases h
   .exact hgt h
   .exact c2 h
   .exact c3 h
   .exact c5 h.2
 .rw[mc (j1 c4)]
  unfold kY
  refine good ?_
  rintro(h | h | h | h | h)
  .rw[hps]at h;cases h
  .exact hgt h
  .exact c2 h
  .exact c3 h
  .exact c4 h.1
theorem vJ.keepS(h:vJ tag I r T st)(k:qi C ro tag I tag' I')(hr:r%64∉C:=by decide)(h6:6∉C:=by decide):vJ tag' I' r T st:=by
 obtain⟨R,h1,h2⟩:=k
 exact h.keep h2 fun x hx=>⟨fun e=>hr (by rw[<-e];exact h1 x hx),fun e=>h6 (by have:=h1 x hx;rw[e]at this;exact this)⟩
theorem zo.fresh_b{b:Nat}(h:zo tag I r T M bs st)(hb:I b=none):b∉bs:=fun hm'=>by
 obtain⟨i,hi,e⟩:=nv hm'
 have hb':bs[i]?=some b:=by rw[mh hi,e]
 have hil:i<st.length:=by rw[<-h.len];exact hi
 obtain⟨s,hn,_⟩:=h.nodes i b _ hb' (mh hil)
 obtain⟨_,o,ho⟩:=hn.tagOf
 rw[hb]at ho;cases ho
theorem ahg{x:Rd}(h:(wi x).2.err=0):(wi x).2.rest.length<x.rest.length:=by
 unfold wi at h⊢
 simp only at h⊢
 have h4:=wV h
 have h3:=wV h4
 have h2:=wV h3
 have h1:=pO h2
 have e1:=(zB (r:=x) h1).2
 have e2:=(zB (r:=(rblob x).2) h2).2
 have e3:=(wo (r:=(rblob (rblob x).2).2) h3).2
 have e4:=(wo (r:=(qa (rblob (rblob x).2).2).2) h4).2
 have e5:=(wo (r:=(qa (qa (rblob (rblob x).2).2).2).2) h).2
 have l1:=mi List.length e1
 have l2:=mi List.length e2
 have l3:=mi List.length e3
 have l4:=mi List.length e4
 have l5:=mi List.length e5
 simp only[mU,ue]at l1 l2 l3 l4 l5
 have:=nr.2 (am6 (rblob x).1.length)
 omega
theorem atj:∀ (st:St) (bs:List Nat) (i:Nat) (p:Str×Nd) (b:Nat),st[i]?=some p->bs[i]?=some b->(kv st bs)[i]?=some (p.1,ptr b):=by
 intro st
 induction st with
 | nil=>intro bs i p b h;cases h
 | cons q st ih=>
  intro bs i p b h hb
  cases bs with
  | nil=>cases hb
  | cons c bs=>
   obtain⟨q,m⟩:=q
   cases i with
   | zero=>cases h;cases hb;rfl
   | succ i=>unfold kv;simpa using ih bs i p b (j1 h) (j1 hb)
theorem amC(hr:r<64)(hr0:r≠0)(hr6:r≠6)(h:zo tag I r T M bs st)(hs:SL.Sep ro I)
  (hno:(st.all fun p=>decide (p.2.kids<=p.2.ctr))=false->∀ tag' I',qd [0] ro tag I tag' I'->Q none 13 I')
  (hyes:(st.all fun p=>decide (p.2.kids<=p.2.ctr))=true->∀ tag' I',qd [0] ro tag I tag' I'->zo tag' I' r T M bs st->Q (some ⟨T,0,none⟩) 0 I'):pN B ro T Q I:=by
 unfold pN
 refine⟨_,Row.cell1 h.cell hs,?_⟩
 refine aln u126 h.map hs fun es clock x hM hes hbn hro hx=>?_
 refine⟨_,rfl,?_⟩
 have hxM:x≠M:=fun e=>by rw[e,hM]at hx;cases hx
 have hlen:es.toList.length=st.length:=by
  have:=mi List.length hes
  simp only[ml]at this
  rw[this,akV st bs h.len]
 suffices∀(m:Nat) (seen:Array Nat) (tag1:Nat->Nat) (I1:AH),ajx es seen=m->qd [0] ro tag I tag1 I1->tag1 x=0->I1 x=some (.mapIter (some M) clock seen clock)->I1 M=some (.map es clock)->zo tag1 I1 r T M bs st->
   (∀(i:Nat) (e:MapEntry) (p:Str×Nd),es.toList[i]?=some e->st[i]?=some p->seen.contains e.born=true->p.2.kids<=p.2.ctr)->lfpD (aa8 B ro ⟨x,0,none⟩ T Q) () I1 from by
  have st1:qd [0] ro tag I (setTag tag x 0) (upd I x (.mapIter (some M) clock #[] clock)):=qd.fresh hs hro hx
  exact this _ #[] _ _ rfl st1 (by simp[setTag]) (qA _ _ _) (by rw[uv _ _ hxM.symm];exact hM) (h.keep st1 y6) (fun i e p _ _ hc=>by simp at hc)
 intro m
 induction m using Nat.strongRecOn with
 | ind m ih=>
  intro seen tag1 I1 hm hst htx hit hmp hA hseen
  have hs1:=hst.sep
  refine lfpD.intro ?_
  unfold aa8
  refine ahO hit hmp hs1 hbn (fun hall=>?_) fun e he hne=>?_
  .refine .inl ⟨rfl,?_⟩
   unfold aa7
   refine hyes ?_ tag1 I1 hst hA
   rw[mz]
   intro p hp
   obtain⟨i,hi,rfl⟩:=nv hp
   have hie:i<es.toList.length:=by omega
   have:=hseen i es.toList[i] st[i] (mh hie) (mh hi) (hall _ (mO hie))
   simpa using this
  .refine .inr ⟨_,_,rfl,?_⟩
   have st2:qd [0] ro tag1 I1 tag1 (upd I1 x (.mapIter (some M) clock (seen.push e.born) clock)):=yk hs1 htx hit
   have hmp2:upd I1 x (.mapIter (some M) clock (seen.push e.born) clock) M=some (.map es clock):=by rw[uv _ _ hxM.symm];exact hmp
   refine alo (qA _ _ _) hmp2 st2.sep hbn he ?_
   obtain⟨i,hi,rfl⟩:=nv he
   have hil:i<st.length:=by omega
   have hib:i<bs.length:=by rw[h.len];exact hil
   have hval:jH es.toList[i]=agG (st[i].1,ptr bs[i]):=by
    have h1:(es.toList.map jH)[i]?=some (jH es.toList[i]):=by rw[mq,mh hi];try rfl
    rw[hes,mq,atj st bs i _ _ (mh hil) (mh hib)]at h1
    exact(mQ h1).symm
   have hv:es.toList[i].val=ptr bs[i]:=mi Prod.snd hval
   rw[hv]
   refine⟨es.toList[i].key,some ⟨bs[i],0,none⟩,rfl,?_⟩
   have hA2:=hA.keep st2 y6
   obtain⟨ds,hn1,_⟩:=hA2.nodes i bs[i] st[i] (mh hib) (mh hil)
   obtain⟨q,hq,hg⟩:=hn1.ptr st2.sep z7
   cases hq
   refine⟨_,rfl,_,rfl,_,hg 1 _ rfl,_,hg 3 _ rfl,?_⟩
   by_cases hc:st[i].2.ctr<st[i].2.kids
   .rw[me hc]
    refine hno ?_ tag1 _ (hst.trans st2)
    rw[<-nE,mz]
    intro hall
    have:=hall st[i] (mO hil)
    simp at this;omega
   .rw[mc hc]
    refine ih (ajx es (seen.push es.toList[i].born)) (by rw[<-hm];exact an1 he hne) _ tag1 _ rfl (hst.trans st2) htx (qA _ _ _) hmp2 hA2 fun j e' p hj hp hcont=>?_
    rw[Array.contains_push]at hcont
    by_cases hb:e'.born=es.toList[i].born
    .have hji:j=i:=by
      have h1:(es.toList.map (·.born))[j]?=some es.toList[i].born:=by rw[mq,hj,<-hb];try rfl
      have h2:(es.toList.map (·.born))[i]?=some es.toList[i].born:=by rw[mq,mh hi];try rfl
      exact am2 hbn.nd h1 h2
     subst hji
     rw[mh hil]at hp
     cases hp
     omega
    .refine hseen j e' p hj hp ?_
     cases h1:seen.contains e'.born with
     | true=>rfl
     | false=>
      rw[h1,Bool.false_or]at hcont
      exact mC (eq_of_beq hcont) hb
theorem ao4{a0:Sl}(g:xC ro)(hr:r<64)(hr6:r≠6)(hr0:r≠0)(hr3:r≠31)(h:SL.qU ro I a0 (b.map vU))(hl:b.length<=140737488355328)
  (hno:dec b=none->∀ tag' I',qi [r,31,0] ro tag I tag' I'->Q none 13 I')
  (hyes:∀ st,dec b=some st->∀ T tag' I',qi [r,31,0] ro tag I tag' I'->vJ tag' I' r T st->Q (some ⟨T,0,none⟩) 0 I'):adt B ro a0 I Q:=by
 refine ajA fun hs=>?_
 unfold ady
 refine aoH (tag:=tag) (r+64) hs fun M tag1 I1 st1 m1=>?_
 refine qr (tag:=tag1) r (st1 []).sep fun T tag2 I2 st2 r2=>?_
 have m2:=m1.keep (st2 [])
 refine ade (tag:=tag2) (r:=31) ((h.step (st1 [])).step (st2 [])) (st2 []).sep hl fun A tag3 I3 st3 rd3=>?_
 have hA3:zo tag3 I3 r T M [] []:=⟨z7,rfl,z7,r2.keep (st3 []),m2.keep (st3 []),fun i b p hb=>by cases hb⟩
 obtain⟨R0,hR⟩:∃ R0,ada (b.length+1) ⟨b,0⟩ [] []=R0:=⟨_,rfl⟩
 have hdb0:dec b=R0.bind fun st=>if st.all fun p=>decide (p.2.kids<=p.2.ctr)then some st else none:=by unfold dec;rw[hR];cases R0<;>rfl
 suffices∀(f:Nat) (x:Rd) (st:St) (bs:List Nat) (last:ByteArray) (tag4:Nat->Nat) (I4:AH),ada f x st (L last)=R0->x.rest.length<f->x.err=0->(∀y∈st,y.1<=L last)->(∀y∈st,y.1≠[])->
   qi [r,31,0] ro tag I tag4 I4->zo tag4 I4 r T M bs st->vd tag4 I4 31 A x->lfpD (aaf B ro T (some ⟨A,0,none⟩) Q) last I4 from
  this (b.length+1) ⟨b,0⟩ [] [] ⟨#[]⟩ tag3 I3 hR z7 rfl (fun _ h=>by cases h) (fun _ h=>by cases h) (((st1 []).s z7).trans (((st2 []).s z7).trans ((st3 []).s z7))) hA3 rd3
 intro f
 induction f with
 | zero=>intro x st bs last tag4 I4 _ hlt;omega
 | succ f ih=>
  intro x st bs last tag4 I4 hdec hlt herr hk hne hst hA hrd
  have hs4:=hst.sep
  unfold ada at hdec
  have hdb:=hdb0
  refine lfpD.intro ?_
  unfold aaf
  refine aii hrd hs4 ?_
  have h31:(31:Nat)≠6:=by decide
  by_cases hend:x.rest=[]/\L last≠[]
  .rw[mc (by
    rintro(h | h)
    .rw[hend.1]at h;simp at h
    .exact hend.2 (by rw[h];try rfl))]
   rw[me hend]at hdec
   rw[<-hdec]at hdb
   simp only[Option.bind_some]at hdb
   refine amC hr hr0 hr6 hA hs4 (fun hc tag5 I5 st5=>?_) fun hc tag5 I5 st5 hA5=>?_
   .exact hno (by rw[hdb,mc (by rw[hc];simp)]) tag5 I5 (hst.trans (st5.s z7))
   .exact hyes st (by rw[hdb,me hc]) T tag5 I5 (hst.trans (st5.s z7)) ⟨M,bs,hA5⟩
  .rw[mc hend]at hdec
   rw[me (by
    by_cases h:L last=[]
    .exact .inr (uX h)
    .refine .inl ?_
     have:x.rest≠[]:=fun e=>hend ⟨e,h⟩
     have:=nr.2 this
     omega)]
   refine ad8 hrd h31 hs4 fun tag5 I5 st5 rd5=>?_
   refine acN rd5 h31 st5.sep fun ds tag6 I6 st6 r6 rd6=>?_
   have h431:∀ x∈[31],x%64≠r%64/\x≠6:=by simp;omega
   have hA6:=(hA.keep st5 h431).keep st6 h431
   refine afJ (tag:=tag6) (fun b=>r+64*(b+2)) st6.sep fun c tag7 I7 hro7 hc7 st7 r7=>?_
   have hnb:=hA6.fresh_b hc7
   have hA7:=hA6.keep (st7 [])
   have rd7:=rd6.keep (st7 [])
   have hr67:=r6.keep (st7 [])
   refine wW rd7 h31 (st7 []).sep fun I8 st8 rd8=>?_
   refine wW rd8 h31 st8.sep fun I9 st9 rd9=>?_
   refine wW rd9 h31 st9.sep fun Ia sta rda=>?_
   have k31:∀ c:Nat,r+64*(c+2)∉[31]:=fun c=>by simp;omega
   have rna:=((r7.keep st8 (k31 c)).keep st9 (k31 c)).keep sta (k31 c)
   have hAa:=((hA7.keep st8 h431).keep st9 h431).keep sta h431
   have hda:=((hr67.keep st8).keep st9).keep sta
   refine rna.st (i:=0) sta.sep rfl z7 rfl fun Ib stb rb=>?_
   refine rb.st (i:=1) stb.sep rfl z7 rfl fun Ic stc rc=>?_
   refine rc.st (i:=2) stc.sep rfl z7 rfl fun Id std rdd=>?_
   have stbd:=stb.trans (stc.trans std)
   have kc31:(31:Nat)∉[r+64*(c+2)]:=by simp;omega
   have kc6:(6:Nat)∉[r+64*(c+2)]:=by simp;omega
   have rdD:=rda.keep stbd kc31 kc6
   have hAd:zo tag7 Id r T M bs st:=by
    refine⟨hAa.keys,hAa.len,hAa.nd,hAa.cell.keep stbd,hAa.map.keep stbd y6,fun i b p hb hp=>?_⟩
    refine(hAa.nodes i b p hb hp).keep stbd ?_ kc6
    simp
    intro e
    have:b=c:=by omega
    subst this
    exact hnb (nY hb)
   have hnode:acd tag7 Id r c (wi x).1.2:=⟨ds,rdd,hda.keep stbd kc6⟩
   have stD:qi [r,31,0] ro tag I tag7 Id:=hst.trans ((st5.s z7).trans ((st6.s z7).trans (((st7 []).s z7).trans ((st8.s z7).trans ((st9.s z7).trans ((sta.s z7).trans (stbd.s y6)))))))
   refine aeX rdD std.sep ?_
   by_cases he:(wi x).2.err=0
   .rw[mc (by simpa [wi]using he)]
    rw[mc (j1 he)]at hdec
    have hp:L (S (rblob x).1)=(wi x).1.1:=by rw[L_S];try rfl
    refine asw g hr hr6 hr0 hAd hnode hnb hk hne (fun hlay tag8 Ie ste=>?_) fun st' hlay tag8 Ie ste ⟨bs',hAe,hbs⟩=>?_
    .rw[hp]at hlay
     rw[hlay]at hdec
     simp only at hdec
     rw[<-hdec]at hdb
     unfold kJ
     rw[me z8]
     exact hno hdb tag8 Ie (stD.trans (ste.s z7))
    .rw[hp]at hlay
     rw[hlay]at hdec
     simp only at hdec
     unfold kJ
     rw[mc z8]
     have hsh:=ahg he
     have hkeys:(∀y∈st',y.1<=(wi x).1.1)/\∀ y∈st',y.1≠[]:=by
      unfold lay at hlay
      by_cases hbad:parts (wi x).1.1=none\/(wi x).1.1<=L last\/256<(wi x).1.2.data.length\/10000000000<(wi x).1.2.ctr\/((wi x).1.2.own≠0/\0<(wi x).1.2.ctr)
      .rw[me hbad]at hlay;cases hlay
      rw[mc hbad]at hlay
      simp only[not_or]at hbad
      have hpn:(wi x).1.1≠[]:=by
       cases e:parts (wi x).1.1 with
       | none=>exact mC e hbad.1
       | some ps=>exact akr e
      have hgt:=aoT (am8.1 hbad.2.1)
      have base:∀ y∈st,y.1<=(wi x).1.1:=fun y hy=>List.le_trans (hk y hy) hgt
      by_cases hl0:L last=[]
      .rw[me hl0]at hlay
       split at hlay
       .cases hlay
        refine⟨fun y hy=>?_,fun y hy=>?_⟩
        .rcases mt.1 hy with h | h
         .exact base y h
         .rw[mK.1 h];exact List.le_refl _
        .rcases mt.1 hy with h | h
         .exact hne y h
         .rw[mK.1 h];exact hpn
       .cases hlay
      .rw[mc hl0]at hlay
       have key:∀ u,st'=xo st u uE++[((wi x).1.1,(wi x).1.2)]->(∀y∈st',y.1<=(wi x).1.1)/\∀ y∈st',y.1≠[]:=fun u he=>by
        have hm:∀ y∈xo st u uE,∃z∈st,y.1=z.1:=fun y hy=>by
         unfold xo at hy
         obtain⟨z,hz,rfl⟩:=my.1 hy
         exact⟨z,hz,by split<;>rfl⟩
        rw[he]
        refine⟨fun y hy=>?_,fun y hy=>?_⟩
        .rcases mt.1 hy with h | h
         .obtain⟨z,hz,e⟩:=hm y h;rw[e];exact base z hz
         .rw[mK.1 h];exact List.le_refl _
        .rcases mt.1 hy with h | h
         .obtain⟨z,hz,e⟩:=hm y h;rw[e];exact hne z hz
         .rw[mK.1 h];exact hpn
       cases hpp:ws (wi x).1.1 with
       | none=>rw[hpp]at hlay;cases hlay
       | some u=>
        rw[hpp]at hlay
        simp only at hlay
        cases hlk:st.lookup u with
        | none=>rw[hlk]at hlay;cases hlay
        | some m=>
         rw[hlk]at hlay
         simp only at hlay
         split at hlay
         .cases hlay
         .exact key u (mQ hlay).symm
     refine ih (wi x).2 st' bs' (S (rblob x).1) tag8 Ie ?_ z6 he ?_ hkeys.2 (stD.trans (ste.s z7)) hAe (rdD.keepC ste z6 hr6)
     .rw[hp];exact hdec
     .rw[hp];exact hkeys.1
   .rw[me (by simpa [wi]using he)]
    rw[me (j1 he)]at hdec
    rw[<-hdec]at hdb
    unfold kJ
    rw[me z8]
    exact hno hdb tag7 Id stD
end Zt
namespace Zt
open Go SL Pa
def kD(p:Str):Option Str:=match parts p with
 | some (x::_)=>some x
 | _=>none
theorem ahW{k:Str}{ps:List Str}(h:parts k=some ps):kD k=ps.head?:=by
 unfold kD
 rw[h]
 cases ps<;>rfl