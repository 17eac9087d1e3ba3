import Derived.Shelf.Strings.Builder1
import Derived.Shelf.Strings.Builder2
import Derived.Shelf.Small.Bits
import Derived.Shelf.Strings.BuilderF
import Derived.Shelf.Utf8.RuneCount
import Derived.Shelf.Strconv.Itoa0
import Derived.Shelf.Strconv.Itoa1
import Derived.Shelf.LaysM
import Derived.Shelf.Strconv.Itoa2
import Derived.Shelf.Strconv.Itoa3
import Derived.Shelf.Bytes.GrowSliceCatch
import Derived.Shelf.Bytes.GrowSlice
import Derived.Shelf.Strings.Search1
import Derived.Shelf.Strings.Search2
import Derived.Shelf.Strings.Search3
import Derived.Shelf.Strings.Count
import Derived.Shelf.Strings.Shaped
import Derived.Shelf.Strings.Prefix
import Derived.Shelf.Strings.Split
import Derived.Shelf.Strings.SplitShaped
import Derived.Shelf.Unicode.Decode
import Derived.Shelf.Strings.RuneCount
import Derived.Shelf.Strings.Explode
import Derived.Shelf.Bits.Mul64
import Derived.Shelf.Strings.Repeat
import Derived.Shelf.Unicode.DecodeSlow
import Derived.Shelf.Unicode.DecodeAny
import Derived.Ground.Names2Prog
import Derived.Shelf.Slices.Clone
import Derived.Shelf.Slices.SearchI
import Derived.Ground.SlgnProg
import Derived.Shelf.SlicesE.Clone
import Derived.Ground.SlgmProg
import Derived.Shelf.SortM.Plain
import Derived.Shelf.SortM.SortNone
import Derived.Shelf.SlIter.Nil
import Derived.Ground.GgzProg
import Derived.Laws.RangeString
import Derived.Test.YtomdigihapdhnaaGreatDoorProg
import Derived.Test.YtomdigihapdhnaaGreatDoorXD
set_option linter.all false
set_option maxRecDepth 99999
set_option maxHeartbeats 0
open Go.IntKind(i64)
open Go.Proofs.Tryz
namespace Go.Proofs.YtomdigihapdhnaaGreatDoor.G
open Go SL
variable{B:ZB}{ro I:AH}
def ac6(B:ZB)(ro:AH)(a0:ZA)(I:AH)(Q:ZA->Int->AH->Prop):=
 vD B ro a0 I fun u0 u1 I=>
 if(u0.len:Int)=0 then
 Q (⟨#[]⟩:ZA) u1 I
 else
 ∃p2,u0.a=some p2/\(0:Int)<=0/\0<(u0.len:Int)/\
 ∃u3,qa ro I (p2.add (Int.toNat 0*1))=some (.string u3)/\
 Q u3 0 I
def agu{a0 Q}(h:Sep ro I->ac6 B ro a0 I Q):pG B ro a0 I Q:=by
 refine zb h func81 ntmps81 fun h=>?_;unfold ac6 at h;refine zc func134 h ?_;rintro v I ⟨u0,u1,rfl,h⟩;refine zw ?_;refine AW.seq ?_;refine zw ?_;refine zm (qC rfl rfl mx rfl rfl) ?_;refine zi h (fun h=>?_) fun h=>?_
 .exact zrr h
 refine zw ?_;obtain⟨p2,ha,h0,h1,h⟩:=h
 refine zm (wO rfl mx ty9 (ixL rfl ha) rfl h0 h1) ?_;refine zL mo h fun u3 h=>?_;exact zrr h
def agv(B:ZB)(ro:AH)(a0:ZA)(I:AH)(Q:Int->AH->Prop):=
 vD B ro a0 I fun u0 u1 I=>
 Q u1 I
def anZ{a0 Q}(h:Sep ro I->agv B ro a0 I Q):vC B ro a0 I Q:=by
 refine zb h func82 ntmps82 fun h=>?_;unfold agv at h;refine zc func134 h ?_;rintro v I ⟨u0,u1,rfl,h⟩;exact zr h
def abk(B:ZB)(ro:AH)(Q:Bool->Int->AH->Prop)(u0:Bool)(I:AH):=
 Q u0 0 I
def uy(B:ZB)(ro:AH)(a0 a1:ZA)(Q:Bool->Int->AH->Prop)(u0:Bool)(I:AH):=
 if u0=true then
 Q false 20 I
 else
 if(a0=(⟨#[47]⟩:ZA))\/(a1=a0)then
 abk B ro Q true I
 else
 a0.size+(⟨#[47]⟩:ZA).size<=9223372036854775807/\
 uj B ro a1 (a0++(⟨#[47]⟩:ZA)) I fun u1 I=>
 abk B ro Q u1 I
def agw(B:ZB)(ro:AH)(a0 a1:ZA)(I:AH)(Q:Bool->Int->AH->Prop):=
 vC B ro a0 I fun u0 I=>
 if¬(u0=0)then
 uy B ro a0 a1 Q true I
 else
 vC B ro a1 I fun u1 I=>
 uy B ro a0 a1 Q (!(decide (u1=0))) I
def an0{a0 a1 Q}(h:Sep ro I->agw B ro a0 a1 I Q):agq B ro a0 a1 I Q:=by
 refine zb h func86 ntmps86 fun h=>?_;unfold agw at h;refine zw ?_;refine AW.seq ?_;refine zC func82 h fun u0 I h=>?_;refine qI 4 (!(decide (u0=0))) (qu me) h (fun fr I=> ∃(u1:Bool),qo [(0,.string a0),(1,.string a1),(13,.bool u1)] fr/\uy B ro a0 a1 Q u1 I) ?_ ?_ ?_
 .intro h e3 hk3;refine zv e3 ?_;exact hk3 _ _ ⟨_,FL,h⟩
 .intro h e3 hk3;refine zy e3 ?_;refine Lyb rfl rfl rfl rfl e3 (kG rfl func82 rfl rfl rfl (qc.mono h ?_))
  rintro v I ⟨u2,rfl,h⟩;refine zv e3 ?_;exact hk3 _ _ ⟨_,FL,h⟩
 rintro fr I ⟨u1,hl,h⟩;unfold uy at h;refine Lfr hl ?_
 refine zj h (fun h=>?_) fun h=>?_
 .exact zrr h
 refine zw ?_;refine wY 4 (decide (a0=(⟨#[47]⟩:ZA))) [(0,.string a0),(1,.string a1),(20,.bool ((decide (a0=(⟨#[47]⟩:ZA))) || (decide (a1=a0))))] ?_ ?_ ?_
 .intro e2 hk2
  refine zv e2 ?_;exact hk2 _ (Fe e2)
 .intro e2 hk2
  refine zv e2 ?_;exact hk2 _ (Fe e2)
 intro fr hl
 refine Lfr hl ?_
 refine zw ?_;refine qI 5 ((decide (a0=(⟨#[47]⟩:ZA))) || (decide (a1=a0))) (vr me me) h (fun fr I=> ∃(u3:Bool),qo [(26,.bool u3)] fr/\abk B ro Q u3 I) ?_ ?_ ?_
 .intro h e7 hk7;refine zv e7 ?_;exact hk7 _ _ ⟨_,FL,h⟩
 .intro h e7 hk7;refine zv e7 ?_;obtain⟨hc,h⟩:=h
  refine qO (alO rfl rfl rfl hc) rfl rfl rfl rfl e7 ?_
  refine Lyb rfl rfl rfl rfl e7 (kG rfl func138 rfl rfl rfl (qc.mono h ?_))
  rintro v I ⟨u4,rfl,h⟩;refine zk e7 ?_;exact hk7 _ _ ⟨_,FL,h⟩
 rintro fr I ⟨u3,hl,h⟩;unfold abk at h;refine Lfr hl ?_
 exact zrr h
def agx(B:ZB)(ro:AH)(Q:Bool->AH->Prop)(I:AH):=
 Q true I
def xF(B:ZB)(ro:AH)(p0:Addr)(Q:Bool->AH->Prop)(Y3:(Unit)->AH->Prop)(u1:Bool)(I:AH):=
 if u1=true then
 Y3 () I
 else
 Q false I
def pZ(B:ZB)(ro:AH)(p0:Addr)(Q:Bool->AH->Prop):(Unit)->AH->((Unit)->AH->Prop)->Prop:=fun _ I Y3=>
 awp prog ro (Instr.next (.pointer (some p0)) true 0) (fun v I=>
 (v= .tuple #[.bool false]/\
  agx B ro Q I)\/
 (∃(u1:Int) (u2:Int),v= .tuple #[.bool true,.int .i64 u1,.int .i32 u2]/\
  if(97<=u2)/\(u2<=122)then
  xF B ro p0 Q Y3 ((decide (97<=u2)) && (decide (u2<=122))) I
  else
  if(48<=u2)/\(u2<=57)then
  xF B ro p0 Q Y3 ((decide (48<=u2)) && (decide (u2<=57))) I
  else
  if u2=46 then
  xF B ro p0 Q Y3 (decide (u2=46)) I
  else
  if u2=95 then
  xF B ro p0 Q Y3 (decide (u2=95)) I
  else
  xF B ro p0 Q Y3 (decide (u2=45)) I)) I
def ahr(B:ZB)(ro:AH)(a0:ZA)(I:AH)(Q:Bool->AH->Prop):=
 if(((a0=(⟨#[]⟩:ZA))\/(32<(a0.size:Int)))\/(a0=(⟨#[46]⟩:ZA)))\/(a0=(⟨#[46,46]⟩:ZA))then
 Q false I
 else
 awp prog ro (Instr.range 9 (.string a0)) (fun v I=>
 (∃(p0:Addr),v= .pointer (some p0)/\
  lfpD (pZ B ro p0 Q) () I)) I
def aoE{a0 Q}(h:Sep ro I->ahr B ro a0 I Q):pH B ro a0 I Q:=by
 refine zb h func99 ntmps99 fun h=>?_;unfold ahr at h;refine zw ?_;refine AW.seq ?_;refine zw ?_;refine wY 4 (decide (a0=(⟨#[]⟩:ZA))) [(0,.string a0),(11,.bool ((decide (a0=(⟨#[]⟩:ZA))) || (decide (32<(a0.size:Int)))))] ?_ ?_ ?_
 .intro e2 hk2
  refine zv e2 ?_;exact hk2 _ (Fe e2)
 .intro e2 hk2
  refine zy e2 ?_;refine qO (abZ rfl rfl mo rfl rfl) rfl rfl rfl rfl e2 ?_
  refine zv e2 ?_;exact hk2 _ (Fe e2)
 intro fr hl
 refine Lfr hl ?_
 refine zw ?_;refine wY 3 ((decide (a0=(⟨#[]⟩:ZA))) || (decide (32<(a0.size:Int)))) [(0,.string a0),(15,.bool (((decide (a0=(⟨#[]⟩:ZA))) || (decide (32<(a0.size:Int)))) || (decide (a0=(⟨#[46]⟩:ZA)))))] ?_ ?_ ?_
 .intro e7 hk7
  refine zv e7 ?_;exact hk7 _ (Fe e7)
 .intro e7 hk7
  refine zv e7 ?_;exact hk7 _ (Fe e7)
 intro fr hl
 refine Lfr hl ?_
 refine zw ?_;refine wY 3 (((decide (a0=(⟨#[]⟩:ZA))) || (decide (32<(a0.size:Int)))) || (decide (a0=(⟨#[46]⟩:ZA)))) [(0,.string a0),(19,.bool ((((decide (a0=(⟨#[]⟩:ZA))) || (decide (32<(a0.size:Int)))) || (decide (a0=(⟨#[46]⟩:ZA)))) || (decide (a0=(⟨#[46,46]⟩:ZA)))))] ?_ ?_ ?_
 .intro e11 hk11
  refine zv e11 ?_;exact hk11 _ (Fe e11)
 .intro e11 hk11
  refine zv e11 ?_;exact hk11 _ (Fe e11)
 intro fr hl
 refine Lfr hl ?_
 refine zw ?_;refine AW.iff rfl (vr (vr (vr me me) me) me) h (fun h=>?_) (fun h=>?_)
 .exact zr h
 refine zw ?_;refine AW.seqJ (fun fr I=>qo [] fr/\agx B ro Q I) ?_ ?_
 .rintro fr I ⟨hl,h⟩;refine AW.weaken ?_ hl (HLe.refl _)
  unfold agx at h;exact zr h
 refine zw ?_;refine zl (aoo rfl rfl (qk _ h ?_))
 rintro v I ⟨p0,rfl,h⟩;refine zw ?_;refine qi.loop (fr':=[(21,.pointer (some p0))]) ?_ FL
 refine h (fun _ I=>qi _ _ _ _ _ _ [(21,.pointer (some p0))] I) ?_
 rintro _ I Y3 hY3 h
 show AW _ _ _ _ _ _ _ _
 unfold pZ at h;refine zw ?_;refine zl (aop rfl rfl rfl (qk _ h ?_))
 rintro v I (⟨rfl,h⟩ | ⟨u1,u2,rfl,h⟩)
 .refine zw ?_;refine AW.seq ?_;refine AW.no rfl ?_;refine AW.exit ?_;refine zw ?_;refine qX ?_
  refine zw ?_;exact⟨FL,h⟩
 .refine zw ?_;refine AW.seq ?_;refine AW.yes rfl ?_;refine zw ?_;refine AW.seqJ (fun fr I=> ∃(u3:Bool),qo [(21,.pointer (some p0)),(25,.bool u3)] fr/\xF B ro p0 Q Y3 u3 I) ?_ ?_
  .rintro fr I ⟨u3,hl,h⟩;refine AW.weaken ?_ hl (HLe.refl _)
   unfold xF at h;refine zj h (fun h=>?_) fun h=>?_
   .refine zw ?_;refine qi.head (fr':=[(21,.pointer (some p0))]) ?_ FL
    exact hY3 _ _ h
   exact zr h
  refine zw ?_;refine wY 3 (decide (97<=u2)) [(4,.int .i32 u2),(21,.pointer (some p0)),(31,.bool ((decide (97<=u2)) && (decide (u2<=122))))] ?_ ?_ ?_
  .intro e2 hk2
   refine zv e2 ?_;exact hk2 _ (Fe e2)
  .intro e2 hk2
   refine zv e2 ?_;exact hk2 _ (Fe e2)
  intro fr hl
  refine Lfr hl ?_
  refine zw ?_;refine AW.iff rfl (ab2 me me) h (fun h=>?_) (fun h=>?_)
  .refine zw ?_;exact⟨_,FL,h⟩
  refine zw ?_;refine wY 3 (decide (48<=u2)) [(4,.int .i32 u2),(21,.pointer (some p0)),(37,.bool ((decide (48<=u2)) && (decide (u2<=57))))] ?_ ?_ ?_
  .intro e2 hk2
   refine zv e2 ?_;exact hk2 _ (Fe e2)
  .intro e2 hk2
   refine zv e2 ?_;exact hk2 _ (Fe e2)
  intro fr hl
  refine Lfr hl ?_
  refine zw ?_;refine AW.iff rfl (ab2 me me) h (fun h=>?_) (fun h=>?_)
  .refine zw ?_;exact⟨_,FL,h⟩
  refine zi h (fun h=>?_) fun h=>?_
  .refine zw ?_;exact⟨_,FL,h⟩
  refine zi h (fun h=>?_) fun h=>?_
  .refine zw ?_;exact⟨_,FL,h⟩
  refine zw ?_;exact⟨_,FL,h⟩
def adl(B:ZB)(ro:AH)(u0:Sl)(Q:Sl->Int->AH->Prop)(I:AH):=
 Q u0 0 I
def abl(B:ZB)(ro:AH)(u0:Sl)(Q:Sl->Int->AH->Prop):Int->AH->(Int->AH->Prop)->Prop:=fun u1 I Y5=>
 if u1<(u0.len:Int)then
 ∃p2,u0.a=some p2/\(0:Int)<=u1/\u1<(u0.len:Int)/\
 ∃u3,qa ro I (p2.add (Int.toNat u1*1))=some (.string u3)/\
 pH B ro u3 I fun u4 I=>
 if¬(u4=true)then
  Q (⟨none,0,0⟩:Sl) 20 I
 else
 Y5 (i64.wrap (u1+1)) I
 else
 adl B ro u0 Q I
def uz(B:ZB)(ro:AH)(a0:ZA)(Q:Sl->Int->AH->Prop)(u0:Bool)(I:AH):=
 if u0=true then
 Q (⟨none,0,0⟩:Sl) 20 I
 else
 cutOk (some 1) none a0.size a0.size/\
 ag1 B ro (a0.extract (Int.toNat 1) (a0.size)) (⟨#[47]⟩:ZA) I fun u1 I=>
 if 8<(u1.len:Int)then
 Q (⟨none,0,0⟩:Sl) 20 I
 else
 lfpD (abl B ro u1 Q) (0) I
def agy(B:ZB)(ro:AH)(a0:ZA)(I:AH)(Q:Sl->Int->AH->Prop):=
 if a0=(⟨#[47]⟩:ZA)then
 Q (⟨none,0,0⟩:Sl) 0 I
 else
 if 128<(a0.size:Int)then
 uz B ro a0 Q true I
 else
 uj B ro a0 (⟨#[47]⟩:ZA) I fun u0 I=>
 uz B ro a0 Q (!u0) I
def an1{a0 Q}(h:Sep ro I->agy B ro a0 I Q):vD B ro a0 I Q:=by
 refine zb h func134 ntmps134 fun h=>?_;unfold agy at h;refine zw ?_;refine AW.seq ?_;refine zi h (fun h=>?_) fun h=>?_
 .exact zrr h
 refine zw ?_;refine AW.seq ?_;refine zw ?_;refine zm (abZ rfl rfl mo rfl rfl) ?_;refine zw ?_;refine qI 4 (decide (128<(a0.size:Int))) me h (fun fr I=> ∃(u0:Bool),qo [(0,.string a0),(16,.bool u0)] fr/\uz B ro a0 Q u0 I) ?_ ?_ ?_
 .intro h e3 hk3;refine zv e3 ?_;exact hk3 _ _ ⟨_,FL,h⟩
 .intro h e3 hk3;refine zy e3 ?_;refine Lyb rfl rfl rfl rfl e3 (kG rfl func138 rfl rfl rfl (qc.mono h ?_))
  rintro v I ⟨u1,rfl,h⟩;refine zv e3 ?_;exact hk3 _ _ ⟨_,FL,h⟩
 rintro fr I ⟨u0,hl,h⟩;unfold uz at h;refine Lfr hl ?_
 refine zj h (fun h=>?_) fun h=>?_
 .exact zrr h
 refine zw ?_;obtain⟨hc,h⟩:=h
 refine zm (aol (lo:=(some 1)) (hi:=none) rfl mo rfl (ve rfl) vd hc) ?_;refine zC func193 h fun u2 I h=>?_;refine AW.seq ?_;refine zw ?_;refine zm (qC rfl rfl mx rfl rfl) ?_;refine zi h (fun h=>?_) fun h=>?_
 .exact zrr h
 refine zw ?_;refine AW.seqJ (fun fr I=>qo [(4,Sl.v u2)] fr/\adl B ro u2 Q I) ?_ ?_
 .rintro fr I ⟨hl,h⟩;refine AW.weaken ?_ hl (HLe.refl _)
  unfold adl at h;exact zrr h
 refine zw ?_;refine zm (qC rfl rfl mx rfl rfl) ?_;refine zw ?_;refine qi.loop (fr':=[(4,Sl.v u2),(23,Sl.v u2),(24,.int .i64 (u2.len:Int)),(25,.int .i64 0)]) ?_ FL
 refine h (fun u3 I=>qi _ _ _ _ _ _ [(4,Sl.v u2),(23,Sl.v u2),(24,.int .i64 (u2.len:Int)),(25,.int .i64 u3)] I) ?_
 rintro u3 I Y5 hY5 h
 show AW _ _ _ _ _ _ _ _
 unfold abl at h;refine zw ?_;refine AW.seq ?_;refine zi h (fun h=>?_) fun h=>?_
 rotate_left
 .refine AW.exit ?_;refine zw ?_;refine qX ?_
  refine zw ?_;exact⟨FL,h⟩
 refine zw ?_;refine AW.seq ?_;refine zw ?_;obtain⟨p4,ha,h0,h1,h⟩:=h
 refine zm (wO rfl mx ty9 (ixL rfl ha) rfl h0 h1) ?_;refine zL mo h fun u5 h=>?_;refine zC func99 h fun u6 I h=>?_;refine AW.iff rfl (qu Iff.rfl) h (fun h=>?_) (fun h=>?_)
 .exact zrr h
 refine zw ?_;refine qi.head (fr':=[(4,Sl.v u2),(23,Sl.v u2),(24,.int .i64 (u2.len:Int)),(25,.int .i64 (i64.wrap (u3+1)))]) ?_ FL
 exact hY5 _ _ h
def pO(B:ZB)(ro:AH)(a0:ZA)(Q:ZA->Int->AH->Prop)(u0:Bool)(I:AH):=
 if u0=true then
 Q (⟨#[]⟩:ZA) 20 I
 else
 jN B ro a0 47 I fun u1 I=>
 cutOk none (some (if 1<u1 then u1 else 1)) a0.size a0.size/\
 Q (a0.extract (0) (Int.toNat (if 1<u1 then u1 else 1))) 0 I
def afH(B:ZB)(ro:AH)(a0:ZA)(I:AH)(Q:ZA->Int->AH->Prop):=
 if a0=(⟨#[47]⟩:ZA)then
 pO B ro a0 Q true I
 else
 vC B ro a0 I fun u0 I=>
 pO B ro a0 Q (!(decide (u0=0))) I
def amI{a0 Q}(h:Sep ro I->afH B ro a0 I Q):yX B ro a0 I Q:=by
 refine zb h func179 ntmps179 fun h=>?_;unfold afH at h;refine zw ?_;refine AW.seq ?_;refine zw ?_;refine qI 4 (decide (a0=(⟨#[47]⟩:ZA))) me h (fun fr I=> ∃(u0:Bool),qo [(0,.string a0),(10,.bool u0)] fr/\pO B ro a0 Q u0 I) ?_ ?_ ?_
 .intro h e2 hk2;refine zv e2 ?_;exact hk2 _ _ ⟨_,FL,h⟩
 .intro h e2 hk2;refine zy e2 ?_;refine Lyb rfl rfl rfl rfl e2 (kG rfl func82 rfl rfl rfl (qc.mono h ?_))
  rintro v I ⟨u1,rfl,h⟩;refine zv e2 ?_;exact hk2 _ _ ⟨_,FL,h⟩
 rintro fr I ⟨u0,hl,h⟩;unfold pO at h;refine Lfr hl ?_
 refine zj h (fun h=>?_) fun h=>?_
 .exact zrr h
 refine zc func227 h ?_;rintro v I ⟨u2,rfl,h⟩;refine zm (arO rfl rfl) ?_;obtain⟨hc,h⟩:=h
 refine zm (aol (lo:=none) (hi:=(some (if 1<u2 then u2 else 1))) rfl mo rfl vd (ve rfl) hc) ?_;exact zrr h
def pP(B:ZB)(ro:AH)(a0:ZA)(a1:Int)(Q:ZA->Int->AH->Prop)(u0:Bool)(I:AH):=
 if u0=true then
 Q (⟨#[]⟩:ZA) 20 I
 else
 ahQ B ro a1 I fun u1 I=>
 agr B ro (⟨#[48]⟩:ZA) (i64.wrap (10 - (u1.size:Int))) I fun u2 I=>
 u2.size+u1.size<=9223372036854775807/\
 a0.size+(u2++u1).size<=9223372036854775807/\
 vC B ro (a0++(u2++u1)) I fun u3 I=>
 if¬(u3=0)then
 Q (⟨#[]⟩:ZA) u3 I
 else
 Q (a0++(u2++u1)) 0 I
def afI(B:ZB)(ro:AH)(a0:ZA)(a1:Int)(I:AH)(Q:ZA->Int->AH->Prop):=
 if((a0=(⟨#[47]⟩:ZA))\/(a1<0))\/(9999999999<a1)then
 pP B ro a0 a1 Q true I
 else
 vC B ro a0 I fun u0 I=>
 pP B ro a0 a1 Q (!(decide (u0=0))) I
def amJ{a0 a1 Q}(h:Sep ro I->afI B ro a0 a1 I Q):afC B ro a0 a1 I Q:=by
 refine zb h func180 ntmps180 fun h=>?_;unfold afI at h;refine zw ?_;refine AW.seq ?_;refine zw ?_;refine wY 3 (decide (a0=(⟨#[47]⟩:ZA))) [(0,.string a0),(1,.int .i64 a1),(13,.bool ((decide (a0=(⟨#[47]⟩:ZA))) || (decide (a1<0))))] ?_ ?_ ?_
 .intro e2 hk2
  refine zv e2 ?_;exact hk2 _ (Fe e2)
 .intro e2 hk2
  refine zv e2 ?_;exact hk2 _ (Fe e2)
 intro fr hl
 refine Lfr hl ?_
 refine zw ?_;refine wY 3 ((decide (a0=(⟨#[47]⟩:ZA))) || (decide (a1<0))) [(0,.string a0),(1,.int .i64 a1),(17,.bool (((decide (a0=(⟨#[47]⟩:ZA))) || (decide (a1<0))) || (decide (9999999999<a1))))] ?_ ?_ ?_
 .intro e6 hk6
  refine zv e6 ?_;exact hk6 _ (Fe e6)
 .intro e6 hk6
  refine zv e6 ?_;exact hk6 _ (Fe e6)
 intro fr hl
 refine Lfr hl ?_
 refine zw ?_;refine qI 4 (((decide (a0=(⟨#[47]⟩:ZA))) || (decide (a1<0))) || (decide (9999999999<a1))) (vr (vr me me) me) h (fun fr I=> ∃(u0:Bool),qo [(0,.string a0),(1,.int .i64 a1),(22,.bool u0)] fr/\pP B ro a0 a1 Q u0 I) ?_ ?_ ?_
 .intro h e10 hk10;refine zv e10 ?_;exact hk10 _ _ ⟨_,FL,h⟩
 .intro h e10 hk10;refine zy e10 ?_;refine Lyb rfl rfl rfl rfl e10 (kG rfl func82 rfl rfl rfl (qc.mono h ?_))
  rintro v I ⟨u1,rfl,h⟩;refine zv e10 ?_;exact hk10 _ _ ⟨_,FL,h⟩
 rintro fr I ⟨u0,hl,h⟩;unfold pP at h;refine Lfr hl ?_
 refine zj h (fun h=>?_) fun h=>?_
 .exact zrr h
 refine zC func228 h fun u2 I h=>?_;refine zm (abZ rfl rfl mo rfl rfl) ?_;refine zC func229 h fun u3 I h=>?_;obtain⟨hc,h⟩:=h
 refine zm (alO rfl rfl rfl hc) ?_;obtain⟨hc,h⟩:=h
 refine zm (alO rfl rfl rfl hc) ?_;refine zw ?_;refine AW.seq ?_;refine zC func82 h fun u4 I h=>?_;refine AW.iff rfl (qu me) h (fun h=>?_) (fun h=>?_)
 .exact zrr h
 exact zrr h
def aaG(B:ZB)(ro:AH)(a0:ZA)(Q:ZA->Int->AH->Prop)(u0:Bool)(I:AH):=
 if u0=true then
 Q (⟨#[]⟩:ZA) 20 I
 else
 jN B ro a0 47 I fun u1 I=>
 cutOk (some (i64.wrap (u1+1))) none a0.size a0.size/\
 Q (a0.extract (Int.toNat (i64.wrap (u1+1))) (a0.size)) 0 I
def ahs(B:ZB)(ro:AH)(a0:ZA)(I:AH)(Q:ZA->Int->AH->Prop):=
 if a0=(⟨#[47]⟩:ZA)then
 aaG B ro a0 Q true I
 else
 vC B ro a0 I fun u0 I=>
 aaG B ro a0 Q (!(decide (u0=0))) I
def aoF{a0 Q}(h:Sep ro I->ahs B ro a0 I Q):ahq B ro a0 I Q:=by
 refine zb h func274 ntmps274 fun h=>?_;unfold ahs at h;refine zw ?_;refine AW.seq ?_;refine zw ?_;refine qI 4 (decide (a0=(⟨#[47]⟩:ZA))) me h (fun fr I=> ∃(u0:Bool),qo [(0,.string a0),(10,.bool u0)] fr/\aaG B ro a0 Q u0 I) ?_ ?_ ?_
 .intro h e2 hk2;refine zv e2 ?_;exact hk2 _ _ ⟨_,FL,h⟩
 .intro h e2 hk2;refine zy e2 ?_;refine Lyb rfl rfl rfl rfl e2 (kG rfl func82 rfl rfl rfl (qc.mono h ?_))
  rintro v I ⟨u1,rfl,h⟩;refine zv e2 ?_;exact hk2 _ _ ⟨_,FL,h⟩
 rintro fr I ⟨u0,hl,h⟩;unfold aaG at h;refine Lfr hl ?_
 refine zj h (fun h=>?_) fun h=>?_
 .exact zrr h
 refine zC func227 h fun u2 I h=>?_;obtain⟨hc,h⟩:=h
 refine zm (aol (lo:=(some (i64.wrap (u2+1)))) (hi:=none) rfl mo rfl (ve rfl) vd hc) ?_;exact zrr h
end Go.Proofs.YtomdigihapdhnaaGreatDoor.G
namespace Go.Proofs.YtomdigihapdhnaaGreatDoor.Pa
open Go SL
variable{ps:List Str}{l x:Str}
def okc(c:UInt8):Bool:=(97<=c.toNat && c.toNat<=122) || (48<=c.toNat && c.toNat<=57) || c.toNat == 46 || c.toNat == 95 || c.toNat == 45
def wb(l:Str):Bool:=decide (1<=l.length) && decide (l.length<=32) && (l != [46]) && (l != [46,46]) && l.all okc
def cut:Str->List Str
 | []=>[[]]
 | c::r=>if c=47 then []::cut r else match cut r with | []=>[[c]] | h::t=>(c::h)::t
def parts(l:Str):Option (List Str):=
 if l=[47]then some []
 else if l.length<=128/\l.head?=some 47/\(cut (l.drop 1)).length<=8/\(cut (l.drop 1)).all wb=true then some (cut (l.drop 1))else none
def mk(ps:List Str):Str:=if ps=[]then [47]else ps.flatMap (fun x=>47::x)
def aoG(l:Str):cut l≠[]:=by
 cases l with
 | nil=>simp[cut]
 | cons c r=>unfold cut;split<;>(try split)<;>simp
def adY(h:wb x=true):47∉x:=by
 intro hm
 unfold wb at h
 simp only[mu,mI]at h
 have:=h.2 47 hm
 exact mt this y1
def ab9(h:wb x=true):1<=x.length/\x.length<=32:=by
 unfold wb at h
 simp only[mu,mS]at h
 exact⟨h.1.1.1.1,h.1.1.1.2⟩
def atp(l:Str):(cut l).flatMap (fun x=>47::x)=47::l:=by
 induction l with
 | nil=>rfl
 | cons c r ih=>
  unfold cut
  split
  .rename_i h;subst h
   rw[nE,ih];try rfl
  .split
   .rename_i h;exact mt h (aoG r)
   .rename_i h t e
    rw[e,nE]at ih
    rw[nE]
    simp only[ng,List.cons.injEq,true_and]at ih⊢
    exact ih
def aoH(x:Str)(hx:47∉x):cut x=[x]:=by
 induction x with
 | nil=>rfl
 | cons c x ih=>
  simp at hx
  unfold cut
  rw[ma (fun e=>hx.1 e.symm),ih hx.2]
def ap1(x r:Str)(hx:47∉x):cut (x++47::r)=x::cut r:=by
 induction x with
 | nil=>rw[nF];conv=>lhs;unfold cut
        rw[mc rfl]
 | cons c x ih=>
  simp at hx
  rw[ng]
  conv=>lhs;unfold cut
  rw[ma (fun e=>hx.1 e.symm),ih hx.2]
def ajC:∀ (ps:List Str),ps≠[]->(∀x∈ps,47∉x)->cut ((ps.flatMap (fun x=>47::x)).drop 1)=ps:=by
 intro ps
 induction ps with
 | nil=>intro h;exact mt rfl h
 | cons x ps ih=>
  intro _ hx
  rw[nE]
  cases ps with
  | nil=>simpa using aoH x (hx x y0)
  | cons y ps=>
   have:=ih y0 fun z hz=>hx z (by simp[hz])
   rw[nE]at this⊢
   simp only[ng,List.drop_succ_cons,List.drop_zero]at this⊢
   rw[ap1 x _ (hx x y0),this]
def aki(ps:List Str):∃ r,mk ps=47::r:=by
 unfold mk
 cases ps with
 | nil=>exact⟨[],rfl⟩
 | cons x ps=>exact⟨_,rfl⟩
structure aht(ps:List Str):Prop where
 n:ps.length<=8
 ok:∀ x∈ps,wb x=true
 len:(mk ps).length<=128
def auU(hn:ps≠[])(hx:∀ x∈ps,wb x=true):mk ps≠[47]:=by
 unfold mk;rw[ma hn]
 cases ps with
 | nil=>exact mt rfl hn
 | cons x ps=>
  rw[nE]
  have:=(ab9 (hx x y0)).1
  intro h
  have:=mj List.length h
  simp at this
  have:x=[]:=this.1
  subst this
  simp at*
def qZ:parts l=some ps↔l=mk ps/\aht ps:=by
 constructor
 .intro h
  unfold parts at h
  split at h
  .rename_i e;cases h;exact⟨e,y0,y0,y1⟩
  .split at h
   .rename_i e1 e2
    cases h
    obtain⟨h1,h2,h3,h4⟩:=e2
    cases l with
    | nil=>cases h2
    | cons c r=>
     cases h2
     simp only[List.drop_succ_cons,List.drop_zero]at*
     have e:mk (cut r)=47::r:=by unfold mk;rw[ma (aoG r),atp]
     exact⟨e.symm,h3,j4 h4,by rw[e];exact h1⟩
   .cases h
 .rintro⟨rfl,h⟩
  unfold parts
  by_cases hn:ps=[]
  .subst hn;rfl
  .rw[ma (auU hn h.ok)]
   have e:cut ((mk ps).drop 1)=ps:=by unfold mk;rw[ma hn];exact ajC ps hn fun x hx=>adY (h.ok x hx)
   rw[e,mc]
   obtain⟨r,hr⟩:=aki ps
   exact⟨h.len,by rw[hr];try rfl,h.n,j4 h.ok⟩
def arQ{qs:List Str}(hp:aht ps)(hq:aht qs)(h:mk ps=mk qs):ps=qs:=by
 have a:=qZ.2 ⟨rfl,hp⟩
 have b:=qZ.2 ⟨h,hq⟩
 rw[a]at b;exact mB b
def li(l:Str):Nat->Int
 | 0=> -1
 | k+1=>if l[k]?=some 47 then(k:Int)else li l k
def au8(a x:Str)(hx:47∉x):∀ k,k<=x.length->li (a++47::x) (a.length+1+k)=a.length:=by
 intro k
 induction k with
 | zero=>intro _;show li _ (a.length+1)=_;unfold li;rw[mc y0]
 | succ k ih=>
  intro hk
  show li _ ((a.length+1+k)+1)=_
  unfold li
  rw[ma,ih z7]
  rw[mU z7,show a.length+1+k - a.length=k+1 by omega,LY,md z7]
  intro h
  exact hx ((mB h)▸mJ _)
def acC(ps:List Str)(x:Str):mk (ps++[x])=(if ps=[]then []else mk ps)++47::x:=by
 unfold mk
 rw[ma y0,List.flatMap_append]
 cases ps with
 | nil=>simp
 | cons y ps=>simp
def aht.up(h:aht ps):aht ps.dropLast:=by
 rcases List.eq_nil_or_concat ps with rfl | ⟨qs,x,rfl⟩
 .exact h
 .rw[List.concat_eq_append]at h⊢
  rw[List.dropLast_concat]
  refine⟨by have:=h.n;simp at this;omega,fun y hy=>h.ok y (by simp[hy]),?_⟩
  have:=h.len
  rw[acC]at this
  split at this
  .rename_i e;subst e;decide
  .simp at this;omega
def av8:∀ (s:Str),47∉s->Lib.index s [47]= -1:=by
 intro s
 induction s with
 | nil=>intro _;rfl
 | cons b l ih=>
  intro h
  simp at h
  unfold Lib.index
  rw[ma (by simp;exact h.1),ih h.2];rfl
def arR:∀ (a r:Str),47∉a->Lib.index (a++47::r) [47]=a.length:=by
 intro a
 induction a with
 | nil=>intro r _;show Lib.index (47::r) [47]=0;unfold Lib.index;rw[mc y0]
 | cons b a ih=>
  intro r h
  simp at h
  rw[ng]
  unfold Lib.index
  rw[ma (by simp;exact h.1),ih r h.2,ma y0]
  simp
def aqV:∀ (fuel:Nat) (s:Str),s.length<fuel->Lib.splitK [47] 0 (Lib.countFrom [47] fuel s) s=cut s:=by
 intro fuel
 induction fuel with
 | zero=>intro s h;omega
 | succ n ih=>
  intro s h
  unfold Lib.countFrom
  by_cases hm:47∈s
  .obtain⟨a,r,rfl,ha⟩:=List.eq_append_cons_of_mem hm
   rw[arR a r ha,ma y0,Nat.add_comm 1]
   unfold Lib.splitK
   rw[arR a r ha,ma y0]
   simp only[mq,Nat.add_zero,List.take_left,mz,nH]
   have e:(a++47::r).drop (a.length+1)=r:=by
    rw[show a++47::r=(a++[47])++r by simp,show a.length+1=(a++[47]).length by simp,List.drop_left]
   rw[show a.length+(0+1)=a.length+1 by omega,e,ih r (by simp at h;omega),ap1 a r ha]
  .rw[av8 s hm,mc (by rfl),aoH s hm];try rfl
def ano(s:ZA):(Lib.splitB (S [47]) 0 (Lib.countB s (S [47])) s).map L=cut (L s):=by
 rw[show(Lib.splitB (S [47]) 0 (Lib.countB s (S [47])) s).map L=Lib.splitK [47] 0 (Lib.countB s (S [47])) (L s)from Lib.splitB_data _ _ _ _]
 have:Lib.countB s (S [47])=Lib.count (L s) [47]:=rfl
 rw[this]
 exact aqV _ _ z7
end Go.Proofs.YtomdigihapdhnaaGreatDoor.Pa
namespace Go.Proofs
open YtomdigihapdhnaaGreatDoor
open Go.Shelf
def Tryz.laysM171_ren:Go.Shelf.Ren:=⟨fun | 171=>228 | 243=>265 | 246=>316 | 283=>362 | 284=>363 | 285=>364 | 286=>365 | 129=>288 | 317=>388 | 318=>389 | 319=>390 | 320=>391 | 337=>398 | 338=>399 | n=>n,fun | 3=>3 | 9=>9 | 2=>2 | 4=>4 | 171=>528 | 0=>0 | 53=>464 | 37=>24 | 5=>5 | 173=>530 | 212=>545 | 51=>462 | 20=>20 | 213=>546 | 46=>399 | 232=>556 | 233=>557 | n=>n,fun | 17=>2 | 18=>5 | 19=>6 | n=>n⟩
def Tryz.laysM171:Go.Proofs.LaysM.n171 prog Tryz.laysM171_ren:={
 mixed:=by kernel_rfl
 f129:=func288.trans (congrArg some j0)
 f171:=func228.trans (congrArg some j0)
 f243:=func265.trans (congrArg some j0)
 f246:=func316.trans (congrArg some j0)
 f283:=func362.trans (congrArg some j0)
 f284:=func363.trans (congrArg some j0)
 f285:=func364.trans (congrArg some j0)
 f286:=func365.trans (congrArg some j0)
 f317:=func388.trans (congrArg some j0)
 f318:=func389.trans (congrArg some j0)
 f319:=func390.trans (congrArg some j0)
 f320:=func391.trans (congrArg some j0)
 f337:=func398.trans (congrArg some j0)
 f338:=func399.trans (congrArg some j0)
 t0:=underlying0
 a0:=isAgg0
 z0:=sizeOf0
 v0:=zeroValue0
 t2:=underlying2
 a2:=isAgg2
 z2:=sizeOf2
 v2:=zeroValue2
 t3:=underlying3
 a3:=isAgg3
 z3:=sizeOf3
 v3:=zeroValue3
 t4:=underlying4
 a4:=isAgg4
 z4:=sizeOf4
 v4:=zeroValue4
 t5:=underlying5
 a5:=isAgg5
 z5:=sizeOf5
 v5:=zeroValue5
 t9:=underlying9
 a9:=isAgg9
 z9:=sizeOf9
 v9:=zeroValue9
 t20:=underlying20
 a20:=isAgg20
 z20:=sizeOf20
 v20:=zeroValue20
 t37:=underlying24
 a37:=isAgg24
 z37:=sizeOf24
 v37:=zeroValue24
 t46:=underlying399
 a46:=isAgg399
 z46:=sizeOf399
 v46:=zeroValue399
 t51:=underlying462
 a51:=isAgg462
 z51:=sizeOf462
 v51:=zeroValue462
 t53:=underlying464
 a53:=isAgg464
 z53:=sizeOf464
 v53:=zeroValue464
 t171:=underlying528
 a171:=isAgg528
 z171:=sizeOf528
 v171:=zeroValue528
 t173:=underlying530
 a173:=isAgg530
 z173:=sizeOf530
 v173:=zeroValue530
 t212:=underlying545
 a212:=isAgg545
 z212:=sizeOf545
 v212:=zeroValue545
 t213:=underlying546
 a213:=isAgg546
 z213:=sizeOf546
 t232:=underlying556
 a232:=isAgg556
 z232:=sizeOf556
 v232:=zeroValue556
 t233:=underlying557
 a233:=isAgg557
 z233:=sizeOf557
 v233:=zeroValue557
 g17:=by kernel_rfl
 g18:=by kernel_rfl
 g19:=by kernel_rfl
 i0:=by kernel_rfl
 i2:=by kernel_rfl
 i3:=by kernel_rfl
 i4:=by kernel_rfl
 i5:=by kernel_rfl
 i9:=by kernel_rfl
 i20:=by kernel_rfl
 i37:=by kernel_rfl
 i46:=by kernel_rfl
 i51:=by kernel_rfl
 i53:=by kernel_rfl
 i171:=by kernel_rfl
 i173:=by kernel_rfl
 i212:=by kernel_rfl
 i232:=by kernel_rfl
 i233:=by kernel_rfl
 m17:=by kernel_rfl
 m18:=by kernel_rfl
 m19:=by kernel_rfl}
open Go.RowKit Go.Sort Go.Lib in
def Tryz.strconv_Itoa(n:Int)(h0: -9223372036854775808<=n)(h1:n<=9223372036854775807)(w:ZB)(htab:Lib.TabIs prog w "internal/strconv.uint64pow10" .u64 Lib.pow10Tab):
  Calls prog 228 #[.int .i64 n] w fun e w'=>e= .returned (.string ⟨(Lib.itoa n).toArray⟩)/\∃ k os,w'=grow (w.drewN k) os:=Any.strconv_Itoa Tryz.laysM171 n h0 h1 w htab
def Tryz.laysM290_ren:Go.Shelf.Ren:=⟨fun | 290=>226 | 324=>263 | n=>n,fun | 37=>24 | 3=>3 | 0=>0 | 4=>4 | 20=>20 | 75=>224 | 5=>5 | 80=>143 | 9=>9 | n=>n,fun | 14=>0 | n=>n⟩
def Tryz.laysM290:Go.Proofs.LaysM.n290 prog Tryz.laysM290_ren:={
 mixed:=by kernel_rfl
 f290:=func226.trans (congrArg some j0)
 f324:=func263.trans (congrArg some j0)
 t0:=underlying0
 a0:=isAgg0
 z0:=sizeOf0
 v0:=zeroValue0
 t3:=underlying3
 a3:=isAgg3
 z3:=sizeOf3
 v3:=zeroValue3
 t4:=underlying4
 a4:=isAgg4
 z4:=sizeOf4
 v4:=zeroValue4
 t20:=underlying20
 a20:=isAgg20
 z20:=sizeOf20
 v20:=zeroValue20
 t37:=underlying24
 a37:=isAgg24
 z37:=sizeOf24
 v37:=zeroValue24
 t75:=underlying224
 a75:=isAgg224
 z75:=sizeOf224
 v75:=zeroValue224
 g14:=by kernel_rfl
 t5:=underlying5
 a5:=isAgg5
 z5:=sizeOf5
 v5:=zeroValue5
 t9:=underlying9
 a9:=isAgg9
 z9:=sizeOf9
 v9:=zeroValue9
 t80:=underlying143
 a80:=isAgg143
 z80:=sizeOf143
 v80:=zeroValue143
 i0:=by kernel_rfl
 i3:=by kernel_rfl
 i4:=by kernel_rfl
 i5:=by kernel_rfl
 i9:=by kernel_rfl
 i20:=by kernel_rfl
 i37:=by kernel_rfl
 i75:=by kernel_rfl
 i80:=by kernel_rfl
 m14:=by kernel_rfl}
open Go.RowKit in
def Tryz.bytes_growSlice_row(g l c n:Nat)(cur:Array Value)(w:ZB)(hg:w.heap[g]?=some (.cells cur 5 (0,0)))(hcs:cur.size=c)(hlc:l<=c)(hn:1<=n)(hlim:l+n<=140737488355328)(hc2:c<=140737488355328)(h1:∀ v∈cur.toList.take l,v.oneCell'=true):
  Calls prog 226 #[.slice (some ⟨g,0,none⟩) l c,.int .i64 n] w fun e w'=> ∃cap2 cells,e= .returned (.slice (some ⟨w.heap.size,0,none⟩) l cap2)/\w'.heap[w.heap.size]?=some (.cells cells 5 (0,0))/\
   cells.size=cap2/\cells.toList.take l=cur.toList.take l/\l+n<=cap2/\cap2<=maxLen/\Below w.heap.size w w':=Any.bytes_growSlice_row Tryz.laysM290 g l c n cur w hg hcs hlc hn hlim hc2 h1
open Go.RowKit in
def Tryz.bytes_growSlice_nil(n:Nat)(w:ZB)(hn:1<=n)(hlim:n<=140737488355328):
  Calls prog 226 #[.slice none 0 0,.int .i64 n] w fun e w'=> ∃cap2 cells,e= .returned (.slice (some ⟨w.heap.size,0,none⟩) 0 cap2)/\w'.heap[w.heap.size]?=some (.cells cells 5 (0,0))/\
   cells.size=cap2/\n<=cap2/\cap2<=maxLen/\Below w.heap.size w w':=Any.bytes_growSlice_nil Tryz.laysM290 n w hn hlim
def Tryz.lays146_ren:Go.Shelf.Ren:=⟨fun | 146=>193 | 221=>238 | 268=>275 | 138=>276 | 143=>277 | 195=>321 | 197=>322 | 218=>323 | 219=>324 | 260=>368 | 217=>369 | 225=>370 | 224=>371 | 267=>372 | 266=>392 | 314=>393 | n=>n,fun | 9=>9 | 31=>27 | 3=>3 | 4=>4 | 0=>0 | 105=>494 | 21=>21 | 5=>5 | 46=>399 | 119=>547 | 139=>550 | 138=>549 | 146=>489 | 51=>462 | n=>n,fun | 1=>1 | 3=>3 | 4=>4 | n=>n⟩
def Tryz.lays146:Go.Proofs.Lays.n146 prog Tryz.lays146_ren:={
 mixed:=by kernel_rfl
 f138:=func276.trans (congrArg some j0)
 f143:=func277.trans (congrArg some j0)
 f146:=func193.trans (congrArg some j0)
 f195:=func321.trans (congrArg some j0)
 f197:=func322.trans (congrArg some j0)
 f217:=func369.trans (congrArg some j0)
 f218:=func323.trans (congrArg some j0)
 f219:=func324.trans (congrArg some j0)
 f221:=func238.trans (congrArg some j0)
 f224:=func371.trans (congrArg some j0)
 f225:=func370.trans (congrArg some j0)
 f260:=func368.trans (congrArg some j0)
 f266:=func392.trans (congrArg some j0)
 f267:=func372.trans (congrArg some j0)
 f268:=func275.trans (congrArg some j0)
 f314:=func393.trans (congrArg some j0)
 t0:=underlying0
 a0:=isAgg0
 z0:=sizeOf0
 v0:=zeroValue0
 t3:=underlying3
 a3:=isAgg3
 z3:=sizeOf3
 v3:=zeroValue3
 t4:=underlying4
 a4:=isAgg4
 z4:=sizeOf4
 v4:=zeroValue4
 t5:=underlying5
 a5:=isAgg5
 z5:=sizeOf5
 v5:=zeroValue5
 t9:=underlying9
 a9:=isAgg9
 z9:=sizeOf9
 v9:=zeroValue9
 t21:=underlying21
 a21:=isAgg21
 z21:=sizeOf21
 v21:=zeroValue21
 t31:=underlying27
 a31:=isAgg27
 z31:=sizeOf27
 v31:=zeroValue27
 t46:=underlying399
 a46:=isAgg399
 z46:=sizeOf399
 v46:=zeroValue399
 t51:=underlying462
 a51:=isAgg462
 z51:=sizeOf462
 v51:=zeroValue462
 t105:=underlying494
 a105:=isAgg494
 z105:=sizeOf494
 v105:=zeroValue494
 t119:=underlying547
 a119:=isAgg547
 z119:=sizeOf547
 t138:=underlying549
 a138:=isAgg549
 z138:=sizeOf549
 v138:=zeroValue549
 t139:=underlying550
 a139:=isAgg550
 z139:=sizeOf550
 v139:=zeroValue550
 t146:=underlying489
 a146:=isAgg489
 z146:=sizeOf489
 v146:=zeroValue489
 g1:=by kernel_rfl
 g3:=by kernel_rfl
 g4:=by kernel_rfl}
open Go.RowKit Go.Lib in
def Tryz.strings_Split(s sep:ZA)(m:Int)(w:ZB)(hs:s.size<4294967281)(hm:w.cell? ⟨1,0,none⟩=some (.int .i64 m))(h1:1<=sep.size):
  Calls prog 193 #[.string s,.string sep] w fun e w'=>
   e= .returned (.slice (some ⟨w.heap.size,0,none⟩) (Lib.countB s sep+1) (Lib.countB s sep+1))/\w'=w.alloc (.cells ((Lib.splitB sep 0 (Lib.countB s sep) s).map Value.string).toArray 9):=Any.strings_Split Tryz.lays146 j0 s sep m w hs hm h1
def Tryz.laysM146_ren:Go.Shelf.Ren:=⟨fun | 146=>193 | 221=>238 | 268=>275 | 138=>276 | 143=>277 | 195=>321 | 197=>322 | 218=>323 | 219=>324 | 260=>368 | 217=>369 | 225=>370 | 224=>371 | 267=>372 | 266=>392 | 314=>393 | n=>n,fun | 9=>9 | 31=>27 | 3=>3 | 4=>4 | 0=>0 | 105=>494 | 21=>21 | 5=>5 | 46=>399 | 119=>547 | 139=>550 | 138=>549 | 146=>489 | 51=>462 | n=>n,fun | 1=>1 | 3=>3 | 4=>4 | n=>n⟩
def Tryz.laysM146:Go.Proofs.LaysM.n146 prog Tryz.laysM146_ren:={
 mixed:=by kernel_rfl
 f138:=func276.trans (congrArg some j0)
 f143:=func277.trans (congrArg some j0)
 f146:=func193.trans (congrArg some j0)
 f195:=func321.trans (congrArg some j0)
 f197:=func322.trans (congrArg some j0)
 f217:=func369.trans (congrArg some j0)
 f218:=func323.trans (congrArg some j0)
 f219:=func324.trans (congrArg some j0)
 f221:=func238.trans (congrArg some j0)
 f224:=func371.trans (congrArg some j0)
 f225:=func370.trans (congrArg some j0)
 f260:=func368.trans (congrArg some j0)
 f266:=func392.trans (congrArg some j0)
 f267:=func372.trans (congrArg some j0)
 f268:=func275.trans (congrArg some j0)
 f314:=func393.trans (congrArg some j0)
 t0:=underlying0
 a0:=isAgg0
 z0:=sizeOf0
 v0:=zeroValue0
 t3:=underlying3
 a3:=isAgg3
 z3:=sizeOf3
 v3:=zeroValue3
 t4:=underlying4
 a4:=isAgg4
 z4:=sizeOf4
 v4:=zeroValue4
 t5:=underlying5
 a5:=isAgg5
 z5:=sizeOf5
 v5:=zeroValue5
 t9:=underlying9
 a9:=isAgg9
 z9:=sizeOf9
 v9:=zeroValue9
 t21:=underlying21
 a21:=isAgg21
 z21:=sizeOf21
 v21:=zeroValue21
 t31:=underlying27
 a31:=isAgg27
 z31:=sizeOf27
 v31:=zeroValue27
 t46:=underlying399
 a46:=isAgg399
 z46:=sizeOf399
 v46:=zeroValue399
 t51:=underlying462
 a51:=isAgg462
 z51:=sizeOf462
 v51:=zeroValue462
 t105:=underlying494
 a105:=isAgg494
 z105:=sizeOf494
 v105:=zeroValue494
 t119:=underlying547
 a119:=isAgg547
 z119:=sizeOf547
 t138:=underlying549
 a138:=isAgg549
 z138:=sizeOf549
 v138:=zeroValue549
 t139:=underlying550
 a139:=isAgg550
 z139:=sizeOf550
 v139:=zeroValue550
 t146:=underlying489
 a146:=isAgg489
 z146:=sizeOf489
 v146:=zeroValue489
 g1:=by kernel_rfl
 g3:=by kernel_rfl
 g4:=by kernel_rfl
 i0:=by kernel_rfl
 i3:=by kernel_rfl
 i4:=by kernel_rfl
 i5:=by kernel_rfl
 i9:=by kernel_rfl
 i21:=by kernel_rfl
 i31:=by kernel_rfl
 i46:=by kernel_rfl
 i51:=by kernel_rfl
 i105:=by kernel_rfl
 i138:=by kernel_rfl
 i139:=by kernel_rfl
 i146:=by kernel_rfl
 m1:=by kernel_rfl
 s1_3:=fun w h=>Go.Proofs.cell_of_shapedOpen_int (zero:= #[.int .i64 0]) (t:=3) h (of_decide_eq_true j0) j0 rfl j0 j0 underlying3
 m3:=by kernel_rfl
 m4:=by kernel_rfl}
def Tryz.lays105_ren:Go.Shelf.Ren:=⟨fun | 105=>229 | 212=>266 | 99=>138 | 165=>267 | 166=>268 | 170=>269 | 169=>270 | 263=>317 | 264=>318 | 206=>197 | 240=>319 | 241=>320 | 276=>366 | 277=>367 | n=>n,fun | 9=>9 | 3=>3 | 4=>4 | 20=>20 | 0=>0 | 46=>399 | 109=>445 | 5=>5 | 72=>449 | 76=>225 | 51=>462 | 146=>489 | 53=>464 | 148=>491 | 70=>447 | 37=>24 | 75=>224 | 127=>493 | 164=>532 | 80=>143 | n=>n,fun | n=>n⟩
def Tryz.lays105:Go.Proofs.Lays.n105 prog Tryz.lays105_ren:={
 mixed:=by kernel_rfl
 f99:=func138.trans (congrArg some j0)
 f105:=func229.trans (congrArg some j0)
 f165:=func267.trans (congrArg some j0)
 f166:=func268.trans (congrArg some j0)
 f169:=func270.trans (congrArg some j0)
 f170:=func269.trans (congrArg some j0)
 f206:=func197.trans (congrArg some j0)
 f212:=func266.trans (congrArg some j0)
 f240:=func319.trans (congrArg some j0)
 f241:=func320.trans (congrArg some j0)
 f263:=func317.trans (congrArg some j0)
 f264:=func318.trans (congrArg some j0)
 f276:=func366.trans (congrArg some j0)
 f277:=func367.trans (congrArg some j0)
 t0:=underlying0
 a0:=isAgg0
 z0:=sizeOf0
 v0:=zeroValue0
 t3:=underlying3
 a3:=isAgg3
 z3:=sizeOf3
 v3:=zeroValue3
 t4:=underlying4
 a4:=isAgg4
 z4:=sizeOf4
 v4:=zeroValue4
 t5:=underlying5
 a5:=isAgg5
 z5:=sizeOf5
 v5:=zeroValue5
 t9:=underlying9
 a9:=isAgg9
 z9:=sizeOf9
 v9:=zeroValue9
 t20:=underlying20
 a20:=isAgg20
 z20:=sizeOf20
 v20:=zeroValue20
 t37:=underlying24
 a37:=isAgg24
 z37:=sizeOf24
 v37:=zeroValue24
 t46:=underlying399
 a46:=isAgg399
 z46:=sizeOf399
 v46:=zeroValue399
 t51:=underlying462
 a51:=isAgg462
 z51:=sizeOf462
 v51:=zeroValue462
 t53:=underlying464
 a53:=isAgg464
 z53:=sizeOf464
 v53:=zeroValue464
 t70:=underlying447
 a70:=isAgg447
 z70:=sizeOf447
 v70:=zeroValue447
 t72:=underlying449
 a72:=isAgg449
 z72:=sizeOf449
 v72:=zeroValue449
 t75:=underlying224
 a75:=isAgg224
 z75:=sizeOf224
 v75:=zeroValue224
 t76:=underlying225
 a76:=isAgg225
 z76:=sizeOf225
 v76:=zeroValue225
 t109:=underlying445
 a109:=isAgg445
 z109:=sizeOf445
 v109:=zeroValue445
 t127:=underlying493
 a127:=isAgg493
 z127:=sizeOf493
 v127:=zeroValue493
 t146:=underlying489
 a146:=isAgg489
 z146:=sizeOf489
 v146:=zeroValue489
 t148:=underlying491
 a148:=isAgg491
 z148:=sizeOf491
 v148:=zeroValue491
 t164:=underlying532
 a164:=isAgg532
 z164:=sizeOf532
 v164:=zeroValue532}
def aky:Builder.Extra prog Tryz.lays105_ren:={
 sizeBuilder:=by kernel_rfl
 liesBuilder:=by kernel_rfl
 t5:=underlying5
 a5:=isAgg5
 z5:=sizeOf5
 v5:=zeroValue5
 infoByte:=by kernel_rfl
 cellsByte:=by kernel_rfl
 sizeByte:=by kernel_rfl
 neB5:=by decide}
open Go.RowKit Go.Lib in
def Tryz.strings_Repeat(s:ZA)(c:Nat)(w:ZB)(hc:c<=9223372036854775807)(hlen:s.size*c<=140737488355328):
  Calls prog 229 #[.string s,.int .i64 c] w fun e w'=>e= .returned (.string ⟨(Lib.repeatL s.data.toList c).toArray⟩)/\Below w.heap.size w w':=Any.strings_Repeat Tryz.lays105 aky s c w hc hlen
def akR:Go.Shelf.Ren:=⟨fun | 7=>137 | 10=>196 | n=>n,fun | 23=>237 | 26=>9 | 3=>164 | 28=>270 | 0=>0 | 27=>269 | 33=>99 | 4=>4 | n=>n,fun | n=>n⟩
def ap2:Go.Proofs.SlLaysZ.n7 prog akR:={
 mixed:=by kernel_rfl
 f7:=⟨f137.name,y1,func137.trans (congrArg some j0)⟩
 f10:=⟨f196.name,y1,func196.trans (congrArg some j0)⟩
 t0:=underlying0
 a0:=isAgg0
 z0:=sizeOf0
 v0:=zeroValue0
 t4:=underlying4
 a4:=isAgg4
 z4:=sizeOf4
 v4:=zeroValue4
 t23:=underlying237
 a23:=isAgg237
 z23:=sizeOf237
 v23:=zeroValue237
 t26:=underlying9
 a26:=isAgg9
 z26:=sizeOf9
 v26:=zeroValue9
 t27:=underlying269
 a27:=isAgg269
 z27:=sizeOf269
 v27:=zeroValue269
 t28:=underlying270
 a28:=isAgg270
 z28:=sizeOf270
 v28:=zeroValue270
 t33:=underlying99
 a33:=isAgg99
 z33:=sizeOf99
 v33:=zeroValue99}
def ajc:Go.Shelf.Ren:=⟨fun | 6=>136 | 8=>194 | 9=>195 | 11=>239 | 13=>241 | 12=>240 | 23=>287 | 24=>288 | 14=>278 | 15=>279 | 16=>280 | 17=>281 | 18=>282 | 19=>283 | 20=>284 | 21=>285 | 22=>286 | 25=>325 | 26=>326 | 27=>327 | 28=>328 | 29=>329 | 30=>261 | 31=>373 | n=>n,fun | 26=>9 | 28=>270 | 24=>27 | 0=>0 | 3=>3 | 37=>399 | 48=>462 | 50=>464 | 4=>4 | 40=>456 | 39=>455 | 45=>300 | 5=>5 | 9=>9 | 51=>496 | 55=>500 | 57=>534 | 58=>344 | 33=>99 | n=>n,fun | n=>n⟩
def arS:Go.Proofs.SlLaysZ.n6 prog ajc:={
 mixed:=by kernel_rfl
 f6:=⟨f136.name,y1,func136.trans (congrArg some j0)⟩
 f8:=⟨f194.name,y1,func194.trans (congrArg some j0)⟩
 f11:=⟨f239.name,y1,func239.trans (congrArg some j0)⟩
 t0:=underlying0
 a0:=isAgg0
 z0:=sizeOf0
 v0:=zeroValue0
 t24:=underlying27
 a24:=isAgg27
 z24:=sizeOf27
 v24:=zeroValue27
 t26:=underlying9
 a26:=isAgg9
 z26:=sizeOf9
 v26:=zeroValue9
 t28:=underlying270
 a28:=isAgg270
 z28:=sizeOf270
 v28:=zeroValue270
 i26:=by kernel_rfl}
def apv:Go.Shelf.Ren:=⟨fun | 6=>195 | 8=>241 | 9=>240 | 19=>287 | 20=>288 | 21=>278 | 22=>279 | 23=>280 | 24=>281 | 25=>282 | 26=>283 | 27=>284 | 28=>285 | 29=>286 | 36=>325 | 31=>326 | 32=>327 | 37=>328 | 38=>329 | 39=>261 | 41=>373 | n=>n,fun | 27=>27 | 29=>9 | 3=>3 | 32=>399 | 26=>27 | 0=>0 | 44=>462 | 46=>464 | 4=>4 | 36=>456 | 35=>455 | 41=>300 | 5=>5 | 9=>9 | 53=>496 | 57=>500 | 63=>534 | 64=>344 | n=>n,fun | n=>n⟩
def ap3:Go.Proofs.SlLaysM.n6 prog apv:={
 mixed:=by kernel_rfl
 f6:=⟨f195.name,y1,func195.trans (congrArg some j0)⟩
 f8:=func241.trans (congrArg some j0)
 f9:=⟨f240.name,y1,func240.trans (congrArg some j0)⟩
 f19:=func287.trans (congrArg some j0)
 f20:=func288.trans (congrArg some j0)
 f21:=⟨f278.name,y1,func278.trans (congrArg some j0)⟩
 f22:=⟨f279.name,y1,func279.trans (congrArg some j0)⟩
 f23:=⟨f280.name,y1,func280.trans (congrArg some j0)⟩
 f24:=⟨f281.name,y1,func281.trans (congrArg some j0)⟩
 f25:=⟨f282.name,y1,func282.trans (congrArg some j0)⟩
 f26:=⟨f283.name,y1,func283.trans (congrArg some j0)⟩
 f27:=⟨f284.name,y1,func284.trans (congrArg some j0)⟩
 f28:=⟨f285.name,y1,func285.trans (congrArg some j0)⟩
 f29:=⟨f286.name,y1,func286.trans (congrArg some j0)⟩
 f31:=func326.trans (congrArg some j0)
 f32:=func327.trans (congrArg some j0)
 f36:=⟨f325.name,y1,func325.trans (congrArg some j0)⟩
 f37:=⟨f328.name,y1,func328.trans (congrArg some j0)⟩
 f38:=⟨f329.name,y1,func329.trans (congrArg some j0)⟩
 f39:=⟨f261.name,y1,func261.trans (congrArg some j0)⟩
 f41:=⟨f373.name,y1,func373.trans (congrArg some j0)⟩
 t0:=underlying0
 a0:=isAgg0
 z0:=sizeOf0
 v0:=zeroValue0
 t3:=underlying3
 a3:=isAgg3
 z3:=sizeOf3
 v3:=zeroValue3
 t4:=underlying4
 a4:=isAgg4
 z4:=sizeOf4
 v4:=zeroValue4
 t5:=underlying5
 a5:=isAgg5
 z5:=sizeOf5
 v5:=zeroValue5
 t9:=underlying9
 a9:=isAgg9
 z9:=sizeOf9
 v9:=zeroValue9
 t26:=underlying27
 a26:=isAgg27
 z26:=sizeOf27
 v26:=zeroValue27
 t27:=underlying27
 a27:=isAgg27
 z27:=sizeOf27
 v27:=zeroValue27
 t29:=underlying9
 a29:=isAgg9
 z29:=sizeOf9
 v29:=zeroValue9
 t32:=underlying399
 a32:=isAgg399
 z32:=sizeOf399
 v32:=zeroValue399
 t35:=underlying455
 a35:=isAgg455
 z35:=sizeOf455
 v35:=zeroValue455
 t36:=underlying456
 a36:=isAgg456
 z36:=sizeOf456
 v36:=zeroValue456
 t41:=underlying300
 a41:=isAgg300
 z41:=sizeOf300
 v41:=zeroValue300
 t44:=underlying462
 a44:=isAgg462
 z44:=sizeOf462
 v44:=zeroValue462
 t46:=underlying464
 a46:=isAgg464
 z46:=sizeOf464
 v46:=zeroValue464
 t53:=underlying496
 a53:=isAgg496
 z53:=sizeOf496
 v53:=zeroValue496
 t57:=underlying500
 a57:=isAgg500
 z57:=sizeOf500
 v57:=zeroValue500
 t63:=underlying534
 a63:=isAgg534
 z63:=sizeOf534
 v63:=zeroValue534
 t64:=underlying344
 a64:=isAgg344
 z64:=sizeOf344
 v64:=zeroValue344}
open Go.RowKit Go.Maps Go.Sort in
def Tryz.sorts136(m:Nat):AnyZ.SortsIn prog ajc Fence.wide m:=
 ⟨fun blk off cap ss W hH hblk hsz=>callsIn_wide.2 (AnyM.slices_Sort_string ap3 blk off cap ss W hH hblk hsz),
  fun p cap W=>callsIn_wide.2 (AnyM.slices_Sort_string_none ap3 p cap W)⟩
open Go.RowKit Go.Maps Go.Sort in
def Tryz.maps_Keys_137(mb:Option Nat)(W:ZB):CallsIn Fence.wide 5 prog 137 #[.map mb] W fun e w'=>e= .returned (.func (.func 196) #[] #[.pointer (some ⟨W.heap.size,0,none⟩)])/\w'=W.alloc (.cells #[.map mb] 237):=
 AnyZ.keys_in ap2 Fence.wide 5 trivial rfl mb W
end Go.Proofs
namespace Go.Proofs.YtomdigihapdhnaaGreatDoor.Pa
open Go SL G
variable{B:ZB}{ro I I':AH}{tag tag':Nat->Nat}
variable{Q:Bool->AH->Prop}{s:ZA}
def inc(j:Nat)(h:j<4611686018427387904):i64.wrap ((j:Int)+1)=((j+1:Nat):Int):=by rw[SL.qY z7 z7];try rfl
def ajD{a p:ZA}(hQ:Q ((L p).isPrefixOf (L a)) I):uj B ro a p I Q:=by
 refine aiu fun _=>?_
 unfold abz
 refine ags fun _=>?_
 unfold ut kK
 by_cases h:p.size<=a.size
 .rw[mc z7]
  refine⟨⟨⟨z7,z7⟩,trivial⟩,?_⟩
  have e:decide (a.extract 0 (Int.toNat (p.size:Int))=p)=(L p).isPrefixOf (L a):=by
   rw[mq,Bool.eq_iff_iff,me,List.isPrefixOf_iff_prefix,List.prefix_iff_eq_take]
   constructor
   .intro h';conv=>lhs;rw[<-h']
    rw[<-S_L a,adW];simp[kF]
   .intro h'
    apply uG
    rw[<-S_L a,adW];simp only[L_S,List.drop_zero]
    rw[kF]at h';exact h'.symm
  rw[e];exact hQ
 .rw[ma z7]
  have e:(L p).isPrefixOf (L a)=false:=by
   rw[Bool.eq_false_iff]
   intro h'
   have:=(List.isPrefixOf_iff_prefix.1 h').length_le
   rw[kF,kF]at this;exact h this
  rw[e]at hQ;exact hQ
def ap4{Q:Int->AH->Prop}(hs:s.size<4611686018427387904)(hQ:Q (li (L s) s.size) I):jN B ro s 47 I Q:=by
 refine agt fun _=>?_
 unfold uu
 refine aem fun _=>?_
 unfold jK
 rw[SL.qY z7 z7]
 suffices∀k,k<=s.size->Q (li (L s) k) I->lfpD (vf B ro s 47 Q) ((k:Int) - 1) I from this s.size (mR _) hQ
 intro k
 induction k with
 | zero=>
  intro _ h
  refine lfpD.intro ?_
  unfold vf
  rw[ma z7]
  exact h
 | succ k ih=>
  intro hk h
  refine lfpD.intro ?_
  unfold vf
  rw[mc z7]
  have e:((k+1:Nat):Int) - 1=k:=by omega
  rw[e]
  have hkl:k<(L s).length:=by rw[kF];omega
  have hg:s[k]?=some ((L s)[k]):=by
   conv=>lhs;rw[<-S_L s]
   rw[awK,md hkl]
  refine⟨(L s)[k],z7,by rw[mq];exact hg,?_⟩
  unfold li at h
  rw[md hkl]at h
  by_cases c:(L s)[k]=47
  .rw[mc (by rw[c])]at h
   rw[mc (by rw[c];try rfl)]
   exact h
  .rw[ma (j4 c)]at h
   rw[ma,SL.qY z7 z7]
   .exact ih z7 h
   .intro h'
    refine c (UInt8.toNat_inj.1 ?_)
    have:((L s)[k].toNat:Int)=47:=h'
    show(L s)[k].toNat=47
    omega
def an2{P:Program}{t:TypeId}{s:ZA}{K:ZC->AH->Prop}(ht:P.underlying t=some .string)(h:∀ b,ro b=none->I b=none->K (.pointer (some ⟨b,0,none⟩)) (upd I b (.stringIter s 0))):awp P ro (Instr.range t (.string s)) K I:=by
 unfold Instr.range
 simp only[qy]
 rw[qx ht]
 exact h
def ajE{P:Program}{t:TypeId}{b pos:Nat}{K:ZC->AH->Prop}(hro:ro b=none)(hb:I b=some (.stringIter s pos))(h1:s.size<=pos->K (.tuple #[.bool false]) I)
  (h2:pos<s.size->K (.tuple #[.bool true,.int .i64 pos,.int .i32 (Utf8.decode s pos).1]) (upd I b (.stringIter s (pos+(Utf8.decode s pos).2)))):awp P ro (Instr.next (.pointer (some ⟨b,0,none⟩)) true t) K I:=by
 unfold Instr.next
 refine⟨.stringIter s pos,by unfold rd;rw[hro];exact hb,rfl,?_⟩
 show awp P ro (if pos<s.size then _ else _) K I
 by_cases h:pos<s.size
 .rw[mc h]
  exact⟨_,hb,rfl,h2 h⟩
 .rw[ma h]
  exact h1 z7
def aqW(s:ZA)(pos:Nat)(h:¬ (s.get! pos).toNat<128):128<=(Utf8.decode s pos).1:=by
 unfold Utf8.decode
 simp only[Nat.add_zero]
 rw[ma h]
 repeat' split
 all_goals simp_all [Utf8.runeError]
 all_goals omega
def agf(hQ:Q (wb (L s)) I):pH B ro s I Q:=by
 refine qc.quiet (R:=fun v=>v= .bool (wb (L s))) ?_ (fun v hv=>⟨_,hv,hQ⟩)
 have:pH B ro s (fun _=>none) fun r _=>r=wb (L s):=by
  refine aoE fun hs=>?_
  unfold ahr
  by_cases g:((s=⟨#[]⟩\/32<(s.size:Int))\/s=⟨#[46]⟩)\/s=⟨#[46,46]⟩
  .rw[mc g]
   show false=wb (L s)
   symm
   rw[Bool.eq_false_iff]
   intro h
   unfold wb at h
   simp only[mu,mS,bne_iff_ne]at h
   obtain⟨⟨⟨⟨h1,h2⟩,h3⟩,h4⟩,_⟩:=h
   rcases g with((g | g) | g) | g
   .rw[g]at h1;simp[L]at h1
   .rw[kF]at h2;omega
   .rw[g]at h3;exact h3 rfl
   .rw[g]at h4;exact h4 rfl
  .rw[ma g]
   have hall:wb (L s)=(L s).all okc:=by
    unfold wb
    have e1:1<=(L s).length:=by
     rw[kF]
     rcases nh s.size with h0 | h0
     .exact mt (.inl (.inl (.inl (uG (nb h0))))) g
     .exact h0
    have e2:(L s).length<=32:=by
     rw[kF]
     rcases mM 32 s.size with h0 | h0
     .exact mt (.inl (.inl (.inr z7))) g
     .exact h0
    have e3:L s≠[46]:=fun h=>g (.inl (.inr (uG h)))
    have e4:L s≠[46,46]:=fun h=>g (.inr (uG h))
    simp[e1,e2,e3,e4]
   rw[hall]
   have h9:prog.underlying 9=some .string:=by kernel_rfl
   have hr:= @an2 ro (fun _=>none) prog 9 s (fun v I=> ∃p21_2,v=Value.pointer (some p21_2)/\lfpD (pZ B ro p21_2 fun r x=>r=List.all (L s) okc) () I) h9
   refine hr ?_
   intro b hro hb
   refine⟨⟨b,0,none⟩,rfl,?_⟩
   suffices∀m pos,pos+m=s.size->(∀i,i<pos->∀ c,(L s)[i]?=some c->okc c=true)->∀ I:AH,I b=some (.stringIter s pos)->lfpD (pZ B ro ⟨b,0,none⟩ fun r _=>r=(L s).all okc) () I from
    this s.size 0 (ml _) (fun i h=>mt h (Nat.not_lt_zero _)) _ (qE _ _ _)
   intro m
   induction m with
   | zero=>
    intro pos hp hk I hσ
    refine lfpD.intro ?_
    unfold pZ
    refine ajE hro hσ (fun _=> .inl ⟨rfl,?_⟩) (fun h=>by omega)
    show true=(L s).all okc
    symm
    rw[mI]
    intro c hc
    obtain⟨i,hi,e⟩:=ni hc
    exact hk i (by rw[kF]at hi;omega) c (by rw[md hi,e])
   | succ m ih=>
    intro pos hp hk I hσ
    have hpl:pos<(L s).length:=by rw[kF];omega
    have hps:pos<s.size:=by omega
    have hget:s[pos]'hps=(L s)[pos]:=rfl
    have hgb:s.get! pos=(L s)[pos]:=by
     have e:s.get! pos=s.data[pos]!:= rfl
     rw[e,getElem!_pos s.data pos (by exact hps)]
     try rfl
    refine lfpD.intro ?_
    unfold pZ
    refine ajE hro hσ (fun h=>by omega) (fun _=> .inr ⟨pos,_,rfl,?_⟩)
    by_cases ha:((L s)[pos]).toNat<128
    .rw[decode_ascii s pos hps (by rw[hget];exact ha),hget]
     have step:∀ x:Bool,x=okc ((L s)[pos])->xF B ro ⟨b,0,none⟩ (fun r _=>r=(L s).all okc) (lfpD (pZ B ro ⟨b,0,none⟩ fun r _=>r=(L s).all okc)) x (upd I b (.stringIter s (pos+1))):=by
      intro x hx
      unfold xF
      split
      .rename_i hx'
       refine ih (pos+1) z7 (fun i hi c hc=>?_) _ (qE _ _ _)
       rcases mM i pos with h | h
       .exact hk i h c hc
       .have:i=pos:=by omega
        subst this
        rw[md hpl]at hc
        cases hc
        exact hx.symm.trans hx'
      .rename_i hx'
       show false=(L s).all okc
       symm
       rw[Bool.eq_false_iff,ne_eq,mI]
       intro h
       exact hx' (hx.trans (h _ (mJ hpl)))
     simp only
     generalize (L s)[pos]=c at step
     have iff:∀ x:Bool,(x=true↔okc c=true)->x=okc c:=fun x h=>Bool.eq_iff_iff.2 h
     by_cases b1:(97:Int)<=(c.toNat:Int)/\(c.toNat:Int)<=122
     .rw[mc b1]
      exact step _ (iff _ (by simp[okc];omega))
     .rw[ma b1]
      by_cases b2:(48:Int)<=(c.toNat:Int)/\(c.toNat:Int)<=57
      .rw[mc b2]
       exact step _ (iff _ (by simp[okc];omega))
      .rw[ma b2]
       by_cases b3:(c.toNat:Int)=46
       .rw[mc b3]
        exact step _ (iff _ (by simp[okc];omega))
       .rw[ma b3]
        by_cases b4:(c.toNat:Int)=95
        .rw[mc b4]
         exact step _ (iff _ (by simp[okc];omega))
        .rw[ma b4]
         exact step _ (iff _ (by simp[okc];omega))
    .have hbig:=aqW s pos (by rw[hgb];exact ha)
     generalize (Utf8.decode s pos).1=x at hbig
     generalize (Utf8.decode s pos).2=y
     have hno:false=(L s).all okc:=by
      symm
      rw[Bool.eq_false_iff,ne_eq,mI]
      intro h
      have:=h _ (mJ hpl)
      simp[okc]at this
      omega
     rw[ma z7,ma z7,ma z7,ma z7]
     unfold xF
     rw[ma j2]
     exact hno
 exact qc.mono this fun v τ ⟨r,hv,hr⟩=>by rw[hv,hr]
end Go.Proofs.YtomdigihapdhnaaGreatDoor.Pa
namespace Go.Proofs.YtomdigihapdhnaaGreatDoor.Pa
open Go SL G Go.RowKit
variable{s:ZA}{Q:ZA->Int->AH->Prop}{l ps:List Str}{i r:Nat}
structure ze(ro:AH):Prop where
 maxlen:∃ m o,ro 1=some o/\zF ⟨1,0,none⟩ (some o)=some (.int .i64 m)
 tab:∀ w:ZB,(∀b o,ro b=some o->w.heap[b]?=some o)->Lib.TabIs prog w "internal/strconv.uint64pow10" .u64 Lib.pow10Tab
variable{B:ZB}{ro I I':AH}{tag tag':Nat->Nat}
def ap5{w:ZB}(h:aqQ ro I w):∀ b o,ro b=some o->w.heap[b]?=some o:=fun b o hb=>h b o (by unfold rd;rw[hb])
abbrev vS(l:Str):ZC:= .string (S l)
def atq{Q:Sl->AH->Prop}(r:Nat)(g:ze ro)(hs:s.size<4294967281)(hQ:∀ sl tag' I',(∀R,qd R ro tag I tag' I')->Row tag' I' r 9 sl ((cut (L s)).map vS)->Q sl I'):
  ag1 B ro s (⟨#[47]⟩:ZA) I Q:=by
 refine qc.of_calls fun w hw hsep=>?_
 obtain⟨m,o,h0,h1⟩:=g.maxlen
 have hm:w.cell? ⟨1,0,none⟩=some (.int .i64 m):=by rw[cell?_eq,ap5 hw 1 o h0];exact h1
 refine(Tryz.strings_Split s (S [47]) m w hs hm y1).mono ?_
 rintro e w' ⟨he,rfl⟩
 have hmap:(Lib.splitB (S [47]) 0 (Lib.countB s (S [47])) s).map Value.string=(cut (L s)).map vS:=by
  rw[<-ano,Lh]
  refine List.map_congr_left fun x _=>?_
  simp[vS]
 have hlen:(cut (L s)).length=Lib.countB s (S [47])+1:=by
  have:=Lib.splitB_all (S [47]) y1 0 _ s rfl
  rw[<-ano,mg,this]
 obtain⟨N,tag',hN,hst,hrow⟩:=ahP (tag:=tag) (w':=w.alloc (.cells ((Lib.splitB (S [47]) 0 (Lib.countB s (S [47])) s).map Value.string).toArray 9)) r hw hsep (mR w.heap.size) (heap_alloc_new w _)
 refine⟨_,N,he,(Below.refl _ w).alloc (mR _) _,hN,⟨some ⟨w.heap.size,0,none⟩,Lib.countB s (S [47])+1,Lib.countB s (S [47])+1⟩,rfl,?_⟩
 refine hQ _ tag' _ hst (hrow _ _ _ ?_ ?_ (mR _) ?_)
 .rw[mg,hlen]
 .rw[hmap];simp[hlen]
 .rw[hmap];simp only[List.toList_toArray]
  rw[mD (by simp[hlen])]
def Row.sget{e:TypeId}{s:Sl}(h:Row tag I r e s (l.map vS))(hs:SL.Sep ro I)(hi:i<l.length):
  ∃p,s.a=some p/\s.len=l.length/\∀ j (hj:j<l.length),qa ro I (p.add (j*1))=some (vS l[j]):=by
 obtain⟨p,hp,hg⟩:=h.ptr hs j2
 refine⟨p,hp,by rw[h.len];simp,fun j hj=>hg j _ ?_⟩
 rw[mh,md hj];try rfl
def anp{Q:Sl->Int->AH->Prop}(r:Nat)(g:ze ro)(hnone:parts (L s)=none->∀ I',Q ⟨none,0,0⟩ 20 I')
  (hsome:∀ ps,parts (L s)=some ps->∀ sl tag' I',qd [] ro tag I tag' I'->Row tag' I' r 9 sl (ps.map vS)->Q sl 0 I'):vD B ro s I Q:=by
 refine an1 fun hs=>?_
 unfold agy
 by_cases h1:s=⟨#[47]⟩
 .rw[mc h1]
  refine hsome [] ?_ _ tag I (qd.refl hs) (Row.nil r 9)
  subst h1;rfl
 .have hne:L s≠[47]:=fun h=>h1 (uG h)
  rw[ma h1]
  by_cases h2:128<(s.size:Int)
  .rw[mc h2]
   unfold uz
   rw[mc rfl]
   refine hnone ?_ _
   unfold parts;rw[ma hne,ma]
   intro h;have:=h.1;rw[kF]at this;omega
  .rw[ma h2]
   refine ajD ?_
   unfold uz
   by_cases h3:(L s).head?=some 47
   .obtain⟨t,ht⟩:∃ t,L s=47::t:=by
     cases h:L s with
     | nil=>rw[h]at h3;cases h3
     | cons c t=>rw[h]at h3;cases h3;exact⟨t,rfl⟩
    have hp:(L (⟨#[47]⟩:ZA)).isPrefixOf (L s)=true:=by rw[ht];try rfl
    rw[hp,ma y1]
    have hsz:s.size=t.length+1:=by rw[<-kF,ht];try rfl
    refine⟨⟨trivial,⟨z7,by show(1:Int)<=(s.size:Int);omega⟩⟩,?_⟩
    have hex:s.extract (Int.toNat 1) s.size=S t:=by
     conv=>lhs;rw[<-S_L s]
     rw[adW,ahO,List.take_length,ht];try rfl
    rw[hex]
    refine atq (tag:=tag) r g j2 fun sl tag1 I1 st1 r1=>?_
    rw[L_S]at r1
    have hln:sl.len=(cut t).length:=by rw[r1.len,mg]
    have hdrop:(L s).drop 1=t:=by rw[ht];try rfl
    by_cases h4:(cut t).length<=8
    .rw[ma z7]
     suffices∀m j,j+m=(cut t).length->(∀i (hi:i<(cut t).length),i<j->wb (cut t)[i]=true)->lfpD (abl B ro sl Q) (j:Int) I1 from
      this _ 0 (ml _) (fun i hi h=>mt h (Nat.not_lt_zero _))
     intro m
     induction m with
     | zero=>
      intro j hj hk
      refine lfpD.intro ?_
      unfold abl
      rw[ma z7]
      unfold adl
      refine hsome (cut t) ?_ sl tag1 I1 (st1 _) r1
      unfold parts
      rw[ma hne,hdrop,mc]
      refine⟨by rw[kF];omega,h3,h4,?_⟩
      rw[mI]
      intro x hx
      obtain⟨i,hi,e⟩:=ni hx
      rw[<-e];exact hk i hi z7
     | succ m ih=>
      intro j hj hk
      have hjl:j<(cut t).length:=by omega
      obtain⟨p,hp,_,hg⟩:=Row.sget r1 (st1 []).sep hjl
      refine lfpD.intro ?_
      unfold abl
      rw[mc z7]
      refine⟨p,hp,z7,z7,_,hg j hjl,?_⟩
      refine agf ?_
      rw[L_S]
      by_cases h5:wb (cut t)[j]=true
      .rw[ma (j4 h5),inc j z7]
       refine ih (j+1) z7 fun i hi hij=>?_
       rcases mM i j with h | h
       .exact hk i hi h
       .have:i=j:=by omega
        subst this;exact h5
      .rw[mc (j4 h5)]
       refine hnone ?_ _
       unfold parts
       rw[ma hne,hdrop,ma]
       intro h
       have:=mI.1 h.2.2.2 _ (mJ hjl)
       exact h5 this
    .rw[mc z7]
     refine hnone ?_ _
     unfold parts
     rw[ma hne,hdrop,ma]
     intro h;exact h4 h.2.2.1
   .have hp:(L (⟨#[47]⟩:ZA)).isPrefixOf (L s)=false:=by
     rw[Bool.eq_false_iff]
     intro h
     apply h3
     cases hl:L s with
     | nil=>rw[hl]at h;cases h
     | cons c t=>
      rw[hl]at h
      have:([47]:Str).isPrefixOf (c::t)=true:=h
      simp at this
      rw[<-this];try rfl
    rw[hp,mc y1]
    refine hnone ?_ _
    unfold parts
    rw[ma hne,ma]
    intro h;exact h3 h.2.1
def atr{Q:Sl->Int->AH->Prop}(r:Nat)(g:ze ro)(hnone:parts (L s)=none->∀ sl I',Q sl 20 I')
  (hsome:∀ ps,parts (L s)=some ps->∀ sl tag' I',qd [] ro tag I tag' I'->Row tag' I' r 9 sl (ps.map vS)->Q sl 0 I'):vD B ro s I Q:=anp r g (fun h I'=>hnone h _ I') hsome
def chk(l:Str):Int:=if(parts l).isSome then 0 else 20
def aaj{Q:Int->AH->Prop}(g:ze ro)(hQ:Q (chk (L s)) I):vC B ro s I Q:=by
 refine qc.quiet (R:=fun v=>v= .int .i64 (chk (L s))) ?_ (fun v hv=>⟨_,hv,hQ⟩)
 have:vC B ro s (fun _=>none) fun r _=>r=chk (L s):=by
  refine anZ fun hs=>?_
  unfold agv
  refine atr (tag:=fun _=>0) 0 g (fun h _ _=>?_) (fun ps h _ _ _ _ _=>?_)
  .show(20:Int)=chk (L s);unfold chk;rw[h];try rfl
  .show(0:Int)=chk (L s);unfold chk;rw[h];try rfl
 exact qc.mono this fun v τ ⟨r,hv,hr⟩=>by rw[hv,hr]
def vE{l:Str}:chk l=0↔∃ ps,parts l=some ps:=by
 unfold chk
 cases h:parts l with
 | none=>simp
 | some ps=>simp
def anq(h:aht ps):mk ps=[47]↔ps=[]:=
 ⟨fun e=>np fun hn=>auU hn h.ok e,fun e=>by rw[e];try rfl⟩
def auV{x:Str}(hx:47∉x):li (mk (ps++[x])) (mk (ps++[x])).length=((if ps=[]then []else mk ps).length:Int):=by
 rw[acC]
 have:=au8 (if ps=[]then []else mk ps) x hx x.length (mR _)
 rw[show((if ps=[]then []else mk ps)++47::x).length=(if ps=[]then []else mk ps).length+1+x.length by simp;omega]
 exact this
def alW(ps:List Str):1<=(mk ps).length:=by obtain⟨r,h⟩:=aki ps;rw[h];simp
def qw(l:Str):Option Str:=match parts l with | some ps=>if ps=[]then none else some (mk ps.dropLast) | none=>none
def afk(g:ze ro)(hnone:qw (L s)=none->Q (⟨#[]⟩:ZA) 20 I)(hsome:∀ u,qw (L s)=some u->Q (S u) 0 I):yX B ro s I Q:=by
 refine amI fun hs=>?_
 unfold afH
 by_cases h1:s=⟨#[47]⟩
 .rw[mc h1]
  unfold pO
  rw[mc rfl]
  refine hnone ?_
  subst h1;rfl
 .rw[ma h1]
  refine aaj g ?_
  unfold pO
  by_cases h2:chk (L s)=0
  .rw[ma (j4 h2)]
   obtain⟨ps,hps⟩:=vE.1 h2
   obtain⟨hl,hg⟩:=qZ.1 hps
   have hne:ps≠[]:=fun e=>h1 (uG (by rw[hl,e];try rfl))
   obtain⟨qs,x,rfl⟩:∃ qs x,ps=qs++[x]:=by
    rcases List.eq_nil_or_concat ps with e | ⟨qs,x,e⟩
    .exact mt e hne
    .exact⟨qs,x,by rw[e,List.concat_eq_append]⟩
   have hx:47∉x:=adY (hg.ok x y0)
   have hsz:s.size=(mk (qs++[x])).length:=by rw[<-kF,hl]
   have h128:=hg.len
   refine ap4 z7 ?_
   rw[hl,hsz,auV hx]
   have hpar:qw (L s)=some (mk qs):=by unfold qw;rw[hps];simp
   have hlen:(mk (qs++[x])).length=(if qs=[]then []else mk qs).length+1+x.length:=by rw[acC];simp;omega
   have hmax:(if 1<(((if qs=[]then []else mk qs).length:Nat):Int)then(((if qs=[]then []else mk qs).length:Nat):Int)else 1)=((mk qs).length:Int):=by
    by_cases e:qs=[]
    .subst e;rfl
    .rw[ma e]
     have:=alW qs
     split<;>omega
   rw[hmax]
   have hle:(mk qs).length<=(mk (qs++[x])).length:=by
    rw[hlen]
    by_cases e:qs=[]
    .subst e;simp[mk]
    .rw[ma e];omega
   refine⟨⟨⟨z7,z7⟩,trivial⟩,?_⟩
   rw[mq]
   have hex:s.extract 0 (mk qs).length=S (mk qs):=by
    conv=>lhs;rw[<-S_L s]
    rw[adW,hl,List.drop_zero]
    congr 1
    rw[acC]
    by_cases e:qs=[]
    .subst e;rfl
    .rw[ma e,List.take_left]
   rw[hex]
   exact hsome _ hpar
  .rw[mc (j4 h2)]
   refine hnone ?_
   unfold qw
   cases h:parts (L s)with
   | none=>rfl
   | some ps=>exact mt (vE.2 ⟨ps,h⟩) h2
def base(l:Str):Option Str:=match parts l with | some ps=>ps.getLast? | none=>none
def au9(g:ze ro)(hnone:base (L s)=none->Q (⟨#[]⟩:ZA) 20 I)(hsome:∀ u,base (L s)=some u->Q (S u) 0 I):ahq B ro s I Q:=by
 refine aoF fun hs=>?_
 unfold ahs
 by_cases h1:s=⟨#[47]⟩
 .rw[mc h1]
  unfold aaG
  rw[mc rfl]
  refine hnone ?_
  subst h1;rfl
 .rw[ma h1]
  refine aaj g ?_
  unfold aaG
  by_cases h2:chk (L s)=0
  .rw[ma (j4 h2)]
   obtain⟨ps,hps⟩:=vE.1 h2
   obtain⟨hl,hg⟩:=qZ.1 hps
   have hne:ps≠[]:=fun e=>h1 (uG (by rw[hl,e];try rfl))
   obtain⟨qs,x,rfl⟩:∃ qs x,ps=qs++[x]:=by
    rcases List.eq_nil_or_concat ps with e | ⟨qs,x,e⟩
    .exact mt e hne
    .exact⟨qs,x,by rw[e,List.concat_eq_append]⟩
   have hx:47∉x:=adY (hg.ok x y0)
   have hsz:s.size=(mk (qs++[x])).length:=by rw[<-kF,hl]
   have h128:=hg.len
   refine ap4 z7 ?_
   rw[hl,hsz,auV hx]
   have hbase:base (L s)=some x:=by unfold base;rw[hps];simp
   have hlen:(mk (qs++[x])).length=(if qs=[]then []else mk qs).length+1+x.length:=by rw[acC];simp;omega
   rw[inc _ z7,mq]
   refine⟨⟨trivial,⟨z7,?_⟩⟩,?_⟩
   .show((_:Nat):Int)<=((mk (qs++[x])).length:Int)
    rw[hlen];omega
   have hex:s.extract ((if qs=[]then []else mk qs).length+1) (mk (qs++[x])).length=S x:=by
    conv=>lhs;rw[<-S_L s]
    rw[adW,hl,mD (mR _),acC]
    congr 1
    rw[show(if qs=[]then []else mk qs)++47::x=((if qs=[]then []else mk qs)++[47])++x by simp]
    rw[List.drop_left' y0]
   rw[hex]
   exact hsome _ hbase
  .rw[mc (j4 h2)]
   refine hnone ?_
   unfold base
   cases h:parts (L s)with
   | none=>rfl
   | some ps=>exact mt (vE.2 ⟨ps,h⟩) h2
end Go.Proofs.YtomdigihapdhnaaGreatDoor.Pa
namespace Go.Proofs.YtomdigihapdhnaaGreatDoor.Zt
open Go SL Go.ChangeShapes Go.WideShapes Go.ChangeAt Go.RowKit
variable{W:ZB}
abbrev alX:List (String×DataW Unit):=Rows.storeRepliesUptoRow.laid
def own:ownKnob prog.godebug=none:=j0
def amK:laidOutB prog=true:=j0
def ats{w:ZB}(h:∀ b o,all W b=some o->w.heap[b]?=some o){n:String}{cs:Array Value}(hv:W.var? prog n=some cs):w.var? prog n=some cs:=by
 unfold World.var? at hv⊢
 obtain⟨g,hg,hx⟩:=Option.bind_eq_some_iff.1 hv
 rw[hg]
 show(match w.heap[g]? with | some (.cells cs _ _)=>some cs | _=>none)=_
 cases hh:W.heap[g]? with
 | none=>rw[hh]at hx;cases hx
 | some o=>rw[h g o hh];rw[hh]at hx;exact hx
def axt:prog.globalNamed "internal/strconv.uint64pow10" =some 2:=j0
def axu:prog.underlying 464=some (.int .u64):=j0
def axv:(prog.globals[2]?).map (·.type)=some 545:=j0
def aw6(hsh:W.ShapedOpen prog)(hL:laidMetH prog alX W):Pa.ze (all W):=by
 rw[MakeChecks.laidMetH_plain _ _ _ j0]at hL
 obtain⟨ps,⟨g0,t0,cs0,f0,p0,q0,hg0,ht0,hv0,hd0,⟨g1,t1,cs1,f1,p1,q1,hg1,ht1,hv1,hd1,⟨g2,t2,cs2,f2,p2,q2,hg2,ht2,hv2,hd2,_,_⟩,_⟩,_⟩,_,_⟩:=hL
 have htab:Lib.TabIs prog W "internal/strconv.uint64pow10" .u64 Lib.pow10Tab:=by
  obtain rfl:=mB (axt.symm.trans hg2)
  obtain rfl:=mB (axv.symm.trans ht2)
  unfold Lib.TabIs
  have hd2':DataW.trod _ prog W 0 _ false f2 545 cs2.toList=some (Lib.tabData .u64 Lib.pow10Tab,p2):=hd2
  rw[hv2,<-Lib.cells_of_tab underlying545 axu j0 j0 hd2']
 refine⟨?_,fun w hw=>ats hw htab⟩
 obtain⟨m,hm⟩:=Tryz.laysM146.s1_3 W hsh
 have hm:W.cell? ⟨1,0,none⟩=some (.int .i64 m):=hm
 rw[cell?_eq]at hm
 cases hh:W.heap[1]? with
 | none=>simp only at hm;rw[hh]at hm;cases hm
 | some o=>simp only at hm;rw[hh]at hm;exact⟨m,o,hh,hm⟩
def aoI{H:Type}{enc:TypeId×ZC->H}{t:TypeId}{v:ZC}{d:DataW H}{p:List MemPlace}(h:DataW.Trod enc prog W 0 (fun _=>true) true t v d p):∀ x∈p,x.block<W.heap.size:=by
 obtain⟨m,hm⟩:=h;exact DataW.trod_lt m _ _ _ hm
end Go.Proofs.YtomdigihapdhnaaGreatDoor.Zt
namespace Go.Proofs.YtomdigihapdhnaaGreatDoor.SL
open Go
variable{P:Program}{B:ZB}{ro I I':AH}{tag tag':Nat->Nat}
def akS{β:Type}{q:Question}{f:Nat->Sem β}{Q:β->AH->Prop}(h0:q.forced=true->awp P ro (f 0) Q I)(h1:q.forced=false->∀ n,awp P ro (f (q.cut n)) Q I):awp P ro (Sem.bind (choose q) f) Q I:=by
 show(if q.forced then awp P ro (f 0) Q I else∀n,awp P ro (f (q.cut n)) Q I)
 split
 .rename_i h;exact h0 h
 .rename_i h;exact h1 (j4 h)
def an3{t kt et:TypeId}{r M:Nat}{m:KV}{K:ZC->AH->Prop}(ht:P.underlying t=some (.map kt et))(hm:zW tag I r M m)(hs:Sep ro I)
  (hK:∀ (es:Array MapEntry) (clock x:Nat),I M=some (.map es clock)->es.toList.map aae=m.map afY->amE es clock->ro x=none->I x=none->K (.pointer (some ⟨x,0,none⟩)) (upd I x (.mapIter (some M) clock #[] clock))):
  awp P ro (Instr.range t (.map (some M))) K I:=by
 obtain⟨es,clock,hb,he,hbn⟩:=hm.obj
 unfold Instr.range
 simp only[qy]
 rw[qx ht]
 refine⟨.map es clock,by unfold rd;rw[hs M _ hb];exact hb,rfl,?_⟩
 intro x hro hx
 exact hK es clock x hb he hbn hro hx
def aen{ty:TypeId}{x M clock:Nat}{seen:Array Nat}{es:Array MapEntry}{K:ZC->AH->Prop}(hx:I x=some (.mapIter (some M) clock seen clock))(hm:I M=some (.map es clock))(hs:Sep ro I)(hb:amE es clock)
  (hover:(∀e∈es.toList,seen.contains e.born=true)->K (.tuple #[.bool false]) I)
  (hstep:∀ e∈es.toList,seen.contains e.born=false->K (.tuple #[.bool true,e.key,e.val]) (upd I x (.mapIter (some M) clock (seen.push e.born) clock))):
  awp P ro (Instr.next (.pointer (some ⟨x,0,none⟩)) false ty) K I:=by
 unfold Instr.next
 refine⟨.mapIter (some M) clock seen clock,by unfold rd;rw[hs x _ hx];exact hx,rfl,?_⟩
 refine⟨.map es clock,by unfold rd;rw[hs M _ hm];exact hm,rfl,?_⟩
 have hall:(!seen.isEmpty && !es.isEmpty && es.all fun e=>decide (e.born≥clock))=false:=by
  cases he:es.isEmpty with
  | true=>simp
  | false=>
   have hne:0<es.size:=by
    rcases nh es.size with h | h
    .have:es= #[]:=Array.eq_empty_of_size_eq_zero h
     rw[this]at he;cases he
    .exact h
   have h0:=hb.lt es[0] y0
   have:(es.all fun e=>decide (e.born≥clock))=false:=by
    rw[<-nV,Array.all_eq_true]
    intro h
    have:=h 0 hne
    simp only[mS]at this
    omega
   rw[this];simp
 show awp P ro (if _ then _ else _) K I
 rw[ma (by rw[hall];simp)]
 have hold:((es.filter fun e=> !seen.contains e.born).filter fun e=>decide (e.born<clock))=es.filter fun e=> !seen.contains e.born:=by
  rw[Array.filter_eq_self]
  intro e he
  have:=hb.lt e (by have:=(Array.mem_filter.1 he).1;simpa using this)
  simpa using this
 have hnew:((es.filter fun e=> !seen.contains e.born).filter fun e=>decide (e.born≥clock))= #[]:=by
  rw[Array.filter_eq_empty_iff]
  intro e he
  have:=hb.lt e (by have:=(Array.mem_filter.1 he).1;simpa using this)
  simp;omega
 simp only[hold,hnew,Array.append_empty]
 generalize hleft:(es.filter fun e=> !seen.contains e.born)=left
 have hmem:∀ e,e∈left↔e∈es.toList/\seen.contains e.born=false:=fun e=>by
  rw[<-hleft,Array.mem_filter];simp
 by_cases hemp:left= #[]
 .subst hemp
  have e1:((if(#[]:Array MapEntry).isEmpty=true then(#[none]:Array (Option MapEntry))else #[])++(#[]:Array MapEntry).map some)= #[none]:=by simp
  rw[e1]
  refine akS (fun _=>?_) (fun h=>mt h y1)
  show K (Value.tuple #[.bool false]) I
  refine hover fun e he=>?_
  cases h:seen.contains e.born with
  | true=>rfl
  | false=>exact mt ((hmem e).2 ⟨he,h⟩) y0
 .have hsz:0<left.size:=by
   rcases nh left.size with h | h
   .exact mt (Array.eq_empty_of_size_eq_zero h) hemp
   .exact h
  have hie:left.isEmpty=false:=by simp[Array.isEmpty];omega
  rw[ma (by rw[hie];simp)]
  have hcand:(#[]:Array (Option MapEntry))++left.map some=left.map some:=by simp
  rw[hcand]
  have step:∀ i,i<left.size->awp P ro (match(left.map some)[i]? with
    | some (some e)=>Sem.bind (setObj x (.mapIter (some M) clock (seen.push e.born) clock)) fun _=>Sem.pure (Value.tuple #[.bool true,e.key,e.val])
    | some none=>Sem.pure (Value.tuple #[.bool false])
    | none=>stuck "Next: no such candidate") K I:=fun i hi=>by
   rw[Array.getElem?_map,Array.getElem?_eq_getElem hi]
   simp only[Option.map_some]
   have hin:=(hmem left[i]).1 (Array.getElem_mem hi)
   exact⟨.mapIter (some M) clock seen clock,hx,rfl,hstep left[i] hin.1 hin.2⟩
  refine akS (fun _=>step 0 hsz) (fun _ n=>step _ ?_)
  simp only[Question.cut,Array.size_map]
  exact LX _ hsz
def ajd{x M clock:Nat}{seen:Array Nat}{es:Array MapEntry}{e:MapEntry}{K:ZC->AH->Prop}(hx:I x=some (.mapIter (some M) clock (seen.push e.born) clock))(hm:I M=some (.map es clock))(hs:Sep ro I)(hb:amE es clock)(he:e∈es.toList)
  (hK:K (.tuple #[e.key,e.val]) I):awp P ro (Instr.entry (.pointer (some ⟨x,0,none⟩))) K I:=by
 have hfind:es.find? (·.born == e.born)=some e:=by
  rw[<-Array.find?_toList]
  have hnd:=hb.nd
  have hin:=he
  generalize es.toList=l at hnd hin
  induction l with
  | nil=>cases hin
  | cons y l ih=>
   simp only[mF,nv]at hnd
   rw[List.find?_cons]
   rcases mp.1 hin with h | h
   .rw[h];simp
   .have hne:y.born≠e.born:=fun hh=>hnd.1 (mN.2 ⟨e,h,hh.symm⟩)
    rw[show(y.born == e.born)=false by simpa using hne]
    exact ih hnd.2 h
 unfold Instr.entry
 refine⟨.mapIter (some M) clock (seen.push e.born) clock,by unfold rd;rw[hs x _ hx];exact hx,rfl,?_⟩
 simp only[wL,Array.back?_push]
 refine⟨.map es clock,by unfold rd;rw[hs M _ hm];exact hm,rfl,?_⟩
 show awp P ro (if _ then _ else _) K I
 rw[ma y0]
 show awp P ro (match es.find? (·.born == e.born)with | some e=>_ | none=>_) K I
 rw[hfind]
 exact hK
def aqX{α:Type}{p q:α->Bool}(hpq:∀ a,q a=true->p a=true):∀ (l:List α),(l.filter q).length<=(l.filter p).length:=by
 intro l
 induction l with
 | nil=>exact mR _
 | cons y l ih=>
  rw[List.filter_cons,List.filter_cons]
  split
  .rename_i h;rw[mc (hpq y h)];simp only[mz];omega
  .split
   .simp only[mz];omega
   .exact ih
def aqY{α:Type}{p q:α->Bool}(hpq:∀ a,q a=true->p a=true){e:α}(hp:p e=true)(hq:q e=false):∀ {l:List α},e∈l->(l.filter q).length<(l.filter p).length:=by
 intro l
 induction l with
 | nil=>intro h;cases h
 | cons y l ih=>
  intro h
  rw[List.filter_cons,List.filter_cons]
  rcases mp.1 h with h | h
  .rw[<-h,hp,hq]
   have:=aqX hpq l
   simp only[if_true,mz]
   simp;omega
  .have:=ih h
   split
   .rename_i h1;rw[mc (hpq y h1)];simp only[mz];omega
   .split
    .simp only[mz];omega
    .exact this
def alY(es:Array MapEntry)(seen:Array Nat):Nat:=(es.toList.filter fun e=> !seen.contains e.born).length
def aqZ{es:Array MapEntry}{seen:Array Nat}{e:MapEntry}(he:e∈es.toList)(hn:seen.contains e.born=false):alY es (seen.push e.born)<alY es seen:=by
 unfold alY
 refine aqY (fun a ha=>?_) (e:=e) (by rw[hn];try rfl) (by rw[Array.contains_push];simp) he
 rw[Array.contains_push]at ha
 cases h:seen.contains a.born with
 | true=>rw[h]at ha;simp at ha
 | false=>rfl
def yc{w:Nat}:∀ {l:List (List Value)},(∀x∈l,x.length=w)->l.flatten.length=l.length*w:=by
 intro l
 induction l with
 | nil=>intro _;simp
 | cons x l ih=>intro h;rw[nQ,mA,h x y0,ih fun y hy=>h y (by simp[hy]),mz,Lb];omega
def alb{w:Nat}:∀ {l:List (List Value)},(∀x∈l,x.length=w)->∀ {j:Nat} {x:List Value} {i:Nat},l[j]?=some x->i<w->l.flatten[j*w+i]?=x[i]?:=by
 intro l
 induction l with
 | nil=>intro _ j x i h;cases h
 | cons y l ih=>
  intro h j x i hj hi
  rw[nQ]
  have hy:=h y y0
  rcases j with _ | j
  .cases hj
   rw[Pk,ml,mQ z7]
  .rw[mU (by rw[hy,Lb];omega),hy,show(j+1)*w+i - w=j*w+i by rw[Lb];omega]
   exact ih (fun z hz=>h z (by simp[hz])) (j4 hj) hi
def att{w:Nat}:∀ {l:List (List Value)},(∀x∈l,x.length=w)->∀ {j:Nat} {x:List Value} {i:Nat} (v:ZC),l[j]?=some x->i<w->l.flatten.set (j*w+i) v=(l.set j (x.set i v)).flatten:=by
 intro l
 induction l with
 | nil=>intro _ j x i v h;cases h
 | cons y l ih=>
  intro h j x i v hj hi
  have hy:=h y y0
  rcases j with _ | j
  .cases hj
   rw[nQ,Pk,ml,List.set_append_left _ _ z7];try rfl
  .rw[nQ,List.set_append_right _ _ (by rw[hy,Lb];omega),hy,show(j+1)*w+i - w=j*w+i by rw[Lb];omega,ih (fun z hz=>h z (by simp[hz])) v (j4 hj) hi]
   try rfl
def ql(tag:Nat->Nat)(I:AH)(r:Nat)(e:TypeId)(w:Nat)(s:Sl)(l:List (List Value)):Prop:=
 (s=⟨none,0,0⟩/\l=[])\/∃ (b:Nat) (cs:Array Value),s.a=some ⟨b,0,none⟩/\tag b=r/\I b=some (.cells cs e)/\s.len=l.length/\cs.size=s.cap*w/\s.len<=s.cap/\(∀x∈l,x.length=w)/\∀ (i:Nat) (v:ZC),l.flatten[i]?=some v->cs[i]?=some v
def ql.nil(r:Nat)(e:TypeId)(w:Nat):ql tag I r e w ⟨none,0,0⟩ []:= .inl ⟨rfl,rfl⟩
def ql.len{r:Nat}{e:TypeId}{w:Nat}{s:Sl}{l:List (List Value)}(h:ql tag I r e w s l):s.len=l.length:=by
 rcases h with⟨rfl,rfl⟩ | ⟨b,cs,_,_,_,h,_⟩
 .rfl
 .exact h
def ql.cap{r:Nat}{e:TypeId}{w:Nat}{s:Sl}{l:List (List Value)}(h:ql tag I r e w s l):s.len<=s.cap:=by
 rcases h with⟨rfl,rfl⟩ | ⟨b,cs,_,_,_,_,_,h,_⟩
 .exact mR _
 .exact h
def ql.wide{r:Nat}{e:TypeId}{w:Nat}{s:Sl}{l:List (List Value)}(h:ql tag I r e w s l):∀ x∈l,x.length=w:=by
 rcases h with⟨rfl,rfl⟩ | ⟨b,cs,_,_,_,_,_,_,h,_⟩
 .intro x hx;cases hx
 .exact h
def ql.keep{R:List Nat}{r:Nat}{e:TypeId}{w:Nat}{s:Sl}{l:List (List Value)}(h:ql tag I r e w s l)(k:qd R ro tag I tag' I')(hr:r∉R:=by simp):ql tag' I' r e w s l:=by
 rcases h with h | ⟨b,cs,ha,ht,hs,hx⟩
 .exact .inl h
 .obtain⟨t,e⟩:=k.keep b _ hs (by rw[ht];exact hr)
  exact .inr ⟨b,cs,ha,t.trans ht,e,hx⟩
def ql.keepC{c r:Nat}{e:TypeId}{w:Nat}{s:Sl}{l:List (List Value)}(h:ql tag I r e w s l)(k:zK c ro tag I tag' I')(hr:r%64≠c:=by decide):ql tag' I' r e w s l:=by
 obtain⟨R,h1,h2⟩:=k
 exact h.keep h2 fun m=>hr (h1 _ m)
def ql.get{r:Nat}{e:TypeId}{w:Nat}{s:Sl}{l:List (List Value)}(h:ql tag I r e w s l)(hs:Sep ro I){j:Nat}{x:List Value}(hj:l[j]?=some x):
  ∃b,s.a=some ⟨b,0,none⟩/\tag b=r/\∀ i v,x[i]?=some v->qa ro I ⟨b,j*w+i,none⟩=some v:=by
 rcases h with⟨_,rfl⟩ | ⟨b,cs,ha,ht,hb,hln,hc,hle,hw,hg⟩
 .cases hj
 .refine⟨b,ha,ht,fun i v hv=>?_⟩
  have hx:x.length=w:=hw x (mW hj)
  have hi:i<w:=by
   rcases mM i w with h | h
   .exact h
   .rw[mG z7]at hv;cases hv
  have:=hg (j*w+i) v (by rw[alb hw hj hi];exact hv)
  unfold qa rd
  simp only[hs b _ hb,hb,zF]
  exact this
def ql.st{r:Nat}{e:TypeId}{w:Nat}{s:Sl}{l:List (List Value)}{b j i:Nat}{x:List Value}{v:ZC}{K:AH->Prop}(h:ql tag I r e w s l)(hs:Sep ro I)(ha:s.a=some ⟨b,0,none⟩)(hj:l[j]?=some x)(hi:i<w)(hv:qg v=true)
  (hK:∀ I',qd [r] ro tag I tag I'->ql tag I' r e w s (l.set j (x.set i v))->K I'):stN ⟨b,j*w+i,none⟩ K [v] 0 I:=by
 rcases h with⟨_,rfl⟩ | ⟨b',cs,ha',ht,hb,hln,hc,hle,hw,hg⟩
 .cases hj
 .rw[ha]at ha';cases ha'
  have hjl:j<l.length:=by
   rcases mM j l.length with h | h
   .exact h
   .rw[mG h]at hj;cases hj
  have hlt:j*w+i<cs.size:=by
   rw[hc]
   have:(j+1)*w<=s.cap*w:=Nat.mul_le_mul_right _ z7
   rw[Lb]at this;omega
  have hfl:=yc hw
  have hfi:j*w+i<l.flatten.length:=by
   rw[hfl]
   have:(j+1)*w<=l.length*w:=Nat.mul_le_mul_right _ z7
   rw[Lb]at this;omega
  refine⟨hv,y0,cs,e,(0,0),j4 hb,j4 hlt,y0,?_⟩
  simp only[ak7,stN]
  refine hK _ (kJ hs ht hb) (.inr ⟨b,_,ha,ht,qE _ _ _,by simp[hln],by simp[hc],hle,?_,?_⟩)
  .intro y hy
   rcases List.mem_or_eq_of_mem_set hy with h | h
   .exact hw y h
   .rw[h,List.length_set];exact hw x (mW hj)
  .intro k u hk
   rw[<-att hw v hj hi]at hk
   by_cases hkj:j*w+i=k
   .subst hkj
    rw[List.getElem?_set_self hfi]at hk
    rw[Array.getElem?_setIfInBounds_self_of_lt hlt];exact hk
   .rw[List.getElem?_set_ne hkj]at hk
    rw[Array.getElem?_setIfInBounds_ne hkj];exact hg k u hk
def vt(ro I:AH)(w:Nat)(s:Sl)(l:List (List Value)):Prop:=s.len=l.length/\(s.a=none->l=[])/\(∀x∈l,x.length=w)/\∀ p,s.a=some p->∀ (i:Nat) (v:ZC),l.flatten[i]?=some v->qa ro I (p.add i)=some v
def ql.read{r:Nat}{e:TypeId}{w:Nat}{s:Sl}{l:List (List Value)}(h:ql tag I r e w s l)(hs:Sep ro I):vt ro I w s l:=by
 refine⟨h.len,fun hn=>?_,h.wide,fun p hp i v hv=>?_⟩
 .rcases h with⟨_,rfl⟩ | ⟨b,cs,ha,_⟩
  .rfl
  .rw[hn]at ha;cases ha
 .rcases h with⟨_,rfl⟩ | ⟨b,cs,ha,ht,hb,_,_,_,_,hg⟩
  .cases hv
  .rw[hp]at ha;cases ha
   unfold qa rd
   simp only[vq,ml,hs b _ hb,hb,zF]
   exact hg i v hv
def vt.flat{w:Nat}{s:Sl}{l:List (List Value)}(h:vt ro I w s l):l.flatten.length=s.len*w:=by rw[yc h.2.2.1,h.1]
def vt.keep{w:Nat}{s:Sl}{l:List (List Value)}(h:vt ro (fun _=>none) w s l):vt ro I w s l:=by
 refine⟨h.1,h.2.1,h.2.2.1,fun p hp i v hv=>?_⟩
 have:=h.2.2.2 p hp i v hv
 unfold qa rd at this⊢
 cases e:ro (p.add i).block with
 | some o=>rw[e]at this;exact this
 | none=>rw[e]at this;simp[zF]at this
def vt.step{w:Nat}{s:Sl}{l:List (List Value)}(h:vt ro I w s l)(k:qd [] ro tag I tag' I'):vt ro I' w s l:=by
 refine⟨h.1,h.2.1,h.2.2.1,fun p hp i v hv=>?_⟩
 have:=h.2.2.2 p hp i v hv
 unfold qa rd at this⊢
 cases e:ro (p.add i).block with
 | some o=>rw[e]at this;exact this
 | none=>
  rw[e]at this
  simp only at this⊢
  cases e2:I (p.add i).block with
  | none=>rw[e2]at this;simp[zF]at this
  | some o=>rw[(k.keep _ o e2 y0).2];rw[e2]at this;exact this
def jn{r:Nat}{e t:TypeId}{w:Nat}{s s2:Sl}{l l2:List (List Value)}{zv:ZC}{bytes:Nat}{ty:TypeId}{Q:ZC->AH->Prop}(h:ql tag I r e w s l)(hs:Sep ro I)(h2:vt ro I w s2 l2)
  (ht:P.underlying t=some (.slice e)) (hz:qp P e zv w bytes) (hzc:zv.cells.size=w) (hv:∀ x∈l2,∀v∈x,qg v=true) (hb:(l.length+l2.length)*bytes<=140737488355328) (hb0:0<bytes)
  (hK:∀ s' tag' I',(∀R,s.len=s.cap\/r∈R->qd R ro tag I tag' I')->ql tag' I' r e w s' (l++l2)->Q (Sl.v s') I'):
  awp P ro (Builtin.append_ #[t,t] ty #[Sl.v s,Sl.v s2]) Q I:=by
 obtain⟨i,hi,hiz,his,hib⟩:=hz
 have hz:qp P e zv w bytes:=⟨i,hi,hiz,his,hib⟩
 have g0:(#[t,t]:Array TypeId)[0]?=some t:=rfl
 have g1:(#[t,t]:Array TypeId)[1]?=some t:=rfl
 have g2:(#[Value.slice s.a s.len s.cap,Value.slice s2.a s2.len s2.cap]:Array Value)[0]?=some (Value.slice s.a s.len s.cap):=rfl
 have g3:(#[Value.slice s.a s.len s.cap,Value.slice s2.a s2.len s2.cap]:Array Value)[1]?=some (Value.slice s2.a s2.len s2.cap):=rfl
 have hln:=h2.1
 have hfl2:=h2.flat
 have hvf:∀ v∈l2.flatten,qg v=true:=fun v hm=>by
  obtain⟨x,hx,hm⟩:=List.mem_flatten.1 hm
  exact hv x hx v hm
 have hld:∀ {β:Type} (f:Array Value->Sem β) (Q:β->AH->Prop),awp P ro (f l2.flatten.toArray) Q I->awp P ro (Sem.bind (Builtin.firstCells w s2.len (.slice s2.a s2.len s2.cap)) f) Q I:=by
  intro β f Q hf
  cases hsa:s2.a with
  | none=>
   rw[h2.2.1 hsa]at hf
   exact hf
  | some p=>
   rw[show Sem.bind (Builtin.firstCells w s2.len (.slice (some p) s2.len s2.cap)) f=(loadCells p (s2.len*w)) >>= f from rfl,vL,<-hfl2]
   exact jI l2.flatten 0 #[] (zx 0 fun j v hj=>by rw[ml];exact h2.2.2.2 p hsa j v hj) (j4 hf)
 have hfs:∀ {β:Type} (f:Array Value->Sem β) (Q:β->AH->Prop),awp P ro (f l.flatten.toArray) Q I->awp P ro (Sem.bind (Builtin.firstCells w s.len (.slice s.a s.len s.cap)) f) Q I:=by
  intro β f Q hf
  have hr:=h.read hs
  cases hsa:s.a with
  | none=>
   rw[hr.2.1 hsa]at hf
   exact hf
  | some p=>
   rw[show Sem.bind (Builtin.firstCells w s.len (.slice (some p) s.len s.cap)) f=(loadCells p (s.len*w)) >>= f from rfl,vL,<-hr.flat]
   exact jI l.flatten 0 #[] (zx 0 fun j v hj=>by rw[ml];exact hr.2.2.2 p hsa j v hj) (j4 hf)
 have hwide:∀ x∈l++l2,x.length=w:=fun x hx=>by
  rcases mv.1 hx with h' | h'
  .exact h.wide x h'
  .exact h2.2.2.1 x h'
 have hfl:=yc h.wide
 unfold Builtin.append_
 simp only[Sl.v,qy,qS,g0,g1,g2,g3]
 rw[qx ht]
 simp only[]
 rw[aeH hz]
 rw[qx ht]
 simp only[wL,Builtin.lenOf,qy,qS,Bool.false_eq_true,if_false,Bool.not_false,if_true,false_or]
 split
 .rename_i hroom
  refine hld _ _ ?_
  rcases h with⟨rfl,rfl⟩ | ⟨b,cs,ha,htg,hbk,hln1,hcp,hle,hwl,hg⟩
  .have h0:l2=[]:=nb (by simp at hroom;omega)
   subst h0
   have hs2:s2.len=0:=hln
   show Q (.slice none (0+s2.len) 0) I
   rw[hs2]
   exact hK ⟨none,0,0⟩ tag I (fun _ _=>qd.refl hs) (.inl ⟨rfl,rfl⟩)
  .have h':ql tag I r e w s l:= .inr ⟨b,cs,ha,htg,hbk,hln1,hcp,hle,hwl,hg⟩
   by_cases h0:l2=[]
   .subst h0
    have hs2:s2.len=0:=hln
    simp only[ha]
    show Q (Value.slice (some ⟨b,0,none⟩) (s.len+s2.len) s.cap) I
    rw[hs2,Nat.add_zero]
    have:=hK s tag I (fun _ _=>qd.refl hs) (by rw[nk];exact h')
    unfold Sl.v at this
    rw[ha]at this;exact this
   have hpos:=nI.2 h0
   simp only[ha]
   show awp P ro (storeCells (Addr.add ⟨b,0,none⟩ (s.len*w)) l2.flatten >>= fun _=>Sem.pure (Value.slice (some ⟨b,0,none⟩) (s.len+s2.len) s.cap)) Q I
   rw[vL,vq,ml]
   have hcm:(s.len+s2.len)*w<=s.cap*w:=Nat.mul_le_mul_right _ hroom
   rw[Lb]at hcm
   refine jY l2.flatten 0 I (age l2.flatten cs 0 I hbk (by rw[hcp,hfl2];omega) hvf fun cs' c1 c2 c3=>?_)
   show Q (Value.slice (some ⟨b,0,none⟩) (s.len+s2.len) s.cap) _
   refine hK ⟨some ⟨b,0,none⟩,s.len+s2.len,s.cap⟩ tag _ (fun R hR=>(kJ hs htg hbk).mono fun x hx=>by rw[mr]at hx;rw[hx];exact hR.resolve_left z7) (.inr ⟨b,cs',rfl,htg,qE _ _ _,by simp[hln1,hln],by rw[c1];exact hcp,hroom,hwide,fun i v hi=>?_⟩)
   rw[List.flatten_append]at hi
   rcases mM i l.flatten.length with hh | hh
   .rw[mQ hh]at hi
    rw[c2 i (by rw[hfl,<-hln1]at hh;omega)];exact hg i v hi
   .rw[mU hh]at hi
    have:=c3 (i - l.flatten.length) v hi
    rw[<-this]
    congr 1;rw[hfl,<-hln1]at hh ⊢;omega
 .rename_i hroom
  rw[vY hi]
  rw[ma (by rw[hib];omega)]
  rw[vY hi]
  have hl:=h.len
  rw[ma (by rw[hib];have:=growslice_fits (need:=s.len+s2.len) (old:=s.cap) (bytes:=bytes) z7 (by rw[hl,hln];exact hb);omega)]
  refine afX rfl (fun n=>?_)
  rw[vY hi]
  refine ahk ?_
  have hcut:s.len+s2.len<=(Question.appendCap (s.len+s2.len) s.cap e).cut n:=by simp only[Question.cut];omega
  generalize (Question.appendCap (s.len+s2.len) s.cap e).cut n=N at hcut
  refine hfs _ _ ?_
  refine hld _ _ ?_
  rw[ab0 hz]
  show∀b,ro b=none->I b=none->Q (Value.slice (some ⟨b,0,none⟩) (s.len+s2.len) N) (upd I b _)
  intro b hro hb
  refine hK ⟨some ⟨b,0,none⟩,s.len+s2.len,N⟩ (setTag tag b r) _ (fun _ _=>qd.fresh hs hro hb) (.inr ⟨b,_,rfl,by simp[setTag],qE _ _ _,by simp[hl,hln],?_,hcut,hwide,fun i v hi=>?_⟩)
  .have e1:(Builtin.zeroCells zv.cells (N - (s.len+s2.len))).size=(N - (s.len+s2.len))*w:=by simp[Builtin.zeroCells,hzc]
   rw[Array.size_append,Array.size_append,e1,List.size_toArray,List.size_toArray,hfl2,hfl,<-hl,<-Lb,<-Lb]
   congr 1;simp only;omega
  .rw[List.flatten_append]at hi
   have hlt:i<(l.flatten++l2.flatten).length:=by
    rcases mM i (l.flatten++l2.flatten).length with h | h
    .exact h
    .rw[mG h]at hi;cases hi
   rw[Array.getElem?_append_left (j4 hlt)]
   simpa using hi