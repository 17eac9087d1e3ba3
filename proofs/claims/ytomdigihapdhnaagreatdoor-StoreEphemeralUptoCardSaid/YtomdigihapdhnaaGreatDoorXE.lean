import Derived.Shelf.Strings.Builder1
import Derived.Shelf.Strings.Builder2
import Derived.Shelf.Small.Bits
import Derived.Shelf.Strings.BuilderF
import Derived.Shelf.Utf8.RuneCount
import Derived.Shelf.Strconv.Itoa0
import Derived.Shelf.Strconv.Itoa1
import Derived.Shelf.LaysM
import Derived.Shelf.Strconv.Itoa2
import Derived.Shelf.Strconv.Itoa3
import Derived.Shelf.Bytes.GrowSliceCatch
import Derived.Shelf.Bytes.GrowSlice
import Derived.Shelf.Strings.Search1
import Derived.Shelf.Strings.Search2
import Derived.Shelf.Strings.Search3
import Derived.Shelf.Strings.Count
import Derived.Shelf.Strings.Shaped
import Derived.Shelf.Strings.Prefix
import Derived.Shelf.Strings.Split
import Derived.Shelf.Strings.SplitShaped
import Derived.Shelf.Unicode.Decode
import Derived.Shelf.Strings.RuneCount
import Derived.Shelf.Strings.Explode
import Derived.Shelf.Bits.Mul64
import Derived.Shelf.Strings.Repeat
import Derived.Shelf.Unicode.DecodeSlow
import Derived.Shelf.Unicode.DecodeAny
import Derived.Ground.Names2Prog
import Derived.Shelf.Slices.Clone
import Derived.Shelf.Slices.SearchI
import Derived.Ground.SlgnProg
import Derived.Shelf.SlicesE.Clone
import Derived.Ground.SlgmProg
import Derived.Shelf.SortM.Plain
import Derived.Shelf.SortM.SortNone
import Derived.Shelf.SlIter.Nil
import Derived.Ground.GgzProg
import Derived.Laws.RangeString
import Derived.Test.YtomdigihapdhnaaGreatDoorProg
import Derived.Test.YtomdigihapdhnaaGreatDoorXD
set_option linter.all false
set_option maxRecDepth 99999
set_option maxHeartbeats 0
open Go.IntKind(i64)
open Go.Proofs.Tryz
namespace Go.Proofs.YtomdigihapdhnaaGreatDoor.G
open Go SL
variable{B:World}{ro I:AH}
def acI(B:World)(ro:AH)(a0:ByteArray)(I:AH)(Q:ByteArray->Int->AH->Prop):=
 vA B ro a0 I fun u0 u1 I=>
 if(u0.len:Int)=0 then
 Q (⟨#[]⟩:ByteArray) u1 I
 else
 ∃p2,u0.a=some p2/\(0:Int)<=0/\0<(u0.len:Int)/\
 ∃u3,qa ro I (p2.add (Int.toNat 0*1))=some (.string u3)/\
 Q u3 0 I
theorem af3{a0 Q}(h:Sep ro I->acI B ro a0 I Q):po B ro a0 I Q:=by
 refine zb h func81 ntmps81 fun h=>?_;unfold acI at h;refine zc func134 h ?_;rintro v I ⟨u0,u1,rfl,h⟩;refine zw ?_;refine AW.seq ?_;refine zw ?_;refine zm (qA rfl rfl mv rfl rfl) ?_;refine zi h (fun h=>?_) fun h=>?_
 .exact zrr h
 refine zw ?_;obtain⟨p2,ha,h0,h1,h⟩:=h
 refine zm (zP rfl mv ty9 (ixL rfl ha) rfl h0 h1) ?_;refine zL mj h fun u3 h=>?_;exact zrr h
def af4(B:World)(ro:AH)(a0:ByteArray)(I:AH)(Q:Int->AH->Prop):=
 vA B ro a0 I fun u0 u1 I=>
 Q u1 I
theorem am3{a0 Q}(h:Sep ro I->af4 B ro a0 I Q):vz B ro a0 I Q:=by
 refine zb h func82 ntmps82 fun h=>?_;unfold af4 at h;refine zc func134 h ?_;rintro v I ⟨u0,u1,rfl,h⟩;exact zr h
def aba(B:World)(ro:AH)(Q:Bool->Int->AH->Prop)(u0:Bool)(I:AH):=
 Q u0 0 I
def uq(B:World)(ro:AH)(a0 a1:ByteArray)(Q:Bool->Int->AH->Prop)(u0:Bool)(I:AH):=
 if u0=true then
 Q false 20 I
 else
 if(a0=(⟨#[47]⟩:ByteArray))\/(a1=a0)then
 aba B ro Q true I
 else
 a0.size+(⟨#[47]⟩:ByteArray).size<=9223372036854775807/\
 pZ B ro a1 (a0++(⟨#[47]⟩:ByteArray)) I fun u1 I=>
 aba B ro Q u1 I
def af5(B:World)(ro:AH)(a0 a1:ByteArray)(I:AH)(Q:Bool->Int->AH->Prop):=
 vz B ro a0 I fun u0 I=>
 if¬(u0=0)then
 uq B ro a0 a1 Q true I
 else
 vz B ro a1 I fun u1 I=>
 uq B ro a0 a1 Q (!(decide (u1=0))) I
theorem am4{a0 a1 Q}(h:Sep ro I->af5 B ro a0 a1 I Q):afZ B ro a0 a1 I Q:=by
 refine zb h func86 ntmps86 fun h=>?_;unfold af5 at h;refine zw ?_;refine AW.seq ?_;refine zC func82 h fun u0 I h=>?_;refine qE 4 (!(decide (u0=0))) (qp me) h (fun fr I=> ∃(u1:Bool),ql [(0,.string a0),(1,.string a1),(13,.bool u1)] fr/\uq B ro a0 a1 Q u1 I) ?_ ?_ ?_
 .intro h e3 hk3;refine zv e3 ?_;exact hk3 _ _ ⟨_,FL,h⟩
 .intro h e3 hk3;refine zy e3 ?_;refine Lyb rfl rfl rfl rfl e3 (xp rfl func82 rfl rfl rfl (qc.mono h ?_))
  rintro v I ⟨u2,rfl,h⟩;refine zv e3 ?_;exact hk3 _ _ ⟨_,FL,h⟩
 rintro fr I ⟨u1,hl,h⟩;unfold uq at h;refine Lfr hl ?_
 refine zj h (fun h=>?_) fun h=>?_
 .exact zrr h
 refine zw ?_;refine wx 4 (decide (a0=(⟨#[47]⟩:ByteArray))) [(0,.string a0),(1,.string a1),(20,.bool ((decide (a0=(⟨#[47]⟩:ByteArray))) || (decide (a1=a0))))] ?_ ?_ ?_
 .intro e2 hk2
  refine zv e2 ?_;exact hk2 _ (Fe e2)
 .intro e2 hk2
  refine zv e2 ?_;exact hk2 _ (Fe e2)
 intro fr hl
 refine Lfr hl ?_
 refine zw ?_;refine qE 5 ((decide (a0=(⟨#[47]⟩:ByteArray))) || (decide (a1=a0))) (wS me me) h (fun fr I=> ∃(u3:Bool),ql [(26,.bool u3)] fr/\aba B ro Q u3 I) ?_ ?_ ?_
 .intro h e7 hk7;refine zv e7 ?_;exact hk7 _ _ ⟨_,FL,h⟩
 .intro h e7 hk7;refine zv e7 ?_;obtain⟨hc,h⟩:=h
  refine qH (ak2 rfl rfl rfl hc) rfl rfl rfl rfl e7 ?_
  refine Lyb rfl rfl rfl rfl e7 (xp rfl func138 rfl rfl rfl (qc.mono h ?_))
  rintro v I ⟨u4,rfl,h⟩;refine zk e7 ?_;exact hk7 _ _ ⟨_,FL,h⟩
 rintro fr I ⟨u3,hl,h⟩;unfold aba at h;refine Lfr hl ?_
 exact zrr h
def af6(B:World)(ro:AH)(Q:Bool->AH->Prop)(I:AH):=
 Q true I
def xt(B:World)(ro:AH)(p0:Addr)(Q:Bool->AH->Prop)(Y3:(Unit)->AH->Prop)(u1:Bool)(I:AH):=
 if u1=true then
 Y3 () I
 else
 Q false I
def pM(B:World)(ro:AH)(p0:Addr)(Q:Bool->AH->Prop):(Unit)->AH->((Unit)->AH->Prop)->Prop:=fun _ I Y3=>
 awp prog ro (Instr.next (.pointer (some p0)) true 0) (fun v I=>
 (v= .tuple #[.bool false]/\
  af6 B ro Q I)\/
 (∃(u1:Int) (u2:Int),v= .tuple #[.bool true,.int .i64 u1,.int .i32 u2]/\
  if(97<=u2)/\(u2<=122)then
  xt B ro p0 Q Y3 ((decide (97<=u2)) && (decide (u2<=122))) I
  else
  if(48<=u2)/\(u2<=57)then
  xt B ro p0 Q Y3 ((decide (48<=u2)) && (decide (u2<=57))) I
  else
  if u2=46 then
  xt B ro p0 Q Y3 (decide (u2=46)) I
  else
  if u2=95 then
  xt B ro p0 Q Y3 (decide (u2=95)) I
  else
  xt B ro p0 Q Y3 (decide (u2=45)) I)) I
def agY(B:World)(ro:AH)(a0:ByteArray)(I:AH)(Q:Bool->AH->Prop):=
 if(((a0=(⟨#[]⟩:ByteArray))\/(32<(a0.size:Int)))\/(a0=(⟨#[46]⟩:ByteArray)))\/(a0=(⟨#[46,46]⟩:ByteArray))then
 Q false I
 else
 awp prog ro (Instr.range 9 (.string a0)) (fun v I=>
 (∃(p0:Addr),v= .pointer (some p0)/\
  lfpD (pM B ro p0 Q) () I)) I
theorem anH{a0 Q}(h:Sep ro I->agY B ro a0 I Q):pq B ro a0 I Q:=by
 refine zb h func99 ntmps99 fun h=>?_;unfold agY at h;refine zw ?_;refine AW.seq ?_;refine zw ?_;refine wx 4 (decide (a0=(⟨#[]⟩:ByteArray))) [(0,.string a0),(11,.bool ((decide (a0=(⟨#[]⟩:ByteArray))) || (decide (32<(a0.size:Int)))))] ?_ ?_ ?_
 .intro e2 hk2
  refine zv e2 ?_;exact hk2 _ (Fe e2)
 .intro e2 hk2
  refine zy e2 ?_;refine qH (jM rfl rfl mj rfl rfl) rfl rfl rfl rfl e2 ?_
  refine zv e2 ?_;exact hk2 _ (Fe e2)
 intro fr hl
 refine Lfr hl ?_
 refine zw ?_;refine wx 3 ((decide (a0=(⟨#[]⟩:ByteArray))) || (decide (32<(a0.size:Int)))) [(0,.string a0),(15,.bool (((decide (a0=(⟨#[]⟩:ByteArray))) || (decide (32<(a0.size:Int)))) || (decide (a0=(⟨#[46]⟩:ByteArray)))))] ?_ ?_ ?_
 .intro e7 hk7
  refine zv e7 ?_;exact hk7 _ (Fe e7)
 .intro e7 hk7
  refine zv e7 ?_;exact hk7 _ (Fe e7)
 intro fr hl
 refine Lfr hl ?_
 refine zw ?_;refine wx 3 (((decide (a0=(⟨#[]⟩:ByteArray))) || (decide (32<(a0.size:Int)))) || (decide (a0=(⟨#[46]⟩:ByteArray)))) [(0,.string a0),(19,.bool ((((decide (a0=(⟨#[]⟩:ByteArray))) || (decide (32<(a0.size:Int)))) || (decide (a0=(⟨#[46]⟩:ByteArray)))) || (decide (a0=(⟨#[46,46]⟩:ByteArray)))))] ?_ ?_ ?_
 .intro e11 hk11
  refine zv e11 ?_;exact hk11 _ (Fe e11)
 .intro e11 hk11
  refine zv e11 ?_;exact hk11 _ (Fe e11)
 intro fr hl
 refine Lfr hl ?_
 refine zw ?_;refine AW.iff rfl (wS (wS (wS me me) me) me) h (fun h=>?_) (fun h=>?_)
 .exact zr h
 refine zw ?_;refine AW.seqJ (fun fr I=>ql [] fr/\af6 B ro Q I) ?_ ?_
 .rintro fr I ⟨hl,h⟩;refine AW.weaken ?_ hl (HLe.refl _)
  unfold af6 at h;exact zr h
 refine zw ?_;refine zl (anr rfl rfl (qj _ h ?_))
 rintro v I ⟨p0,rfl,h⟩;refine zw ?_;refine qi.loop (fr':=[(21,.pointer (some p0))]) ?_ FL
 refine h (fun _ I=>qi _ _ _ _ _ _ [(21,.pointer (some p0))] I) ?_
 rintro _ I Y3 hY3 h
 show AW _ _ _ _ _ _ _ _
 unfold pM at h;refine zw ?_;refine zl (ans rfl rfl rfl (qj _ h ?_))
 rintro v I (⟨rfl,h⟩ | ⟨u1,u2,rfl,h⟩)
 .refine zw ?_;refine AW.seq ?_;refine AW.no rfl ?_;refine AW.exit ?_;refine zw ?_;refine qT ?_
  refine zw ?_;exact⟨FL,h⟩
 .refine zw ?_;refine AW.seq ?_;refine AW.yes rfl ?_;refine zw ?_;refine AW.seqJ (fun fr I=> ∃(u3:Bool),ql [(21,.pointer (some p0)),(25,.bool u3)] fr/\xt B ro p0 Q Y3 u3 I) ?_ ?_
  .rintro fr I ⟨u3,hl,h⟩;refine AW.weaken ?_ hl (HLe.refl _)
   unfold xt at h;refine zj h (fun h=>?_) fun h=>?_
   .refine zw ?_;refine qi.head (fr':=[(21,.pointer (some p0))]) ?_ FL
    exact hY3 _ _ h
   exact zr h
  refine zw ?_;refine wx 3 (decide (97<=u2)) [(4,.int .i32 u2),(21,.pointer (some p0)),(31,.bool ((decide (97<=u2)) && (decide (u2<=122))))] ?_ ?_ ?_
  .intro e2 hk2
   refine zv e2 ?_;exact hk2 _ (Fe e2)
  .intro e2 hk2
   refine zv e2 ?_;exact hk2 _ (Fe e2)
  intro fr hl
  refine Lfr hl ?_
  refine zw ?_;refine AW.iff rfl (abJ me me) h (fun h=>?_) (fun h=>?_)
  .refine zw ?_;exact⟨_,FL,h⟩
  refine zw ?_;refine wx 3 (decide (48<=u2)) [(4,.int .i32 u2),(21,.pointer (some p0)),(37,.bool ((decide (48<=u2)) && (decide (u2<=57))))] ?_ ?_ ?_
  .intro e2 hk2
   refine zv e2 ?_;exact hk2 _ (Fe e2)
  .intro e2 hk2
   refine zv e2 ?_;exact hk2 _ (Fe e2)
  intro fr hl
  refine Lfr hl ?_
  refine zw ?_;refine AW.iff rfl (abJ me me) h (fun h=>?_) (fun h=>?_)
  .refine zw ?_;exact⟨_,FL,h⟩
  refine zi h (fun h=>?_) fun h=>?_
  .refine zw ?_;exact⟨_,FL,h⟩
  refine zi h (fun h=>?_) fun h=>?_
  .refine zw ?_;exact⟨_,FL,h⟩
  refine zw ?_;exact⟨_,FL,h⟩
def acV(B:World)(ro:AH)(u0:Sl)(Q:Sl->Int->AH->Prop)(I:AH):=
 Q u0 0 I
def abb(B:World)(ro:AH)(u0:Sl)(Q:Sl->Int->AH->Prop):Int->AH->(Int->AH->Prop)->Prop:=fun u1 I Y5=>
 if u1<(u0.len:Int)then
 ∃p2,u0.a=some p2/\(0:Int)<=u1/\u1<(u0.len:Int)/\
 ∃u3,qa ro I (p2.add (Int.toNat u1*1))=some (.string u3)/\
 pq B ro u3 I fun u4 I=>
 if¬(u4=true)then
  Q (⟨none,0,0⟩:Sl) 20 I
 else
 Y5 (i64.wrap (u1+1)) I
 else
 acV B ro u0 Q I
def ur(B:World)(ro:AH)(a0:ByteArray)(Q:Sl->Int->AH->Prop)(u0:Bool)(I:AH):=
 if u0=true then
 Q (⟨none,0,0⟩:Sl) 20 I
 else
 cutOk (some 1) none a0.size a0.size/\
 agE B ro (a0.extract (Int.toNat 1) (a0.size)) (⟨#[47]⟩:ByteArray) I fun u1 I=>
 if 8<(u1.len:Int)then
 Q (⟨none,0,0⟩:Sl) 20 I
 else
 lfpD (abb B ro u1 Q) (0) I
def af7(B:World)(ro:AH)(a0:ByteArray)(I:AH)(Q:Sl->Int->AH->Prop):=
 if a0=(⟨#[47]⟩:ByteArray)then
 Q (⟨none,0,0⟩:Sl) 0 I
 else
 if 128<(a0.size:Int)then
 ur B ro a0 Q true I
 else
 pZ B ro a0 (⟨#[47]⟩:ByteArray) I fun u0 I=>
 ur B ro a0 Q (!u0) I
theorem am5{a0 Q}(h:Sep ro I->af7 B ro a0 I Q):vA B ro a0 I Q:=by
 refine zb h func134 ntmps134 fun h=>?_;unfold af7 at h;refine zw ?_;refine AW.seq ?_;refine zi h (fun h=>?_) fun h=>?_
 .exact zrr h
 refine zw ?_;refine AW.seq ?_;refine zw ?_;refine zm (jM rfl rfl mj rfl rfl) ?_;refine zw ?_;refine qE 4 (decide (128<(a0.size:Int))) me h (fun fr I=> ∃(u0:Bool),ql [(0,.string a0),(16,.bool u0)] fr/\ur B ro a0 Q u0 I) ?_ ?_ ?_
 .intro h e3 hk3;refine zv e3 ?_;exact hk3 _ _ ⟨_,FL,h⟩
 .intro h e3 hk3;refine zy e3 ?_;refine Lyb rfl rfl rfl rfl e3 (xp rfl func138 rfl rfl rfl (qc.mono h ?_))
  rintro v I ⟨u1,rfl,h⟩;refine zv e3 ?_;exact hk3 _ _ ⟨_,FL,h⟩
 rintro fr I ⟨u0,hl,h⟩;unfold ur at h;refine Lfr hl ?_
 refine zj h (fun h=>?_) fun h=>?_
 .exact zrr h
 refine zw ?_;obtain⟨hc,h⟩:=h
 refine zm (ajK (lo:=(some 1)) (hi:=none) rfl mj rfl (wT rfl) vc hc) ?_;refine zC func193 h fun u2 I h=>?_;refine AW.seq ?_;refine zw ?_;refine zm (qA rfl rfl mv rfl rfl) ?_;refine zi h (fun h=>?_) fun h=>?_
 .exact zrr h
 refine zw ?_;refine AW.seqJ (fun fr I=>ql [(4,Sl.v u2)] fr/\acV B ro u2 Q I) ?_ ?_
 .rintro fr I ⟨hl,h⟩;refine AW.weaken ?_ hl (HLe.refl _)
  unfold acV at h;exact zrr h
 refine zw ?_;refine zm (qA rfl rfl mv rfl rfl) ?_;refine zw ?_;refine qi.loop (fr':=[(4,Sl.v u2),(23,Sl.v u2),(24,.int .i64 (u2.len:Int)),(25,.int .i64 0)]) ?_ FL
 refine h (fun u3 I=>qi _ _ _ _ _ _ [(4,Sl.v u2),(23,Sl.v u2),(24,.int .i64 (u2.len:Int)),(25,.int .i64 u3)] I) ?_
 rintro u3 I Y5 hY5 h
 show AW _ _ _ _ _ _ _ _
 unfold abb at h;refine zw ?_;refine AW.seq ?_;refine zi h (fun h=>?_) fun h=>?_
 rotate_left
 .refine AW.exit ?_;refine zw ?_;refine qT ?_
  refine zw ?_;exact⟨FL,h⟩
 refine zw ?_;refine AW.seq ?_;refine zw ?_;obtain⟨p4,ha,h0,h1,h⟩:=h
 refine zm (zP rfl mv ty9 (ixL rfl ha) rfl h0 h1) ?_;refine zL mj h fun u5 h=>?_;refine zC func99 h fun u6 I h=>?_;refine AW.iff rfl (qp Iff.rfl) h (fun h=>?_) (fun h=>?_)
 .exact zrr h
 refine zw ?_;refine qi.head (fr':=[(4,Sl.v u2),(23,Sl.v u2),(24,.int .i64 (u2.len:Int)),(25,.int .i64 (i64.wrap (u3+1)))]) ?_ FL
 exact hY5 _ _ h
def py(B:World)(ro:AH)(a0:ByteArray)(Q:ByteArray->Int->AH->Prop)(u0:Bool)(I:AH):=
 if u0=true then
 Q (⟨#[]⟩:ByteArray) 20 I
 else
 jD B ro a0 47 I fun u1 I=>
 cutOk none (some (if 1<u1 then u1 else 1)) a0.size a0.size/\
 Q (a0.extract (0) (Int.toNat (if 1<u1 then u1 else 1))) 0 I
def aff(B:World)(ro:AH)(a0:ByteArray)(I:AH)(Q:ByteArray->Int->AH->Prop):=
 if a0=(⟨#[47]⟩:ByteArray)then
 py B ro a0 Q true I
 else
 vz B ro a0 I fun u0 I=>
 py B ro a0 Q (!(decide (u0=0))) I
theorem alQ{a0 Q}(h:Sep ro I->aff B ro a0 I Q):yP B ro a0 I Q:=by
 refine zb h func179 ntmps179 fun h=>?_;unfold aff at h;refine zw ?_;refine AW.seq ?_;refine zw ?_;refine qE 4 (decide (a0=(⟨#[47]⟩:ByteArray))) me h (fun fr I=> ∃(u0:Bool),ql [(0,.string a0),(10,.bool u0)] fr/\py B ro a0 Q u0 I) ?_ ?_ ?_
 .intro h e2 hk2;refine zv e2 ?_;exact hk2 _ _ ⟨_,FL,h⟩
 .intro h e2 hk2;refine zy e2 ?_;refine Lyb rfl rfl rfl rfl e2 (xp rfl func82 rfl rfl rfl (qc.mono h ?_))
  rintro v I ⟨u1,rfl,h⟩;refine zv e2 ?_;exact hk2 _ _ ⟨_,FL,h⟩
 rintro fr I ⟨u0,hl,h⟩;unfold py at h;refine Lfr hl ?_
 refine zj h (fun h=>?_) fun h=>?_
 .exact zrr h
 refine zc func227 h ?_;rintro v I ⟨u2,rfl,h⟩;refine zm (aqU rfl rfl) ?_;obtain⟨hc,h⟩:=h
 refine zm (ajK (lo:=none) (hi:=(some (if 1<u2 then u2 else 1))) rfl mj rfl vc (wT rfl) hc) ?_;exact zrr h
def pA(B:World)(ro:AH)(a0:ByteArray)(a1:Int)(Q:ByteArray->Int->AH->Prop)(u0:Bool)(I:AH):=
 if u0=true then
 Q (⟨#[]⟩:ByteArray) 20 I
 else
 ahm B ro a1 I fun u1 I=>
 af0 B ro (⟨#[48]⟩:ByteArray) (i64.wrap (10 - (u1.size:Int))) I fun u2 I=>
 u2.size+u1.size<=9223372036854775807/\
 a0.size+(u2++u1).size<=9223372036854775807/\
 vz B ro (a0++(u2++u1)) I fun u3 I=>
 if¬(u3=0)then
 Q (⟨#[]⟩:ByteArray) u3 I
 else
 Q (a0++(u2++u1)) 0 I
def afg(B:World)(ro:AH)(a0:ByteArray)(a1:Int)(I:AH)(Q:ByteArray->Int->AH->Prop):=
 if((a0=(⟨#[47]⟩:ByteArray))\/(a1<0))\/(9999999999<a1)then
 pA B ro a0 a1 Q true I
 else
 vz B ro a0 I fun u0 I=>
 pA B ro a0 a1 Q (!(decide (u0=0))) I
theorem alR{a0 a1 Q}(h:Sep ro I->afg B ro a0 a1 I Q):afa B ro a0 a1 I Q:=by
 refine zb h func180 ntmps180 fun h=>?_;unfold afg at h;refine zw ?_;refine AW.seq ?_;refine zw ?_;refine wx 3 (decide (a0=(⟨#[47]⟩:ByteArray))) [(0,.string a0),(1,.int .i64 a1),(13,.bool ((decide (a0=(⟨#[47]⟩:ByteArray))) || (decide (a1<0))))] ?_ ?_ ?_
 .intro e2 hk2
  refine zv e2 ?_;exact hk2 _ (Fe e2)
 .intro e2 hk2
  refine zv e2 ?_;exact hk2 _ (Fe e2)
 intro fr hl
 refine Lfr hl ?_
 refine zw ?_;refine wx 3 ((decide (a0=(⟨#[47]⟩:ByteArray))) || (decide (a1<0))) [(0,.string a0),(1,.int .i64 a1),(17,.bool (((decide (a0=(⟨#[47]⟩:ByteArray))) || (decide (a1<0))) || (decide (9999999999<a1))))] ?_ ?_ ?_
 .intro e6 hk6
  refine zv e6 ?_;exact hk6 _ (Fe e6)
 .intro e6 hk6
  refine zv e6 ?_;exact hk6 _ (Fe e6)
 intro fr hl
 refine Lfr hl ?_
 refine zw ?_;refine qE 4 (((decide (a0=(⟨#[47]⟩:ByteArray))) || (decide (a1<0))) || (decide (9999999999<a1))) (wS (wS me me) me) h (fun fr I=> ∃(u0:Bool),ql [(0,.string a0),(1,.int .i64 a1),(22,.bool u0)] fr/\pA B ro a0 a1 Q u0 I) ?_ ?_ ?_
 .intro h e10 hk10;refine zv e10 ?_;exact hk10 _ _ ⟨_,FL,h⟩
 .intro h e10 hk10;refine zy e10 ?_;refine Lyb rfl rfl rfl rfl e10 (xp rfl func82 rfl rfl rfl (qc.mono h ?_))
  rintro v I ⟨u1,rfl,h⟩;refine zv e10 ?_;exact hk10 _ _ ⟨_,FL,h⟩
 rintro fr I ⟨u0,hl,h⟩;unfold pA at h;refine Lfr hl ?_
 refine zj h (fun h=>?_) fun h=>?_
 .exact zrr h
 refine zC func228 h fun u2 I h=>?_;refine zm (jM rfl rfl mj rfl rfl) ?_;refine zC func229 h fun u3 I h=>?_;obtain⟨hc,h⟩:=h
 refine zm (ak2 rfl rfl rfl hc) ?_;obtain⟨hc,h⟩:=h
 refine zm (ak2 rfl rfl rfl hc) ?_;refine zw ?_;refine AW.seq ?_;refine zC func82 h fun u4 I h=>?_;refine AW.iff rfl (qp me) h (fun h=>?_) (fun h=>?_)
 .exact zrr h
 exact zrr h
def aar(B:World)(ro:AH)(a0:ByteArray)(Q:ByteArray->Int->AH->Prop)(u0:Bool)(I:AH):=
 if u0=true then
 Q (⟨#[]⟩:ByteArray) 20 I
 else
 jD B ro a0 47 I fun u1 I=>
 cutOk (some (i64.wrap (u1+1))) none a0.size a0.size/\
 Q (a0.extract (Int.toNat (i64.wrap (u1+1))) (a0.size)) 0 I
def agZ(B:World)(ro:AH)(a0:ByteArray)(I:AH)(Q:ByteArray->Int->AH->Prop):=
 if a0=(⟨#[47]⟩:ByteArray)then
 aar B ro a0 Q true I
 else
 vz B ro a0 I fun u0 I=>
 aar B ro a0 Q (!(decide (u0=0))) I
theorem anI{a0 Q}(h:Sep ro I->agZ B ro a0 I Q):agX B ro a0 I Q:=by
 refine zb h func274 ntmps274 fun h=>?_;unfold agZ at h;refine zw ?_;refine AW.seq ?_;refine zw ?_;refine qE 4 (decide (a0=(⟨#[47]⟩:ByteArray))) me h (fun fr I=> ∃(u0:Bool),ql [(0,.string a0),(10,.bool u0)] fr/\aar B ro a0 Q u0 I) ?_ ?_ ?_
 .intro h e2 hk2;refine zv e2 ?_;exact hk2 _ _ ⟨_,FL,h⟩
 .intro h e2 hk2;refine zy e2 ?_;refine Lyb rfl rfl rfl rfl e2 (xp rfl func82 rfl rfl rfl (qc.mono h ?_))
  rintro v I ⟨u1,rfl,h⟩;refine zv e2 ?_;exact hk2 _ _ ⟨_,FL,h⟩
 rintro fr I ⟨u0,hl,h⟩;unfold aar at h;refine Lfr hl ?_
 refine zj h (fun h=>?_) fun h=>?_
 .exact zrr h
 refine zC func227 h fun u2 I h=>?_;obtain⟨hc,h⟩:=h
 refine zm (ajK (lo:=(some (i64.wrap (u2+1)))) (hi:=none) rfl mj rfl (wT rfl) vc hc) ?_;exact zrr h
def af8(B:World)(ro:AH)(a0:ByteArray)(I:AH)(Q:ByteArray->Bool->AH->Prop):=
 xx B ro a0 I fun u0 u1 I=>
 if(¬(u1=true))\/((u0.len:Int)=0)then
 Q (⟨#[]⟩:ByteArray) u1 I
 else
 ∃p2,u0.a=some p2/\(0:Int)<=0/\0<(u0.len:Int)/\
 ∃u3,qa ro I (p2.add (Int.toNat 0*1))=some (.string u3)/\
 Q u3 true I
theorem am6{a0 Q}(h:Sep ro I->af8 B ro a0 I Q):afX B ro a0 I Q:=by
 refine zb h func28 ntmps28 fun h=>?_;unfold af8 at h;refine zc func87 h ?_;rintro v I ⟨u0,u1,rfl,h⟩;refine zw ?_;refine AW.seq ?_;refine zw ?_;refine wx 4 (!u1) [(4,Sl.v u0),(5,.bool u1),(17,.bool ((!u1) || (decide ((u0.len:Int)=0))))] ?_ ?_ ?_
 .intro e2 hk2
  refine zv e2 ?_;exact hk2 _ (Fe e2)
 .intro e2 hk2
  refine zy e2 ?_;refine qH (qA rfl rfl mv rfl rfl) rfl rfl rfl rfl e2 ?_
  refine zv e2 ?_;exact hk2 _ (Fe e2)
 intro fr hl
 refine Lfr hl ?_
 refine zw ?_;refine AW.iff rfl (wS (qp Iff.rfl) me) h (fun h=>?_) (fun h=>?_)
 .exact zrr h
 refine zw ?_;obtain⟨p2,ha,h0,h1,h⟩:=h
 refine zm (zP rfl mv ty9 (ixL rfl ha) rfl h0 h1) ?_;refine zL mj h fun u3 h=>?_;exact zrr h
def afh(B:World)(ro:AH)(Q:Bool->AH->Prop)(I:AH):=
 Q true I
def us(B:World)(ro:AH)(a0:ByteArray)(u0:Int)(u1:UInt8)(Q:Bool->AH->Prop)(Y2:Int->AH->Prop)(u2:Bool)(I:AH):=
 if¬((((u2=true)\/((u1.toNat:Int)=46))\/((u1.toNat:Int)=95))\/((u1.toNat:Int)=45))then
 Q false I
 else
 Y2 (i64.wrap (u0+1)) I
def ut(B:World)(ro:AH)(a0:ByteArray)(Q:Bool->AH->Prop):Int->AH->(Int->AH->Prop)->Prop:=fun u0 I Y2=>
 if u0<(a0.size:Int)then
 ∃u1:UInt8,(0:Int)<=u0/\a0[Int.toNat u0]?=some u1/\
 if(97<=(u1.toNat:Int))/\((u1.toNat:Int)<=122)then
  us B ro a0 u0 u1 Q Y2 true I
 else
 us B ro a0 u0 u1 Q Y2 ((decide (48<=(u1.toNat:Int))) && (decide ((u1.toNat:Int)<=57))) I
 else
 afh B ro Q I
def af9(B:World)(ro:AH)(a0:ByteArray)(I:AH)(Q:Bool->AH->Prop):=
 if((((a0.size:Int)<1)\/(32<(a0.size:Int)))\/(a0=(⟨#[46]⟩:ByteArray)))\/(a0=(⟨#[46,46]⟩:ByteArray))then
 Q false I
 else
 lfpD (ut B ro a0 Q) (0) I
theorem am7{a0 Q}(h:Sep ro I->af9 B ro a0 I Q):afY B ro a0 I Q:=by
 refine zb h func37 ntmps37 fun h=>?_;unfold af9 at h;refine zw ?_;refine AW.seq ?_;refine zw ?_;refine zm (jM rfl rfl mj rfl rfl) ?_;refine zw ?_;refine wx 4 (decide ((a0.size:Int)<1)) [(0,.string a0),(12,.bool ((decide ((a0.size:Int)<1)) || (decide (32<(a0.size:Int)))))] ?_ ?_ ?_
 .intro e3 hk3
  refine zv e3 ?_;exact hk3 _ (Fe e3)
 .intro e3 hk3
  refine zy e3 ?_;refine qH (jM rfl rfl mj rfl rfl) rfl rfl rfl rfl e3 ?_
  refine zv e3 ?_;exact hk3 _ (Fe e3)
 intro fr hl
 refine Lfr hl ?_
 refine zw ?_;refine wx 3 ((decide ((a0.size:Int)<1)) || (decide (32<(a0.size:Int)))) [(0,.string a0),(16,.bool (((decide ((a0.size:Int)<1)) || (decide (32<(a0.size:Int)))) || (decide (a0=(⟨#[46]⟩:ByteArray)))))] ?_ ?_ ?_
 .intro e8 hk8
  refine zv e8 ?_;exact hk8 _ (Fe e8)
 .intro e8 hk8
  refine zv e8 ?_;exact hk8 _ (Fe e8)
 intro fr hl
 refine Lfr hl ?_
 refine zw ?_;refine wx 3 (((decide ((a0.size:Int)<1)) || (decide (32<(a0.size:Int)))) || (decide (a0=(⟨#[46]⟩:ByteArray)))) [(0,.string a0),(20,.bool ((((decide ((a0.size:Int)<1)) || (decide (32<(a0.size:Int)))) || (decide (a0=(⟨#[46]⟩:ByteArray)))) || (decide (a0=(⟨#[46,46]⟩:ByteArray)))))] ?_ ?_ ?_
 .intro e12 hk12
  refine zv e12 ?_;exact hk12 _ (Fe e12)
 .intro e12 hk12
  refine zv e12 ?_;exact hk12 _ (Fe e12)
 intro fr hl
 refine Lfr hl ?_
 refine zw ?_;refine AW.iff rfl (wS (wS (wS me me) me) me) h (fun h=>?_) (fun h=>?_)
 .exact zr h
 refine zw ?_;refine AW.seqJ (fun fr I=>ql [] fr/\afh B ro Q I) ?_ ?_
 .rintro fr I ⟨hl,h⟩;refine AW.weaken ?_ hl (HLe.refl _)
  unfold afh at h;exact zr h
 refine zw ?_;refine qi.loop (fr':=[(0,.string a0),(3,.int .i64 0)]) ?_ FL
 refine h (fun u0 I=>qi _ _ _ _ _ _ [(0,.string a0),(3,.int .i64 u0)] I) ?_
 rintro u0 I Y2 hY2 h
 show AW _ _ _ _ _ _ _ _
 unfold ut at h;refine AW.seq ?_;refine zw ?_;refine zm (jM rfl rfl mj rfl rfl) ?_;refine zi h (fun h=>?_) fun h=>?_
 rotate_left
 .refine AW.exit ?_;refine zw ?_;refine qT ?_
  refine zw ?_;exact⟨FL,h⟩
 refine zw ?_;refine AW.seq ?_;refine zw ?_;obtain⟨u1,h0,hc,h⟩:=h
 refine zm (ak3 rfl mj rfl rfl h0 hc) ?_;refine zw ?_;refine wx 3 (decide (97<=(u1.toNat:Int))) [(0,.string a0),(3,.int .i64 u0),(4,.int .u8 (u1.toNat:Int)),(35,.bool ((decide (97<=(u1.toNat:Int))) && (decide ((u1.toNat:Int)<=122))))] ?_ ?_ ?_
 .intro e2 hk2
  refine zv e2 ?_;exact hk2 _ (Fe e2)
 .intro e2 hk2
  refine zv e2 ?_;exact hk2 _ (Fe e2)
 intro fr hl
 refine Lfr hl ?_
 refine zw ?_;refine qE 7 ((decide (97<=(u1.toNat:Int))) && (decide ((u1.toNat:Int)<=122))) (abJ me me) h (fun fr I=> ∃(u2:Bool),ql [(0,.string a0),(3,.int .i64 u0),(4,.int .u8 (u1.toNat:Int)),(43,.bool u2)] fr/\us B ro a0 u0 u1 Q Y2 u2 I) ?_ ?_ ?_
 .intro h e6 hk6;refine zv e6 ?_;refine Ln rfl rfl rfl rfl (.inr rfl) ?_
  refine Ln rfl rfl rfl rfl (.inr rfl) ?_
  refine zv e6 ?_;exact hk6 _ _ ⟨_,FL,h⟩
 .intro h e6 hk6;refine zv e6 ?_;refine wx 3 (decide (48<=(u1.toNat:Int))) [(0,.string a0),(3,.int .i64 u0),(4,.int .u8 (u1.toNat:Int)),(36,.bool ((decide (97<=(u1.toNat:Int))) && (decide ((u1.toNat:Int)<=122)))),(42,.bool ((decide (48<=(u1.toNat:Int))) && (decide ((u1.toNat:Int)<=57))))] ?_ ?_ ?_
  .intro e9 hk9
   refine zv e9 ?_;refine qH (jT rfl (evb e9) rfl) rfl rfl rfl rfl e6 ?_
   exact hk9 _ (Fe e9)
  .intro e9 hk9
   refine zv e9 ?_;refine qH (yH rfl (evb e9) rfl) rfl rfl rfl rfl e6 ?_
   exact hk9 _ (Fe e9)
  intro fr hl
  refine Lfr hl ?_
  refine zk e6 ?_;exact hk6 _ _ ⟨_,FL,h⟩
 rintro fr I ⟨u2,hl,h⟩;unfold us at h;refine Lfr hl ?_
 refine zw ?_;refine wx 3 u2 [(0,.string a0),(3,.int .i64 u0),(4,.int .u8 (u1.toNat:Int)),(47,.bool (u2 || (decide ((u1.toNat:Int)=46))))] ?_ ?_ ?_
 .intro e14 hk14
  refine zv e14 ?_;exact hk14 _ (Fe e14)
 .intro e14 hk14
  refine zv e14 ?_;exact hk14 _ (Fe e14)
 intro fr hl
 refine Lfr hl ?_
 refine zw ?_;refine wx 3 (u2 || (decide ((u1.toNat:Int)=46))) [(0,.string a0),(3,.int .i64 u0),(4,.int .u8 (u1.toNat:Int)),(51,.bool ((u2 || (decide ((u1.toNat:Int)=46))) || (decide ((u1.toNat:Int)=95))))] ?_ ?_ ?_
 .intro e18 hk18
  refine zv e18 ?_;exact hk18 _ (Fe e18)
 .intro e18 hk18
  refine zv e18 ?_;exact hk18 _ (Fe e18)
 intro fr hl
 refine Lfr hl ?_
 refine zw ?_;refine wx 3 ((u2 || (decide ((u1.toNat:Int)=46))) || (decide ((u1.toNat:Int)=95))) [(0,.string a0),(3,.int .i64 u0),(55,.bool (((u2 || (decide ((u1.toNat:Int)=46))) || (decide ((u1.toNat:Int)=95))) || (decide ((u1.toNat:Int)=45))))] ?_ ?_ ?_
 .intro e22 hk22
  refine zv e22 ?_;exact hk22 _ (Fe e22)
 .intro e22 hk22
  refine zv e22 ?_;exact hk22 _ (Fe e22)
 intro fr hl
 refine Lfr hl ?_
 refine zw ?_;refine AW.iff rfl (qp (wS (wS (wS Iff.rfl me) me) me)) h (fun h=>?_) (fun h=>?_)
 .exact zr h
 refine zw ?_;refine qi.head (fr':=[(0,.string a0),(3,.int .i64 (i64.wrap (u0+1)))]) ?_ FL
 exact hY2 _ _ h
def acb(B:World)(ro:AH)(Q:Sl->Bool->AH->Prop)(u0:Sl)(I:AH):=
 if 8<(u0.len:Int)then
 Q (⟨none,0,0⟩:Sl) false I
 else
 Q u0 true I
def pB(B:World)(ro:AH)(a0:ByteArray)(u0:Int)(Q:Sl->Bool->AH->Prop)(Y5:(Sl×Int×Int)->AH->Prop)(u1:Sl)(u2:Int)(I:AH):=
 Y5 (u1,u2,i64.wrap (u0+1)) I
def je(B:World)(ro:AH)(a0:ByteArray)(u0:Sl)(u1 u2:Int)(Q:Sl->Bool->AH->Prop)(Y5:(Sl×Int×Int)->AH->Prop)(u3:Bool)(I:AH):=
 if u3=true then
 cutOk (some u1) (some u2) a0.size a0.size/\
 afY B ro (a0.extract (Int.toNat u1) (Int.toNat u2)) I fun u4 I=>
 if¬(u4=true)then
  Q (⟨none,0,0⟩:Sl) false I
 else
 cutOk (some u1) (some u2) a0.size a0.size/\
 nw ro I (.cells #[.string (a0.extract (Int.toNat u1) (Int.toNat u2))] 9) fun u5 I=>
 awp prog ro (Builtin.append_ #[27,27] 27 #[Sl.v u0,Sl.v (⟨some ⟨u5,0,none⟩,1,1⟩:Sl)]) (fun v I=> ∃(u6:Sl),v=Sl.v u6/\
  pB B ro a0 u2 Q Y5 u6 (i64.wrap (u2+1)) I) I
 else
 pB B ro a0 u2 Q Y5 u0 u1 I
def xH(B:World)(ro:AH)(a0:ByteArray)(Q:Sl->Bool->AH->Prop):(Sl×Int×Int)->AH->((Sl×Int×Int)->AH->Prop)->Prop:=fun⟨u0,u1,u2⟩ I Y5=>
 if u2<=(a0.size:Int)then
 if u2=(a0.size:Int)then
  je B ro a0 u0 u1 u2 Q Y5 true I
 else
 ∃u3:UInt8,(0:Int)<=u2/\a0[Int.toNat u2]?=some u3/\
 je B ro a0 u0 u1 u2 Q Y5 (decide ((u3.toNat:Int)=47)) I
 else
 acb B ro Q u0 I
def pC(B:World)(ro:AH)(a0:ByteArray)(Q:Sl->Bool->AH->Prop)(u0:Bool)(I:AH):=
 if u0=true then
 Q (⟨none,0,0⟩:Sl) false I
 else
 lfpD (xH B ro a0 Q) ((⟨none,0,0⟩:Sl),1,1) I
def afi(B:World)(ro:AH)(a0:ByteArray)(I:AH)(Q:Sl->Bool->AH->Prop):=
 if a0=(⟨#[47]⟩:ByteArray)then
 Q (⟨none,0,0⟩:Sl) true I
 else
 if((a0.size:Int)<1)\/(128<(a0.size:Int))then
 pC B ro a0 Q true I
 else
 ∃u0:UInt8,(0:Int)<=0/\a0[Int.toNat 0]?=some u0/\
 pC B ro a0 Q (!(decide ((u0.toNat:Int)=47))) I
theorem alS{a0 Q}(h:Sep ro I->afi B ro a0 I Q):xx B ro a0 I Q:=by
 refine zb h func87 ntmps87 fun h=>?_;unfold afi at h;refine zw ?_;refine AW.seq ?_;refine zi h (fun h=>?_) fun h=>?_
 .exact zrr h
 refine zw ?_;refine AW.seq ?_;refine zw ?_;refine zm (jM rfl rfl mj rfl rfl) ?_;refine zw ?_;refine wx 4 (decide ((a0.size:Int)<1)) [(0,.string a0),(4,Sl.v (⟨none,0,0⟩:Sl)),(17,.bool ((decide ((a0.size:Int)<1)) || (decide (128<(a0.size:Int)))))] ?_ ?_ ?_
 .intro e3 hk3
  refine zv e3 ?_;exact hk3 _ (Fe e3)
 .intro e3 hk3
  refine zy e3 ?_;refine qH (jM rfl rfl mj rfl rfl) rfl rfl rfl rfl e3 ?_
  refine zv e3 ?_;exact hk3 _ (Fe e3)
 intro fr hl
 refine Lfr hl ?_
 refine zw ?_;refine qE 4 ((decide ((a0.size:Int)<1)) || (decide (128<(a0.size:Int)))) (wS me me) h (fun fr I=> ∃(u0:Bool),ql [(0,.string a0),(4,Sl.v (⟨none,0,0⟩:Sl)),(22,.bool u0)] fr/\pC B ro a0 Q u0 I) ?_ ?_ ?_
 .intro h e8 hk8;refine zv e8 ?_;exact hk8 _ _ ⟨_,FL,h⟩
 .intro h e8 hk8;refine zy e8 ?_;obtain⟨u1,h0,hc,h⟩:=h
  refine qH (ak3 rfl mj rfl rfl h0 hc) rfl rfl rfl rfl e8 ?_
  refine zv e8 ?_;exact hk8 _ _ ⟨_,FL,h⟩
 rintro fr I ⟨u0,hl,h⟩;unfold pC at h;refine Lfr hl ?_
 refine zj h (fun h=>?_) fun h=>?_
 .exact zrr h
 refine zw ?_;refine AW.seqJ (fun fr I=> ∃(u2:Sl),ql [(4,Sl.v u2)] fr/\acb B ro Q u2 I) ?_ ?_
 .rintro fr I ⟨u2,hl,h⟩;refine AW.weaken ?_ hl (HLe.refl _)
  unfold acb at h;refine AW.seq ?_;refine zw ?_;refine zm (qA rfl rfl mv rfl rfl) ?_;refine zi h (fun h=>?_) fun h=>?_
  .exact zrr h
  exact zrr h
 refine zw ?_;refine qi.loop (fr':=[(0,.string a0),(4,Sl.v (⟨none,0,0⟩:Sl)),(5,.int .i64 1),(6,.int .i64 1)]) ?_ FL
 refine h (fun⟨u3,u4,u5⟩ I=>qi _ _ _ _ _ _ [(0,.string a0),(4,Sl.v u3),(5,.int .i64 u4),(6,.int .i64 u5)] I) ?_
 rintro⟨u3,u4,u5⟩ I Y5 hY5 h
 show AW _ _ _ _ _ _ _ _
 unfold xH at h;dsimp only at h;refine AW.seq ?_;refine zw ?_;refine zm (jM rfl rfl mj rfl rfl) ?_;refine zi h (fun h=>?_) fun h=>?_
 rotate_left
 .refine AW.exit ?_;refine zw ?_;refine qT ?_
  refine zw ?_;exact⟨_,FL,h⟩
 refine zw ?_;refine AW.seqJ (fun fr I=> ∃(u6:Sl) (u7:Int),ql [(0,.string a0),(6,.int .i64 u5),(4,Sl.v u6),(5,.int .i64 u7)] fr/\pB B ro a0 u5 Q Y5 u6 u7 I) ?_ ?_
 .rintro fr I ⟨u6,u7,hl,h⟩;refine AW.weaken ?_ hl (HLe.refl _)
  unfold pB at h;refine zw ?_;refine qi.head (fr':=[(0,.string a0),(4,Sl.v u6),(5,.int .i64 u7),(6,.int .i64 (i64.wrap (u5+1)))]) ?_ FL
  exact hY5 _ _ h
 refine zw ?_;refine zm (jM rfl rfl mj rfl rfl) ?_;refine zw ?_;refine qE 5 (decide (u5=(a0.size:Int))) me h (fun fr I=> ∃(u8:Bool),ql [(0,.string a0),(4,Sl.v u3),(5,.int .i64 u4),(6,.int .i64 u5),(38,.bool u8)] fr/\je B ro a0 u3 u4 u5 Q Y5 u8 I) ?_ ?_ ?_
 .intro h e4 hk4;refine zv e4 ?_;exact hk4 _ _ ⟨_,FL,h⟩
 .intro h e4 hk4;refine zv e4 ?_;obtain⟨u9,h0,hc,h⟩:=h
  refine qH (ak3 rfl mj rfl rfl h0 hc) rfl rfl rfl rfl e4 ?_
  refine zv e4 ?_;exact hk4 _ _ ⟨_,FL,h⟩
 rintro fr I ⟨u8,hl,h⟩;unfold je at h;refine Lfr hl ?_
 refine zj h (fun h=>?_) fun h=>?_
 rotate_left
 .refine zw ?_;exact⟨_,_,FL,h⟩
 refine AW.seq ?_;refine zw ?_;obtain⟨hc,h⟩:=h
 refine zm (ajK (lo:=(some u4)) (hi:=(some u5)) rfl mj rfl (wT rfl) (wT rfl) hc) ?_;refine zC func37 h fun u10 I h=>?_;refine AW.iff rfl (qp Iff.rfl) h (fun h=>?_) (fun h=>?_)
 .exact zrr h
 refine zw ?_;obtain⟨hc,h⟩:=h
 refine zm (ajK (lo:=(some u4)) (hi:=(some u5)) rfl mj rfl (wT rfl) (wT rfl) hc) ?_;refine zA (zo (vs:=[(0,.string (a0.extract (Int.toNat u4) (Int.toNat u5)))]) (cs:= #[.string (a0.extract (Int.toNat u4) (Int.toNat u5))]) rfl mv ty9 y0 rfl rfl) h fun u11 h=>?_;refine zl (kP (s:=Builtin.append_ #[27,27] 27 #[Sl.v u3,Sl.v (⟨some ⟨u11,0,none⟩,1,1⟩:Sl)]) rfl rfl (fun _=>rfl) (qj _ h ?_))
 rintro v I ⟨u12,rfl,h⟩;refine zw ?_;exact⟨_,_,FL,h⟩
end Go.Proofs.YtomdigihapdhnaaGreatDoor.G
namespace Go.Proofs.YtomdigihapdhnaaGreatDoor.Pa
open Go SL
variable{ps:List Str}{l x:Str}
def okc(c:UInt8):Bool:=(97<=c.toNat && c.toNat<=122) || (48<=c.toNat && c.toNat<=57) || c.toNat == 46 || c.toNat == 95 || c.toNat == 45
def qP(l:Str):Bool:=decide (1<=l.length) && decide (l.length<=32) && (l != [46]) && (l != [46,46]) && l.all okc
def cut:Str->List Str
 | []=>[[]]
 | c::r=>if c=47 then []::cut r else match cut r with | []=>[[c]] | h::t=>(c::h)::t
def parts(l:Str):Option (List Str):=
 if l=[47]then some []
 else if l.length<=128/\l.head?=some 47/\(cut (l.drop 1)).length<=8/\(cut (l.drop 1)).all qP=true then some (cut (l.drop 1))else none
def mk(ps:List Str):Str:=if ps=[]then [47]else ps.flatMap (fun x=>47::x)
theorem anJ(l:Str):cut l≠[]:=by
 cases l with
 | nil=>simp[cut]
 | cons c r=>unfold cut;split<;>(try split)<;>simp
theorem adB(h:qP x=true):47∉x:=by
 intro hm
 unfold qP at h
 simp only[mw,mD]at h
 have:=h.2 47 hm
 exact mu this y0
theorem aaQ(h:qP x=true):1<=x.length/\x.length<=32:=by
 unfold qP at h
 simp only[mw,mP]at h
 exact⟨h.1.1.1.1,h.1.1.1.2⟩
theorem asl(l:Str):(cut l).flatMap (fun x=>47::x)=47::l:=by
 induction l with
 | nil=>rfl
 | cons c r ih=>
  unfold cut
  split
  .rename_i h;subst h
   rw[nI,ih];try rfl
  .split
   .rename_i h;exact mu h (anJ r)
   .rename_i h t e
    rw[e,nI]at ih
    rw[nI]
    simp only[nb,List.cons.injEq,true_and]at ih⊢
    exact ih
theorem aky(x:Str)(hx:47∉x):cut x=[x]:=by
 induction x with
 | nil=>rfl
 | cons c x ih=>
  simp at hx
  unfold cut
  rw[ma (fun e=>hx.1 e.symm),ih hx.2]
theorem alT(x r:Str)(hx:47∉x):cut (x++47::r)=x::cut r:=by
 induction x with
 | nil=>rw[nx];conv=>lhs;unfold cut
        rw[mc rfl]
 | cons c x ih=>
  simp at hx
  rw[nb]
  conv=>lhs;unfold cut
  rw[ma (fun e=>hx.1 e.symm),ih hx.2]
theorem ai5:∀ (ps:List Str),ps≠[]->(∀x∈ps,47∉x)->cut ((ps.flatMap (fun x=>47::x)).drop 1)=ps:=by
 intro ps
 induction ps with
 | nil=>intro h;exact mu rfl h
 | cons x ps ih=>
  intro _ hx
  rw[nI]
  cases ps with
  | nil=>simpa using aky x (hx x z8)
  | cons y ps=>
   have:=ih z8 fun z hz=>hx z (by simp[hz])
   rw[nI]at this⊢
   simp only[nb,List.drop_succ_cons,List.drop_zero]at this⊢
   rw[alT x _ (hx x z8),this]
theorem ajN(ps:List Str):∃ r,mk ps=47::r:=by
 unfold mk
 cases ps with
 | nil=>exact⟨[],rfl⟩
 | cons x ps=>exact⟨_,rfl⟩
structure ag0(ps:List Str):Prop where
 n:ps.length<=8
 ok:∀ x∈ps,qP x=true
 len:(mk ps).length<=128
theorem atS(hn:ps≠[])(hx:∀ x∈ps,qP x=true):mk ps≠[47]:=by
 unfold mk;rw[ma hn]
 cases ps with
 | nil=>exact mu rfl hn
 | cons x ps=>
  rw[nI]
  have:=(aaQ (hx x z8)).1
  intro h
  have:=mh List.length h
  simp at this
  have:x=[]:=this.1
  subst this
  simp at*
theorem qW:parts l=some ps↔l=mk ps/\ag0 ps:=by
 constructor
 .intro h
  unfold parts at h
  split at h
  .rename_i e;cases h;exact⟨e,z8,z8,y0⟩
  .split at h
   .rename_i e1 e2
    cases h
    obtain⟨h1,h2,h3,h4⟩:=e2
    cases l with
    | nil=>cases h2
    | cons c r=>
     cases h2
     simp only[List.drop_succ_cons,List.drop_zero]at*
     have e:mk (cut r)=47::r:=by unfold mk;rw[ma (anJ r),asl]
     exact⟨e.symm,h3,j2 h4,by rw[e];exact h1⟩
   .cases h
 .rintro⟨rfl,h⟩
  unfold parts
  by_cases hn:ps=[]
  .subst hn;rfl
  .rw[ma (atS hn h.ok)]
   have e:cut ((mk ps).drop 1)=ps:=by unfold mk;rw[ma hn];exact ai5 ps hn fun x hx=>adB (h.ok x hx)
   rw[e,mc]
   obtain⟨r,hr⟩:=ajN ps
   exact⟨h.len,by rw[hr];try rfl,h.n,j2 h.ok⟩
theorem aqW{qs:List Str}(hp:ag0 ps)(hq:ag0 qs)(h:mk ps=mk qs):ps=qs:=by
 have a:=qW.2 ⟨rfl,hp⟩
 have b:=qW.2 ⟨h,hq⟩
 rw[a]at b;exact mA b
def li(l:Str):Nat->Int
 | 0=> -1
 | k+1=>if l[k]?=some 47 then(k:Int)else li l k
theorem at8(a x:Str)(hx:47∉x):∀ k,k<=x.length->li (a++47::x) (a.length+1+k)=a.length:=by
 intro k
 induction k with
 | zero=>intro _;show li _ (a.length+1)=_;unfold li;rw[mc z8]
 | succ k ih=>
  intro hk
  show li _ ((a.length+1+k)+1)=_
  unfold li
  rw[ma,ih z7]
  rw[mQ z7,show a.length+1+k - a.length=k+1 by omega,LK,md z7]
  intro h
  exact hx ((mA h)▸mG _)
theorem acd(ps:List Str)(x:Str):mk (ps++[x])=(if ps=[]then []else mk ps)++47::x:=by
 unfold mk
 rw[ma z8,List.flatMap_append]
 cases ps with
 | nil=>simp
 | cons y ps=>simp
theorem ag0.up(h:ag0 ps):ag0 ps.dropLast:=by
 rcases List.eq_nil_or_concat ps with rfl | ⟨qs,x,rfl⟩
 .exact h
 .rw[List.concat_eq_append]at h⊢
  rw[List.dropLast_concat]
  refine⟨by have:=h.n;simp at this;omega,fun y hy=>h.ok y (by simp[hy]),?_⟩
  have:=h.len
  rw[acd]at this
  split at this
  .rename_i e;subst e;decide
  .simp at this;omega
theorem au2:∀ (s:Str),47∉s->Lib.index s [47]= -1:=by
 intro s
 induction s with
 | nil=>intro _;rfl
 | cons b l ih=>
  intro h
  simp at h
  unfold Lib.index
  rw[ma (by simp;exact h.1),ih h.2];rfl
theorem aqX:∀ (a r:Str),47∉a->Lib.index (a++47::r) [47]=a.length:=by
 intro a
 induction a with
 | nil=>intro r _;show Lib.index (47::r) [47]=0;unfold Lib.index;rw[mc z8]
 | cons b a ih=>
  intro r h
  simp at h
  rw[nb]
  unfold Lib.index
  rw[ma (by simp;exact h.1),ih r h.2,ma z8]
  simp
theorem apV:∀ (fuel:Nat) (s:Str),s.length<fuel->Lib.splitK [47] 0 (Lib.countFrom [47] fuel s) s=cut s:=by
 intro fuel
 induction fuel with
 | zero=>intro s h;omega
 | succ n ih=>
  intro s h
  unfold Lib.countFrom
  by_cases hm:47∈s
  .obtain⟨a,r,rfl,ha⟩:=List.eq_append_cons_of_mem hm
   rw[aqX a r ha,ma z8,Nat.add_comm 1]
   unfold Lib.splitK
   rw[aqX a r ha,ma z8]
   simp only[mr,Nat.add_zero,List.take_left,mx,nE]
   have e:(a++47::r).drop (a.length+1)=r:=by
    rw[show a++47::r=(a++[47])++r by simp,show a.length+1=(a++[47]).length by simp,List.drop_left]
   rw[show a.length+(0+1)=a.length+1 by omega,e,ih r (by simp at h;omega),alT a r ha]
  .rw[au2 s hm,mc (by rfl),aky s hm];try rfl
theorem amw(s:ByteArray):(Lib.splitB (S [47]) 0 (Lib.countB s (S [47])) s).map L=cut (L s):=by
 rw[show(Lib.splitB (S [47]) 0 (Lib.countB s (S [47])) s).map L=Lib.splitK [47] 0 (Lib.countB s (S [47])) (L s)from Lib.splitB_data _ _ _ _]
 have:Lib.countB s (S [47])=Lib.count (L s) [47]:=rfl
 rw[this]
 exact apV _ _ z7
end Go.Proofs.YtomdigihapdhnaaGreatDoor.Pa
namespace Go.Proofs
open YtomdigihapdhnaaGreatDoor
open Go.Shelf
def Tryz.laysM171_ren:Go.Shelf.Ren:=⟨fun | 171=>228 | 243=>265 | 246=>316 | 283=>362 | 284=>363 | 285=>364 | 286=>365 | 129=>288 | 317=>388 | 318=>389 | 319=>390 | 320=>391 | 337=>398 | 338=>399 | n=>n,fun | 3=>3 | 9=>9 | 2=>2 | 4=>4 | 171=>528 | 0=>0 | 53=>464 | 37=>24 | 5=>5 | 173=>530 | 212=>545 | 51=>462 | 20=>20 | 213=>546 | 46=>399 | 232=>556 | 233=>557 | n=>n,fun | 17=>2 | 18=>5 | 19=>6 | n=>n⟩
theorem Tryz.laysM171:Go.Proofs.LaysM.n171 prog Tryz.laysM171_ren:={
 mixed:=by kernel_rfl
 f129:=func288.trans (congrArg some y1)
 f171:=func228.trans (congrArg some y1)
 f243:=func265.trans (congrArg some y1)
 f246:=func316.trans (congrArg some y1)
 f283:=func362.trans (congrArg some y1)
 f284:=func363.trans (congrArg some y1)
 f285:=func364.trans (congrArg some y1)
 f286:=func365.trans (congrArg some y1)
 f317:=func388.trans (congrArg some y1)
 f318:=func389.trans (congrArg some y1)
 f319:=func390.trans (congrArg some y1)
 f320:=func391.trans (congrArg some y1)
 f337:=func398.trans (congrArg some y1)
 f338:=func399.trans (congrArg some y1)
 t0:=underlying0
 a0:=isAgg0
 z0:=sizeOf0
 v0:=zeroValue0
 t2:=underlying2
 a2:=isAgg2
 z2:=sizeOf2
 v2:=zeroValue2
 t3:=underlying3
 a3:=isAgg3
 z3:=sizeOf3
 v3:=zeroValue3
 t4:=underlying4
 a4:=isAgg4
 z4:=sizeOf4
 v4:=zeroValue4
 t5:=underlying5
 a5:=isAgg5
 z5:=sizeOf5
 v5:=zeroValue5
 t9:=underlying9
 a9:=isAgg9
 z9:=sizeOf9
 v9:=zeroValue9
 t20:=underlying20
 a20:=isAgg20
 z20:=sizeOf20
 v20:=zeroValue20
 t37:=underlying24
 a37:=isAgg24
 z37:=sizeOf24
 v37:=zeroValue24
 t46:=underlying399
 a46:=isAgg399
 z46:=sizeOf399
 v46:=zeroValue399
 t51:=underlying462
 a51:=isAgg462
 z51:=sizeOf462
 v51:=zeroValue462
 t53:=underlying464
 a53:=isAgg464
 z53:=sizeOf464
 v53:=zeroValue464
 t171:=underlying528
 a171:=isAgg528
 z171:=sizeOf528
 v171:=zeroValue528
 t173:=underlying530
 a173:=isAgg530
 z173:=sizeOf530
 v173:=zeroValue530
 t212:=underlying545
 a212:=isAgg545
 z212:=sizeOf545
 v212:=zeroValue545
 t213:=underlying546
 a213:=isAgg546
 z213:=sizeOf546
 t232:=underlying556
 a232:=isAgg556
 z232:=sizeOf556
 v232:=zeroValue556
 t233:=underlying557
 a233:=isAgg557
 z233:=sizeOf557
 v233:=zeroValue557
 g17:=by kernel_rfl
 g18:=by kernel_rfl
 g19:=by kernel_rfl
 i0:=by kernel_rfl
 i2:=by kernel_rfl
 i3:=by kernel_rfl
 i4:=by kernel_rfl
 i5:=by kernel_rfl
 i9:=by kernel_rfl
 i20:=by kernel_rfl
 i37:=by kernel_rfl
 i46:=by kernel_rfl
 i51:=by kernel_rfl
 i53:=by kernel_rfl
 i171:=by kernel_rfl
 i173:=by kernel_rfl
 i212:=by kernel_rfl
 i232:=by kernel_rfl
 i233:=by kernel_rfl
 m17:=by kernel_rfl
 m18:=by kernel_rfl
 m19:=by kernel_rfl}
open Go.RowKit Go.Sort Go.Lib in
theorem Tryz.strconv_Itoa(n:Int)(h0: -9223372036854775808<=n)(h1:n<=9223372036854775807)(w:World)(htab:Lib.TabIs prog w "internal/strconv.uint64pow10" .u64 Lib.pow10Tab):
  Calls prog 228 #[.int .i64 n] w fun e w'=>e= .returned (.string ⟨(Lib.itoa n).toArray⟩)/\∃ k os,w'=grow (w.drewN k) os:=Any.strconv_Itoa Tryz.laysM171 n h0 h1 w htab
def Tryz.laysM290_ren:Go.Shelf.Ren:=⟨fun | 290=>226 | 324=>263 | n=>n,fun | 37=>24 | 3=>3 | 0=>0 | 4=>4 | 20=>20 | 75=>224 | 5=>5 | 80=>143 | 9=>9 | n=>n,fun | 14=>0 | n=>n⟩
theorem Tryz.laysM290:Go.Proofs.LaysM.n290 prog Tryz.laysM290_ren:={
 mixed:=by kernel_rfl
 f290:=func226.trans (congrArg some y1)
 f324:=func263.trans (congrArg some y1)
 t0:=underlying0
 a0:=isAgg0
 z0:=sizeOf0
 v0:=zeroValue0
 t3:=underlying3
 a3:=isAgg3
 z3:=sizeOf3
 v3:=zeroValue3
 t4:=underlying4
 a4:=isAgg4
 z4:=sizeOf4
 v4:=zeroValue4
 t20:=underlying20
 a20:=isAgg20
 z20:=sizeOf20
 v20:=zeroValue20
 t37:=underlying24
 a37:=isAgg24
 z37:=sizeOf24
 v37:=zeroValue24
 t75:=underlying224
 a75:=isAgg224
 z75:=sizeOf224
 v75:=zeroValue224
 g14:=by kernel_rfl
 t5:=underlying5
 a5:=isAgg5
 z5:=sizeOf5
 v5:=zeroValue5
 t9:=underlying9
 a9:=isAgg9
 z9:=sizeOf9
 v9:=zeroValue9
 t80:=underlying143
 a80:=isAgg143
 z80:=sizeOf143
 v80:=zeroValue143
 i0:=by kernel_rfl
 i3:=by kernel_rfl
 i4:=by kernel_rfl
 i5:=by kernel_rfl
 i9:=by kernel_rfl
 i20:=by kernel_rfl
 i37:=by kernel_rfl
 i75:=by kernel_rfl
 i80:=by kernel_rfl
 m14:=by kernel_rfl}
open Go.RowKit in
theorem Tryz.bytes_growSlice_row(g l c n:Nat)(cur:Array Value)(w:World)(hg:w.heap[g]?=some (.cells cur 5 (0,0)))(hcs:cur.size=c)(hlc:l<=c)(hn:1<=n)(hlim:l+n<=140737488355328)(hc2:c<=140737488355328)(h1:∀ v∈cur.toList.take l,v.oneCell'=true):
  Calls prog 226 #[.slice (some ⟨g,0,none⟩) l c,.int .i64 n] w fun e w'=> ∃cap2 cells,e= .returned (.slice (some ⟨w.heap.size,0,none⟩) l cap2)/\w'.heap[w.heap.size]?=some (.cells cells 5 (0,0))/\
   cells.size=cap2/\cells.toList.take l=cur.toList.take l/\l+n<=cap2/\cap2<=maxLen/\Below w.heap.size w w':=Any.bytes_growSlice_row Tryz.laysM290 g l c n cur w hg hcs hlc hn hlim hc2 h1
open Go.RowKit in
theorem Tryz.bytes_growSlice_nil(n:Nat)(w:World)(hn:1<=n)(hlim:n<=140737488355328):
  Calls prog 226 #[.slice none 0 0,.int .i64 n] w fun e w'=> ∃cap2 cells,e= .returned (.slice (some ⟨w.heap.size,0,none⟩) 0 cap2)/\w'.heap[w.heap.size]?=some (.cells cells 5 (0,0))/\
   cells.size=cap2/\n<=cap2/\cap2<=maxLen/\Below w.heap.size w w':=Any.bytes_growSlice_nil Tryz.laysM290 n w hn hlim
def Tryz.lays146_ren:Go.Shelf.Ren:=⟨fun | 146=>193 | 221=>238 | 268=>275 | 138=>276 | 143=>277 | 195=>321 | 197=>322 | 218=>323 | 219=>324 | 260=>368 | 217=>369 | 225=>370 | 224=>371 | 267=>372 | 266=>392 | 314=>393 | n=>n,fun | 9=>9 | 31=>27 | 3=>3 | 4=>4 | 0=>0 | 105=>494 | 21=>21 | 5=>5 | 46=>399 | 119=>547 | 139=>550 | 138=>549 | 146=>489 | 51=>462 | n=>n,fun | 1=>1 | 3=>3 | 4=>4 | n=>n⟩
theorem Tryz.lays146:Go.Proofs.Lays.n146 prog Tryz.lays146_ren:={
 mixed:=by kernel_rfl
 f138:=func276.trans (congrArg some y1)
 f143:=func277.trans (congrArg some y1)
 f146:=func193.trans (congrArg some y1)
 f195:=func321.trans (congrArg some y1)
 f197:=func322.trans (congrArg some y1)
 f217:=func369.trans (congrArg some y1)
 f218:=func323.trans (congrArg some y1)
 f219:=func324.trans (congrArg some y1)
 f221:=func238.trans (congrArg some y1)
 f224:=func371.trans (congrArg some y1)
 f225:=func370.trans (congrArg some y1)
 f260:=func368.trans (congrArg some y1)
 f266:=func392.trans (congrArg some y1)
 f267:=func372.trans (congrArg some y1)
 f268:=func275.trans (congrArg some y1)
 f314:=func393.trans (congrArg some y1)
 t0:=underlying0
 a0:=isAgg0
 z0:=sizeOf0
 v0:=zeroValue0
 t3:=underlying3
 a3:=isAgg3
 z3:=sizeOf3
 v3:=zeroValue3
 t4:=underlying4
 a4:=isAgg4
 z4:=sizeOf4
 v4:=zeroValue4
 t5:=underlying5
 a5:=isAgg5
 z5:=sizeOf5
 v5:=zeroValue5
 t9:=underlying9
 a9:=isAgg9
 z9:=sizeOf9
 v9:=zeroValue9
 t21:=underlying21
 a21:=isAgg21
 z21:=sizeOf21
 v21:=zeroValue21
 t31:=underlying27
 a31:=isAgg27
 z31:=sizeOf27
 v31:=zeroValue27
 t46:=underlying399
 a46:=isAgg399
 z46:=sizeOf399
 v46:=zeroValue399
 t51:=underlying462
 a51:=isAgg462
 z51:=sizeOf462
 v51:=zeroValue462
 t105:=underlying494
 a105:=isAgg494
 z105:=sizeOf494
 v105:=zeroValue494
 t119:=underlying547
 a119:=isAgg547
 z119:=sizeOf547
 t138:=underlying549
 a138:=isAgg549
 z138:=sizeOf549
 v138:=zeroValue549
 t139:=underlying550
 a139:=isAgg550
 z139:=sizeOf550
 v139:=zeroValue550
 t146:=underlying489
 a146:=isAgg489
 z146:=sizeOf489
 v146:=zeroValue489
 g1:=by kernel_rfl
 g3:=by kernel_rfl
 g4:=by kernel_rfl}
open Go.RowKit Go.Lib in
theorem Tryz.strings_Split(s sep:ByteArray)(m:Int)(w:World)(hs:s.size<4294967281)(hm:w.cell? ⟨1,0,none⟩=some (.int .i64 m))(h1:1<=sep.size):
  Calls prog 193 #[.string s,.string sep] w fun e w'=>
   e= .returned (.slice (some ⟨w.heap.size,0,none⟩) (Lib.countB s sep+1) (Lib.countB s sep+1))/\w'=w.alloc (.cells ((Lib.splitB sep 0 (Lib.countB s sep) s).map Value.string).toArray 9):=Any.strings_Split Tryz.lays146 y1 s sep m w hs hm h1
def Tryz.laysM146_ren:Go.Shelf.Ren:=⟨fun | 146=>193 | 221=>238 | 268=>275 | 138=>276 | 143=>277 | 195=>321 | 197=>322 | 218=>323 | 219=>324 | 260=>368 | 217=>369 | 225=>370 | 224=>371 | 267=>372 | 266=>392 | 314=>393 | n=>n,fun | 9=>9 | 31=>27 | 3=>3 | 4=>4 | 0=>0 | 105=>494 | 21=>21 | 5=>5 | 46=>399 | 119=>547 | 139=>550 | 138=>549 | 146=>489 | 51=>462 | n=>n,fun | 1=>1 | 3=>3 | 4=>4 | n=>n⟩
theorem Tryz.laysM146:Go.Proofs.LaysM.n146 prog Tryz.laysM146_ren:={
 mixed:=by kernel_rfl
 f138:=func276.trans (congrArg some y1)
 f143:=func277.trans (congrArg some y1)
 f146:=func193.trans (congrArg some y1)
 f195:=func321.trans (congrArg some y1)
 f197:=func322.trans (congrArg some y1)
 f217:=func369.trans (congrArg some y1)
 f218:=func323.trans (congrArg some y1)
 f219:=func324.trans (congrArg some y1)
 f221:=func238.trans (congrArg some y1)
 f224:=func371.trans (congrArg some y1)
 f225:=func370.trans (congrArg some y1)
 f260:=func368.trans (congrArg some y1)
 f266:=func392.trans (congrArg some y1)
 f267:=func372.trans (congrArg some y1)
 f268:=func275.trans (congrArg some y1)
 f314:=func393.trans (congrArg some y1)
 t0:=underlying0
 a0:=isAgg0
 z0:=sizeOf0
 v0:=zeroValue0
 t3:=underlying3
 a3:=isAgg3
 z3:=sizeOf3
 v3:=zeroValue3
 t4:=underlying4
 a4:=isAgg4
 z4:=sizeOf4
 v4:=zeroValue4
 t5:=underlying5
 a5:=isAgg5
 z5:=sizeOf5
 v5:=zeroValue5
 t9:=underlying9
 a9:=isAgg9
 z9:=sizeOf9
 v9:=zeroValue9
 t21:=underlying21
 a21:=isAgg21
 z21:=sizeOf21
 v21:=zeroValue21
 t31:=underlying27
 a31:=isAgg27
 z31:=sizeOf27
 v31:=zeroValue27
 t46:=underlying399
 a46:=isAgg399
 z46:=sizeOf399
 v46:=zeroValue399
 t51:=underlying462
 a51:=isAgg462
 z51:=sizeOf462
 v51:=zeroValue462
 t105:=underlying494
 a105:=isAgg494
 z105:=sizeOf494
 v105:=zeroValue494
 t119:=underlying547
 a119:=isAgg547
 z119:=sizeOf547
 t138:=underlying549
 a138:=isAgg549
 z138:=sizeOf549
 v138:=zeroValue549
 t139:=underlying550
 a139:=isAgg550
 z139:=sizeOf550
 v139:=zeroValue550
 t146:=underlying489
 a146:=isAgg489
 z146:=sizeOf489
 v146:=zeroValue489
 g1:=by kernel_rfl
 g3:=by kernel_rfl
 g4:=by kernel_rfl
 i0:=by kernel_rfl
 i3:=by kernel_rfl
 i4:=by kernel_rfl
 i5:=by kernel_rfl
 i9:=by kernel_rfl
 i21:=by kernel_rfl
 i31:=by kernel_rfl
 i46:=by kernel_rfl
 i51:=by kernel_rfl
 i105:=by kernel_rfl
 i138:=by kernel_rfl
 i139:=by kernel_rfl
 i146:=by kernel_rfl
 m1:=by kernel_rfl
 s1_3:=fun w h=>Go.Proofs.cell_of_shapedOpen_int (zero:= #[.int .i64 0]) (t:=3) h (of_decide_eq_true y1) y1 rfl y1 y1 underlying3
 m3:=by kernel_rfl
 m4:=by kernel_rfl}
def Tryz.lays105_ren:Go.Shelf.Ren:=⟨fun | 105=>229 | 212=>266 | 99=>138 | 165=>267 | 166=>268 | 170=>269 | 169=>270 | 263=>317 | 264=>318 | 206=>197 | 240=>319 | 241=>320 | 276=>366 | 277=>367 | n=>n,fun | 9=>9 | 3=>3 | 4=>4 | 20=>20 | 0=>0 | 46=>399 | 109=>445 | 5=>5 | 72=>449 | 76=>225 | 51=>462 | 146=>489 | 53=>464 | 148=>491 | 70=>447 | 37=>24 | 75=>224 | 127=>493 | 164=>532 | 80=>143 | n=>n,fun | n=>n⟩
theorem Tryz.lays105:Go.Proofs.Lays.n105 prog Tryz.lays105_ren:={
 mixed:=by kernel_rfl
 f99:=func138.trans (congrArg some y1)
 f105:=func229.trans (congrArg some y1)
 f165:=func267.trans (congrArg some y1)
 f166:=func268.trans (congrArg some y1)
 f169:=func270.trans (congrArg some y1)
 f170:=func269.trans (congrArg some y1)
 f206:=func197.trans (congrArg some y1)
 f212:=func266.trans (congrArg some y1)
 f240:=func319.trans (congrArg some y1)
 f241:=func320.trans (congrArg some y1)
 f263:=func317.trans (congrArg some y1)
 f264:=func318.trans (congrArg some y1)
 f276:=func366.trans (congrArg some y1)
 f277:=func367.trans (congrArg some y1)
 t0:=underlying0
 a0:=isAgg0
 z0:=sizeOf0
 v0:=zeroValue0
 t3:=underlying3
 a3:=isAgg3
 z3:=sizeOf3
 v3:=zeroValue3
 t4:=underlying4
 a4:=isAgg4
 z4:=sizeOf4
 v4:=zeroValue4
 t5:=underlying5
 a5:=isAgg5
 z5:=sizeOf5
 v5:=zeroValue5
 t9:=underlying9
 a9:=isAgg9
 z9:=sizeOf9
 v9:=zeroValue9
 t20:=underlying20
 a20:=isAgg20
 z20:=sizeOf20
 v20:=zeroValue20
 t37:=underlying24
 a37:=isAgg24
 z37:=sizeOf24
 v37:=zeroValue24
 t46:=underlying399
 a46:=isAgg399
 z46:=sizeOf399
 v46:=zeroValue399
 t51:=underlying462
 a51:=isAgg462
 z51:=sizeOf462
 v51:=zeroValue462
 t53:=underlying464
 a53:=isAgg464
 z53:=sizeOf464
 v53:=zeroValue464
 t70:=underlying447
 a70:=isAgg447
 z70:=sizeOf447
 v70:=zeroValue447
 t72:=underlying449
 a72:=isAgg449
 z72:=sizeOf449
 v72:=zeroValue449
 t75:=underlying224
 a75:=isAgg224
 z75:=sizeOf224
 v75:=zeroValue224
 t76:=underlying225
 a76:=isAgg225
 z76:=sizeOf225
 v76:=zeroValue225
 t109:=underlying445
 a109:=isAgg445
 z109:=sizeOf445
 v109:=zeroValue445
 t127:=underlying493
 a127:=isAgg493
 z127:=sizeOf493
 v127:=zeroValue493
 t146:=underlying489
 a146:=isAgg489
 z146:=sizeOf489
 v146:=zeroValue489
 t148:=underlying491
 a148:=isAgg491
 z148:=sizeOf491
 v148:=zeroValue491
 t164:=underlying532
 a164:=isAgg532
 z164:=sizeOf532
 v164:=zeroValue532}
theorem aj0:Builder.Extra prog Tryz.lays105_ren:={
 sizeBuilder:=by kernel_rfl
 liesBuilder:=by kernel_rfl
 t5:=underlying5
 a5:=isAgg5
 z5:=sizeOf5
 v5:=zeroValue5
 infoByte:=by kernel_rfl
 cellsByte:=by kernel_rfl
 sizeByte:=by kernel_rfl
 neB5:=by decide}
open Go.RowKit Go.Lib in
theorem Tryz.strings_Repeat(s:ByteArray)(c:Nat)(w:World)(hc:c<=9223372036854775807)(hlen:s.size*c<=140737488355328):
  Calls prog 229 #[.string s,.int .i64 c] w fun e w'=>e= .returned (.string ⟨(Lib.repeatL s.data.toList c).toArray⟩)/\Below w.heap.size w w':=Any.strings_Repeat Tryz.lays105 aj0 s c w hc hlen
def akh:Go.Shelf.Ren:=⟨fun | 7=>137 | 10=>196 | n=>n,fun | 23=>237 | 26=>9 | 3=>164 | 28=>270 | 0=>0 | 27=>269 | 33=>99 | 4=>4 | n=>n,fun | n=>n⟩
theorem ao6:Go.Proofs.SlLaysZ.n7 prog akh:={
 mixed:=by kernel_rfl
 f7:=⟨f137.name,y0,func137.trans (congrArg some y1)⟩
 f10:=⟨f196.name,y0,func196.trans (congrArg some y1)⟩
 t0:=underlying0
 a0:=isAgg0
 z0:=sizeOf0
 v0:=zeroValue0
 t4:=underlying4
 a4:=isAgg4
 z4:=sizeOf4
 v4:=zeroValue4
 t23:=underlying237
 a23:=isAgg237
 z23:=sizeOf237
 v23:=zeroValue237
 t26:=underlying9
 a26:=isAgg9
 z26:=sizeOf9
 v26:=zeroValue9
 t27:=underlying269
 a27:=isAgg269
 z27:=sizeOf269
 v27:=zeroValue269
 t28:=underlying270
 a28:=isAgg270
 z28:=sizeOf270
 v28:=zeroValue270
 t33:=underlying99
 a33:=isAgg99
 z33:=sizeOf99
 v33:=zeroValue99}
def aiE:Go.Shelf.Ren:=⟨fun | 6=>136 | 8=>194 | 9=>195 | 11=>239 | 13=>241 | 12=>240 | 23=>287 | 24=>288 | 14=>278 | 15=>279 | 16=>280 | 17=>281 | 18=>282 | 19=>283 | 20=>284 | 21=>285 | 22=>286 | 25=>325 | 26=>326 | 27=>327 | 28=>328 | 29=>329 | 30=>261 | 31=>373 | n=>n,fun | 26=>9 | 28=>270 | 24=>27 | 0=>0 | 3=>3 | 37=>399 | 48=>462 | 50=>464 | 4=>4 | 40=>456 | 39=>455 | 45=>300 | 5=>5 | 9=>9 | 51=>496 | 55=>500 | 57=>534 | 58=>344 | 33=>99 | n=>n,fun | n=>n⟩
theorem amx:Go.Proofs.SlLaysZ.n6 prog aiE:={
 mixed:=by kernel_rfl
 f6:=⟨f136.name,y0,func136.trans (congrArg some y1)⟩
 f8:=⟨f194.name,y0,func194.trans (congrArg some y1)⟩
 f11:=⟨f239.name,y0,func239.trans (congrArg some y1)⟩
 t0:=underlying0
 a0:=isAgg0
 z0:=sizeOf0
 v0:=zeroValue0
 t24:=underlying27
 a24:=isAgg27
 z24:=sizeOf27
 v24:=zeroValue27
 t26:=underlying9
 a26:=isAgg9
 z26:=sizeOf9
 v26:=zeroValue9
 t28:=underlying270
 a28:=isAgg270
 z28:=sizeOf270
 v28:=zeroValue270
 i26:=by kernel_rfl}
def aou:Go.Shelf.Ren:=⟨fun | 6=>195 | 8=>241 | 9=>240 | 19=>287 | 20=>288 | 21=>278 | 22=>279 | 23=>280 | 24=>281 | 25=>282 | 26=>283 | 27=>284 | 28=>285 | 29=>286 | 36=>325 | 31=>326 | 32=>327 | 37=>328 | 38=>329 | 39=>261 | 41=>373 | n=>n,fun | 27=>27 | 29=>9 | 3=>3 | 32=>399 | 26=>27 | 0=>0 | 44=>462 | 46=>464 | 4=>4 | 36=>456 | 35=>455 | 41=>300 | 5=>5 | 9=>9 | 53=>496 | 57=>500 | 63=>534 | 64=>344 | n=>n,fun | n=>n⟩
theorem ao7:Go.Proofs.SlLaysM.n6 prog aou:={
 mixed:=by kernel_rfl
 f6:=⟨f195.name,y0,func195.trans (congrArg some y1)⟩
 f8:=func241.trans (congrArg some y1)
 f9:=⟨f240.name,y0,func240.trans (congrArg some y1)⟩
 f19:=func287.trans (congrArg some y1)
 f20:=func288.trans (congrArg some y1)
 f21:=⟨f278.name,y0,func278.trans (congrArg some y1)⟩
 f22:=⟨f279.name,y0,func279.trans (congrArg some y1)⟩
 f23:=⟨f280.name,y0,func280.trans (congrArg some y1)⟩
 f24:=⟨f281.name,y0,func281.trans (congrArg some y1)⟩
 f25:=⟨f282.name,y0,func282.trans (congrArg some y1)⟩
 f26:=⟨f283.name,y0,func283.trans (congrArg some y1)⟩
 f27:=⟨f284.name,y0,func284.trans (congrArg some y1)⟩
 f28:=⟨f285.name,y0,func285.trans (congrArg some y1)⟩
 f29:=⟨f286.name,y0,func286.trans (congrArg some y1)⟩
 f31:=func326.trans (congrArg some y1)
 f32:=func327.trans (congrArg some y1)
 f36:=⟨f325.name,y0,func325.trans (congrArg some y1)⟩
 f37:=⟨f328.name,y0,func328.trans (congrArg some y1)⟩
 f38:=⟨f329.name,y0,func329.trans (congrArg some y1)⟩
 f39:=⟨f261.name,y0,func261.trans (congrArg some y1)⟩
 f41:=⟨f373.name,y0,func373.trans (congrArg some y1)⟩
 t0:=underlying0
 a0:=isAgg0
 z0:=sizeOf0
 v0:=zeroValue0
 t3:=underlying3
 a3:=isAgg3
 z3:=sizeOf3
 v3:=zeroValue3
 t4:=underlying4
 a4:=isAgg4
 z4:=sizeOf4
 v4:=zeroValue4
 t5:=underlying5
 a5:=isAgg5
 z5:=sizeOf5
 v5:=zeroValue5
 t9:=underlying9
 a9:=isAgg9
 z9:=sizeOf9
 v9:=zeroValue9
 t26:=underlying27
 a26:=isAgg27
 z26:=sizeOf27
 v26:=zeroValue27
 t27:=underlying27
 a27:=isAgg27
 z27:=sizeOf27
 v27:=zeroValue27
 t29:=underlying9
 a29:=isAgg9
 z29:=sizeOf9
 v29:=zeroValue9
 t32:=underlying399
 a32:=isAgg399
 z32:=sizeOf399
 v32:=zeroValue399
 t35:=underlying455
 a35:=isAgg455
 z35:=sizeOf455
 v35:=zeroValue455
 t36:=underlying456
 a36:=isAgg456
 z36:=sizeOf456
 v36:=zeroValue456
 t41:=underlying300
 a41:=isAgg300
 z41:=sizeOf300
 v41:=zeroValue300
 t44:=underlying462
 a44:=isAgg462
 z44:=sizeOf462
 v44:=zeroValue462
 t46:=underlying464
 a46:=isAgg464
 z46:=sizeOf464
 v46:=zeroValue464
 t53:=underlying496
 a53:=isAgg496
 z53:=sizeOf496
 v53:=zeroValue496
 t57:=underlying500
 a57:=isAgg500
 z57:=sizeOf500
 v57:=zeroValue500
 t63:=underlying534
 a63:=isAgg534
 z63:=sizeOf534
 v63:=zeroValue534
 t64:=underlying344
 a64:=isAgg344
 z64:=sizeOf344
 v64:=zeroValue344}
open Go.RowKit Go.Maps Go.Sort in
theorem Tryz.sorts136(m:Nat):AnyZ.SortsIn prog aiE Fence.wide m:=
 ⟨fun blk off cap ss W hH hblk hsz=>callsIn_wide.2 (AnyM.slices_Sort_string ao7 blk off cap ss W hH hblk hsz),
  fun p cap W=>callsIn_wide.2 (AnyM.slices_Sort_string_none ao7 p cap W)⟩
open Go.RowKit Go.Maps Go.Sort in
theorem Tryz.maps_Keys_137(mb:Option Nat)(W:World):CallsIn Fence.wide 5 prog 137 #[.map mb] W fun e w'=>e= .returned (.func (.func 196) #[] #[.pointer (some ⟨W.heap.size,0,none⟩)])/\w'=W.alloc (.cells #[.map mb] 237):=
 AnyZ.keys_in ao6 Fence.wide 5 trivial rfl mb W
def aki:Go.Shelf.Ren:=⟨fun | 7=>198 | 10=>242 | n=>n,fun | 23=>240 | 26=>9 | 3=>255 | 28=>270 | 0=>0 | 27=>269 | 33=>99 | 4=>4 | n=>n,fun | n=>n⟩
theorem ao8:Go.Proofs.SlLaysZ.n7 prog aki:={
 mixed:=by kernel_rfl
 f7:=⟨f198.name,y0,func198.trans (congrArg some y1)⟩
 f10:=⟨f242.name,y0,func242.trans (congrArg some y1)⟩
 t0:=underlying0
 a0:=isAgg0
 z0:=sizeOf0
 v0:=zeroValue0
 t4:=underlying4
 a4:=isAgg4
 z4:=sizeOf4
 v4:=zeroValue4
 t23:=underlying240
 a23:=isAgg240
 z23:=sizeOf240
 v23:=zeroValue240
 t26:=underlying9
 a26:=isAgg9
 z26:=sizeOf9
 v26:=zeroValue9
 t27:=underlying269
 a27:=isAgg269
 z27:=sizeOf269
 v27:=zeroValue269
 t28:=underlying270
 a28:=isAgg270
 z28:=sizeOf270
 v28:=zeroValue270
 t33:=underlying99
 a33:=isAgg99
 z33:=sizeOf99
 v33:=zeroValue99}
open Go.RowKit Go.Maps Go.Sort in
theorem Tryz.maps_Keys_198(mb:Option Nat)(W:World):CallsIn Fence.wide 5 prog 198 #[.map mb] W fun e w'=>e= .returned (.func (.func 242) #[] #[.pointer (some ⟨W.heap.size,0,none⟩)])/\w'=W.alloc (.cells #[.map mb] 240):=
 AnyZ.keys_in ao8 Fence.wide 5 trivial rfl mb W
end Go.Proofs
namespace Go.Proofs.YtomdigihapdhnaaGreatDoor.Pa
open Go SL G
variable{B:World}{ro I I':AH}{tag tag':Nat->Nat}
variable{Q:Bool->AH->Prop}{s:ByteArray}
theorem inc(j:Nat)(h:j<4611686018427387904):i64.wrap ((j:Int)+1)=((j+1:Nat):Int):=by rw[SL.wd z7 z7];try rfl
theorem ai6{a p:ByteArray}(hQ:Q ((L p).isPrefixOf (L a)) I):pZ B ro a p I Q:=by
 refine ahU fun _=>?_
 unfold abm
 refine af1 fun _=>?_
 unfold uj kG
 by_cases h:p.size<=a.size
 .rw[mc z7]
  refine⟨⟨⟨z7,z7⟩,trivial⟩,?_⟩
  have e:decide (a.extract 0 (Int.toNat (p.size:Int))=p)=(L p).isPrefixOf (L a):=by
   rw[mr,Bool.eq_iff_iff,me,List.isPrefixOf_iff_prefix,List.prefix_iff_eq_take]
   constructor
   .intro h';conv=>lhs;rw[<-h']
    rw[<-S_L a,adz];simp[zd]
   .intro h'
    apply yI
    rw[<-S_L a,adz];simp only[L_S,List.drop_zero]
    rw[zd]at h';exact h'.symm
  rw[e];exact hQ
 .rw[ma z7]
  have e:(L p).isPrefixOf (L a)=false:=by
   rw[Bool.eq_false_iff]
   intro h'
   have:=(List.isPrefixOf_iff_prefix.1 h').length_le
   rw[zd,zd]at this;exact h this
  rw[e]at hQ;exact hQ
theorem ao9{Q:Int->AH->Prop}(hs:s.size<4611686018427387904)(hQ:Q (li (L s) s.size) I):jD B ro s 47 I Q:=by
 refine af2 fun _=>?_
 unfold uk
 refine ad2 fun _=>?_
 unfold jA
 rw[SL.wd z7 z7]
 suffices∀k,k<=s.size->Q (li (L s) k) I->lfpD (ve B ro s 47 Q) ((k:Int) - 1) I from this s.size (mK _) hQ
 intro k
 induction k with
 | zero=>
  intro _ h
  refine lfpD.intro ?_
  unfold ve
  rw[ma z7]
  exact h
 | succ k ih=>
  intro hk h
  refine lfpD.intro ?_
  unfold ve
  rw[mc z7]
  have e:((k+1:Nat):Int) - 1=k:=by omega
  rw[e]
  have hkl:k<(L s).length:=by rw[zd];omega
  have hg:s[k]?=some ((L s)[k]):=by
   conv=>lhs;rw[<-S_L s]
   rw[atO,md hkl]
  refine⟨(L s)[k],z7,by rw[mr];exact hg,?_⟩
  unfold li at h
  rw[md hkl]at h
  by_cases c:(L s)[k]=47
  .rw[mc (by rw[c])]at h
   rw[mc (by rw[c];try rfl)]
   exact h
  .rw[ma (j2 c)]at h
   rw[ma,SL.wd z7 z7]
   .exact ih z7 h
   .intro h'
    refine c (UInt8.toNat_inj.1 ?_)
    have:((L s)[k].toNat:Int)=47:=h'
    show(L s)[k].toNat=47
    omega
theorem am8{P:Program}{t:TypeId}{s:ByteArray}{K:Value->AH->Prop}(ht:P.underlying t=some .string)(h:∀ b,ro b=none->I b=none->K (.pointer (some ⟨b,0,none⟩)) (upd I b (.stringIter s 0))):awp P ro (Instr.range t (.string s)) K I:=by
 unfold Instr.range
 simp only[qx]
 rw[qz ht]
 exact h
theorem ai7{P:Program}{t:TypeId}{b pos:Nat}{K:Value->AH->Prop}(hro:ro b=none)(hb:I b=some (.stringIter s pos))(h1:s.size<=pos->K (.tuple #[.bool false]) I)
  (h2:pos<s.size->K (.tuple #[.bool true,.int .i64 pos,.int .i32 (Utf8.decode s pos).1]) (upd I b (.stringIter s (pos+(Utf8.decode s pos).2)))):awp P ro (Instr.next (.pointer (some ⟨b,0,none⟩)) true t) K I:=by
 unfold Instr.next
 refine⟨.stringIter s pos,by unfold rd;rw[hro];exact hb,rfl,?_⟩
 show awp P ro (if pos<s.size then _ else _) K I
 by_cases h:pos<s.size
 .rw[mc h]
  exact⟨_,hb,rfl,h2 h⟩
 .rw[ma h]
  exact h1 z7
theorem apW(s:ByteArray)(pos:Nat)(h:¬ (s.get! pos).toNat<128):128<=(Utf8.decode s pos).1:=by
 unfold Utf8.decode
 simp only[Nat.add_zero]
 rw[ma h]
 repeat' split
 all_goals simp_all [Utf8.runeError]
 all_goals omega
theorem afM(hQ:Q (qP (L s)) I):pq B ro s I Q:=by
 refine qc.quiet (R:=fun v=>v= .bool (qP (L s))) ?_ (fun v hv=>⟨_,hv,hQ⟩)
 have:pq B ro s (fun _=>none) fun r _=>r=qP (L s):=by
  refine anH fun hs=>?_
  unfold agY
  by_cases g:((s=⟨#[]⟩\/32<(s.size:Int))\/s=⟨#[46]⟩)\/s=⟨#[46,46]⟩
  .rw[mc g]
   show false=qP (L s)
   symm
   rw[Bool.eq_false_iff]
   intro h
   unfold qP at h
   simp only[mw,mP,bne_iff_ne]at h
   obtain⟨⟨⟨⟨h1,h2⟩,h3⟩,h4⟩,_⟩:=h
   rcases g with((g | g) | g) | g
   .rw[g]at h1;simp[L]at h1
   .rw[zd]at h2;omega
   .rw[g]at h3;exact h3 rfl
   .rw[g]at h4;exact h4 rfl
  .rw[ma g]
   have hall:qP (L s)=(L s).all okc:=by
    unfold qP
    have e1:1<=(L s).length:=by
     rw[zd]
     rcases nc s.size with h0 | h0
     .exact mu (.inl (.inl (.inl (yI (mO h0))))) g
     .exact h0
    have e2:(L s).length<=32:=by
     rw[zd]
     rcases mL 32 s.size with h0 | h0
     .exact mu (.inl (.inl (.inr z7))) g
     .exact h0
    have e3:L s≠[46]:=fun h=>g (.inl (.inr (yI h)))
    have e4:L s≠[46,46]:=fun h=>g (.inr (yI h))
    simp[e1,e2,e3,e4]
   rw[hall]
   have h9:prog.underlying 9=some .string:=by kernel_rfl
   have hr:= @am8 ro (fun _=>none) prog 9 s (fun v I=> ∃p21_2,v=Value.pointer (some p21_2)/\lfpD (pM B ro p21_2 fun r x=>r=List.all (L s) okc) () I) h9
   refine hr ?_
   intro b hro hb
   refine⟨⟨b,0,none⟩,rfl,?_⟩
   suffices∀m pos,pos+m=s.size->(∀i,i<pos->∀ c,(L s)[i]?=some c->okc c=true)->∀ I:AH,I b=some (.stringIter s pos)->lfpD (pM B ro ⟨b,0,none⟩ fun r _=>r=(L s).all okc) () I from
    this s.size 0 (ml _) (fun i h=>mu h (Nat.not_lt_zero _)) _ (qC _ _ _)
   intro m
   induction m with
   | zero=>
    intro pos hp hk I hσ
    refine lfpD.intro ?_
    unfold pM
    refine ai7 hro hσ (fun _=> .inl ⟨rfl,?_⟩) (fun h=>by omega)
    show true=(L s).all okc
    symm
    rw[mD]
    intro c hc
    obtain⟨i,hi,e⟩:=mZ hc
    exact hk i (by rw[zd]at hi;omega) c (by rw[md hi,e])
   | succ m ih=>
    intro pos hp hk I hσ
    have hpl:pos<(L s).length:=by rw[zd];omega
    have hps:pos<s.size:=by omega
    have hget:s[pos]'hps=(L s)[pos]:=rfl
    have hgb:s.get! pos=(L s)[pos]:=by
     have e:s.get! pos=s.data[pos]!:= rfl
     rw[e,getElem!_pos s.data pos (by exact hps)]
     try rfl
    refine lfpD.intro ?_
    unfold pM
    refine ai7 hro hσ (fun h=>by omega) (fun _=> .inr ⟨pos,_,rfl,?_⟩)
    by_cases ha:((L s)[pos]).toNat<128
    .rw[decode_ascii s pos hps (by rw[hget];exact ha),hget]
     have step:∀ x:Bool,x=okc ((L s)[pos])->xt B ro ⟨b,0,none⟩ (fun r _=>r=(L s).all okc) (lfpD (pM B ro ⟨b,0,none⟩ fun r _=>r=(L s).all okc)) x (upd I b (.stringIter s (pos+1))):=by
      intro x hx
      unfold xt
      split
      .rename_i hx'
       refine ih (pos+1) z7 (fun i hi c hc=>?_) _ (qC _ _ _)
       rcases mL i pos with h | h
       .exact hk i h c hc
       .have:i=pos:=by omega
        subst this
        rw[md hpl]at hc
        cases hc
        exact hx.symm.trans hx'
      .rename_i hx'
       show false=(L s).all okc
       symm
       rw[Bool.eq_false_iff,ne_eq,mD]
       intro h
       exact hx' (hx.trans (h _ (mG hpl)))
     simp only
     generalize (L s)[pos]=c at step
     have iff:∀ x:Bool,(x=true↔okc c=true)->x=okc c:=fun x h=>Bool.eq_iff_iff.2 h
     by_cases b1:(97:Int)<=(c.toNat:Int)/\(c.toNat:Int)<=122
     .rw[mc b1]
      exact step _ (iff _ (by simp[okc];omega))
     .rw[ma b1]
      by_cases b2:(48:Int)<=(c.toNat:Int)/\(c.toNat:Int)<=57
      .rw[mc b2]
       exact step _ (iff _ (by simp[okc];omega))
      .rw[ma b2]
       by_cases b3:(c.toNat:Int)=46
       .rw[mc b3]
        exact step _ (iff _ (by simp[okc];omega))
       .rw[ma b3]
        by_cases b4:(c.toNat:Int)=95
        .rw[mc b4]
         exact step _ (iff _ (by simp[okc];omega))
        .rw[ma b4]
         exact step _ (iff _ (by simp[okc];omega))
    .have hbig:=apW s pos (by rw[hgb];exact ha)
     generalize (Utf8.decode s pos).1=x at hbig
     generalize (Utf8.decode s pos).2=y
     have hno:false=(L s).all okc:=by
      symm
      rw[Bool.eq_false_iff,ne_eq,mD]
      intro h
      have:=h _ (mG hpl)
      simp[okc]at this
      omega
     rw[ma z7,ma z7,ma z7,ma z7]
     unfold xt
     rw[ma j0]
     exact hno
 exact qc.mono this fun v τ ⟨r,hv,hr⟩=>by rw[hv,hr]
end Go.Proofs.YtomdigihapdhnaaGreatDoor.Pa
namespace Go.Proofs.YtomdigihapdhnaaGreatDoor.Pa
open Go SL G Go.RowKit
variable{s:ByteArray}{Q:ByteArray->Int->AH->Prop}{l ps:List Str}{i r:Nat}
structure wW(ro:AH):Prop where
 maxlen:∃ m o,ro 1=some o/\vw ⟨1,0,none⟩ (some o)=some (.int .i64 m)
 tab:∀ w:World,(∀b o,ro b=some o->w.heap[b]?=some o)->Lib.TabIs prog w "internal/strconv.uint64pow10" .u64 Lib.pow10Tab
variable{B:World}{ro I I':AH}{tag tag':Nat->Nat}
theorem apa{w:World}(h:alL ro I w):∀ b o,ro b=some o->w.heap[b]?=some o:=fun b o hb=>h b o (by unfold rd;rw[hb])
abbrev vS(l:Str):Value:= .string (S l)
theorem asm{Q:Sl->AH->Prop}(r:Nat)(g:wW ro)(hs:s.size<4294967281)(hQ:∀ sl tag' I',(∀R,qd R ro tag I tag' I')->Row tag' I' r 9 sl ((cut (L s)).map vS)->Q sl I'):
  agE B ro s (⟨#[47]⟩:ByteArray) I Q:=by
 refine qc.of_calls fun w hw hsep=>?_
 obtain⟨m,o,h0,h1⟩:=g.maxlen
 have hm:w.cell? ⟨1,0,none⟩=some (.int .i64 m):=by rw[cell?_eq,apa hw 1 o h0];exact h1
 refine(Tryz.strings_Split s (S [47]) m w hs hm y0).mono ?_
 rintro e w' ⟨he,rfl⟩
 have hmap:(Lib.splitB (S [47]) 0 (Lib.countB s (S [47])) s).map Value.string=(cut (L s)).map vS:=by
  rw[<-amw,nP]
  refine List.map_congr_left fun x _=>?_
  simp[vS]
 have hlen:(cut (L s)).length=Lib.countB s (S [47])+1:=by
  have:=Lib.splitB_all (S [47]) y0 0 _ s rfl
  rw[<-amw,mi,this]
 obtain⟨N,tag',hN,hst,hrow⟩:=ab7 (tag:=tag) (w':=w.alloc (.cells ((Lib.splitB (S [47]) 0 (Lib.countB s (S [47])) s).map Value.string).toArray 9)) r hw hsep (mK w.heap.size) (heap_alloc_new w _)
 refine⟨_,N,he,(Below.refl _ w).alloc (mK _) _,hN,⟨some ⟨w.heap.size,0,none⟩,Lib.countB s (S [47])+1,Lib.countB s (S [47])+1⟩,rfl,?_⟩
 refine hQ _ tag' _ hst (hrow _ _ _ ?_ ?_ (mK _) ?_)
 .rw[mi,hlen]
 .rw[hmap];simp[hlen]
 .rw[hmap];simp only[List.toList_toArray]
  rw[mH (by simp[hlen])]
theorem Row.sget{e:TypeId}{s:Sl}(h:Row tag I r e s (l.map vS))(hs:SL.Sep ro I)(hi:i<l.length):
  ∃p,s.a=some p/\s.len=l.length/\∀ j (hj:j<l.length),qa ro I (p.add (j*1))=some (vS l[j]):=by
 obtain⟨p,hp,hg⟩:=h.ptr hs j0
 refine⟨p,hp,by rw[h.len];simp,fun j hj=>hg j _ ?_⟩
 rw[mg,md hj];try rfl
theorem amy{Q:Sl->Int->AH->Prop}(r:Nat)(g:wW ro)(hnone:parts (L s)=none->∀ I',Q ⟨none,0,0⟩ 20 I')
  (hsome:∀ ps,parts (L s)=some ps->∀ sl tag' I',qd [] ro tag I tag' I'->Row tag' I' r 9 sl (ps.map vS)->Q sl 0 I'):vA B ro s I Q:=by
 refine am5 fun hs=>?_
 unfold af7
 by_cases h1:s=⟨#[47]⟩
 .rw[mc h1]
  refine hsome [] ?_ _ tag I (qd.refl hs) (Row.nil r 9)
  subst h1;rfl
 .have hne:L s≠[47]:=fun h=>h1 (yI h)
  rw[ma h1]
  by_cases h2:128<(s.size:Int)
  .rw[mc h2]
   unfold ur
   rw[mc rfl]
   refine hnone ?_ _
   unfold parts;rw[ma hne,ma]
   intro h;have:=h.1;rw[zd]at this;omega
  .rw[ma h2]
   refine ai6 ?_
   unfold ur
   by_cases h3:(L s).head?=some 47
   .obtain⟨t,ht⟩:∃ t,L s=47::t:=by
     cases h:L s with
     | nil=>rw[h]at h3;cases h3
     | cons c t=>rw[h]at h3;cases h3;exact⟨t,rfl⟩
    have hp:(L (⟨#[47]⟩:ByteArray)).isPrefixOf (L s)=true:=by rw[ht];try rfl
    rw[hp,ma y0]
    have hsz:s.size=t.length+1:=by rw[<-zd,ht];try rfl
    refine⟨⟨trivial,⟨z7,by show(1:Int)<=(s.size:Int);omega⟩⟩,?_⟩
    have hex:s.extract (Int.toNat 1) s.size=S t:=by
     conv=>lhs;rw[<-S_L s]
     rw[adz,ahl,List.take_length,ht];try rfl
    rw[hex]
    refine asm (tag:=tag) r g j0 fun sl tag1 I1 st1 r1=>?_
    rw[L_S]at r1
    have hln:sl.len=(cut t).length:=by rw[r1.len,mi]
    have hdrop:(L s).drop 1=t:=by rw[ht];try rfl
    by_cases h4:(cut t).length<=8
    .rw[ma z7]
     suffices∀m j,j+m=(cut t).length->(∀i (hi:i<(cut t).length),i<j->qP (cut t)[i]=true)->lfpD (abb B ro sl Q) (j:Int) I1 from
      this _ 0 (ml _) (fun i hi h=>mu h (Nat.not_lt_zero _))
     intro m
     induction m with
     | zero=>
      intro j hj hk
      refine lfpD.intro ?_
      unfold abb
      rw[ma z7]
      unfold acV
      refine hsome (cut t) ?_ sl tag1 I1 (st1 _) r1
      unfold parts
      rw[ma hne,hdrop,mc]
      refine⟨by rw[zd];omega,h3,h4,?_⟩
      rw[mD]
      intro x hx
      obtain⟨i,hi,e⟩:=mZ hx
      rw[<-e];exact hk i hi z7
     | succ m ih=>
      intro j hj hk
      have hjl:j<(cut t).length:=by omega
      obtain⟨p,hp,_,hg⟩:=Row.sget r1 (st1 []).sep hjl
      refine lfpD.intro ?_
      unfold abb
      rw[mc z7]
      refine⟨p,hp,z7,z7,_,hg j hjl,?_⟩
      refine afM ?_
      rw[L_S]
      by_cases h5:qP (cut t)[j]=true
      .rw[ma (j2 h5),inc j z7]
       refine ih (j+1) z7 fun i hi hij=>?_
       rcases mL i j with h | h
       .exact hk i hi h
       .have:i=j:=by omega
        subst this;exact h5
      .rw[mc (j2 h5)]
       refine hnone ?_ _
       unfold parts
       rw[ma hne,hdrop,ma]
       intro h
       have:=mD.1 h.2.2.2 _ (mG hjl)
       exact h5 this
    .rw[mc z7]
     refine hnone ?_ _
     unfold parts
     rw[ma hne,hdrop,ma]
     intro h;exact h4 h.2.2.1
   .have hp:(L (⟨#[47]⟩:ByteArray)).isPrefixOf (L s)=false:=by
     rw[Bool.eq_false_iff]
     intro h
     apply h3
     cases hl:L s with
     | nil=>rw[hl]at h;cases h
     | cons c t=>
      rw[hl]at h
      have:([47]:Str).isPrefixOf (c::t)=true:=h
      simp at this
      rw[<-this];try rfl
    rw[hp,mc y0]
    refine hnone ?_ _
    unfold parts
    rw[ma hne,ma]
    intro h;exact h3 h.2.1
theorem asn{Q:Sl->Int->AH->Prop}(r:Nat)(g:wW ro)(hnone:parts (L s)=none->∀ sl I',Q sl 20 I')
  (hsome:∀ ps,parts (L s)=some ps->∀ sl tag' I',qd [] ro tag I tag' I'->Row tag' I' r 9 sl (ps.map vS)->Q sl 0 I'):vA B ro s I Q:=amy r g (fun h I'=>hnone h _ I') hsome
def chk(l:Str):Int:=if(parts l).isSome then 0 else 20
theorem pN{Q:Int->AH->Prop}(g:wW ro)(hQ:Q (chk (L s)) I):vz B ro s I Q:=by
 refine qc.quiet (R:=fun v=>v= .int .i64 (chk (L s))) ?_ (fun v hv=>⟨_,hv,hQ⟩)
 have:vz B ro s (fun _=>none) fun r _=>r=chk (L s):=by
  refine am3 fun hs=>?_
  unfold af4
  refine asn (tag:=fun _=>0) 0 g (fun h _ _=>?_) (fun ps h _ _ _ _ _=>?_)
  .show(20:Int)=chk (L s);unfold chk;rw[h];try rfl
  .show(0:Int)=chk (L s);unfold chk;rw[h];try rfl
 exact qc.mono this fun v τ ⟨r,hv,hr⟩=>by rw[hv,hr]
theorem vB{l:Str}:chk l=0↔∃ ps,parts l=some ps:=by
 unfold chk
 cases h:parts l with
 | none=>simp
 | some ps=>simp
theorem amz(h:ag0 ps):mk ps=[47]↔ps=[]:=
 ⟨fun e=>nv fun hn=>atS hn h.ok e,fun e=>by rw[e];try rfl⟩
theorem atT{x:Str}(hx:47∉x):li (mk (ps++[x])) (mk (ps++[x])).length=((if ps=[]then []else mk ps).length:Int):=by
 rw[acd]
 have:=at8 (if ps=[]then []else mk ps) x hx x.length (mK _)
 rw[show((if ps=[]then []else mk ps)++47::x).length=(if ps=[]then []else mk ps).length+1+x.length by simp;omega]
 exact this
theorem ala(ps:List Str):1<=(mk ps).length:=by obtain⟨r,h⟩:=ajN ps;rw[h];simp
def qv(l:Str):Option Str:=match parts l with | some ps=>if ps=[]then none else some (mk ps.dropLast) | none=>none
theorem aeT(g:wW ro)(hnone:qv (L s)=none->Q (⟨#[]⟩:ByteArray) 20 I)(hsome:∀ u,qv (L s)=some u->Q (S u) 0 I):yP B ro s I Q:=by
 refine alQ fun hs=>?_
 unfold aff
 by_cases h1:s=⟨#[47]⟩
 .rw[mc h1]
  unfold py
  rw[mc rfl]
  refine hnone ?_
  subst h1;rfl
 .rw[ma h1]
  refine pN g ?_
  unfold py
  by_cases h2:chk (L s)=0
  .rw[ma (j2 h2)]
   obtain⟨ps,hps⟩:=vB.1 h2
   obtain⟨hl,hg⟩:=qW.1 hps
   have hne:ps≠[]:=fun e=>h1 (yI (by rw[hl,e];try rfl))
   obtain⟨qs,x,rfl⟩:∃ qs x,ps=qs++[x]:=by
    rcases List.eq_nil_or_concat ps with e | ⟨qs,x,e⟩
    .exact mu e hne
    .exact⟨qs,x,by rw[e,List.concat_eq_append]⟩
   have hx:47∉x:=adB (hg.ok x z8)
   have hsz:s.size=(mk (qs++[x])).length:=by rw[<-zd,hl]
   have h128:=hg.len
   refine ao9 z7 ?_
   rw[hl,hsz,atT hx]
   have hpar:qv (L s)=some (mk qs):=by unfold qv;rw[hps];simp
   have hlen:(mk (qs++[x])).length=(if qs=[]then []else mk qs).length+1+x.length:=by rw[acd];simp;omega
   have hmax:(if 1<(((if qs=[]then []else mk qs).length:Nat):Int)then(((if qs=[]then []else mk qs).length:Nat):Int)else 1)=((mk qs).length:Int):=by
    by_cases e:qs=[]
    .subst e;rfl
    .rw[ma e]
     have:=ala qs
     split<;>omega
   rw[hmax]
   have hle:(mk qs).length<=(mk (qs++[x])).length:=by
    rw[hlen]
    by_cases e:qs=[]
    .subst e;simp[mk]
    .rw[ma e];omega
   refine⟨⟨⟨z7,z7⟩,trivial⟩,?_⟩
   rw[mr]
   have hex:s.extract 0 (mk qs).length=S (mk qs):=by
    conv=>lhs;rw[<-S_L s]
    rw[adz,hl,List.drop_zero]
    congr 1
    rw[acd]
    by_cases e:qs=[]
    .subst e;rfl
    .rw[ma e,List.take_left]
   rw[hex]
   exact hsome _ hpar
  .rw[mc (j2 h2)]
   refine hnone ?_
   unfold qv
   cases h:parts (L s)with
   | none=>rfl
   | some ps=>exact mu (vB.2 ⟨ps,h⟩) h2
def base(l:Str):Option Str:=match parts l with | some ps=>ps.getLast? | none=>none
theorem at9(g:wW ro)(hnone:base (L s)=none->Q (⟨#[]⟩:ByteArray) 20 I)(hsome:∀ u,base (L s)=some u->Q (S u) 0 I):agX B ro s I Q:=by
 refine anI fun hs=>?_
 unfold agZ
 by_cases h1:s=⟨#[47]⟩
 .rw[mc h1]
  unfold aar
  rw[mc rfl]
  refine hnone ?_
  subst h1;rfl
 .rw[ma h1]
  refine pN g ?_
  unfold aar
  by_cases h2:chk (L s)=0
  .rw[ma (j2 h2)]
   obtain⟨ps,hps⟩:=vB.1 h2
   obtain⟨hl,hg⟩:=qW.1 hps
   have hne:ps≠[]:=fun e=>h1 (yI (by rw[hl,e];try rfl))
   obtain⟨qs,x,rfl⟩:∃ qs x,ps=qs++[x]:=by
    rcases List.eq_nil_or_concat ps with e | ⟨qs,x,e⟩
    .exact mu e hne
    .exact⟨qs,x,by rw[e,List.concat_eq_append]⟩
   have hx:47∉x:=adB (hg.ok x z8)
   have hsz:s.size=(mk (qs++[x])).length:=by rw[<-zd,hl]
   have h128:=hg.len
   refine ao9 z7 ?_
   rw[hl,hsz,atT hx]
   have hbase:base (L s)=some x:=by unfold base;rw[hps];simp
   have hlen:(mk (qs++[x])).length=(if qs=[]then []else mk qs).length+1+x.length:=by rw[acd];simp;omega
   rw[inc _ z7,mr]
   refine⟨⟨trivial,⟨z7,?_⟩⟩,?_⟩
   .show((_:Nat):Int)<=((mk (qs++[x])).length:Int)
    rw[hlen];omega
   have hex:s.extract ((if qs=[]then []else mk qs).length+1) (mk (qs++[x])).length=S x:=by
    conv=>lhs;rw[<-S_L s]
    rw[adz,hl,mH (mK _),acd]
    congr 1
    rw[show(if qs=[]then []else mk qs)++47::x=((if qs=[]then []else mk qs)++[47])++x by simp]
    rw[List.drop_left' z8]
   rw[hex]
   exact hsome _ hbase
  .rw[mc (j2 h2)]
   refine hnone ?_
   unfold base
   cases h:parts (L s)with
   | none=>rfl
   | some ps=>exact mu (vB.2 ⟨ps,h⟩) h2
end Go.Proofs.YtomdigihapdhnaaGreatDoor.Pa
namespace Go.Proofs.YtomdigihapdhnaaGreatDoor.Zt
open Go SL Go.ChangeShapes Go.WideShapes Go.ChangeAt Go.RowKit
abbrev alb:List (String×DataW Unit):=Rows.storeRepliesUptoRow.laid
theorem own:ownKnob prog.godebug=none:=y1
theorem apb:laidOutB prog=true:=y1
theorem aso{W w:World}(h:∀ b o,all W b=some o->w.heap[b]?=some o){n:String}{cs:Array Value}(hv:W.var? prog n=some cs):w.var? prog n=some cs:=by
 unfold World.var? at hv⊢
 obtain⟨g,hg,hx⟩:=Option.bind_eq_some_iff.1 hv
 rw[hg]
 show(match w.heap[g]? with | some (.cells cs _ _)=>some cs | _=>none)=_
 cases hh:W.heap[g]? with
 | none=>rw[hh]at hx;cases hx
 | some o=>rw[h g o hh];rw[hh]at hx;exact hx
theorem awe:prog.globalNamed "internal/strconv.uint64pow10" =some 2:=y1
theorem awf:prog.underlying 464=some (.int .u64):=y1
theorem awg:(prog.globals[2]?).map (·.type)=some 545:=y1
theorem avU{W:World}(hsh:W.ShapedOpen prog)(hL:laidMetH prog alb W):Pa.wW (all W):=by
 rw[MakeChecks.laidMetH_plain _ _ _ y1]at hL
 obtain⟨ps,⟨g0,t0,cs0,f0,p0,q0,hg0,ht0,hv0,hd0,⟨g1,t1,cs1,f1,p1,q1,hg1,ht1,hv1,hd1,⟨g2,t2,cs2,f2,p2,q2,hg2,ht2,hv2,hd2,_,_⟩,_⟩,_⟩,_,_⟩:=hL
 have htab:Lib.TabIs prog W "internal/strconv.uint64pow10" .u64 Lib.pow10Tab:=by
  obtain rfl:=mA (awe.symm.trans hg2)
  obtain rfl:=mA (awg.symm.trans ht2)
  unfold Lib.TabIs
  have hd2':DataW.trod _ prog W 0 _ false f2 545 cs2.toList=some (Lib.tabData .u64 Lib.pow10Tab,p2):=hd2
  rw[hv2,<-Lib.cells_of_tab underlying545 awf y1 y1 hd2']
 refine⟨?_,fun w hw=>aso hw htab⟩
 obtain⟨m,hm⟩:=Tryz.laysM146.s1_3 W hsh
 have hm:W.cell? ⟨1,0,none⟩=some (.int .i64 m):=hm
 rw[cell?_eq]at hm
 cases hh:W.heap[1]? with
 | none=>simp only at hm;rw[hh]at hm;cases hm
 | some o=>simp only at hm;rw[hh]at hm;exact⟨m,o,hh,hm⟩
theorem asp{H:Type}{enc:TypeId×Value->H}{W:World}{t:TypeId}{v:Value}{d:DataW H}{p:List MemPlace}(h:DataW.Trod enc prog W 0 (fun _=>true) true t v d p):∀ x∈p,x.block<W.heap.size:=by
 obtain⟨m,hm⟩:=h;exact DataW.trod_lt m _ _ _ hm