import Derived.Shelf.Strings.Builder1
import Derived.Shelf.Strings.Builder2
import Derived.Shelf.Small.Bits
import Derived.Shelf.Strings.BuilderF
import Derived.Shelf.Utf8.RuneCount
import Derived.Shelf.Strconv.Itoa0
import Derived.Shelf.Strconv.Itoa1
import Derived.Shelf.LaysM
import Derived.Shelf.Strconv.Itoa2
import Derived.Shelf.Strconv.Itoa3
import Derived.Shelf.Bytes.GrowSliceCatch
import Derived.Shelf.Bytes.GrowSlice
import Derived.Shelf.Strings.Search1
import Derived.Shelf.Strings.Search2
import Derived.Shelf.Strings.Search3
import Derived.Shelf.Strings.Count
import Derived.Shelf.Strings.Shaped
import Derived.Shelf.Strings.Prefix
import Derived.Shelf.Strings.Split
import Derived.Shelf.Strings.SplitShaped
import Derived.Shelf.Unicode.Decode
import Derived.Shelf.Strings.RuneCount
import Derived.Shelf.Strings.Explode
import Derived.Shelf.Bits.Mul64
import Derived.Shelf.Strings.Repeat
import Derived.Shelf.Unicode.DecodeSlow
import Derived.Shelf.Unicode.DecodeAny
import Derived.Ground.Names2Prog
import Derived.Shelf.Slices.Clone
import Derived.Shelf.Slices.SearchI
import Derived.Ground.SlgnProg
import Derived.Shelf.SlicesE.Clone
import Derived.Ground.SlgmProg
import Derived.Shelf.SortM.Plain
import Derived.Shelf.SortM.SortNone
import Derived.Shelf.SlIter.Nil
import Derived.Ground.GgzProg
import Derived.Laws.RangeString
import Derived.Test.YtomdigihapdhnaaGreatDoorProg
import Derived.Test.YtomdigihapdhnaaGreatDoorXC
set_option linter.all false
set_option maxRecDepth 99999
set_option maxHeartbeats 0
open Go.IntKind(i64)
open Go.Proofs.Tryz
namespace Go.Proofs.YtomdigihapdhnaaGreatDoor.G
open Go SL
variable{B:World}{ro I:AH}
def jC(B:World)(ro:AH)(a0:Sl)(I:AH)(Q:Sl->AH->Prop):=
 if a0.a=none then
 Q (⟨none,0,0⟩:Sl) I
 else
 nw ro I (.cells #[] 3) fun u0 I=>
 awp prog ro (Builtin.append_ #[55,55] 55 #[Sl.v (⟨some ⟨u0,0,none⟩,0,0⟩:Sl),Sl.v a0]) (fun v I=> ∃(u1:Sl),v=Sl.v u1/\
 Q u1 I) I
theorem abO{a0:Sl}{Q:Sl->AH->Prop}(h:Sep ro I->jC B ro a0 I Q):vY B ro a0 I Q:=by
 refine zb h func65 ntmps65 fun h=>?_;unfold jC at h;refine z3 ?_;refine zp ?_;refine z2 (AW.seq (z3 ?_))
 refine zp ?_;refine zm (ahV rfl underlying55 rfl rfl) ?_;refine z2 ?_;refine AW.iff rfl jr h (fun h=>?_) (fun h=>?_)
 .refine z3 ?_;refine zp ?_;refine z2 ?_;refine AW.ret ?_;refine qi ?_;exact bR1 results65 rfl ⟨_,rfl,h⟩
 refine AW.skip ?_;refine qc (z3 ?_);refine zA (wI (vs:=[]) (cs:= #[]) rfl underlying55 ty3 (by decide) rfl rfl) h fun u0 h=>?_;refine zp ?_;refine zl (jz (s:=Builtin.append_ #[55,55] 55 #[Sl.v (⟨some ⟨u0,0,none⟩,0,0⟩:Sl),Sl.v a0]) rfl rfl (fun _=>rfl) (qv _ h ?_))
 rintro v I ⟨u1,rfl,h⟩;refine zp ?_;refine z2 ?_;refine AW.ret ?_;exact bR1 results65 rfl ⟨_,rfl,h⟩
def aa3(B:World)(ro:AH)(a0:Sl)(I:AH)(Q:Sl->AH->Prop):=
 if a0.a=none then
 Q (⟨none,0,0⟩:Sl) I
 else
 nw ro I (.cells #[] 5) fun u0 I=>
 awp prog ro (Builtin.append_ #[24,24] 24 #[Sl.v (⟨some ⟨u0,0,none⟩,0,0⟩:Sl),Sl.v a0]) (fun v I=> ∃(u1:Sl),v=Sl.v u1/\
 Q u1 I) I
theorem ae9{a0:Sl}{Q:Sl->AH->Prop}(h:Sep ro I->aa3 B ro a0 I Q):kO B ro a0 I Q:=by
 refine zb h func80 ntmps80 fun h=>?_;unfold aa3 at h;refine z3 ?_;refine zp ?_;refine z2 (AW.seq (z3 ?_))
 refine zp ?_;refine zm (ahV rfl underlying24 rfl rfl) ?_;refine z2 ?_;refine AW.iff rfl jr h (fun h=>?_) (fun h=>?_)
 .refine z3 ?_;refine zp ?_;refine z2 ?_;refine AW.ret ?_;refine qi ?_;exact bR1 results80 rfl ⟨_,rfl,h⟩
 refine AW.skip ?_;refine qc (z3 ?_);refine zA (wI (vs:=[]) (cs:= #[]) rfl underlying24 ty5 (by decide) rfl rfl) h fun u0 h=>?_;refine zp ?_;refine zl (jz (s:=Builtin.append_ #[24,24] 24 #[Sl.v (⟨some ⟨u0,0,none⟩,0,0⟩:Sl),Sl.v a0]) rfl rfl (fun _=>rfl) (qv _ h ?_))
 rintro v I ⟨u1,rfl,h⟩;refine zp ?_;refine z2 ?_;refine AW.ret ?_;exact bR1 results80 rfl ⟨_,rfl,h⟩
def yS(B:World)(ro:AH)(a0 a1:ByteArray)(I:AH)(Q:Bool->AH->Prop):=
 pS B ro a0 a1 I fun u0 I=>
 Q u0 I
theorem acR{a0 a1:ByteArray}{Q:Bool->AH->Prop}(h:Sep ro I->yS B ro a0 a1 I Q):yR B ro a0 a1 I Q:=by
 refine zb h func138 ntmps138 fun h=>?_;unfold yS at h;refine z3 ?_;refine zp ?_;refine z4 ?_;iterate 2 refine zp ?_
 refine zc func197 h ?_;rintro v I ⟨u0,rfl,h⟩;refine zp ?_;refine z2 ?_;refine AW.ret ?_;exact bR1 results138 rfl ⟨_,rfl,h⟩
def zF(B:World)(ro:AH)(Q:Bool->AH->Prop)(u0:Bool)(I:AH):=
 Q u0 I
def jg(B:World)(ro:AH)(a0 a1:ByteArray)(I:AH)(Q:Bool->AH->Prop):=
 if(a1.size:Int)<=(a0.size:Int)then
 cutOk none (some (a1.size:Int)) a0.size a0.size/\
 zF B ro Q (decide ((a0.extract (0) (Int.toNat (a1.size:Int)))=a1)) I
 else
 zF B ro Q false I
theorem abu{a0 a1:ByteArray}{Q:Bool->AH->Prop}(h:Sep ro I->jg B ro a0 a1 I Q):pS B ro a0 a1 I Q:=by
 refine zb h func197 ntmps197 fun h=>?_;unfold jg at h;refine z3 ?_;refine zp ?_;refine z4 ?_;refine zp ?_;refine zm (jN rfl rfl underlying9 rfl rfl) ?_;refine zp ?_;refine zm (jN rfl rfl underlying9 rfl rfl) ?_;iterate 2 refine zp ?_
 refine qq 7 (decide ((a1.size:Int)<=(a0.size:Int))) decide_eq_true_iff h (fun fr I=> ∃(u0:Bool),qk [(17,.bool u0)] fr/\zF B ro Q u0 I) ?_ ?_ ?_
 .intro h e5 hk5;refine zy e5 ?_;refine zy e5 ?_;refine qr (jN rfl rfl underlying9 rfl rfl) rfl rfl rfl rfl e5 ?_
  obtain⟨hc,h⟩:=h
  refine qr (ahT (lo:=none) (hi:=(some (a1.size:Int))) rfl underlying9 rfl zW (ze rfl) hc) rfl rfl rfl rfl e5 ?_
  refine zy e5 ?_;refine zy e5 ?_;refine zk e5 ?_;exact hk5 _ _ ⟨_,FL,h⟩
 .intro h e5 hk5;iterate 6 refine zn e5 ?_
  refine zk e5 ?_;exact hk5 _ _ ⟨_,FL,h⟩
 rintro fr I ⟨u0,hl,h⟩;unfold zF at h;refine Lfr hl ?_
 refine zp ?_;refine z2 ?_;refine AW.ret ?_;exact bR1 results197 rfl ⟨_,rfl,h⟩
def jh(B:World)(ro:AH)(a0:ByteArray)(a1:Int)(I:AH)(Q:Int->AH->Prop):=
 jG B ro a0 a1 I fun u0 I=>
 Q u0 I
theorem abv{a0:ByteArray}{a1:Int}{Q:Int->AH->Prop}(h:Sep ro I->jh B ro a0 a1 I Q):jf B ro a0 a1 I Q:=by
 refine zb h func227 ntmps227 fun h=>?_;unfold jh at h;refine z3 ?_;refine zp ?_;refine z4 ?_;iterate 2 refine zp ?_
 refine zc func264 h ?_;rintro v I ⟨u0,rfl,h⟩;refine zp ?_;refine z2 ?_;refine AW.ret ?_;exact bR1 results227 rfl ⟨_,rfl,h⟩
def vr(B:World)(ro:AH)(Q:Int->AH->Prop)(I:AH):=
 Q (-1) I
def wE(B:World)(ro:AH)(a0:ByteArray)(a1:Int)(Q:Int->AH->Prop):Int->AH->(Int->AH->Prop)->Prop:=fun u0 I Y2=>
 if 0<=u0 then
 ∃u1:UInt8,(0:Int)<=u0/\a0[Int.toNat u0]?=some u1/\
 if(u1.toNat:Int)=a1 then
  Q u0 I
 else
 Y2 (i64.wrap (u0 - 1)) I
 else
 vr B ro Q I
def vK(B:World)(ro:AH)(a0:ByteArray)(a1:Int)(I:AH)(Q:Int->AH->Prop):=
 lfpD (wE B ro a0 a1 Q) (i64.wrap ((a0.size:Int) - 1)) I
theorem uV{a0:ByteArray}{a1:Int}{Q:Int->AH->Prop}(h:Sep ro I->vK B ro a0 a1 I Q):jG B ro a0 a1 I Q:=by
 refine zb h func264 ntmps264 fun h=>?_;unfold vK at h;refine z3 ?_;refine zp ?_;refine z2 ?_;refine AW.seqJ (fun fr I=>qk [] fr/\vr B ro Q I) ?_ ?_
 .rintro fr I ⟨hl,h⟩;refine AW.weaken ?_ hl (HLe.refl _)
  unfold vr at h;refine z3 ?_;refine zp ?_;refine z2 ?_;refine AW.ret ?_;exact bR1 results264 rfl ⟨_,rfl,h⟩
 refine z3 ?_;refine zp ?_;refine zm (jN rfl rfl underlying9 rfl rfl) ?_;iterate 2 refine zp ?_
 refine z2 (AW.block ?_)
 refine qn.loop (fr':=[(0,.string a0),(1,.int .u8 a1),(5,.int .i64 (i64.wrap ((a0.size:Int) - 1)))]) ?_ FL
 refine h (fun u0 I=>qn _ _ _ _ _ _ [(0,.string a0),(1,.int .u8 a1),(5,.int .i64 u0)] I) ?_
 rintro u0 I Y2 hY2 h
 show AW _ _ _ _ _ _ _ _
 unfold wE at h;refine AW.seq (z3 ?_);iterate 2 refine zp ?_
 refine z2 ?_;refine zi h (fun h=>?_) fun h=>?_
 rotate_left
 .refine AW.exit ?_;refine qR (qR ?_);refine wK ?_
  refine qc ?_;exact⟨FL,h⟩
 refine AW.skip ?_;refine qc (AW.seq (AW.block (z3 ?_)));iterate 2 refine zp ?_
 obtain⟨u1,h0,hc,h⟩:=h
 refine zm (ais rfl underlying9 rfl rfl h0 hc) ?_;iterate 2 refine zp ?_
 refine z2 ?_;refine zi h (fun h=>?_) fun h=>?_
 .refine z3 ?_;iterate 2 refine zp ?_
  refine z2 ?_;refine AW.ret ?_;refine qQ (qi (qi (qQ (qi ?_))));exact bR1 results264 rfl ⟨_,rfl,h⟩
 refine AW.skip ?_;refine wq (qc (AW.reg ?_));iterate 3 refine zp ?_
 refine z2 ?_;refine qn.head (fr':=[(0,.string a0),(1,.int .u8 a1),(5,.int .i64 (i64.wrap (u0 - 1)))]) ?_ FL
 exact hY2 _ _ h
def abw(B:World)(ro:AH)(a0:ByteArray)(I:AH)(Q:Int->AH->Prop):=
 uS B ro a0 I fun u0 u1 I=>
 Q u1 I
theorem afS{a0:ByteArray}{Q:Int->AH->Prop}(h:Sep ro I->abw B ro a0 I Q):xT B ro a0 I Q:=by
 refine zb h func82 ntmps82 fun h=>?_;unfold abw at h;refine z3 ?_;refine zp ?_;refine z4 ?_;refine zp ?_;refine zc func134 h ?_;rintro v I ⟨u0,u1,rfl,h⟩;iterate 5 refine zp ?_
 refine z4 ?_;iterate 2 refine zp ?_
 refine z2 ?_;refine AW.ret ?_;exact bR1 results82 rfl ⟨_,rfl,h⟩
def abx(B:World)(ro:AH)(Q:Bool->AH->Prop)(I:AH):=
 Q true I
def vd(B:World)(ro:AH)(p0:Addr)(Q:Bool->AH->Prop)(Y3:(Unit)->AH->Prop)(u1:Bool)(I:AH):=
 if u1=true then
 Y3 () I
 else
 Q false I
def xU(B:World)(ro:AH)(p0:Addr)(Q:Bool->AH->Prop):(Unit)->AH->((Unit)->AH->Prop)->Prop:=fun _ I Y3=>
 awp prog ro (Instr.next (.pointer (some p0)) true 0) (fun v I=>
 (v= .tuple #[.bool false]/\
  abx B ro Q I)\/
 (∃(u1:Int) (u2:Int),v= .tuple #[.bool true,.int .i64 u1,.int .i32 u2]/\
  if(97<=u2)/\(u2<=122)then
  vd B ro p0 Q Y3 ((decide (97<=u2)) && (decide (u2<=122))) I
  else
  if(48<=u2)/\(u2<=57)then
  vd B ro p0 Q Y3 ((decide (48<=u2)) && (decide (u2<=57))) I
  else
  if u2=46 then
  vd B ro p0 Q Y3 (decide (u2=46)) I
  else
  if u2=95 then
  vd B ro p0 Q Y3 (decide (u2=95)) I
  else
  vd B ro p0 Q Y3 (decide (u2=45)) I)) I
def ace(B:World)(ro:AH)(a0:ByteArray)(I:AH)(Q:Bool->AH->Prop):=
 if(((a0=(⟨#[]⟩:ByteArray))\/(32<(a0.size:Int)))\/(a0=(⟨#[46]⟩:ByteArray)))\/(a0=(⟨#[46,46]⟩:ByteArray))then
 Q false I
 else
 awp prog ro (Instr.range 9 (.string a0)) (fun v I=>
 (∃(p0:Addr),v= .pointer (some p0)/\
  lfpD (xU B ro p0 Q) () I)) I
theorem agq{a0:ByteArray}{Q:Bool->AH->Prop}(h:Sep ro I->ace B ro a0 I Q):jB B ro a0 I Q:=by
 refine zb h func99 ntmps99 fun h=>?_;unfold ace at h;refine z3 ?_;refine zp ?_;refine z2 (AW.seq (z3 ?_))
 iterate 3 refine zp ?_
 refine qX 4 (decide (a0=(⟨#[]⟩:ByteArray))) [(0,.string a0),(11,.bool ((decide (a0=(⟨#[]⟩:ByteArray))) || (decide (32<(a0.size:Int)))))] ?_ ?_ ?_
 .intro e2 hk2
  iterate 3 refine zn e2 ?_
  refine zk e2 ?_;exact hk2 _ (Fe e2)
 .intro e2 hk2
  refine zy e2 ?_;refine qr (jN rfl rfl underlying9 rfl rfl) rfl rfl rfl rfl e2 ?_
  refine zy e2 ?_;refine zk e2 ?_;exact hk2 _ (Fe e2)
 intro fr hl
 refine Lfr hl ?_
 refine zp ?_;refine qX 3 ((decide (a0=(⟨#[]⟩:ByteArray))) || (decide (32<(a0.size:Int)))) [(0,.string a0),(15,.bool (((decide (a0=(⟨#[]⟩:ByteArray))) || (decide (32<(a0.size:Int)))) || (decide (a0=(⟨#[46]⟩:ByteArray)))))] ?_ ?_ ?_
 .intro e7 hk7
  iterate 2 refine zn e7 ?_
  refine zk e7 ?_;exact hk7 _ (Fe e7)
 .intro e7 hk7
  refine zy e7 ?_;refine zy e7 ?_;refine zk e7 ?_;exact hk7 _ (Fe e7)
 intro fr hl
 refine Lfr hl ?_
 refine zp ?_;refine qX 3 (((decide (a0=(⟨#[]⟩:ByteArray))) || (decide (32<(a0.size:Int)))) || (decide (a0=(⟨#[46]⟩:ByteArray)))) [(0,.string a0),(19,.bool ((((decide (a0=(⟨#[]⟩:ByteArray))) || (decide (32<(a0.size:Int)))) || (decide (a0=(⟨#[46]⟩:ByteArray)))) || (decide (a0=(⟨#[46,46]⟩:ByteArray)))))] ?_ ?_ ?_
 .intro e11 hk11
  iterate 2 refine zn e11 ?_
  refine zk e11 ?_;exact hk11 _ (Fe e11)
 .intro e11 hk11
  refine zy e11 ?_;refine zy e11 ?_;refine zk e11 ?_;exact hk11 _ (Fe e11)
 intro fr hl
 refine Lfr hl ?_
 refine z2 ?_;refine AW.iff rfl (wt (wt (wt decide_eq_true_iff decide_eq_true_iff) decide_eq_true_iff) decide_eq_true_iff) h (fun h=>?_) (fun h=>?_)
 .refine z3 ?_;refine zp ?_;refine z2 ?_;refine AW.ret ?_;refine qi ?_;exact bR1 results99 rfl ⟨_,rfl,h⟩
 refine AW.skip ?_;refine qc ?_;refine AW.seqJ (fun fr I=>qk [] fr/\abx B ro Q I) ?_ ?_
 .rintro fr I ⟨hl,h⟩;refine AW.weaken ?_ hl (HLe.refl _)
  unfold abx at h;refine z3 ?_;refine zp ?_;refine z2 ?_;refine AW.ret ?_;exact bR1 results99 rfl ⟨_,rfl,h⟩
 refine z3 ?_;refine zp ?_;refine zl (ajO rfl rfl (qv _ h ?_))
 rintro v I ⟨p0,rfl,h⟩;refine z2 (AW.block ?_)
 refine qn.loop (fr':=[(21,.pointer (some p0))]) ?_ FL
 refine h (fun _ I=>qn _ _ _ _ _ _ [(21,.pointer (some p0))] I) ?_
 rintro _ I Y3 hY3 h
 show AW _ _ _ _ _ _ _ _
 unfold xU at h;refine z3 ?_;refine zl (ajP rfl rfl rfl (qv _ h ?_))
 rintro v I (⟨rfl,h⟩ | ⟨u1,u2,rfl,h⟩)
 .refine zp ?_;refine z2 (AW.seq ?_)
  refine AW.no rfl ?_;refine AW.exit ?_;refine qR (qR ?_);refine wK ?_
  refine qc ?_;exact⟨FL,h⟩
 .refine zp ?_;refine z2 (AW.seq ?_)
  refine AW.yes rfl ?_;refine AW.skip ?_;refine qc (AW.block (z3 ?_));iterate 2 refine zp ?_
  refine z2 (AW.block ?_)
  refine AW.seqJ (fun fr I=> ∃(u3:Bool),qk [(21,.pointer (some p0)),(25,.bool u3)] fr/\vd B ro p0 Q Y3 u3 I) ?_ ?_
  .rintro fr I ⟨u3,hl,h⟩;refine AW.weaken ?_ hl (HLe.refl _)
   unfold vd at h;refine zj h (fun h=>?_) fun h=>?_
   .refine AW.skip ?_;refine wq (wq (qc ?_));refine qn.head (fr':=[(21,.pointer (some p0))]) ?_ FL
    exact hY3 _ _ h
   refine z3 ?_;refine zp ?_;refine z2 ?_;refine AW.ret ?_;refine qQ (qQ (qi (qQ (qi ?_))));exact bR1 results99 rfl ⟨_,rfl,h⟩
  refine z3 ?_;iterate 3 refine zp ?_
  refine qX 3 (decide (97<=u2)) [(4,.int .i32 u2),(21,.pointer (some p0)),(31,.bool ((decide (97<=u2)) && (decide (u2<=122))))] ?_ ?_ ?_
  .intro e2 hk2
   refine zy e2 ?_;refine zy e2 ?_;refine zk e2 ?_;exact hk2 _ (Fe e2)
  .intro e2 hk2
   iterate 2 refine zn e2 ?_
   refine zk e2 ?_;exact hk2 _ (Fe e2)
  intro fr hl
  refine Lfr hl ?_
  refine zp ?_;refine z2 ?_;refine AW.iff rfl (jA decide_eq_true_iff decide_eq_true_iff) h (fun h=>?_) (fun h=>?_)
  .refine AW.skip ?_;refine qc ?_;exact⟨_,FL,h⟩
  refine z3 ?_;iterate 3 refine zp ?_
  refine qX 3 (decide (48<=u2)) [(4,.int .i32 u2),(21,.pointer (some p0)),(37,.bool ((decide (48<=u2)) && (decide (u2<=57))))] ?_ ?_ ?_
  .intro e2 hk2
   refine zy e2 ?_;refine zy e2 ?_;refine zk e2 ?_;exact hk2 _ (Fe e2)
  .intro e2 hk2
   iterate 2 refine zn e2 ?_
   refine zk e2 ?_;exact hk2 _ (Fe e2)
  intro fr hl
  refine Lfr hl ?_
  refine zp ?_;refine z2 ?_;refine AW.iff rfl (jA decide_eq_true_iff decide_eq_true_iff) h (fun h=>?_) (fun h=>?_)
  .refine AW.skip ?_;refine qc ?_;exact⟨_,FL,h⟩
  refine z3 ?_;iterate 3 refine zp ?_
  refine z2 ?_;refine zi h (fun h=>?_) fun h=>?_
  .refine AW.skip ?_;refine qc ?_;exact⟨_,FL,h⟩
  refine z3 ?_;iterate 3 refine zp ?_
  refine z2 ?_;refine zi h (fun h=>?_) fun h=>?_
  .refine AW.skip ?_;refine qc ?_;exact⟨_,FL,h⟩
  refine AW.reg ?_;iterate 3 refine zp ?_
  refine z2 ?_;exact⟨_,FL,h⟩
def up(B:World)(ro:AH)(u0:Sl)(Q:Sl->Int->AH->Prop)(I:AH):=
 Q u0 0 I
def yH(B:World)(ro:AH)(u0:Sl)(Q:Sl->Int->AH->Prop):Int->AH->(Int->AH->Prop)->Prop:=fun u1 I Y5=>
 if u1<(u0.len:Int)then
 ∃p2,u0.a=some p2/\(0:Int)<=u1/\u1<(u0.len:Int)/\
 ∃u3,qa ro I (p2.add (Int.toNat u1*1))=some (.string u3)/\
 jB B ro u3 I fun u4 I=>
 if¬(u4=true)then
  Q (⟨none,0,0⟩:Sl) 20 I
 else
 Y5 (i64.wrap (u1+1)) I
 else
 up B ro u0 Q I
def jl(B:World)(ro:AH)(a0:ByteArray)(Q:Sl->Int->AH->Prop)(u0:Bool)(I:AH):=
 if u0=true then
 Q (⟨none,0,0⟩:Sl) 20 I
 else
 cutOk (some 1) none a0.size a0.size/\
 abT B ro (a0.extract (Int.toNat 1) (a0.size)) (⟨#[47]⟩:ByteArray) I fun u1 I=>
 if 8<(u1.len:Int)then
 Q (⟨none,0,0⟩:Sl) 20 I
 else
 lfpD (yH B ro u1 Q) (0) I
def aby(B:World)(ro:AH)(a0:ByteArray)(I:AH)(Q:Sl->Int->AH->Prop):=
 if a0=(⟨#[47]⟩:ByteArray)then
 Q (⟨none,0,0⟩:Sl) 0 I
 else
 if 128<(a0.size:Int)then
 jl B ro a0 Q true I
 else
 yR B ro a0 (⟨#[47]⟩:ByteArray) I fun u0 I=>
 jl B ro a0 Q (!u0) I
theorem afT{a0:ByteArray}{Q:Sl->Int->AH->Prop}(h:Sep ro I->aby B ro a0 I Q):uS B ro a0 I Q:=by
 refine zb h func134 ntmps134 fun h=>?_;unfold aby at h;refine z3 ?_;iterate 2 refine zp ?_
 refine z2 (AW.seq (z3 ?_))
 iterate 2 refine zp ?_
 refine z2 ?_;refine zi h (fun h=>?_) fun h=>?_
 .refine z3 ?_;iterate 2 refine zp ?_
  refine z2 ?_;refine AW.ret ?_;refine qi ?_;exact bR2 results134 rfl rfl ⟨_,_,rfl,h⟩
 refine AW.skip ?_;refine qc (AW.seq (z3 ?_));refine zp ?_;refine zm (jN rfl rfl underlying9 rfl rfl) ?_;iterate 2 refine zp ?_
 refine qq 4 (decide (128<(a0.size:Int))) decide_eq_true_iff h (fun fr I=> ∃(u0:Bool),qk [(0,.string a0),(16,.bool u0)] fr/\jl B ro a0 Q u0 I) ?_ ?_ ?_
 .intro h e3 hk3;iterate 3 refine zn e3 ?_
  refine zk e3 ?_;exact hk3 _ _ ⟨_,FL,h⟩
 .intro h e3 hk3;refine zy e3 ?_;refine Lyb rfl rfl rfl rfl e3 (qF rfl func138 rfl rfl rfl (qb.mono h ?_))
  rintro v I ⟨u1,rfl,h⟩;refine zy e3 ?_;refine zk e3 ?_;exact hk3 _ _ ⟨_,FL,h⟩
 rintro fr I ⟨u0,hl,h⟩;unfold jl at h;refine Lfr hl ?_
 refine z2 ?_;refine zj h (fun h=>?_) fun h=>?_
 .refine z3 ?_;iterate 2 refine zp ?_
  refine z2 ?_;refine AW.ret ?_;refine qi ?_;exact bR2 results134 rfl rfl ⟨_,_,rfl,h⟩
 refine AW.skip ?_;refine qc (z3 ?_);refine zp ?_;obtain⟨hc,h⟩:=h
 refine zm (ahT (lo:=(some 1)) (hi:=none) rfl underlying9 rfl (ze rfl) zW hc) ?_;refine zc func193 h ?_;rintro v I ⟨u2,rfl,h⟩;refine zp ?_;refine z2 (AW.seq (z3 ?_))
 refine zp ?_;refine zm (qJ rfl rfl underlying27 rfl rfl) ?_;refine zp ?_;refine z2 ?_;refine zi h (fun h=>?_) fun h=>?_
 .refine z3 ?_;iterate 2 refine zp ?_
  refine z2 ?_;refine AW.ret ?_;refine qi ?_;exact bR2 results134 rfl rfl ⟨_,_,rfl,h⟩
 refine AW.skip ?_;refine qc ?_;refine AW.seqJ (fun fr I=>qk [(4,Sl.v u2)] fr/\up B ro u2 Q I) ?_ ?_
 .rintro fr I ⟨hl,h⟩;refine AW.weaken ?_ hl (HLe.refl _)
  unfold up at h;refine z3 ?_;iterate 3 refine zp ?_
  refine z2 ?_;refine AW.ret ?_;exact bR2 results134 rfl rfl ⟨_,_,rfl,h⟩
 refine z3 ?_;refine zp ?_;refine zm (qJ rfl rfl underlying27 rfl rfl) ?_;refine zp ?_;refine z2 (AW.block ?_)
 refine qn.loop (fr':=[(4,Sl.v u2),(23,Sl.v u2),(24,.int .i64 (u2.len:Int)),(25,.int .i64 0)]) ?_ FL
 refine h (fun u3 I=>qn _ _ _ _ _ _ [(4,Sl.v u2),(23,Sl.v u2),(24,.int .i64 (u2.len:Int)),(25,.int .i64 u3)] I) ?_
 rintro u3 I Y5 hY5 h
 show AW _ _ _ _ _ _ _ _
 unfold yH at h;refine z3 ?_;refine zp ?_;refine z2 (AW.seq ?_)
 refine zi h (fun h=>?_) fun h=>?_
 rotate_left
 .refine AW.exit ?_;refine qR (qR ?_);refine wK ?_
  refine qc ?_;exact⟨FL,h⟩
 refine AW.skip ?_;refine qc (AW.seq (AW.block (z3 ?_)));obtain⟨p4,ha,h0,h1,h⟩:=h
 refine zm (vL rfl underlying27 ty9 (ixL rfl ha) rfl h0 h1) ?_;refine zL underlying9 h fun u5 h=>?_;refine zp ?_;refine z4 ?_;refine zp ?_;refine zc func99 h ?_;rintro v I ⟨u6,rfl,h⟩;refine zp ?_;refine z2 ?_;refine AW.iff rfl (qt Iff.rfl) h (fun h=>?_) (fun h=>?_)
 .refine z3 ?_;iterate 2 refine zp ?_
  refine z2 ?_;refine AW.ret ?_;refine qQ (qi (qi (qQ (qi ?_))));exact bR2 results134 rfl rfl ⟨_,_,rfl,h⟩
 refine AW.skip ?_;refine wq (qc (AW.reg ?_));iterate 2 refine zp ?_
 refine z2 ?_;refine qn.head (fr':=[(4,Sl.v u2),(23,Sl.v u2),(24,.int .i64 (u2.len:Int)),(25,.int .i64 (i64.wrap (u3+1)))]) ?_ FL
 exact hY5 _ _ h
def xL(B:World)(ro:AH)(a0:ByteArray)(Q:ByteArray->Int->AH->Prop)(u0:Bool)(I:AH):=
 if u0=true then
 Q (⟨#[]⟩:ByteArray) 20 I
 else
 jf B ro a0 47 I fun u1 I=>
 cutOk none (some (if 1<u1 then u1 else 1)) a0.size a0.size/\
 Q (a0.extract (0) (Int.toNat (if 1<u1 then u1 else 1))) 0 I
def aa4(B:World)(ro:AH)(a0:ByteArray)(I:AH)(Q:ByteArray->Int->AH->Prop):=
 if a0=(⟨#[47]⟩:ByteArray)then
 xL B ro a0 Q true I
 else
 xT B ro a0 I fun u0 I=>
 xL B ro a0 Q (!(decide (u0=0))) I
theorem afa{a0:ByteArray}{Q:ByteArray->Int->AH->Prop}(h:Sep ro I->aa4 B ro a0 I Q):aa1 B ro a0 I Q:=by
 refine zb h func179 ntmps179 fun h=>?_;unfold aa4 at h;refine z3 ?_;iterate 2 refine zp ?_
 refine z2 (AW.seq (z3 ?_))
 iterate 3 refine zp ?_
 refine qq 4 (decide (a0=(⟨#[47]⟩:ByteArray))) decide_eq_true_iff h (fun fr I=> ∃(u0:Bool),qk [(0,.string a0),(10,.bool u0)] fr/\xL B ro a0 Q u0 I) ?_ ?_ ?_
 .intro h e2 hk2;iterate 3 refine zn e2 ?_
  refine zk e2 ?_;exact hk2 _ _ ⟨_,FL,h⟩
 .intro h e2 hk2;refine zy e2 ?_;refine Lyb rfl rfl rfl rfl e2 (qF rfl func82 rfl rfl rfl (qb.mono h ?_))
  rintro v I ⟨u1,rfl,h⟩;refine zy e2 ?_;refine zk e2 ?_;exact hk2 _ _ ⟨_,FL,h⟩
 rintro fr I ⟨u0,hl,h⟩;unfold xL at h;refine Lfr hl ?_
 refine z2 ?_;refine zj h (fun h=>?_) fun h=>?_
 .refine z3 ?_;iterate 2 refine zp ?_
  refine z2 ?_;refine AW.ret ?_;refine qi ?_;exact bR2 results179 rfl rfl ⟨_,_,rfl,h⟩
 refine AW.skip ?_;refine qc (z3 ?_);iterate 2 refine zp ?_
 refine zc func227 h ?_;rintro v I ⟨u2,rfl,h⟩;refine zm (akv rfl rfl) ?_;obtain⟨hc,h⟩:=h
 refine zm (ahT (lo:=none) (hi:=(some (if 1<u2 then u2 else 1))) rfl underlying9 rfl zW (ze rfl) hc) ?_;iterate 2 refine zp ?_
 refine z2 ?_;refine AW.ret ?_;exact bR2 results179 rfl rfl ⟨_,_,rfl,h⟩
def xM(B:World)(ro:AH)(a0:ByteArray)(a1:Int)(Q:ByteArray->Int->AH->Prop)(u0:Bool)(I:AH):=
 if u0=true then
 Q (⟨#[]⟩:ByteArray) 20 I
 else
 acw B ro a1 I fun u1 I=>
 abt B ro (⟨#[48]⟩:ByteArray) (i64.wrap (10 - (u1.size:Int))) I fun u2 I=>
 u2.size+u1.size<=9223372036854775807/\
 a0.size+(u2++u1).size<=9223372036854775807/\
 xT B ro (a0++(u2++u1)) I fun u3 I=>
 if¬(u3=0)then
 Q (⟨#[]⟩:ByteArray) u3 I
 else
 Q (a0++(u2++u1)) 0 I
def aa5(B:World)(ro:AH)(a0:ByteArray)(a1:Int)(I:AH)(Q:ByteArray->Int->AH->Prop):=
 if((a0=(⟨#[47]⟩:ByteArray))\/(a1<0))\/(9999999999<a1)then
 xM B ro a0 a1 Q true I
 else
 xT B ro a0 I fun u0 I=>
 xM B ro a0 a1 Q (!(decide (u0=0))) I
theorem afb{a0:ByteArray}{a1:Int}{Q:ByteArray->Int->AH->Prop}(h:Sep ro I->aa5 B ro a0 a1 I Q):aa2 B ro a0 a1 I Q:=by
 refine zb h func180 ntmps180 fun h=>?_;unfold aa5 at h;refine z3 ?_;iterate 2 refine zp ?_
 refine z2 (AW.seq (z3 ?_))
 iterate 3 refine zp ?_
 refine qX 3 (decide (a0=(⟨#[47]⟩:ByteArray))) [(0,.string a0),(1,.int .i64 a1),(13,.bool ((decide (a0=(⟨#[47]⟩:ByteArray))) || (decide (a1<0))))] ?_ ?_ ?_
 .intro e2 hk2
  iterate 2 refine zn e2 ?_
  refine zk e2 ?_;exact hk2 _ (Fe e2)
 .intro e2 hk2
  refine zy e2 ?_;refine zy e2 ?_;refine zk e2 ?_;exact hk2 _ (Fe e2)
 intro fr hl
 refine Lfr hl ?_
 refine zp ?_;refine qX 3 ((decide (a0=(⟨#[47]⟩:ByteArray))) || (decide (a1<0))) [(0,.string a0),(1,.int .i64 a1),(17,.bool (((decide (a0=(⟨#[47]⟩:ByteArray))) || (decide (a1<0))) || (decide (9999999999<a1))))] ?_ ?_ ?_
 .intro e6 hk6
  iterate 2 refine zn e6 ?_
  refine zk e6 ?_;exact hk6 _ (Fe e6)
 .intro e6 hk6
  refine zy e6 ?_;refine zy e6 ?_;refine zk e6 ?_;exact hk6 _ (Fe e6)
 intro fr hl
 refine Lfr hl ?_
 refine zp ?_;refine qq 4 (((decide (a0=(⟨#[47]⟩:ByteArray))) || (decide (a1<0))) || (decide (9999999999<a1))) (wt (wt decide_eq_true_iff decide_eq_true_iff) decide_eq_true_iff) h (fun fr I=> ∃(u0:Bool),qk [(0,.string a0),(1,.int .i64 a1),(22,.bool u0)] fr/\xM B ro a0 a1 Q u0 I) ?_ ?_ ?_
 .intro h e10 hk10;iterate 3 refine zn e10 ?_
  refine zk e10 ?_;exact hk10 _ _ ⟨_,FL,h⟩
 .intro h e10 hk10;refine zy e10 ?_;refine Lyb rfl rfl rfl rfl e10 (qF rfl func82 rfl rfl rfl (qb.mono h ?_))
  rintro v I ⟨u1,rfl,h⟩;refine zy e10 ?_;refine zk e10 ?_;exact hk10 _ _ ⟨_,FL,h⟩
 rintro fr I ⟨u0,hl,h⟩;unfold xM at h;refine Lfr hl ?_
 refine z2 ?_;refine zj h (fun h=>?_) fun h=>?_
 .refine z3 ?_;iterate 2 refine zp ?_
  refine z2 ?_;refine AW.ret ?_;refine qi ?_;exact bR2 results180 rfl rfl ⟨_,_,rfl,h⟩
 refine AW.skip ?_;refine qc (z3 ?_);refine zp ?_;refine zc func228 h ?_;rintro v I ⟨u2,rfl,h⟩;refine zp ?_;refine z4 ?_;iterate 2 refine zp ?_
 refine zm (jN rfl rfl underlying9 rfl rfl) ?_;refine zp ?_;refine zc func229 h ?_;rintro v I ⟨u3,rfl,h⟩;refine zp ?_;obtain⟨hc,h⟩:=h
 refine zm (ahR rfl rfl rfl hc) ?_;obtain⟨hc,h⟩:=h
 refine zm (ahR rfl rfl rfl hc) ?_;refine zp ?_;refine z2 (AW.seq (z3 ?_))
 refine zp ?_;refine zc func82 h ?_;rintro v I ⟨u4,rfl,h⟩;refine zp ?_;refine z4 ?_;iterate 2 refine zp ?_
 refine z2 ?_;refine AW.iff rfl (qt decide_eq_true_iff) h (fun h=>?_) (fun h=>?_)
 .refine z3 ?_;iterate 3 refine zp ?_
  refine z2 ?_;refine AW.ret ?_;refine qi ?_;exact bR2 results180 rfl rfl ⟨_,_,rfl,h⟩
 refine AW.skip ?_;refine qc (z3 ?_);iterate 3 refine zp ?_
 refine z2 ?_;refine AW.ret ?_;exact bR2 results180 rfl rfl ⟨_,_,rfl,h⟩
def aa6(B:World)(ro:AH)(Q:Bool->AH->Prop)(I:AH):=
 Q true I
def jm(B:World)(ro:AH)(a0:ByteArray)(u0:Int)(u1:UInt8)(Q:Bool->AH->Prop)(Y2:Int->AH->Prop)(u2:Bool)(I:AH):=
 if¬((((u2=true)\/((u1.toNat:Int)=46))\/((u1.toNat:Int)=95))\/((u1.toNat:Int)=45))then
 Q false I
 else
 Y2 (i64.wrap (u0+1)) I
def jn(B:World)(ro:AH)(a0:ByteArray)(Q:Bool->AH->Prop):Int->AH->(Int->AH->Prop)->Prop:=fun u0 I Y2=>
 if u0<(a0.size:Int)then
 ∃u1:UInt8,(0:Int)<=u0/\a0[Int.toNat u0]?=some u1/\
 if(97<=(u1.toNat:Int))/\((u1.toNat:Int)<=122)then
  jm B ro a0 u0 u1 Q Y2 true I
 else
 jm B ro a0 u0 u1 Q Y2 ((decide (48<=(u1.toNat:Int))) && (decide ((u1.toNat:Int)<=57))) I
 else
 aa6 B ro Q I
def abz(B:World)(ro:AH)(a0:ByteArray)(I:AH)(Q:Bool->AH->Prop):=
 if((((a0.size:Int)<1)\/(32<(a0.size:Int)))\/(a0=(⟨#[46]⟩:ByteArray)))\/(a0=(⟨#[46,46]⟩:ByteArray))then
 Q false I
 else
 lfpD (jn B ro a0 Q) (0) I
theorem afU{a0:ByteArray}{Q:Bool->AH->Prop}(h:Sep ro I->abz B ro a0 I Q):abq B ro a0 I Q:=by
 refine zb h func37 ntmps37 fun h=>?_;unfold abz at h;refine z3 ?_;refine zp ?_;refine z2 (AW.seq (z3 ?_))
 refine zp ?_;refine zm (jN rfl rfl underlying9 rfl rfl) ?_;iterate 2 refine zp ?_
 refine qX 4 (decide ((a0.size:Int)<1)) [(0,.string a0),(12,.bool ((decide ((a0.size:Int)<1)) || (decide (32<(a0.size:Int)))))] ?_ ?_ ?_
 .intro e3 hk3
  iterate 3 refine zn e3 ?_
  refine zk e3 ?_;exact hk3 _ (Fe e3)
 .intro e3 hk3
  refine zy e3 ?_;refine qr (jN rfl rfl underlying9 rfl rfl) rfl rfl rfl rfl e3 ?_
  refine zy e3 ?_;refine zk e3 ?_;exact hk3 _ (Fe e3)
 intro fr hl
 refine Lfr hl ?_
 refine zp ?_;refine qX 3 ((decide ((a0.size:Int)<1)) || (decide (32<(a0.size:Int)))) [(0,.string a0),(16,.bool (((decide ((a0.size:Int)<1)) || (decide (32<(a0.size:Int)))) || (decide (a0=(⟨#[46]⟩:ByteArray)))))] ?_ ?_ ?_
 .intro e8 hk8
  iterate 2 refine zn e8 ?_
  refine zk e8 ?_;exact hk8 _ (Fe e8)
 .intro e8 hk8
  refine zy e8 ?_;refine zy e8 ?_;refine zk e8 ?_;exact hk8 _ (Fe e8)
 intro fr hl
 refine Lfr hl ?_
 refine zp ?_;refine qX 3 (((decide ((a0.size:Int)<1)) || (decide (32<(a0.size:Int)))) || (decide (a0=(⟨#[46]⟩:ByteArray)))) [(0,.string a0),(20,.bool ((((decide ((a0.size:Int)<1)) || (decide (32<(a0.size:Int)))) || (decide (a0=(⟨#[46]⟩:ByteArray)))) || (decide (a0=(⟨#[46,46]⟩:ByteArray)))))] ?_ ?_ ?_
 .intro e12 hk12
  iterate 2 refine zn e12 ?_
  refine zk e12 ?_;exact hk12 _ (Fe e12)
 .intro e12 hk12
  refine zy e12 ?_;refine zy e12 ?_;refine zk e12 ?_;exact hk12 _ (Fe e12)
 intro fr hl
 refine Lfr hl ?_
 refine z2 ?_;refine AW.iff rfl (wt (wt (wt decide_eq_true_iff decide_eq_true_iff) decide_eq_true_iff) decide_eq_true_iff) h (fun h=>?_) (fun h=>?_)
 .refine z3 ?_;refine zp ?_;refine z2 ?_;refine AW.ret ?_;refine qi ?_;exact bR1 results37 rfl ⟨_,rfl,h⟩
 refine AW.skip ?_;refine qc ?_;refine AW.seqJ (fun fr I=>qk [] fr/\aa6 B ro Q I) ?_ ?_
 .rintro fr I ⟨hl,h⟩;refine AW.weaken ?_ hl (HLe.refl _)
  unfold aa6 at h;refine z3 ?_;refine zp ?_;refine z2 ?_;refine AW.ret ?_;exact bR1 results37 rfl ⟨_,rfl,h⟩
 refine z3 ?_;refine zp ?_;refine z2 (AW.block ?_)
 refine qn.loop (fr':=[(0,.string a0),(3,.int .i64 0)]) ?_ FL
 refine h (fun u0 I=>qn _ _ _ _ _ _ [(0,.string a0),(3,.int .i64 u0)] I) ?_
 rintro u0 I Y2 hY2 h
 show AW _ _ _ _ _ _ _ _
 unfold jn at h;refine AW.seq (z3 ?_);iterate 2 refine zp ?_
 refine zm (jN rfl rfl underlying9 rfl rfl) ?_;refine zp ?_;refine z2 ?_;refine zi h (fun h=>?_) fun h=>?_
 rotate_left
 .refine AW.exit ?_;refine qR (qR ?_);refine wK ?_
  refine qc ?_;exact⟨FL,h⟩
 refine AW.skip ?_;refine qc (AW.seq (AW.block (z3 ?_)));iterate 2 refine zp ?_
 obtain⟨u1,h0,hc,h⟩:=h
 refine zm (ais rfl underlying9 rfl rfl h0 hc) ?_;refine zp ?_;refine z4 ?_;iterate 3 refine zp ?_
 refine qX 3 (decide (97<=(u1.toNat:Int))) [(0,.string a0),(3,.int .i64 u0),(4,.int .u8 (u1.toNat:Int)),(35,.bool ((decide (97<=(u1.toNat:Int))) && (decide ((u1.toNat:Int)<=122))))] ?_ ?_ ?_
 .intro e2 hk2
  refine zy e2 ?_;refine zy e2 ?_;refine zk e2 ?_;exact hk2 _ (Fe e2)
 .intro e2 hk2
  iterate 2 refine zn e2 ?_
  refine zk e2 ?_;exact hk2 _ (Fe e2)
 intro fr hl
 refine Lfr hl ?_
 refine zp ?_;refine qq 7 ((decide (97<=(u1.toNat:Int))) && (decide ((u1.toNat:Int)<=122))) (jA decide_eq_true_iff decide_eq_true_iff) h (fun fr I=> ∃(u2:Bool),qk [(0,.string a0),(3,.int .i64 u0),(4,.int .u8 (u1.toNat:Int)),(43,.bool u2)] fr/\jm B ro a0 u0 u1 Q Y2 u2 I) ?_ ?_ ?_
 .intro h e6 hk6;iterate 3 refine zn e6 ?_
  refine Ln rfl rfl rfl rfl (.inr rfl) ?_
  refine Ln rfl rfl rfl rfl (.inr rfl) ?_
  refine zn e6 ?_;refine zk e6 ?_;exact hk6 _ _ ⟨_,FL,h⟩
 .intro h e6 hk6;refine zy e6 ?_;refine zy e6 ?_;refine zy e6 ?_;refine qX 3 (decide (48<=(u1.toNat:Int))) [(0,.string a0),(3,.int .i64 u0),(4,.int .u8 (u1.toNat:Int)),(36,.bool ((decide (97<=(u1.toNat:Int))) && (decide ((u1.toNat:Int)<=122)))),(42,.bool ((decide (48<=(u1.toNat:Int))) && (decide ((u1.toNat:Int)<=57))))] ?_ ?_ ?_
  .intro e9 hk9
   refine zy e9 ?_;refine zy e9 ?_;refine qr (wa rfl (evb e9) rfl) rfl rfl rfl rfl e6 ?_
   exact hk9 _ (Fe e9)
  .intro e9 hk9
   iterate 2 refine zn e9 ?_
   refine qr (wx rfl (evb e9) rfl) rfl rfl rfl rfl e6 ?_
   exact hk9 _ (Fe e9)
  intro fr hl
  refine Lfr hl ?_
  refine zk e6 ?_;exact hk6 _ _ ⟨_,FL,h⟩
 rintro fr I ⟨u2,hl,h⟩;unfold jm at h;refine Lfr hl ?_
 refine zp ?_;refine qX 3 u2 [(0,.string a0),(3,.int .i64 u0),(4,.int .u8 (u1.toNat:Int)),(47,.bool (u2 || (decide ((u1.toNat:Int)=46))))] ?_ ?_ ?_
 .intro e14 hk14
  iterate 2 refine zn e14 ?_
  refine zk e14 ?_;exact hk14 _ (Fe e14)
 .intro e14 hk14
  refine zy e14 ?_;refine zy e14 ?_;refine zk e14 ?_;exact hk14 _ (Fe e14)
 intro fr hl
 refine Lfr hl ?_
 refine zp ?_;refine qX 3 (u2 || (decide ((u1.toNat:Int)=46))) [(0,.string a0),(3,.int .i64 u0),(4,.int .u8 (u1.toNat:Int)),(51,.bool ((u2 || (decide ((u1.toNat:Int)=46))) || (decide ((u1.toNat:Int)=95))))] ?_ ?_ ?_
 .intro e18 hk18
  iterate 2 refine zn e18 ?_
  refine zk e18 ?_;exact hk18 _ (Fe e18)
 .intro e18 hk18
  refine zy e18 ?_;refine zy e18 ?_;refine zk e18 ?_;exact hk18 _ (Fe e18)
 intro fr hl
 refine Lfr hl ?_
 refine zp ?_;refine qX 3 ((u2 || (decide ((u1.toNat:Int)=46))) || (decide ((u1.toNat:Int)=95))) [(0,.string a0),(3,.int .i64 u0),(55,.bool (((u2 || (decide ((u1.toNat:Int)=46))) || (decide ((u1.toNat:Int)=95))) || (decide ((u1.toNat:Int)=45))))] ?_ ?_ ?_
 .intro e22 hk22
  iterate 2 refine zn e22 ?_
  refine zk e22 ?_;exact hk22 _ (Fe e22)
 .intro e22 hk22
  refine zy e22 ?_;refine zy e22 ?_;refine zk e22 ?_;exact hk22 _ (Fe e22)
 intro fr hl
 refine Lfr hl ?_
 refine zp ?_;refine z2 ?_;refine AW.iff rfl (qt (wt (wt (wt Iff.rfl decide_eq_true_iff) decide_eq_true_iff) decide_eq_true_iff)) h (fun h=>?_) (fun h=>?_)
 .refine z3 ?_;refine zp ?_;refine z2 ?_;refine AW.ret ?_;refine qQ (qi (qi (qQ (qi ?_))));exact bR1 results37 rfl ⟨_,rfl,h⟩
 refine AW.skip ?_;refine wq (qc (AW.reg ?_));iterate 3 refine zp ?_
 refine z2 ?_;refine qn.head (fr':=[(0,.string a0),(3,.int .i64 (i64.wrap (u0+1)))]) ?_ FL
 exact hY2 _ _ h
end Go.Proofs.YtomdigihapdhnaaGreatDoor.G
namespace Go.Proofs.YtomdigihapdhnaaGreatDoor.Pa
open Go SL
def okc(c:UInt8):Bool:=(97<=c.toNat && c.toNat<=122) || (48<=c.toNat && c.toNat<=57) || c.toNat == 46 || c.toNat == 95 || c.toNat == 45
def wU(l:Str):Bool:=decide (1<=l.length) && decide (l.length<=32) && (l != [46]) && (l != [46,46]) && l.all okc
def cut:Str->List Str
 | []=>[[]]
 | c::r=>if c=47 then []::cut r else match cut r with | []=>[[c]] | h::t=>(c::h)::t
def parts(l:Str):Option (List Str):=
 if l=[47]then some []
 else if l.length<=128/\l.head?=some 47/\(cut (l.drop 1)).length<=8/\(cut (l.drop 1)).all wU=true then some (cut (l.drop 1))else none
def mk(ps:List Str):Str:=if ps=[]then [47]else ps.flatMap (fun x=>47::x)
theorem ait(l:Str):cut l≠[]:=by
 cases l with
 | nil=>simp[cut]
 | cons c r=>unfold cut;split<;>(try split)<;>simp
theorem ahd{x:Str}(h:wU x=true):47∉x:=by
 intro hm
 unfold wU at h
 simp only[Bool.and_eq_true,List.all_eq_true]at h
 have:=h.2 47 hm
 exact absurd this (by decide)
theorem ai9{x:Str}(h:wU x=true):1<=x.length/\x.length<=32:=by
 unfold wU at h
 simp only[Bool.and_eq_true,decide_eq_true_eq]at h
 exact⟨h.1.1.1.1,h.1.1.1.2⟩
theorem aja(l:Str):(cut l).flatMap (fun x=>47::x)=47::l:=by
 induction l with
 | nil=>rfl
 | cons c r ih=>
  unfold cut
  split
  .rename_i h;subst h
   rw[List.flatMap_cons,ih];rfl
  .split
   .rename_i h;exact absurd h (ait r)
   .rename_i h t e
    rw[e,List.flatMap_cons]at ih
    rw[List.flatMap_cons]
    simp only[List.cons_append,List.cons.injEq,true_and]at ih⊢
    exact ih
theorem agr(x:Str)(hx:47∉x):cut x=[x]:=by
 induction x with
 | nil=>rfl
 | cons c x ih=>
  simp at hx
  unfold cut
  rw[if_neg (fun e=>hx.1 e.symm),ih hx.2]
theorem ahe(x r:Str)(hx:47∉x):cut (x++47::r)=x::cut r:=by
 induction x with
 | nil=>rw[List.nil_append];conv=>lhs;unfold cut
        rw[if_pos rfl]
 | cons c x ih=>
  simp at hx
  rw[List.cons_append]
  conv=>lhs;unfold cut
  rw[if_neg (fun e=>hx.1 e.symm),ih hx.2]
theorem akD:∀ (ps:List Str),ps≠[]->(∀x∈ps,47∉x)->cut ((ps.flatMap (fun x=>47::x)).drop 1)=ps:=by
 intro ps
 induction ps with
 | nil=>intro h;exact absurd rfl h
 | cons x ps ih=>
  intro _ hx
  rw[List.flatMap_cons]
  cases ps with
  | nil=>simpa using agr x (hx x (by simp))
  | cons y ps=>
   have:=ih (by simp) fun z hz=>hx z (by simp[hz])
   rw[List.flatMap_cons]at this⊢
   simp only[List.cons_append,List.drop_succ_cons,List.drop_zero]at this⊢
   rw[ahe x _ (hx x (by simp)),this]
theorem ahf(ps:List Str):∃ r,mk ps=47::r:=by
 unfold mk
 cases ps with
 | nil=>exact⟨[],rfl⟩
 | cons x ps=>exact⟨_,rfl⟩
structure akE(ps:List Str):Prop where
 n:ps.length<=8
 ok:∀ x∈ps,wU x=true
 len:(mk ps).length<=128
theorem ajX{ps:List Str}(hn:ps≠[])(hx:∀ x∈ps,wU x=true):mk ps≠[47]:=by
 unfold mk;rw[if_neg hn]
 cases ps with
 | nil=>exact absurd rfl hn
 | cons x ps=>
  rw[List.flatMap_cons]
  have:=(ai9 (hx x (by simp))).1
  intro h
  have:=congrArg List.length h
  simp at this
  have:x=[]:=this.1
  subst this
  simp at*
theorem adu{l:Str}{ps:List Str}:parts l=some ps↔l=mk ps/\akE ps:=by
 constructor
 .intro h
  unfold parts at h
  split at h
  .rename_i e;cases h;exact⟨e,by simp,by simp,by decide⟩
  .split at h
   .rename_i e1 e2
    cases h
    obtain⟨h1,h2,h3,h4⟩:=e2
    cases l with
    | nil=>cases h2
    | cons c r=>
     cases h2
     simp only[List.drop_succ_cons,List.drop_zero]at*
     have e:mk (cut r)=47::r:=by unfold mk;rw[if_neg (ait r),aja]
     exact⟨e.symm,h3,by simpa using h4,by rw[e];exact h1⟩
   .cases h
 .rintro⟨rfl,h⟩
  unfold parts
  by_cases hn:ps=[]
  .subst hn;rfl
  .rw[if_neg (ajX hn h.ok)]
   have e:cut ((mk ps).drop 1)=ps:=by unfold mk;rw[if_neg hn];exact akD ps hn fun x hx=>ahd (h.ok x hx)
   rw[e,if_pos]
   obtain⟨r,hr⟩:=ahf ps
   exact⟨h.len,by rw[hr];rfl,h.n,by simpa using h.ok⟩
def li(l:Str):Nat->Int
 | 0=> -1
 | k+1=>if l[k]?=some 47 then(k:Int)else li l k
theorem aj7(a x:Str)(hx:47∉x):∀ k,k<=x.length->li (a++47::x) (a.length+1+k)=a.length:=by
 intro k
 induction k with
 | zero=>intro _;show li _ (a.length+1)=_;unfold li;rw[if_pos (by simp)]
 | succ k ih=>
  intro hk
  show li _ ((a.length+1+k)+1)=_
  unfold li
  rw[if_neg,ih (by omega)]
  rw[List.getElem?_append_right (by omega),show a.length+1+k - a.length=k+1 by omega,List.getElem?_cons_succ,List.getElem?_eq_getElem (by omega)]
  intro h
  exact hx ((Option.some.inj h)▸List.getElem_mem _)
theorem afc(ps:List Str)(x:Str):mk (ps++[x])=(if ps=[]then []else mk ps)++47::x:=by
 unfold mk
 rw[if_neg (by simp),List.flatMap_append]
 cases ps with
 | nil=>simp
 | cons y ps=>simp
theorem akF:∀ (s:Str),47∉s->Lib.index s [47]= -1:=by
 intro s
 induction s with
 | nil=>intro _;rfl
 | cons b l ih=>
  intro h
  simp at h
  unfold Lib.index
  rw[if_neg (by simp;exact h.1),ih h.2];rfl
theorem aiu:∀ (a r:Str),47∉a->Lib.index (a++47::r) [47]=a.length:=by
 intro a
 induction a with
 | nil=>intro r _;show Lib.index (47::r) [47]=0;unfold Lib.index;rw[if_pos (by simp)]
 | cons b a ih=>
  intro r h
  simp at h
  rw[List.cons_append]
  unfold Lib.index
  rw[if_neg (by simp;exact h.1),ih r h.2,if_neg (by simp)]
  simp
theorem ah2:∀ (fuel:Nat) (s:Str),s.length<fuel->Lib.splitK [47] 0 (Lib.countFrom [47] fuel s) s=cut s:=by
 intro fuel
 induction fuel with
 | zero=>intro s h;omega
 | succ n ih=>
  intro s h
  unfold Lib.countFrom
  by_cases hm:47∈s
  .obtain⟨a,r,rfl,ha⟩:=List.eq_append_cons_of_mem hm
   rw[aiu a r ha,if_neg (by simp),Nat.add_comm 1]
   unfold Lib.splitK
   rw[aiu a r ha,if_neg (by simp)]
   simp only[Int.toNat_natCast,Nat.add_zero,List.take_left,List.length_cons,List.length_nil]
   have e:(a++47::r).drop (a.length+1)=r:=by
    rw[show a++47::r=(a++[47])++r by simp,show a.length+1=(a++[47]).length by simp,List.drop_left]
   rw[show a.length+(0+1)=a.length+1 by omega,e,ih r (by simp at h;omega),ahe a r ha]
  .rw[akF s hm,if_pos (by rfl),agr s hm];rfl
theorem afC(s:ByteArray):(Lib.splitB (S [47]) 0 (Lib.countB s (S [47])) s).map L=cut (L s):=by
 rw[show(Lib.splitB (S [47]) 0 (Lib.countB s (S [47])) s).map L=Lib.splitK [47] 0 (Lib.countB s (S [47])) (L s)from Lib.splitB_data _ _ _ _]
 have:Lib.countB s (S [47])=Lib.count (L s) [47]:=rfl
 rw[this]
 exact ah2 _ _ (by omega)
end Go.Proofs.YtomdigihapdhnaaGreatDoor.Pa
namespace Go.Proofs
open Go.Shelf
def Tryz.laysM171_ren:Go.Shelf.Ren:=⟨fun | 171=>228 | 243=>265 | 246=>316 | 283=>362 | 284=>363 | 285=>364 | 286=>365 | 129=>288 | 317=>388 | 318=>389 | 319=>390 | 320=>391 | 337=>398 | 338=>399 | n=>n,fun | 3=>3 | 9=>9 | 2=>2 | 4=>4 | 171=>528 | 0=>0 | 53=>464 | 37=>24 | 5=>5 | 173=>530 | 212=>545 | 51=>462 | 20=>20 | 213=>546 | 46=>399 | 232=>556 | 233=>557 | n=>n,fun | 17=>2 | 18=>5 | 19=>6 | n=>n⟩
theorem Tryz.laysM171:Go.Proofs.LaysM.n171 prog Tryz.laysM171_ren:={
 mixed:=by kernel_rfl
 f129:=func288.trans (congrArg some (by kernel_rfl))
 f171:=func228.trans (congrArg some (by kernel_rfl))
 f243:=func265.trans (congrArg some (by kernel_rfl))
 f246:=func316.trans (congrArg some (by kernel_rfl))
 f283:=func362.trans (congrArg some (by kernel_rfl))
 f284:=func363.trans (congrArg some (by kernel_rfl))
 f285:=func364.trans (congrArg some (by kernel_rfl))
 f286:=func365.trans (congrArg some (by kernel_rfl))
 f317:=func388.trans (congrArg some (by kernel_rfl))
 f318:=func389.trans (congrArg some (by kernel_rfl))
 f319:=func390.trans (congrArg some (by kernel_rfl))
 f320:=func391.trans (congrArg some (by kernel_rfl))
 f337:=func398.trans (congrArg some (by kernel_rfl))
 f338:=func399.trans (congrArg some (by kernel_rfl))
 t0:=underlying0
 a0:=isAgg0
 z0:=sizeOf0
 v0:=zeroValue0
 t2:=underlying2
 a2:=isAgg2
 z2:=sizeOf2
 v2:=zeroValue2
 t3:=underlying3
 a3:=isAgg3
 z3:=sizeOf3
 v3:=zeroValue3
 t4:=underlying4
 a4:=isAgg4
 z4:=sizeOf4
 v4:=zeroValue4
 t5:=underlying5
 a5:=isAgg5
 z5:=sizeOf5
 v5:=zeroValue5
 t9:=underlying9
 a9:=isAgg9
 z9:=sizeOf9
 v9:=zeroValue9
 t20:=underlying20
 a20:=isAgg20
 z20:=sizeOf20
 v20:=zeroValue20
 t37:=underlying24
 a37:=isAgg24
 z37:=sizeOf24
 v37:=zeroValue24
 t46:=underlying399
 a46:=isAgg399
 z46:=sizeOf399
 v46:=zeroValue399
 t51:=underlying462
 a51:=isAgg462
 z51:=sizeOf462
 v51:=zeroValue462
 t53:=underlying464
 a53:=isAgg464
 z53:=sizeOf464
 v53:=zeroValue464
 t171:=underlying528
 a171:=isAgg528
 z171:=sizeOf528
 v171:=zeroValue528
 t173:=underlying530
 a173:=isAgg530
 z173:=sizeOf530
 v173:=zeroValue530
 t212:=underlying545
 a212:=isAgg545
 z212:=sizeOf545
 v212:=zeroValue545
 t213:=underlying546
 a213:=isAgg546
 z213:=sizeOf546
 t232:=underlying556
 a232:=isAgg556
 z232:=sizeOf556
 v232:=zeroValue556
 t233:=underlying557
 a233:=isAgg557
 z233:=sizeOf557
 v233:=zeroValue557
 g17:=by kernel_rfl
 g18:=by kernel_rfl
 g19:=by kernel_rfl
 i0:=by kernel_rfl
 i2:=by kernel_rfl
 i3:=by kernel_rfl
 i4:=by kernel_rfl
 i5:=by kernel_rfl
 i9:=by kernel_rfl
 i20:=by kernel_rfl
 i37:=by kernel_rfl
 i46:=by kernel_rfl
 i51:=by kernel_rfl
 i53:=by kernel_rfl
 i171:=by kernel_rfl
 i173:=by kernel_rfl
 i212:=by kernel_rfl
 i232:=by kernel_rfl
 i233:=by kernel_rfl
 m17:=by kernel_rfl
 m18:=by kernel_rfl
 m19:=by kernel_rfl}
open Go.RowKit Go.Sort Go.Lib in
theorem Tryz.strconv_Itoa(n:Int)(h0: -9223372036854775808<=n)(h1:n<=9223372036854775807)(w:World)(htab:Lib.TabIs prog w "internal/strconv.uint64pow10" .u64 Lib.pow10Tab):
  Calls prog 228 #[.int .i64 n] w fun e w'=>e= .returned (.string ⟨(Lib.itoa n).toArray⟩)/\∃ k os,w'=grow (w.drewN k) os:=Any.strconv_Itoa Tryz.laysM171 n h0 h1 w htab
def Tryz.laysM290_ren:Go.Shelf.Ren:=⟨fun | 290=>226 | 324=>263 | n=>n,fun | 37=>24 | 3=>3 | 0=>0 | 4=>4 | 20=>20 | 75=>224 | 5=>5 | 80=>143 | 9=>9 | n=>n,fun | 14=>0 | n=>n⟩
theorem Tryz.laysM290:Go.Proofs.LaysM.n290 prog Tryz.laysM290_ren:={
 mixed:=by kernel_rfl
 f290:=func226.trans (congrArg some (by kernel_rfl))
 f324:=func263.trans (congrArg some (by kernel_rfl))
 t0:=underlying0
 a0:=isAgg0
 z0:=sizeOf0
 v0:=zeroValue0
 t3:=underlying3
 a3:=isAgg3
 z3:=sizeOf3
 v3:=zeroValue3
 t4:=underlying4
 a4:=isAgg4
 z4:=sizeOf4
 v4:=zeroValue4
 t20:=underlying20
 a20:=isAgg20
 z20:=sizeOf20
 v20:=zeroValue20
 t37:=underlying24
 a37:=isAgg24
 z37:=sizeOf24
 v37:=zeroValue24
 t75:=underlying224
 a75:=isAgg224
 z75:=sizeOf224
 v75:=zeroValue224
 g14:=by kernel_rfl
 t5:=underlying5
 a5:=isAgg5
 z5:=sizeOf5
 v5:=zeroValue5
 t9:=underlying9
 a9:=isAgg9
 z9:=sizeOf9
 v9:=zeroValue9
 t80:=underlying143
 a80:=isAgg143
 z80:=sizeOf143
 v80:=zeroValue143
 i0:=by kernel_rfl
 i3:=by kernel_rfl
 i4:=by kernel_rfl
 i5:=by kernel_rfl
 i9:=by kernel_rfl
 i20:=by kernel_rfl
 i37:=by kernel_rfl
 i75:=by kernel_rfl
 i80:=by kernel_rfl
 m14:=by kernel_rfl}
open Go.RowKit in
theorem Tryz.bytes_growSlice_row(g l c n:Nat)(cur:Array Value)(w:World)(hg:w.heap[g]?=some (.cells cur 5 (0,0)))(hcs:cur.size=c)(hlc:l<=c)(hn:1<=n)(hlim:l+n<=140737488355328)(hc2:c<=140737488355328)(h1:∀ v∈cur.toList.take l,v.oneCell'=true):
  Calls prog 226 #[.slice (some ⟨g,0,none⟩) l c,.int .i64 n] w fun e w'=> ∃cap2 cells,e= .returned (.slice (some ⟨w.heap.size,0,none⟩) l cap2)/\w'.heap[w.heap.size]?=some (.cells cells 5 (0,0))/\
   cells.size=cap2/\cells.toList.take l=cur.toList.take l/\l+n<=cap2/\cap2<=maxLen/\Below w.heap.size w w':=Any.bytes_growSlice_row Tryz.laysM290 g l c n cur w hg hcs hlc hn hlim hc2 h1
open Go.RowKit in
theorem Tryz.bytes_growSlice_nil(n:Nat)(w:World)(hn:1<=n)(hlim:n<=140737488355328):
  Calls prog 226 #[.slice none 0 0,.int .i64 n] w fun e w'=> ∃cap2 cells,e= .returned (.slice (some ⟨w.heap.size,0,none⟩) 0 cap2)/\w'.heap[w.heap.size]?=some (.cells cells 5 (0,0))/\
   cells.size=cap2/\n<=cap2/\cap2<=maxLen/\Below w.heap.size w w':=Any.bytes_growSlice_nil Tryz.laysM290 n w hn hlim
def Tryz.lays146_ren:Go.Shelf.Ren:=⟨fun | 146=>193 | 221=>238 | 268=>275 | 138=>276 | 143=>277 | 195=>321 | 197=>322 | 218=>323 | 219=>324 | 260=>368 | 217=>369 | 225=>370 | 224=>371 | 267=>372 | 266=>392 | 314=>393 | n=>n,fun | 9=>9 | 31=>27 | 3=>3 | 4=>4 | 0=>0 | 105=>494 | 21=>21 | 5=>5 | 46=>399 | 119=>547 | 139=>550 | 138=>549 | 146=>489 | 51=>462 | n=>n,fun | 1=>1 | 3=>3 | 4=>4 | n=>n⟩
theorem Tryz.lays146:Go.Proofs.Lays.n146 prog Tryz.lays146_ren:={
 mixed:=by kernel_rfl
 f138:=func276.trans (congrArg some (by kernel_rfl))
 f143:=func277.trans (congrArg some (by kernel_rfl))
 f146:=func193.trans (congrArg some (by kernel_rfl))
 f195:=func321.trans (congrArg some (by kernel_rfl))
 f197:=func322.trans (congrArg some (by kernel_rfl))
 f217:=func369.trans (congrArg some (by kernel_rfl))
 f218:=func323.trans (congrArg some (by kernel_rfl))
 f219:=func324.trans (congrArg some (by kernel_rfl))
 f221:=func238.trans (congrArg some (by kernel_rfl))
 f224:=func371.trans (congrArg some (by kernel_rfl))
 f225:=func370.trans (congrArg some (by kernel_rfl))
 f260:=func368.trans (congrArg some (by kernel_rfl))
 f266:=func392.trans (congrArg some (by kernel_rfl))
 f267:=func372.trans (congrArg some (by kernel_rfl))
 f268:=func275.trans (congrArg some (by kernel_rfl))
 f314:=func393.trans (congrArg some (by kernel_rfl))
 t0:=underlying0
 a0:=isAgg0
 z0:=sizeOf0
 v0:=zeroValue0
 t3:=underlying3
 a3:=isAgg3
 z3:=sizeOf3
 v3:=zeroValue3
 t4:=underlying4
 a4:=isAgg4
 z4:=sizeOf4
 v4:=zeroValue4
 t5:=underlying5
 a5:=isAgg5
 z5:=sizeOf5
 v5:=zeroValue5
 t9:=underlying9
 a9:=isAgg9
 z9:=sizeOf9
 v9:=zeroValue9
 t21:=underlying21
 a21:=isAgg21
 z21:=sizeOf21
 v21:=zeroValue21
 t31:=underlying27
 a31:=isAgg27
 z31:=sizeOf27
 v31:=zeroValue27
 t46:=underlying399
 a46:=isAgg399
 z46:=sizeOf399
 v46:=zeroValue399
 t51:=underlying462
 a51:=isAgg462
 z51:=sizeOf462
 v51:=zeroValue462
 t105:=underlying494
 a105:=isAgg494
 z105:=sizeOf494
 v105:=zeroValue494
 t119:=underlying547
 a119:=isAgg547
 z119:=sizeOf547
 t138:=underlying549
 a138:=isAgg549
 z138:=sizeOf549
 v138:=zeroValue549
 t139:=underlying550
 a139:=isAgg550
 z139:=sizeOf550
 v139:=zeroValue550
 t146:=underlying489
 a146:=isAgg489
 z146:=sizeOf489
 v146:=zeroValue489
 g1:=by kernel_rfl
 g3:=by kernel_rfl
 g4:=by kernel_rfl}
open Go.RowKit Go.Lib in
theorem Tryz.strings_Split(s sep:ByteArray)(m:Int)(w:World)(hs:s.size<4294967281)(hm:w.cell? ⟨1,0,none⟩=some (.int .i64 m))(h1:1<=sep.size):
  Calls prog 193 #[.string s,.string sep] w fun e w'=>
   e= .returned (.slice (some ⟨w.heap.size,0,none⟩) (Lib.countB s sep+1) (Lib.countB s sep+1))/\w'=w.alloc (.cells ((Lib.splitB sep 0 (Lib.countB s sep) s).map Value.string).toArray 9):=Any.strings_Split Tryz.lays146 (by kernel_rfl) s sep m w hs hm h1
def Tryz.laysM146_ren:Go.Shelf.Ren:=⟨fun | 146=>193 | 221=>238 | 268=>275 | 138=>276 | 143=>277 | 195=>321 | 197=>322 | 218=>323 | 219=>324 | 260=>368 | 217=>369 | 225=>370 | 224=>371 | 267=>372 | 266=>392 | 314=>393 | n=>n,fun | 9=>9 | 31=>27 | 3=>3 | 4=>4 | 0=>0 | 105=>494 | 21=>21 | 5=>5 | 46=>399 | 119=>547 | 139=>550 | 138=>549 | 146=>489 | 51=>462 | n=>n,fun | 1=>1 | 3=>3 | 4=>4 | n=>n⟩
theorem Tryz.laysM146:Go.Proofs.LaysM.n146 prog Tryz.laysM146_ren:={
 mixed:=by kernel_rfl
 f138:=func276.trans (congrArg some (by kernel_rfl))
 f143:=func277.trans (congrArg some (by kernel_rfl))
 f146:=func193.trans (congrArg some (by kernel_rfl))
 f195:=func321.trans (congrArg some (by kernel_rfl))
 f197:=func322.trans (congrArg some (by kernel_rfl))
 f217:=func369.trans (congrArg some (by kernel_rfl))
 f218:=func323.trans (congrArg some (by kernel_rfl))
 f219:=func324.trans (congrArg some (by kernel_rfl))
 f221:=func238.trans (congrArg some (by kernel_rfl))
 f224:=func371.trans (congrArg some (by kernel_rfl))
 f225:=func370.trans (congrArg some (by kernel_rfl))
 f260:=func368.trans (congrArg some (by kernel_rfl))
 f266:=func392.trans (congrArg some (by kernel_rfl))
 f267:=func372.trans (congrArg some (by kernel_rfl))
 f268:=func275.trans (congrArg some (by kernel_rfl))
 f314:=func393.trans (congrArg some (by kernel_rfl))
 t0:=underlying0
 a0:=isAgg0
 z0:=sizeOf0
 v0:=zeroValue0
 t3:=underlying3
 a3:=isAgg3
 z3:=sizeOf3
 v3:=zeroValue3
 t4:=underlying4
 a4:=isAgg4
 z4:=sizeOf4
 v4:=zeroValue4
 t5:=underlying5
 a5:=isAgg5
 z5:=sizeOf5
 v5:=zeroValue5
 t9:=underlying9
 a9:=isAgg9
 z9:=sizeOf9
 v9:=zeroValue9
 t21:=underlying21
 a21:=isAgg21
 z21:=sizeOf21
 v21:=zeroValue21
 t31:=underlying27
 a31:=isAgg27
 z31:=sizeOf27
 v31:=zeroValue27
 t46:=underlying399
 a46:=isAgg399
 z46:=sizeOf399
 v46:=zeroValue399
 t51:=underlying462
 a51:=isAgg462
 z51:=sizeOf462
 v51:=zeroValue462
 t105:=underlying494
 a105:=isAgg494
 z105:=sizeOf494
 v105:=zeroValue494
 t119:=underlying547
 a119:=isAgg547
 z119:=sizeOf547
 t138:=underlying549
 a138:=isAgg549
 z138:=sizeOf549
 v138:=zeroValue549
 t139:=underlying550
 a139:=isAgg550
 z139:=sizeOf550
 v139:=zeroValue550
 t146:=underlying489
 a146:=isAgg489
 z146:=sizeOf489
 v146:=zeroValue489
 g1:=by kernel_rfl
 g3:=by kernel_rfl
 g4:=by kernel_rfl
 i0:=by kernel_rfl
 i3:=by kernel_rfl
 i4:=by kernel_rfl
 i5:=by kernel_rfl
 i9:=by kernel_rfl
 i21:=by kernel_rfl
 i31:=by kernel_rfl
 i46:=by kernel_rfl
 i51:=by kernel_rfl
 i105:=by kernel_rfl
 i138:=by kernel_rfl
 i139:=by kernel_rfl
 i146:=by kernel_rfl
 m1:=by kernel_rfl
 s1_3:=fun w h=>Go.Proofs.cell_of_shapedOpen_int (zero:= #[.int .i64 0]) (t:=3) h (of_decide_eq_true (by kernel_rfl)) (by kernel_rfl) rfl (by kernel_rfl) (by kernel_rfl) underlying3
 m3:=by kernel_rfl
 m4:=by kernel_rfl}
def Tryz.lays105_ren:Go.Shelf.Ren:=⟨fun | 105=>229 | 212=>266 | 99=>138 | 165=>267 | 166=>268 | 170=>269 | 169=>270 | 263=>317 | 264=>318 | 206=>197 | 240=>319 | 241=>320 | 276=>366 | 277=>367 | n=>n,fun | 9=>9 | 3=>3 | 4=>4 | 20=>20 | 0=>0 | 46=>399 | 109=>445 | 5=>5 | 72=>449 | 76=>225 | 51=>462 | 146=>489 | 53=>464 | 148=>491 | 70=>447 | 37=>24 | 75=>224 | 127=>493 | 164=>532 | 80=>143 | n=>n,fun | n=>n⟩
theorem Tryz.lays105:Go.Proofs.Lays.n105 prog Tryz.lays105_ren:={
 mixed:=by kernel_rfl
 f99:=func138.trans (congrArg some (by kernel_rfl))
 f105:=func229.trans (congrArg some (by kernel_rfl))
 f165:=func267.trans (congrArg some (by kernel_rfl))
 f166:=func268.trans (congrArg some (by kernel_rfl))
 f169:=func270.trans (congrArg some (by kernel_rfl))
 f170:=func269.trans (congrArg some (by kernel_rfl))
 f206:=func197.trans (congrArg some (by kernel_rfl))
 f212:=func266.trans (congrArg some (by kernel_rfl))
 f240:=func319.trans (congrArg some (by kernel_rfl))
 f241:=func320.trans (congrArg some (by kernel_rfl))
 f263:=func317.trans (congrArg some (by kernel_rfl))
 f264:=func318.trans (congrArg some (by kernel_rfl))
 f276:=func366.trans (congrArg some (by kernel_rfl))
 f277:=func367.trans (congrArg some (by kernel_rfl))
 t0:=underlying0
 a0:=isAgg0
 z0:=sizeOf0
 v0:=zeroValue0
 t3:=underlying3
 a3:=isAgg3
 z3:=sizeOf3
 v3:=zeroValue3
 t4:=underlying4
 a4:=isAgg4
 z4:=sizeOf4
 v4:=zeroValue4
 t5:=underlying5
 a5:=isAgg5
 z5:=sizeOf5
 v5:=zeroValue5
 t9:=underlying9
 a9:=isAgg9
 z9:=sizeOf9
 v9:=zeroValue9
 t20:=underlying20
 a20:=isAgg20
 z20:=sizeOf20
 v20:=zeroValue20
 t37:=underlying24
 a37:=isAgg24
 z37:=sizeOf24
 v37:=zeroValue24
 t46:=underlying399
 a46:=isAgg399
 z46:=sizeOf399
 v46:=zeroValue399
 t51:=underlying462
 a51:=isAgg462
 z51:=sizeOf462
 v51:=zeroValue462
 t53:=underlying464
 a53:=isAgg464
 z53:=sizeOf464
 v53:=zeroValue464
 t70:=underlying447
 a70:=isAgg447
 z70:=sizeOf447
 v70:=zeroValue447
 t72:=underlying449
 a72:=isAgg449
 z72:=sizeOf449
 v72:=zeroValue449
 t75:=underlying224
 a75:=isAgg224
 z75:=sizeOf224
 v75:=zeroValue224
 t76:=underlying225
 a76:=isAgg225
 z76:=sizeOf225
 v76:=zeroValue225
 t109:=underlying445
 a109:=isAgg445
 z109:=sizeOf445
 v109:=zeroValue445
 t127:=underlying493
 a127:=isAgg493
 z127:=sizeOf493
 v127:=zeroValue493
 t146:=underlying489
 a146:=isAgg489
 z146:=sizeOf489
 v146:=zeroValue489
 t148:=underlying491
 a148:=isAgg491
 z148:=sizeOf491
 v148:=zeroValue491
 t164:=underlying532
 a164:=isAgg532
 z164:=sizeOf532
 v164:=zeroValue532}
theorem adZ:Builder.Extra prog Tryz.lays105_ren:={
 sizeBuilder:=by kernel_rfl
 liesBuilder:=by kernel_rfl
 t5:=underlying5
 a5:=isAgg5
 z5:=sizeOf5
 v5:=zeroValue5
 infoByte:=by kernel_rfl
 cellsByte:=by kernel_rfl
 sizeByte:=by kernel_rfl
 neB5:=by decide}
open Go.RowKit Go.Lib in
theorem Tryz.strings_Repeat(s:ByteArray)(c:Nat)(w:World)(hc:c<=9223372036854775807)(hlen:s.size*c<=140737488355328):
  Calls prog 229 #[.string s,.int .i64 c] w fun e w'=>e= .returned (.string ⟨(Lib.repeatL s.data.toList c).toArray⟩)/\Below w.heap.size w w':=Any.strings_Repeat Tryz.lays105 adZ s c w hc hlen
end Go.Proofs
namespace Go.Proofs.YtomdigihapdhnaaGreatDoor.Pa
open Go SL G
variable{B:World}{ro I I':AH}{tag tag':Nat->Nat}
theorem inc(j:Nat)(h:j<4611686018427387904):i64.wrap ((j:Int)+1)=((j+1:Nat):Int):=by rw[SL.qW (by omega) (by omega)];rfl
theorem ags{a p:ByteArray}{Q:Bool->AH->Prop}(hQ:Q ((L p).isPrefixOf (L a)) I):yR B ro a p I Q:=by
 refine acR fun _=>?_
 unfold yS
 refine abu fun _=>?_
 unfold jg zF
 by_cases h:p.size<=a.size
 .rw[if_pos (by omega)]
  refine⟨⟨⟨by omega,by omega⟩,trivial⟩,?_⟩
  have e:decide (a.extract 0 (Int.toNat (p.size:Int))=p)=(L p).isPrefixOf (L a):=by
   rw[Int.toNat_natCast,Bool.eq_iff_iff,decide_eq_true_iff,List.isPrefixOf_iff_prefix,List.prefix_iff_eq_take]
   constructor
   .intro h';conv=>lhs;rw[<-h']
    rw[<-S_L a,aaP];simp[zu]
   .intro h'
    apply uK
    rw[<-S_L a,aaP];simp only[L_S,List.drop_zero]
    rw[zu]at h';exact h'.symm
  rw[e];exact hQ
 .rw[if_neg (by omega)]
  have e:(L p).isPrefixOf (L a)=false:=by
   rw[Bool.eq_false_iff]
   intro h'
   have:=(List.isPrefixOf_iff_prefix.1 h').length_le
   rw[zu,zu]at this;exact h this
  rw[e]at hQ;exact hQ
theorem aj8{s:ByteArray}{Q:Int->AH->Prop}(hs:s.size<4611686018427387904)(hQ:Q (li (L s) s.size) I):jf B ro s 47 I Q:=by
 refine abv fun _=>?_
 unfold jh
 refine uV fun _=>?_
 unfold vK
 rw[SL.qW (by omega) (by omega)]
 suffices∀k,k<=s.size->Q (li (L s) k) I->lfpD (wE B ro s 47 Q) ((k:Int) - 1) I from this s.size (Nat.le_refl _) hQ
 intro k
 induction k with
 | zero=>
  intro _ h
  refine lfpD.intro ?_
  unfold wE
  rw[if_neg (by omega)]
  exact h
 | succ k ih=>
  intro hk h
  refine lfpD.intro ?_
  unfold wE
  rw[if_pos (by omega)]
  have e:((k+1:Nat):Int) - 1=k:=by omega
  rw[e]
  have hkl:k<(L s).length:=by rw[zu];omega
  have hg:s[k]?=some ((L s)[k]):=by
   conv=>lhs;rw[<-S_L s]
   rw[ajR,List.getElem?_eq_getElem hkl]
  refine⟨(L s)[k],by omega,by rw[Int.toNat_natCast];exact hg,?_⟩
  unfold li at h
  rw[List.getElem?_eq_getElem hkl]at h
  by_cases c:(L s)[k]=47
  .rw[if_pos (by rw[c])]at h
   rw[if_pos (by rw[c];rfl)]
   exact h
  .rw[if_neg (by simpa using c)]at h
   rw[if_neg,SL.qW (by omega) (by omega)]
   .exact ih (by omega) h
   .intro h'
    refine c (UInt8.toNat_inj.1 ?_)
    have:((L s)[k].toNat:Int)=47:=h'
    show(L s)[k].toNat=47
    omega
theorem afV{P:Program}{t:TypeId}{s:ByteArray}{K:Value->AH->Prop}(ht:P.underlying t=some .string)(h:∀ b,ro b=none->I b=none->K (.pointer (some ⟨b,0,none⟩)) (upd I b (.stringIter s 0))):awp P ro (Instr.range t (.string s)) K I:=by
 unfold Instr.range
 simp only[qw]
 rw[qu ht]
 exact h
theorem adv{P:Program}{t:TypeId}{s:ByteArray}{b pos:Nat}{K:Value->AH->Prop}(hro:ro b=none)(hb:I b=some (.stringIter s pos))(h1:s.size<=pos->K (.tuple #[.bool false]) I)
  (h2:pos<s.size->K (.tuple #[.bool true,.int .i64 pos,.int .i32 (Utf8.decode s pos).1]) (upd I b (.stringIter s (pos+(Utf8.decode s pos).2)))):awp P ro (Instr.next (.pointer (some ⟨b,0,none⟩)) true t) K I:=by
 unfold Instr.next
 refine⟨.stringIter s pos,by unfold rd;rw[hro];exact hb,rfl,?_⟩
 show awp P ro (if pos<s.size then _ else _) K I
 by_cases h:pos<s.size
 .rw[if_pos h]
  exact⟨_,hb,rfl,h2 h⟩
 .rw[if_neg h]
  exact h1 (by omega)
theorem ah3(s:ByteArray)(pos:Nat)(h:¬ (s.get! pos).toNat<128):128<=(Utf8.decode s pos).1:=by
 unfold Utf8.decode
 simp only[Nat.add_zero]
 rw[if_neg h]
 repeat' split
 all_goals simp_all [Utf8.runeError]
 all_goals omega
theorem adV{s:ByteArray}{Q:Bool->AH->Prop}(hQ:Q (wU (L s)) I):jB B ro s I Q:=by
 refine qb.quiet (R:=fun v=>v= .bool (wU (L s))) ?_ (fun v hv=>⟨_,hv,hQ⟩)
 have:jB B ro s (fun _=>none) fun r _=>r=wU (L s):=by
  refine agq fun hs=>?_
  unfold ace
  by_cases g:((s=⟨#[]⟩\/32<(s.size:Int))\/s=⟨#[46]⟩)\/s=⟨#[46,46]⟩
  .rw[if_pos g]
   show false=wU (L s)
   symm
   rw[Bool.eq_false_iff]
   intro h
   unfold wU at h
   simp only[Bool.and_eq_true,decide_eq_true_eq,bne_iff_ne]at h
   obtain⟨⟨⟨⟨h1,h2⟩,h3⟩,h4⟩,_⟩:=h
   rcases g with((g | g) | g) | g
   .rw[g]at h1;simp[L]at h1
   .rw[zu]at h2;omega
   .rw[g]at h3;exact h3 rfl
   .rw[g]at h4;exact h4 rfl
  .rw[if_neg g]
   have hall:wU (L s)=(L s).all okc:=by
    unfold wU
    have e1:1<=(L s).length:=by
     rw[zu]
     rcases Nat.eq_zero_or_pos s.size with h0 | h0
     .exact absurd (.inl (.inl (.inl (uK (List.eq_nil_of_length_eq_zero h0))))) g
     .exact h0
    have e2:(L s).length<=32:=by
     rw[zu]
     rcases Nat.lt_or_ge 32 s.size with h0 | h0
     .exact absurd (.inl (.inl (.inr (by omega)))) g
     .exact h0
    have e3:L s≠[46]:=fun h=>g (.inl (.inr (uK h)))
    have e4:L s≠[46,46]:=fun h=>g (.inr (uK h))
    simp[e1,e2,e3,e4]
   rw[hall]
   have h9:prog.underlying 9=some .string:=by kernel_rfl
   have hr:= @afV ro (fun _=>none) prog 9 s (fun v I=> ∃p21_2,v=Value.pointer (some p21_2)/\lfpD (xU B ro p21_2 fun r x=>r=List.all (L s) okc) () I) h9
   refine hr ?_
   intro b hro hb
   refine⟨⟨b,0,none⟩,rfl,?_⟩
   suffices∀m pos,pos+m=s.size->(∀i,i<pos->∀ c,(L s)[i]?=some c->okc c=true)->∀ I:AH,I b=some (.stringIter s pos)->lfpD (xU B ro ⟨b,0,none⟩ fun r _=>r=(L s).all okc) () I from
    this s.size 0 (Nat.zero_add _) (fun i h=>absurd h (Nat.not_lt_zero _)) _ (we _ _ _)
   intro m
   induction m with
   | zero=>
    intro pos hp hk I hσ
    refine lfpD.intro ?_
    unfold xU
    refine adv hro hσ (fun _=> .inl ⟨rfl,?_⟩) (fun h=>by omega)
    show true=(L s).all okc
    symm
    rw[List.all_eq_true]
    intro c hc
    obtain⟨i,hi,e⟩:=List.getElem_of_mem hc
    exact hk i (by rw[zu]at hi;omega) c (by rw[List.getElem?_eq_getElem hi,e])
   | succ m ih=>
    intro pos hp hk I hσ
    have hpl:pos<(L s).length:=by rw[zu];omega
    have hps:pos<s.size:=by omega
    have hget:s[pos]'hps=(L s)[pos]:=rfl
    have hgb:s.get! pos=(L s)[pos]:=by
     have e:s.get! pos=s.data[pos]!:= rfl
     rw[e,getElem!_pos s.data pos (by exact hps)]
     rfl
    refine lfpD.intro ?_
    unfold xU
    refine adv hro hσ (fun h=>by omega) (fun _=> .inr ⟨pos,_,rfl,?_⟩)
    by_cases ha:((L s)[pos]).toNat<128
    .rw[decode_ascii s pos hps (by rw[hget];exact ha),hget]
     have step:∀ x:Bool,x=okc ((L s)[pos])->vd B ro ⟨b,0,none⟩ (fun r _=>r=(L s).all okc) (lfpD (xU B ro ⟨b,0,none⟩ fun r _=>r=(L s).all okc)) x (upd I b (.stringIter s (pos+1))):=by
      intro x hx
      unfold vd
      split
      .rename_i hx'
       refine ih (pos+1) (by omega) (fun i hi c hc=>?_) _ (we _ _ _)
       rcases Nat.lt_or_ge i pos with h | h
       .exact hk i h c hc
       .have:i=pos:=by omega
        subst this
        rw[List.getElem?_eq_getElem hpl]at hc
        cases hc
        exact hx.symm.trans hx'
      .rename_i hx'
       show false=(L s).all okc
       symm
       rw[Bool.eq_false_iff,ne_eq,List.all_eq_true]
       intro h
       exact hx' (hx.trans (h _ (List.getElem_mem hpl)))
     simp only
     generalize (L s)[pos]=c at step
     have iff:∀ x:Bool,(x=true↔okc c=true)->x=okc c:=fun x h=>Bool.eq_iff_iff.2 h
     by_cases b1:(97:Int)<=(c.toNat:Int)/\(c.toNat:Int)<=122
     .rw[if_pos b1]
      exact step _ (iff _ (by simp[okc];omega))
     .rw[if_neg b1]
      by_cases b2:(48:Int)<=(c.toNat:Int)/\(c.toNat:Int)<=57
      .rw[if_pos b2]
       exact step _ (iff _ (by simp[okc];omega))
      .rw[if_neg b2]
       by_cases b3:(c.toNat:Int)=46
       .rw[if_pos b3]
        exact step _ (iff _ (by simp[okc];omega))
       .rw[if_neg b3]
        by_cases b4:(c.toNat:Int)=95
        .rw[if_pos b4]
         exact step _ (iff _ (by simp[okc];omega))
        .rw[if_neg b4]
         exact step _ (iff _ (by simp[okc];omega))
    .have hbig:=ah3 s pos (by rw[hgb];exact ha)
     generalize (Utf8.decode s pos).1=x at hbig
     generalize (Utf8.decode s pos).2=y
     have hno:false=(L s).all okc:=by
      symm
      rw[Bool.eq_false_iff,ne_eq,List.all_eq_true]
      intro h
      have:=h _ (List.getElem_mem hpl)
      simp[okc]at this
      omega
     rw[if_neg (by omega),if_neg (by omega),if_neg (by omega),if_neg (by omega)]
     unfold vd
     rw[if_neg (by simp;omega)]
     exact hno
 exact qb.mono this fun v τ ⟨r,hv,hr⟩=>by rw[hv,hr]
end Go.Proofs.YtomdigihapdhnaaGreatDoor.Pa
namespace Go.Proofs.YtomdigihapdhnaaGreatDoor.Pa
open Go SL G Go.RowKit
structure yT(ro:AH):Prop where
 maxlen:∃ m o,ro 1=some o/\wM ⟨1,0,none⟩ (some o)=some (.int .i64 m)
 tab:∀ w:World,(∀b o,ro b=some o->w.heap[b]?=some o)->Lib.TabIs prog w "internal/strconv.uint64pow10" .u64 Lib.pow10Tab
variable{B:World}{ro I I':AH}{tag tag':Nat->Nat}
theorem ahg{w:World}(h:ai3 ro I w):∀ b o,ro b=some o->w.heap[b]?=some o:=fun b o hb=>h b o (by unfold rd;rw[hb])
abbrev vS(l:Str):Value:= .string (S l)
theorem ajb{s:ByteArray}{Q:Sl->AH->Prop}(r:Nat)(g:yT ro)(hs:s.size<4294967281)(hQ:∀ sl tag' I',(∀R,qf R ro tag I tag' I')->Row tag' I' r 9 sl ((cut (L s)).map vS)->Q sl I'):
  abT B ro s (⟨#[47]⟩:ByteArray) I Q:=by
 refine qb.of_calls fun w hw hsep=>?_
 obtain⟨m,o,h0,h1⟩:=g.maxlen
 have hm:w.cell? ⟨1,0,none⟩=some (.int .i64 m):=by rw[cell?_eq,ahg hw 1 o h0];exact h1
 refine(Tryz.strings_Split s (S [47]) m w hs hm (by decide)).mono ?_
 rintro e w' ⟨he,rfl⟩
 have hmap:(Lib.splitB (S [47]) 0 (Lib.countB s (S [47])) s).map Value.string=(cut (L s)).map vS:=by
  rw[<-afC,List.map_map]
  refine List.map_congr_left fun x _=>?_
  simp[vS]
 have hlen:(cut (L s)).length=Lib.countB s (S [47])+1:=by
  have:=Lib.splitB_all (S [47]) (by decide) 0 _ s rfl
  rw[<-afC,List.length_map,this]
 obtain⟨N,tag',hN,hst,hrow⟩:=ae5 (tag:=tag) (w':=w.alloc (.cells ((Lib.splitB (S [47]) 0 (Lib.countB s (S [47])) s).map Value.string).toArray 9)) r hw hsep (Nat.le_refl w.heap.size) (heap_alloc_new w _)
 refine⟨_,N,he,(Below.refl _ w).alloc (Nat.le_refl _) _,hN,⟨some ⟨w.heap.size,0,none⟩,Lib.countB s (S [47])+1,Lib.countB s (S [47])+1⟩,rfl,?_⟩
 refine hQ _ tag' _ hst (hrow _ _ _ ?_ ?_ (Nat.le_refl _) ?_)
 .rw[List.length_map,hlen]
 .rw[hmap];simp[hlen]
 .rw[hmap];simp only[List.toList_toArray]
  rw[List.take_of_length_le (by simp[hlen])]
theorem Row.sget{r:Nat}{e:TypeId}{s:Sl}{l:List Str}(h:Row tag I r e s (l.map vS))(hs:SL.Sep ro I){i:Nat}(hi:i<l.length):
  ∃p,s.a=some p/\s.len=l.length/\∀ j (hj:j<l.length),qa ro I (p.add (j*1))=some (vS l[j]):=by
 obtain⟨p,hp,hg⟩:=h.ptr hs (by simp;omega)
 refine⟨p,hp,by rw[h.len];simp,fun j hj=>hg j _ ?_⟩
 rw[List.getElem?_map,List.getElem?_eq_getElem hj];rfl
theorem aiv{s:ByteArray}{Q:Sl->Int->AH->Prop}(r:Nat)(g:yT ro)(hnone:parts (L s)=none->∀ I',Q ⟨none,0,0⟩ 20 I')
  (hsome:∀ ps,parts (L s)=some ps->∀ sl tag' I',qf [] ro tag I tag' I'->Row tag' I' r 9 sl (ps.map vS)->Q sl 0 I'):uS B ro s I Q:=by
 refine afT fun hs=>?_
 unfold aby
 by_cases h1:s=⟨#[47]⟩
 .rw[if_pos h1]
  refine hsome [] ?_ _ tag I (qf.refl hs) (Row.nil r 9)
  subst h1;rfl
 .have hne:L s≠[47]:=fun h=>h1 (uK h)
  rw[if_neg h1]
  by_cases h2:128<(s.size:Int)
  .rw[if_pos h2]
   unfold jl
   rw[if_pos rfl]
   refine hnone ?_ _
   unfold parts;rw[if_neg hne,if_neg]
   intro h;have:=h.1;rw[zu]at this;omega
  .rw[if_neg h2]
   refine ags ?_
   unfold jl
   by_cases h3:(L s).head?=some 47
   .obtain⟨t,ht⟩:∃ t,L s=47::t:=by
     cases h:L s with
     | nil=>rw[h]at h3;cases h3
     | cons c t=>rw[h]at h3;cases h3;exact⟨t,rfl⟩
    have hp:(L (⟨#[47]⟩:ByteArray)).isPrefixOf (L s)=true:=by rw[ht];rfl
    rw[hp,if_neg (by decide)]
    have hsz:s.size=t.length+1:=by rw[<-zu,ht];rfl
    refine⟨⟨trivial,⟨by omega,by show(1:Int)<=(s.size:Int);omega⟩⟩,?_⟩
    have hex:s.extract (Int.toNat 1) s.size=S t:=by
     conv=>lhs;rw[<-S_L s]
     rw[aaP,aeP,List.take_length,ht];rfl
    rw[hex]
    refine ajb (tag:=tag) r g (by simp;omega) fun sl tag1 I1 st1 r1=>?_
    rw[L_S]at r1
    have hln:sl.len=(cut t).length:=by rw[r1.len,List.length_map]
    have hdrop:(L s).drop 1=t:=by rw[ht];rfl
    by_cases h4:(cut t).length<=8
    .rw[if_neg (by omega)]
     suffices∀m j,j+m=(cut t).length->(∀i (hi:i<(cut t).length),i<j->wU (cut t)[i]=true)->lfpD (yH B ro sl Q) (j:Int) I1 from
      this _ 0 (Nat.zero_add _) (fun i hi h=>absurd h (Nat.not_lt_zero _))
     intro m
     induction m with
     | zero=>
      intro j hj hk
      refine lfpD.intro ?_
      unfold yH
      rw[if_neg (by omega)]
      unfold up
      refine hsome (cut t) ?_ sl tag1 I1 (st1 _) r1
      unfold parts
      rw[if_neg hne,hdrop,if_pos]
      refine⟨by rw[zu];omega,h3,h4,?_⟩
      rw[List.all_eq_true]
      intro x hx
      obtain⟨i,hi,e⟩:=List.getElem_of_mem hx
      rw[<-e];exact hk i hi (by omega)
     | succ m ih=>
      intro j hj hk
      have hjl:j<(cut t).length:=by omega
      obtain⟨p,hp,_,hg⟩:=Row.sget r1 (st1 []).sep hjl
      refine lfpD.intro ?_
      unfold yH
      rw[if_pos (by omega)]
      refine⟨p,hp,by omega,by omega,_,hg j hjl,?_⟩
      refine adV ?_
      rw[L_S]
      by_cases h5:wU (cut t)[j]=true
      .rw[if_neg (by simpa using h5),inc j (by omega)]
       refine ih (j+1) (by omega) fun i hi hij=>?_
       rcases Nat.lt_or_ge i j with h | h
       .exact hk i hi h
       .have:i=j:=by omega
        subst this;exact h5
      .rw[if_pos (by simpa using h5)]
       refine hnone ?_ _
       unfold parts
       rw[if_neg hne,hdrop,if_neg]
       intro h
       have:=List.all_eq_true.1 h.2.2.2 _ (List.getElem_mem hjl)
       exact h5 this
    .rw[if_pos (by omega)]
     refine hnone ?_ _
     unfold parts
     rw[if_neg hne,hdrop,if_neg]
     intro h;exact h4 h.2.2.1
   .have hp:(L (⟨#[47]⟩:ByteArray)).isPrefixOf (L s)=false:=by
     rw[Bool.eq_false_iff]
     intro h
     apply h3
     cases hl:L s with
     | nil=>rw[hl]at h;cases h
     | cons c t=>
      rw[hl]at h
      have:([47]:Str).isPrefixOf (c::t)=true:=h
      simp at this
      rw[<-this];rfl
    rw[hp,if_pos (by decide)]
    refine hnone ?_ _
    unfold parts
    rw[if_neg hne,if_neg]
    intro h;exact h3 h.2.1
theorem ajc{s:ByteArray}{Q:Sl->Int->AH->Prop}(r:Nat)(g:yT ro)(hnone:parts (L s)=none->∀ sl I',Q sl 20 I')
  (hsome:∀ ps,parts (L s)=some ps->∀ sl tag' I',qf [] ro tag I tag' I'->Row tag' I' r 9 sl (ps.map vS)->Q sl 0 I'):uS B ro s I Q:=aiv r g (fun h I'=>hnone h _ I') hsome
def chk(l:Str):Int:=if(parts l).isSome then 0 else 20
theorem acS{s:ByteArray}{Q:Int->AH->Prop}(g:yT ro)(hQ:Q (chk (L s)) I):xT B ro s I Q:=by
 refine qb.quiet (R:=fun v=>v= .int .i64 (chk (L s))) ?_ (fun v hv=>⟨_,hv,hQ⟩)
 have:xT B ro s (fun _=>none) fun r _=>r=chk (L s):=by
  refine afS fun hs=>?_
  unfold abw
  refine ajc (tag:=fun _=>0) 0 g (fun h _ _=>?_) (fun ps h _ _ _ _ _=>?_)
  .show(20:Int)=chk (L s);unfold chk;rw[h];rfl
  .show(0:Int)=chk (L s);unfold chk;rw[h];rfl
 exact qb.mono this fun v τ ⟨r,hv,hr⟩=>by rw[hv,hr]
theorem pw{l:Str}:chk l=0↔∃ ps,parts l=some ps:=by
 unfold chk
 cases h:parts l with
 | none=>simp
 | some ps=>simp
theorem aiw{ps:List Str}(h:akE ps):mk ps=[47]↔ps=[]:=
 ⟨fun e=>Classical.byContradiction fun hn=>ajX hn h.ok e,fun e=>by rw[e];rfl⟩
theorem alr{ps:List Str}{x:Str}(hx:47∉x):li (mk (ps++[x])) (mk (ps++[x])).length=((if ps=[]then []else mk ps).length:Int):=by
 rw[afc]
 have:=aj7 (if ps=[]then []else mk ps) x hx x.length (Nat.le_refl _)
 rw[show((if ps=[]then []else mk ps)++47::x).length=(if ps=[]then []else mk ps).length+1+x.length by simp;omega]
 exact this
theorem akG(ps:List Str):1<=(mk ps).length:=by obtain⟨r,h⟩:=ahf ps;rw[h];simp
def acx(l:Str):Option Str:=match parts l with | some ps=>if ps=[]then none else some (mk ps.dropLast) | none=>none
theorem aix{s:ByteArray}{Q:ByteArray->Int->AH->Prop}(g:yT ro)(hnone:acx (L s)=none->Q (⟨#[]⟩:ByteArray) 20 I)(hsome:∀ u,acx (L s)=some u->Q (S u) 0 I):aa1 B ro s I Q:=by
 refine afa fun hs=>?_
 unfold aa4
 by_cases h1:s=⟨#[47]⟩
 .rw[if_pos h1]
  unfold xL
  rw[if_pos rfl]
  refine hnone ?_
  subst h1;rfl
 .rw[if_neg h1]
  refine acS g ?_
  unfold xL
  by_cases h2:chk (L s)=0
  .rw[if_neg (by simpa using h2)]
   obtain⟨ps,hps⟩:=pw.1 h2
   obtain⟨hl,hg⟩:=adu.1 hps
   have hne:ps≠[]:=fun e=>h1 (uK (by rw[hl,e];rfl))
   obtain⟨qs,x,rfl⟩:∃ qs x,ps=qs++[x]:=by
    rcases List.eq_nil_or_concat ps with e | ⟨qs,x,e⟩
    .exact absurd e hne
    .exact⟨qs,x,by rw[e,List.concat_eq_append]⟩
   have hx:47∉x:=ahd (hg.ok x (by simp))
   have hsz:s.size=(mk (qs++[x])).length:=by rw[<-zu,hl]
   have h128:=hg.len
   refine aj8 (by omega) ?_
   rw[hl,hsz,alr hx]
   have hpar:acx (L s)=some (mk qs):=by unfold acx;rw[hps];simp
   have hlen:(mk (qs++[x])).length=(if qs=[]then []else mk qs).length+1+x.length:=by rw[afc];simp;omega
   have hmax:(if 1<(((if qs=[]then []else mk qs).length:Nat):Int)then(((if qs=[]then []else mk qs).length:Nat):Int)else 1)=((mk qs).length:Int):=by
    by_cases e:qs=[]
    .subst e;rfl
    .rw[if_neg e]
     have:=akG qs
     split<;>omega
   rw[hmax]
   have hle:(mk qs).length<=(mk (qs++[x])).length:=by
    rw[hlen]
    by_cases e:qs=[]
    .subst e;simp[mk]
    .rw[if_neg e];omega
   refine⟨⟨⟨by omega,by omega⟩,trivial⟩,?_⟩
   rw[Int.toNat_natCast]
   have hex:s.extract 0 (mk qs).length=S (mk qs):=by
    conv=>lhs;rw[<-S_L s]
    rw[aaP,hl,List.drop_zero]
    congr 1
    rw[afc]
    by_cases e:qs=[]
    .subst e;rfl
    .rw[if_neg e,List.take_left]
   rw[hex]
   exact hsome _ hpar
  .rw[if_pos (by simpa using h2)]
   refine hnone ?_
   unfold acx
   cases h:parts (L s)with
   | none=>rfl
   | some ps=>exact absurd (pw.2 ⟨ps,h⟩) h2
end Go.Proofs.YtomdigihapdhnaaGreatDoor.Pa
namespace Go.Proofs.YtomdigihapdhnaaGreatDoor.Zt
open Go SL Go.ChangeShapes Go.WideShapes Go.ChangeAt Go.RowKit
abbrev aeS:List (String×DataW Unit):=Rows.storeRepliesUptoRow.laid
theorem own:ownKnob prog.godebug=none:=by kernel_rfl
theorem afd:laidOutB prog=true:=by kernel_rfl
theorem ajd{W w:World}(h:∀ b o,all W b=some o->w.heap[b]?=some o){n:String}{cs:Array Value}(hv:W.var? prog n=some cs):w.var? prog n=some cs:=by
 unfold World.var? at hv⊢
 obtain⟨g,hg,hx⟩:=Option.bind_eq_some_iff.1 hv
 rw[hg]
 show(match w.heap[g]? with | some (.cells cs _ _)=>some cs | _=>none)=_
 cases hh:W.heap[g]? with
 | none=>rw[hh]at hx;cases hx
 | some o=>rw[h g o hh];rw[hh]at hx;exact hx
theorem alR:prog.globalNamed "internal/strconv.uint64pow10" =some 2:=by kernel_rfl
theorem alS:prog.underlying 464=some (.int .u64):=by kernel_rfl
theorem alT:(prog.globals[2]?).map (·.type)=some 545:=by kernel_rfl
theorem als{W:World}(hsh:W.ShapedOpen prog)(hL:laidMetH prog aeS W):Pa.yT (all W):=by
 rw[MakeChecks.laidMetH_plain _ _ _ (by kernel_rfl)]at hL
 obtain⟨ps,⟨g0,t0,cs0,f0,p0,q0,hg0,ht0,hv0,hd0,⟨g1,t1,cs1,f1,p1,q1,hg1,ht1,hv1,hd1,⟨g2,t2,cs2,f2,p2,q2,hg2,ht2,hv2,hd2,_,_⟩,_⟩,_⟩,_,_⟩:=hL
 have htab:Lib.TabIs prog W "internal/strconv.uint64pow10" .u64 Lib.pow10Tab:=by
  obtain rfl:=Option.some.inj (alR.symm.trans hg2)
  obtain rfl:=Option.some.inj (alT.symm.trans ht2)
  unfold Lib.TabIs
  have hd2':DataW.trod _ prog W 0 _ false f2 545 cs2.toList=some (Lib.tabData .u64 Lib.pow10Tab,p2):=hd2
  rw[hv2,<-Lib.cells_of_tab underlying545 alS (by kernel_rfl) (by kernel_rfl) hd2']
 refine⟨?_,fun w hw=>ajd hw htab⟩
 obtain⟨m,hm⟩:=Tryz.laysM146.s1_3 W hsh
 have hm:W.cell? ⟨1,0,none⟩=some (.int .i64 m):=hm
 rw[cell?_eq]at hm
 cases hh:W.heap[1]? with
 | none=>simp only at hm;rw[hh]at hm;cases hm
 | some o=>simp only at hm;rw[hh]at hm;exact⟨m,o,hh,hm⟩
theorem agt{H:Type}{enc:TypeId×Value->H}{W:World}{t:TypeId}{v:Value}{d:DataW H}{p:List MemPlace}(h:DataW.Trod enc prog W 0 (fun _=>true) true t v d p):∀ x∈p,x.block<W.heap.size:=by
 obtain⟨m,hm⟩:=h;exact DataW.trod_lt m _ _ _ hm
end Go.Proofs.YtomdigihapdhnaaGreatDoor.Zt
namespace Go.Proofs.YtomdigihapdhnaaGreatDoor.SL
open Go
variable{P:Program}{B:World}{ro I I':AH}{tag tag':Nat->Nat}
theorem aed{β:Type}{q:Question}{f:Nat->Sem β}{Q:β->AH->Prop}(h0:q.forced=true->awp P ro (f 0) Q I)(h1:q.forced=false->∀ n,awp P ro (f (q.cut n)) Q I):awp P ro (Sem.bind (choose q) f) Q I:=by
 show(if q.forced then awp P ro (f 0) Q I else∀n,awp P ro (f (q.cut n)) Q I)
 split
 .rename_i h;exact h0 h
 .rename_i h;exact h1 (by simpa using h)
theorem agu{ty:TypeId}{x M clock:Nat}{seen:Array Nat}{es:Array MapEntry}{K:Value->AH->Prop}(hx:I x=some (.mapIter (some M) clock seen clock))(hm:I M=some (.map es clock))(hs:Sep ro I)(hb:ahY es clock)
  (hover:(∀e∈es.toList,seen.contains e.born=true)->K (.tuple #[.bool false]) I)
  (hstep:∀ e∈es.toList,seen.contains e.born=false->K (.tuple #[.bool true,e.key,e.val]) (upd I x (.mapIter (some M) clock (seen.push e.born) clock))):
  awp P ro (Instr.next (.pointer (some ⟨x,0,none⟩)) false ty) K I:=by
 unfold Instr.next
 refine⟨.mapIter (some M) clock seen clock,by unfold rd;rw[hs x _ hx];exact hx,rfl,?_⟩
 refine⟨.map es clock,by unfold rd;rw[hs M _ hm];exact hm,rfl,?_⟩
 have hall:(!seen.isEmpty && !es.isEmpty && es.all fun e=>decide (e.born≥clock))=false:=by
  cases he:es.isEmpty with
  | true=>simp
  | false=>
   have hne:0<es.size:=by
    rcases Nat.eq_zero_or_pos es.size with h | h
    .have:es= #[]:=Array.eq_empty_of_size_eq_zero h
     rw[this]at he;cases he
    .exact h
   have h0:=hb.lt es[0] (by simp)
   have:(es.all fun e=>decide (e.born≥clock))=false:=by
    rw[<-Bool.not_eq_true,Array.all_eq_true]
    intro h
    have:=h 0 hne
    simp only[decide_eq_true_eq]at this
    omega
   rw[this];simp
 show awp P ro (if _ then _ else _) K I
 rw[if_neg (by rw[hall];simp)]
 have hold:((es.filter fun e=> !seen.contains e.born).filter fun e=>decide (e.born<clock))=es.filter fun e=> !seen.contains e.born:=by
  rw[Array.filter_eq_self]
  intro e he
  have:=hb.lt e (by have:=(Array.mem_filter.1 he).1;simpa using this)
  simpa using this
 have hnew:((es.filter fun e=> !seen.contains e.born).filter fun e=>decide (e.born≥clock))= #[]:=by
  rw[Array.filter_eq_empty_iff]
  intro e he
  have:=hb.lt e (by have:=(Array.mem_filter.1 he).1;simpa using this)
  simp;omega
 simp only[hold,hnew,Array.append_empty]
 generalize hleft:(es.filter fun e=> !seen.contains e.born)=left
 have hmem:∀ e,e∈left↔e∈es.toList/\seen.contains e.born=false:=fun e=>by
  rw[<-hleft,Array.mem_filter];simp
 by_cases hemp:left= #[]
 .subst hemp
  have e1:((if(#[]:Array MapEntry).isEmpty=true then(#[none]:Array (Option MapEntry))else #[])++(#[]:Array MapEntry).map some)= #[none]:=by simp
  rw[e1]
  refine aed (fun _=>?_) (fun h=>absurd h (by decide))
  show K (Value.tuple #[.bool false]) I
  refine hover fun e he=>?_
  cases h:seen.contains e.born with
  | true=>rfl
  | false=>exact absurd ((hmem e).2 ⟨he,h⟩) (by simp)
 .have hsz:0<left.size:=by
   rcases Nat.eq_zero_or_pos left.size with h | h
   .exact absurd (Array.eq_empty_of_size_eq_zero h) hemp
   .exact h
  have hie:left.isEmpty=false:=by simp[Array.isEmpty];omega
  rw[if_neg (by rw[hie];simp)]
  have hcand:(#[]:Array (Option MapEntry))++left.map some=left.map some:=by simp
  rw[hcand]
  have step:∀ i,i<left.size->awp P ro (match(left.map some)[i]? with
    | some (some e)=>Sem.bind (setObj x (.mapIter (some M) clock (seen.push e.born) clock)) fun _=>Sem.pure (Value.tuple #[.bool true,e.key,e.val])
    | some none=>Sem.pure (Value.tuple #[.bool false])
    | none=>stuck "Next: no such candidate") K I:=fun i hi=>by
   rw[Array.getElem?_map,Array.getElem?_eq_getElem hi]
   simp only[Option.map_some]
   have hin:=(hmem left[i]).1 (Array.getElem_mem hi)
   exact⟨.mapIter (some M) clock seen clock,hx,rfl,hstep left[i] hin.1 hin.2⟩
  refine aed (fun _=>step 0 hsz) (fun _ n=>step _ ?_)
  simp only[Question.cut,Array.size_map]
  exact Nat.mod_lt _ hsz
theorem aem{w:Nat}:∀ {l:List (List Value)},(∀x∈l,x.length=w)->l.flatten.length=l.length*w:=by
 intro l
 induction l with
 | nil=>intro _;simp
 | cons x l ih=>intro h;rw[List.flatten_cons,List.length_append,h x (by simp),ih fun y hy=>h y (by simp[hy]),List.length_cons,Nat.add_mul];omega
theorem aen{w:Nat}:∀ {l:List (List Value)},(∀x∈l,x.length=w)->∀ {j:Nat} {x:List Value} {i:Nat},l[j]?=some x->i<w->l.flatten[j*w+i]?=x[i]?:=by
 intro l
 induction l with
 | nil=>intro _ j x i h;cases h
 | cons y l ih=>
  intro h j x i hj hi
  rw[List.flatten_cons]
  have hy:=h y (by simp)
  rcases j with _ | j
  .cases hj
   rw[Nat.zero_mul,Nat.zero_add,List.getElem?_append_left (by omega)]
  .rw[List.getElem?_append_right (by rw[hy,Nat.add_mul];omega),hy,show(j+1)*w+i - w=j*w+i by rw[Nat.add_mul];omega]
   exact ih (fun z hz=>h z (by simp[hz])) (by simpa using hj) hi
def wj(tag:Nat->Nat)(I:AH)(r:Nat)(e:TypeId)(w:Nat)(s:Sl)(l:List (List Value)):Prop:=
 (s=⟨none,0,0⟩/\l=[])\/∃ (b:Nat) (cs:Array Value),s.a=some ⟨b,0,none⟩/\tag b=r/\I b=some (.cells cs e)/\s.len=l.length/\cs.size=s.cap*w/\s.len<=s.cap/\(∀x∈l,x.length=w)/\∀ (i:Nat) (v:Value),l.flatten[i]?=some v->cs[i]?=some v
theorem wj.nil(r:Nat)(e:TypeId)(w:Nat):wj tag I r e w ⟨none,0,0⟩ []:= .inl ⟨rfl,rfl⟩
theorem wj.len{r:Nat}{e:TypeId}{w:Nat}{s:Sl}{l:List (List Value)}(h:wj tag I r e w s l):s.len=l.length:=by
 rcases h with⟨rfl,rfl⟩ | ⟨b,cs,_,_,_,h,_⟩
 .rfl
 .exact h
theorem wj.wide{r:Nat}{e:TypeId}{w:Nat}{s:Sl}{l:List (List Value)}(h:wj tag I r e w s l):∀ x∈l,x.length=w:=by
 rcases h with⟨rfl,rfl⟩ | ⟨b,cs,_,_,_,_,_,_,h,_⟩
 .intro x hx;cases hx
 .exact h
theorem wj.keep{R:List Nat}{r:Nat}{e:TypeId}{w:Nat}{s:Sl}{l:List (List Value)}(h:wj tag I r e w s l)(k:qf R ro tag I tag' I')(hr:r∉R:=by simp):wj tag' I' r e w s l:=by
 rcases h with h | ⟨b,cs,ha,ht,hs,hx⟩
 .exact .inl h
 .obtain⟨t,e⟩:=k.keep b _ hs (by rw[ht];exact hr)
  exact .inr ⟨b,cs,ha,t.trans ht,e,hx⟩
theorem wj.get{r:Nat}{e:TypeId}{w:Nat}{s:Sl}{l:List (List Value)}(h:wj tag I r e w s l)(hs:Sep ro I){j:Nat}{x:List Value}(hj:l[j]?=some x):
  ∃b,s.a=some ⟨b,0,none⟩/\tag b=r/\∀ i v,x[i]?=some v->qa ro I ⟨b,j*w+i,none⟩=some v:=by
 rcases h with⟨_,rfl⟩ | ⟨b,cs,ha,ht,hb,hln,hc,hle,hw,hg⟩
 .cases hj
 .refine⟨b,ha,ht,fun i v hv=>?_⟩
  have hx:x.length=w:=hw x (List.mem_of_getElem? hj)
  have hi:i<w:=by
   rcases Nat.lt_or_ge i w with h | h
   .exact h
   .rw[List.getElem?_eq_none (by omega)]at hv;cases hv
  have:=hg (j*w+i) v (by rw[aen hw hj hi];exact hv)
  unfold qa rd
  simp only[hs b _ hb,hb,wM]
  exact this
def pQ(ro I:AH)(w:Nat)(s:Sl)(l:List (List Value)):Prop:=s.len=l.length/\(s.a=none->l=[])/\(∀x∈l,x.length=w)/\∀ p,s.a=some p->∀ (i:Nat) (v:Value),l.flatten[i]?=some v->qa ro I (p.add i)=some v
theorem wj.read{r:Nat}{e:TypeId}{w:Nat}{s:Sl}{l:List (List Value)}(h:wj tag I r e w s l)(hs:Sep ro I):pQ ro I w s l:=by
 refine⟨h.len,fun hn=>?_,h.wide,fun p hp i v hv=>?_⟩
 .rcases h with⟨_,rfl⟩ | ⟨b,cs,ha,_⟩
  .rfl
  .rw[hn]at ha;cases ha
 .rcases h with⟨_,rfl⟩ | ⟨b,cs,ha,ht,hb,_,_,_,_,hg⟩
  .cases hv
  .rw[hp]at ha;cases ha
   unfold qa rd
   simp only[wN,Nat.zero_add,hs b _ hb,hb,wM]
   exact hg i v hv
theorem pQ.flat{w:Nat}{s:Sl}{l:List (List Value)}(h:pQ ro I w s l):l.flatten.length=s.len*w:=by rw[aem h.2.2.1,h.1]
theorem pQ.keep{w:Nat}{s:Sl}{l:List (List Value)}(h:pQ ro (fun _=>none) w s l):pQ ro I w s l:=by
 refine⟨h.1,h.2.1,h.2.2.1,fun p hp i v hv=>?_⟩
 have:=h.2.2.2 p hp i v hv
 unfold qa rd at this⊢
 cases e:ro (p.add i).block with
 | some o=>rw[e]at this;exact this
 | none=>rw[e]at this;simp[wM]at this
theorem aaK{r:Nat}{e t:TypeId}{w:Nat}{s s2:Sl}{l l2:List (List Value)}{zv:Value}{bytes:Nat}{ty:TypeId}{Q:Value->AH->Prop}(h:wj tag I r e w s l)(hs:Sep ro I)(h2:pQ ro I w s2 l2)
  (ht:P.underlying t=some (.slice e)) (hz:qp P e zv w bytes) (hzc:zv.cells.size=w) (hv:∀ x∈l2,∀v∈x,qg v=true) (hb:(l.length+l2.length)*bytes<=140737488355328) (hb0:0<bytes)
  (hK:∀ s' tag' I',(∀R,s.len=s.cap\/r∈R->qf R ro tag I tag' I')->wj tag' I' r e w s' (l++l2)->Q (Sl.v s') I'):
  awp P ro (Builtin.append_ #[t,t] ty #[Sl.v s,Sl.v s2]) Q I:=by
 obtain⟨i,hi,hiz,his,hib⟩:=hz
 have hz:qp P e zv w bytes:=⟨i,hi,hiz,his,hib⟩
 have g0:(#[t,t]:Array TypeId)[0]?=some t:=rfl
 have g1:(#[t,t]:Array TypeId)[1]?=some t:=rfl
 have g2:(#[Value.slice s.a s.len s.cap,Value.slice s2.a s2.len s2.cap]:Array Value)[0]?=some (Value.slice s.a s.len s.cap):=rfl
 have g3:(#[Value.slice s.a s.len s.cap,Value.slice s2.a s2.len s2.cap]:Array Value)[1]?=some (Value.slice s2.a s2.len s2.cap):=rfl
 have hln:=h2.1
 have hfl2:=h2.flat
 have hvf:∀ v∈l2.flatten,qg v=true:=fun v hm=>by
  obtain⟨x,hx,hm⟩:=List.mem_flatten.1 hm
  exact hv x hx v hm
 have hld:∀ {β:Type} (f:Array Value->Sem β) (Q:β->AH->Prop),awp P ro (f l2.flatten.toArray) Q I->awp P ro (Sem.bind (Builtin.firstCells w s2.len (.slice s2.a s2.len s2.cap)) f) Q I:=by
  intro β f Q hf
  cases hsa:s2.a with
  | none=>
   rw[h2.2.1 hsa]at hf
   exact hf
  | some p=>
   rw[show Sem.bind (Builtin.firstCells w s2.len (.slice (some p) s2.len s2.cap)) f=(loadCells p (s2.len*w)) >>= f from rfl,vf,<-hfl2]
   exact vH l2.flatten 0 #[] (wr 0 fun j v hj=>by rw[Nat.zero_add];exact h2.2.2.2 p hsa j v hj) (by simpa using hf)
 have hfs:∀ {β:Type} (f:Array Value->Sem β) (Q:β->AH->Prop),awp P ro (f l.flatten.toArray) Q I->awp P ro (Sem.bind (Builtin.firstCells w s.len (.slice s.a s.len s.cap)) f) Q I:=by
  intro β f Q hf
  have hr:=h.read hs
  cases hsa:s.a with
  | none=>
   rw[hr.2.1 hsa]at hf
   exact hf
  | some p=>
   rw[show Sem.bind (Builtin.firstCells w s.len (.slice (some p) s.len s.cap)) f=(loadCells p (s.len*w)) >>= f from rfl,vf,<-hr.flat]
   exact vH l.flatten 0 #[] (wr 0 fun j v hj=>by rw[Nat.zero_add];exact hr.2.2.2 p hsa j v hj) (by simpa using hf)
 have hwide:∀ x∈l++l2,x.length=w:=fun x hx=>by
  rcases List.mem_append.1 hx with h' | h'
  .exact h.wide x h'
  .exact h2.2.2.1 x h'
 have hfl:=aem h.wide
 unfold Builtin.append_
 simp only[Sl.v,qw,qN,g0,g1,g2,g3]
 rw[qu ht]
 simp only[]
 rw[aaw hz]
 rw[qu ht]
 simp only[wu,Builtin.lenOf,qw,qN,Bool.false_eq_true,if_false,Bool.not_false,if_true,false_or]
 split
 .rename_i hroom
  refine hld _ _ ?_
  rcases h with⟨rfl,rfl⟩ | ⟨b,cs,ha,htg,hbk,hln1,hcp,hle,hwl,hg⟩
  .have h0:l2=[]:=List.eq_nil_of_length_eq_zero (by simp at hroom;omega)
   subst h0
   have hs2:s2.len=0:=hln
   show Q (.slice none (0+s2.len) 0) I
   rw[hs2]
   exact hK ⟨none,0,0⟩ tag I (fun _ _=>qf.refl hs) (.inl ⟨rfl,rfl⟩)
  .have h':wj tag I r e w s l:= .inr ⟨b,cs,ha,htg,hbk,hln1,hcp,hle,hwl,hg⟩
   by_cases h0:l2=[]
   .subst h0
    have hs2:s2.len=0:=hln
    simp only[ha]
    show Q (Value.slice (some ⟨b,0,none⟩) (s.len+s2.len) s.cap) I
    rw[hs2,Nat.add_zero]
    have:=hK s tag I (fun _ _=>qf.refl hs) (by rw[List.append_nil];exact h')
    unfold Sl.v at this
    rw[ha]at this;exact this
   have hpos:=List.length_pos_iff.2 h0
   simp only[ha]
   show awp P ro (storeCells (Addr.add ⟨b,0,none⟩ (s.len*w)) l2.flatten >>= fun _=>Sem.pure (Value.slice (some ⟨b,0,none⟩) (s.len+s2.len) s.cap)) Q I
   rw[vf,wN,Nat.zero_add]
   have hcm:(s.len+s2.len)*w<=s.cap*w:=Nat.mul_le_mul_right _ hroom
   rw[Nat.add_mul]at hcm
   refine jO l2.flatten 0 I (adU l2.flatten cs 0 I hbk (by rw[hcp,hfl2];omega) hvf fun cs' c1 c2 c3=>?_)
   show Q (Value.slice (some ⟨b,0,none⟩) (s.len+s2.len) s.cap) _
   refine hK ⟨some ⟨b,0,none⟩,s.len+s2.len,s.cap⟩ tag _ (fun R hR=>(pq hs htg hbk).mono fun x hx=>by rw[List.mem_singleton]at hx;rw[hx];exact hR.resolve_left (by omega)) (.inr ⟨b,cs',rfl,htg,we _ _ _,by simp[hln1,hln],by rw[c1];exact hcp,hroom,hwide,fun i v hi=>?_⟩)
   rw[List.flatten_append]at hi
   rcases Nat.lt_or_ge i l.flatten.length with hh | hh
   .rw[List.getElem?_append_left hh]at hi
    rw[c2 i (by rw[hfl,<-hln1]at hh;omega)];exact hg i v hi
   .rw[List.getElem?_append_right hh]at hi
    have:=c3 (i - l.flatten.length) v hi
    rw[<-this]
    congr 1;rw[hfl,<-hln1]at hh ⊢;omega
 .rename_i hroom
  rw[wZ hi]
  rw[if_neg (by rw[hib];omega)]
  rw[wZ hi]
  have hl:=h.len
  rw[if_neg (by rw[hib];have:=growslice_fits (need:=s.len+s2.len) (old:=s.cap) (bytes:=bytes) (by omega) (by rw[hl,hln];exact hb);omega)]
  refine abe rfl (fun n=>?_)
  rw[wZ hi]
  refine ab3 ?_
  have hcut:s.len+s2.len<=(Question.appendCap (s.len+s2.len) s.cap e).cut n:=by simp only[Question.cut];omega
  generalize (Question.appendCap (s.len+s2.len) s.cap e).cut n=N at hcut
  refine hfs _ _ ?_
  refine hld _ _ ?_
  rw[aav hz]
  show∀b,ro b=none->I b=none->Q (Value.slice (some ⟨b,0,none⟩) (s.len+s2.len) N) (upd I b _)
  intro b hro hb
  refine hK ⟨some ⟨b,0,none⟩,s.len+s2.len,N⟩ (setTag tag b r) _ (fun _ _=>qf.fresh hs hro hb) (.inr ⟨b,_,rfl,by simp[setTag],we _ _ _,by simp[hl,hln],?_,hcut,hwide,fun i v hi=>?_⟩)
  .have e1:(Builtin.zeroCells zv.cells (N - (s.len+s2.len))).size=(N - (s.len+s2.len))*w:=by simp[Builtin.zeroCells,hzc]
   rw[Array.size_append,Array.size_append,e1,List.size_toArray,List.size_toArray,hfl2,hfl,<-hl,<-Nat.add_mul,<-Nat.add_mul]
   congr 1;simp only;omega
  .rw[List.flatten_append]at hi
   have hlt:i<(l.flatten++l2.flatten).length:=by
    rcases Nat.lt_or_ge i (l.flatten++l2.flatten).length with h | h
    .exact h
    .rw[List.getElem?_eq_none h]at hi;cases hi
   rw[Array.getElem?_append_left (by simpa using hlt)]
   simpa using hi