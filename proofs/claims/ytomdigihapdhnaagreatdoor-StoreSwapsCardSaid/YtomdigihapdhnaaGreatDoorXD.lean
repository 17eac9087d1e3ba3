import Derived.Test.YtomdigihapdhnaaGreatDoorXC
set_option linter.all false
set_option maxRecDepth 99999
set_option maxHeartbeats 0
open Go.IntKind(i64)
open Go.Proofs.Tryz
namespace Go.Proofs.YtomdigihapdhnaaGreatDoor
namespace G
open Go SL
variable{B:World}{ro I:AH}
def ad0(B:World)(ro:AH)(a0:Int)(a1:Sl)(I:AH)(Q:Bool->AH->Prop):=
 qc prog B ro 6 #[.int .i64 a0,Sl.v a1] I fun v I=> ∃(r0:Bool),v= .bool r0/\Q r0 I
def acm(B:World)(ro:AH)(a0_0 a0_1:Int)(a0_2:Sl)(a0_3:Int)(a0_4:Sl)(a0_5 a0_6 a0_7 a0_8:Int)(a0_9 a0_10:Sl)(a0_11:Int)(I:AH)(Q:Sl->Int->AH->Prop):=
 qc prog B ro 12 #[.agg #[.int .i64 a0_0,.int .i64 a0_1,Sl.v a0_2,.int .i64 a0_3,Sl.v a0_4,.int .i64 a0_5,.int .i64 a0_6,.int .i64 a0_7,.int .i64 a0_8,Sl.v a0_9,Sl.v a0_10,.int .i64 a0_11]] I fun v I=> ∃(r0:Sl) (r1:Int),v= .tuple #[Sl.v r0,.int .i64 r1]/\Q r0 r1 I
def acn(B:World)(ro:AH)(a0:Sl)(I:AH)(Q:Int->Int->Sl->Int->Sl->Int->Int->Int->Int->Sl->Sl->Int->Int->AH->Prop):=
 qc prog B ro 15 #[Sl.v a0] I fun v I=> ∃(r0_0:Int) (r0_1:Int) (r0_2:Sl) (r0_3:Int) (r0_4:Sl) (r0_5:Int) (r0_6:Int) (r0_7:Int) (r0_8:Int) (r0_9:Sl) (r0_10:Sl) (r0_11:Int) (r1:Int),v= .tuple #[.agg #[.int .i64 r0_0,.int .i64 r0_1,Sl.v r0_2,.int .i64 r0_3,Sl.v r0_4,.int .i64 r0_5,.int .i64 r0_6,.int .i64 r0_7,.int .i64 r0_8,Sl.v r0_9,Sl.v r0_10,.int .i64 r0_11],.int .i64 r1]/\Q r0_0 r0_1 r0_2 r0_3 r0_4 r0_5 r0_6 r0_7 r0_8 r0_9 r0_10 r0_11 r1 I
def aca(B:World)(ro I:AH)(Q:Bool->AH->Prop):Prop:=
 qc prog B ro 20 #[] I fun v I=> ∃(r0:Bool),v= .bool r0/\Q r0 I
def abQ(B:World)(ro:AH)(a0:Sl)(I:AH)(Q:Option Addr->Int->AH->Prop):=
 qc prog B ro 21 #[Sl.v a0] I fun v I=> ∃(r0:Option Addr) (r1:Int),v= .tuple #[.pointer r0,.int .i64 r1]/\Q r0 r1 I
def kX(B:World)(ro:AH)(a0:Option Addr)(a1_0:Int)(a1_1:ByteArray)(a1_2 a1_3 a1_4 a1_5 a1_6 a1_7:Int)(a1_8:Sl)(a1_9:ByteArray)(a1_10:Bool)(a1_11:Int)(a1_12:Sl)(I:AH)(Q:Int->Int->Sl->Int->Sl->Int->Int->Int->Int->Sl->Sl->Int->AH->Prop):=
 qc prog B ro 22 #[.pointer a0,.agg #[.int .i64 a1_0,.string a1_1,.int .i64 a1_2,.int .i64 a1_3,.int .i64 a1_4,.int .i64 a1_5,.int .i64 a1_6,.int .i64 a1_7,Sl.v a1_8,.string a1_9,.bool a1_10,.int .i64 a1_11,Sl.v a1_12]] I fun v I=> ∃(r0_0:Int) (r0_1:Int) (r0_2:Sl) (r0_3:Int) (r0_4:Sl) (r0_5:Int) (r0_6:Int) (r0_7:Int) (r0_8:Int) (r0_9:Sl) (r0_10:Sl) (r0_11:Int),v= .agg #[.int .i64 r0_0,.int .i64 r0_1,Sl.v r0_2,.int .i64 r0_3,Sl.v r0_4,.int .i64 r0_5,.int .i64 r0_6,.int .i64 r0_7,.int .i64 r0_8,Sl.v r0_9,Sl.v r0_10,.int .i64 r0_11]/\Q r0_0 r0_1 r0_2 r0_3 r0_4 r0_5 r0_6 r0_7 r0_8 r0_9 r0_10 r0_11 I
def aaZ(B:World)(ro:AH)(a0:Option Addr)(I:AH)(Q:Option Addr->AH->Prop):=
 qc prog B ro 24 #[.pointer a0] I fun v I=> ∃(r0:Option Addr),v= .pointer r0/\Q r0 I
def xj(B:World)(ro:AH)(a0:Option Addr)(a1:ByteArray)(I:AH)(Q:Sl->Int->Int->Int->Int->Int->AH->Prop):=
 qc prog B ro 25 #[.pointer a0,.string a1] I fun v I=> ∃(r0:Sl) (r1_0:Int) (r1_1:Int) (r1_2:Int) (r1_3:Int) (r2:Int),v= .tuple #[Sl.v r0,.agg #[.int .i64 r1_0,.int .i64 r1_1,.int .i64 r1_2,.int .i64 r1_3],.int .i64 r2]/\Q r0 r1_0 r1_1 r1_2 r1_3 r2 I
def aef(B:World)(ro:AH)(a0:Option Addr)(a1:Sl)(I:AH)(Q:Int->Int->AH->Prop):=
 qc prog B ro 26 #[.pointer a0,Sl.v a1] I fun v I=> ∃(r0_0:Int) (r0_1:Int),v= .agg #[.int .i64 r0_0,.int .i64 r0_1]/\Q r0_0 r0_1 I
def aa0(B:World)(ro:AH)(a0:Option Addr)(a1:ByteArray)(I:AH)(Q:Sl->Int->AH->Prop):=
 qc prog B ro 27 #[.pointer a0,.string a1] I fun v I=> ∃(r0:Sl) (r1:Int),v= .tuple #[Sl.v r0,.int .i64 r1]/\Q r0 r1 I
def uR(B:World)(ro I:AH)(Q:Option Addr->AH->Prop):Prop:=
 qc prog B ro 43 #[] I fun v I=> ∃(r0:Option Addr),v= .pointer r0/\Q r0 I
def wX(B:World)(ro:AH)(a0:Option Addr)(a1:Sl)(I:AH)(Q:AH->Prop):=
 qc prog B ro 44 #[.pointer a0,Sl.v a1] I fun v I=>v= .tuple #[]/\Q I
def vh(B:World)(ro:AH)(a0:Option Addr)(a1:Sl)(I:AH)(Q:AH->Prop):=
 qc prog B ro 45 #[.pointer a0,Sl.v a1] I fun v I=>v= .tuple #[]/\Q I
def jm(B:World)(ro:AH)(a0:Option Addr)(a1:Sl)(I:AH)(Q:AH->Prop):=
 qc prog B ro 46 #[.pointer a0,Sl.v a1] I fun v I=>v= .tuple #[]/\Q I
def uq(B:World)(ro:AH)(a0:Option Addr)(I:AH)(Q:Sl->Int->AH->Prop):=
 qc prog B ro 47 #[.pointer a0] I fun v I=> ∃(r0:Sl) (r1:Int),v= .tuple #[Sl.v r0,.int .i64 r1]/\Q r0 r1 I
def uS(B:World)(ro:AH)(a0:Sl)(I:AH)(Q:Option Addr->AH->Prop):=
 qc prog B ro 53 #[Sl.v a0] I fun v I=> ∃(r0:Option Addr),v= .pointer r0/\Q r0 I
def qN(B:World)(ro:AH)(a0:Option Addr)(I:AH)(Q:Int->AH->Prop):=
 qc prog B ro 54 #[.pointer a0] I fun v I=> ∃(r0:Int),v= .int .i64 r0/\Q r0 I
def xn(B:World)(ro:AH)(a0:Option Addr)(I:AH)(Q:ByteArray->AH->Prop):=
 qc prog B ro 55 #[.pointer a0] I fun v I=> ∃(r0:ByteArray),v= .string r0/\Q r0 I
def jM(B:World)(ro:AH)(a0:Option Addr)(I:AH)(Q:Sl->AH->Prop):=
 qc prog B ro 56 #[.pointer a0] I fun v I=> ∃(r0:Sl),v=Sl.v r0/\Q r0 I
def ur(B:World)(ro:AH)(a0:Option Addr)(I:AH)(Q:Int->AH->Prop):=
 qc prog B ro 57 #[.pointer a0] I fun v I=> ∃(r0:Int),v= .int .i64 r0/\Q r0 I
def pM(B:World)(ro:AH)(a0:Option Addr)(I:AH)(Q:Int->AH->Prop):=
 qc prog B ro 58 #[.pointer a0] I fun v I=> ∃(r0:Int),v= .int .i64 r0/\Q r0 I
def ac5(B:World)(ro:AH)(a0:Option Addr)(I:AH)(Q:Int->AH->Prop):=
 qc prog B ro 62 #[.pointer a0] I fun v I=> ∃(r0:Int),v= .int .i64 r0/\Q r0 I
def abR(B:World)(ro:AH)(a0:Option Addr)(I:AH)(Q:Sl->AH->Prop):=
 qc prog B ro 63 #[.pointer a0] I fun v I=> ∃(r0:Sl),v=Sl.v r0/\Q r0 I
def xJ(B:World)(ro:AH)(a0:Sl)(I:AH)(Q:Bool->AH->Prop):=
 qc prog B ro 64 #[Sl.v a0] I fun v I=> ∃(r0:Bool),v= .bool r0/\Q r0 I
def xb(B:World)(ro:AH)(a0:Sl)(I:AH)(Q:Sl->AH->Prop):=
 qc prog B ro 65 #[Sl.v a0] I fun v I=> ∃(r0:Sl),v=Sl.v r0/\Q r0 I
def afJ(B:World)(ro I:AH)(Q:Option Addr->AH->Prop):Prop:=
 qc prog B ro 66 #[] I fun v I=> ∃(r0:Option Addr),v= .pointer r0/\Q r0 I
def ahr(B:World)(ro I:AH)(Q:Option Addr->AH->Prop):Prop:=
 qc prog B ro 67 #[] I fun v I=> ∃(r0:Option Addr),v= .pointer r0/\Q r0 I
def aiY(B:World)(ro I:AH)(Q:Option Addr->AH->Prop):Prop:=
 qc prog B ro 68 #[] I fun v I=> ∃(r0:Option Addr),v= .pointer r0/\Q r0 I
def pN(B:World)(ro:AH)(a0:Option Addr)(a1_0:Int)(a1_1:ByteArray)(a1_2 a1_3 a1_4 a1_5 a1_6 a1_7:Int)(a1_8:Sl)(a1_9:ByteArray)(a1_10:Bool)(a1_11:Int)(a1_12:Sl)(I:AH)(Q:Int->Int->Sl->Int->Sl->Int->Int->Int->Int->Sl->Sl->Int->AH->Prop):=
 qc prog B ro 69 #[.pointer a0,.agg #[.int .i64 a1_0,.string a1_1,.int .i64 a1_2,.int .i64 a1_3,.int .i64 a1_4,.int .i64 a1_5,.int .i64 a1_6,.int .i64 a1_7,Sl.v a1_8,.string a1_9,.bool a1_10,.int .i64 a1_11,Sl.v a1_12]] I fun v I=> ∃(r0_0:Int) (r0_1:Int) (r0_2:Sl) (r0_3:Int) (r0_4:Sl) (r0_5:Int) (r0_6:Int) (r0_7:Int) (r0_8:Int) (r0_9:Sl) (r0_10:Sl) (r0_11:Int),v= .agg #[.int .i64 r0_0,.int .i64 r0_1,Sl.v r0_2,.int .i64 r0_3,Sl.v r0_4,.int .i64 r0_5,.int .i64 r0_6,.int .i64 r0_7,.int .i64 r0_8,Sl.v r0_9,Sl.v r0_10,.int .i64 r0_11]/\Q r0_0 r0_1 r0_2 r0_3 r0_4 r0_5 r0_6 r0_7 r0_8 r0_9 r0_10 r0_11 I
def ud(B:World)(ro:AH)(a0:Option Addr)(a1_0:ByteArray)(a1_1 a2:Int)(I:AH)(Q:Bool->AH->Prop):=
 qc prog B ro 70 #[.pointer a0,.agg #[.string a1_0,.int .i64 a1_1],.int .i64 a2] I fun v I=> ∃(r0:Bool),v= .bool r0/\Q r0 I
def vB(B:World)(ro:AH)(a0_0:Int)(a0_1:ByteArray)(a0_2 a0_3 a0_4 a0_5 a0_6 a0_7:Int)(a0_8:Sl)(a0_9:ByteArray)(a0_10:Bool)(a0_11:Int)(a0_12:Sl)(I:AH)(Q:ByteArray->Int->AH->Prop):=
 qc prog B ro 71 #[.agg #[.int .i64 a0_0,.string a0_1,.int .i64 a0_2,.int .i64 a0_3,.int .i64 a0_4,.int .i64 a0_5,.int .i64 a0_6,.int .i64 a0_7,Sl.v a0_8,.string a0_9,.bool a0_10,.int .i64 a0_11,Sl.v a0_12]] I fun v I=> ∃(r0_0:ByteArray) (r0_1:Int),v= .agg #[.string r0_0,.int .i64 r0_1]/\Q r0_0 r0_1 I
def wK(B:World)(ro:AH)(a0:Int)(I:AH)(Q:Int->Int->Sl->Int->Sl->Int->Int->Int->Int->Sl->Sl->Int->AH->Prop):=
 qc prog B ro 72 #[.int .i64 a0] I fun v I=> ∃(r0_0:Int) (r0_1:Int) (r0_2:Sl) (r0_3:Int) (r0_4:Sl) (r0_5:Int) (r0_6:Int) (r0_7:Int) (r0_8:Int) (r0_9:Sl) (r0_10:Sl) (r0_11:Int),v= .agg #[.int .i64 r0_0,.int .i64 r0_1,Sl.v r0_2,.int .i64 r0_3,Sl.v r0_4,.int .i64 r0_5,.int .i64 r0_6,.int .i64 r0_7,.int .i64 r0_8,Sl.v r0_9,Sl.v r0_10,.int .i64 r0_11]/\Q r0_0 r0_1 r0_2 r0_3 r0_4 r0_5 r0_6 r0_7 r0_8 r0_9 r0_10 r0_11 I
def ph(B:World)(ro:AH)(a0:Option Addr)(a1_0:ByteArray)(a1_1:Int)(I:AH)(Q:AH->Prop):=
 qc prog B ro 73 #[.pointer a0,.agg #[.string a1_0,.int .i64 a1_1]] I fun v I=>v= .tuple #[]/\Q I
def uT(B:World)(ro:AH)(a0:Option Addr)(a1_0:Int)(a1_1:ByteArray)(a1_2 a1_3 a1_4 a1_5 a1_6 a1_7:Int)(a1_8:Sl)(a1_9:ByteArray)(a1_10:Bool)(a1_11:Int)(a1_12:Sl)(I:AH)(Q:Int->Int->Sl->Int->Sl->Int->Int->Int->Int->Sl->Sl->Int->AH->Prop):=
 qc prog B ro 74 #[.pointer a0,.agg #[.int .i64 a1_0,.string a1_1,.int .i64 a1_2,.int .i64 a1_3,.int .i64 a1_4,.int .i64 a1_5,.int .i64 a1_6,.int .i64 a1_7,Sl.v a1_8,.string a1_9,.bool a1_10,.int .i64 a1_11,Sl.v a1_12]] I fun v I=> ∃(r0_0:Int) (r0_1:Int) (r0_2:Sl) (r0_3:Int) (r0_4:Sl) (r0_5:Int) (r0_6:Int) (r0_7:Int) (r0_8:Int) (r0_9:Sl) (r0_10:Sl) (r0_11:Int),v= .agg #[.int .i64 r0_0,.int .i64 r0_1,Sl.v r0_2,.int .i64 r0_3,Sl.v r0_4,.int .i64 r0_5,.int .i64 r0_6,.int .i64 r0_7,.int .i64 r0_8,Sl.v r0_9,Sl.v r0_10,.int .i64 r0_11]/\Q r0_0 r0_1 r0_2 r0_3 r0_4 r0_5 r0_6 r0_7 r0_8 r0_9 r0_10 r0_11 I
def uU(B:World)(ro:AH)(a0:Option Addr)(a1_0:Int)(a1_1:ByteArray)(a1_2 a1_3 a1_4 a1_5 a1_6 a1_7:Int)(a1_8:Sl)(a1_9:ByteArray)(a1_10:Bool)(a1_11:Int)(a1_12:Sl)(I:AH)(Q:Int->Int->Sl->Int->Sl->Int->Int->Int->Int->Sl->Sl->Int->AH->Prop):=
 qc prog B ro 75 #[.pointer a0,.agg #[.int .i64 a1_0,.string a1_1,.int .i64 a1_2,.int .i64 a1_3,.int .i64 a1_4,.int .i64 a1_5,.int .i64 a1_6,.int .i64 a1_7,Sl.v a1_8,.string a1_9,.bool a1_10,.int .i64 a1_11,Sl.v a1_12]] I fun v I=> ∃(r0_0:Int) (r0_1:Int) (r0_2:Sl) (r0_3:Int) (r0_4:Sl) (r0_5:Int) (r0_6:Int) (r0_7:Int) (r0_8:Int) (r0_9:Sl) (r0_10:Sl) (r0_11:Int),v= .agg #[.int .i64 r0_0,.int .i64 r0_1,Sl.v r0_2,.int .i64 r0_3,Sl.v r0_4,.int .i64 r0_5,.int .i64 r0_6,.int .i64 r0_7,.int .i64 r0_8,Sl.v r0_9,Sl.v r0_10,.int .i64 r0_11]/\Q r0_0 r0_1 r0_2 r0_3 r0_4 r0_5 r0_6 r0_7 r0_8 r0_9 r0_10 r0_11 I
def abr(B:World)(ro:AH)(a0:Sl)(I:AH)(Q:Option Addr->Int->AH->Prop):=
 qc prog B ro 77 #[Sl.v a0] I fun v I=> ∃(r0:Option Addr) (r1:Int),v= .tuple #[.pointer r0,.int .i64 r1]/\Q r0 r1 I
def pi(B:World)(ro:AH)(a0:Option Addr)(I:AH)(Q:Sl->AH->Prop):=
 qc prog B ro 78 #[.pointer a0] I fun v I=> ∃(r0:Sl),v=Sl.v r0/\Q r0 I
def yp(B:World)(ro:AH)(a0:Option Addr)(a1:ByteArray)(I:AH)(Q:Option Addr->Int->AH->Prop):=
 qc prog B ro 79 #[.pointer a0,.string a1] I fun v I=> ∃(r0:Option Addr) (r1:Int),v= .tuple #[.pointer r0,.int .i64 r1]/\Q r0 r1 I
def kn(B:World)(ro:AH)(a0:Sl)(I:AH)(Q:Sl->AH->Prop):=
 qc prog B ro 80 #[Sl.v a0] I fun v I=> ∃(r0:Sl),v=Sl.v r0/\Q r0 I
def yD(B:World)(ro:AH)(a0:ByteArray)(I:AH)(Q:ByteArray->Int->AH->Prop):=
 qc prog B ro 81 #[.string a0] I fun v I=> ∃(r0:ByteArray) (r1:Int),v= .tuple #[.string r0,.int .i64 r1]/\Q r0 r1 I
def vo(B:World)(ro:AH)(a0:ByteArray)(I:AH)(Q:Int->AH->Prop):=
 qc prog B ro 82 #[.string a0] I fun v I=> ∃(r0:Int),v= .int .i64 r0/\Q r0 I
def xc(B:World)(ro:AH)(a0:Sl)(a1:Value)(I:AH)(Q:Sl->AH->Prop):=
 qc prog B ro 83 #[Sl.v a0,a1] I fun v I=> ∃(r0:Sl),v=Sl.v r0/\Q r0 I
def xo(B:World)(ro:AH)(a0:Option Addr)(I:AH)(Q:Sl->AH->Prop):=
 qc prog B ro 84 #[.pointer a0] I fun v I=> ∃(r0:Sl),v=Sl.v r0/\Q r0 I
def acP(B:World)(ro:AH)(a0:ByteArray)(a1:Addr)(I:AH)(Q:Bool->AH->Prop):=
 qc prog B ro 85 #[.string a0,.pointer (some a1)] I fun v I=> ∃(r0:Bool),v= .bool r0/\Q r0 I
def aeY(B:World)(ro:AH)(a0 a1:ByteArray)(I:AH)(Q:Bool->Int->AH->Prop):=
 qc prog B ro 86 #[.string a0,.string a1] I fun v I=> ∃(r0:Bool) (r1:Int),v= .tuple #[.bool r0,.int .i64 r1]/\Q r0 r1 I
def yE(B:World)(ro:AH)(a0:ByteArray)(I:AH)(Q:Bool->AH->Prop):=
 qc prog B ro 99 #[.string a0] I fun v I=> ∃(r0:Bool),v= .bool r0/\Q r0 I
def yq(B:World)(ro:AH)(a0:Option Addr)(a1:Int)(I:AH)(Q:AH->Prop):=
 qc prog B ro 114 #[.pointer a0,.int .i64 a1] I fun v I=>v= .tuple #[]/\Q I
def yi(B:World)(ro:AH)(a0:Option Addr)(a1:ByteArray)(I:AH)(Q:Int->Value->AH->Prop):=
 qc prog B ro 115 #[.pointer a0,.string a1] I fun v I=> ∃(r0:Int) (r1:Value),v= .tuple #[.int .i64 r0,r1]/\Q r0 r1 I
def yu(B:World)(ro:AH)(a0:Option Addr)(a1:Sl)(I:AH)(Q:Int->Value->AH->Prop):=
 qc prog B ro 116 #[.pointer a0,Sl.v a1] I fun v I=> ∃(r0:Int) (r1:Value),v= .tuple #[.int .i64 r0,r1]/\Q r0 r1 I
def ac6(B:World)(ro:AH)(a0:Option Addr)(I:AH)(Q:Sl->AH->Prop):=
 qc prog B ro 117 #[.pointer a0] I fun v I=> ∃(r0:Sl),v=Sl.v r0/\Q r0 I
def aeg(B:World)(ro:AH)(a0:Sl)(a1:Int)(I:AH)(Q:Int->Int->Int->AH->Prop):=
 qc prog B ro 119 #[Sl.v a0,.int .i64 a1] I fun v I=> ∃(r0:Int) (r1:Int) (r2:Int),v= .tuple #[.int .i64 r0,.int .i64 r1,.int .i64 r2]/\Q r0 r1 r2 I
def xK(B:World)(ro:AH)(a0:Option Addr)(a1:ByteArray)(a2 a3:Int)(I:AH)(Q:Int->Bool->Int->AH->Prop):=
 qc prog B ro 121 #[.pointer a0,.string a1,.int .i64 a2,.int .i64 a3] I fun v I=> ∃(r0:Int) (r1:Bool) (r2:Int),v= .tuple #[.int .i64 r0,.bool r1,.int .i64 r2]/\Q r0 r1 r2 I
def jn(B:World)(ro:AH)(a0:Option Addr)(a1:ByteArray)(a2:Sl)(a3:Int)(a4:Bool)(I:AH)(Q:ByteArray->Int->AH->Prop):=
 qc prog B ro 122 #[.pointer a0,.string a1,Sl.v a2,.int .i64 a3,.bool a4] I fun v I=> ∃(r0:ByteArray) (r1:Int),v= .tuple #[.string r0,.int .i64 r1]/\Q r0 r1 I
def vC(B:World)(ro:AH)(a0:Option Addr)(a1_0:ByteArray)(a1_1:Int)(I:AH)(Q:Option Addr->Int->AH->Prop):=
 qc prog B ro 123 #[.pointer a0,.agg #[.string a1_0,.int .i64 a1_1]] I fun v I=> ∃(r0:Option Addr) (r1:Int),v= .tuple #[.pointer r0,.int .i64 r1]/\Q r0 r1 I
def aco(B:World)(ro:AH)(a0:Option Addr)(a1:Sl)(I:AH)(Q:AH->Prop):=
 qc prog B ro 124 #[.pointer a0,Sl.v a1] I fun v I=>v= .tuple #[]/\Q I
def uV(B:World)(ro:AH)(a0:Option Addr)(a1:Sl)(I:AH)(Q:Int->AH->Prop):=
 qc prog B ro 125 #[.pointer a0,Sl.v a1] I fun v I=> ∃(r0:Int),v= .int .i64 r0/\Q r0 I
def aan(B:World)(ro:AH)(a0:Option Addr)(a1:ByteArray)(a2:Sl)(I:AH)(Q:Sl->AH->Prop):=
 qc prog B ro 126 #[.pointer a0,.string a1,Sl.v a2] I fun v I=> ∃(r0:Sl),v=Sl.v r0/\Q r0 I
def uy(B:World)(ro:AH)(a0:Option Addr)(a1_0:ByteArray)(a1_1 a2:Int)(I:AH)(Q:Sl->Bool->Int->AH->Prop):=
 qc prog B ro 127 #[.pointer a0,.agg #[.string a1_0,.int .i64 a1_1],.int .i64 a2] I fun v I=> ∃(r0:Sl) (r1:Bool) (r2:Int),v= .tuple #[Sl.v r0,.bool r1,.int .i64 r2]/\Q r0 r1 r2 I
def xT(B:World)(ro:AH)(a0:Option Addr)(a1_0:ByteArray)(a1_1:Int)(I:AH)(Q:Sl->AH->Prop):=
 qc prog B ro 128 #[.pointer a0,.agg #[.string a1_0,.int .i64 a1_1]] I fun v I=> ∃(r0:Sl),v=Sl.v r0/\Q r0 I
def ac7(B:World)(ro:AH)(a0:Option Addr)(a1_0:ByteArray)(a1_1 a2:Int)(I:AH)(Q:Int->AH->Prop):=
 qc prog B ro 129 #[.pointer a0,.agg #[.string a1_0,.int .i64 a1_1],.int .i64 a2] I fun v I=> ∃(r0:Int),v= .int .i64 r0/\Q r0 I
def uz(B:World)(ro:AH)(a0:Option Addr)(a1_0:ByteArray)(a1_1:Int)(I:AH)(Q:Int->AH->Prop):=
 qc prog B ro 130 #[.pointer a0,.agg #[.string a1_0,.int .i64 a1_1]] I fun v I=> ∃(r0:Int),v= .int .i64 r0/\Q r0 I
def acp(B:World)(ro:AH)(a0:Option Addr)(a1_0:Int)(a1_1:ByteArray)(a1_2 a1_3 a1_4 a1_5 a1_6 a1_7:Int)(a1_8:Sl)(a1_9:ByteArray)(a1_10:Bool)(a1_11:Int)(a1_12:Sl)(I:AH)(Q:Int->Int->Sl->Int->Sl->Int->Int->Int->Int->Sl->Sl->Int->AH->Prop):=
 qc prog B ro 131 #[.pointer a0,.agg #[.int .i64 a1_0,.string a1_1,.int .i64 a1_2,.int .i64 a1_3,.int .i64 a1_4,.int .i64 a1_5,.int .i64 a1_6,.int .i64 a1_7,Sl.v a1_8,.string a1_9,.bool a1_10,.int .i64 a1_11,Sl.v a1_12]] I fun v I=> ∃(r0_0:Int) (r0_1:Int) (r0_2:Sl) (r0_3:Int) (r0_4:Sl) (r0_5:Int) (r0_6:Int) (r0_7:Int) (r0_8:Int) (r0_9:Sl) (r0_10:Sl) (r0_11:Int),v= .agg #[.int .i64 r0_0,.int .i64 r0_1,Sl.v r0_2,.int .i64 r0_3,Sl.v r0_4,.int .i64 r0_5,.int .i64 r0_6,.int .i64 r0_7,.int .i64 r0_8,Sl.v r0_9,Sl.v r0_10,.int .i64 r0_11]/\Q r0_0 r0_1 r0_2 r0_3 r0_4 r0_5 r0_6 r0_7 r0_8 r0_9 r0_10 r0_11 I
def pj(B:World)(ro:AH)(a0:Option Addr)(a1_0:ByteArray)(a1_1 a2:Int)(a3:Sl)(I:AH)(Q:Int->AH->Prop):=
 qc prog B ro 132 #[.pointer a0,.agg #[.string a1_0,.int .i64 a1_1],.int .i64 a2,Sl.v a3] I fun v I=> ∃(r0:Int),v= .int .i64 r0/\Q r0 I
def acq(B:World)(ro:AH)(a0:Option Addr)(a1 a2:ByteArray)(a3:Option Addr)(I:AH)(Q:Bool->AH->Prop):=
 qc prog B ro 133 #[.pointer a0,.string a1,.string a2,.pointer a3] I fun v I=> ∃(r0:Bool),v= .bool r0/\Q r0 I
def vp(B:World)(ro:AH)(a0:ByteArray)(I:AH)(Q:Sl->Int->AH->Prop):=
 qc prog B ro 134 #[.string a0] I fun v I=> ∃(r0:Sl) (r1:Int),v= .tuple #[Sl.v r0,.int .i64 r1]/\Q r0 r1 I
theorem aiI{a0:ByteArray}{Q Q':Sl->Int->AH->Prop}(h:vp B ro a0 I Q)(hq:∀ r0 r1 I,Sep ro I->Q r0 r1 I->Q' r0 r1 I):vp B ro a0 I Q':=
 qc.monoS h fun v I hs ⟨r0,r1,hv,q⟩=>⟨r0,r1,hv,hq _ _ I hs q⟩
theorem ahP{B:World}{ro ψ:AH}{a0:ByteArray}{Q:Sl->Int->AH->Prop}(h:vp B ro a0 I Q)(hd:qP I ψ):vp B ro a0 (join I ψ) fun r0 r1 I=> ∃τ,I=join τ ψ/\qP τ ψ/\Q r0 r1 τ:=
 (qc.frame h hd).mono fun v I ⟨τ,h1,h2,r0,r1,hv,q⟩=>⟨r0,r1,hv,⟨τ,h1,h2,q⟩⟩
def yT(B:World)(ro:AH)(a0:Sl)(a1:Value)(I:AH)(Q:Int->AH->Prop):=
 qc prog B ro 135 #[Sl.v a0,a1] I fun v I=> ∃(r0:Int),v= .int .i64 r0/\Q r0 I
def abS(B:World)(ro:AH)(a0:Value)(I:AH)(Q:Sl->AH->Prop):=
 qc prog B ro 136 #[a0] I fun v I=> ∃(r0:Sl),v=Sl.v r0/\Q r0 I
def abT(B:World)(ro:AH)(a0:Option Nat)(I:AH)(Q:Value->AH->Prop):=
 qc prog B ro 137 #[.map a0] I fun v I=> ∃(r0:Value),v=r0/\Q r0 I
def pn(B:World)(ro:AH)(a0 a1:ByteArray)(I:AH)(Q:Bool->AH->Prop):=
 qc prog B ro 138 #[.string a0,.string a1] I fun v I=> ∃(r0:Bool),v= .bool r0/\Q r0 I
def ac8(B:World)(ro:AH)(a0:Int)(I:AH)(Q:Bool->AH->Prop):=
 qc prog B ro 174 #[.int .i64 a0] I fun v I=> ∃(r0:Bool),v= .bool r0/\Q r0 I
def agJ(B:World)(ro:AH)(a0:Sl)(a1:Int)(I:AH)(Q:Sl->AH->Prop):=
 qc prog B ro 175 #[Sl.v a0,.int .i64 a1] I fun v I=> ∃(r0:Sl),v=Sl.v r0/\Q r0 I
def zK(B:World)(ro:AH)(a0:Option Addr)(a1:Int)(I:AH)(Q:Int->Bool->AH->Prop):=
 qc prog B ro 176 #[.pointer a0,.int .i64 a1] I fun v I=> ∃(r0:Int) (r1:Bool),v= .tuple #[.int .i64 r0,.bool r1]/\Q r0 r1 I
def po(B:World)(ro:AH)(a0:Option Addr)(a1:Int)(I:AH)(Q:Int->AH->Prop):=
 qc prog B ro 177 #[.pointer a0,.int .i64 a1] I fun v I=> ∃(r0:Int),v= .int .i64 r0/\Q r0 I
def uW(B:World)(ro:AH)(a0:Int)(I:AH)(Q:Bool->AH->Prop):=
 qc prog B ro 178 #[.int .i64 a0] I fun v I=> ∃(r0:Bool),v= .bool r0/\Q r0 I
def yj(B:World)(ro:AH)(a0:ByteArray)(I:AH)(Q:ByteArray->Int->AH->Prop):=
 qc prog B ro 179 #[.string a0] I fun v I=> ∃(r0:ByteArray) (r1:Int),v= .tuple #[.string r0,.int .i64 r1]/\Q r0 r1 I
def aeh(B:World)(ro:AH)(a0:ByteArray)(a1:Int)(I:AH)(Q:ByteArray->Int->AH->Prop):=
 qc prog B ro 180 #[.string a0,.int .i64 a1] I fun v I=> ∃(r0:ByteArray) (r1:Int),v= .tuple #[.string r0,.int .i64 r1]/\Q r0 r1 I
def yU(B:World)(ro:AH)(a0:Option Addr)(a1_0:ByteArray)(a1_1 a2:Int)(I:AH)(Q:Int->AH->Prop):=
 qc prog B ro 181 #[.pointer a0,.agg #[.string a1_0,.int .i64 a1_1],.int .i64 a2] I fun v I=> ∃(r0:Int),v= .int .i64 r0/\Q r0 I
def acV(B:World)(ro:AH)(a0:Sl)(I:AH)(Q:Value->AH->Prop):=
 qc prog B ro 182 #[Sl.v a0] I fun v I=> ∃(r0:Value),v=r0/\Q r0 I
def aa1(B:World)(ro:AH)(a0:Option Addr)(a1:Sl)(I:AH)(Q:Sl->AH->Prop):=
 qc prog B ro 183 #[.pointer a0,Sl.v a1] I fun v I=> ∃(r0:Sl),v=Sl.v r0/\Q r0 I
def jo(B:World)(ro:AH)(a0:Option Addr)(a1:ByteArray)(a2:Int)(I:AH)(Q:Int->AH->Prop):=
 qc prog B ro 184 #[.pointer a0,.string a1,.int .i64 a2] I fun v I=> ∃(r0:Int),v= .int .i64 r0/\Q r0 I
def yk(B:World)(ro:AH)(a0:Sl)(I:AH)(Q:Sl->AH->Prop):=
 qc prog B ro 185 #[Sl.v a0] I fun v I=> ∃(r0:Sl),v=Sl.v r0/\Q r0 I
def aa2(B:World)(ro:AH)(a0:Option Addr)(a1_0:ByteArray)(a1_1:Int)(I:AH)(Q:Int->Int->AH->Prop):=
 qc prog B ro 186 #[.pointer a0,.agg #[.string a1_0,.int .i64 a1_1]] I fun v I=> ∃(r0:Int) (r1:Int),v= .tuple #[.int .i64 r0,.int .i64 r1]/\Q r0 r1 I
def abz(B:World)(ro:AH)(a0:Option Addr)(a1:Int)(I:AH)(Q:AH->Prop):=
 qc prog B ro 187 #[.pointer a0,.int .i64 a1] I fun v I=>v= .tuple #[]/\Q I
def uA(B:World)(ro:AH)(a0:Option Addr)(a1:Sl)(I:AH)(Q:Int->AH->Prop):=
 qc prog B ro 188 #[.pointer a0,Sl.v a1] I fun v I=> ∃(r0:Int),v= .int .i64 r0/\Q r0 I
def acb(B:World)(ro:AH)(a0:Option Addr)(a1:ByteArray)(a2 a3_0 a3_1:Int)(a4:Sl)(I:AH)(Q:Sl->Sl->Int->Int->AH->Prop):=
 qc prog B ro 189 #[.pointer a0,.string a1,.int .i64 a2,.agg #[.int .i64 a3_0,.int .i64 a3_1],Sl.v a4] I fun v I=> ∃(r0_0:Sl) (r0_1:Sl) (r0_2:Int) (r1:Int),v= .tuple #[.agg #[Sl.v r0_0,Sl.v r0_1,.int .i64 r0_2],.int .i64 r1]/\Q r0_0 r0_1 r0_2 r1 I
def aei(B:World)(ro I:AH)(Q:Int->Int->AH->Prop):Prop:=
 qc prog B ro 190 #[] I fun v I=> ∃(r0_0:Int) (r0_1:Int),v= .agg #[.int .i64 r0_0,.int .i64 r0_1]/\Q r0_0 r0_1 I
def abA(B:World)(ro:AH)(a0:Option Addr)(a1_0:Int)(a1_1:ByteArray)(a1_2 a1_3 a1_4 a1_5 a1_6 a1_7:Int)(a1_8:Sl)(a1_9:ByteArray)(a1_10:Bool)(a1_11:Int)(a1_12:Sl)(I:AH)(Q:Int->Int->Sl->Int->Sl->Int->Int->Int->Int->Sl->Sl->Int->AH->Prop):=
 qc prog B ro 191 #[.pointer a0,.agg #[.int .i64 a1_0,.string a1_1,.int .i64 a1_2,.int .i64 a1_3,.int .i64 a1_4,.int .i64 a1_5,.int .i64 a1_6,.int .i64 a1_7,Sl.v a1_8,.string a1_9,.bool a1_10,.int .i64 a1_11,Sl.v a1_12]] I fun v I=> ∃(r0_0:Int) (r0_1:Int) (r0_2:Sl) (r0_3:Int) (r0_4:Sl) (r0_5:Int) (r0_6:Int) (r0_7:Int) (r0_8:Int) (r0_9:Sl) (r0_10:Sl) (r0_11:Int),v= .agg #[.int .i64 r0_0,.int .i64 r0_1,Sl.v r0_2,.int .i64 r0_3,Sl.v r0_4,.int .i64 r0_5,.int .i64 r0_6,.int .i64 r0_7,.int .i64 r0_8,Sl.v r0_9,Sl.v r0_10,.int .i64 r0_11]/\Q r0_0 r0_1 r0_2 r0_3 r0_4 r0_5 r0_6 r0_7 r0_8 r0_9 r0_10 r0_11 I
def aa3(B:World)(ro:AH)(a0:Option Addr)(a1_0:Int)(a1_1:ByteArray)(a1_2 a1_3 a1_4 a1_5 a1_6 a1_7:Int)(a1_8:Sl)(a1_9:ByteArray)(a1_10:Bool)(a1_11:Int)(a1_12:Sl)(I:AH)(Q:Int->Int->Sl->Int->Sl->Int->Int->Int->Int->Sl->Sl->Int->AH->Prop):=
 qc prog B ro 192 #[.pointer a0,.agg #[.int .i64 a1_0,.string a1_1,.int .i64 a1_2,.int .i64 a1_3,.int .i64 a1_4,.int .i64 a1_5,.int .i64 a1_6,.int .i64 a1_7,Sl.v a1_8,.string a1_9,.bool a1_10,.int .i64 a1_11,Sl.v a1_12]] I fun v I=> ∃(r0_0:Int) (r0_1:Int) (r0_2:Sl) (r0_3:Int) (r0_4:Sl) (r0_5:Int) (r0_6:Int) (r0_7:Int) (r0_8:Int) (r0_9:Sl) (r0_10:Sl) (r0_11:Int),v= .agg #[.int .i64 r0_0,.int .i64 r0_1,Sl.v r0_2,.int .i64 r0_3,Sl.v r0_4,.int .i64 r0_5,.int .i64 r0_6,.int .i64 r0_7,.int .i64 r0_8,Sl.v r0_9,Sl.v r0_10,.int .i64 r0_11]/\Q r0_0 r0_1 r0_2 r0_3 r0_4 r0_5 r0_6 r0_7 r0_8 r0_9 r0_10 r0_11 I
def afu(B:World)(ro:AH)(a0 a1:ByteArray)(I:AH)(Q:Sl->AH->Prop):=
 qc prog B ro 193 #[.string a0,.string a1] I fun v I=> ∃(r0:Sl),v=Sl.v r0/\Q r0 I
def aby(B:World)(ro:AH)(a0 a1:ByteArray)(I:AH)(Q:Bool->AH->Prop):=
 qc prog B ro 197 #[.string a0,.string a1] I fun v I=> ∃(r0:Bool),v= .bool r0/\Q r0 I
def yv(B:World)(ro:AH)(a0:Sl)(a1:Int)(I:AH)(Q:Bool->AH->Prop):=
 qc prog B ro 205 #[Sl.v a0,.int .i64 a1] I fun v I=> ∃(r0:Bool),v= .bool r0/\Q r0 I
def aej(B:World)(ro:AH)(a0_0:ByteArray)(a0_1:Int)(a1_0:ByteArray)(a1_1:Int)(I:AH)(Q:Int->AH->Prop):=
 qc prog B ro 221 #[.agg #[.string a0_0,.int .i64 a0_1],.agg #[.string a1_0,.int .i64 a1_1]] I fun v I=> ∃(r0:Int),v= .int .i64 r0/\Q r0 I
def abB(B:World)(ro:AH)(a0:Option Addr)(a1:Int)(a2:ByteArray)(I:AH)(Q:AH->Prop):=
 qc prog B ro 222 #[.pointer a0,.int .i64 a1,.string a2] I fun v I=>v= .tuple #[]/\Q I
def ad1(B:World)(ro:AH)(a0:Option Addr)(I:AH)(Q:Int->AH->Prop):=
 qc prog B ro 224 #[.pointer a0] I fun v I=> ∃(r0:Int),v= .int .i64 r0/\Q r0 I
def agK(B:World)(ro:AH)(a0:Option Addr)(I:AH)(Q:AH->Prop):=
 qc prog B ro 225 #[.pointer a0] I fun v I=>v= .tuple #[]/\Q I
def aey(B:World)(ro:AH)(a0:Sl)(a1:Int)(I:AH)(Q:Sl->AH->Prop):=
 qc prog B ro 226 #[Sl.v a0,.int .i64 a1] I fun v I=> ∃(r0:Sl),v=Sl.v r0/\Q r0 I
def jh(B:World)(ro:AH)(a0:ByteArray)(a1:Int)(I:AH)(Q:Int->AH->Prop):=
 qc prog B ro 227 #[.string a0,.int .u8 a1] I fun v I=> ∃(r0:Int),v= .int .i64 r0/\Q r0 I
def af7(B:World)(ro:AH)(a0:Int)(I:AH)(Q:ByteArray->AH->Prop):=
 qc prog B ro 228 #[.int .i64 a0] I fun v I=> ∃(r0:ByteArray),v= .string r0/\Q r0 I
def aeZ(B:World)(ro:AH)(a0:ByteArray)(a1:Int)(I:AH)(Q:ByteArray->AH->Prop):=
 qc prog B ro 229 #[.string a0,.int .i64 a1] I fun v I=> ∃(r0:ByteArray),v= .string r0/\Q r0 I
def pO(B:World)(ro:AH)(a0:Option Addr)(a1:ByteArray)(a2:Int)(I:AH)(Q:Option Addr->Int->AH->Prop):=
 qc prog B ro 231 #[.pointer a0,.string a1,.int .i64 a2] I fun v I=> ∃(r0:Option Addr) (r1:Int),v= .tuple #[.pointer r0,.int .i64 r1]/\Q r0 r1 I
def xA(B:World)(ro:AH)(a0:Sl)(a1:Value)(I:AH)(Q:Sl->AH->Prop):=
 qc prog B ro 232 #[Sl.v a0,a1] I fun v I=> ∃(r0:Sl),v=Sl.v r0/\Q r0 I
def ac9(B:World)(ro:AH)(a0_0 a0_1:Int)(a0_2:ByteArray)(a1:Addr)(I:AH)(Q:Bool->AH->Prop):=
 qc prog B ro 233 #[.agg #[.int .i64 a0_0,.int .i64 a0_1,.string a0_2],.pointer (some a1)] I fun v I=> ∃(r0:Bool),v= .bool r0/\Q r0 I
def ada(B:World)(ro:AH)(a0:Option Addr)(a1_0:Int)(a1_1:ByteArray)(a1_2:Sl)(a1_3:Int)(a1_4 a1_5:Bool)(I:AH)(Q:Int->AH->Prop):=
 qc prog B ro 234 #[.pointer a0,.agg #[.int .i64 a1_0,.string a1_1,Sl.v a1_2,.int .i64 a1_3,.bool a1_4,.bool a1_5]] I fun v I=> ∃(r0:Int),v= .int .i64 r0/\Q r0 I
def aeF(B:World)(ro:AH)(a0_0:Int)(a0_1:ByteArray)(a0_2 a0_3 a0_4 a0_5 a0_6 a0_7:Int)(a0_8:Sl)(a0_9:ByteArray)(a0_10:Bool)(a0_11:Int)(a0_12:Sl)(I:AH)(Q:Int->AH->Prop):=
 qc prog B ro 235 #[.agg #[.int .i64 a0_0,.string a0_1,.int .i64 a0_2,.int .i64 a0_3,.int .i64 a0_4,.int .i64 a0_5,.int .i64 a0_6,.int .i64 a0_7,Sl.v a0_8,.string a0_9,.bool a0_10,.int .i64 a0_11,Sl.v a0_12]] I fun v I=> ∃(r0:Int),v= .int .i64 r0/\Q r0 I
def pP(B:World)(ro:AH)(a0:Option Addr)(a1_0:ByteArray)(a1_1 a2:Int)(a3:ByteArray)(I:AH)(Q:Int->AH->Prop):=
 qc prog B ro 236 #[.pointer a0,.agg #[.string a1_0,.int .i64 a1_1],.int .i64 a2,.string a3] I fun v I=> ∃(r0:Int),v= .int .i64 r0/\Q r0 I
def uB(B:World)(ro:AH)(a0:Option Addr)(a1:ByteArray)(I:AH)(Q:Sl->Int->AH->Prop):=
 qc prog B ro 237 #[.pointer a0,.string a1] I fun v I=> ∃(r0:Sl) (r1:Int),v= .tuple #[Sl.v r0,.int .i64 r1]/\Q r0 r1 I
def abU(B:World)(ro:AH)(a0:Sl)(a1:Int)(I:AH)(Q:Int->AH->Prop):=
 qc prog B ro 246 #[Sl.v a0,.int .i64 a1] I fun v I=> ∃(r0:Int),v= .int .i64 r0/\Q r0 I
def un(B:World)(ro:AH)(a0:ByteArray)(a1:Int)(I:AH)(Q:Int->AH->Prop):=
 qc prog B ro 264 #[.string a0,.int .u8 a1] I fun v I=> ∃(r0:Int),v= .int .i64 r0/\Q r0 I
def pQ(B:World)(ro:AH)(a0:Sl)(a1:Value)(I:AH)(Q:Int->AH->Prop):=
 qc prog B ro 271 #[Sl.v a0,a1] I fun v I=> ∃(r0:Int),v= .int .i64 r0/\Q r0 I
def aay(B:World)(ro:AH)(a0:Option Addr)(a1_0:Int)(a1_1:ByteArray)(a1_2:Sl)(a1_3:Int)(a1_4 a1_5:Bool)(I:AH)(Q:Int->AH->Prop):=
 qc prog B ro 272 #[.pointer a0,.agg #[.int .i64 a1_0,.string a1_1,Sl.v a1_2,.int .i64 a1_3,.bool a1_4,.bool a1_5]] I fun v I=> ∃(r0:Int),v= .int .i64 r0/\Q r0 I
def acr(B:World)(ro:AH)(a0:Option Addr)(a1:ByteArray)(a2:Sl)(a3:Int)(I:AH)(Q:Int->Int->AH->Prop):=
 qc prog B ro 273 #[.pointer a0,.string a1,Sl.v a2,.int .i64 a3] I fun v I=> ∃(r0:Int) (r1:Int),v= .tuple #[.int .i64 r0,.int .i64 r1]/\Q r0 r1 I
def afK(B:World)(ro:AH)(a0:ByteArray)(I:AH)(Q:ByteArray->Int->AH->Prop):=
 qc prog B ro 274 #[.string a0] I fun v I=> ∃(r0:ByteArray) (r1:Int),v= .tuple #[.string r0,.int .i64 r1]/\Q r0 r1 I
def ue(B:World)(ro:AH)(a0:Sl)(I:AH)(Q:Sl->AH->Prop):=
 if a0.a=none then
 Q (⟨none,0,0⟩:Sl) I
 else
 nw ro I (.cells #[] 3) fun u0 I=>
 awp prog ro (Builtin.append_ #[55,55] 55 #[Sl.v (⟨some ⟨u0,0,none⟩,0,0⟩:Sl),Sl.v a0]) (fun v I=> ∃(u1:Sl),v=Sl.v u1/\
 Q u1 I) I
theorem afk{a0:Sl}{Q:Sl->AH->Prop}(h:Sep ro I->ue B ro a0 I Q):xb B ro a0 I Q:=by
 refine zb h func65 ntmps65 fun h=>?_;unfold ue at h;refine z3 ?_;refine zp ?_;refine z2 (AW.seq (z3 ?_))
 refine zp ?_;refine zm (alV rfl underlying55 rfl rfl) ?_;refine z2 ?_;refine AW.iff rfl zt h (fun h=>?_) (fun h=>?_)
 .refine z3 ?_;refine zp ?_;refine z2 ?_;refine AW.ret ?_;refine qi ?_;exact bR1 results65 rfl ⟨_,rfl,h⟩
 refine AW.skip ?_;refine qd (z3 ?_);refine zA (zR (vs:=[]) (cs:= #[]) rfl underlying55 ty3 (by decide) rfl rfl) h fun u0 h=>?_;refine zp ?_;refine zl (je (s:=Builtin.append_ #[55,55] 55 #[Sl.v (⟨some ⟨u0,0,none⟩,0,0⟩:Sl),Sl.v a0]) rfl rfl (fun _=>rfl) (qm _ h ?_))
 rintro v I ⟨u1,rfl,h⟩;refine zp ?_;refine z2 ?_;refine AW.ret ?_;exact bR1 results65 rfl ⟨_,rfl,h⟩
def aek(B:World)(ro:AH)(a0:Sl)(I:AH)(Q:Sl->AH->Prop):=
 if a0.a=none then
 Q (⟨none,0,0⟩:Sl) I
 else
 nw ro I (.cells #[] 5) fun u0 I=>
 awp prog ro (Builtin.append_ #[24,24] 24 #[Sl.v (⟨some ⟨u0,0,none⟩,0,0⟩:Sl),Sl.v a0]) (fun v I=> ∃(u1:Sl),v=Sl.v u1/\
 Q u1 I) I
theorem aku{a0:Sl}{Q:Sl->AH->Prop}(h:Sep ro I->aek B ro a0 I Q):kn B ro a0 I Q:=by
 refine zb h func80 ntmps80 fun h=>?_;unfold aek at h;refine z3 ?_;refine zp ?_;refine z2 (AW.seq (z3 ?_))
 refine zp ?_;refine zm (alV rfl underlying24 rfl rfl) ?_;refine z2 ?_;refine AW.iff rfl zt h (fun h=>?_) (fun h=>?_)
 .refine z3 ?_;refine zp ?_;refine z2 ?_;refine AW.ret ?_;refine qi ?_;exact bR1 results80 rfl ⟨_,rfl,h⟩
 refine AW.skip ?_;refine qd (z3 ?_);refine zA (zR (vs:=[]) (cs:= #[]) rfl underlying24 ty5 (by decide) rfl rfl) h fun u0 h=>?_;refine zp ?_;refine zl (je (s:=Builtin.append_ #[24,24] 24 #[Sl.v (⟨some ⟨u0,0,none⟩,0,0⟩:Sl),Sl.v a0]) rfl rfl (fun _=>rfl) (qm _ h ?_))
 rintro v I ⟨u1,rfl,h⟩;refine zp ?_;refine z2 ?_;refine AW.ret ?_;exact bR1 results80 rfl ⟨_,rfl,h⟩
def vk(B:World)(ro:AH)(a0:Sl)(Q:Sl->AH->Prop)(u0:Int)(I:AH):=
 cutOk (some u0) none a0.len a0.cap/\
 awp prog ro (Builtin.clear_ #[27] 0 #[Sl.v (⟨wu a0.a (Int.toNat u0) a0.cap 1,a0.len - Int.toNat u0,a0.cap - Int.toNat u0⟩:Sl)]) (fun v I=>v= .tuple #[]/\
 cutOk none (some u0) a0.len a0.cap/\
 Q (⟨wu a0.a (0) a0.cap 1,Int.toNat u0 - 0,a0.cap - 0⟩:Sl) I) I
def wF(B:World)(ro:AH)(a0:Sl)(a1:Value)(u0:Int)(Q:Sl->AH->Prop)(Y4:(Int×Int)->AH->Prop)(u1:Int)(I:AH):=
 Y4 (u1,i64.wrap (u0+1)) I
def wG(B:World)(ro:AH)(a0:Sl)(a1:Value)(Q:Sl->AH->Prop):(Int×Int)->AH->((Int×Int)->AH->Prop)->Prop:=fun⟨u0,u1⟩ I Y4=>
 if u1<(a0.len:Int)then
 ∃p2,a0.a=some p2/\(0:Int)<=u1/\u1<(a0.len:Int)/\
 ∃u3,qa ro I (p2.add (Int.toNat u1*1))=some (.string u3)/\
 ac0 prog B ro a1 [.string u3] I (fun v I=> ∃(u4:Bool),v= .bool u4/\
  if¬(u4=true)then
  ∃p5,a0.a=some p5/\(0:Int)<=u0/\u0<(a0.len:Int)/\
  stN (p5.add (Int.toNat u0*1)) (fun I=>
   wF B ro a0 a1 u1 Q Y4 (i64.wrap (u0+1)) I) [.string u3] 0 I
  else
  wF B ro a0 a1 u1 Q Y4 u0 I)
 else
 vk B ro a0 Q u0 I
def xd(B:World)(ro:AH)(a0:Sl)(a1:Value)(I:AH)(Q:Sl->AH->Prop):=
 yT B ro a0 a1 I fun u0 I=>
 if u0=(-1)then
 Q a0 I
 else
 lfpD (wG B ro a0 a1 Q) (u0,i64.wrap (u0+1)) I
theorem abC{a0:Sl}{a1:Value}{Q:Sl->AH->Prop}(h:Sep ro I->xd B ro a0 a1 I Q):xc B ro a0 a1 I Q:=by
 refine zb h func83 ntmps83 fun h=>?_;unfold xd at h;refine z3 ?_;refine zp ?_;refine z4 ?_;iterate 2 refine zp ?_
 refine zc func135 h ?_;rintro v I ⟨u0,rfl,h⟩;refine zp ?_;refine z2 (AW.seq (z3 ?_))
 iterate 2 refine zp ?_
 refine z2 ?_;refine zi h (fun h=>?_) fun h=>?_
 .refine z3 ?_;iterate 2 refine zp ?_
  refine z2 ?_;refine AW.ret ?_;refine qi ?_;exact bR1 results83 rfl ⟨_,rfl,h⟩
 refine AW.skip ?_;refine qd ?_;refine AW.seqJ (fun fr I=> ∃(u1:Int),qo [(0,Sl.v a0),(5,.int .i64 u1)] fr/\vk B ro a0 Q u1 I) ?_ ?_
 .rintro fr I ⟨u1,hl,h⟩;refine AW.weaken ?_ hl (HLe.refl _)
  unfold vk at h;refine z3 ?_;iterate 2 refine zp ?_
  obtain⟨hc,h⟩:=h
  refine zm (uP (lo:=(some u1)) (hi:=none) rfl underlying27 ty9 rfl (zQ rfl) zP hc) ?_;refine zl (je (s:=Builtin.clear_ #[27] 0 #[Sl.v (⟨wu a0.a (Int.toNat u1) a0.cap 1,a0.len - Int.toNat u1,a0.cap - Int.toNat u1⟩:Sl)]) rfl rfl (fun _=>rfl) (qm _ h ?_))
  rintro v I ⟨rfl,h⟩;refine z4 ?_;iterate 2 refine zp ?_
  obtain⟨hc,h⟩:=h
  refine zm (uP (lo:=none) (hi:=(some u1)) rfl underlying27 ty9 rfl zP (zQ rfl) hc) ?_;refine zp ?_;refine z2 ?_;refine AW.ret ?_;exact bR1 results83 rfl ⟨_,rfl,h⟩
 refine z3 ?_;iterate 3 refine zp ?_
 refine z2 (AW.block ?_)
 refine qk.loop (fr':=[(0,Sl.v a0),(1,a1),(5,.int .i64 u0),(6,.int .i64 (i64.wrap (u0+1)))]) ?_ FL
 refine h (fun⟨u2,u3⟩ I=>qk _ _ _ _ _ _ [(0,Sl.v a0),(1,a1),(5,.int .i64 u2),(6,.int .i64 u3)] I) ?_
 rintro⟨u2,u3⟩ I Y4 hY4 h
 show AW _ _ _ _ _ _ _ _
 unfold wG at h;dsimp only at h;refine AW.seq (z3 ?_);iterate 2 refine zp ?_
 refine zm (qT rfl rfl underlying27 rfl rfl) ?_;refine zp ?_;refine z2 ?_;refine zi h (fun h=>?_) fun h=>?_
 rotate_left
 .refine AW.exit ?_;refine qH (qH ?_);refine wB ?_
  refine qd ?_;exact⟨_,FL,h⟩
 refine AW.skip ?_;refine qd ?_;refine AW.seqJ (fun fr I=> ∃(u4:Int),qo [(0,Sl.v a0),(1,a1),(6,.int .i64 u3),(5,.int .i64 u4)] fr/\wF B ro a0 a1 u3 Q Y4 u4 I) ?_ ?_
 .rintro fr I ⟨u4,hl,h⟩;refine AW.weaken ?_ hl (HLe.refl _)
  unfold wF at h;refine AW.reg ?_;iterate 3 refine zp ?_
  refine z2 ?_;refine qk.head (fr':=[(0,Sl.v a0),(1,a1),(5,.int .i64 u4),(6,.int .i64 (i64.wrap (u3+1)))]) ?_ FL
  exact hY4 _ _ h
 refine AW.block (z3 ?_);iterate 2 refine zp ?_
 obtain⟨p5,ha,h0,h1,h⟩:=h
 refine zm (vv rfl underlying27 ty9 (ixL rfl ha) rfl h0 h1) ?_;refine zL underlying9 h fun u6 h=>?_;refine zp ?_;refine z4 ?_;iterate 2 refine zp ?_
 refine zl (ait rfl rfl rfl (aeA h ?_))
 rintro v I ⟨u7,rfl,h⟩;refine zp ?_;refine z2 ?_;refine AW.iff rfl (qu Iff.rfl) h (fun h=>?_) (fun h=>?_)
 rotate_left
 .refine AW.skip ?_;refine qD (qd ?_);exact⟨_,FL,h⟩
 refine z3 ?_;iterate 3 refine zp ?_
 obtain⟨p8,ha,h0,h1,h⟩:=h
 refine zm (vv rfl underlying27 ty9 (ixL rfl ha) rfl h0 h1) ?_;refine zs ty9 h fun I h=>?_;refine z2 (AW.reg ?_)
 iterate 3 refine zp ?_
 refine ju (qD (qd ?_));exact⟨_,FL,h⟩
def vw(B:World)(ro:AH)(Q:Int->AH->Prop)(I:AH):=
 Q (-1) I
def zz(B:World)(ro:AH)(a0:Sl)(a1:Value)(Q:Int->AH->Prop):Int->AH->(Int->AH->Prop)->Prop:=fun u0 I Y2=>
 if u0<(a0.len:Int)then
 ∃p1,a0.a=some p1/\(0:Int)<=u0/\u0<(a0.len:Int)/\
 ∃u2,qa ro I (p1.add (Int.toNat u0*1))=some (.string u2)/\
 ac0 prog B ro a1 [.string u2] I (fun v I=> ∃(u3:Bool),v= .bool u3/\
  if u3=true then
  Q u0 I
  else
  Y2 (i64.wrap (u0+1)) I)
 else
 vw B ro Q I
def xk(B:World)(ro:AH)(a0:Sl)(a1:Value)(I:AH)(Q:Int->AH->Prop):=
 lfpD (zz B ro a0 a1 Q) (0) I
theorem abV{a0:Sl}{a1:Value}{Q:Int->AH->Prop}(h:Sep ro I->xk B ro a0 a1 I Q):yT B ro a0 a1 I Q:=by
 refine zb h func135 ntmps135 fun h=>?_;unfold xk at h;refine z3 ?_;refine zp ?_;refine z2 ?_;refine AW.seqJ (fun fr I=>qo [] fr/\vw B ro Q I) ?_ ?_
 .rintro fr I ⟨hl,h⟩;refine AW.weaken ?_ hl (HLe.refl _)
  unfold vw at h;refine z3 ?_;refine zp ?_;refine z2 ?_;refine AW.ret ?_;exact bR1 results135 rfl ⟨_,rfl,h⟩
 refine z3 ?_;refine zp ?_;refine zm (qT rfl rfl underlying27 rfl rfl) ?_;refine zp ?_;refine z2 (AW.block ?_)
 refine qk.loop (fr':=[(0,Sl.v a0),(1,a1),(7,.int .i64 (a0.len:Int)),(8,.int .i64 0)]) ?_ FL
 refine h (fun u0 I=>qk _ _ _ _ _ _ [(0,Sl.v a0),(1,a1),(7,.int .i64 (a0.len:Int)),(8,.int .i64 u0)] I) ?_
 rintro u0 I Y2 hY2 h
 show AW _ _ _ _ _ _ _ _
 unfold zz at h;refine z3 ?_;refine zp ?_;refine z2 (AW.seq ?_)
 refine zi h (fun h=>?_) fun h=>?_
 rotate_left
 .refine AW.exit ?_;refine qH (qH ?_);refine wB ?_
  refine qd ?_;exact⟨FL,h⟩
 refine AW.skip ?_;refine qd (AW.seq (AW.block (z3 ?_)));iterate 2 refine zp ?_
 refine z4 ?_;iterate 3 refine zp ?_
 obtain⟨p1,ha,h0,h1,h⟩:=h
 refine zm (vv rfl underlying27 ty9 (ixL rfl ha) rfl h0 h1) ?_;refine zL underlying9 h fun u2 h=>?_;refine zl (ait rfl rfl rfl (aeA h ?_))
 rintro v I ⟨u3,rfl,h⟩;refine z2 ?_;refine zj h (fun h=>?_) fun h=>?_
 .refine z3 ?_;iterate 2 refine zp ?_
  refine z2 ?_;refine AW.ret ?_;refine qx (qi (qi (qx (qi ?_))));exact bR1 results135 rfl ⟨_,rfl,h⟩
 refine AW.skip ?_;refine qD (qd (AW.reg ?_));iterate 2 refine zp ?_
 refine z2 ?_;refine qk.head (fr':=[(0,Sl.v a0),(1,a1),(7,.int .i64 (a0.len:Int)),(8,.int .i64 (i64.wrap (u0+1)))]) ?_ FL
 exact hY2 _ _ h
def aaz(B:World)(ro:AH)(a0 a1:ByteArray)(I:AH)(Q:Bool->AH->Prop):=
 aby B ro a0 a1 I fun u0 I=>
 Q u0 I
theorem agL{a0 a1:ByteArray}{Q:Bool->AH->Prop}(h:Sep ro I->aaz B ro a0 a1 I Q):pn B ro a0 a1 I Q:=by
 refine zb h func138 ntmps138 fun h=>?_;unfold aaz at h;refine z3 ?_;refine zp ?_;refine z4 ?_;iterate 2 refine zp ?_
 refine zc func197 h ?_;rintro v I ⟨u0,rfl,h⟩;refine zp ?_;refine z2 ?_;refine AW.ret ?_;exact bR1 results138 rfl ⟨_,rfl,h⟩
def xC(B:World)(ro:AH)(a0:Sl)(I:AH)(Q:Value->AH->Prop):=
 nw ro I (.cells #[Sl.v a0] 27) fun u0 I=>
 Q (.func (.func 230) #[] #[.pointer (some ⟨u0,0,none⟩)]) I
theorem acs{a0:Sl}{Q:Value->AH->Prop}(h:Sep ro I->xC B ro a0 I Q):acV B ro a0 I Q:=by
 refine zb h func182 ntmps182 fun h=>?_;unfold xC at h;refine z3 ?_;refine zA (wI rfl rfl) h fun u0 h=>?_;refine zp ?_;refine z4 ?_;refine zm (an5 rfl rfl rfl) ?_;refine zp ?_;refine z2 ?_;refine AW.ret ?_;exact bR1 results182 rfl ⟨_,rfl,h⟩
def yl(B:World)(ro:AH)(a0:Sl)(I:AH)(Q:Sl->AH->Prop):=
 if a0.a=none then
 Q (⟨none,0,0⟩:Sl) I
 else
 nw ro I (.cells #[] 132) fun u0 I=>
 awp prog ro (Builtin.append_ #[28,28] 28 #[Sl.v (⟨some ⟨u0,0,none⟩,0,0⟩:Sl),Sl.v a0]) (fun v I=> ∃(u1:Sl),v=Sl.v u1/\
 Q u1 I) I
theorem ad2{a0:Sl}{Q:Sl->AH->Prop}(h:Sep ro I->yl B ro a0 I Q):yk B ro a0 I Q:=by
 refine zb h func185 ntmps185 fun h=>?_;unfold yl at h;refine z3 ?_;refine zp ?_;refine z2 (AW.seq (z3 ?_))
 refine zp ?_;refine zm (alV rfl underlying28 rfl rfl) ?_;refine z2 ?_;refine AW.iff rfl zt h (fun h=>?_) (fun h=>?_)
 .refine z3 ?_;refine zp ?_;refine z2 ?_;refine AW.ret ?_;refine qi ?_;exact bR1 results185 rfl ⟨_,rfl,h⟩
 refine AW.skip ?_;refine qd (z3 ?_);refine zA (zR (vs:=[]) (cs:= #[]) rfl underlying28 jD (by decide) rfl rfl) h fun u0 h=>?_;refine zp ?_;refine zl (je (s:=Builtin.append_ #[28,28] 28 #[Sl.v (⟨some ⟨u0,0,none⟩,0,0⟩:Sl),Sl.v a0]) rfl rfl (fun _=>rfl) (qm _ h ?_))
 rintro v I ⟨u1,rfl,h⟩;refine zp ?_;refine z2 ?_;refine AW.ret ?_;exact bR1 results185 rfl ⟨_,rfl,h⟩
def ki(B:World)(ro:AH)(Q:Bool->AH->Prop)(u0:Bool)(I:AH):=
 Q u0 I
def pC(B:World)(ro:AH)(a0 a1:ByteArray)(I:AH)(Q:Bool->AH->Prop):=
 if(a1.size:Int)<=(a0.size:Int)then
 cutOk none (some (a1.size:Int)) a0.size a0.size/\
 ki B ro Q (decide ((a0.extract (0) (Int.toNat (a1.size:Int)))=a1)) I
 else
 ki B ro Q false I
theorem ae0{a0 a1:ByteArray}{Q:Bool->AH->Prop}(h:Sep ro I->pC B ro a0 a1 I Q):aby B ro a0 a1 I Q:=by
 refine zb h func197 ntmps197 fun h=>?_;unfold pC at h;refine z3 ?_;refine zp ?_;refine z4 ?_;refine zp ?_;refine zm (aaV rfl rfl underlying9 rfl rfl) ?_;refine zp ?_;refine zm (aaV rfl rfl underlying9 rfl rfl) ?_;iterate 2 refine zp ?_
 refine qO 7 (decide ((a1.size:Int)<=(a0.size:Int))) decide_eq_true_iff h (fun fr I=> ∃(u0:Bool),qo [(17,.bool u0)] fr/\ki B ro Q u0 I) ?_ ?_ ?_
 .intro h e5 hk5;refine zy e5 ?_;refine zy e5 ?_;refine qX (aaV rfl rfl underlying9 rfl rfl) rfl rfl rfl rfl e5 ?_
  obtain⟨hc,h⟩:=h
  refine qX (alU (lo:=none) (hi:=(some (a1.size:Int))) rfl underlying9 rfl zP (zQ rfl) hc) rfl rfl rfl rfl e5 ?_
  refine zy e5 ?_;refine zy e5 ?_;refine zk e5 ?_;exact hk5 _ _ ⟨_,FL,h⟩
 .intro h e5 hk5;iterate 6 refine zn e5 ?_
  refine zk e5 ?_;exact hk5 _ _ ⟨_,FL,h⟩
 rintro fr I ⟨u0,hl,h⟩;unfold ki at h;refine Lfr hl ?_
 refine zp ?_;refine z2 ?_;refine AW.ret ?_;exact bR1 results197 rfl ⟨_,rfl,h⟩
def yw(B:World)(ro:AH)(a0:Sl)(a1:Int)(I:AH)(Q:Bool->AH->Prop):=
 abU B ro a0 a1 I fun u0 I=>
 Q (decide (0<=u0)) I
theorem ael{a0:Sl}{a1:Int}{Q:Bool->AH->Prop}(h:Sep ro I->yw B ro a0 a1 I Q):yv B ro a0 a1 I Q:=by
 refine zb h func205 ntmps205 fun h=>?_;unfold yw at h;refine z3 ?_;refine zp ?_;refine z4 ?_;iterate 2 refine zp ?_
 refine zc func246 h ?_;rintro v I ⟨u0,rfl,h⟩;iterate 2 refine zp ?_
 refine z2 ?_;refine AW.ret ?_;exact bR1 results205 rfl ⟨_,rfl,h⟩
def pD(B:World)(ro:AH)(a0:ByteArray)(a1:Int)(I:AH)(Q:Int->AH->Prop):=
 un B ro a0 a1 I fun u0 I=>
 Q u0 I
theorem ae1{a0:ByteArray}{a1:Int}{Q:Int->AH->Prop}(h:Sep ro I->pD B ro a0 a1 I Q):jh B ro a0 a1 I Q:=by
 refine zb h func227 ntmps227 fun h=>?_;unfold pD at h;refine z3 ?_;refine zp ?_;refine z4 ?_;iterate 2 refine zp ?_
 refine zc func264 h ?_;rintro v I ⟨u0,rfl,h⟩;refine zp ?_;refine z2 ?_;refine AW.ret ?_;exact bR1 results227 rfl ⟨_,rfl,h⟩
def vD(B:World)(ro:AH)(a0:Sl)(Q:Sl->AH->Prop)(u0:Int)(I:AH):=
 cutOk (some u0) none a0.len a0.cap/\
 awp prog ro (Builtin.clear_ #[28] 0 #[Sl.v (⟨wu a0.a (Int.toNat u0) a0.cap 3,a0.len - Int.toNat u0,a0.cap - Int.toNat u0⟩:Sl)]) (fun v I=>v= .tuple #[]/\
 cutOk none (some u0) a0.len a0.cap/\
 Q (⟨wu a0.a (0) a0.cap 3,Int.toNat u0 - 0,a0.cap - 0⟩:Sl) I) I
def wQ(B:World)(ro:AH)(a0:Sl)(a1:Value)(u0:Int)(Q:Sl->AH->Prop)(Y4:(Int×Int)->AH->Prop)(u1:Int)(I:AH):=
 Y4 (u1,i64.wrap (u0+1)) I
def wR(B:World)(ro:AH)(a0:Sl)(a1:Value)(Q:Sl->AH->Prop):(Int×Int)->AH->((Int×Int)->AH->Prop)->Prop:=fun⟨u0,u1⟩ I Y4=>
 if u1<(a0.len:Int)then
 ∃p2,a0.a=some p2/\(0:Int)<=u1/\u1<(a0.len:Int)/\
 ∃u3 u4 u5,qg ro I (p2.add (Int.toNat u1*3)) 0 [.int .i64 u3,.int .i64 u4,.string u5]/\
 nw ro I (.cells #[.int .i64 0,.int .i64 0,.string ByteArray.empty] 132) fun u6 I=>
 stN ⟨u6,0,none⟩ (fun I=>
  ∃u7 u8 u9,qg ro I ⟨u6,0,none⟩ 0 [.int .i64 u7,.int .i64 u8,.string u9]/\
  ac0 prog B ro a1 [.agg #[.int .i64 u7,.int .i64 u8,.string u9]] I (fun v I=> ∃(u10:Bool),v= .bool u10/\
  if¬(u10=true)then
   ∃u11 u12 u13,qg ro I ⟨u6,0,none⟩ 0 [.int .i64 u11,.int .i64 u12,.string u13]/\
   ∃p14,a0.a=some p14/\(0:Int)<=u0/\u0<(a0.len:Int)/\
   stN (p14.add (Int.toNat u0*3)) (fun I=>
   wQ B ro a0 a1 u1 Q Y4 (i64.wrap (u0+1)) I) [.int .i64 u11,.int .i64 u12,.string u13] 0 I
  else
  wQ B ro a0 a1 u1 Q Y4 u0 I)) [.int .i64 u3,.int .i64 u4,.string u5] 0 I
 else
 vD B ro a0 Q u0 I
def xD(B:World)(ro:AH)(a0:Sl)(a1:Value)(I:AH)(Q:Sl->AH->Prop):=
 pQ B ro a0 a1 I fun u0 I=>
 if u0=(-1)then
 Q a0 I
 else
 lfpD (wR B ro a0 a1 Q) (u0,i64.wrap (u0+1)) I
theorem act{a0:Sl}{a1:Value}{Q:Sl->AH->Prop}(h:Sep ro I->xD B ro a0 a1 I Q):xA B ro a0 a1 I Q:=by
 refine zb h func232 ntmps232 fun h=>?_;unfold xD at h;refine z3 ?_;refine zp ?_;refine z4 ?_;iterate 2 refine zp ?_
 refine zc func271 h ?_;rintro v I ⟨u0,rfl,h⟩;refine zp ?_;refine z2 (AW.seq (z3 ?_))
 iterate 2 refine zp ?_
 refine z2 ?_;refine zi h (fun h=>?_) fun h=>?_
 .refine z3 ?_;iterate 2 refine zp ?_
  refine z2 ?_;refine AW.ret ?_;refine qi ?_;exact bR1 results232 rfl ⟨_,rfl,h⟩
 refine AW.skip ?_;refine qd ?_;refine AW.seqJ (fun fr I=> ∃(u1:Int),qo [(0,Sl.v a0),(5,.int .i64 u1)] fr/\vD B ro a0 Q u1 I) ?_ ?_
 .rintro fr I ⟨u1,hl,h⟩;refine AW.weaken ?_ hl (HLe.refl _)
  unfold vD at h;refine z3 ?_;iterate 2 refine zp ?_
  obtain⟨hc,h⟩:=h
  refine zm (uP (lo:=(some u1)) (hi:=none) rfl underlying28 jD rfl (zQ rfl) zP hc) ?_;refine zl (je (s:=Builtin.clear_ #[28] 0 #[Sl.v (⟨wu a0.a (Int.toNat u1) a0.cap 3,a0.len - Int.toNat u1,a0.cap - Int.toNat u1⟩:Sl)]) rfl rfl (fun _=>rfl) (qm _ h ?_))
  rintro v I ⟨rfl,h⟩;refine z4 ?_;iterate 2 refine zp ?_
  obtain⟨hc,h⟩:=h
  refine zm (uP (lo:=none) (hi:=(some u1)) rfl underlying28 jD rfl zP (zQ rfl) hc) ?_;refine zp ?_;refine z2 ?_;refine AW.ret ?_;exact bR1 results232 rfl ⟨_,rfl,h⟩
 refine z3 ?_;iterate 3 refine zp ?_
 refine z2 (AW.block ?_)
 refine qk.loop (fr':=[(0,Sl.v a0),(1,a1),(5,.int .i64 u0),(6,.int .i64 (i64.wrap (u0+1)))]) ?_ FL
 refine h (fun⟨u2,u3⟩ I=>qk _ _ _ _ _ _ [(0,Sl.v a0),(1,a1),(5,.int .i64 u2),(6,.int .i64 u3)] I) ?_
 rintro⟨u2,u3⟩ I Y4 hY4 h
 show AW _ _ _ _ _ _ _ _
 unfold wR at h;dsimp only at h;refine AW.seq (z3 ?_);iterate 2 refine zp ?_
 refine zm (qT rfl rfl underlying28 rfl rfl) ?_;refine zp ?_;refine z2 ?_;refine zi h (fun h=>?_) fun h=>?_
 rotate_left
 .refine AW.exit ?_;refine qH (qH ?_);refine wB ?_
  refine qd ?_;exact⟨_,FL,h⟩
 refine AW.skip ?_;refine qd ?_;refine AW.seqJ (fun fr I=> ∃(u4:Int),qo [(0,Sl.v a0),(1,a1),(6,.int .i64 u3),(5,.int .i64 u4)] fr/\wQ B ro a0 a1 u3 Q Y4 u4 I) ?_ ?_
 .rintro fr I ⟨u4,hl,h⟩;refine AW.weaken ?_ hl (HLe.refl _)
  unfold wQ at h;refine AW.reg ?_;iterate 3 refine zp ?_
  refine z2 ?_;refine qk.head (fr':=[(0,Sl.v a0),(1,a1),(5,.int .i64 u4),(6,.int .i64 (i64.wrap (u3+1)))]) ?_ FL
  exact hY4 _ _ h
 refine AW.block (z3 ?_);iterate 2 refine zp ?_
 obtain⟨p5,ha,h0,h1,h⟩:=h
 refine zm (vv rfl underlying28 jD (ixL rfl ha) rfl h0 h1) ?_;obtain⟨u6,u7,u8,hc,h⟩:=h
 refine zl (wY rfl underlying132 rfl jD rfl hc ?_)
 refine zA (qY rfl jD) h fun u9 h=>?_;refine zs jD h fun I h=>?_;refine z4 ?_;refine zp ?_;obtain⟨u10,u11,u12,hc,h⟩:=h
 refine zl (wY rfl underlying132 rfl jD rfl hc ?_)
 refine zl (ait rfl rfl rfl (aeA h ?_))
 rintro v I ⟨u13,rfl,h⟩;refine zp ?_;refine z2 ?_;refine AW.iff rfl (qu Iff.rfl) h (fun h=>?_) (fun h=>?_)
 rotate_left
 .refine AW.skip ?_;refine qD (qd ?_);exact⟨_,FL,h⟩
 refine z3 ?_;iterate 2 refine zp ?_
 obtain⟨u14,u15,u16,hc,h⟩:=h
 refine zl (wY rfl underlying132 rfl jD rfl hc ?_)
 obtain⟨p17,ha,h0,h1,h⟩:=h
 refine zm (vv rfl underlying28 jD (ixL rfl ha) rfl h0 h1) ?_;refine zs jD h fun I h=>?_;refine z2 (AW.reg ?_)
 iterate 3 refine zp ?_
 refine ju (qD (qd ?_));exact⟨_,FL,h⟩
def ji(B:World)(ro:AH)(Q:Int->AH->Prop)(I:AH):=
 Q (-1) I
def kG(B:World)(ro:AH)(a0:Sl)(a1:Int)(Q:Int->AH->Prop):Int->AH->(Int->AH->Prop)->Prop:=fun u0 I Y2=>
 if u0<(a0.len:Int)then
 ∃p1,a0.a=some p1/\(0:Int)<=u0/\u0<(a0.len:Int)/\
 ∃u2,qa ro I (p1.add (Int.toNat u0*1))=some (.int .i64 u2)/\
 if a1=u2 then
  Q u0 I
 else
 Y2 (i64.wrap (u0+1)) I
 else
 ji B ro Q I
def uf(B:World)(ro:AH)(a0:Sl)(a1:Int)(I:AH)(Q:Int->AH->Prop):=
 lfpD (kG B ro a0 a1 Q) (0) I
theorem afl{a0:Sl}{a1:Int}{Q:Int->AH->Prop}(h:Sep ro I->uf B ro a0 a1 I Q):abU B ro a0 a1 I Q:=by
 refine zb h func246 ntmps246 fun h=>?_;unfold uf at h;refine z3 ?_;refine zp ?_;refine z2 ?_;refine AW.seqJ (fun fr I=>qo [] fr/\ji B ro Q I) ?_ ?_
 .rintro fr I ⟨hl,h⟩;refine AW.weaken ?_ hl (HLe.refl _)
  unfold ji at h;refine z3 ?_;refine zp ?_;refine z2 ?_;refine AW.ret ?_;exact bR1 results246 rfl ⟨_,rfl,h⟩
 refine z3 ?_;refine zp ?_;refine zm (qT rfl rfl underlying55 rfl rfl) ?_;refine zp ?_;refine z2 (AW.block ?_)
 refine qk.loop (fr':=[(0,Sl.v a0),(1,.int .i64 a1),(7,.int .i64 (a0.len:Int)),(8,.int .i64 0)]) ?_ FL
 refine h (fun u0 I=>qk _ _ _ _ _ _ [(0,Sl.v a0),(1,.int .i64 a1),(7,.int .i64 (a0.len:Int)),(8,.int .i64 u0)] I) ?_
 rintro u0 I Y2 hY2 h
 show AW _ _ _ _ _ _ _ _
 unfold kG at h;refine z3 ?_;refine zp ?_;refine z2 (AW.seq ?_)
 refine zi h (fun h=>?_) fun h=>?_
 rotate_left
 .refine AW.exit ?_;refine qH (qH ?_);refine wB ?_
  refine qd ?_;exact⟨FL,h⟩
 refine AW.skip ?_;refine qd (AW.seq (AW.block (z3 ?_)));iterate 2 refine zp ?_
 refine z4 ?_;iterate 3 refine zp ?_
 obtain⟨p1,ha,h0,h1,h⟩:=h
 refine zm (vv rfl underlying55 ty3 (ixL rfl ha) rfl h0 h1) ?_;refine zL underlying3 h fun u2 h=>?_;refine zp ?_;refine z2 ?_;refine zi h (fun h=>?_) fun h=>?_
 .refine z3 ?_;iterate 2 refine zp ?_
  refine z2 ?_;refine AW.ret ?_;refine qx (qi (qi (qx (qi ?_))));exact bR1 results246 rfl ⟨_,rfl,h⟩
 refine AW.skip ?_;refine qD (qd (AW.reg ?_));iterate 2 refine zp ?_
 refine z2 ?_;refine qk.head (fr':=[(0,Sl.v a0),(1,.int .i64 a1),(7,.int .i64 (a0.len:Int)),(8,.int .i64 (i64.wrap (u0+1)))]) ?_ FL
 exact hY2 _ _ h
def xL(B:World)(ro:AH)(Q:Int->AH->Prop)(I:AH):=
 Q (-1) I
def zS(B:World)(ro:AH)(a0:ByteArray)(a1:Int)(Q:Int->AH->Prop):Int->AH->(Int->AH->Prop)->Prop:=fun u0 I Y2=>
 if 0<=u0 then
 ∃u1:UInt8,(0:Int)<=u0/\a0[Int.toNat u0]?=some u1/\
 if(u1.toNat:Int)=a1 then
  Q u0 I
 else
 Y2 (i64.wrap (u0 - 1)) I
 else
 xL B ro Q I
def jf(B:World)(ro:AH)(a0:ByteArray)(a1:Int)(I:AH)(Q:Int->AH->Prop):=
 lfpD (zS B ro a0 a1 Q) (i64.wrap ((a0.size:Int) - 1)) I
theorem adb{a0:ByteArray}{a1:Int}{Q:Int->AH->Prop}(h:Sep ro I->jf B ro a0 a1 I Q):un B ro a0 a1 I Q:=by
 refine zb h func264 ntmps264 fun h=>?_;unfold jf at h;refine z3 ?_;refine zp ?_;refine z2 ?_;refine AW.seqJ (fun fr I=>qo [] fr/\xL B ro Q I) ?_ ?_
 .rintro fr I ⟨hl,h⟩;refine AW.weaken ?_ hl (HLe.refl _)
  unfold xL at h;refine z3 ?_;refine zp ?_;refine z2 ?_;refine AW.ret ?_;exact bR1 results264 rfl ⟨_,rfl,h⟩
 refine z3 ?_;refine zp ?_;refine zm (aaV rfl rfl underlying9 rfl rfl) ?_;iterate 2 refine zp ?_
 refine z2 (AW.block ?_)
 refine qk.loop (fr':=[(0,.string a0),(1,.int .u8 a1),(5,.int .i64 (i64.wrap ((a0.size:Int) - 1)))]) ?_ FL
 refine h (fun u0 I=>qk _ _ _ _ _ _ [(0,.string a0),(1,.int .u8 a1),(5,.int .i64 u0)] I) ?_
 rintro u0 I Y2 hY2 h
 show AW _ _ _ _ _ _ _ _
 unfold zS at h;refine AW.seq (z3 ?_);iterate 2 refine zp ?_
 refine z2 ?_;refine zi h (fun h=>?_) fun h=>?_
 rotate_left
 .refine AW.exit ?_;refine qH (qH ?_);refine wB ?_
  refine qd ?_;exact⟨FL,h⟩
 refine AW.skip ?_;refine qd (AW.seq (AW.block (z3 ?_)));iterate 2 refine zp ?_
 obtain⟨u1,h0,hc,h⟩:=h
 refine zm (asL rfl underlying9 rfl rfl h0 hc) ?_;iterate 2 refine zp ?_
 refine z2 ?_;refine zi h (fun h=>?_) fun h=>?_
 .refine z3 ?_;iterate 2 refine zp ?_
  refine z2 ?_;refine AW.ret ?_;refine qx (qi (qi (qx (qi ?_))));exact bR1 results264 rfl ⟨_,rfl,h⟩
 refine AW.skip ?_;refine qD (qd (AW.reg ?_));iterate 3 refine zp ?_
 refine z2 ?_;refine qk.head (fr':=[(0,.string a0),(1,.int .u8 a1),(5,.int .i64 (i64.wrap (u0 - 1)))]) ?_ FL
 exact hY2 _ _ h
def vK(B:World)(ro:AH)(Q:Int->AH->Prop)(I:AH):=
 Q (-1) I
def zM(B:World)(ro:AH)(a0:Sl)(a1:Value)(Q:Int->AH->Prop):Int->AH->(Int->AH->Prop)->Prop:=fun u0 I Y2=>
 if u0<(a0.len:Int)then
 ∃p1,a0.a=some p1/\(0:Int)<=u0/\u0<(a0.len:Int)/\
 ∃u2 u3 u4,qg ro I (p1.add (Int.toNat u0*3)) 0 [.int .i64 u2,.int .i64 u3,.string u4]/\
 ac0 prog B ro a1 [.agg #[.int .i64 u2,.int .i64 u3,.string u4]] I (fun v I=> ∃(u5:Bool),v= .bool u5/\
  if u5=true then
  Q u0 I
  else
  Y2 (i64.wrap (u0+1)) I)
 else
 vK B ro Q I
def xM(B:World)(ro:AH)(a0:Sl)(a1:Value)(I:AH)(Q:Int->AH->Prop):=
 lfpD (zM B ro a0 a1 Q) (0) I
theorem acW{a0:Sl}{a1:Value}{Q:Int->AH->Prop}(h:Sep ro I->xM B ro a0 a1 I Q):pQ B ro a0 a1 I Q:=by
 refine zb h func271 ntmps271 fun h=>?_;unfold xM at h;refine z3 ?_;refine zp ?_;refine z2 ?_;refine AW.seqJ (fun fr I=>qo [] fr/\vK B ro Q I) ?_ ?_
 .rintro fr I ⟨hl,h⟩;refine AW.weaken ?_ hl (HLe.refl _)
  unfold vK at h;refine z3 ?_;refine zp ?_;refine z2 ?_;refine AW.ret ?_;exact bR1 results271 rfl ⟨_,rfl,h⟩
 refine z3 ?_;refine zp ?_;refine zm (qT rfl rfl underlying28 rfl rfl) ?_;refine zp ?_;refine z2 (AW.block ?_)
 refine qk.loop (fr':=[(0,Sl.v a0),(1,a1),(7,.int .i64 (a0.len:Int)),(8,.int .i64 0)]) ?_ FL
 refine h (fun u0 I=>qk _ _ _ _ _ _ [(0,Sl.v a0),(1,a1),(7,.int .i64 (a0.len:Int)),(8,.int .i64 u0)] I) ?_
 rintro u0 I Y2 hY2 h
 show AW _ _ _ _ _ _ _ _
 unfold zM at h;refine z3 ?_;refine zp ?_;refine z2 (AW.seq ?_)
 refine zi h (fun h=>?_) fun h=>?_
 rotate_left
 .refine AW.exit ?_;refine qH (qH ?_);refine wB ?_
  refine qd ?_;exact⟨FL,h⟩
 refine AW.skip ?_;refine qd (AW.seq (AW.block (z3 ?_)));iterate 2 refine zp ?_
 refine z4 ?_;iterate 3 refine zp ?_
 obtain⟨p1,ha,h0,h1,h⟩:=h
 refine zm (vv rfl underlying28 jD (ixL rfl ha) rfl h0 h1) ?_;obtain⟨u2,u3,u4,hc,h⟩:=h
 refine zl (wY rfl underlying132 rfl jD rfl hc ?_)
 refine zl (ait rfl rfl rfl (aeA h ?_))
 rintro v I ⟨u5,rfl,h⟩;refine z2 ?_;refine zj h (fun h=>?_) fun h=>?_
 .refine z3 ?_;iterate 2 refine zp ?_
  refine z2 ?_;refine AW.ret ?_;refine qx (qi (qi (qx (qi ?_))));exact bR1 results271 rfl ⟨_,rfl,h⟩
 refine AW.skip ?_;refine qD (qd (AW.reg ?_));iterate 2 refine zp ?_
 refine z2 ?_;refine qk.head (fr':=[(0,Sl.v a0),(1,a1),(7,.int .i64 (a0.len:Int)),(8,.int .i64 (i64.wrap (u0+1)))]) ?_ FL
 exact hY2 _ _ h
def abW(B:World)(ro:AH)(a0:ByteArray)(I:AH)(Q:ByteArray->Int->AH->Prop):=
 vp B ro a0 I fun u0 u1 I=>
 if(u0.len:Int)=0 then
 Q (⟨#[]⟩:ByteArray) u1 I
 else
 ∃p2,u0.a=some p2/\(0:Int)<=0/\0<(u0.len:Int)/\
 ∃u3,qa ro I (p2.add (Int.toNat 0*1))=some (.string u3)/\
 Q u3 0 I
theorem ae2{a0:ByteArray}{Q:ByteArray->Int->AH->Prop}(h:Sep ro I->abW B ro a0 I Q):yD B ro a0 I Q:=by
 refine zb h func81 ntmps81 fun h=>?_;unfold abW at h;refine z3 ?_;iterate 2 refine zp ?_
 refine z4 ?_;refine zp ?_;refine zc func134 h ?_;rintro v I ⟨u0,u1,rfl,h⟩;iterate 5 refine zp ?_
 refine z2 (AW.seq (z3 ?_))
 refine zp ?_;refine zm (qT rfl rfl underlying27 rfl rfl) ?_;refine zp ?_;refine z2 ?_;refine zi h (fun h=>?_) fun h=>?_
 .refine z3 ?_;iterate 3 refine zp ?_
  refine z2 ?_;refine AW.ret ?_;refine qi ?_;exact bR2 results81 rfl rfl ⟨_,_,rfl,h⟩
 refine AW.skip ?_;refine qd (z3 ?_);refine zp ?_;obtain⟨p2,ha,h0,h1,h⟩:=h
 refine zm (vv rfl underlying27 ty9 (ixL rfl ha) rfl h0 h1) ?_;refine zL underlying9 h fun u3 h=>?_;iterate 2 refine zp ?_
 refine z2 ?_;refine AW.ret ?_;exact bR2 results81 rfl rfl ⟨_,_,rfl,h⟩
def ae3(B:World)(ro:AH)(a0:ByteArray)(I:AH)(Q:Int->AH->Prop):=
 vp B ro a0 I fun u0 u1 I=>
 Q u1 I
theorem alD{a0:ByteArray}{Q:Int->AH->Prop}(h:Sep ro I->ae3 B ro a0 I Q):vo B ro a0 I Q:=by
 refine zb h func82 ntmps82 fun h=>?_;unfold ae3 at h;refine z3 ?_;refine zp ?_;refine z4 ?_;refine zp ?_;refine zc func134 h ?_;rintro v I ⟨u0,u1,rfl,h⟩;iterate 5 refine zp ?_
 refine z4 ?_;iterate 2 refine zp ?_
 refine z2 ?_;refine AW.ret ?_;exact bR1 results82 rfl ⟨_,rfl,h⟩
def aao(B:World)(ro:AH)(Q:Bool->Int->AH->Prop)(u0:Bool)(I:AH):=
 Q u0 0 I
def pG(B:World)(ro:AH)(a0 a1:ByteArray)(Q:Bool->Int->AH->Prop)(u0:Bool)(I:AH):=
 if u0=true then
 Q false 20 I
 else
 if(a0=(⟨#[47]⟩:ByteArray))\/(a1=a0)then
 aao B ro Q true I
 else
 a0.size+(⟨#[47]⟩:ByteArray).size<=9223372036854775807/\
 pn B ro a1 (a0++(⟨#[47]⟩:ByteArray)) I fun u1 I=>
 aao B ro Q u1 I
def ae4(B:World)(ro:AH)(a0 a1:ByteArray)(I:AH)(Q:Bool->Int->AH->Prop):=
 vo B ro a0 I fun u0 I=>
 if¬(u0=0)then
 pG B ro a0 a1 Q true I
 else
 vo B ro a1 I fun u1 I=>
 pG B ro a0 a1 Q (!(decide (u1=0))) I
theorem alE{a0 a1:ByteArray}{Q:Bool->Int->AH->Prop}(h:Sep ro I->ae4 B ro a0 a1 I Q):aeY B ro a0 a1 I Q:=by
 refine zb h func86 ntmps86 fun h=>?_;unfold ae4 at h;refine z3 ?_;iterate 2 refine zp ?_
 refine z2 (AW.seq (z3 ?_))
 refine zp ?_;refine zc func82 h ?_;rintro v I ⟨u0,rfl,h⟩;iterate 2 refine zp ?_
 refine qO 4 (!(decide (u0=0))) (qu decide_eq_true_iff) h (fun fr I=> ∃(u1:Bool),qo [(0,.string a0),(1,.string a1),(13,.bool u1)] fr/\pG B ro a0 a1 Q u1 I) ?_ ?_ ?_
 .intro h e3 hk3;iterate 3 refine zn e3 ?_
  refine zk e3 ?_;exact hk3 _ _ ⟨_,FL,h⟩
 .intro h e3 hk3;refine zy e3 ?_;refine Lyb rfl rfl rfl rfl e3 (qF rfl func82 rfl rfl rfl (qc.mono h ?_))
  rintro v I ⟨u2,rfl,h⟩;refine zy e3 ?_;refine zk e3 ?_;exact hk3 _ _ ⟨_,FL,h⟩
 rintro fr I ⟨u1,hl,h⟩;unfold pG at h;refine Lfr hl ?_
 refine z2 ?_;refine zj h (fun h=>?_) fun h=>?_
 .refine z3 ?_;iterate 2 refine zp ?_
  refine z2 ?_;refine AW.ret ?_;refine qi ?_;exact bR2 results86 rfl rfl ⟨_,_,rfl,h⟩
 refine AW.skip ?_;refine qd (z3 ?_);iterate 3 refine zp ?_
 refine wW 4 (decide (a0=(⟨#[47]⟩:ByteArray))) [(0,.string a0),(1,.string a1),(20,.bool ((decide (a0=(⟨#[47]⟩:ByteArray))) || (decide (a1=a0))))] ?_ ?_ ?_
 .intro e2 hk2
  iterate 3 refine zn e2 ?_
  refine zk e2 ?_;exact hk2 _ (Fe e2)
 .intro e2 hk2
  refine zy e2 ?_;refine zy e2 ?_;refine zy e2 ?_;refine zk e2 ?_;exact hk2 _ (Fe e2)
 intro fr hl
 refine Lfr hl ?_
 refine zp ?_;refine qO 5 ((decide (a0=(⟨#[47]⟩:ByteArray))) || (decide (a1=a0))) (zG decide_eq_true_iff decide_eq_true_iff) h (fun fr I=> ∃(u3:Bool),qo [(26,.bool u3)] fr/\aao B ro Q u3 I) ?_ ?_ ?_
 .intro h e7 hk7;iterate 4 refine zn e7 ?_
  refine zk e7 ?_;exact hk7 _ _ ⟨_,FL,h⟩
 .intro h e7 hk7;refine zy e7 ?_;refine zy e7 ?_;obtain⟨hc,h⟩:=h
  refine qX (ajM rfl rfl rfl hc) rfl rfl rfl rfl e7 ?_
  refine Lyb rfl rfl rfl rfl e7 (qF rfl func138 rfl rfl rfl (qc.mono h ?_))
  rintro v I ⟨u4,rfl,h⟩;refine zk e7 ?_;exact hk7 _ _ ⟨_,FL,h⟩
 rintro fr I ⟨u3,hl,h⟩;unfold aao at h;refine Lfr hl ?_
 iterate 2 refine zp ?_
 refine z2 ?_;refine AW.ret ?_;exact bR2 results86 rfl rfl ⟨_,_,rfl,h⟩
def ae5(B:World)(ro:AH)(Q:Bool->AH->Prop)(I:AH):=
 Q true I
def xe(B:World)(ro:AH)(p0:Addr)(Q:Bool->AH->Prop)(Y3:(Unit)->AH->Prop)(u1:Bool)(I:AH):=
 if u1=true then
 Y3 () I
 else
 Q false I
def yV(B:World)(ro:AH)(p0:Addr)(Q:Bool->AH->Prop):(Unit)->AH->((Unit)->AH->Prop)->Prop:=fun _ I Y3=>
 awp prog ro (Instr.next (.pointer (some p0)) true 0) (fun v I=>
 (v= .tuple #[.bool false]/\
  ae5 B ro Q I)\/
 (∃(u1:Int) (u2:Int),v= .tuple #[.bool true,.int .i64 u1,.int .i32 u2]/\
  if(97<=u2)/\(u2<=122)then
  xe B ro p0 Q Y3 ((decide (97<=u2)) && (decide (u2<=122))) I
  else
  if(48<=u2)/\(u2<=57)then
  xe B ro p0 Q Y3 ((decide (48<=u2)) && (decide (u2<=57))) I
  else
  if u2=46 then
  xe B ro p0 Q Y3 (decide (u2=46)) I
  else
  if u2=95 then
  xe B ro p0 Q Y3 (decide (u2=95)) I
  else
  xe B ro p0 Q Y3 (decide (u2=45)) I)) I
def afL(B:World)(ro:AH)(a0:ByteArray)(I:AH)(Q:Bool->AH->Prop):=
 if(((a0=(⟨#[]⟩:ByteArray))\/(32<(a0.size:Int)))\/(a0=(⟨#[46]⟩:ByteArray)))\/(a0=(⟨#[46,46]⟩:ByteArray))then
 Q false I
 else
 awp prog ro (Instr.range 9 (.string a0)) (fun v I=>
 (∃(p0:Addr),v= .pointer (some p0)/\
  lfpD (yV B ro p0 Q) () I)) I
theorem amb{a0:ByteArray}{Q:Bool->AH->Prop}(h:Sep ro I->afL B ro a0 I Q):yE B ro a0 I Q:=by
 refine zb h func99 ntmps99 fun h=>?_;unfold afL at h;refine z3 ?_;refine zp ?_;refine z2 (AW.seq (z3 ?_))
 iterate 3 refine zp ?_
 refine wW 4 (decide (a0=(⟨#[]⟩:ByteArray))) [(0,.string a0),(11,.bool ((decide (a0=(⟨#[]⟩:ByteArray))) || (decide (32<(a0.size:Int)))))] ?_ ?_ ?_
 .intro e2 hk2
  iterate 3 refine zn e2 ?_
  refine zk e2 ?_;exact hk2 _ (Fe e2)
 .intro e2 hk2
  refine zy e2 ?_;refine qX (aaV rfl rfl underlying9 rfl rfl) rfl rfl rfl rfl e2 ?_
  refine zy e2 ?_;refine zk e2 ?_;exact hk2 _ (Fe e2)
 intro fr hl
 refine Lfr hl ?_
 refine zp ?_;refine wW 3 ((decide (a0=(⟨#[]⟩:ByteArray))) || (decide (32<(a0.size:Int)))) [(0,.string a0),(15,.bool (((decide (a0=(⟨#[]⟩:ByteArray))) || (decide (32<(a0.size:Int)))) || (decide (a0=(⟨#[46]⟩:ByteArray)))))] ?_ ?_ ?_
 .intro e7 hk7
  iterate 2 refine zn e7 ?_
  refine zk e7 ?_;exact hk7 _ (Fe e7)
 .intro e7 hk7
  refine zy e7 ?_;refine zy e7 ?_;refine zk e7 ?_;exact hk7 _ (Fe e7)
 intro fr hl
 refine Lfr hl ?_
 refine zp ?_;refine wW 3 (((decide (a0=(⟨#[]⟩:ByteArray))) || (decide (32<(a0.size:Int)))) || (decide (a0=(⟨#[46]⟩:ByteArray)))) [(0,.string a0),(19,.bool ((((decide (a0=(⟨#[]⟩:ByteArray))) || (decide (32<(a0.size:Int)))) || (decide (a0=(⟨#[46]⟩:ByteArray)))) || (decide (a0=(⟨#[46,46]⟩:ByteArray)))))] ?_ ?_ ?_
 .intro e11 hk11
  iterate 2 refine zn e11 ?_
  refine zk e11 ?_;exact hk11 _ (Fe e11)
 .intro e11 hk11
  refine zy e11 ?_;refine zy e11 ?_;refine zk e11 ?_;exact hk11 _ (Fe e11)
 intro fr hl
 refine Lfr hl ?_
 refine z2 ?_;refine AW.iff rfl (zG (zG (zG decide_eq_true_iff decide_eq_true_iff) decide_eq_true_iff) decide_eq_true_iff) h (fun h=>?_) (fun h=>?_)
 .refine z3 ?_;refine zp ?_;refine z2 ?_;refine AW.ret ?_;refine qi ?_;exact bR1 results99 rfl ⟨_,rfl,h⟩
 refine AW.skip ?_;refine qd ?_;refine AW.seqJ (fun fr I=>qo [] fr/\ae5 B ro Q I) ?_ ?_
 .rintro fr I ⟨hl,h⟩;refine AW.weaken ?_ hl (HLe.refl _)
  unfold ae5 at h;refine z3 ?_;refine zp ?_;refine z2 ?_;refine AW.ret ?_;exact bR1 results99 rfl ⟨_,rfl,h⟩
 refine z3 ?_;refine zp ?_;refine zl (alW rfl rfl (qm _ h ?_))
 rintro v I ⟨p0,rfl,h⟩;refine z2 (AW.block ?_)
 refine qk.loop (fr':=[(21,.pointer (some p0))]) ?_ FL
 refine h (fun _ I=>qk _ _ _ _ _ _ [(21,.pointer (some p0))] I) ?_
 rintro _ I Y3 hY3 h
 show AW _ _ _ _ _ _ _ _
 unfold yV at h;refine z3 ?_;refine zl (alX rfl rfl rfl (qm _ h ?_))
 rintro v I (⟨rfl,h⟩ | ⟨u1,u2,rfl,h⟩)
 .refine zp ?_;refine z2 (AW.seq ?_)
  refine AW.no rfl ?_;refine AW.exit ?_;refine qH (qH ?_);refine wB ?_
  refine qd ?_;exact⟨FL,h⟩
 .refine zp ?_;refine z2 (AW.seq ?_)
  refine AW.yes rfl ?_;refine AW.skip ?_;refine qd (AW.block (z3 ?_));iterate 2 refine zp ?_
  refine z2 (AW.block ?_)
  refine AW.seqJ (fun fr I=> ∃(u3:Bool),qo [(21,.pointer (some p0)),(25,.bool u3)] fr/\xe B ro p0 Q Y3 u3 I) ?_ ?_
  .rintro fr I ⟨u3,hl,h⟩;refine AW.weaken ?_ hl (HLe.refl _)
   unfold xe at h;refine zj h (fun h=>?_) fun h=>?_
   .refine AW.skip ?_;refine qD (qD (qd ?_));refine qk.head (fr':=[(21,.pointer (some p0))]) ?_ FL
    exact hY3 _ _ h
   refine z3 ?_;refine zp ?_;refine z2 ?_;refine AW.ret ?_;refine qx (qx (qi (qx (qi ?_))));exact bR1 results99 rfl ⟨_,rfl,h⟩
  refine z3 ?_;iterate 3 refine zp ?_
  refine wW 3 (decide (97<=u2)) [(4,.int .i32 u2),(21,.pointer (some p0)),(31,.bool ((decide (97<=u2)) && (decide (u2<=122))))] ?_ ?_ ?_
  .intro e2 hk2
   refine zy e2 ?_;refine zy e2 ?_;refine zk e2 ?_;exact hk2 _ (Fe e2)
  .intro e2 hk2
   iterate 2 refine zn e2 ?_
   refine zk e2 ?_;exact hk2 _ (Fe e2)
  intro fr hl
  refine Lfr hl ?_
  refine zp ?_;refine z2 ?_;refine AW.iff rfl (acj decide_eq_true_iff decide_eq_true_iff) h (fun h=>?_) (fun h=>?_)
  .refine AW.skip ?_;refine qd ?_;exact⟨_,FL,h⟩
  refine z3 ?_;iterate 3 refine zp ?_
  refine wW 3 (decide (48<=u2)) [(4,.int .i32 u2),(21,.pointer (some p0)),(37,.bool ((decide (48<=u2)) && (decide (u2<=57))))] ?_ ?_ ?_
  .intro e2 hk2
   refine zy e2 ?_;refine zy e2 ?_;refine zk e2 ?_;exact hk2 _ (Fe e2)
  .intro e2 hk2
   iterate 2 refine zn e2 ?_
   refine zk e2 ?_;exact hk2 _ (Fe e2)
  intro fr hl
  refine Lfr hl ?_
  refine zp ?_;refine z2 ?_;refine AW.iff rfl (acj decide_eq_true_iff decide_eq_true_iff) h (fun h=>?_) (fun h=>?_)
  .refine AW.skip ?_;refine qd ?_;exact⟨_,FL,h⟩
  refine z3 ?_;iterate 3 refine zp ?_
  refine z2 ?_;refine zi h (fun h=>?_) fun h=>?_
  .refine AW.skip ?_;refine qd ?_;exact⟨_,FL,h⟩
  refine z3 ?_;iterate 3 refine zp ?_
  refine z2 ?_;refine zi h (fun h=>?_) fun h=>?_
  .refine AW.skip ?_;refine qd ?_;exact⟨_,FL,h⟩
  refine AW.reg ?_;iterate 3 refine zp ?_
  refine z2 ?_;exact⟨_,FL,h⟩
def acd(B:World)(ro:AH)(u0:Sl)(Q:Sl->Int->AH->Prop)(I:AH):=
 Q u0 0 I
def aap(B:World)(ro:AH)(u0:Sl)(Q:Sl->Int->AH->Prop):Int->AH->(Int->AH->Prop)->Prop:=fun u1 I Y5=>
 if u1<(u0.len:Int)then
 ∃p2,u0.a=some p2/\(0:Int)<=u1/\u1<(u0.len:Int)/\
 ∃u3,qa ro I (p2.add (Int.toNat u1*1))=some (.string u3)/\
 yE B ro u3 I fun u4 I=>
 if¬(u4=true)then
  Q (⟨none,0,0⟩:Sl) 20 I
 else
 Y5 (i64.wrap (u1+1)) I
 else
 acd B ro u0 Q I
def pH(B:World)(ro:AH)(a0:ByteArray)(Q:Sl->Int->AH->Prop)(u0:Bool)(I:AH):=
 if u0=true then
 Q (⟨none,0,0⟩:Sl) 20 I
 else
 cutOk (some 1) none a0.size a0.size/\
 afu B ro (a0.extract (Int.toNat 1) (a0.size)) (⟨#[47]⟩:ByteArray) I fun u1 I=>
 if 8<(u1.len:Int)then
 Q (⟨none,0,0⟩:Sl) 20 I
 else
 lfpD (aap B ro u1 Q) (0) I
def ae6(B:World)(ro:AH)(a0:ByteArray)(I:AH)(Q:Sl->Int->AH->Prop):=
 if a0=(⟨#[47]⟩:ByteArray)then
 Q (⟨none,0,0⟩:Sl) 0 I
 else
 if 128<(a0.size:Int)then
 pH B ro a0 Q true I
 else
 pn B ro a0 (⟨#[47]⟩:ByteArray) I fun u0 I=>
 pH B ro a0 Q (!u0) I
theorem alF{a0:ByteArray}{Q:Sl->Int->AH->Prop}(h:Sep ro I->ae6 B ro a0 I Q):vp B ro a0 I Q:=by
 refine zb h func134 ntmps134 fun h=>?_;unfold ae6 at h;refine z3 ?_;iterate 2 refine zp ?_
 refine z2 (AW.seq (z3 ?_))
 iterate 2 refine zp ?_
 refine z2 ?_;refine zi h (fun h=>?_) fun h=>?_
 .refine z3 ?_;iterate 2 refine zp ?_
  refine z2 ?_;refine AW.ret ?_;refine qi ?_;exact bR2 results134 rfl rfl ⟨_,_,rfl,h⟩
 refine AW.skip ?_;refine qd (AW.seq (z3 ?_));refine zp ?_;refine zm (aaV rfl rfl underlying9 rfl rfl) ?_;iterate 2 refine zp ?_
 refine qO 4 (decide (128<(a0.size:Int))) decide_eq_true_iff h (fun fr I=> ∃(u0:Bool),qo [(0,.string a0),(16,.bool u0)] fr/\pH B ro a0 Q u0 I) ?_ ?_ ?_
 .intro h e3 hk3;iterate 3 refine zn e3 ?_
  refine zk e3 ?_;exact hk3 _ _ ⟨_,FL,h⟩
 .intro h e3 hk3;refine zy e3 ?_;refine Lyb rfl rfl rfl rfl e3 (qF rfl func138 rfl rfl rfl (qc.mono h ?_))
  rintro v I ⟨u1,rfl,h⟩;refine zy e3 ?_;refine zk e3 ?_;exact hk3 _ _ ⟨_,FL,h⟩
 rintro fr I ⟨u0,hl,h⟩;unfold pH at h;refine Lfr hl ?_
 refine z2 ?_;refine zj h (fun h=>?_) fun h=>?_
 .refine z3 ?_;iterate 2 refine zp ?_
  refine z2 ?_;refine AW.ret ?_;refine qi ?_;exact bR2 results134 rfl rfl ⟨_,_,rfl,h⟩
 refine AW.skip ?_;refine qd (z3 ?_);refine zp ?_;obtain⟨hc,h⟩:=h
 refine zm (alU (lo:=(some 1)) (hi:=none) rfl underlying9 rfl (zQ rfl) zP hc) ?_;refine zc func193 h ?_;rintro v I ⟨u2,rfl,h⟩;refine zp ?_;refine z2 (AW.seq (z3 ?_))
 refine zp ?_;refine zm (qT rfl rfl underlying27 rfl rfl) ?_;refine zp ?_;refine z2 ?_;refine zi h (fun h=>?_) fun h=>?_
 .refine z3 ?_;iterate 2 refine zp ?_
  refine z2 ?_;refine AW.ret ?_;refine qi ?_;exact bR2 results134 rfl rfl ⟨_,_,rfl,h⟩
 refine AW.skip ?_;refine qd ?_;refine AW.seqJ (fun fr I=>qo [(4,Sl.v u2)] fr/\acd B ro u2 Q I) ?_ ?_
 .rintro fr I ⟨hl,h⟩;refine AW.weaken ?_ hl (HLe.refl _)
  unfold acd at h;refine z3 ?_;iterate 3 refine zp ?_
  refine z2 ?_;refine AW.ret ?_;exact bR2 results134 rfl rfl ⟨_,_,rfl,h⟩
 refine z3 ?_;refine zp ?_;refine zm (qT rfl rfl underlying27 rfl rfl) ?_;refine zp ?_;refine z2 (AW.block ?_)
 refine qk.loop (fr':=[(4,Sl.v u2),(23,Sl.v u2),(24,.int .i64 (u2.len:Int)),(25,.int .i64 0)]) ?_ FL
 refine h (fun u3 I=>qk _ _ _ _ _ _ [(4,Sl.v u2),(23,Sl.v u2),(24,.int .i64 (u2.len:Int)),(25,.int .i64 u3)] I) ?_
 rintro u3 I Y5 hY5 h
 show AW _ _ _ _ _ _ _ _
 unfold aap at h;refine z3 ?_;refine zp ?_;refine z2 (AW.seq ?_)
 refine zi h (fun h=>?_) fun h=>?_
 rotate_left
 .refine AW.exit ?_;refine qH (qH ?_);refine wB ?_
  refine qd ?_;exact⟨FL,h⟩
 refine AW.skip ?_;refine qd (AW.seq (AW.block (z3 ?_)));obtain⟨p4,ha,h0,h1,h⟩:=h
 refine zm (vv rfl underlying27 ty9 (ixL rfl ha) rfl h0 h1) ?_;refine zL underlying9 h fun u5 h=>?_;refine zp ?_;refine z4 ?_;refine zp ?_;refine zc func99 h ?_;rintro v I ⟨u6,rfl,h⟩;refine zp ?_;refine z2 ?_;refine AW.iff rfl (qu Iff.rfl) h (fun h=>?_) (fun h=>?_)
 .refine z3 ?_;iterate 2 refine zp ?_
  refine z2 ?_;refine AW.ret ?_;refine qx (qi (qi (qx (qi ?_))));exact bR2 results134 rfl rfl ⟨_,_,rfl,h⟩
 refine AW.skip ?_;refine qD (qd (AW.reg ?_));iterate 2 refine zp ?_
 refine z2 ?_;refine qk.head (fr':=[(4,Sl.v u2),(23,Sl.v u2),(24,.int .i64 (u2.len:Int)),(25,.int .i64 (i64.wrap (u3+1)))]) ?_ FL
 exact hY5 _ _ h
def yJ(B:World)(ro:AH)(a0:ByteArray)(Q:ByteArray->Int->AH->Prop)(u0:Bool)(I:AH):=
 if u0=true then
 Q (⟨#[]⟩:ByteArray) 20 I
 else
 jh B ro a0 47 I fun u1 I=>
 cutOk none (some (if 1<u1 then u1 else 1)) a0.size a0.size/\
 Q (a0.extract (0) (Int.toNat (if 1<u1 then u1 else 1))) 0 I
def aem(B:World)(ro:AH)(a0:ByteArray)(I:AH)(Q:ByteArray->Int->AH->Prop):=
 if a0=(⟨#[47]⟩:ByteArray)then
 yJ B ro a0 Q true I
 else
 vo B ro a0 I fun u0 I=>
 yJ B ro a0 Q (!(decide (u0=0))) I
theorem akv{a0:ByteArray}{Q:ByteArray->Int->AH->Prop}(h:Sep ro I->aem B ro a0 I Q):yj B ro a0 I Q:=by
 refine zb h func179 ntmps179 fun h=>?_;unfold aem at h;refine z3 ?_;iterate 2 refine zp ?_
 refine z2 (AW.seq (z3 ?_))
 iterate 3 refine zp ?_
 refine qO 4 (decide (a0=(⟨#[47]⟩:ByteArray))) decide_eq_true_iff h (fun fr I=> ∃(u0:Bool),qo [(0,.string a0),(10,.bool u0)] fr/\yJ B ro a0 Q u0 I) ?_ ?_ ?_
 .intro h e2 hk2;iterate 3 refine zn e2 ?_
  refine zk e2 ?_;exact hk2 _ _ ⟨_,FL,h⟩
 .intro h e2 hk2;refine zy e2 ?_;refine Lyb rfl rfl rfl rfl e2 (qF rfl func82 rfl rfl rfl (qc.mono h ?_))
  rintro v I ⟨u1,rfl,h⟩;refine zy e2 ?_;refine zk e2 ?_;exact hk2 _ _ ⟨_,FL,h⟩
 rintro fr I ⟨u0,hl,h⟩;unfold yJ at h;refine Lfr hl ?_
 refine z2 ?_;refine zj h (fun h=>?_) fun h=>?_
 .refine z3 ?_;iterate 2 refine zp ?_
  refine z2 ?_;refine AW.ret ?_;refine qi ?_;exact bR2 results179 rfl rfl ⟨_,_,rfl,h⟩
 refine AW.skip ?_;refine qd (z3 ?_);iterate 2 refine zp ?_
 refine zc func227 h ?_;rintro v I ⟨u2,rfl,h⟩;refine zm (aoW rfl rfl) ?_;obtain⟨hc,h⟩:=h
 refine zm (alU (lo:=none) (hi:=(some (if 1<u2 then u2 else 1))) rfl underlying9 rfl zP (zQ rfl) hc) ?_;iterate 2 refine zp ?_
 refine z2 ?_;refine AW.ret ?_;exact bR2 results179 rfl rfl ⟨_,_,rfl,h⟩
def yK(B:World)(ro:AH)(a0:ByteArray)(a1:Int)(Q:ByteArray->Int->AH->Prop)(u0:Bool)(I:AH):=
 if u0=true then
 Q (⟨#[]⟩:ByteArray) 20 I
 else
 af7 B ro a1 I fun u1 I=>
 aeZ B ro (⟨#[48]⟩:ByteArray) (i64.wrap (10 - (u1.size:Int))) I fun u2 I=>
 u2.size+u1.size<=9223372036854775807/\
 a0.size+(u2++u1).size<=9223372036854775807/\
 vo B ro (a0++(u2++u1)) I fun u3 I=>
 if¬(u3=0)then
 Q (⟨#[]⟩:ByteArray) u3 I
 else
 Q (a0++(u2++u1)) 0 I
def aen(B:World)(ro:AH)(a0:ByteArray)(a1:Int)(I:AH)(Q:ByteArray->Int->AH->Prop):=
 if((a0=(⟨#[47]⟩:ByteArray))\/(a1<0))\/(9999999999<a1)then
 yK B ro a0 a1 Q true I
 else
 vo B ro a0 I fun u0 I=>
 yK B ro a0 a1 Q (!(decide (u0=0))) I
theorem akw{a0:ByteArray}{a1:Int}{Q:ByteArray->Int->AH->Prop}(h:Sep ro I->aen B ro a0 a1 I Q):aeh B ro a0 a1 I Q:=by
 refine zb h func180 ntmps180 fun h=>?_;unfold aen at h;refine z3 ?_;iterate 2 refine zp ?_
 refine z2 (AW.seq (z3 ?_))
 iterate 3 refine zp ?_
 refine wW 3 (decide (a0=(⟨#[47]⟩:ByteArray))) [(0,.string a0),(1,.int .i64 a1),(13,.bool ((decide (a0=(⟨#[47]⟩:ByteArray))) || (decide (a1<0))))] ?_ ?_ ?_
 .intro e2 hk2
  iterate 2 refine zn e2 ?_
  refine zk e2 ?_;exact hk2 _ (Fe e2)
 .intro e2 hk2
  refine zy e2 ?_;refine zy e2 ?_;refine zk e2 ?_;exact hk2 _ (Fe e2)
 intro fr hl
 refine Lfr hl ?_
 refine zp ?_;refine wW 3 ((decide (a0=(⟨#[47]⟩:ByteArray))) || (decide (a1<0))) [(0,.string a0),(1,.int .i64 a1),(17,.bool (((decide (a0=(⟨#[47]⟩:ByteArray))) || (decide (a1<0))) || (decide (9999999999<a1))))] ?_ ?_ ?_
 .intro e6 hk6
  iterate 2 refine zn e6 ?_
  refine zk e6 ?_;exact hk6 _ (Fe e6)
 .intro e6 hk6
  refine zy e6 ?_;refine zy e6 ?_;refine zk e6 ?_;exact hk6 _ (Fe e6)
 intro fr hl
 refine Lfr hl ?_
 refine zp ?_;refine qO 4 (((decide (a0=(⟨#[47]⟩:ByteArray))) || (decide (a1<0))) || (decide (9999999999<a1))) (zG (zG decide_eq_true_iff decide_eq_true_iff) decide_eq_true_iff) h (fun fr I=> ∃(u0:Bool),qo [(0,.string a0),(1,.int .i64 a1),(22,.bool u0)] fr/\yK B ro a0 a1 Q u0 I) ?_ ?_ ?_
 .intro h e10 hk10;iterate 3 refine zn e10 ?_
  refine zk e10 ?_;exact hk10 _ _ ⟨_,FL,h⟩
 .intro h e10 hk10;refine zy e10 ?_;refine Lyb rfl rfl rfl rfl e10 (qF rfl func82 rfl rfl rfl (qc.mono h ?_))
  rintro v I ⟨u1,rfl,h⟩;refine zy e10 ?_;refine zk e10 ?_;exact hk10 _ _ ⟨_,FL,h⟩
 rintro fr I ⟨u0,hl,h⟩;unfold yK at h;refine Lfr hl ?_
 refine z2 ?_;refine zj h (fun h=>?_) fun h=>?_
 .refine z3 ?_;iterate 2 refine zp ?_
  refine z2 ?_;refine AW.ret ?_;refine qi ?_;exact bR2 results180 rfl rfl ⟨_,_,rfl,h⟩
 refine AW.skip ?_;refine qd (z3 ?_);refine zp ?_;refine zc func228 h ?_;rintro v I ⟨u2,rfl,h⟩;refine zp ?_;refine z4 ?_;iterate 2 refine zp ?_
 refine zm (aaV rfl rfl underlying9 rfl rfl) ?_;refine zp ?_;refine zc func229 h ?_;rintro v I ⟨u3,rfl,h⟩;refine zp ?_;obtain⟨hc,h⟩:=h
 refine zm (ajM rfl rfl rfl hc) ?_;obtain⟨hc,h⟩:=h
 refine zm (ajM rfl rfl rfl hc) ?_;refine zp ?_;refine z2 (AW.seq (z3 ?_))
 refine zp ?_;refine zc func82 h ?_;rintro v I ⟨u4,rfl,h⟩;refine zp ?_;refine z4 ?_;iterate 2 refine zp ?_
 refine z2 ?_;refine AW.iff rfl (qu decide_eq_true_iff) h (fun h=>?_) (fun h=>?_)
 .refine z3 ?_;iterate 3 refine zp ?_
  refine z2 ?_;refine AW.ret ?_;refine qi ?_;exact bR2 results180 rfl rfl ⟨_,_,rfl,h⟩
 refine AW.skip ?_;refine qd (z3 ?_);iterate 3 refine zp ?_
 refine z2 ?_;refine AW.ret ?_;exact bR2 results180 rfl rfl ⟨_,_,rfl,h⟩
def uC(B:World)(ro:AH)(a0:ByteArray)(Q:ByteArray->Int->AH->Prop)(u0:Bool)(I:AH):=
 if u0=true then
 Q (⟨#[]⟩:ByteArray) 20 I
 else
 jh B ro a0 47 I fun u1 I=>
 cutOk (some (i64.wrap (u1+1))) none a0.size a0.size/\
 Q (a0.extract (Int.toNat (i64.wrap (u1+1))) (a0.size)) 0 I
def afM(B:World)(ro:AH)(a0:ByteArray)(I:AH)(Q:ByteArray->Int->AH->Prop):=
 if a0=(⟨#[47]⟩:ByteArray)then
 uC B ro a0 Q true I
 else
 vo B ro a0 I fun u0 I=>
 uC B ro a0 Q (!(decide (u0=0))) I
theorem amc{a0:ByteArray}{Q:ByteArray->Int->AH->Prop}(h:Sep ro I->afM B ro a0 I Q):afK B ro a0 I Q:=by
 refine zb h func274 ntmps274 fun h=>?_;unfold afM at h;refine z3 ?_;iterate 2 refine zp ?_
 refine z2 (AW.seq (z3 ?_))
 iterate 3 refine zp ?_
 refine qO 4 (decide (a0=(⟨#[47]⟩:ByteArray))) decide_eq_true_iff h (fun fr I=> ∃(u0:Bool),qo [(0,.string a0),(10,.bool u0)] fr/\uC B ro a0 Q u0 I) ?_ ?_ ?_
 .intro h e2 hk2;iterate 3 refine zn e2 ?_
  refine zk e2 ?_;exact hk2 _ _ ⟨_,FL,h⟩
 .intro h e2 hk2;refine zy e2 ?_;refine Lyb rfl rfl rfl rfl e2 (qF rfl func82 rfl rfl rfl (qc.mono h ?_))
  rintro v I ⟨u1,rfl,h⟩;refine zy e2 ?_;refine zk e2 ?_;exact hk2 _ _ ⟨_,FL,h⟩
 rintro fr I ⟨u0,hl,h⟩;unfold uC at h;refine Lfr hl ?_
 refine z2 ?_;refine zj h (fun h=>?_) fun h=>?_
 .refine z3 ?_;iterate 2 refine zp ?_
  refine z2 ?_;refine AW.ret ?_;refine qi ?_;exact bR2 results274 rfl rfl ⟨_,_,rfl,h⟩
 refine AW.skip ?_;refine qd (z3 ?_);iterate 2 refine zp ?_
 refine zc func227 h ?_;rintro v I ⟨u2,rfl,h⟩;refine zp ?_;obtain⟨hc,h⟩:=h
 refine zm (alU (lo:=(some (i64.wrap (u2+1)))) (hi:=none) rfl underlying9 rfl (zQ rfl) zP hc) ?_;iterate 2 refine zp ?_
 refine z2 ?_;refine AW.ret ?_;exact bR2 results274 rfl rfl ⟨_,_,rfl,h⟩