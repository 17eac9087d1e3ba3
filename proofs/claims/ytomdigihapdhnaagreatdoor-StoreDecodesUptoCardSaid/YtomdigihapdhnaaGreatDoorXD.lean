import Derived.KernelRfl
import Derived.Test.YtomdigihapdhnaaGreatDoorProg
import Derived.Test.YtomdigihapdhnaaGreatDoorXC
set_option linter.all false
set_option maxRecDepth 99999
set_option maxHeartbeats 0
open Go.IntKind(i64)
open Go.Proofs.Tryz
namespace Go.Proofs.YtomdigihapdhnaaGreatDoor
theorem y0{p:Prop}(h:p:=by kernel_rfl):p:=h
abbrev zFd(n:String)(t o b:Nat)(e:Bool)(p:String):Go.Field:={name:=n,type:=t,offset:=o,embedded:=e,tag:= "",pkgPath:=p,byteOffset:=b}
abbrev zEd(n:String)(t o b:Nat):Go.Field:=zFd n t o b false ""
abbrev mj:=@underlying3
abbrev mo:=@underlying24
abbrev mu:=@underlying9
abbrev mx:=@underlying55
abbrev mN:=@underlying81
abbrev mP:=@underlying27
abbrev mR:=@underlying168
abbrev mS:=@underlying147
abbrev nf:=@underlying217
abbrev ng:=@underlying325
abbrev ni:=@underlying26
abbrev nm:=@underlying83
abbrev nt:=@underlying314
abbrev nu:=@underlying329
abbrev ny:=@underlying153
abbrev nB:=@underlying254
abbrev nF:=@underlying5
abbrev nG:=@underlying231
abbrev nH:=@underlying310
abbrev nI:=@underlying307
abbrev nK:=@underlying327
abbrev nO:=@underlying239
abbrev nP:=@underlying57
abbrev nQ:=@underlying324
abbrev nR:=@underlying0
abbrev nV:=@underlying30
abbrev nW:=@underlying4
abbrev nX:=@underlying237
abbrev Le:=@underlying178
abbrev Lm:=@underlying399
abbrev Lo:=@underlying462
abbrev Lq:=@underlying240
abbrev Lr:=@underlying227
abbrev Lt:=@underlying221
abbrev Lu:=@underlying149
abbrev Lv:=@underlying242
abbrev Lw:=@underlying252
abbrev LC:=@underlying28
abbrev LG:=@underlying464
abbrev LH:=@underlying219
abbrev LI:=@underlying311
abbrev LN:=@underlying245
abbrev LO:=@underlying243
abbrev LR:=@underlying455
abbrev LS:=@underlying456
abbrev LT:=@underlying300
abbrev LU:=@underlying496
abbrev LV:=@underlying500
abbrev LW:=@underlying534
abbrev LX:=@underlying344
abbrev LY:=@underlying164
abbrev Pb:=@underlying150
abbrev Pc:=@underlying132
abbrev Pd:=@underlying308
abbrev Pf:=@underlying22
abbrev Ph:=@underlying61
namespace G
open Go SL
variable{B:World}{ro I:AH}
theorem _root_.Go.Proofs.Tryz.mixed:prog.follows .mixedOrders=true:=y0
theorem ty3:ql prog 3 (.int .i64 0) 1 8:=ql.of y0
theorem ty4:ql prog 4 (.bool false) 1 1:=ql.of y0
theorem ty5:ql prog 5 (.int .u8 0) 1 1:=ql.of y0
theorem ty9:ql prog 9 (.string ByteArray.empty) 1 16:=ql.of y0
theorem af2:ql prog 22 (.int .i64 0) 1 8:=ql.of y0
theorem atu:ql prog 23 (.slice none 0 0) 1 24:=ql.of y0
theorem wq:ql prog 24 (.slice none 0 0) 1 24:=ql.of y0
theorem vb:ql prog 26 (.agg #[.int .i64 0,.int .i64 0,.int .i64 0,.int .i64 0]) 4 32:=ql.of y0
theorem atv:ql prog 27 (.slice none 0 0) 1 24:=ql.of y0
theorem akc:ql prog 28 (.slice none 0 0) 1 24:=ql.of y0
theorem pB:ql prog 30 (.agg #[.int .i64 0,.int .i64 0,.slice none 0 0,.int .i64 0,.slice none 0 0,.int .i64 0,.int .i64 0,.int .i64 0,.int .i64 0,.slice none 0 0,.slice none 0 0,.int .i64 0]) 12 160:=ql.of y0
theorem atw:ql prog 54 (.slice none 0 0) 1 24:=ql.of y0
theorem akd:ql prog 55 (.slice none 0 0) 1 24:=ql.of y0
theorem ake:ql prog 57 (.agg #[.int .i64 0,.string ByteArray.empty,.int .i64 0,.int .i64 0,.int .i64 0,.int .i64 0,.int .i64 0,.int .i64 0,.slice none 0 0,.string ByteArray.empty,.bool false,.int .i64 0,.slice none 0 0]) 13 152:=ql.of y0
theorem aiR:ql prog 61 (.pointer none) 1 8:=ql.of y0
theorem zP:ql prog 81 (.agg #[.string ByteArray.empty,.int .i64 0]) 2 24:=ql.of y0
theorem ase:ql prog 83 (.agg #[.string ByteArray.empty,.int .i64 0,.int .i64 0,.int .i64 0,.int .i64 0,.int .i64 0,.slice none 0 0]) 7 80:=ql.of y0
theorem aig:ql prog 132 (.agg #[.int .i64 0,.int .i64 0,.string ByteArray.empty]) 3 32:=ql.of y0
theorem ajs:ql prog 147 (.agg #[.slice none 0 0,.int .i64 0,.int .i64 0]) 3 40:=ql.of y0
theorem aeM:ql prog 149 (.agg #[.int .i64 0,.slice none 0 0]) 2 32:=ql.of y0
theorem agH:ql prog 150 (.pointer none) 1 8:=ql.of y0
theorem alE:ql prog 151 (.pointer none) 1 8:=ql.of y0
theorem ara:ql prog 153 (.agg #[.int .i64 0,.slice none 0 0,.pointer none,.pointer none,.pointer none]) 5 56:=ql.of y0
theorem anU:ql prog 168 (.agg #[.int .i64 0,.int .i64 0,.int .i64 0,.int .i64 0,.slice none 0 0]) 5 56:=ql.of y0
theorem alF:ql prog 215 (.int .i8 0) 1 1:=ql.of y0
theorem alG:ql prog 217 (.agg #[.slice none 0 0,.int .i64 0,.int .i8 0]) 3 40:=ql.of y0
theorem afK:ql prog 219 (.agg #[.slice none 0 0,.int .i64 0,.int .i8 0,.bool false]) 4 48:=ql.of y0
theorem as0:ql prog 221 (.agg #[.slice none 0 0,.int .i64 0,.int .i8 0,.bool false]) 4 48:=ql.of y0
theorem as1:ql prog 231 (.agg #[.slice none 0 0,.int .i64 0]) 2 32:=ql.of y0
theorem acX:ql prog 237 (.map none) 1 8:=ql.of y0
theorem arb:ql prog 239 (.agg #[.map none]) 1 8:=ql.of y0
theorem afL:ql prog 240 (.map none) 1 8:=ql.of y0
theorem as2:ql prog 242 (.agg #[.map none]) 1 8:=ql.of y0
theorem ajt:ql prog 243 (.map none) 1 8:=ql.of y0
theorem as3:ql prog 245 (.agg #[.map none]) 1 8:=ql.of y0
theorem afM:ql prog 252 (.map none) 1 8:=ql.of y0
theorem arc:ql prog 254 (.agg #[.int .i64 0,.map none]) 2 16:=ql.of y0
theorem abM:ql prog 307 (.agg #[.slice none 0 0,.int .i64 0,.int .i64 0]) 3 40:=ql.of y0
theorem alH:ql prog 308 (.map none) 1 8:=ql.of y0
theorem as4:ql prog 310 (.agg #[.slice none 0 0,.int .i64 0,.int .i64 0,.map none]) 4 48:=ql.of y0
theorem ko:ql prog 314 (.agg #[.string ByteArray.empty,.int .i64 0]) 2 24:=ql.of y0
theorem afN:ql prog 324 (.agg #[.int .i64 0,.string ByteArray.empty]) 2 24:=ql.of y0
theorem um:ql prog 325 (.slice none 0 0) 1 24:=ql.of y0
theorem as5:ql prog 327 (.agg #[.slice none 0 0]) 1 24:=ql.of y0
theorem ack:ql prog 329 (.agg #[.string ByteArray.empty,.slice none 0 0,.int .i64 0,.int .i64 0,.int .i64 0]) 5 64:=ql.of y0
theorem asf:wF prog [zEd "Version" 3 0 0,zEd "Counter" 3 1 8,zEd "Owner" 3 2 16,zEd "Children" 3 3 24] [(0,1),(1,1),(2,1),(3,1)]:=⟨⟨rfl,_,_,ty3⟩,⟨⟨rfl,_,_,ty3⟩,⟨⟨rfl,_,_,ty3⟩,⟨⟨rfl,_,_,ty3⟩,trivial⟩⟩⟩⟩
theorem asg:wF prog [zEd "Code" 22 0 0,zEd "Session" 3 1 8,zEd "Results" 23 2 16,zEd "Bad" 3 3 40,zEd "Data" 24 4 48,zEd "Stat" 26 5 72,zEd "Names" 27 9 104,zEd "Events" 28 10 128,zEd "Epoch" 3 11 152] [(0,1),(1,1),(2,1),(3,1),(4,1),(5,4),(9,1),(10,1),(11,1)]:=⟨⟨rfl,_,_,af2⟩,⟨⟨rfl,_,_,ty3⟩,⟨⟨rfl,_,_,atu⟩,⟨⟨rfl,_,_,ty3⟩,⟨⟨rfl,_,_,wq⟩,⟨⟨rfl,_,_,vb⟩,⟨⟨rfl,_,_,atv⟩,⟨⟨rfl,_,_,akc⟩,⟨⟨rfl,_,_,ty3⟩,trivial⟩⟩⟩⟩⟩⟩⟩⟩⟩
theorem atx:wF prog [zEd "Kind" 3 0 0,zEd "Home" 9 1 8,zEd "Session" 3 2 24,zEd "Req" 3 3 32,zEd "Nonce" 3 4 40,zEd "Lease" 3 5 48,zEd "Beats" 3 6 56,zEd "Ack" 3 7 64,zEd "Ops" 54 8 72,zEd "Path" 9 9 96,zEd "Watch" 4 10 112,zEd "Epoch" 3 11 120,zEd "Members" 55 12 128] [(0,1),(1,1),(2,1),(3,1),(4,1),(5,1),(6,1),(7,1),(8,1),(9,1),(10,1),(11,1),(12,1)]:=⟨⟨rfl,_,_,ty3⟩,⟨⟨rfl,_,_,ty9⟩,⟨⟨rfl,_,_,ty3⟩,⟨⟨rfl,_,_,ty3⟩,⟨⟨rfl,_,_,ty3⟩,⟨⟨rfl,_,_,ty3⟩,⟨⟨rfl,_,_,ty3⟩,⟨⟨rfl,_,_,ty3⟩,⟨⟨rfl,_,_,atw⟩,⟨⟨rfl,_,_,ty9⟩,⟨⟨rfl,_,_,ty4⟩,⟨⟨rfl,_,_,ty3⟩,⟨⟨rfl,_,_,akd⟩,trivial⟩⟩⟩⟩⟩⟩⟩⟩⟩⟩⟩⟩⟩
theorem anV:wF prog [zEd "Home" 9 0 0,zEd "N" 3 1 16] [(0,1),(1,1)]:=⟨⟨rfl,_,_,ty9⟩,⟨⟨rfl,_,_,ty3⟩,trivial⟩⟩
theorem ash:wF prog [zFd "Key" 81 0 0 true "",zEd "Nonce" 3 2 24,zEd "Lease" 3 3 32,zEd "Beats" 3 4 40,zEd "Req" 3 5 48,zEd "Reply" 24 6 56] [(0,2),(2,1),(3,1),(4,1),(5,1),(6,1)]:=⟨⟨rfl,_,_,zP⟩,⟨⟨rfl,_,_,ty3⟩,⟨⟨rfl,_,_,ty3⟩,⟨⟨rfl,_,_,ty3⟩,⟨⟨rfl,_,_,ty3⟩,⟨⟨rfl,_,_,wq⟩,trivial⟩⟩⟩⟩⟩⟩
theorem as6:wF prog [zEd "N" 3 0 0,zEd "Kind" 3 1 8,zEd "Path" 9 2 16] [(0,1),(1,1),(2,1)]:=⟨⟨rfl,_,_,ty3⟩,⟨⟨rfl,_,_,ty3⟩,⟨⟨rfl,_,_,ty9⟩,trivial⟩⟩⟩
theorem aju:wF prog [zEd "B" 24 0 0,zEd "At" 3 1 24,zEd "Err" 3 2 32] [(0,1),(1,1),(2,1)]:=⟨⟨rfl,_,_,wq⟩,⟨⟨rfl,_,_,ty3⟩,⟨⟨rfl,_,_,ty3⟩,trivial⟩⟩⟩
theorem ard:wF prog [zFd "epoch" 3 0 0 false "althing/store",zFd "members" 55 1 8 false "althing/store"] [(0,1),(1,1)]:=⟨⟨rfl,_,_,ty3⟩,⟨⟨rfl,_,_,akd⟩,trivial⟩⟩
theorem arf:wF prog [zFd "quorum" 149 0 0 true "althing/store",zFd "tree" 61 2 32 false "althing/store",zFd "table" 150 3 40 false "althing/store",zFd "hub" 151 4 48 false "althing/store"] [(0,2),(2,1),(3,1),(4,1)]:=⟨⟨rfl,_,_,aeM⟩,⟨⟨rfl,_,_,aiR⟩,⟨⟨rfl,_,_,agH⟩,⟨⟨rfl,_,_,alE⟩,trivial⟩⟩⟩⟩
theorem anW:wF prog [zFd "Stat" 26 0 0 true "",zFd "data" 24 4 32 false "althing/ztree"] [(0,4),(4,1)]:=⟨⟨rfl,_,_,vb⟩,⟨⟨rfl,_,_,wq⟩,trivial⟩⟩
theorem as7:wF prog [zFd "buffer" 219 0 0 true "althing/wire"] [(0,4)]:=⟨⟨rfl,_,_,afK⟩,trivial⟩
theorem as8:wF prog [zFd "b" 24 0 0 false "althing/wire",zFd "err" 22 1 24 false "althing/wire"] [(0,1),(1,1)]:=⟨⟨rfl,_,_,wq⟩,⟨⟨rfl,_,_,af2⟩,trivial⟩⟩
theorem arh:wF prog [zFd "nodes" 237 0 0 false "althing/ztree"] [(0,1)]:=⟨⟨rfl,_,_,acX⟩,trivial⟩
theorem as9:wF prog [zFd "houses" 240 0 0 false "althing/session"] [(0,1)]:=⟨⟨rfl,_,_,afL⟩,trivial⟩
theorem ata:wF prog [zFd "desks" 243 0 0 false "althing/watch"] [(0,1)]:=⟨⟨rfl,_,_,ajt⟩,trivial⟩
theorem ari:wF prog [zFd "last" 3 0 0 false "althing/session",zFd "live" 252 1 8 false "althing/session"] [(0,1),(1,1)]:=⟨⟨rfl,_,_,ty3⟩,⟨⟨rfl,_,_,afM⟩,trivial⟩⟩
theorem atb:wF prog [zFd "queue" 307 0 0 true "althing/watch",zFd "marks" 308 3 40 false "althing/watch"] [(0,3),(3,1)]:=⟨⟨rfl,_,_,abM⟩,⟨⟨rfl,_,_,alH⟩,trivial⟩⟩
theorem alI:wF prog [zFd "path" 9 0 0 false "althing/watch",zFd "kind" 3 1 16 false "althing/watch"] [(0,1),(1,1)]:=⟨⟨rfl,_,_,ty9⟩,⟨⟨rfl,_,_,ty3⟩,trivial⟩⟩
theorem arj:wF prog [zEd "Kind" 3 0 0,zEd "Path" 9 1 8] [(0,1),(1,1)]:=⟨⟨rfl,_,_,ty3⟩,⟨⟨rfl,_,_,ty9⟩,trivial⟩⟩
theorem atc:wF prog [zEd "List" 325 0 0] [(0,1)]:=⟨⟨rfl,_,_,um⟩,trivial⟩
theorem atd:wF prog [zEd "Path" 9 0 0,zEd "Data" 24 1 16,zEd "Version" 3 2 40,zEd "Counter" 3 3 48,zEd "Owner" 3 4 56] [(0,1),(1,1),(2,1),(3,1),(4,1)]:=⟨⟨rfl,_,_,ty9⟩,⟨⟨rfl,_,_,wq⟩,⟨⟨rfl,_,_,ty3⟩,⟨⟨rfl,_,_,ty3⟩,⟨⟨rfl,_,_,ty3⟩,trivial⟩⟩⟩⟩⟩
def acY(B:World)(ro:AH)(a0:Sl)(I:AH)(Q:Bool->AH->Prop):=
 qc prog B ro 11 #[Sl.v a0] I fun v I=> ∃(r0:Bool),v= .bool r0/\Q r0 I
def acZ(B:World)(ro:AH)(a0:Sl)(I:AH)(Q:Sl->AH->Prop):=
 qc prog B ro 16 #[Sl.v a0] I fun v I=> ∃(r0:Sl),v=Sl.v r0/\Q r0 I
def ae7(B:World)(ro:AH)(a0 a1:Sl)(I:AH)(Q:Bool->AH->Prop):=
 qc prog B ro 18 #[Sl.v a0,Sl.v a1] I fun v I=> ∃(r0:Bool),v= .bool r0/\Q r0 I
def acl(B:World)(ro I:AH)(Q:Bool->AH->Prop):Prop:=
 qc prog B ro 20 #[] I fun v I=> ∃(r0:Bool),v= .bool r0/\Q r0 I
def af3(B:World)(ro:AH)(a0:Sl)(I:AH)(Q:Option Addr->Int->AH->Prop):=
 qc prog B ro 21 #[Sl.v a0] I fun v I=> ∃(r0:Option Addr) (r1:Int),v= .tuple #[.pointer r0,.int .i64 r1]/\Q r0 r1 I
def aaK(B:World)(ro:AH)(a0:Option Addr)(a1_0:Int)(a1_1:ByteArray)(a1_2 a1_3 a1_4 a1_5 a1_6 a1_7:Int)(a1_8:Sl)(a1_9:ByteArray)(a1_10:Bool)(a1_11:Int)(a1_12:Sl)(I:AH)(Q:Int->Int->Sl->Int->Sl->Int->Int->Int->Int->Sl->Sl->Int->AH->Prop):=
 qc prog B ro 22 #[.pointer a0,.agg #[.int .i64 a1_0,.string a1_1,.int .i64 a1_2,.int .i64 a1_3,.int .i64 a1_4,.int .i64 a1_5,.int .i64 a1_6,.int .i64 a1_7,Sl.v a1_8,.string a1_9,.bool a1_10,.int .i64 a1_11,Sl.v a1_12]] I fun v I=> ∃(r0_0:Int) (r0_1:Int) (r0_2:Sl) (r0_3:Int) (r0_4:Sl) (r0_5:Int) (r0_6:Int) (r0_7:Int) (r0_8:Int) (r0_9:Sl) (r0_10:Sl) (r0_11:Int),v= .agg #[.int .i64 r0_0,.int .i64 r0_1,Sl.v r0_2,.int .i64 r0_3,Sl.v r0_4,.int .i64 r0_5,.int .i64 r0_6,.int .i64 r0_7,.int .i64 r0_8,Sl.v r0_9,Sl.v r0_10,.int .i64 r0_11]/\Q r0_0 r0_1 r0_2 r0_3 r0_4 r0_5 r0_6 r0_7 r0_8 r0_9 r0_10 r0_11 I
def jk(B:World)(ro:AH)(a0:Option Addr)(a1:ByteArray)(I:AH)(Q:Sl->Int->Int->Int->Int->Int->AH->Prop):=
 qc prog B ro 25 #[.pointer a0,.string a1] I fun v I=> ∃(r0:Sl) (r1_0:Int) (r1_1:Int) (r1_2:Int) (r1_3:Int) (r2:Int),v= .tuple #[Sl.v r0,.agg #[.int .i64 r1_0,.int .i64 r1_1,.int .i64 r1_2,.int .i64 r1_3],.int .i64 r2]/\Q r0 r1_0 r1_1 r1_2 r1_3 r2 I
def ae8(B:World)(ro:AH)(a0:ByteArray)(I:AH)(Q:ByteArray->Bool->AH->Prop):=
 qc prog B ro 28 #[.string a0] I fun v I=> ∃(r0:ByteArray) (r1:Bool),v= .tuple #[.string r0,.bool r1]/\Q r0 r1 I
def abn(B:World)(ro:AH)(a0:ByteArray)(I:AH)(Q:Bool->AH->Prop):=
 qc prog B ro 37 #[.string a0] I fun v I=> ∃(r0:Bool),v= .bool r0/\Q r0 I
def uZ(B:World)(ro:AH)(a0:Option Addr)(I:AH)(Q:Sl->AH->Prop):=
 qc prog B ro 40 #[.pointer a0] I fun v I=> ∃(r0:Sl),v=Sl.v r0/\Q r0 I
def ads(B:World)(ro:AH)(a0:Sl)(I:AH)(Q:Option Addr->Int->AH->Prop):=
 qc prog B ro 41 #[Sl.v a0] I fun v I=> ∃(r0:Option Addr) (r1:Int),v= .tuple #[.pointer r0,.int .i64 r1]/\Q r0 r1 I
def jI(B:World)(ro:AH)(a0:Sl)(I:AH)(Q:Bool->AH->Prop):=
 qc prog B ro 42 #[Sl.v a0] I fun v I=> ∃(r0:Bool),v= .bool r0/\Q r0 I
def jl(B:World)(ro I:AH)(Q:Option Addr->AH->Prop):Prop:=
 qc prog B ro 43 #[] I fun v I=> ∃(r0:Option Addr),v= .pointer r0/\Q r0 I
def qX(B:World)(ro:AH)(a0:Option Addr)(a1:Sl)(I:AH)(Q:AH->Prop):=
 qc prog B ro 44 #[.pointer a0,Sl.v a1] I fun v I=>v= .tuple #[]/\Q I
def zE(B:World)(ro:AH)(a0:Option Addr)(a1:Sl)(I:AH)(Q:AH->Prop):=
 qc prog B ro 45 #[.pointer a0,Sl.v a1] I fun v I=>v= .tuple #[]/\Q I
def vo(B:World)(ro:AH)(a0:Option Addr)(a1:Sl)(I:AH)(Q:AH->Prop):=
 qc prog B ro 46 #[.pointer a0,Sl.v a1] I fun v I=>v= .tuple #[]/\Q I
def xT(B:World)(ro:AH)(a0:Option Addr)(I:AH)(Q:Sl->Int->AH->Prop):=
 qc prog B ro 47 #[.pointer a0] I fun v I=> ∃(r0:Sl) (r1:Int),v= .tuple #[Sl.v r0,.int .i64 r1]/\Q r0 r1 I
def ahH(B:World)(ro:AH)(a0:Sl)(I:AH)(Q:Sl->AH->Prop):=
 qc prog B ro 50 #[Sl.v a0] I fun v I=> ∃(r0:Sl),v=Sl.v r0/\Q r0 I
def jm(B:World)(ro:AH)(a0:Sl)(I:AH)(Q:Option Addr->AH->Prop):=
 qc prog B ro 53 #[Sl.v a0] I fun v I=> ∃(r0:Option Addr),v= .pointer r0/\Q r0 I
def qt(B:World)(ro:AH)(a0:Option Addr)(I:AH)(Q:Int->AH->Prop):=
 qc prog B ro 54 #[.pointer a0] I fun v I=> ∃(r0:Int),v= .int .i64 r0/\Q r0 I
def vE(B:World)(ro:AH)(a0:Option Addr)(I:AH)(Q:ByteArray->AH->Prop):=
 qc prog B ro 55 #[.pointer a0] I fun v I=> ∃(r0:ByteArray),v= .string r0/\Q r0 I
def wz(B:World)(ro:AH)(a0:Option Addr)(I:AH)(Q:Sl->AH->Prop):=
 qc prog B ro 56 #[.pointer a0] I fun v I=> ∃(r0:Sl),v=Sl.v r0/\Q r0 I
def wI(B:World)(ro:AH)(a0:Option Addr)(I:AH)(Q:Int->AH->Prop):=
 qc prog B ro 57 #[.pointer a0] I fun v I=> ∃(r0:Int),v= .int .i64 r0/\Q r0 I
def wZ(B:World)(ro:AH)(a0:Option Addr)(I:AH)(Q:Int->AH->Prop):=
 qc prog B ro 58 #[.pointer a0] I fun v I=> ∃(r0:Int),v= .int .i64 r0/\Q r0 I
def qm(B:World)(ro:AH)(a0:Option Addr)(I:AH)(Q:Int->AH->Prop):=
 qc prog B ro 59 #[.pointer a0] I fun v I=> ∃(r0:Int),v= .int .i64 r0/\Q r0 I
def qL(B:World)(ro:AH)(a0:Option Addr)(I:AH)(Q:Sl->AH->Prop):=
 qc prog B ro 60 #[.pointer a0] I fun v I=> ∃(r0:Sl),v=Sl.v r0/\Q r0 I
def vp(B:World)(ro:AH)(a0:Option Addr)(I:AH)(Q:Int->AH->Prop):=
 qc prog B ro 61 #[.pointer a0] I fun v I=> ∃(r0:Int),v= .int .i64 r0/\Q r0 I
def ac0(B:World)(ro:AH)(a0:Option Addr)(I:AH)(Q:Int->AH->Prop):=
 qc prog B ro 62 #[.pointer a0] I fun v I=> ∃(r0:Int),v= .int .i64 r0/\Q r0 I
def ab8(B:World)(ro:AH)(a0:Option Addr)(I:AH)(Q:Sl->AH->Prop):=
 qc prog B ro 63 #[.pointer a0] I fun v I=> ∃(r0:Sl),v=Sl.v r0/\Q r0 I
def xx(B:World)(ro:AH)(a0:Sl)(I:AH)(Q:Bool->AH->Prop):=
 qc prog B ro 64 #[Sl.v a0] I fun v I=> ∃(r0:Bool),v= .bool r0/\Q r0 I
def jA(B:World)(ro:AH)(a0:Sl)(I:AH)(Q:Sl->AH->Prop):=
 qc prog B ro 65 #[Sl.v a0] I fun v I=> ∃(r0:Sl),v=Sl.v r0/\Q r0 I
def af4(B:World)(ro I:AH)(Q:Option Addr->AH->Prop):Prop:=
 qc prog B ro 66 #[] I fun v I=> ∃(r0:Option Addr),v= .pointer r0/\Q r0 I
def aei(B:World)(ro I:AH)(Q:Option Addr->AH->Prop):Prop:=
 qc prog B ro 67 #[] I fun v I=> ∃(r0:Option Addr),v= .pointer r0/\Q r0 I
def af5(B:World)(ro I:AH)(Q:Option Addr->AH->Prop):Prop:=
 qc prog B ro 68 #[] I fun v I=> ∃(r0:Option Addr),v= .pointer r0/\Q r0 I
def abo(B:World)(ro:AH)(a0:Option Addr)(a1_0:Int)(a1_1:ByteArray)(a1_2 a1_3 a1_4 a1_5 a1_6 a1_7:Int)(a1_8:Sl)(a1_9:ByteArray)(a1_10:Bool)(a1_11:Int)(a1_12:Sl)(I:AH)(Q:Int->Int->Sl->Int->Sl->Int->Int->Int->Int->Sl->Sl->Int->AH->Prop):=
 qc prog B ro 69 #[.pointer a0,.agg #[.int .i64 a1_0,.string a1_1,.int .i64 a1_2,.int .i64 a1_3,.int .i64 a1_4,.int .i64 a1_5,.int .i64 a1_6,.int .i64 a1_7,Sl.v a1_8,.string a1_9,.bool a1_10,.int .i64 a1_11,Sl.v a1_12]] I fun v I=> ∃(r0_0:Int) (r0_1:Int) (r0_2:Sl) (r0_3:Int) (r0_4:Sl) (r0_5:Int) (r0_6:Int) (r0_7:Int) (r0_8:Int) (r0_9:Sl) (r0_10:Sl) (r0_11:Int),v= .agg #[.int .i64 r0_0,.int .i64 r0_1,Sl.v r0_2,.int .i64 r0_3,Sl.v r0_4,.int .i64 r0_5,.int .i64 r0_6,.int .i64 r0_7,.int .i64 r0_8,Sl.v r0_9,Sl.v r0_10,.int .i64 r0_11]/\Q r0_0 r0_1 r0_2 r0_3 r0_4 r0_5 r0_6 r0_7 r0_8 r0_9 r0_10 r0_11 I
def af6(B:World)(ro:AH)(a0:Option Addr)(a1_0:ByteArray)(a1_1 a2:Int)(I:AH)(Q:Bool->AH->Prop):=
 qc prog B ro 70 #[.pointer a0,.agg #[.string a1_0,.int .i64 a1_1],.int .i64 a2] I fun v I=> ∃(r0:Bool),v= .bool r0/\Q r0 I
def ae9(B:World)(ro:AH)(a0_0:Int)(a0_1:ByteArray)(a0_2 a0_3 a0_4 a0_5 a0_6 a0_7:Int)(a0_8:Sl)(a0_9:ByteArray)(a0_10:Bool)(a0_11:Int)(a0_12:Sl)(I:AH)(Q:ByteArray->Int->AH->Prop):=
 qc prog B ro 71 #[.agg #[.int .i64 a0_0,.string a0_1,.int .i64 a0_2,.int .i64 a0_3,.int .i64 a0_4,.int .i64 a0_5,.int .i64 a0_6,.int .i64 a0_7,Sl.v a0_8,.string a0_9,.bool a0_10,.int .i64 a0_11,Sl.v a0_12]] I fun v I=> ∃(r0_0:ByteArray) (r0_1:Int),v= .agg #[.string r0_0,.int .i64 r0_1]/\Q r0_0 r0_1 I
def aej(B:World)(ro:AH)(a0:Int)(I:AH)(Q:Int->Int->Sl->Int->Sl->Int->Int->Int->Int->Sl->Sl->Int->AH->Prop):=
 qc prog B ro 72 #[.int .i64 a0] I fun v I=> ∃(r0_0:Int) (r0_1:Int) (r0_2:Sl) (r0_3:Int) (r0_4:Sl) (r0_5:Int) (r0_6:Int) (r0_7:Int) (r0_8:Int) (r0_9:Sl) (r0_10:Sl) (r0_11:Int),v= .agg #[.int .i64 r0_0,.int .i64 r0_1,Sl.v r0_2,.int .i64 r0_3,Sl.v r0_4,.int .i64 r0_5,.int .i64 r0_6,.int .i64 r0_7,.int .i64 r0_8,Sl.v r0_9,Sl.v r0_10,.int .i64 r0_11]/\Q r0_0 r0_1 r0_2 r0_3 r0_4 r0_5 r0_6 r0_7 r0_8 r0_9 r0_10 r0_11 I
def ahk(B:World)(ro:AH)(a0:Option Addr)(a1_0:ByteArray)(a1_1:Int)(I:AH)(Q:AH->Prop):=
 qc prog B ro 73 #[.pointer a0,.agg #[.string a1_0,.int .i64 a1_1]] I fun v I=>v= .tuple #[]/\Q I
def agI(B:World)(ro:AH)(a0:Option Addr)(a1_0:Int)(a1_1:ByteArray)(a1_2 a1_3 a1_4 a1_5 a1_6 a1_7:Int)(a1_8:Sl)(a1_9:ByteArray)(a1_10:Bool)(a1_11:Int)(a1_12:Sl)(I:AH)(Q:Int->Int->Sl->Int->Sl->Int->Int->Int->Int->Sl->Sl->Int->AH->Prop):=
 qc prog B ro 74 #[.pointer a0,.agg #[.int .i64 a1_0,.string a1_1,.int .i64 a1_2,.int .i64 a1_3,.int .i64 a1_4,.int .i64 a1_5,.int .i64 a1_6,.int .i64 a1_7,Sl.v a1_8,.string a1_9,.bool a1_10,.int .i64 a1_11,Sl.v a1_12]] I fun v I=> ∃(r0_0:Int) (r0_1:Int) (r0_2:Sl) (r0_3:Int) (r0_4:Sl) (r0_5:Int) (r0_6:Int) (r0_7:Int) (r0_8:Int) (r0_9:Sl) (r0_10:Sl) (r0_11:Int),v= .agg #[.int .i64 r0_0,.int .i64 r0_1,Sl.v r0_2,.int .i64 r0_3,Sl.v r0_4,.int .i64 r0_5,.int .i64 r0_6,.int .i64 r0_7,.int .i64 r0_8,Sl.v r0_9,Sl.v r0_10,.int .i64 r0_11]/\Q r0_0 r0_1 r0_2 r0_3 r0_4 r0_5 r0_6 r0_7 r0_8 r0_9 r0_10 r0_11 I
def agJ(B:World)(ro:AH)(a0:Option Addr)(a1_0:Int)(a1_1:ByteArray)(a1_2 a1_3 a1_4 a1_5 a1_6 a1_7:Int)(a1_8:Sl)(a1_9:ByteArray)(a1_10:Bool)(a1_11:Int)(a1_12:Sl)(I:AH)(Q:Int->Int->Sl->Int->Sl->Int->Int->Int->Int->Sl->Sl->Int->AH->Prop):=
 qc prog B ro 75 #[.pointer a0,.agg #[.int .i64 a1_0,.string a1_1,.int .i64 a1_2,.int .i64 a1_3,.int .i64 a1_4,.int .i64 a1_5,.int .i64 a1_6,.int .i64 a1_7,Sl.v a1_8,.string a1_9,.bool a1_10,.int .i64 a1_11,Sl.v a1_12]] I fun v I=> ∃(r0_0:Int) (r0_1:Int) (r0_2:Sl) (r0_3:Int) (r0_4:Sl) (r0_5:Int) (r0_6:Int) (r0_7:Int) (r0_8:Int) (r0_9:Sl) (r0_10:Sl) (r0_11:Int),v= .agg #[.int .i64 r0_0,.int .i64 r0_1,Sl.v r0_2,.int .i64 r0_3,Sl.v r0_4,.int .i64 r0_5,.int .i64 r0_6,.int .i64 r0_7,.int .i64 r0_8,Sl.v r0_9,Sl.v r0_10,.int .i64 r0_11]/\Q r0_0 r0_1 r0_2 r0_3 r0_4 r0_5 r0_6 r0_7 r0_8 r0_9 r0_10 r0_11 I
def adt(B:World)(ro:AH)(a0:Sl)(I:AH)(Q:Option Addr->Int->AH->Prop):=
 qc prog B ro 77 #[Sl.v a0] I fun v I=> ∃(r0:Option Addr) (r1:Int),v= .tuple #[.pointer r0,.int .i64 r1]/\Q r0 r1 I
def aaL(B:World)(ro:AH)(a0:Option Addr)(I:AH)(Q:Sl->AH->Prop):=
 qc prog B ro 78 #[.pointer a0] I fun v I=> ∃(r0:Sl),v=Sl.v r0/\Q r0 I
def abU(B:World)(ro:AH)(a0:Option Addr)(a1:ByteArray)(I:AH)(Q:Option Addr->Int->AH->Prop):=
 qc prog B ro 79 #[.pointer a0,.string a1] I fun v I=> ∃(r0:Option Addr) (r1:Int),v= .tuple #[.pointer r0,.int .i64 r1]/\Q r0 r1 I
def xY(B:World)(ro:AH)(a0:Sl)(I:AH)(Q:Sl->AH->Prop):=
 qc prog B ro 80 #[Sl.v a0] I fun v I=> ∃(r0:Sl),v=Sl.v r0/\Q r0 I
def adP(B:World)(ro:AH)(a0:ByteArray)(I:AH)(Q:ByteArray->Int->AH->Prop):=
 qc prog B ro 81 #[.string a0] I fun v I=> ∃(r0:ByteArray) (r1:Int),v= .tuple #[.string r0,.int .i64 r1]/\Q r0 r1 I
def jJ(B:World)(ro:AH)(a0:ByteArray)(I:AH)(Q:Int->AH->Prop):=
 qc prog B ro 82 #[.string a0] I fun v I=> ∃(r0:Int),v= .int .i64 r0/\Q r0 I
def abp(B:World)(ro:AH)(a0:Option Addr)(I:AH)(Q:Sl->AH->Prop):=
 qc prog B ro 84 #[.pointer a0] I fun v I=> ∃(r0:Sl),v=Sl.v r0/\Q r0 I
def vO(B:World)(ro:AH)(a0:ByteArray)(I:AH)(Q:Sl->Bool->AH->Prop):=
 qc prog B ro 87 #[.string a0] I fun v I=> ∃(r0:Sl) (r1:Bool),v= .tuple #[Sl.v r0,.bool r1]/\Q r0 r1 I
theorem ahI{a0:ByteArray}{Q Q':Sl->Bool->AH->Prop}(h:vO B ro a0 I Q)(hq:∀ r0 r1 I,Sep ro I->Q r0 r1 I->Q' r0 r1 I):vO B ro a0 I Q':=
 qc.monoS h fun v I hs ⟨r0,r1,hv,q⟩=>⟨r0,r1,hv,hq _ _ I hs q⟩
theorem ahl{B:World}{ro ψ:AH}{a0:ByteArray}{Q:Sl->Bool->AH->Prop}(h:vO B ro a0 I Q)(hd:qI I ψ):vO B ro a0 (join I ψ) fun r0 r1 I=> ∃τ,I=join τ ψ/\qI τ ψ/\Q r0 r1 τ:=
 (qc.frame h hd).mono fun v I ⟨τ,h1,h2,r0,r1,hv,q⟩=>⟨r0,r1,hv,⟨τ,h1,h2,q⟩⟩
def aaa(B:World)(ro:AH)(a0:Option Addr)(a1:Sl)(I:AH)(Q:Sl->AH->Prop):=
 qc prog B ro 88 #[.pointer a0,Sl.v a1] I fun v I=> ∃(r0:Sl),v=Sl.v r0/\Q r0 I
def ac1(B:World)(ro:AH)(a0:Option Addr)(I:AH)(Q:Sl->AH->Prop):=
 qc prog B ro 95 #[.pointer a0] I fun v I=> ∃(r0:Sl),v=Sl.v r0/\Q r0 I
def yH(B:World)(ro:AH)(a0:ByteArray)(I:AH)(Q:Bool->AH->Prop):=
 qc prog B ro 99 #[.string a0] I fun v I=> ∃(r0:Bool),v= .bool r0/\Q r0 I
def aek(B:World)(ro:AH)(a0:Sl)(I:AH)(Q:Bool->AH->Prop):=
 qc prog B ro 102 #[Sl.v a0] I fun v I=> ∃(r0:Bool),v= .bool r0/\Q r0 I
def ua(B:World)(ro:AH)(a0:Option Addr)(I:AH)(Q:Sl->AH->Prop):=
 qc prog B ro 106 #[.pointer a0] I fun v I=> ∃(r0:Sl),v=Sl.v r0/\Q r0 I
def abq(B:World)(ro:AH)(a0:Option Addr)(I:AH)(Q:Sl->AH->Prop):=
 qc prog B ro 107 #[.pointer a0] I fun v I=> ∃(r0:Sl),v=Sl.v r0/\Q r0 I
def aab(B:World)(ro:AH)(a0:Sl)(I:AH)(Q:Option Addr->Int->AH->Prop):=
 qc prog B ro 108 #[Sl.v a0] I fun v I=> ∃(r0:Option Addr) (r1:Int),v= .tuple #[.pointer r0,.int .i64 r1]/\Q r0 r1 I
def ux(B:World)(ro:AH)(a0:Sl)(I:AH)(Q:Option Addr->Int->AH->Prop):=
 qc prog B ro 109 #[Sl.v a0] I fun v I=> ∃(r0:Option Addr) (r1:Int),v= .tuple #[.pointer r0,.int .i64 r1]/\Q r0 r1 I
def aaw(B:World)(ro:AH)(a0:Sl)(I:AH)(Q:Bool->AH->Prop):=
 qc prog B ro 110 #[Sl.v a0] I fun v I=> ∃(r0:Bool),v= .bool r0/\Q r0 I
def aax(B:World)(ro:AH)(a0:Sl)(I:AH)(Q:Bool->AH->Prop):=
 qc prog B ro 111 #[Sl.v a0] I fun v I=> ∃(r0:Bool),v= .bool r0/\Q r0 I
def uy(B:World)(ro:AH)(a0:Sl)(I:AH)(Q:Option Addr->Bool->AH->Prop):=
 qc prog B ro 112 #[Sl.v a0] I fun v I=> ∃(r0:Option Addr) (r1:Bool),v= .tuple #[.pointer r0,.bool r1]/\Q r0 r1 I
def un(B:World)(ro:AH)(a0:Option Addr)(a1:ByteArray)(I:AH)(Q:Int->AH->Prop):=
 qc prog B ro 113 #[.pointer a0,.string a1] I fun v I=> ∃(r0:Int),v= .int .i64 r0/\Q r0 I
def ys(B:World)(ro:AH)(a0:Option Addr)(a1:Int)(I:AH)(Q:AH->Prop):=
 qc prog B ro 114 #[.pointer a0,.int .i64 a1] I fun v I=>v= .tuple #[]/\Q I
def yl(B:World)(ro:AH)(a0:Option Addr)(a1:ByteArray)(I:AH)(Q:Int->Value->AH->Prop):=
 qc prog B ro 115 #[.pointer a0,.string a1] I fun v I=> ∃(r0:Int) (r1:Value),v= .tuple #[.int .i64 r0,r1]/\Q r0 r1 I
def yv(B:World)(ro:AH)(a0:Option Addr)(a1:Sl)(I:AH)(Q:Int->Value->AH->Prop):=
 qc prog B ro 116 #[.pointer a0,Sl.v a1] I fun v I=> ∃(r0:Int) (r1:Value),v= .tuple #[.int .i64 r0,r1]/\Q r0 r1 I
def ac2(B:World)(ro:AH)(a0:Option Addr)(I:AH)(Q:Sl->AH->Prop):=
 qc prog B ro 117 #[.pointer a0] I fun v I=> ∃(r0:Sl),v=Sl.v r0/\Q r0 I
def aiB(B:World)(ro:AH)(a0:Int)(I:AH)(Q:Bool->AH->Prop):=
 qc prog B ro 118 #[.int .i64 a0] I fun v I=> ∃(r0:Bool),v= .bool r0/\Q r0 I
def ael(B:World)(ro:AH)(a0:Sl)(a1:Int)(I:AH)(Q:Int->Int->Int->AH->Prop):=
 qc prog B ro 119 #[Sl.v a0,.int .i64 a1] I fun v I=> ∃(r0:Int) (r1:Int) (r2:Int),v= .tuple #[.int .i64 r0,.int .i64 r1,.int .i64 r2]/\Q r0 r1 r2 I
def adu(B:World)(ro:AH)(a0:Sl)(a1:Int)(I:AH)(Q:Int->Int->Int->AH->Prop):=
 qc prog B ro 120 #[Sl.v a0,.int .i64 a1] I fun v I=> ∃(r0:Int) (r1:Int) (r2:Int),v= .tuple #[.int .i64 r0,.int .i64 r1,.int .i64 r2]/\Q r0 r1 r2 I
def aac(B:World)(ro:AH)(a0:Option Addr)(a1:ByteArray)(a2 a3:Int)(I:AH)(Q:Int->Bool->Int->AH->Prop):=
 qc prog B ro 121 #[.pointer a0,.string a1,.int .i64 a2,.int .i64 a3] I fun v I=> ∃(r0:Int) (r1:Bool) (r2:Int),v= .tuple #[.int .i64 r0,.bool r1,.int .i64 r2]/\Q r0 r1 r2 I
def aaM(B:World)(ro:AH)(a0:Option Addr)(a1:ByteArray)(a2:Sl)(a3:Int)(a4:Bool)(I:AH)(Q:ByteArray->Int->AH->Prop):=
 qc prog B ro 122 #[.pointer a0,.string a1,Sl.v a2,.int .i64 a3,.bool a4] I fun v I=> ∃(r0:ByteArray) (r1:Int),v= .tuple #[.string r0,.int .i64 r1]/\Q r0 r1 I
def acx(B:World)(ro:AH)(a0:Option Addr)(a1 a2:ByteArray)(a3:Option Addr)(I:AH)(Q:Bool->AH->Prop):=
 qc prog B ro 133 #[.pointer a0,.string a1,.string a2,.pointer a3] I fun v I=> ∃(r0:Bool),v= .bool r0/\Q r0 I
def vc(B:World)(ro:AH)(a0:ByteArray)(I:AH)(Q:Sl->Int->AH->Prop):=
 qc prog B ro 134 #[.string a0] I fun v I=> ∃(r0:Sl) (r1:Int),v= .tuple #[Sl.v r0,.int .i64 r1]/\Q r0 r1 I
theorem aip{a0:ByteArray}{Q Q':Sl->Int->AH->Prop}(h:vc B ro a0 I Q)(hq:∀ r0 r1 I,Sep ro I->Q r0 r1 I->Q' r0 r1 I):vc B ro a0 I Q':=
 qc.monoS h fun v I hs ⟨r0,r1,hv,q⟩=>⟨r0,r1,hv,hq _ _ I hs q⟩
theorem ahJ{B:World}{ro ψ:AH}{a0:ByteArray}{Q:Sl->Int->AH->Prop}(h:vc B ro a0 I Q)(hd:qI I ψ):vc B ro a0 (join I ψ) fun r0 r1 I=> ∃τ,I=join τ ψ/\qI τ ψ/\Q r0 r1 τ:=
 (qc.frame h hd).mono fun v I ⟨τ,h1,h2,r0,r1,hv,q⟩=>⟨r0,r1,hv,⟨τ,h1,h2,q⟩⟩
def jB(B:World)(ro:AH)(a0:Value)(I:AH)(Q:Sl->AH->Prop):=
 qc prog B ro 136 #[a0] I fun v I=> ∃(r0:Sl),v=Sl.v r0/\Q r0 I
def ab9(B:World)(ro:AH)(a0:Option Nat)(I:AH)(Q:Value->AH->Prop):=
 qc prog B ro 137 #[.map a0] I fun v I=> ∃(r0:Value),v=r0/\Q r0 I
def aaN(B:World)(ro:AH)(a0 a1:ByteArray)(I:AH)(Q:Bool->AH->Prop):=
 qc prog B ro 138 #[.string a0,.string a1] I fun v I=> ∃(r0:Bool),v= .bool r0/\Q r0 I
def jP(B:World)(ro:AH)(a0:Option Addr)(I:AH)(Q:Sl->AH->Prop):=
 qc prog B ro 139 #[.pointer a0] I fun v I=> ∃(r0:Sl),v=Sl.v r0/\Q r0 I
def acP(B:World)(ro:AH)(a0:Sl)(a1:ByteArray)(I:AH)(Q:Bool->AH->Prop):=
 qc prog B ro 140 #[Sl.v a0,.string a1] I fun v I=> ∃(r0:Bool),v= .bool r0/\Q r0 I
def jd(B:World)(ro:AH)(a0:Option Addr)(I:AH)(Q:Sl->AH->Prop):=
 qc prog B ro 141 #[.pointer a0] I fun v I=> ∃(r0:Sl),v=Sl.v r0/\Q r0 I
def acy(B:World)(ro:AH)(a0:Option Addr)(I:AH)(Q:Sl->AH->Prop):=
 qc prog B ro 163 #[.pointer a0] I fun v I=> ∃(r0:Sl),v=Sl.v r0/\Q r0 I
def xy(B:World)(ro:AH)(a0 a1:Value)(I:AH)(Q:Sl->AH->Prop):=
 qc prog B ro 164 #[a0,a1] I fun v I=> ∃(r0:Sl),v=Sl.v r0/\Q r0 I
def aay(B:World)(ro:AH)(a0:Option Nat)(I:AH)(Q:Value->AH->Prop):=
 qc prog B ro 165 #[.map a0] I fun v I=> ∃(r0:Value),v=r0/\Q r0 I
def uz(B:World)(ro:AH)(a0_0:ByteArray)(a0_1:Int)(a1_0:ByteArray)(a1_1:Int)(I:AH)(Q:Int->AH->Prop):=
 qc prog B ro 166 #[.agg #[.string a0_0,.int .i64 a0_1],.agg #[.string a1_0,.int .i64 a1_1]] I fun v I=> ∃(r0:Int),v= .int .i64 r0/\Q r0 I
def aaO(B:World)(ro:AH)(a0:Option Addr)(a1:ByteArray)(I:AH)(Q:Option Addr->AH->Prop):=
 qc prog B ro 167 #[.pointer a0,.string a1] I fun v I=> ∃(r0:Option Addr),v= .pointer r0/\Q r0 I
def acz(B:World)(ro:AH)(a0:Option Addr)(a1_0:ByteArray)(a1_1:Int)(I:AH)(Q:Option Addr->AH->Prop):=
 qc prog B ro 168 #[.pointer a0,.agg #[.string a1_0,.int .i64 a1_1]] I fun v I=> ∃(r0:Option Addr),v= .pointer r0/\Q r0 I
def aaz(B:World)(ro:AH)(a0_0:ByteArray)(a0_1:Int)(a1_0:ByteArray)(a1_1:Int)(I:AH)(Q:Int->AH->Prop):=
 qc prog B ro 169 #[.agg #[.string a0_0,.int .i64 a0_1],.agg #[.string a1_0,.int .i64 a1_1]] I fun v I=> ∃(r0:Int),v= .int .i64 r0/\Q r0 I
def agh(B:World)(ro:AH)(a0:Int)(I:AH)(Q:Bool->AH->Prop):=
 qc prog B ro 170 #[.int .i64 a0] I fun v I=> ∃(r0:Bool),v= .bool r0/\Q r0 I
def aaA(B:World)(ro:AH)(a0:ByteArray)(a1 a2:Int)(a3:ByteArray)(I:AH)(Q:Int->AH->Prop):=
 qc prog B ro 171 #[.string a0,.int .i64 a1,.int .i64 a2,.string a3] I fun v I=> ∃(r0:Int),v= .int .i64 r0/\Q r0 I
def uA(B:World)(ro:AH)(a0:ByteArray)(I:AH)(Q:ByteArray->Bool->AH->Prop):=
 qc prog B ro 172 #[.string a0] I fun v I=> ∃(r0:ByteArray) (r1:Bool),v= .tuple #[.string r0,.bool r1]/\Q r0 r1 I
def abr(B:World)(ro:AH)(a0:Option Addr)(a1:ByteArray)(I:AH)(Q:Int->AH->Prop):=
 qc prog B ro 173 #[.pointer a0,.string a1] I fun v I=> ∃(r0:Int),v= .int .i64 r0/\Q r0 I
def ac3(B:World)(ro:AH)(a0:Int)(I:AH)(Q:Bool->AH->Prop):=
 qc prog B ro 174 #[.int .i64 a0] I fun v I=> ∃(r0:Bool),v= .bool r0/\Q r0 I
def agK(B:World)(ro:AH)(a0:Sl)(a1:Int)(I:AH)(Q:Sl->AH->Prop):=
 qc prog B ro 175 #[Sl.v a0,.int .i64 a1] I fun v I=> ∃(r0:Sl),v=Sl.v r0/\Q r0 I
def wP(B:World)(ro:AH)(a0:Option Addr)(a1:Int)(I:AH)(Q:Int->Bool->AH->Prop):=
 qc prog B ro 176 #[.pointer a0,.int .i64 a1] I fun v I=> ∃(r0:Int) (r1:Bool),v= .tuple #[.int .i64 r0,.bool r1]/\Q r0 r1 I
def pi(B:World)(ro:AH)(a0:Option Addr)(a1:Int)(I:AH)(Q:Int->AH->Prop):=
 qc prog B ro 177 #[.pointer a0,.int .i64 a1] I fun v I=> ∃(r0:Int),v= .int .i64 r0/\Q r0 I
def acA(B:World)(ro:AH)(a0:Int)(I:AH)(Q:Bool->AH->Prop):=
 qc prog B ro 178 #[.int .i64 a0] I fun v I=> ∃(r0:Bool),v= .bool r0/\Q r0 I
def acm(B:World)(ro:AH)(a0:ByteArray)(I:AH)(Q:ByteArray->Int->AH->Prop):=
 qc prog B ro 179 #[.string a0] I fun v I=> ∃(r0:ByteArray) (r1:Int),v= .tuple #[.string r0,.int .i64 r1]/\Q r0 r1 I
def aem(B:World)(ro:AH)(a0:ByteArray)(a1:Int)(I:AH)(Q:ByteArray->Int->AH->Prop):=
 qc prog B ro 180 #[.string a0,.int .i64 a1] I fun v I=> ∃(r0:ByteArray) (r1:Int),v= .tuple #[.string r0,.int .i64 r1]/\Q r0 r1 I
def afO(B:World)(ro:AH)(a0 a1:ByteArray)(I:AH)(Q:Sl->AH->Prop):=
 qc prog B ro 193 #[.string a0,.string a1] I fun v I=> ∃(r0:Sl),v=Sl.v r0/\Q r0 I
def abS(B:World)(ro:AH)(a0 a1:ByteArray)(I:AH)(Q:Bool->AH->Prop):=
 qc prog B ro 197 #[.string a0,.string a1] I fun v I=> ∃(r0:Bool),v= .bool r0/\Q r0 I
def aa5(B:World)(ro:AH)(a0:Option Nat)(I:AH)(Q:Value->AH->Prop):=
 qc prog B ro 198 #[.map a0] I fun v I=> ∃(r0:Value),v=r0/\Q r0 I
def ado(B:World)(ro:AH)(a0:Value)(I:AH)(Q:Sl->AH->Prop):=
 qc prog B ro 200 #[a0] I fun v I=> ∃(r0:Sl),v=Sl.v r0/\Q r0 I
def uN(B:World)(ro:AH)(a0:Option Nat)(I:AH)(Q:Value->AH->Prop):=
 qc prog B ro 201 #[.map a0] I fun v I=> ∃(r0:Value),v=r0/\Q r0 I
def xn(B:World)(ro:AH)(a0 a1:Value)(I:AH)(Q:Sl->AH->Prop):=
 qc prog B ro 213 #[a0,a1] I fun v I=> ∃(r0:Sl),v=Sl.v r0/\Q r0 I
def aca(B:World)(ro:AH)(a0:Option Nat)(I:AH)(Q:Value->AH->Prop):=
 qc prog B ro 214 #[.map a0] I fun v I=> ∃(r0:Value),v=r0/\Q r0 I
def uO(B:World)(ro:AH)(a0:Value)(I:AH)(Q:Sl->AH->Prop):=
 qc prog B ro 215 #[a0] I fun v I=> ∃(r0:Sl),v=Sl.v r0/\Q r0 I
def uB(B:World)(ro:AH)(a0:Sl)(a1:Value)(I:AH)(Q:AH->Prop):=
 qc prog B ro 216 #[Sl.v a0,a1] I fun v I=>v= .tuple #[]/\Q I
def ac4(B:World)(ro:AH)(a0:Sl)(I:AH)(Q:Int->AH->Prop):=
 qc prog B ro 218 #[Sl.v a0] I fun v I=> ∃(r0:Int),v= .int .i64 r0/\Q r0 I
def yw(B:World)(ro:AH)(a0 a1:ByteArray)(I:AH)(Q:Int->AH->Prop):=
 qc prog B ro 219 #[.string a0,.string a1] I fun v I=> ∃(r0:Int),v= .int .i64 r0/\Q r0 I
def uo(B:World)(ro:AH)(a0 a1:Int)(I:AH)(Q:Int->AH->Prop):=
 qc prog B ro 220 #[.int .i64 a0,.int .i64 a1] I fun v I=> ∃(r0:Int),v= .int .i64 r0/\Q r0 I
def aaB(B:World)(ro:AH)(a0_0:ByteArray)(a0_1:Int)(a1_0:ByteArray)(a1_1:Int)(I:AH)(Q:Int->AH->Prop):=
 qc prog B ro 221 #[.agg #[.string a0_0,.int .i64 a0_1],.agg #[.string a1_0,.int .i64 a1_1]] I fun v I=> ∃(r0:Int),v= .int .i64 r0/\Q r0 I
def abV(B:World)(ro:AH)(a0:Option Addr)(a1:Int)(a2:ByteArray)(I:AH)(Q:AH->Prop):=
 qc prog B ro 222 #[.pointer a0,.int .i64 a1,.string a2] I fun v I=>v= .tuple #[]/\Q I
def afa(B:World)(ro:AH)(a0:Sl)(I:AH)(Q:ByteArray->AH->Prop):=
 qc prog B ro 223 #[Sl.v a0] I fun v I=> ∃(r0:ByteArray),v= .string r0/\Q r0 I
def ad5(B:World)(ro:AH)(a0:Option Addr)(I:AH)(Q:Int->AH->Prop):=
 qc prog B ro 224 #[.pointer a0] I fun v I=> ∃(r0:Int),v= .int .i64 r0/\Q r0 I
def agL(B:World)(ro:AH)(a0:Option Addr)(I:AH)(Q:AH->Prop):=
 qc prog B ro 225 #[.pointer a0] I fun v I=>v= .tuple #[]/\Q I
def aeF(B:World)(ro:AH)(a0:Sl)(a1:Int)(I:AH)(Q:Sl->AH->Prop):=
 qc prog B ro 226 #[Sl.v a0,.int .i64 a1] I fun v I=> ∃(r0:Sl),v=Sl.v r0/\Q r0 I
def pC(B:World)(ro:AH)(a0:ByteArray)(a1:Int)(I:AH)(Q:Int->AH->Prop):=
 qc prog B ro 227 #[.string a0,.int .u8 a1] I fun v I=> ∃(r0:Int),v= .int .i64 r0/\Q r0 I
def agi(B:World)(ro:AH)(a0:Int)(I:AH)(Q:ByteArray->AH->Prop):=
 qc prog B ro 228 #[.int .i64 a0] I fun v I=> ∃(r0:ByteArray),v= .string r0/\Q r0 I
def afb(B:World)(ro:AH)(a0:ByteArray)(a1:Int)(I:AH)(Q:ByteArray->AH->Prop):=
 qc prog B ro 229 #[.string a0,.int .i64 a1] I fun v I=> ∃(r0:ByteArray),v= .string r0/\Q r0 I
def uC(B:World)(ro:AH)(a0:Value)(I:AH)(Q:Sl->AH->Prop):=
 qc prog B ro 256 #[a0] I fun v I=> ∃(r0:Sl),v=Sl.v r0/\Q r0 I
def ui(B:World)(ro:AH)(a0:Sl)(a1:Value)(I:AH)(Q:AH->Prop):=
 qc prog B ro 257 #[Sl.v a0,a1] I fun v I=>v= .tuple #[]/\Q I
def jb(B:World)(ro:AH)(a0:Sl)(a1:Value)(I:AH)(Q:Sl->AH->Prop):=
 qc prog B ro 259 #[Sl.v a0,a1] I fun v I=> ∃(r0:Sl),v=Sl.v r0/\Q r0 I
def pL(B:World)(ro:AH)(a0:ByteArray)(I:AH)(Q:Bool->AH->Prop):=
 qc prog B ro 261 #[.string a0] I fun v I=> ∃(r0:Bool),v= .bool r0/\Q r0 I
def aa6(B:World)(ro:AH)(a0:Int)(I:AH)(Q:Bool->AH->Prop):=
 qc prog B ro 262 #[.int .i64 a0] I fun v I=> ∃(r0:Bool),v= .bool r0/\Q r0 I
def uj(B:World)(ro:AH)(a0:ByteArray)(a1:Int)(I:AH)(Q:Int->AH->Prop):=
 qc prog B ro 264 #[.string a0,.int .u8 a1] I fun v I=> ∃(r0:Int),v= .int .i64 r0/\Q r0 I
def xz(B:World)(ro:AH)(a0:Sl)(a1:Value)(I:AH)(Q:Sl->AH->Prop):=
 qc prog B ro 306 #[Sl.v a0,a1] I fun v I=> ∃(r0:Sl),v=Sl.v r0/\Q r0 I
def ub(B:World)(ro:AH)(a0:Sl)(I:AH)(Q:Sl->AH->Prop):=
 if a0.a=none then
 Q (⟨none,0,0⟩:Sl) I
 else
 nw ro I (.cells #[] 3) fun u0 I=>
 awp prog ro (Builtin.append_ #[55,55] 55 #[Sl.v (⟨some ⟨u0,0,none⟩,0,0⟩:Sl),Sl.v a0]) (fun v I=> ∃(u1:Sl),v=Sl.v u1/\
 Q u1 I) I
theorem afD{a0 Q}(h:Sep ro I->ub B ro a0 I Q):jA B ro a0 I Q:=by
 refine zb h func65 ntmps65 fun h=>?_;unfold ub at h;refine zw ?_;refine AW.seq ?_;refine zw ?_;refine zm (anP rfl mx rfl rfl) ?_;refine zw ?_;refine AW.iff rfl vP h (fun h=>?_) (fun h=>?_)
 .exact zr h
 refine zw ?_;refine zAp (wS (vs:=[]) (cs:= #[]) rfl mx ty3 z8 rfl rfl) h fun u0 h=>?_;refine zl (yt (s:=Builtin.append_ #[55,55] 55 #[Sl.v (⟨some ⟨u0,0,none⟩,0,0⟩:Sl),Sl.v a0]) rfl rfl (fun _=>rfl) (qj _ h ?_))
 rintro v I ⟨u1,rfl,h⟩;exact zr h
def aen(B:World)(ro:AH)(a0:Sl)(I:AH)(Q:Sl->AH->Prop):=
 if a0.a=none then
 Q (⟨none,0,0⟩:Sl) I
 else
 nw ro I (.cells #[] 5) fun u0 I=>
 awp prog ro (Builtin.append_ #[24,24] 24 #[Sl.v (⟨some ⟨u0,0,none⟩,0,0⟩:Sl),Sl.v a0]) (fun v I=> ∃(u1:Sl),v=Sl.v u1/\
 Q u1 I) I
theorem akf{a0 Q}(h:Sep ro I->aen B ro a0 I Q):xY B ro a0 I Q:=by
 refine zb h func80 ntmps80 fun h=>?_;unfold aen at h;refine zw ?_;refine AW.seq ?_;refine zw ?_;refine zm (anP rfl mo rfl rfl) ?_;refine zw ?_;refine AW.iff rfl vP h (fun h=>?_) (fun h=>?_)
 .exact zr h
 refine zw ?_;refine zAp (wS (vs:=[]) (cs:= #[]) rfl mo ty5 z8 rfl rfl) h fun u0 h=>?_;refine zl (yt (s:=Builtin.append_ #[24,24] 24 #[Sl.v (⟨some ⟨u0,0,none⟩,0,0⟩:Sl),Sl.v a0]) rfl rfl (fun _=>rfl) (qj _ h ?_))
 rintro v I ⟨u1,rfl,h⟩;exact zr h
def aaP(B:World)(ro:AH)(a0 a1:ByteArray)(I:AH)(Q:Bool->AH->Prop):=
 abS B ro a0 a1 I fun u0 I=>
 Q u0 I
theorem agM{a0 a1 Q}(h:Sep ro I->aaP B ro a0 a1 I Q):aaN B ro a0 a1 I Q:=by
 refine zb h func138 ntmps138 fun h=>?_;unfold aaP at h;refine zc func197 h ?_;rintro v I ⟨u0,rfl,h⟩;exact zr h
def vF(B:World)(ro:AH)(Q:Bool->AH->Prop)(u0:Bool)(I:AH):=
 Q u0 I
def pD(B:World)(ro:AH)(a0 a1:ByteArray)(I:AH)(Q:Bool->AH->Prop):=
 if(a1.size:Int)<=(a0.size:Int)then
 cutOk none (some (a1.size:Int)) a0.size a0.size/\
 vF B ro Q (decide ((a0.extract (0) (Int.toNat (a1.size:Int)))=a1)) I
 else
 vF B ro Q false I
theorem afc{a0 a1 Q}(h:Sep ro I->pD B ro a0 a1 I Q):abS B ro a0 a1 I Q:=by
 refine zb h func197 ntmps197 fun h=>?_;unfold pD at h;refine zw ?_;refine zm (jG rfl rfl mu rfl rfl) ?_;refine zw ?_;refine zm (jG rfl rfl mu rfl rfl) ?_;refine zw ?_;refine qn 7 (decide ((a1.size:Int)<=(a0.size:Int))) mg h (fun fr I=> ∃(u0:Bool),qg [(17,.bool u0)] fr/\vF B ro Q u0 I) ?_ ?_ ?_
 .intro h e5 hk5;refine zv e5 ?_;refine qo (jG rfl rfl mu rfl rfl) rfl rfl rfl rfl e5 ?_
  obtain⟨hc,h⟩:=h
  refine qo (ajl (lo:=none) (hi:=(some (a1.size:Int))) rfl mu rfl vD (wK rfl) hc) rfl rfl rfl rfl e5 ?_
  refine zv e5 ?_;exact hk5 _ _ ⟨_,FL,h⟩
 .intro h e5 hk5;refine zv e5 ?_;exact hk5 _ _ ⟨_,FL,h⟩
 rintro fr I ⟨u0,hl,h⟩;unfold vF at h;refine Lfr hl ?_
 exact zr h
def acn(B:World)(ro:AH)(Q:Int->AH->Prop)(I:AH):=
 Q 0 I
def ym(B:World)(ro:AH)(a0:Sl)(Q:Int->AH->Prop):Int->AH->(Int->AH->Prop)->Prop:=fun u0 I Y2=>
 if u0<(a0.len:Int)then
 ∃p1,a0.a=some p1/\(0:Int)<=u0/\u0<(a0.len:Int)/\
 ∃u2,qb ro I (p1.add (Int.toNat u0*1))=some (.int .i64 u2)/\
 if¬(u2=0)then
  Q u2 I
 else
 Y2 (i64.wrap (u0+1)) I
 else
 acn B ro Q I
def afd(B:World)(ro:AH)(a0:Sl)(I:AH)(Q:Int->AH->Prop):=
 lfpD (ym B ro a0 Q) (0) I
theorem alf{a0 Q}(h:Sep ro I->afd B ro a0 I Q):ac4 B ro a0 I Q:=by
 refine zb h func218 ntmps218 fun h=>?_;unfold afd at h;refine zw ?_;refine AW.seqJ (fun fr I=>qg [(3,.int .i64 0)] fr/\acn B ro Q I) ?_ ?_
 .rintro fr I ⟨hl,h⟩;refine AW.weaken ?_ hl (HLe.refl _)
  unfold acn at h;exact zr h
 refine zw ?_;refine zm (qD rfl rfl mx rfl rfl) ?_;refine zw ?_;refine qf.loop (fr':=[(3,.int .i64 0),(6,Sl.v a0),(7,.int .i64 (a0.len:Int)),(8,.int .i64 0)]) ?_ FL
 refine h (fun u0 I=>qf _ _ _ _ _ _ [(3,.int .i64 0),(6,Sl.v a0),(7,.int .i64 (a0.len:Int)),(8,.int .i64 u0)] I) ?_
 rintro u0 I Y2 hY2 h
 show AW _ _ _ _ _ _ _ _
 unfold ym at h;refine zw ?_;refine AW.seq ?_;refine zi h (fun h=>?_) fun h=>?_
 rotate_left
 .refine AW.exit ?_;refine zw ?_;refine qN ?_
  refine zw ?_;exact⟨FL,h⟩
 refine zw ?_;refine AW.seq ?_;refine zw ?_;obtain⟨p1,ha,h0,h1,h⟩:=h
 refine zm (wR rfl mx ty3 (ixL rfl ha) rfl h0 h1) ?_;refine zLp mj h fun u2 h=>?_;refine AW.iff rfl (qp mg) h (fun h=>?_) (fun h=>?_)
 .exact zr h
 refine zw ?_;refine qf.head (fr':=[(3,.int .i64 0),(6,Sl.v a0),(7,.int .i64 (a0.len:Int)),(8,.int .i64 (i64.wrap (u0+1)))]) ?_ FL
 exact hY2 _ _ h
def aad(B:World)(ro:AH)(a0 a1:ByteArray)(I:AH)(Q:Int->AH->Prop):=
 pL B ro a0 I fun u0 I=>
 pL B ro a1 I fun u1 I=>
 if u0=true then
 if u1=true then
  Q 0 I
 else
 Q (-1) I
 else
 if u1=true then
 Q 1 I
 else
 if(zD a0 a1)=true then
 Q (-1) I
 else
 if¬(((zD a0 a1)=true)\/(a0=a1))then
 Q 1 I
 else
 Q 0 I
theorem agj{a0 a1 Q}(h:Sep ro I->aad B ro a0 a1 I Q):yw B ro a0 a1 I Q:=by
 refine zb h func219 ntmps219 fun h=>?_;unfold aad at h;refine zc func261 h ?_;rintro v I ⟨u0,rfl,h⟩;refine zC func261 h fun u1 I h=>?_;refine AW.seq ?_;refine zj h (fun h=>?_) fun h=>?_
 .refine AW.seq ?_;refine zj h (fun h=>?_) fun h=>?_
  .exact zr h
  exact zr h
 refine zw ?_;refine AW.seq ?_;refine zj h (fun h=>?_) fun h=>?_
 .exact zr h
 refine zw ?_;refine AW.seq ?_;refine zw ?_;refine zm (alP rfl rfl rfl) ?_;refine zj h (fun h=>?_) fun h=>?_
 .exact zr h
 refine zw ?_;refine AW.seq ?_;refine zw ?_;refine zm (ar8 rfl rfl rfl) ?_;refine zw ?_;refine AW.iff rfl (qp (qJ Iff.rfl mg)) h (fun h=>?_) (fun h=>?_)
 .exact zr h
 exact zr h
def abW(B:World)(ro:AH)(a0 a1:Int)(I:AH)(Q:Int->AH->Prop):=
 aa6 B ro a0 I fun u0 I=>
 aa6 B ro a1 I fun u1 I=>
 if u0=true then
 if u1=true then
  Q 0 I
 else
 Q (-1) I
 else
 if u1=true then
 Q 1 I
 else
 if a0<a1 then
 Q (-1) I
 else
 if a1<a0 then
 Q 1 I
 else
 Q 0 I
theorem ahK{a0 a1 Q}(h:Sep ro I->abW B ro a0 a1 I Q):uo B ro a0 a1 I Q:=by
 refine zb h func220 ntmps220 fun h=>?_;unfold abW at h;refine zc func262 h ?_;rintro v I ⟨u0,rfl,h⟩;refine zC func262 h fun u1 I h=>?_;refine AW.seq ?_;refine zj h (fun h=>?_) fun h=>?_
 .refine AW.seq ?_;refine zj h (fun h=>?_) fun h=>?_
  .exact zr h
  exact zr h
 refine zw ?_;refine AW.seq ?_;refine zj h (fun h=>?_) fun h=>?_
 .exact zr h
 refine zw ?_;refine AW.seq ?_;refine zi h (fun h=>?_) fun h=>?_
 .exact zr h
 refine zw ?_;refine AW.seq ?_;refine zi h (fun h=>?_) fun h=>?_
 .exact zr h
 exact zr h
def pE(B:World)(ro:AH)(a0:ByteArray)(a1:Int)(I:AH)(Q:Int->AH->Prop):=
 uj B ro a0 a1 I fun u0 I=>
 Q u0 I
theorem afe{a0 a1 Q}(h:Sep ro I->pE B ro a0 a1 I Q):pC B ro a0 a1 I Q:=by
 refine zb h func227 ntmps227 fun h=>?_;unfold pE at h;refine zc func264 h ?_;rintro v I ⟨u0,rfl,h⟩;exact zr h
def abs(B:World)(ro:AH)(a0:ByteArray)(I:AH)(Q:Bool->AH->Prop):=
 Q (!(decide (a0=a0))) I
theorem ahm{a0 Q}(h:Sep ro I->abs B ro a0 I Q):pL B ro a0 I Q:=by
 refine zb h func261 ntmps261 fun h=>?_;unfold abs at h;refine zw ?_;refine zm (ajg rfl rfl rfl) ?_;exact zr h
def ac5(B:World)(ro:AH)(a0:Int)(I:AH)(Q:Bool->AH->Prop):=
 Q (!(decide (a0=a0))) I
theorem aiS{a0 Q}(h:Sep ro I->ac5 B ro a0 I Q):aa6 B ro a0 I Q:=by
 refine zb h func262 ntmps262 fun h=>?_;unfold ac5 at h;exact zr h
def xA(B:World)(ro:AH)(Q:Int->AH->Prop)(I:AH):=
 Q (-1) I
def ze(B:World)(ro:AH)(a0:ByteArray)(a1:Int)(Q:Int->AH->Prop):Int->AH->(Int->AH->Prop)->Prop:=fun u0 I Y2=>
 if 0<=u0 then
 ∃u1:UInt8,(0:Int)<=u0/\a0[Int.toNat u0]?=some u1/\
 if(u1.toNat:Int)=a1 then
  Q u0 I
 else
 Y2 (i64.wrap (u0 - 1)) I
 else
 xA B ro Q I
def jc(B:World)(ro:AH)(a0:ByteArray)(a1:Int)(I:AH)(Q:Int->AH->Prop):=
 lfpD (ze B ro a0 a1 Q) (i64.wrap ((a0.size:Int) - 1)) I
theorem ac6{a0 a1 Q}(h:Sep ro I->jc B ro a0 a1 I Q):uj B ro a0 a1 I Q:=by
 refine zb h func264 ntmps264 fun h=>?_;unfold jc at h;refine zw ?_;refine AW.seqJ (fun fr I=>qg [] fr/\xA B ro Q I) ?_ ?_
 .rintro fr I ⟨hl,h⟩;refine AW.weaken ?_ hl (HLe.refl _)
  unfold xA at h;exact zr h
 refine zw ?_;refine zm (jG rfl rfl mu rfl rfl) ?_;refine zw ?_;refine qf.loop (fr':=[(0,.string a0),(1,.int .u8 a1),(5,.int .i64 (i64.wrap ((a0.size:Int) - 1)))]) ?_ FL
 refine h (fun u0 I=>qf _ _ _ _ _ _ [(0,.string a0),(1,.int .u8 a1),(5,.int .i64 u0)] I) ?_
 rintro u0 I Y2 hY2 h
 show AW _ _ _ _ _ _ _ _
 unfold ze at h;refine AW.seq ?_;refine zi h (fun h=>?_) fun h=>?_
 rotate_left
 .refine AW.exit ?_;refine zw ?_;refine qN ?_
  refine zw ?_;exact⟨FL,h⟩
 refine zw ?_;refine AW.seq ?_;refine zw ?_;obtain⟨u1,h0,hc,h⟩:=h
 refine zm (aji rfl mu rfl rfl h0 hc) ?_;refine zi h (fun h=>?_) fun h=>?_
 .exact zr h
 refine zw ?_;refine qf.head (fr':=[(0,.string a0),(1,.int .u8 a1),(5,.int .i64 (i64.wrap (u0 - 1)))]) ?_ FL
 exact hY2 _ _ h
def adQ(B:World)(ro:AH)(a0:ByteArray)(I:AH)(Q:ByteArray->Int->AH->Prop):=
 vc B ro a0 I fun u0 u1 I=>
 if(u0.len:Int)=0 then
 Q (⟨#[]⟩:ByteArray) u1 I
 else
 ∃p2,u0.a=some p2/\(0:Int)<=0/\0<(u0.len:Int)/\
 ∃u3,qb ro I (p2.add (Int.toNat 0*1))=some (.string u3)/\
 Q u3 0 I
theorem ahL{a0 Q}(h:Sep ro I->adQ B ro a0 I Q):adP B ro a0 I Q:=by
 refine zb h func81 ntmps81 fun h=>?_;unfold adQ at h;refine zc func134 h ?_;rintro v I ⟨u0,u1,rfl,h⟩;refine zw ?_;refine AW.seq ?_;refine zw ?_;refine zm (qD rfl rfl mP rfl rfl) ?_;refine zi h (fun h=>?_) fun h=>?_
 .exact zrr h
 refine zw ?_;obtain⟨p2,ha,h0,h1,h⟩:=h
 refine zm (wR rfl mP ty9 (ixL rfl ha) rfl h0 h1) ?_;refine zL mu h fun u3 h=>?_;exact zrr h
def aff(B:World)(ro:AH)(a0:ByteArray)(I:AH)(Q:Int->AH->Prop):=
 vc B ro a0 I fun u0 u1 I=>
 Q u1 I
theorem alg{a0 Q}(h:Sep ro I->aff B ro a0 I Q):jJ B ro a0 I Q:=by
 refine zb h func82 ntmps82 fun h=>?_;unfold aff at h;refine zc func134 h ?_;rintro v I ⟨u0,u1,rfl,h⟩;exact zr h
def afg(B:World)(ro:AH)(Q:Bool->AH->Prop)(I:AH):=
 Q true I
def kz(B:World)(ro:AH)(p0:Addr)(Q:Bool->AH->Prop)(Y3:(Unit)->AH->Prop)(u1:Bool)(I:AH):=
 if u1=true then
 Y3 () I
 else
 Q false I
def yW(B:World)(ro:AH)(p0:Addr)(Q:Bool->AH->Prop):(Unit)->AH->((Unit)->AH->Prop)->Prop:=fun _ I Y3=>
 awp prog ro (Instr.next (.pointer (some p0)) true 0) (fun v I=>
 (v= .tuple #[.bool false]/\
  afg B ro Q I)\/
 (∃(u1:Int) (u2:Int),v= .tuple #[.bool true,.int .i64 u1,.int .i32 u2]/\
  if(97<=u2)/\(u2<=122)then
  kz B ro p0 Q Y3 ((decide (97<=u2)) && (decide (u2<=122))) I
  else
  if(48<=u2)/\(u2<=57)then
  kz B ro p0 Q Y3 ((decide (48<=u2)) && (decide (u2<=57))) I
  else
  if u2=46 then
  kz B ro p0 Q Y3 (decide (u2=46)) I
  else
  if u2=95 then
  kz B ro p0 Q Y3 (decide (u2=95)) I
  else
  kz B ro p0 Q Y3 (decide (u2=45)) I)) I
def af7(B:World)(ro:AH)(a0:ByteArray)(I:AH)(Q:Bool->AH->Prop):=
 if(((a0=(⟨#[]⟩:ByteArray))\/(32<(a0.size:Int)))\/(a0=(⟨#[46]⟩:ByteArray)))\/(a0=(⟨#[46,46]⟩:ByteArray))then
 Q false I
 else
 awp prog ro (Instr.range 9 (.string a0)) (fun v I=>
 (∃(p0:Addr),v= .pointer (some p0)/\
  lfpD (yW B ro p0 Q) () I)) I
theorem alS{a0 Q}(h:Sep ro I->af7 B ro a0 I Q):yH B ro a0 I Q:=by
 refine zb h func99 ntmps99 fun h=>?_;unfold af7 at h;refine zw ?_;refine AW.seq ?_;refine zw ?_;refine qx 4 (decide (a0=(⟨#[]⟩:ByteArray))) [(0,.string a0),(11,.bool ((decide (a0=(⟨#[]⟩:ByteArray))) || (decide (32<(a0.size:Int)))))] ?_ ?_ ?_
 .intro e2 hk2
  refine zv e2 ?_;exact hk2 _ (Fe e2)
 .intro e2 hk2
  refine zy e2 ?_;refine qo (jG rfl rfl mu rfl rfl) rfl rfl rfl rfl e2 ?_
  refine zv e2 ?_;exact hk2 _ (Fe e2)
 intro fr hl
 refine Lfr hl ?_
 refine zw ?_;refine qx 3 ((decide (a0=(⟨#[]⟩:ByteArray))) || (decide (32<(a0.size:Int)))) [(0,.string a0),(15,.bool (((decide (a0=(⟨#[]⟩:ByteArray))) || (decide (32<(a0.size:Int)))) || (decide (a0=(⟨#[46]⟩:ByteArray)))))] ?_ ?_ ?_
 .intro e7 hk7
  refine zv e7 ?_;exact hk7 _ (Fe e7)
 .intro e7 hk7
  refine zv e7 ?_;exact hk7 _ (Fe e7)
 intro fr hl
 refine Lfr hl ?_
 refine zw ?_;refine qx 3 (((decide (a0=(⟨#[]⟩:ByteArray))) || (decide (32<(a0.size:Int)))) || (decide (a0=(⟨#[46]⟩:ByteArray)))) [(0,.string a0),(19,.bool ((((decide (a0=(⟨#[]⟩:ByteArray))) || (decide (32<(a0.size:Int)))) || (decide (a0=(⟨#[46]⟩:ByteArray)))) || (decide (a0=(⟨#[46,46]⟩:ByteArray)))))] ?_ ?_ ?_
 .intro e11 hk11
  refine zv e11 ?_;exact hk11 _ (Fe e11)
 .intro e11 hk11
  refine zv e11 ?_;exact hk11 _ (Fe e11)
 intro fr hl
 refine Lfr hl ?_
 refine zw ?_;refine AW.iff rfl (qJ (qJ (qJ mg mg) mg) mg) h (fun h=>?_) (fun h=>?_)
 .exact zr h
 refine zw ?_;refine AW.seqJ (fun fr I=>qg [] fr/\afg B ro Q I) ?_ ?_
 .rintro fr I ⟨hl,h⟩;refine AW.weaken ?_ hl (HLe.refl _)
  unfold afg at h;exact zr h
 refine zw ?_;refine zl (anQ rfl rfl (qj _ h ?_))
 rintro v I ⟨p0,rfl,h⟩;refine zw ?_;refine qf.loop (fr':=[(21,.pointer (some p0))]) ?_ FL
 refine h (fun _ I=>qf _ _ _ _ _ _ [(21,.pointer (some p0))] I) ?_
 rintro _ I Y3 hY3 h
 show AW _ _ _ _ _ _ _ _
 unfold yW at h;refine zw ?_;refine zl (anR rfl rfl rfl (qj _ h ?_))
 rintro v I (⟨rfl,h⟩ | ⟨u1,u2,rfl,h⟩)
 .refine zw ?_;refine AW.seq ?_;refine AW.no rfl ?_;refine AW.exit ?_;refine zw ?_;refine qN ?_
  refine zw ?_;exact⟨FL,h⟩
 .refine zw ?_;refine AW.seq ?_;refine AW.yes rfl ?_;refine zw ?_;refine AW.seqJ (fun fr I=> ∃(u3:Bool),qg [(21,.pointer (some p0)),(25,.bool u3)] fr/\kz B ro p0 Q Y3 u3 I) ?_ ?_
  .rintro fr I ⟨u3,hl,h⟩;refine AW.weaken ?_ hl (HLe.refl _)
   unfold kz at h;refine zj h (fun h=>?_) fun h=>?_
   .refine zw ?_;refine qf.head (fr':=[(21,.pointer (some p0))]) ?_ FL
    exact hY3 _ _ h
   exact zr h
  refine zw ?_;refine qx 3 (decide (97<=u2)) [(4,.int .i32 u2),(21,.pointer (some p0)),(31,.bool ((decide (97<=u2)) && (decide (u2<=122))))] ?_ ?_ ?_
  .intro e2 hk2
   refine zv e2 ?_;exact hk2 _ (Fe e2)
  .intro e2 hk2
   refine zv e2 ?_;exact hk2 _ (Fe e2)
  intro fr hl
  refine Lfr hl ?_
  refine zw ?_;refine AW.iff rfl (xv mg mg) h (fun h=>?_) (fun h=>?_)
  .refine zw ?_;exact⟨_,FL,h⟩
  refine zw ?_;refine qx 3 (decide (48<=u2)) [(4,.int .i32 u2),(21,.pointer (some p0)),(37,.bool ((decide (48<=u2)) && (decide (u2<=57))))] ?_ ?_ ?_
  .intro e2 hk2
   refine zv e2 ?_;exact hk2 _ (Fe e2)
  .intro e2 hk2
   refine zv e2 ?_;exact hk2 _ (Fe e2)
  intro fr hl
  refine Lfr hl ?_
  refine zw ?_;refine AW.iff rfl (xv mg mg) h (fun h=>?_) (fun h=>?_)
  .refine zw ?_;exact⟨_,FL,h⟩
  refine zi h (fun h=>?_) fun h=>?_
  .refine zw ?_;exact⟨_,FL,h⟩
  refine zi h (fun h=>?_) fun h=>?_
  .refine zw ?_;exact⟨_,FL,h⟩
  refine zw ?_;exact⟨_,FL,h⟩
def aco(B:World)(ro:AH)(u0:Sl)(Q:Sl->Int->AH->Prop)(I:AH):=
 Q u0 0 I
def aaC(B:World)(ro:AH)(u0:Sl)(Q:Sl->Int->AH->Prop):Int->AH->(Int->AH->Prop)->Prop:=fun u1 I Y5=>
 if u1<(u0.len:Int)then
 ∃p2,u0.a=some p2/\(0:Int)<=u1/\u1<(u0.len:Int)/\
 ∃u3,qb ro I (p2.add (Int.toNat u1*1))=some (.string u3)/\
 yH B ro u3 I fun u4 I=>
 if¬(u4=true)then
  Q (⟨none,0,0⟩:Sl) 20 I
 else
 Y5 (i64.wrap (u1+1)) I
 else
 aco B ro u0 Q I
def pG(B:World)(ro:AH)(a0:ByteArray)(Q:Sl->Int->AH->Prop)(u0:Bool)(I:AH):=
 if u0=true then
 Q (⟨none,0,0⟩:Sl) 20 I
 else
 cutOk (some 1) none a0.size a0.size/\
 afO B ro (a0.extract (Int.toNat 1) (a0.size)) (⟨#[47]⟩:ByteArray) I fun u1 I=>
 if 8<(u1.len:Int)then
 Q (⟨none,0,0⟩:Sl) 20 I
 else
 lfpD (aaC B ro u1 Q) (0) I
def afh(B:World)(ro:AH)(a0:ByteArray)(I:AH)(Q:Sl->Int->AH->Prop):=
 if a0=(⟨#[47]⟩:ByteArray)then
 Q (⟨none,0,0⟩:Sl) 0 I
 else
 if 128<(a0.size:Int)then
 pG B ro a0 Q true I
 else
 aaN B ro a0 (⟨#[47]⟩:ByteArray) I fun u0 I=>
 pG B ro a0 Q (!u0) I
theorem alh{a0 Q}(h:Sep ro I->afh B ro a0 I Q):vc B ro a0 I Q:=by
 refine zb h func134 ntmps134 fun h=>?_;unfold afh at h;refine zw ?_;refine AW.seq ?_;refine zi h (fun h=>?_) fun h=>?_
 .exact zrr h
 refine zw ?_;refine AW.seq ?_;refine zw ?_;refine zm (jG rfl rfl mu rfl rfl) ?_;refine zw ?_;refine qn 4 (decide (128<(a0.size:Int))) mg h (fun fr I=> ∃(u0:Bool),qg [(0,.string a0),(16,.bool u0)] fr/\pG B ro a0 Q u0 I) ?_ ?_ ?_
 .intro h e3 hk3;refine zv e3 ?_;exact hk3 _ _ ⟨_,FL,h⟩
 .intro h e3 hk3;refine zy e3 ?_;refine Lyb rfl rfl rfl rfl e3 (wu rfl func138 rfl rfl rfl (qc.mono h ?_))
  rintro v I ⟨u1,rfl,h⟩;refine zv e3 ?_;exact hk3 _ _ ⟨_,FL,h⟩
 rintro fr I ⟨u0,hl,h⟩;unfold pG at h;refine Lfr hl ?_
 refine zj h (fun h=>?_) fun h=>?_
 .exact zrr h
 refine zw ?_;obtain⟨hc,h⟩:=h
 refine zm (ajl (lo:=(some 1)) (hi:=none) rfl mu rfl (wK rfl) vD hc) ?_;refine zC func193 h fun u2 I h=>?_;refine AW.seq ?_;refine zw ?_;refine zm (qD rfl rfl mP rfl rfl) ?_;refine zi h (fun h=>?_) fun h=>?_
 .exact zrr h
 refine zw ?_;refine AW.seqJ (fun fr I=>qg [(4,Sl.v u2)] fr/\aco B ro u2 Q I) ?_ ?_
 .rintro fr I ⟨hl,h⟩;refine AW.weaken ?_ hl (HLe.refl _)
  unfold aco at h;exact zrr h
 refine zw ?_;refine zm (qD rfl rfl mP rfl rfl) ?_;refine zw ?_;refine qf.loop (fr':=[(4,Sl.v u2),(23,Sl.v u2),(24,.int .i64 (u2.len:Int)),(25,.int .i64 0)]) ?_ FL
 refine h (fun u3 I=>qf _ _ _ _ _ _ [(4,Sl.v u2),(23,Sl.v u2),(24,.int .i64 (u2.len:Int)),(25,.int .i64 u3)] I) ?_
 rintro u3 I Y5 hY5 h
 show AW _ _ _ _ _ _ _ _
 unfold aaC at h;refine zw ?_;refine AW.seq ?_;refine zi h (fun h=>?_) fun h=>?_
 rotate_left
 .refine AW.exit ?_;refine zw ?_;refine qN ?_
  refine zw ?_;exact⟨FL,h⟩
 refine zw ?_;refine AW.seq ?_;refine zw ?_;obtain⟨p4,ha,h0,h1,h⟩:=h
 refine zm (wR rfl mP ty9 (ixL rfl ha) rfl h0 h1) ?_;refine zL mu h fun u5 h=>?_;refine zC func99 h fun u6 I h=>?_;refine AW.iff rfl (qp Iff.rfl) h (fun h=>?_) (fun h=>?_)
 .exact zrr h
 refine zw ?_;refine qf.head (fr':=[(4,Sl.v u2),(23,Sl.v u2),(24,.int .i64 (u2.len:Int)),(25,.int .i64 (i64.wrap (u3+1)))]) ?_ FL
 exact hY5 _ _ h
def yK(B:World)(ro:AH)(a0:ByteArray)(Q:ByteArray->Int->AH->Prop)(u0:Bool)(I:AH):=
 if u0=true then
 Q (⟨#[]⟩:ByteArray) 20 I
 else
 pC B ro a0 47 I fun u1 I=>
 cutOk none (some (if 1<u1 then u1 else 1)) a0.size a0.size/\
 Q (a0.extract (0) (Int.toNat (if 1<u1 then u1 else 1))) 0 I
def aeo(B:World)(ro:AH)(a0:ByteArray)(I:AH)(Q:ByteArray->Int->AH->Prop):=
 if a0=(⟨#[47]⟩:ByteArray)then
 yK B ro a0 Q true I
 else
 jJ B ro a0 I fun u0 I=>
 yK B ro a0 Q (!(decide (u0=0))) I
theorem akg{a0 Q}(h:Sep ro I->aeo B ro a0 I Q):acm B ro a0 I Q:=by
 refine zb h func179 ntmps179 fun h=>?_;unfold aeo at h;refine zw ?_;refine AW.seq ?_;refine zw ?_;refine qn 4 (decide (a0=(⟨#[47]⟩:ByteArray))) mg h (fun fr I=> ∃(u0:Bool),qg [(0,.string a0),(10,.bool u0)] fr/\yK B ro a0 Q u0 I) ?_ ?_ ?_
 .intro h e2 hk2;refine zv e2 ?_;exact hk2 _ _ ⟨_,FL,h⟩
 .intro h e2 hk2;refine zy e2 ?_;refine Lyb rfl rfl rfl rfl e2 (wu rfl func82 rfl rfl rfl (qc.mono h ?_))
  rintro v I ⟨u1,rfl,h⟩;refine zv e2 ?_;exact hk2 _ _ ⟨_,FL,h⟩
 rintro fr I ⟨u0,hl,h⟩;unfold yK at h;refine Lfr hl ?_
 refine zj h (fun h=>?_) fun h=>?_
 .exact zrr h
 refine zc func227 h ?_;rintro v I ⟨u2,rfl,h⟩;refine zm (asb rfl rfl) ?_;obtain⟨hc,h⟩:=h
 refine zm (ajl (lo:=none) (hi:=(some (if 1<u2 then u2 else 1))) rfl mu rfl vD (wK rfl) hc) ?_;exact zrr h
def yL(B:World)(ro:AH)(a0:ByteArray)(a1:Int)(Q:ByteArray->Int->AH->Prop)(u0:Bool)(I:AH):=
 if u0=true then
 Q (⟨#[]⟩:ByteArray) 20 I
 else
 agi B ro a1 I fun u1 I=>
 afb B ro (⟨#[48]⟩:ByteArray) (i64.wrap (10 - (u1.size:Int))) I fun u2 I=>
 u2.size+u1.size<=9223372036854775807/\
 a0.size+(u2++u1).size<=9223372036854775807/\
 jJ B ro (a0++(u2++u1)) I fun u3 I=>
 if¬(u3=0)then
 Q (⟨#[]⟩:ByteArray) u3 I
 else
 Q (a0++(u2++u1)) 0 I
def aep(B:World)(ro:AH)(a0:ByteArray)(a1:Int)(I:AH)(Q:ByteArray->Int->AH->Prop):=
 if((a0=(⟨#[47]⟩:ByteArray))\/(a1<0))\/(9999999999<a1)then
 yL B ro a0 a1 Q true I
 else
 jJ B ro a0 I fun u0 I=>
 yL B ro a0 a1 Q (!(decide (u0=0))) I
theorem akh{a0 a1 Q}(h:Sep ro I->aep B ro a0 a1 I Q):aem B ro a0 a1 I Q:=by
 refine zb h func180 ntmps180 fun h=>?_;unfold aep at h;refine zw ?_;refine AW.seq ?_;refine zw ?_;refine qx 3 (decide (a0=(⟨#[47]⟩:ByteArray))) [(0,.string a0),(1,.int .i64 a1),(13,.bool ((decide (a0=(⟨#[47]⟩:ByteArray))) || (decide (a1<0))))] ?_ ?_ ?_
 .intro e2 hk2
  refine zv e2 ?_;exact hk2 _ (Fe e2)
 .intro e2 hk2
  refine zv e2 ?_;exact hk2 _ (Fe e2)
 intro fr hl
 refine Lfr hl ?_
 refine zw ?_;refine qx 3 ((decide (a0=(⟨#[47]⟩:ByteArray))) || (decide (a1<0))) [(0,.string a0),(1,.int .i64 a1),(17,.bool (((decide (a0=(⟨#[47]⟩:ByteArray))) || (decide (a1<0))) || (decide (9999999999<a1))))] ?_ ?_ ?_
 .intro e6 hk6
  refine zv e6 ?_;exact hk6 _ (Fe e6)
 .intro e6 hk6
  refine zv e6 ?_;exact hk6 _ (Fe e6)
 intro fr hl
 refine Lfr hl ?_
 refine zw ?_;refine qn 4 (((decide (a0=(⟨#[47]⟩:ByteArray))) || (decide (a1<0))) || (decide (9999999999<a1))) (qJ (qJ mg mg) mg) h (fun fr I=> ∃(u0:Bool),qg [(0,.string a0),(1,.int .i64 a1),(22,.bool u0)] fr/\yL B ro a0 a1 Q u0 I) ?_ ?_ ?_
 .intro h e10 hk10;refine zv e10 ?_;exact hk10 _ _ ⟨_,FL,h⟩
 .intro h e10 hk10;refine zy e10 ?_;refine Lyb rfl rfl rfl rfl e10 (wu rfl func82 rfl rfl rfl (qc.mono h ?_))
  rintro v I ⟨u1,rfl,h⟩;refine zv e10 ?_;exact hk10 _ _ ⟨_,FL,h⟩
 rintro fr I ⟨u0,hl,h⟩;unfold yL at h;refine Lfr hl ?_
 refine zj h (fun h=>?_) fun h=>?_
 .exact zrr h
 refine zC func228 h fun u2 I h=>?_;refine zm (jG rfl rfl mu rfl rfl) ?_;refine zC func229 h fun u3 I h=>?_;obtain⟨hc,h⟩:=h
 refine zm (aeJ rfl rfl rfl hc) ?_;obtain⟨hc,h⟩:=h
 refine zm (aeJ rfl rfl rfl hc) ?_;refine zw ?_;refine AW.seq ?_;refine zC func82 h fun u4 I h=>?_;refine AW.iff rfl (qp mg) h (fun h=>?_) (fun h=>?_)
 .exact zrr h
 exact zrr h
def afi(B:World)(ro:AH)(a0:ByteArray)(I:AH)(Q:ByteArray->Bool->AH->Prop):=
 vO B ro a0 I fun u0 u1 I=>
 if(¬(u1=true))\/((u0.len:Int)=0)then
 Q (⟨#[]⟩:ByteArray) u1 I
 else
 ∃p2,u0.a=some p2/\(0:Int)<=0/\0<(u0.len:Int)/\
 ∃u3,qb ro I (p2.add (Int.toNat 0*1))=some (.string u3)/\
 Q u3 true I
theorem ali{a0 Q}(h:Sep ro I->afi B ro a0 I Q):ae8 B ro a0 I Q:=by
 refine zb h func28 ntmps28 fun h=>?_;unfold afi at h;refine zc func87 h ?_;rintro v I ⟨u0,u1,rfl,h⟩;refine zw ?_;refine AW.seq ?_;refine zw ?_;refine qx 4 (!u1) [(4,Sl.v u0),(5,.bool u1),(17,.bool ((!u1) || (decide ((u0.len:Int)=0))))] ?_ ?_ ?_
 .intro e2 hk2
  refine zv e2 ?_;exact hk2 _ (Fe e2)
 .intro e2 hk2
  refine zy e2 ?_;refine qo (qD rfl rfl mP rfl rfl) rfl rfl rfl rfl e2 ?_
  refine zv e2 ?_;exact hk2 _ (Fe e2)
 intro fr hl
 refine Lfr hl ?_
 refine zw ?_;refine AW.iff rfl (qJ (qp Iff.rfl) mg) h (fun h=>?_) (fun h=>?_)
 .exact zrr h
 refine zw ?_;obtain⟨p2,ha,h0,h1,h⟩:=h
 refine zm (wR rfl mP ty9 (ixL rfl ha) rfl h0 h1) ?_;refine zL mu h fun u3 h=>?_;exact zrr h
def aeq(B:World)(ro:AH)(Q:Bool->AH->Prop)(I:AH):=
 Q true I
def pH(B:World)(ro:AH)(a0:ByteArray)(u0:Int)(u1:UInt8)(Q:Bool->AH->Prop)(Y2:Int->AH->Prop)(u2:Bool)(I:AH):=
 if¬((((u2=true)\/((u1.toNat:Int)=46))\/((u1.toNat:Int)=95))\/((u1.toNat:Int)=45))then
 Q false I
 else
 Y2 (i64.wrap (u0+1)) I
def pI(B:World)(ro:AH)(a0:ByteArray)(Q:Bool->AH->Prop):Int->AH->(Int->AH->Prop)->Prop:=fun u0 I Y2=>
 if u0<(a0.size:Int)then
 ∃u1:UInt8,(0:Int)<=u0/\a0[Int.toNat u0]?=some u1/\
 if(97<=(u1.toNat:Int))/\((u1.toNat:Int)<=122)then
  pH B ro a0 u0 u1 Q Y2 true I
 else
 pH B ro a0 u0 u1 Q Y2 ((decide (48<=(u1.toNat:Int))) && (decide ((u1.toNat:Int)<=57))) I
 else
 aeq B ro Q I
def afj(B:World)(ro:AH)(a0:ByteArray)(I:AH)(Q:Bool->AH->Prop):=
 if((((a0.size:Int)<1)\/(32<(a0.size:Int)))\/(a0=(⟨#[46]⟩:ByteArray)))\/(a0=(⟨#[46,46]⟩:ByteArray))then
 Q false I
 else
 lfpD (pI B ro a0 Q) (0) I
theorem alj{a0 Q}(h:Sep ro I->afj B ro a0 I Q):abn B ro a0 I Q:=by
 refine zb h func37 ntmps37 fun h=>?_;unfold afj at h;refine zw ?_;refine AW.seq ?_;refine zw ?_;refine zm (jG rfl rfl mu rfl rfl) ?_;refine zw ?_;refine qx 4 (decide ((a0.size:Int)<1)) [(0,.string a0),(12,.bool ((decide ((a0.size:Int)<1)) || (decide (32<(a0.size:Int)))))] ?_ ?_ ?_
 .intro e3 hk3
  refine zv e3 ?_;exact hk3 _ (Fe e3)
 .intro e3 hk3
  refine zy e3 ?_;refine qo (jG rfl rfl mu rfl rfl) rfl rfl rfl rfl e3 ?_
  refine zv e3 ?_;exact hk3 _ (Fe e3)
 intro fr hl
 refine Lfr hl ?_
 refine zw ?_;refine qx 3 ((decide ((a0.size:Int)<1)) || (decide (32<(a0.size:Int)))) [(0,.string a0),(16,.bool (((decide ((a0.size:Int)<1)) || (decide (32<(a0.size:Int)))) || (decide (a0=(⟨#[46]⟩:ByteArray)))))] ?_ ?_ ?_
 .intro e8 hk8
  refine zv e8 ?_;exact hk8 _ (Fe e8)
 .intro e8 hk8
  refine zv e8 ?_;exact hk8 _ (Fe e8)
 intro fr hl
 refine Lfr hl ?_
 refine zw ?_;refine qx 3 (((decide ((a0.size:Int)<1)) || (decide (32<(a0.size:Int)))) || (decide (a0=(⟨#[46]⟩:ByteArray)))) [(0,.string a0),(20,.bool ((((decide ((a0.size:Int)<1)) || (decide (32<(a0.size:Int)))) || (decide (a0=(⟨#[46]⟩:ByteArray)))) || (decide (a0=(⟨#[46,46]⟩:ByteArray)))))] ?_ ?_ ?_
 .intro e12 hk12
  refine zv e12 ?_;exact hk12 _ (Fe e12)
 .intro e12 hk12
  refine zv e12 ?_;exact hk12 _ (Fe e12)
 intro fr hl
 refine Lfr hl ?_
 refine zw ?_;refine AW.iff rfl (qJ (qJ (qJ mg mg) mg) mg) h (fun h=>?_) (fun h=>?_)
 .exact zr h
 refine zw ?_;refine AW.seqJ (fun fr I=>qg [] fr/\aeq B ro Q I) ?_ ?_
 .rintro fr I ⟨hl,h⟩;refine AW.weaken ?_ hl (HLe.refl _)
  unfold aeq at h;exact zr h
 refine zw ?_;refine qf.loop (fr':=[(0,.string a0),(3,.int .i64 0)]) ?_ FL
 refine h (fun u0 I=>qf _ _ _ _ _ _ [(0,.string a0),(3,.int .i64 u0)] I) ?_
 rintro u0 I Y2 hY2 h
 show AW _ _ _ _ _ _ _ _
 unfold pI at h;refine AW.seq ?_;refine zw ?_;refine zm (jG rfl rfl mu rfl rfl) ?_;refine zi h (fun h=>?_) fun h=>?_
 rotate_left
 .refine AW.exit ?_;refine zw ?_;refine qN ?_
  refine zw ?_;exact⟨FL,h⟩
 refine zw ?_;refine AW.seq ?_;refine zw ?_;obtain⟨u1,h0,hc,h⟩:=h
 refine zm (aji rfl mu rfl rfl h0 hc) ?_;refine zw ?_;refine qx 3 (decide (97<=(u1.toNat:Int))) [(0,.string a0),(3,.int .i64 u0),(4,.int .u8 (u1.toNat:Int)),(35,.bool ((decide (97<=(u1.toNat:Int))) && (decide ((u1.toNat:Int)<=122))))] ?_ ?_ ?_
 .intro e2 hk2
  refine zv e2 ?_;exact hk2 _ (Fe e2)
 .intro e2 hk2
  refine zv e2 ?_;exact hk2 _ (Fe e2)
 intro fr hl
 refine Lfr hl ?_
 refine zw ?_;refine qn 7 ((decide (97<=(u1.toNat:Int))) && (decide ((u1.toNat:Int)<=122))) (xv mg mg) h (fun fr I=> ∃(u2:Bool),qg [(0,.string a0),(3,.int .i64 u0),(4,.int .u8 (u1.toNat:Int)),(43,.bool u2)] fr/\pH B ro a0 u0 u1 Q Y2 u2 I) ?_ ?_ ?_
 .intro h e6 hk6;refine zv e6 ?_;refine Ln rfl rfl rfl rfl (.inr rfl) ?_
  refine Ln rfl rfl rfl rfl (.inr rfl) ?_
  refine zv e6 ?_;exact hk6 _ _ ⟨_,FL,h⟩
 .intro h e6 hk6;refine zv e6 ?_;refine qx 3 (decide (48<=(u1.toNat:Int))) [(0,.string a0),(3,.int .i64 u0),(4,.int .u8 (u1.toNat:Int)),(36,.bool ((decide (97<=(u1.toNat:Int))) && (decide ((u1.toNat:Int)<=122)))),(42,.bool ((decide (48<=(u1.toNat:Int))) && (decide ((u1.toNat:Int)<=57))))] ?_ ?_ ?_
  .intro e9 hk9
   refine zv e9 ?_;refine qo (qT rfl (evb e9) rfl) rfl rfl rfl rfl e6 ?_
   exact hk9 _ (Fe e9)
  .intro e9 hk9
   refine zv e9 ?_;refine qo (wL rfl (evb e9) rfl) rfl rfl rfl rfl e6 ?_
   exact hk9 _ (Fe e9)
  intro fr hl
  refine Lfr hl ?_
  refine zk e6 ?_;exact hk6 _ _ ⟨_,FL,h⟩
 rintro fr I ⟨u2,hl,h⟩;unfold pH at h;refine Lfr hl ?_
 refine zw ?_;refine qx 3 u2 [(0,.string a0),(3,.int .i64 u0),(4,.int .u8 (u1.toNat:Int)),(47,.bool (u2 || (decide ((u1.toNat:Int)=46))))] ?_ ?_ ?_
 .intro e14 hk14
  refine zv e14 ?_;exact hk14 _ (Fe e14)
 .intro e14 hk14
  refine zv e14 ?_;exact hk14 _ (Fe e14)
 intro fr hl
 refine Lfr hl ?_
 refine zw ?_;refine qx 3 (u2 || (decide ((u1.toNat:Int)=46))) [(0,.string a0),(3,.int .i64 u0),(4,.int .u8 (u1.toNat:Int)),(51,.bool ((u2 || (decide ((u1.toNat:Int)=46))) || (decide ((u1.toNat:Int)=95))))] ?_ ?_ ?_
 .intro e18 hk18
  refine zv e18 ?_;exact hk18 _ (Fe e18)
 .intro e18 hk18
  refine zv e18 ?_;exact hk18 _ (Fe e18)
 intro fr hl
 refine Lfr hl ?_
 refine zw ?_;refine qx 3 ((u2 || (decide ((u1.toNat:Int)=46))) || (decide ((u1.toNat:Int)=95))) [(0,.string a0),(3,.int .i64 u0),(55,.bool (((u2 || (decide ((u1.toNat:Int)=46))) || (decide ((u1.toNat:Int)=95))) || (decide ((u1.toNat:Int)=45))))] ?_ ?_ ?_
 .intro e22 hk22
  refine zv e22 ?_;exact hk22 _ (Fe e22)
 .intro e22 hk22
  refine zv e22 ?_;exact hk22 _ (Fe e22)
 intro fr hl
 refine Lfr hl ?_
 refine zw ?_;refine AW.iff rfl (qp (qJ (qJ (qJ Iff.rfl mg) mg) mg)) h (fun h=>?_) (fun h=>?_)
 .exact zr h
 refine zw ?_;refine qf.head (fr':=[(0,.string a0),(3,.int .i64 (i64.wrap (u0+1)))]) ?_ FL
 exact hY2 _ _ h
def abN(B:World)(ro:AH)(Q:Sl->Bool->AH->Prop)(u0:Sl)(I:AH):=
 if 8<(u0.len:Int)then
 Q (⟨none,0,0⟩:Sl) false I
 else
 Q u0 true I
def yM(B:World)(ro:AH)(a0:ByteArray)(u0:Int)(Q:Sl->Bool->AH->Prop)(Y5:(Sl×Int×Int)->AH->Prop)(u1:Sl)(u2:Int)(I:AH):=
 Y5 (u1,u2,i64.wrap (u0+1)) I
def xB(B:World)(ro:AH)(a0:ByteArray)(u0:Sl)(u1 u2:Int)(Q:Sl->Bool->AH->Prop)(Y5:(Sl×Int×Int)->AH->Prop)(u3:Bool)(I:AH):=
 if u3=true then
 cutOk (some u1) (some u2) a0.size a0.size/\
 abn B ro (a0.extract (Int.toNat u1) (Int.toNat u2)) I fun u4 I=>
 if¬(u4=true)then
  Q (⟨none,0,0⟩:Sl) false I
 else
 cutOk (some u1) (some u2) a0.size a0.size/\
 nw ro I (.cells #[.string (a0.extract (Int.toNat u1) (Int.toNat u2))] 9) fun u5 I=>
 awp prog ro (Builtin.append_ #[27,27] 27 #[Sl.v u0,Sl.v (⟨some ⟨u5,0,none⟩,1,1⟩:Sl)]) (fun v I=> ∃(u6:Sl),v=Sl.v u6/\
  yM B ro a0 u2 Q Y5 u6 (i64.wrap (u2+1)) I) I
 else
 yM B ro a0 u2 Q Y5 u0 u1 I
def kV(B:World)(ro:AH)(a0:ByteArray)(Q:Sl->Bool->AH->Prop):(Sl×Int×Int)->AH->((Sl×Int×Int)->AH->Prop)->Prop:=fun⟨u0,u1,u2⟩ I Y5=>
 if u2<=(a0.size:Int)then
 if u2=(a0.size:Int)then
  xB B ro a0 u0 u1 u2 Q Y5 true I
 else
 ∃u3:UInt8,(0:Int)<=u2/\a0[Int.toNat u2]?=some u3/\
 xB B ro a0 u0 u1 u2 Q Y5 (decide ((u3.toNat:Int)=47)) I
 else
 abN B ro Q u0 I
def yN(B:World)(ro:AH)(a0:ByteArray)(Q:Sl->Bool->AH->Prop)(u0:Bool)(I:AH):=
 if u0=true then
 Q (⟨none,0,0⟩:Sl) false I
 else
 lfpD (kV B ro a0 Q) ((⟨none,0,0⟩:Sl),1,1) I
def aer(B:World)(ro:AH)(a0:ByteArray)(I:AH)(Q:Sl->Bool->AH->Prop):=
 if a0=(⟨#[47]⟩:ByteArray)then
 Q (⟨none,0,0⟩:Sl) true I
 else
 if((a0.size:Int)<1)\/(128<(a0.size:Int))then
 yN B ro a0 Q true I
 else
 ∃u0:UInt8,(0:Int)<=0/\a0[Int.toNat 0]?=some u0/\
 yN B ro a0 Q (!(decide ((u0.toNat:Int)=47))) I
theorem aki{a0 Q}(h:Sep ro I->aer B ro a0 I Q):vO B ro a0 I Q:=by
 refine zb h func87 ntmps87 fun h=>?_;unfold aer at h;refine zw ?_;refine AW.seq ?_;refine zi h (fun h=>?_) fun h=>?_
 .exact zrr h
 refine zw ?_;refine AW.seq ?_;refine zw ?_;refine zm (jG rfl rfl mu rfl rfl) ?_;refine zw ?_;refine qx 4 (decide ((a0.size:Int)<1)) [(0,.string a0),(4,Sl.v (⟨none,0,0⟩:Sl)),(17,.bool ((decide ((a0.size:Int)<1)) || (decide (128<(a0.size:Int)))))] ?_ ?_ ?_
 .intro e3 hk3
  refine zv e3 ?_;exact hk3 _ (Fe e3)
 .intro e3 hk3
  refine zy e3 ?_;refine qo (jG rfl rfl mu rfl rfl) rfl rfl rfl rfl e3 ?_
  refine zv e3 ?_;exact hk3 _ (Fe e3)
 intro fr hl
 refine Lfr hl ?_
 refine zw ?_;refine qn 4 ((decide ((a0.size:Int)<1)) || (decide (128<(a0.size:Int)))) (qJ mg mg) h (fun fr I=> ∃(u0:Bool),qg [(0,.string a0),(4,Sl.v (⟨none,0,0⟩:Sl)),(22,.bool u0)] fr/\yN B ro a0 Q u0 I) ?_ ?_ ?_
 .intro h e8 hk8;refine zv e8 ?_;exact hk8 _ _ ⟨_,FL,h⟩
 .intro h e8 hk8;refine zy e8 ?_;obtain⟨u1,h0,hc,h⟩:=h
  refine qo (aji rfl mu rfl rfl h0 hc) rfl rfl rfl rfl e8 ?_
  refine zv e8 ?_;exact hk8 _ _ ⟨_,FL,h⟩
 rintro fr I ⟨u0,hl,h⟩;unfold yN at h;refine Lfr hl ?_
 refine zj h (fun h=>?_) fun h=>?_
 .exact zrr h
 refine zw ?_;refine AW.seqJ (fun fr I=> ∃(u2:Sl),qg [(4,Sl.v u2)] fr/\abN B ro Q u2 I) ?_ ?_
 .rintro fr I ⟨u2,hl,h⟩;refine AW.weaken ?_ hl (HLe.refl _)
  unfold abN at h;refine AW.seq ?_;refine zw ?_;refine zm (qD rfl rfl mP rfl rfl) ?_;refine zi h (fun h=>?_) fun h=>?_
  .exact zrr h
  exact zrr h
 refine zw ?_;refine qf.loop (fr':=[(0,.string a0),(4,Sl.v (⟨none,0,0⟩:Sl)),(5,.int .i64 1),(6,.int .i64 1)]) ?_ FL
 refine h (fun⟨u3,u4,u5⟩ I=>qf _ _ _ _ _ _ [(0,.string a0),(4,Sl.v u3),(5,.int .i64 u4),(6,.int .i64 u5)] I) ?_
 rintro⟨u3,u4,u5⟩ I Y5 hY5 h
 show AW _ _ _ _ _ _ _ _
 unfold kV at h;dsimp only at h;refine AW.seq ?_;refine zw ?_;refine zm (jG rfl rfl mu rfl rfl) ?_;refine zi h (fun h=>?_) fun h=>?_
 rotate_left
 .refine AW.exit ?_;refine zw ?_;refine qN ?_
  refine zw ?_;exact⟨_,FL,h⟩
 refine zw ?_;refine AW.seqJ (fun fr I=> ∃(u6:Sl) (u7:Int),qg [(0,.string a0),(6,.int .i64 u5),(4,Sl.v u6),(5,.int .i64 u7)] fr/\yM B ro a0 u5 Q Y5 u6 u7 I) ?_ ?_
 .rintro fr I ⟨u6,u7,hl,h⟩;refine AW.weaken ?_ hl (HLe.refl _)
  unfold yM at h;refine zw ?_;refine qf.head (fr':=[(0,.string a0),(4,Sl.v u6),(5,.int .i64 u7),(6,.int .i64 (i64.wrap (u5+1)))]) ?_ FL
  exact hY5 _ _ h
 refine zw ?_;refine zm (jG rfl rfl mu rfl rfl) ?_;refine zw ?_;refine qn 5 (decide (u5=(a0.size:Int))) mg h (fun fr I=> ∃(u8:Bool),qg [(0,.string a0),(4,Sl.v u3),(5,.int .i64 u4),(6,.int .i64 u5),(38,.bool u8)] fr/\xB B ro a0 u3 u4 u5 Q Y5 u8 I) ?_ ?_ ?_
 .intro h e4 hk4;refine zv e4 ?_;exact hk4 _ _ ⟨_,FL,h⟩
 .intro h e4 hk4;refine zv e4 ?_;obtain⟨u9,h0,hc,h⟩:=h
  refine qo (aji rfl mu rfl rfl h0 hc) rfl rfl rfl rfl e4 ?_
  refine zv e4 ?_;exact hk4 _ _ ⟨_,FL,h⟩
 rintro fr I ⟨u8,hl,h⟩;unfold xB at h;refine Lfr hl ?_
 refine zj h (fun h=>?_) fun h=>?_
 rotate_left
 .refine zw ?_;exact⟨_,_,FL,h⟩
 refine AW.seq ?_;refine zw ?_;obtain⟨hc,h⟩:=h
 refine zm (ajl (lo:=(some u4)) (hi:=(some u5)) rfl mu rfl (wK rfl) (wK rfl) hc) ?_;refine zC func37 h fun u10 I h=>?_;refine AW.iff rfl (qp Iff.rfl) h (fun h=>?_) (fun h=>?_)
 .exact zrr h
 refine zw ?_;obtain⟨hc,h⟩:=h
 refine zm (ajl (lo:=(some u4)) (hi:=(some u5)) rfl mu rfl (wK rfl) (wK rfl) hc) ?_;refine zA (wS (vs:=[(0,.string (a0.extract (Int.toNat u4) (Int.toNat u5)))]) (cs:= #[.string (a0.extract (Int.toNat u4) (Int.toNat u5))]) rfl mP ty9 z8 rfl rfl) h fun u11 h=>?_;refine zl (yt (s:=Builtin.append_ #[27,27] 27 #[Sl.v u3,Sl.v (⟨some ⟨u11,0,none⟩,1,1⟩:Sl)]) rfl rfl (fun _=>rfl) (qj _ h ?_))
 rintro v I ⟨u12,rfl,h⟩;refine zw ?_;exact⟨_,_,FL,h⟩
def adv(B:World)(ro:AH)(a0:ByteArray)(I:AH)(Q:ByteArray->Bool->AH->Prop):=
 vO B ro a0 I fun u0 u1 I=>
 if(¬(u1=true))\/((u0.len:Int)=0)then
 Q (⟨#[]⟩:ByteArray) false I
 else
 cutOk none (some (i64.wrap ((u0.len:Int) - 1))) u0.len u0.cap/\
 afa B ro (⟨wH u0.a (0) u0.cap 1,Int.toNat (i64.wrap ((u0.len:Int) - 1)) - 0,u0.cap - 0⟩:Sl) I fun u2 I=>
 Q u2 true I
theorem ajv{a0 Q}(h:Sep ro I->adv B ro a0 I Q):uA B ro a0 I Q:=by
 refine zb h func172 ntmps172 fun h=>?_;unfold adv at h;refine zc func87 h ?_;rintro v I ⟨u0,u1,rfl,h⟩;refine zw ?_;refine AW.seq ?_;refine zw ?_;refine qx 4 (!u1) [(4,Sl.v u0),(17,.bool ((!u1) || (decide ((u0.len:Int)=0))))] ?_ ?_ ?_
 .intro e2 hk2
  refine zv e2 ?_;exact hk2 _ (Fe e2)
 .intro e2 hk2
  refine zy e2 ?_;refine qo (qD rfl rfl mP rfl rfl) rfl rfl rfl rfl e2 ?_
  refine zv e2 ?_;exact hk2 _ (Fe e2)
 intro fr hl
 refine Lfr hl ?_
 refine zw ?_;refine AW.iff rfl (qJ (qp Iff.rfl) mg) h (fun h=>?_) (fun h=>?_)
 .exact zrr h
 refine zw ?_;refine zm (qD rfl rfl mP rfl rfl) ?_;refine zw ?_;obtain⟨hc,h⟩:=h
 refine zm (abI (lo:=none) (hi:=(some (i64.wrap ((u0.len:Int) - 1)))) rfl mP ty9 rfl vD (wK rfl) hc) ?_;refine zc func223 h ?_;rintro v I ⟨u2,rfl,h⟩;exact zrr h
def aes(B:World)(ro:AH)(Q:ByteArray->AH->Prop)(u0:ByteArray)(I:AH):=
 Q u0 I
def aaD(B:World)(ro:AH)(a0:Sl)(Q:ByteArray->AH->Prop):(ByteArray×Int)->AH->((ByteArray×Int)->AH->Prop)->Prop:=fun⟨u0,u1⟩ I Y3=>
 if u1<(a0.len:Int)then
 ∃p2,a0.a=some p2/\(0:Int)<=u1/\u1<(a0.len:Int)/\
 ∃u3,qb ro I (p2.add (Int.toNat u1*1))=some (.string u3)/\
 (⟨#[47]⟩:ByteArray).size+u3.size<=9223372036854775807/\
 u0.size+((⟨#[47]⟩:ByteArray)++u3).size<=9223372036854775807/\
 Y3 (u0++((⟨#[47]⟩:ByteArray)++u3),i64.wrap (u1+1)) I
 else
 aes B ro Q u0 I
def afk(B:World)(ro:AH)(a0:Sl)(I:AH)(Q:ByteArray->AH->Prop):=
 if(a0.len:Int)=0 then
 Q (⟨#[47]⟩:ByteArray) I
 else
 lfpD (aaD B ro a0 Q) ((⟨#[]⟩:ByteArray),0) I
theorem alk{a0 Q}(h:Sep ro I->afk B ro a0 I Q):afa B ro a0 I Q:=by
 refine zb h func223 ntmps223 fun h=>?_;unfold afk at h;refine zw ?_;refine AW.seq ?_;refine zw ?_;refine zm (qD rfl rfl mP rfl rfl) ?_;refine zi h (fun h=>?_) fun h=>?_
 .exact zr h
 refine zw ?_;refine AW.seqJ (fun fr I=> ∃(u0:ByteArray),qg [(3,.string u0)] fr/\aes B ro Q u0 I) ?_ ?_
 .rintro fr I ⟨u0,hl,h⟩;refine AW.weaken ?_ hl (HLe.refl _)
  unfold aes at h;exact zr h
 refine zw ?_;refine qf.loop (fr':=[(0,Sl.v a0),(3,.string (⟨#[]⟩:ByteArray)),(4,.int .i64 0)]) ?_ FL
 refine h (fun⟨u1,u2⟩ I=>qf _ _ _ _ _ _ [(0,Sl.v a0),(3,.string u1),(4,.int .i64 u2)] I) ?_
 rintro⟨u1,u2⟩ I Y3 hY3 h
 show AW _ _ _ _ _ _ _ _
 unfold aaD at h;dsimp only at h;refine AW.seq ?_;refine zw ?_;refine zm (qD rfl rfl mP rfl rfl) ?_;refine zi h (fun h=>?_) fun h=>?_
 rotate_left
 .refine AW.exit ?_;refine zw ?_;refine qN ?_
  refine zw ?_;exact⟨_,FL,h⟩
 refine zw ?_;refine AW.seq ?_;refine zw ?_;obtain⟨p3,ha,h0,h1,h⟩:=h
 refine zm (wR rfl mP ty9 (ixL rfl ha) rfl h0 h1) ?_;refine zL mu h fun u4 h=>?_;obtain⟨hc,h⟩:=h
 refine zm (aeJ rfl rfl rfl hc) ?_;obtain⟨hc,h⟩:=h
 refine zm (aeJ rfl rfl rfl hc) ?_;refine zw ?_;refine qf.head (fr':=[(0,Sl.v a0),(3,.string (u1++((⟨#[47]⟩:ByteArray)++u4))),(4,.int .i64 (i64.wrap (u2+1)))]) ?_ FL
 exact hY3 _ _ h