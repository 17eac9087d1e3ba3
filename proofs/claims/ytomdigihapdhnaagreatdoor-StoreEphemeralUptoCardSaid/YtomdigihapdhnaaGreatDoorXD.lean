import Derived.KernelRfl
import Derived.Test.YtomdigihapdhnaaGreatDoorProg
import Derived.Test.YtomdigihapdhnaaGreatDoorXC
set_option linter.all false
set_option maxRecDepth 99999
set_option maxHeartbeats 0
open Go.IntKind(i64)
open Go.Proofs.Tryz
namespace Go.Proofs.YtomdigihapdhnaaGreatDoor
theorem y1{p:Prop}(h:p:=by kernel_rfl):p:=h
abbrev zFd(n:String)(t o b:Nat)(e:Bool)(p:String):Go.Field:={name:=n,type:=t,offset:=o,embedded:=e,tag:= "",pkgPath:=p,byteOffset:=b}
abbrev zEd(n:String)(t o b:Nat):Go.Field:=zFd n t o b false ""
abbrev mf:=@underlying3
abbrev mj:=@underlying9
abbrev mn:=@underlying30
abbrev mp:=@underlying24
abbrev mv:=@underlying27
abbrev my:=@underlying57
abbrev mz:=@underlying81
abbrev mE:=@underlying26
abbrev mJ:=@underlying168
abbrev mR:=@underlying55
abbrev mT:=@underlying153
abbrev mX:=@underlying72
abbrev na:=@underlying217
abbrev ng:=@underlying28
abbrev ni:=@underlying83
abbrev nm:=@underlying410
abbrev np:=@underlying254
abbrev nq:=@underlying239
abbrev nt:=@underlying231
abbrev nu:=@underlying348
abbrev nB:=@underlying237
abbrev nC:=@underlying314
abbrev nF:=@underlying61
abbrev nJ:=@underlying336
abbrev nK:=@underlying307
abbrev nL:=@underlying4
abbrev nN:=@underlying66
abbrev nO:=@underlying310
abbrev nQ:=@underlying23
abbrev nR:=@underlying132
abbrev nU:=@underlying178
abbrev nY:=@underlying0
abbrev nZ:=@underlying5
abbrev La:=@underlying252
abbrev Le:=@underlying240
abbrev Lf:=@underlying242
abbrev Lh:=@underlying54
abbrev Li:=@underlying221
abbrev Lj:=@underlying128
abbrev Lk:=@underlying258
abbrev Ll:=@underlying149
abbrev Lm:=@underlying150
abbrev Lo:=@underlying151
abbrev Lq:=@underlying245
abbrev Lw:=@underlying227
abbrev Lx:=@underlying243
abbrev LE:=@underlying399
abbrev LF:=@underlying462
abbrev LG:=@underlying219
abbrev LM:=@underlying308
abbrev LO:=@underlying22
abbrev LQ:=@underlying464
abbrev LR:=@underlying164
abbrev LS:=@underlying305
namespace G
open Go SL
variable{B:World}{ro I:AH}
theorem _root_.Go.Proofs.Tryz.mixed:prog.follows .mixedOrders=true:=y1
theorem ty3:qo prog 3 (.int .i64 0) 1 8:=qo.of y1
theorem ty4:qo prog 4 (.bool false) 1 1:=qo.of y1
theorem ty5:qo prog 5 (.int .u8 0) 1 1:=qo.of y1
theorem ty9:qo prog 9 (.string ByteArray.empty) 1 16:=qo.of y1
theorem afV:qo prog 22 (.int .i64 0) 1 8:=qo.of y1
theorem ae6:qo prog 23 (.slice none 0 0) 1 24:=qo.of y1
theorem wu:qo prog 24 (.slice none 0 0) 1 24:=qo.of y1
theorem wC:qo prog 26 (.agg #[.int .i64 0,.int .i64 0,.int .i64 0,.int .i64 0]) 4 32:=qo.of y1
theorem akx:qo prog 27 (.slice none 0 0) 1 24:=qo.of y1
theorem aaI:qo prog 28 (.slice none 0 0) 1 24:=qo.of y1
theorem qI:qo prog 30 (.agg #[.int .i64 0,.int .i64 0,.slice none 0 0,.int .i64 0,.slice none 0 0,.int .i64 0,.int .i64 0,.int .i64 0,.int .i64 0,.slice none 0 0,.slice none 0 0,.int .i64 0]) 12 160:=qo.of y1
theorem anG:qo prog 54 (.slice none 0 0) 1 24:=qo.of y1
theorem agV:qo prog 55 (.slice none 0 0) 1 24:=qo.of y1
theorem pc:qo prog 57 (.agg #[.int .i64 0,.string ByteArray.empty,.int .i64 0,.int .i64 0,.int .i64 0,.int .i64 0,.int .i64 0,.int .i64 0,.slice none 0 0,.string ByteArray.empty,.bool false,.int .i64 0,.slice none 0 0]) 13 152:=qo.of y1
theorem adT:qo prog 61 (.pointer none) 1 8:=qo.of y1
theorem ac2:qo prog 66 (.agg #[.int .i64 0,.int .i64 0]) 2 16:=qo.of y1
theorem aen:qo prog 72 (.agg #[.int .i64 0,.string ByteArray.empty,.slice none 0 0,.int .i64 0,.bool false,.bool false]) 6 64:=qo.of y1
theorem wQ:qo prog 81 (.agg #[.string ByteArray.empty,.int .i64 0]) 2 24:=qo.of y1
theorem aal:qo prog 83 (.agg #[.string ByteArray.empty,.int .i64 0,.int .i64 0,.int .i64 0,.int .i64 0,.int .i64 0,.slice none 0 0]) 7 80:=qo.of y1
theorem aeF:qo prog 128 (.agg #[.string ByteArray.empty,.int .i64 0]) 2 24:=qo.of y1
theorem yd:qo prog 132 (.agg #[.int .i64 0,.int .i64 0,.string ByteArray.empty]) 3 32:=qo.of y1
theorem afy:qo prog 149 (.agg #[.int .i64 0,.slice none 0 0]) 2 32:=qo.of y1
theorem afz:qo prog 150 (.pointer none) 1 8:=qo.of y1
theorem afA:qo prog 151 (.pointer none) 1 8:=qo.of y1
theorem avC:qo prog 153 (.agg #[.int .i64 0,.slice none 0 0,.pointer none,.pointer none,.pointer none]) 5 56:=qo.of y1
theorem apS:qo prog 168 (.agg #[.int .i64 0,.int .i64 0,.int .i64 0,.int .i64 0,.slice none 0 0]) 5 56:=qo.of y1
theorem anu:qo prog 215 (.int .i8 0) 1 1:=qo.of y1
theorem anv:qo prog 217 (.agg #[.slice none 0 0,.int .i64 0,.int .i8 0]) 3 40:=qo.of y1
theorem agC:qo prog 219 (.agg #[.slice none 0 0,.int .i64 0,.int .i8 0,.bool false]) 4 48:=qo.of y1
theorem avD:qo prog 221 (.agg #[.slice none 0 0,.int .i64 0,.int .i8 0,.bool false]) 4 48:=qo.of y1
theorem avE:qo prog 231 (.agg #[.slice none 0 0,.int .i64 0]) 2 32:=qo.of y1
theorem abx:qo prog 237 (.map none) 1 8:=qo.of y1
theorem anw:qo prog 239 (.agg #[.map none]) 1 8:=qo.of y1
theorem afB:qo prog 240 (.map none) 1 8:=qo.of y1
theorem avF:qo prog 242 (.agg #[.map none]) 1 8:=qo.of y1
theorem agD:qo prog 243 (.map none) 1 8:=qo.of y1
theorem avG:qo prog 245 (.agg #[.map none]) 1 8:=qo.of y1
theorem aeG:qo prog 252 (.map none) 1 8:=qo.of y1
theorem avH:qo prog 254 (.agg #[.int .i64 0,.map none]) 2 16:=qo.of y1
theorem ahQ:qo prog 258 (.slice none 0 0) 1 24:=qo.of y1
theorem ahR:qo prog 307 (.agg #[.slice none 0 0,.int .i64 0,.int .i64 0]) 3 40:=qo.of y1
theorem ajM:qo prog 308 (.map none) 1 8:=qo.of y1
theorem avI:qo prog 310 (.agg #[.slice none 0 0,.int .i64 0,.int .i64 0,.map none]) 4 48:=qo.of y1
theorem adU:qo prog 314 (.agg #[.string ByteArray.empty,.int .i64 0]) 2 24:=qo.of y1
theorem ab9:qo prog 336 (.agg #[.int .i64 0,.string ByteArray.empty]) 2 24:=qo.of y1
theorem jC:qo prog 348 (.agg #[.slice none 0 0,.slice none 0 0,.int .i64 0]) 3 56:=qo.of y1
theorem avJ:qo prog 410 (.agg #[.slice none 0 0,.slice none 0 0,.int .i64 0,.pointer none,.string ByteArray.empty,.int .i64 0,.int .i64 0,.int .i64 0]) 8 104:=qo.of y1
theorem asj:wU prog [zEd "Version" 3 0 0,zEd "Counter" 3 1 8,zEd "Owner" 3 2 16,zEd "Children" 3 3 24] [(0,1),(1,1),(2,1),(3,1)]:=⟨⟨rfl,_,_,ty3⟩,⟨⟨rfl,_,_,ty3⟩,⟨⟨rfl,_,_,ty3⟩,⟨⟨rfl,_,_,ty3⟩,trivial⟩⟩⟩⟩
theorem afW:wU prog [zEd "Code" 22 0 0,zEd "Session" 3 1 8,zEd "Results" 23 2 16,zEd "Bad" 3 3 40,zEd "Data" 24 4 48,zEd "Stat" 26 5 72,zEd "Names" 27 9 104,zEd "Events" 28 10 128,zEd "Epoch" 3 11 152] [(0,1),(1,1),(2,1),(3,1),(4,1),(5,4),(9,1),(10,1),(11,1)]:=⟨⟨rfl,_,_,afV⟩,⟨⟨rfl,_,_,ty3⟩,⟨⟨rfl,_,_,ae6⟩,⟨⟨rfl,_,_,ty3⟩,⟨⟨rfl,_,_,wu⟩,⟨⟨rfl,_,_,wC⟩,⟨⟨rfl,_,_,akx⟩,⟨⟨rfl,_,_,aaI⟩,⟨⟨rfl,_,_,ty3⟩,trivial⟩⟩⟩⟩⟩⟩⟩⟩⟩
theorem awc:wU prog [zEd "Kind" 3 0 0,zEd "Home" 9 1 8,zEd "Session" 3 2 24,zEd "Req" 3 3 32,zEd "Nonce" 3 4 40,zEd "Lease" 3 5 48,zEd "Beats" 3 6 56,zEd "Ack" 3 7 64,zEd "Ops" 54 8 72,zEd "Path" 9 9 96,zEd "Watch" 4 10 112,zEd "Epoch" 3 11 120,zEd "Members" 55 12 128] [(0,1),(1,1),(2,1),(3,1),(4,1),(5,1),(6,1),(7,1),(8,1),(9,1),(10,1),(11,1),(12,1)]:=⟨⟨rfl,_,_,ty3⟩,⟨⟨rfl,_,_,ty9⟩,⟨⟨rfl,_,_,ty3⟩,⟨⟨rfl,_,_,ty3⟩,⟨⟨rfl,_,_,ty3⟩,⟨⟨rfl,_,_,ty3⟩,⟨⟨rfl,_,_,ty3⟩,⟨⟨rfl,_,_,ty3⟩,⟨⟨rfl,_,_,anG⟩,⟨⟨rfl,_,_,ty9⟩,⟨⟨rfl,_,_,ty4⟩,⟨⟨rfl,_,_,ty3⟩,⟨⟨rfl,_,_,agV⟩,trivial⟩⟩⟩⟩⟩⟩⟩⟩⟩⟩⟩⟩⟩
theorem awd:wU prog [zEd "Nodes" 3 0 0,zEd "Bytes" 3 1 8] [(0,1),(1,1)]:=⟨⟨rfl,_,_,ty3⟩,⟨⟨rfl,_,_,ty3⟩,trivial⟩⟩
theorem ask:wU prog [zEd "Home" 9 0 0,zEd "N" 3 1 16] [(0,1),(1,1)]:=⟨⟨rfl,_,_,ty9⟩,⟨⟨rfl,_,_,ty3⟩,trivial⟩⟩
theorem au1:wU prog [zFd "Key" 81 0 0 true "",zEd "Nonce" 3 2 24,zEd "Lease" 3 3 32,zEd "Beats" 3 4 40,zEd "Req" 3 5 48,zEd "Reply" 24 6 56] [(0,2),(2,1),(3,1),(4,1),(5,1),(6,1)]:=⟨⟨rfl,_,_,wQ⟩,⟨⟨rfl,_,_,ty3⟩,⟨⟨rfl,_,_,ty3⟩,⟨⟨rfl,_,_,ty3⟩,⟨⟨rfl,_,_,ty3⟩,⟨⟨rfl,_,_,wu⟩,trivial⟩⟩⟩⟩⟩⟩
theorem avK:wU prog [zEd "Path" 9 0 0,zEd "Version" 3 1 16] [(0,1),(1,1)]:=⟨⟨rfl,_,_,ty9⟩,⟨⟨rfl,_,_,ty3⟩,trivial⟩⟩
theorem atP:wU prog [zEd "N" 3 0 0,zEd "Kind" 3 1 8,zEd "Path" 9 2 16] [(0,1),(1,1),(2,1)]:=⟨⟨rfl,_,_,ty3⟩,⟨⟨rfl,_,_,ty3⟩,⟨⟨rfl,_,_,ty9⟩,trivial⟩⟩⟩
theorem avL:wU prog [zFd "epoch" 3 0 0 false "althing/store",zFd "members" 55 1 8 false "althing/store"] [(0,1),(1,1)]:=⟨⟨rfl,_,_,ty3⟩,⟨⟨rfl,_,_,agV⟩,trivial⟩⟩
theorem avM:wU prog [zFd "quorum" 149 0 0 true "althing/store",zFd "tree" 61 2 32 false "althing/store",zFd "table" 150 3 40 false "althing/store",zFd "hub" 151 4 48 false "althing/store"] [(0,2),(2,1),(3,1),(4,1)]:=⟨⟨rfl,_,_,afy⟩,⟨⟨rfl,_,_,adT⟩,⟨⟨rfl,_,_,afz⟩,⟨⟨rfl,_,_,afA⟩,trivial⟩⟩⟩⟩
theorem apT:wU prog [zFd "Stat" 26 0 0 true "",zFd "data" 24 4 32 false "althing/ztree"] [(0,4),(4,1)]:=⟨⟨rfl,_,_,wC⟩,⟨⟨rfl,_,_,wu⟩,trivial⟩⟩
theorem avN:wU prog [zFd "buffer" 219 0 0 true "althing/wire"] [(0,4)]:=⟨⟨rfl,_,_,agC⟩,trivial⟩
theorem avO:wU prog [zFd "b" 24 0 0 false "althing/wire",zFd "err" 22 1 24 false "althing/wire"] [(0,1),(1,1)]:=⟨⟨rfl,_,_,wu⟩,⟨⟨rfl,_,_,afV⟩,trivial⟩⟩
theorem atQ:wU prog [zFd "nodes" 237 0 0 false "althing/ztree"] [(0,1)]:=⟨⟨rfl,_,_,abx⟩,trivial⟩
theorem avP:wU prog [zFd "houses" 240 0 0 false "althing/session"] [(0,1)]:=⟨⟨rfl,_,_,afB⟩,trivial⟩
theorem avQ:wU prog [zFd "desks" 243 0 0 false "althing/watch"] [(0,1)]:=⟨⟨rfl,_,_,agD⟩,trivial⟩
theorem avR:wU prog [zFd "last" 3 0 0 false "althing/session",zFd "live" 252 1 8 false "althing/session"] [(0,1),(1,1)]:=⟨⟨rfl,_,_,ty3⟩,⟨⟨rfl,_,_,aeG⟩,trivial⟩⟩
theorem avS:wU prog [zFd "queue" 307 0 0 true "althing/watch",zFd "marks" 308 3 40 false "althing/watch"] [(0,3),(3,1)]:=⟨⟨rfl,_,_,ahR⟩,⟨⟨rfl,_,_,ajM⟩,trivial⟩⟩
theorem anx:wU prog [zFd "path" 9 0 0 false "althing/watch",zFd "kind" 3 1 16 false "althing/watch"] [(0,1),(1,1)]:=⟨⟨rfl,_,_,ty9⟩,⟨⟨rfl,_,_,ty3⟩,trivial⟩⟩
theorem atR:wU prog [zEd "Kind" 3 0 0,zEd "Path" 9 1 8] [(0,1),(1,1)]:=⟨⟨rfl,_,_,ty3⟩,⟨⟨rfl,_,_,ty9⟩,trivial⟩⟩
theorem apU:wU prog [zEd "Results" 23 0 0,zEd "Effects" 258 1 24,zEd "Bad" 3 2 48] [(0,1),(1,1),(2,1)]:=⟨⟨rfl,_,_,ae6⟩,⟨⟨rfl,_,_,ahQ⟩,⟨⟨rfl,_,_,ty3⟩,trivial⟩⟩⟩
theorem avT:wU prog [zFd "Outcome" 348 0 0 true "",zFd "t" 61 3 56 false "althing/multi",zFd "home" 9 4 64 false "althing/multi",zFd "owner" 3 5 80 false "althing/multi",zFd "q" 66 6 88 false "althing/multi"] [(0,3),(3,1),(4,1),(5,1),(6,2)]:=⟨⟨rfl,_,_,jC⟩,⟨⟨rfl,_,_,adT⟩,⟨⟨rfl,_,_,ty9⟩,⟨⟨rfl,_,_,ty3⟩,⟨⟨rfl,_,_,ac2⟩,trivial⟩⟩⟩⟩⟩
def acD(B:World)(ro:AH)(a0:Sl)(I:AH)(Q:Bool->AH->Prop):=
 qc prog B ro 7 #[Sl.v a0] I fun v I=> ∃(r0:Bool),v= .bool r0/\Q r0 I
def ac3(B:World)(ro:AH)(a0_0 a0_1:Int)(a0_2:Sl)(a0_3:Int)(a0_4:Sl)(a0_5 a0_6 a0_7 a0_8:Int)(a0_9 a0_10:Sl)(a0_11:Int)(I:AH)(Q:Sl->Int->AH->Prop):=
 qc prog B ro 12 #[.agg #[.int .i64 a0_0,.int .i64 a0_1,Sl.v a0_2,.int .i64 a0_3,Sl.v a0_4,.int .i64 a0_5,.int .i64 a0_6,.int .i64 a0_7,.int .i64 a0_8,Sl.v a0_9,Sl.v a0_10,.int .i64 a0_11]] I fun v I=> ∃(r0:Sl) (r1:Int),v= .tuple #[Sl.v r0,.int .i64 r1]/\Q r0 r1 I
def ac4(B:World)(ro:AH)(a0:Sl)(I:AH)(Q:Int->Int->Sl->Int->Sl->Int->Int->Int->Int->Sl->Sl->Int->Int->AH->Prop):=
 qc prog B ro 15 #[Sl.v a0] I fun v I=> ∃(r0_0:Int) (r0_1:Int) (r0_2:Sl) (r0_3:Int) (r0_4:Sl) (r0_5:Int) (r0_6:Int) (r0_7:Int) (r0_8:Int) (r0_9:Sl) (r0_10:Sl) (r0_11:Int) (r1:Int),v= .tuple #[.agg #[.int .i64 r0_0,.int .i64 r0_1,Sl.v r0_2,.int .i64 r0_3,Sl.v r0_4,.int .i64 r0_5,.int .i64 r0_6,.int .i64 r0_7,.int .i64 r0_8,Sl.v r0_9,Sl.v r0_10,.int .i64 r0_11],.int .i64 r1]/\Q r0_0 r0_1 r0_2 r0_3 r0_4 r0_5 r0_6 r0_7 r0_8 r0_9 r0_10 r0_11 r1 I
def adV(B:World)(ro:AH)(a0:Sl)(I:AH)(Q:Sl->AH->Prop):=
 qc prog B ro 16 #[Sl.v a0] I fun v I=> ∃(r0:Sl),v=Sl.v r0/\Q r0 I
def ae7(B:World)(ro I:AH)(Q:Bool->AH->Prop):Prop:=
 qc prog B ro 20 #[] I fun v I=> ∃(r0:Bool),v= .bool r0/\Q r0 I
def acE(B:World)(ro:AH)(a0:Sl)(I:AH)(Q:Option Addr->Int->AH->Prop):=
 qc prog B ro 21 #[Sl.v a0] I fun v I=> ∃(r0:Option Addr) (r1:Int),v= .tuple #[.pointer r0,.int .i64 r1]/\Q r0 r1 I
def jN(B:World)(ro:AH)(a0:Option Addr)(a1_0:Int)(a1_1:ByteArray)(a1_2 a1_3 a1_4 a1_5 a1_6 a1_7:Int)(a1_8:Sl)(a1_9:ByteArray)(a1_10:Bool)(a1_11:Int)(a1_12:Sl)(I:AH)(Q:Int->Int->Sl->Int->Sl->Int->Int->Int->Int->Sl->Sl->Int->AH->Prop):=
 qc prog B ro 22 #[.pointer a0,.agg #[.int .i64 a1_0,.string a1_1,.int .i64 a1_2,.int .i64 a1_3,.int .i64 a1_4,.int .i64 a1_5,.int .i64 a1_6,.int .i64 a1_7,Sl.v a1_8,.string a1_9,.bool a1_10,.int .i64 a1_11,Sl.v a1_12]] I fun v I=> ∃(r0_0:Int) (r0_1:Int) (r0_2:Sl) (r0_3:Int) (r0_4:Sl) (r0_5:Int) (r0_6:Int) (r0_7:Int) (r0_8:Int) (r0_9:Sl) (r0_10:Sl) (r0_11:Int),v= .agg #[.int .i64 r0_0,.int .i64 r0_1,Sl.v r0_2,.int .i64 r0_3,Sl.v r0_4,.int .i64 r0_5,.int .i64 r0_6,.int .i64 r0_7,.int .i64 r0_8,Sl.v r0_9,Sl.v r0_10,.int .i64 r0_11]/\Q r0_0 r0_1 r0_2 r0_3 r0_4 r0_5 r0_6 r0_7 r0_8 r0_9 r0_10 r0_11 I
def aeo(B:World)(ro:AH)(a0_0:Int)(a0_1:ByteArray)(a0_2 a0_3 a0_4 a0_5 a0_6 a0_7:Int)(a0_8:Sl)(a0_9:ByteArray)(a0_10:Bool)(a0_11:Int)(a0_12:Sl)(I:AH)(Q:Int->ByteArray->Int->Int->Int->Int->Int->Int->Sl->ByteArray->Bool->Int->Sl->AH->Prop):=
 qc prog B ro 23 #[.agg #[.int .i64 a0_0,.string a0_1,.int .i64 a0_2,.int .i64 a0_3,.int .i64 a0_4,.int .i64 a0_5,.int .i64 a0_6,.int .i64 a0_7,Sl.v a0_8,.string a0_9,.bool a0_10,.int .i64 a0_11,Sl.v a0_12]] I fun v I=> ∃(r0_0:Int) (r0_1:ByteArray) (r0_2:Int) (r0_3:Int) (r0_4:Int) (r0_5:Int) (r0_6:Int) (r0_7:Int) (r0_8:Sl) (r0_9:ByteArray) (r0_10:Bool) (r0_11:Int) (r0_12:Sl),v= .agg #[.int .i64 r0_0,.string r0_1,.int .i64 r0_2,.int .i64 r0_3,.int .i64 r0_4,.int .i64 r0_5,.int .i64 r0_6,.int .i64 r0_7,Sl.v r0_8,.string r0_9,.bool r0_10,.int .i64 r0_11,Sl.v r0_12]/\Q r0_0 r0_1 r0_2 r0_3 r0_4 r0_5 r0_6 r0_7 r0_8 r0_9 r0_10 r0_11 r0_12 I
def abK(B:World)(ro:AH)(a0:Option Addr)(I:AH)(Q:Option Addr->AH->Prop):=
 qc prog B ro 24 #[.pointer a0] I fun v I=> ∃(r0:Option Addr),v= .pointer r0/\Q r0 I
def xy(B:World)(ro:AH)(a0:Option Addr)(a1:ByteArray)(I:AH)(Q:Sl->Int->Int->Int->Int->Int->AH->Prop):=
 qc prog B ro 25 #[.pointer a0,.string a1] I fun v I=> ∃(r0:Sl) (r1_0:Int) (r1_1:Int) (r1_2:Int) (r1_3:Int) (r2:Int),v= .tuple #[Sl.v r0,.agg #[.int .i64 r1_0,.int .i64 r1_1,.int .i64 r1_2,.int .i64 r1_3],.int .i64 r2]/\Q r0 r1_0 r1_1 r1_2 r1_3 r2 I
def ae8(B:World)(ro:AH)(a0:Option Addr)(a1:Sl)(I:AH)(Q:Int->Int->AH->Prop):=
 qc prog B ro 26 #[.pointer a0,Sl.v a1] I fun v I=> ∃(r0_0:Int) (r0_1:Int),v= .agg #[.int .i64 r0_0,.int .i64 r0_1]/\Q r0_0 r0_1 I
def yo(B:World)(ro:AH)(a0:Option Addr)(a1:ByteArray)(I:AH)(Q:Sl->Int->AH->Prop):=
 qc prog B ro 27 #[.pointer a0,.string a1] I fun v I=> ∃(r0:Sl) (r1:Int),v= .tuple #[Sl.v r0,.int .i64 r1]/\Q r0 r1 I
def afX(B:World)(ro:AH)(a0:ByteArray)(I:AH)(Q:ByteArray->Bool->AH->Prop):=
 qc prog B ro 28 #[.string a0] I fun v I=> ∃(r0:ByteArray) (r1:Bool),v= .tuple #[.string r0,.bool r1]/\Q r0 r1 I
def ye(B:World)(ro:AH)(a0:Option Addr)(I:AH)(Q:Sl->AH->Prop):=
 qc prog B ro 29 #[.pointer a0] I fun v I=> ∃(r0:Sl),v=Sl.v r0/\Q r0 I
def afY(B:World)(ro:AH)(a0:ByteArray)(I:AH)(Q:Bool->AH->Prop):=
 qc prog B ro 37 #[.string a0] I fun v I=> ∃(r0:Bool),v= .bool r0/\Q r0 I
def aaJ(B:World)(ro I:AH)(Q:Option Addr->AH->Prop):Prop:=
 qc prog B ro 43 #[] I fun v I=> ∃(r0:Option Addr),v= .pointer r0/\Q r0 I
def wV(B:World)(ro:AH)(a0:Option Addr)(a1:Sl)(I:AH)(Q:AH->Prop):=
 qc prog B ro 44 #[.pointer a0,Sl.v a1] I fun v I=>v= .tuple #[]/\Q I
def vr(B:World)(ro:AH)(a0:Option Addr)(a1:Sl)(I:AH)(Q:AH->Prop):=
 qc prog B ro 45 #[.pointer a0,Sl.v a1] I fun v I=>v= .tuple #[]/\Q I
def jO(B:World)(ro:AH)(a0:Option Addr)(a1:Sl)(I:AH)(Q:AH->Prop):=
 qc prog B ro 46 #[.pointer a0,Sl.v a1] I fun v I=>v= .tuple #[]/\Q I
def aae(B:World)(ro:AH)(a0:Option Addr)(I:AH)(Q:Sl->Int->AH->Prop):=
 qc prog B ro 47 #[.pointer a0] I fun v I=> ∃(r0:Sl) (r1:Int),v= .tuple #[Sl.v r0,.int .i64 r1]/\Q r0 r1 I
def ai2(B:World)(ro:AH)(a0:Sl)(I:AH)(Q:Sl->AH->Prop):=
 qc prog B ro 50 #[Sl.v a0] I fun v I=> ∃(r0:Sl),v=Sl.v r0/\Q r0 I
def aaK(B:World)(ro:AH)(a0:Sl)(I:AH)(Q:Option Addr->AH->Prop):=
 qc prog B ro 53 #[Sl.v a0] I fun v I=> ∃(r0:Option Addr),v= .pointer r0/\Q r0 I
def qG(B:World)(ro:AH)(a0:Option Addr)(I:AH)(Q:Int->AH->Prop):=
 qc prog B ro 54 #[.pointer a0] I fun v I=> ∃(r0:Int),v= .int .i64 r0/\Q r0 I
def xD(B:World)(ro:AH)(a0:Option Addr)(I:AH)(Q:ByteArray->AH->Prop):=
 qc prog B ro 55 #[.pointer a0] I fun v I=> ∃(r0:ByteArray),v= .string r0/\Q r0 I
def yp(B:World)(ro:AH)(a0:Option Addr)(I:AH)(Q:Sl->AH->Prop):=
 qc prog B ro 56 #[.pointer a0] I fun v I=> ∃(r0:Sl),v=Sl.v r0/\Q r0 I
def aaf(B:World)(ro:AH)(a0:Option Addr)(I:AH)(Q:Int->AH->Prop):=
 qc prog B ro 57 #[.pointer a0] I fun v I=> ∃(r0:Int),v= .int .i64 r0/\Q r0 I
def uv(B:World)(ro:AH)(a0:Option Addr)(I:AH)(Q:Int->AH->Prop):=
 qc prog B ro 58 #[.pointer a0] I fun v I=> ∃(r0:Int),v= .int .i64 r0/\Q r0 I
def adW(B:World)(ro:AH)(a0:Option Addr)(I:AH)(Q:Int->AH->Prop):=
 qc prog B ro 62 #[.pointer a0] I fun v I=> ∃(r0:Int),v= .int .i64 r0/\Q r0 I
def acF(B:World)(ro:AH)(a0:Option Addr)(I:AH)(Q:Sl->AH->Prop):=
 qc prog B ro 63 #[.pointer a0] I fun v I=> ∃(r0:Sl),v=Sl.v r0/\Q r0 I
def ja(B:World)(ro:AH)(a0:Sl)(I:AH)(Q:Bool->AH->Prop):=
 qc prog B ro 64 #[Sl.v a0] I fun v I=> ∃(r0:Bool),v= .bool r0/\Q r0 I
def xq(B:World)(ro:AH)(a0:Sl)(I:AH)(Q:Sl->AH->Prop):=
 qc prog B ro 65 #[Sl.v a0] I fun v I=> ∃(r0:Sl),v=Sl.v r0/\Q r0 I
def agW(B:World)(ro I:AH)(Q:Option Addr->AH->Prop):Prop:=
 qc prog B ro 66 #[] I fun v I=> ∃(r0:Option Addr),v= .pointer r0/\Q r0 I
def aiD(B:World)(ro I:AH)(Q:Option Addr->AH->Prop):Prop:=
 qc prog B ro 67 #[] I fun v I=> ∃(r0:Option Addr),v= .pointer r0/\Q r0 I
def akg(B:World)(ro I:AH)(Q:Option Addr->AH->Prop):Prop:=
 qc prog B ro 68 #[] I fun v I=> ∃(r0:Option Addr),v= .pointer r0/\Q r0 I
def ux(B:World)(ro:AH)(a0:Option Addr)(a1_0:Int)(a1_1:ByteArray)(a1_2 a1_3 a1_4 a1_5 a1_6 a1_7:Int)(a1_8:Sl)(a1_9:ByteArray)(a1_10:Bool)(a1_11:Int)(a1_12:Sl)(I:AH)(Q:Int->Int->Sl->Int->Sl->Int->Int->Int->Int->Sl->Sl->Int->AH->Prop):=
 qc prog B ro 69 #[.pointer a0,.agg #[.int .i64 a1_0,.string a1_1,.int .i64 a1_2,.int .i64 a1_3,.int .i64 a1_4,.int .i64 a1_5,.int .i64 a1_6,.int .i64 a1_7,Sl.v a1_8,.string a1_9,.bool a1_10,.int .i64 a1_11,Sl.v a1_12]] I fun v I=> ∃(r0_0:Int) (r0_1:Int) (r0_2:Sl) (r0_3:Int) (r0_4:Sl) (r0_5:Int) (r0_6:Int) (r0_7:Int) (r0_8:Int) (r0_9:Sl) (r0_10:Sl) (r0_11:Int),v= .agg #[.int .i64 r0_0,.int .i64 r0_1,Sl.v r0_2,.int .i64 r0_3,Sl.v r0_4,.int .i64 r0_5,.int .i64 r0_6,.int .i64 r0_7,.int .i64 r0_8,Sl.v r0_9,Sl.v r0_10,.int .i64 r0_11]/\Q r0_0 r0_1 r0_2 r0_3 r0_4 r0_5 r0_6 r0_7 r0_8 r0_9 r0_10 r0_11 I
def uO(B:World)(ro:AH)(a0:Option Addr)(a1_0:ByteArray)(a1_1 a2:Int)(I:AH)(Q:Bool->AH->Prop):=
 qc prog B ro 70 #[.pointer a0,.agg #[.string a1_0,.int .i64 a1_1],.int .i64 a2] I fun v I=> ∃(r0:Bool),v= .bool r0/\Q r0 I
def vT(B:World)(ro:AH)(a0_0:Int)(a0_1:ByteArray)(a0_2 a0_3 a0_4 a0_5 a0_6 a0_7:Int)(a0_8:Sl)(a0_9:ByteArray)(a0_10:Bool)(a0_11:Int)(a0_12:Sl)(I:AH)(Q:ByteArray->Int->AH->Prop):=
 qc prog B ro 71 #[.agg #[.int .i64 a0_0,.string a0_1,.int .i64 a0_2,.int .i64 a0_3,.int .i64 a0_4,.int .i64 a0_5,.int .i64 a0_6,.int .i64 a0_7,Sl.v a0_8,.string a0_9,.bool a0_10,.int .i64 a0_11,Sl.v a0_12]] I fun v I=> ∃(r0_0:ByteArray) (r0_1:Int),v= .agg #[.string r0_0,.int .i64 r0_1]/\Q r0_0 r0_1 I
def wJ(B:World)(ro:AH)(a0:Int)(I:AH)(Q:Int->Int->Sl->Int->Sl->Int->Int->Int->Int->Sl->Sl->Int->AH->Prop):=
 qc prog B ro 72 #[.int .i64 a0] I fun v I=> ∃(r0_0:Int) (r0_1:Int) (r0_2:Sl) (r0_3:Int) (r0_4:Sl) (r0_5:Int) (r0_6:Int) (r0_7:Int) (r0_8:Int) (r0_9:Sl) (r0_10:Sl) (r0_11:Int),v= .agg #[.int .i64 r0_0,.int .i64 r0_1,Sl.v r0_2,.int .i64 r0_3,Sl.v r0_4,.int .i64 r0_5,.int .i64 r0_6,.int .i64 r0_7,.int .i64 r0_8,Sl.v r0_9,Sl.v r0_10,.int .i64 r0_11]/\Q r0_0 r0_1 r0_2 r0_3 r0_4 r0_5 r0_6 r0_7 r0_8 r0_9 r0_10 r0_11 I
def pW(B:World)(ro:AH)(a0:Option Addr)(a1_0:ByteArray)(a1_1:Int)(I:AH)(Q:AH->Prop):=
 qc prog B ro 73 #[.pointer a0,.agg #[.string a1_0,.int .i64 a1_1]] I fun v I=>v= .tuple #[]/\Q I
def aaL(B:World)(ro:AH)(a0:Option Addr)(a1_0:Int)(a1_1:ByteArray)(a1_2 a1_3 a1_4 a1_5 a1_6 a1_7:Int)(a1_8:Sl)(a1_9:ByteArray)(a1_10:Bool)(a1_11:Int)(a1_12:Sl)(I:AH)(Q:Int->Int->Sl->Int->Sl->Int->Int->Int->Int->Sl->Sl->Int->AH->Prop):=
 qc prog B ro 74 #[.pointer a0,.agg #[.int .i64 a1_0,.string a1_1,.int .i64 a1_2,.int .i64 a1_3,.int .i64 a1_4,.int .i64 a1_5,.int .i64 a1_6,.int .i64 a1_7,Sl.v a1_8,.string a1_9,.bool a1_10,.int .i64 a1_11,Sl.v a1_12]] I fun v I=> ∃(r0_0:Int) (r0_1:Int) (r0_2:Sl) (r0_3:Int) (r0_4:Sl) (r0_5:Int) (r0_6:Int) (r0_7:Int) (r0_8:Int) (r0_9:Sl) (r0_10:Sl) (r0_11:Int),v= .agg #[.int .i64 r0_0,.int .i64 r0_1,Sl.v r0_2,.int .i64 r0_3,Sl.v r0_4,.int .i64 r0_5,.int .i64 r0_6,.int .i64 r0_7,.int .i64 r0_8,Sl.v r0_9,Sl.v r0_10,.int .i64 r0_11]/\Q r0_0 r0_1 r0_2 r0_3 r0_4 r0_5 r0_6 r0_7 r0_8 r0_9 r0_10 r0_11 I
def aaM(B:World)(ro:AH)(a0:Option Addr)(a1_0:Int)(a1_1:ByteArray)(a1_2 a1_3 a1_4 a1_5 a1_6 a1_7:Int)(a1_8:Sl)(a1_9:ByteArray)(a1_10:Bool)(a1_11:Int)(a1_12:Sl)(I:AH)(Q:Int->Int->Sl->Int->Sl->Int->Int->Int->Int->Sl->Sl->Int->AH->Prop):=
 qc prog B ro 75 #[.pointer a0,.agg #[.int .i64 a1_0,.string a1_1,.int .i64 a1_2,.int .i64 a1_3,.int .i64 a1_4,.int .i64 a1_5,.int .i64 a1_6,.int .i64 a1_7,Sl.v a1_8,.string a1_9,.bool a1_10,.int .i64 a1_11,Sl.v a1_12]] I fun v I=> ∃(r0_0:Int) (r0_1:Int) (r0_2:Sl) (r0_3:Int) (r0_4:Sl) (r0_5:Int) (r0_6:Int) (r0_7:Int) (r0_8:Int) (r0_9:Sl) (r0_10:Sl) (r0_11:Int),v= .agg #[.int .i64 r0_0,.int .i64 r0_1,Sl.v r0_2,.int .i64 r0_3,Sl.v r0_4,.int .i64 r0_5,.int .i64 r0_6,.int .i64 r0_7,.int .i64 r0_8,Sl.v r0_9,Sl.v r0_10,.int .i64 r0_11]/\Q r0_0 r0_1 r0_2 r0_3 r0_4 r0_5 r0_6 r0_7 r0_8 r0_9 r0_10 r0_11 I
def ac5(B:World)(ro:AH)(a0:Sl)(I:AH)(Q:Sl->AH->Prop):=
 qc prog B ro 76 #[Sl.v a0] I fun v I=> ∃(r0:Sl),v=Sl.v r0/\Q r0 I
def aca(B:World)(ro:AH)(a0:Sl)(I:AH)(Q:Option Addr->Int->AH->Prop):=
 qc prog B ro 77 #[Sl.v a0] I fun v I=> ∃(r0:Option Addr) (r1:Int),v= .tuple #[.pointer r0,.int .i64 r1]/\Q r0 r1 I
def pX(B:World)(ro:AH)(a0:Option Addr)(I:AH)(Q:Sl->AH->Prop):=
 qc prog B ro 78 #[.pointer a0] I fun v I=> ∃(r0:Sl),v=Sl.v r0/\Q r0 I
def yT(B:World)(ro:AH)(a0:Option Addr)(a1:ByteArray)(I:AH)(Q:Option Addr->Int->AH->Prop):=
 qc prog B ro 79 #[.pointer a0,.string a1] I fun v I=> ∃(r0:Option Addr) (r1:Int),v= .tuple #[.pointer r0,.int .i64 r1]/\Q r0 r1 I
def vY(B:World)(ro:AH)(a0:Sl)(I:AH)(Q:Sl->AH->Prop):=
 qc prog B ro 80 #[Sl.v a0] I fun v I=> ∃(r0:Sl),v=Sl.v r0/\Q r0 I
def po(B:World)(ro:AH)(a0:ByteArray)(I:AH)(Q:ByteArray->Int->AH->Prop):=
 qc prog B ro 81 #[.string a0] I fun v I=> ∃(r0:ByteArray) (r1:Int),v= .tuple #[.string r0,.int .i64 r1]/\Q r0 r1 I
def vz(B:World)(ro:AH)(a0:ByteArray)(I:AH)(Q:Int->AH->Prop):=
 qc prog B ro 82 #[.string a0] I fun v I=> ∃(r0:Int),v= .int .i64 r0/\Q r0 I
def xr(B:World)(ro:AH)(a0:Sl)(a1:Value)(I:AH)(Q:Sl->AH->Prop):=
 qc prog B ro 83 #[Sl.v a0,a1] I fun v I=> ∃(r0:Sl),v=Sl.v r0/\Q r0 I
def xF(B:World)(ro:AH)(a0:Option Addr)(I:AH)(Q:Sl->AH->Prop):=
 qc prog B ro 84 #[.pointer a0] I fun v I=> ∃(r0:Sl),v=Sl.v r0/\Q r0 I
def adA(B:World)(ro:AH)(a0:ByteArray)(a1:Addr)(I:AH)(Q:Bool->AH->Prop):=
 qc prog B ro 85 #[.string a0,.pointer (some a1)] I fun v I=> ∃(r0:Bool),v= .bool r0/\Q r0 I
def afZ(B:World)(ro:AH)(a0 a1:ByteArray)(I:AH)(Q:Bool->Int->AH->Prop):=
 qc prog B ro 86 #[.string a0,.string a1] I fun v I=> ∃(r0:Bool) (r1:Int),v= .tuple #[.bool r0,.int .i64 r1]/\Q r0 r1 I
def xx(B:World)(ro:AH)(a0:ByteArray)(I:AH)(Q:Sl->Bool->AH->Prop):=
 qc prog B ro 87 #[.string a0] I fun v I=> ∃(r0:Sl) (r1:Bool),v= .tuple #[Sl.v r0,.bool r1]/\Q r0 r1 I
theorem ai3{a0:ByteArray}{Q Q':Sl->Bool->AH->Prop}(h:xx B ro a0 I Q)(hq:∀ r0 r1 I,Sep ro I->Q r0 r1 I->Q' r0 r1 I):xx B ro a0 I Q':=
 qc.monoS h fun v I hs ⟨r0,r1,hv,q⟩=>⟨r0,r1,hv,hq _ _ I hs q⟩
theorem aiI{B:World}{ro ψ:AH}{a0:ByteArray}{Q:Sl->Bool->AH->Prop}(h:xx B ro a0 I Q)(hd:qJ I ψ):xx B ro a0 (join I ψ) fun r0 r1 I=> ∃τ,I=join τ ψ/\qJ τ ψ/\Q r0 r1 τ:=
 (qc.frame h hd).mono fun v I ⟨τ,h1,h2,r0,r1,hv,q⟩=>⟨r0,r1,hv,⟨τ,h1,h2,q⟩⟩
def aaN(B:World)(ro:AH)(a0:Option Addr)(a1:Sl)(I:AH)(Q:Sl->AH->Prop):=
 qc prog B ro 88 #[.pointer a0,Sl.v a1] I fun v I=> ∃(r0:Sl),v=Sl.v r0/\Q r0 I
def abk(B:World)(ro:AH)(a0:Option Addr)(a1_0:ByteArray)(a1_1:Int)(I:AH)(Q:ByteArray->Int->Int->Int->Int->Int->Sl->Int->AH->Prop):=
 qc prog B ro 89 #[.pointer a0,.agg #[.string a1_0,.int .i64 a1_1]] I fun v I=> ∃(r0_0:ByteArray) (r0_1:Int) (r0_2:Int) (r0_3:Int) (r0_4:Int) (r0_5:Int) (r0_6:Sl) (r1:Int),v= .tuple #[.agg #[.string r0_0,.int .i64 r0_1,.int .i64 r0_2,.int .i64 r0_3,.int .i64 r0_4,.int .i64 r0_5,Sl.v r0_6],.int .i64 r1]/\Q r0_0 r0_1 r0_2 r0_3 r0_4 r0_5 r0_6 r1 I
def pq(B:World)(ro:AH)(a0:ByteArray)(I:AH)(Q:Bool->AH->Prop):=
 qc prog B ro 99 #[.string a0] I fun v I=> ∃(r0:Bool),v= .bool r0/\Q r0 I
def yU(B:World)(ro:AH)(a0:Option Addr)(a1:Int)(I:AH)(Q:AH->Prop):=
 qc prog B ro 114 #[.pointer a0,.int .i64 a1] I fun v I=>v= .tuple #[]/\Q I
def yO(B:World)(ro:AH)(a0:Option Addr)(a1:ByteArray)(I:AH)(Q:Int->Value->AH->Prop):=
 qc prog B ro 115 #[.pointer a0,.string a1] I fun v I=> ∃(r0:Int) (r1:Value),v= .tuple #[.int .i64 r0,r1]/\Q r0 r1 I
def pd(B:World)(ro:AH)(a0:Option Addr)(a1:Sl)(I:AH)(Q:Int->Value->AH->Prop):=
 qc prog B ro 116 #[.pointer a0,Sl.v a1] I fun v I=> ∃(r0:Int) (r1:Value),v= .tuple #[.int .i64 r0,r1]/\Q r0 r1 I
def adX(B:World)(ro:AH)(a0:Option Addr)(I:AH)(Q:Sl->AH->Prop):=
 qc prog B ro 117 #[.pointer a0] I fun v I=> ∃(r0:Sl),v=Sl.v r0/\Q r0 I
def ae9(B:World)(ro:AH)(a0:Sl)(a1:Int)(I:AH)(Q:Int->Int->Int->AH->Prop):=
 qc prog B ro 119 #[Sl.v a0,.int .i64 a1] I fun v I=> ∃(r0:Int) (r1:Int) (r2:Int),v= .tuple #[.int .i64 r0,.int .i64 r1,.int .i64 r2]/\Q r0 r1 r2 I
def jb(B:World)(ro:AH)(a0:Option Addr)(a1:ByteArray)(a2 a3:Int)(I:AH)(Q:Int->Bool->Int->AH->Prop):=
 qc prog B ro 121 #[.pointer a0,.string a1,.int .i64 a2,.int .i64 a3] I fun v I=> ∃(r0:Int) (r1:Bool) (r2:Int),v= .tuple #[.int .i64 r0,.bool r1,.int .i64 r2]/\Q r0 r1 r2 I
def jP(B:World)(ro:AH)(a0:Option Addr)(a1:ByteArray)(a2:Sl)(a3:Int)(a4:Bool)(I:AH)(Q:ByteArray->Int->AH->Prop):=
 qc prog B ro 122 #[.pointer a0,.string a1,Sl.v a2,.int .i64 a3,.bool a4] I fun v I=> ∃(r0:ByteArray) (r1:Int),v= .tuple #[.string r0,.int .i64 r1]/\Q r0 r1 I
def vd(B:World)(ro:AH)(a0:Option Addr)(a1_0:ByteArray)(a1_1:Int)(I:AH)(Q:Option Addr->Int->AH->Prop):=
 qc prog B ro 123 #[.pointer a0,.agg #[.string a1_0,.int .i64 a1_1]] I fun v I=> ∃(r0:Option Addr) (r1:Int),v= .tuple #[.pointer r0,.int .i64 r1]/\Q r0 r1 I
def ac6(B:World)(ro:AH)(a0:Option Addr)(a1:Sl)(I:AH)(Q:AH->Prop):=
 qc prog B ro 124 #[.pointer a0,Sl.v a1] I fun v I=>v= .tuple #[]/\Q I
def aaO(B:World)(ro:AH)(a0:Option Addr)(a1:Sl)(I:AH)(Q:Int->AH->Prop):=
 qc prog B ro 125 #[.pointer a0,Sl.v a1] I fun v I=> ∃(r0:Int),v= .int .i64 r0/\Q r0 I
def aa9(B:World)(ro:AH)(a0:Option Addr)(a1:ByteArray)(a2:Sl)(I:AH)(Q:Sl->AH->Prop):=
 qc prog B ro 126 #[.pointer a0,.string a1,Sl.v a2] I fun v I=> ∃(r0:Sl),v=Sl.v r0/\Q r0 I
def aam(B:World)(ro:AH)(a0:Option Addr)(a1_0:ByteArray)(a1_1 a2:Int)(I:AH)(Q:Sl->Bool->Int->AH->Prop):=
 qc prog B ro 127 #[.pointer a0,.agg #[.string a1_0,.int .i64 a1_1],.int .i64 a2] I fun v I=> ∃(r0:Sl) (r1:Bool) (r2:Int),v= .tuple #[Sl.v r0,.bool r1,.int .i64 r2]/\Q r0 r1 r2 I
def jp(B:World)(ro:AH)(a0:Option Addr)(a1_0:ByteArray)(a1_1:Int)(I:AH)(Q:Sl->AH->Prop):=
 qc prog B ro 128 #[.pointer a0,.agg #[.string a1_0,.int .i64 a1_1]] I fun v I=> ∃(r0:Sl),v=Sl.v r0/\Q r0 I
def adY(B:World)(ro:AH)(a0:Option Addr)(a1_0:ByteArray)(a1_1 a2:Int)(I:AH)(Q:Int->AH->Prop):=
 qc prog B ro 129 #[.pointer a0,.agg #[.string a1_0,.int .i64 a1_1],.int .i64 a2] I fun v I=> ∃(r0:Int),v= .int .i64 r0/\Q r0 I
def aan(B:World)(ro:AH)(a0:Option Addr)(a1_0:ByteArray)(a1_1:Int)(I:AH)(Q:Int->AH->Prop):=
 qc prog B ro 130 #[.pointer a0,.agg #[.string a1_0,.int .i64 a1_1]] I fun v I=> ∃(r0:Int),v= .int .i64 r0/\Q r0 I
def ac7(B:World)(ro:AH)(a0:Option Addr)(a1_0:Int)(a1_1:ByteArray)(a1_2 a1_3 a1_4 a1_5 a1_6 a1_7:Int)(a1_8:Sl)(a1_9:ByteArray)(a1_10:Bool)(a1_11:Int)(a1_12:Sl)(I:AH)(Q:Int->Int->Sl->Int->Sl->Int->Int->Int->Int->Sl->Sl->Int->AH->Prop):=
 qc prog B ro 131 #[.pointer a0,.agg #[.int .i64 a1_0,.string a1_1,.int .i64 a1_2,.int .i64 a1_3,.int .i64 a1_4,.int .i64 a1_5,.int .i64 a1_6,.int .i64 a1_7,Sl.v a1_8,.string a1_9,.bool a1_10,.int .i64 a1_11,Sl.v a1_12]] I fun v I=> ∃(r0_0:Int) (r0_1:Int) (r0_2:Sl) (r0_3:Int) (r0_4:Sl) (r0_5:Int) (r0_6:Int) (r0_7:Int) (r0_8:Int) (r0_9:Sl) (r0_10:Sl) (r0_11:Int),v= .agg #[.int .i64 r0_0,.int .i64 r0_1,Sl.v r0_2,.int .i64 r0_3,Sl.v r0_4,.int .i64 r0_5,.int .i64 r0_6,.int .i64 r0_7,.int .i64 r0_8,Sl.v r0_9,Sl.v r0_10,.int .i64 r0_11]/\Q r0_0 r0_1 r0_2 r0_3 r0_4 r0_5 r0_6 r0_7 r0_8 r0_9 r0_10 r0_11 I
def pY(B:World)(ro:AH)(a0:Option Addr)(a1_0:ByteArray)(a1_1 a2:Int)(a3:Sl)(I:AH)(Q:Int->AH->Prop):=
 qc prog B ro 132 #[.pointer a0,.agg #[.string a1_0,.int .i64 a1_1],.int .i64 a2,Sl.v a3] I fun v I=> ∃(r0:Int),v= .int .i64 r0/\Q r0 I
def ac8(B:World)(ro:AH)(a0:Option Addr)(a1 a2:ByteArray)(a3:Option Addr)(I:AH)(Q:Bool->AH->Prop):=
 qc prog B ro 133 #[.pointer a0,.string a1,.string a2,.pointer a3] I fun v I=> ∃(r0:Bool),v= .bool r0/\Q r0 I
def vA(B:World)(ro:AH)(a0:ByteArray)(I:AH)(Q:Sl->Int->AH->Prop):=
 qc prog B ro 134 #[.string a0] I fun v I=> ∃(r0:Sl) (r1:Int),v= .tuple #[Sl.v r0,.int .i64 r1]/\Q r0 r1 I
theorem ajZ{a0:ByteArray}{Q Q':Sl->Int->AH->Prop}(h:vA B ro a0 I Q)(hq:∀ r0 r1 I,Sep ro I->Q r0 r1 I->Q' r0 r1 I):vA B ro a0 I Q':=
 qc.monoS h fun v I hs ⟨r0,r1,hv,q⟩=>⟨r0,r1,hv,hq _ _ I hs q⟩
theorem ai4{B:World}{ro ψ:AH}{a0:ByteArray}{Q:Sl->Int->AH->Prop}(h:vA B ro a0 I Q)(hd:qJ I ψ):vA B ro a0 (join I ψ) fun r0 r1 I=> ∃τ,I=join τ ψ/\qJ τ ψ/\Q r0 r1 τ:=
 (qc.frame h hd).mono fun v I ⟨τ,h1,h2,r0,r1,hv,q⟩=>⟨r0,r1,hv,⟨τ,h1,h2,q⟩⟩
def pK(B:World)(ro:AH)(a0:Sl)(a1:Value)(I:AH)(Q:Int->AH->Prop):=
 qc prog B ro 135 #[Sl.v a0,a1] I fun v I=> ∃(r0:Int),v= .int .i64 r0/\Q r0 I
def yf(B:World)(ro:AH)(a0:Value)(I:AH)(Q:Sl->AH->Prop):=
 qc prog B ro 136 #[a0] I fun v I=> ∃(r0:Sl),v=Sl.v r0/\Q r0 I
def acG(B:World)(ro:AH)(a0:Option Nat)(I:AH)(Q:Value->AH->Prop):=
 qc prog B ro 137 #[.map a0] I fun v I=> ∃(r0:Value),v=r0/\Q r0 I
def pZ(B:World)(ro:AH)(a0 a1:ByteArray)(I:AH)(Q:Bool->AH->Prop):=
 qc prog B ro 138 #[.string a0,.string a1] I fun v I=> ∃(r0:Bool),v= .bool r0/\Q r0 I
def aao(B:World)(ro:AH)(a0:Option Addr)(I:AH)(Q:Sl->AH->Prop):=
 qc prog B ro 139 #[.pointer a0] I fun v I=> ∃(r0:Sl),v=Sl.v r0/\Q r0 I
def adH(B:World)(ro:AH)(a0:Sl)(a1:ByteArray)(I:AH)(Q:Bool->AH->Prop):=
 qc prog B ro 140 #[Sl.v a0,.string a1] I fun v I=> ∃(r0:Bool),v= .bool r0/\Q r0 I
def ui(B:World)(ro:AH)(a0:Option Addr)(I:AH)(Q:Sl->AH->Prop):=
 qc prog B ro 141 #[.pointer a0] I fun v I=> ∃(r0:Sl),v=Sl.v r0/\Q r0 I
def adZ(B:World)(ro:AH)(a0:Int)(I:AH)(Q:Bool->AH->Prop):=
 qc prog B ro 174 #[.int .i64 a0] I fun v I=> ∃(r0:Bool),v= .bool r0/\Q r0 I
def ahS(B:World)(ro:AH)(a0:Sl)(a1:Int)(I:AH)(Q:Sl->AH->Prop):=
 qc prog B ro 175 #[Sl.v a0,.int .i64 a1] I fun v I=> ∃(r0:Sl),v=Sl.v r0/\Q r0 I
def zY(B:World)(ro:AH)(a0:Option Addr)(a1:Int)(I:AH)(Q:Int->Bool->AH->Prop):=
 qc prog B ro 176 #[.pointer a0,.int .i64 a1] I fun v I=> ∃(r0:Int) (r1:Bool),v= .tuple #[.int .i64 r0,.bool r1]/\Q r0 r1 I
def ua(B:World)(ro:AH)(a0:Option Addr)(a1:Int)(I:AH)(Q:Int->AH->Prop):=
 qc prog B ro 177 #[.pointer a0,.int .i64 a1] I fun v I=> ∃(r0:Int),v= .int .i64 r0/\Q r0 I
def aaP(B:World)(ro:AH)(a0:Int)(I:AH)(Q:Bool->AH->Prop):=
 qc prog B ro 178 #[.int .i64 a0] I fun v I=> ∃(r0:Bool),v= .bool r0/\Q r0 I
def yP(B:World)(ro:AH)(a0:ByteArray)(I:AH)(Q:ByteArray->Int->AH->Prop):=
 qc prog B ro 179 #[.string a0] I fun v I=> ∃(r0:ByteArray) (r1:Int),v= .tuple #[.string r0,.int .i64 r1]/\Q r0 r1 I
def afa(B:World)(ro:AH)(a0:ByteArray)(a1:Int)(I:AH)(Q:ByteArray->Int->AH->Prop):=
 qc prog B ro 180 #[.string a0,.int .i64 a1] I fun v I=> ∃(r0:ByteArray) (r1:Int),v= .tuple #[.string r0,.int .i64 r1]/\Q r0 r1 I
def pL(B:World)(ro:AH)(a0:Option Addr)(a1_0:ByteArray)(a1_1 a2:Int)(I:AH)(Q:Int->AH->Prop):=
 qc prog B ro 181 #[.pointer a0,.agg #[.string a1_0,.int .i64 a1_1],.int .i64 a2] I fun v I=> ∃(r0:Int),v= .int .i64 r0/\Q r0 I
def adI(B:World)(ro:AH)(a0:Sl)(I:AH)(Q:Value->AH->Prop):=
 qc prog B ro 182 #[Sl.v a0] I fun v I=> ∃(r0:Value),v=r0/\Q r0 I
def abL(B:World)(ro:AH)(a0:Option Addr)(a1:Sl)(I:AH)(Q:Sl->AH->Prop):=
 qc prog B ro 183 #[.pointer a0,Sl.v a1] I fun v I=> ∃(r0:Sl),v=Sl.v r0/\Q r0 I
def jQ(B:World)(ro:AH)(a0:Option Addr)(a1:ByteArray)(a2:Int)(I:AH)(Q:Int->AH->Prop):=
 qc prog B ro 184 #[.pointer a0,.string a1,.int .i64 a2] I fun v I=> ∃(r0:Int),v= .int .i64 r0/\Q r0 I
def yQ(B:World)(ro:AH)(a0:Sl)(I:AH)(Q:Sl->AH->Prop):=
 qc prog B ro 185 #[Sl.v a0] I fun v I=> ∃(r0:Sl),v=Sl.v r0/\Q r0 I
def abM(B:World)(ro:AH)(a0:Option Addr)(a1_0:ByteArray)(a1_1:Int)(I:AH)(Q:Int->Int->AH->Prop):=
 qc prog B ro 186 #[.pointer a0,.agg #[.string a1_0,.int .i64 a1_1]] I fun v I=> ∃(r0:Int) (r1:Int),v= .tuple #[.int .i64 r0,.int .i64 r1]/\Q r0 r1 I
def aco(B:World)(ro:AH)(a0:Option Addr)(a1:Int)(I:AH)(Q:AH->Prop):=
 qc prog B ro 187 #[.pointer a0,.int .i64 a1] I fun v I=>v= .tuple #[]/\Q I
def aap(B:World)(ro:AH)(a0:Option Addr)(a1:Sl)(I:AH)(Q:Int->AH->Prop):=
 qc prog B ro 188 #[.pointer a0,Sl.v a1] I fun v I=> ∃(r0:Int),v= .int .i64 r0/\Q r0 I
def acU(B:World)(ro:AH)(a0:Option Addr)(a1:ByteArray)(a2 a3_0 a3_1:Int)(a4:Sl)(I:AH)(Q:Sl->Sl->Int->Int->AH->Prop):=
 qc prog B ro 189 #[.pointer a0,.string a1,.int .i64 a2,.agg #[.int .i64 a3_0,.int .i64 a3_1],Sl.v a4] I fun v I=> ∃(r0_0:Sl) (r0_1:Sl) (r0_2:Int) (r1:Int),v= .tuple #[.agg #[Sl.v r0_0,Sl.v r0_1,.int .i64 r0_2],.int .i64 r1]/\Q r0_0 r0_1 r0_2 r1 I
def afb(B:World)(ro I:AH)(Q:Int->Int->AH->Prop):Prop:=
 qc prog B ro 190 #[] I fun v I=> ∃(r0_0:Int) (r0_1:Int),v= .agg #[.int .i64 r0_0,.int .i64 r0_1]/\Q r0_0 r0_1 I
def acp(B:World)(ro:AH)(a0:Option Addr)(a1_0:Int)(a1_1:ByteArray)(a1_2 a1_3 a1_4 a1_5 a1_6 a1_7:Int)(a1_8:Sl)(a1_9:ByteArray)(a1_10:Bool)(a1_11:Int)(a1_12:Sl)(I:AH)(Q:Int->Int->Sl->Int->Sl->Int->Int->Int->Int->Sl->Sl->Int->AH->Prop):=
 qc prog B ro 191 #[.pointer a0,.agg #[.int .i64 a1_0,.string a1_1,.int .i64 a1_2,.int .i64 a1_3,.int .i64 a1_4,.int .i64 a1_5,.int .i64 a1_6,.int .i64 a1_7,Sl.v a1_8,.string a1_9,.bool a1_10,.int .i64 a1_11,Sl.v a1_12]] I fun v I=> ∃(r0_0:Int) (r0_1:Int) (r0_2:Sl) (r0_3:Int) (r0_4:Sl) (r0_5:Int) (r0_6:Int) (r0_7:Int) (r0_8:Int) (r0_9:Sl) (r0_10:Sl) (r0_11:Int),v= .agg #[.int .i64 r0_0,.int .i64 r0_1,Sl.v r0_2,.int .i64 r0_3,Sl.v r0_4,.int .i64 r0_5,.int .i64 r0_6,.int .i64 r0_7,.int .i64 r0_8,Sl.v r0_9,Sl.v r0_10,.int .i64 r0_11]/\Q r0_0 r0_1 r0_2 r0_3 r0_4 r0_5 r0_6 r0_7 r0_8 r0_9 r0_10 r0_11 I
def abN(B:World)(ro:AH)(a0:Option Addr)(a1_0:Int)(a1_1:ByteArray)(a1_2 a1_3 a1_4 a1_5 a1_6 a1_7:Int)(a1_8:Sl)(a1_9:ByteArray)(a1_10:Bool)(a1_11:Int)(a1_12:Sl)(I:AH)(Q:Int->Int->Sl->Int->Sl->Int->Int->Int->Int->Sl->Sl->Int->AH->Prop):=
 qc prog B ro 192 #[.pointer a0,.agg #[.int .i64 a1_0,.string a1_1,.int .i64 a1_2,.int .i64 a1_3,.int .i64 a1_4,.int .i64 a1_5,.int .i64 a1_6,.int .i64 a1_7,Sl.v a1_8,.string a1_9,.bool a1_10,.int .i64 a1_11,Sl.v a1_12]] I fun v I=> ∃(r0_0:Int) (r0_1:Int) (r0_2:Sl) (r0_3:Int) (r0_4:Sl) (r0_5:Int) (r0_6:Int) (r0_7:Int) (r0_8:Int) (r0_9:Sl) (r0_10:Sl) (r0_11:Int),v= .agg #[.int .i64 r0_0,.int .i64 r0_1,Sl.v r0_2,.int .i64 r0_3,Sl.v r0_4,.int .i64 r0_5,.int .i64 r0_6,.int .i64 r0_7,.int .i64 r0_8,Sl.v r0_9,Sl.v r0_10,.int .i64 r0_11]/\Q r0_0 r0_1 r0_2 r0_3 r0_4 r0_5 r0_6 r0_7 r0_8 r0_9 r0_10 r0_11 I
def agE(B:World)(ro:AH)(a0 a1:ByteArray)(I:AH)(Q:Sl->AH->Prop):=
 qc prog B ro 193 #[.string a0,.string a1] I fun v I=> ∃(r0:Sl),v=Sl.v r0/\Q r0 I
def acn(B:World)(ro:AH)(a0 a1:ByteArray)(I:AH)(Q:Bool->AH->Prop):=
 qc prog B ro 197 #[.string a0,.string a1] I fun v I=> ∃(r0:Bool),v= .bool r0/\Q r0 I
def aby(B:World)(ro:AH)(a0:Option Nat)(I:AH)(Q:Value->AH->Prop):=
 qc prog B ro 198 #[.map a0] I fun v I=> ∃(r0:Value),v=r0/\Q r0 I
def aei(B:World)(ro:AH)(a0:Value)(I:AH)(Q:Sl->AH->Prop):=
 qc prog B ro 200 #[a0] I fun v I=> ∃(r0:Sl),v=Sl.v r0/\Q r0 I
def aaD(B:World)(ro:AH)(a0:Option Nat)(I:AH)(Q:Value->AH->Prop):=
 qc prog B ro 201 #[.map a0] I fun v I=> ∃(r0:Value),v=r0/\Q r0 I
def pf(B:World)(ro:AH)(a0:Sl)(a1:Int)(I:AH)(Q:Bool->AH->Prop):=
 qc prog B ro 205 #[Sl.v a0,.int .i64 a1] I fun v I=> ∃(r0:Bool),v= .bool r0/\Q r0 I
def afc(B:World)(ro:AH)(a0_0:ByteArray)(a0_1:Int)(a1_0:ByteArray)(a1_1:Int)(I:AH)(Q:Int->AH->Prop):=
 qc prog B ro 221 #[.agg #[.string a0_0,.int .i64 a0_1],.agg #[.string a1_0,.int .i64 a1_1]] I fun v I=> ∃(r0:Int),v= .int .i64 r0/\Q r0 I
def acq(B:World)(ro:AH)(a0:Option Addr)(a1:Int)(a2:ByteArray)(I:AH)(Q:AH->Prop):=
 qc prog B ro 222 #[.pointer a0,.int .i64 a1,.string a2] I fun v I=>v= .tuple #[]/\Q I
def aeR(B:World)(ro:AH)(a0:Option Addr)(I:AH)(Q:Int->AH->Prop):=
 qc prog B ro 224 #[.pointer a0] I fun v I=> ∃(r0:Int),v= .int .i64 r0/\Q r0 I
def ahT(B:World)(ro:AH)(a0:Option Addr)(I:AH)(Q:AH->Prop):=
 qc prog B ro 225 #[.pointer a0] I fun v I=>v= .tuple #[]/\Q I
def afv(B:World)(ro:AH)(a0:Sl)(a1:Int)(I:AH)(Q:Sl->AH->Prop):=
 qc prog B ro 226 #[Sl.v a0,.int .i64 a1] I fun v I=> ∃(r0:Sl),v=Sl.v r0/\Q r0 I
def jD(B:World)(ro:AH)(a0:ByteArray)(a1:Int)(I:AH)(Q:Int->AH->Prop):=
 qc prog B ro 227 #[.string a0,.int .u8 a1] I fun v I=> ∃(r0:Int),v= .int .i64 r0/\Q r0 I
def ahm(B:World)(ro:AH)(a0:Int)(I:AH)(Q:ByteArray->AH->Prop):=
 qc prog B ro 228 #[.int .i64 a0] I fun v I=> ∃(r0:ByteArray),v= .string r0/\Q r0 I
def af0(B:World)(ro:AH)(a0:ByteArray)(a1:Int)(I:AH)(Q:ByteArray->AH->Prop):=
 qc prog B ro 229 #[.string a0,.int .i64 a1] I fun v I=> ∃(r0:ByteArray),v= .string r0/\Q r0 I
def uy(B:World)(ro:AH)(a0:Option Addr)(a1:ByteArray)(a2:Int)(I:AH)(Q:Option Addr->Int->AH->Prop):=
 qc prog B ro 231 #[.pointer a0,.string a1,.int .i64 a2] I fun v I=> ∃(r0:Option Addr) (r1:Int),v= .tuple #[.pointer r0,.int .i64 r1]/\Q r0 r1 I
def xU(B:World)(ro:AH)(a0:Sl)(a1:Value)(I:AH)(Q:Sl->AH->Prop):=
 qc prog B ro 232 #[Sl.v a0,a1] I fun v I=> ∃(r0:Sl),v=Sl.v r0/\Q r0 I
def ad0(B:World)(ro:AH)(a0_0 a0_1:Int)(a0_2:ByteArray)(a1:Addr)(I:AH)(Q:Bool->AH->Prop):=
 qc prog B ro 233 #[.agg #[.int .i64 a0_0,.int .i64 a0_1,.string a0_2],.pointer (some a1)] I fun v I=> ∃(r0:Bool),v= .bool r0/\Q r0 I
def ad1(B:World)(ro:AH)(a0:Option Addr)(a1_0:Int)(a1_1:ByteArray)(a1_2:Sl)(a1_3:Int)(a1_4 a1_5:Bool)(I:AH)(Q:Int->AH->Prop):=
 qc prog B ro 234 #[.pointer a0,.agg #[.int .i64 a1_0,.string a1_1,Sl.v a1_2,.int .i64 a1_3,.bool a1_4,.bool a1_5]] I fun v I=> ∃(r0:Int),v= .int .i64 r0/\Q r0 I
def afC(B:World)(ro:AH)(a0_0:Int)(a0_1:ByteArray)(a0_2 a0_3 a0_4 a0_5 a0_6 a0_7:Int)(a0_8:Sl)(a0_9:ByteArray)(a0_10:Bool)(a0_11:Int)(a0_12:Sl)(I:AH)(Q:Int->AH->Prop):=
 qc prog B ro 235 #[.agg #[.int .i64 a0_0,.string a0_1,.int .i64 a0_2,.int .i64 a0_3,.int .i64 a0_4,.int .i64 a0_5,.int .i64 a0_6,.int .i64 a0_7,Sl.v a0_8,.string a0_9,.bool a0_10,.int .i64 a0_11,Sl.v a0_12]] I fun v I=> ∃(r0:Int),v= .int .i64 r0/\Q r0 I
def uz(B:World)(ro:AH)(a0:Option Addr)(a1_0:ByteArray)(a1_1 a2:Int)(a3:ByteArray)(I:AH)(Q:Int->AH->Prop):=
 qc prog B ro 236 #[.pointer a0,.agg #[.string a1_0,.int .i64 a1_1],.int .i64 a2,.string a3] I fun v I=> ∃(r0:Int),v= .int .i64 r0/\Q r0 I
def aaq(B:World)(ro:AH)(a0:Option Addr)(a1:ByteArray)(I:AH)(Q:Sl->Int->AH->Prop):=
 qc prog B ro 237 #[.pointer a0,.string a1] I fun v I=> ∃(r0:Sl) (r1:Int),v= .tuple #[Sl.v r0,.int .i64 r1]/\Q r0 r1 I
def acH(B:World)(ro:AH)(a0:Sl)(a1:Int)(I:AH)(Q:Int->AH->Prop):=
 qc prog B ro 246 #[Sl.v a0,.int .i64 a1] I fun v I=> ∃(r0:Int),v= .int .i64 r0/\Q r0 I
def aab(B:World)(ro:AH)(a0:ByteArray)(a1:Int)(I:AH)(Q:Int->AH->Prop):=
 qc prog B ro 264 #[.string a0,.int .u8 a1] I fun v I=> ∃(r0:Int),v= .int .i64 r0/\Q r0 I
def uA(B:World)(ro:AH)(a0:Sl)(a1:Value)(I:AH)(Q:Int->AH->Prop):=
 qc prog B ro 271 #[Sl.v a0,a1] I fun v I=> ∃(r0:Int),v= .int .i64 r0/\Q r0 I
def abl(B:World)(ro:AH)(a0:Option Addr)(a1_0:Int)(a1_1:ByteArray)(a1_2:Sl)(a1_3:Int)(a1_4 a1_5:Bool)(I:AH)(Q:Int->AH->Prop):=
 qc prog B ro 272 #[.pointer a0,.agg #[.int .i64 a1_0,.string a1_1,Sl.v a1_2,.int .i64 a1_3,.bool a1_4,.bool a1_5]] I fun v I=> ∃(r0:Int),v= .int .i64 r0/\Q r0 I
def ac9(B:World)(ro:AH)(a0:Option Addr)(a1:ByteArray)(a2:Sl)(a3:Int)(I:AH)(Q:Int->Int->AH->Prop):=
 qc prog B ro 273 #[.pointer a0,.string a1,Sl.v a2,.int .i64 a3] I fun v I=> ∃(r0:Int) (r1:Int),v= .tuple #[.int .i64 r0,.int .i64 r1]/\Q r0 r1 I
def agX(B:World)(ro:AH)(a0:ByteArray)(I:AH)(Q:ByteArray->Int->AH->Prop):=
 qc prog B ro 274 #[.string a0] I fun v I=> ∃(r0:ByteArray) (r1:Int),v= .tuple #[.string r0,.int .i64 r1]/\Q r0 r1 I
def uP(B:World)(ro:AH)(a0:Sl)(I:AH)(Q:Sl->AH->Prop):=
 if a0.a=none then
 Q (⟨none,0,0⟩:Sl) I
 else
 nw ro I (.cells #[] 3) fun u0 I=>
 awp prog ro (Builtin.append_ #[55,55] 55 #[Sl.v (⟨some ⟨u0,0,none⟩,0,0⟩:Sl),Sl.v a0]) (fun v I=> ∃(u1:Sl),v=Sl.v u1/\
 Q u1 I) I
theorem agr{a0 Q}(h:Sep ro I->uP B ro a0 I Q):xq B ro a0 I Q:=by
 refine zb h func65 ntmps65 fun h=>?_;unfold uP at h;refine zw ?_;refine AW.seq ?_;refine zw ?_;refine zm (anq rfl mR rfl rfl) ?_;refine zw ?_;refine AW.iff rfl zQ h (fun h=>?_) (fun h=>?_)
 .exact zr h
 refine zw ?_;refine zAp (zo (vs:=[]) (cs:= #[]) rfl mR ty3 y0 rfl rfl) h fun u0 h=>?_;refine zl (kP (s:=Builtin.append_ #[55,55] 55 #[Sl.v (⟨some ⟨u0,0,none⟩,0,0⟩:Sl),Sl.v a0]) rfl rfl (fun _=>rfl) (qj _ h ?_))
 rintro v I ⟨u1,rfl,h⟩;exact zr h
def afd(B:World)(ro:AH)(a0:Sl)(I:AH)(Q:Sl->AH->Prop):=
 if a0.a=none then
 Q (⟨none,0,0⟩:Sl) I
 else
 nw ro I (.cells #[] 5) fun u0 I=>
 awp prog ro (Builtin.append_ #[24,24] 24 #[Sl.v (⟨some ⟨u0,0,none⟩,0,0⟩:Sl),Sl.v a0]) (fun v I=> ∃(u1:Sl),v=Sl.v u1/\
 Q u1 I) I
theorem alP{a0 Q}(h:Sep ro I->afd B ro a0 I Q):vY B ro a0 I Q:=by
 refine zb h func80 ntmps80 fun h=>?_;unfold afd at h;refine zw ?_;refine AW.seq ?_;refine zw ?_;refine zm (anq rfl mp rfl rfl) ?_;refine zw ?_;refine AW.iff rfl zQ h (fun h=>?_) (fun h=>?_)
 .exact zr h
 refine zw ?_;refine zAp (zo (vs:=[]) (cs:= #[]) rfl mp ty5 y0 rfl rfl) h fun u0 h=>?_;refine zl (kP (s:=Builtin.append_ #[24,24] 24 #[Sl.v (⟨some ⟨u0,0,none⟩,0,0⟩:Sl),Sl.v a0]) rfl rfl (fun _=>rfl) (qj _ h ?_))
 rintro v I ⟨u1,rfl,h⟩;exact zr h
def vu(B:World)(ro:AH)(a0:Sl)(Q:Sl->AH->Prop)(u0:Int)(I:AH):=
 cutOk (some u0) none a0.len a0.cap/\
 awp prog ro (Builtin.clear_ #[27] 0 #[Sl.v (⟨wt a0.a (Int.toNat u0) a0.cap 1,a0.len - Int.toNat u0,a0.cap - Int.toNat u0⟩:Sl)]) (fun v I=>v= .tuple #[]/\
 cutOk none (some u0) a0.len a0.cap/\
 Q (⟨wt a0.a (0) a0.cap 1,Int.toNat u0 - 0,a0.cap - 0⟩:Sl) I) I
def wG(B:World)(ro:AH)(a0:Sl)(a1:Value)(u0:Int)(Q:Sl->AH->Prop)(Y4:(Int×Int)->AH->Prop)(u1:Int)(I:AH):=
 Y4 (u1,i64.wrap (u0+1)) I
def wb(B:World)(ro:AH)(a0:Sl)(a1:Value)(Q:Sl->AH->Prop):(Int×Int)->AH->((Int×Int)->AH->Prop)->Prop:=fun⟨u0,u1⟩ I Y4=>
 if u1<(a0.len:Int)then
 ∃p2,a0.a=some p2/\(0:Int)<=u1/\u1<(a0.len:Int)/\
 ∃u3,qa ro I (p2.add (Int.toNat u1*1))=some (.string u3)/\
 adQ prog B ro a1 [.string u3] I (fun v I=> ∃(u4:Bool),v= .bool u4/\
  if¬(u4=true)then
  ∃p5,a0.a=some p5/\(0:Int)<=u0/\u0<(a0.len:Int)/\
  stN (p5.add (Int.toNat u0*1)) (fun I=>
   wG B ro a0 a1 u1 Q Y4 (i64.wrap (u0+1)) I) [.string u3] 0 I
  else
  wG B ro a0 a1 u1 Q Y4 u0 I)
 else
 vu B ro a0 Q u0 I
def vJ(B:World)(ro:AH)(a0:Sl)(a1:Value)(I:AH)(Q:Sl->AH->Prop):=
 pK B ro a0 a1 I fun u0 I=>
 if u0=(-1)then
 Q a0 I
 else
 lfpD (wb B ro a0 a1 Q) (u0,i64.wrap (u0+1)) I
theorem yV{a0 a1 Q}(h:Sep ro I->vJ B ro a0 a1 I Q):xr B ro a0 a1 I Q:=by
 refine zb h func83 ntmps83 fun h=>?_;unfold vJ at h;refine zC func135 h fun u0 I h=>?_;refine AW.seq ?_;refine zi h (fun h=>?_) fun h=>?_
 .exact zr h
 refine zw ?_;refine AW.seqJ (fun fr I=> ∃(u1:Int),ql [(0,Sl.v a0),(5,.int .i64 u1)] fr/\vu B ro a0 Q u1 I) ?_ ?_
 .rintro fr I ⟨u1,hl,h⟩;refine AW.weaken ?_ hl (HLe.refl _)
  unfold vu at h;refine zw ?_;obtain⟨hc,h⟩:=h
  refine zm (aaH (lo:=(some u1)) (hi:=none) rfl mv ty9 rfl (wT rfl) vc hc) ?_;refine zl (kP (s:=Builtin.clear_ #[27] 0 #[Sl.v (⟨wt a0.a (Int.toNat u1) a0.cap 1,a0.len - Int.toNat u1,a0.cap - Int.toNat u1⟩:Sl)]) rfl rfl (fun _=>rfl) (qj _ h ?_))
  rintro v I ⟨rfl,h⟩;refine zw ?_;obtain⟨hc,h⟩:=h
  refine zm (aaH (lo:=none) (hi:=(some u1)) rfl mv ty9 rfl vc (wT rfl) hc) ?_;exact zr h
 refine zw ?_;refine qi.loop (fr':=[(0,Sl.v a0),(1,a1),(5,.int .i64 u0),(6,.int .i64 (i64.wrap (u0+1)))]) ?_ FL
 refine h (fun⟨u2,u3⟩ I=>qi _ _ _ _ _ _ [(0,Sl.v a0),(1,a1),(5,.int .i64 u2),(6,.int .i64 u3)] I) ?_
 rintro⟨u2,u3⟩ I Y4 hY4 h
 show AW _ _ _ _ _ _ _ _
 unfold wb at h;dsimp only at h;refine AW.seq ?_;refine zw ?_;refine zm (qA rfl rfl mv rfl rfl) ?_;refine zi h (fun h=>?_) fun h=>?_
 rotate_left
 .refine AW.exit ?_;refine zw ?_;refine qT ?_
  refine zw ?_;exact⟨_,FL,h⟩
 refine zw ?_;refine AW.seqJ (fun fr I=> ∃(u4:Int),ql [(0,Sl.v a0),(1,a1),(6,.int .i64 u3),(5,.int .i64 u4)] fr/\wG B ro a0 a1 u3 Q Y4 u4 I) ?_ ?_
 .rintro fr I ⟨u4,hl,h⟩;refine AW.weaken ?_ hl (HLe.refl _)
  unfold wG at h;refine zw ?_;refine qi.head (fr':=[(0,Sl.v a0),(1,a1),(5,.int .i64 u4),(6,.int .i64 (i64.wrap (u3+1)))]) ?_ FL
  exact hY4 _ _ h
 refine zw ?_;obtain⟨p5,ha,h0,h1,h⟩:=h
 refine zm (zP rfl mv ty9 (ixL rfl ha) rfl h0 h1) ?_;refine zLp mj h fun u6 h=>?_;refine zl (ajL rfl rfl rfl (afw h ?_))
 rintro v I ⟨u7,rfl,h⟩;refine zw ?_;refine AW.iff rfl (qp Iff.rfl) h (fun h=>?_) (fun h=>?_)
 rotate_left
 .refine zw ?_;exact⟨_,FL,h⟩
 refine zw ?_;obtain⟨p8,ha,h0,h1,h⟩:=h
 refine zm (zP rfl mv ty9 (ixL rfl ha) rfl h0 h1) ?_;refine zsp ty9 h fun I h=>?_;exact⟨_,FL,h⟩
def zF(B:World)(ro:AH)(Q:Int->AH->Prop)(I:AH):=
 Q (-1) I
def qS(B:World)(ro:AH)(a0:Sl)(a1:Value)(Q:Int->AH->Prop):Int->AH->(Int->AH->Prop)->Prop:=fun u0 I Y2=>
 if u0<(a0.len:Int)then
 ∃p1,a0.a=some p1/\(0:Int)<=u0/\u0<(a0.len:Int)/\
 ∃u2,qa ro I (p1.add (Int.toNat u0*1))=some (.string u2)/\
 adQ prog B ro a1 [.string u2] I (fun v I=> ∃(u3:Bool),v= .bool u3/\
  if u3=true then
  Q u0 I
  else
  Y2 (i64.wrap (u0+1)) I)
 else
 zF B ro Q I
def vV(B:World)(ro:AH)(a0:Sl)(a1:Value)(I:AH)(Q:Int->AH->Prop):=
 lfpD (qS B ro a0 a1 Q) (0) I
theorem pt{a0 a1 Q}(h:Sep ro I->vV B ro a0 a1 I Q):pK B ro a0 a1 I Q:=by
 refine zb h func135 ntmps135 fun h=>?_;unfold vV at h;refine zw ?_;refine AW.seqJ (fun fr I=>ql [] fr/\zF B ro Q I) ?_ ?_
 .rintro fr I ⟨hl,h⟩;refine AW.weaken ?_ hl (HLe.refl _)
  unfold zF at h;exact zr h
 refine zw ?_;refine zm (qA rfl rfl mv rfl rfl) ?_;refine zw ?_;refine qi.loop (fr':=[(0,Sl.v a0),(1,a1),(7,.int .i64 (a0.len:Int)),(8,.int .i64 0)]) ?_ FL
 refine h (fun u0 I=>qi _ _ _ _ _ _ [(0,Sl.v a0),(1,a1),(7,.int .i64 (a0.len:Int)),(8,.int .i64 u0)] I) ?_
 rintro u0 I Y2 hY2 h
 show AW _ _ _ _ _ _ _ _
 unfold qS at h;refine zw ?_;refine AW.seq ?_;refine zi h (fun h=>?_) fun h=>?_
 rotate_left
 .refine AW.exit ?_;refine zw ?_;refine qT ?_
  refine zw ?_;exact⟨FL,h⟩
 refine zw ?_;refine AW.seq ?_;refine zw ?_;obtain⟨p1,ha,h0,h1,h⟩:=h
 refine zm (zP rfl mv ty9 (ixL rfl ha) rfl h0 h1) ?_;refine zL mj h fun u2 h=>?_;refine zl (ajL rfl rfl rfl (afw h ?_))
 rintro v I ⟨u3,rfl,h⟩;refine zj h (fun h=>?_) fun h=>?_
 .exact zr h
 refine zw ?_;refine qi.head (fr':=[(0,Sl.v a0),(1,a1),(7,.int .i64 (a0.len:Int)),(8,.int .i64 (i64.wrap (u0+1)))]) ?_ FL
 exact hY2 _ _ h
def abm(B:World)(ro:AH)(a0 a1:ByteArray)(I:AH)(Q:Bool->AH->Prop):=
 acn B ro a0 a1 I fun u0 I=>
 Q u0 I
theorem ahU{a0 a1 Q}(h:Sep ro I->abm B ro a0 a1 I Q):pZ B ro a0 a1 I Q:=by
 refine zb h func138 ntmps138 fun h=>?_;unfold abm at h;refine zc func197 h ?_;rintro v I ⟨u0,rfl,h⟩;exact zr h
def xV(B:World)(ro:AH)(a0:Sl)(I:AH)(Q:Value->AH->Prop):=
 nw ro I (.cells #[Sl.v a0] 27) fun u0 I=>
 Q (.func (.func 230) #[] #[.pointer (some ⟨u0,0,none⟩)]) I
theorem ada{a0 Q}(h:Sep ro I->xV B ro a0 I Q):adI B ro a0 I Q:=by
 refine zb h func182 ntmps182 fun h=>?_;unfold xV at h;refine zw ?_;refine zAp (wB rfl rfl) h fun u0 h=>?_;refine zm (apQ rfl rfl rfl) ?_;exact zr h
def yR(B:World)(ro:AH)(a0:Sl)(I:AH)(Q:Sl->AH->Prop):=
 if a0.a=none then
 Q (⟨none,0,0⟩:Sl) I
 else
 nw ro I (.cells #[] 132) fun u0 I=>
 awp prog ro (Builtin.append_ #[28,28] 28 #[Sl.v (⟨some ⟨u0,0,none⟩,0,0⟩:Sl),Sl.v a0]) (fun v I=> ∃(u1:Sl),v=Sl.v u1/\
 Q u1 I) I
theorem aeS{a0 Q}(h:Sep ro I->yR B ro a0 I Q):yQ B ro a0 I Q:=by
 refine zb h func185 ntmps185 fun h=>?_;unfold yR at h;refine zw ?_;refine AW.seq ?_;refine zw ?_;refine zm (anq rfl ng rfl rfl) ?_;refine zw ?_;refine AW.iff rfl zQ h (fun h=>?_) (fun h=>?_)
 .exact zr h
 refine zw ?_;refine zAp (zo (vs:=[]) (cs:= #[]) rfl ng yd y0 rfl rfl) h fun u0 h=>?_;refine zl (kP (s:=Builtin.append_ #[28,28] 28 #[Sl.v (⟨some ⟨u0,0,none⟩,0,0⟩:Sl),Sl.v a0]) rfl rfl (fun _=>rfl) (qj _ h ?_))
 rintro v I ⟨u1,rfl,h⟩;exact zr h
def kG(B:World)(ro:AH)(Q:Bool->AH->Prop)(u0:Bool)(I:AH):=
 Q u0 I
def uj(B:World)(ro:AH)(a0 a1:ByteArray)(I:AH)(Q:Bool->AH->Prop):=
 if(a1.size:Int)<=(a0.size:Int)then
 cutOk none (some (a1.size:Int)) a0.size a0.size/\
 kG B ro Q (decide ((a0.extract (0) (Int.toNat (a1.size:Int)))=a1)) I
 else
 kG B ro Q false I
theorem af1{a0 a1 Q}(h:Sep ro I->uj B ro a0 a1 I Q):acn B ro a0 a1 I Q:=by
 refine zb h func197 ntmps197 fun h=>?_;unfold uj at h;refine zw ?_;refine zm (jM rfl rfl mj rfl rfl) ?_;refine zw ?_;refine zm (jM rfl rfl mj rfl rfl) ?_;refine zw ?_;refine qE 7 (decide ((a1.size:Int)<=(a0.size:Int))) me h (fun fr I=> ∃(u0:Bool),ql [(17,.bool u0)] fr/\kG B ro Q u0 I) ?_ ?_ ?_
 .intro h e5 hk5;refine zv e5 ?_;refine qH (jM rfl rfl mj rfl rfl) rfl rfl rfl rfl e5 ?_
  obtain⟨hc,h⟩:=h
  refine qH (ajK (lo:=none) (hi:=(some (a1.size:Int))) rfl mj rfl vc (wT rfl) hc) rfl rfl rfl rfl e5 ?_
  refine zv e5 ?_;exact hk5 _ _ ⟨_,FL,h⟩
 .intro h e5 hk5;refine zv e5 ?_;exact hk5 _ _ ⟨_,FL,h⟩
 rintro fr I ⟨u0,hl,h⟩;unfold kG at h;refine Lfr hl ?_
 exact zr h
def pg(B:World)(ro:AH)(a0:Sl)(a1:Int)(I:AH)(Q:Bool->AH->Prop):=
 acH B ro a0 a1 I fun u0 I=>
 Q (decide (0<=u0)) I
theorem afe{a0 a1 Q}(h:Sep ro I->pg B ro a0 a1 I Q):pf B ro a0 a1 I Q:=by
 refine zb h func205 ntmps205 fun h=>?_;unfold pg at h;refine zc func246 h ?_;rintro v I ⟨u0,rfl,h⟩;exact zr h
def uk(B:World)(ro:AH)(a0:ByteArray)(a1:Int)(I:AH)(Q:Int->AH->Prop):=
 aab B ro a0 a1 I fun u0 I=>
 Q u0 I
theorem af2{a0 a1 Q}(h:Sep ro I->uk B ro a0 a1 I Q):jD B ro a0 a1 I Q:=by
 refine zb h func227 ntmps227 fun h=>?_;unfold uk at h;refine zc func264 h ?_;rintro v I ⟨u0,rfl,h⟩;exact zr h
def vW(B:World)(ro:AH)(a0:Sl)(Q:Sl->AH->Prop)(u0:Int)(I:AH):=
 cutOk (some u0) none a0.len a0.cap/\
 awp prog ro (Builtin.clear_ #[28] 0 #[Sl.v (⟨wt a0.a (Int.toNat u0) a0.cap 3,a0.len - Int.toNat u0,a0.cap - Int.toNat u0⟩:Sl)]) (fun v I=>v= .tuple #[]/\
 cutOk none (some u0) a0.len a0.cap/\
 Q (⟨wt a0.a (0) a0.cap 3,Int.toNat u0 - 0,a0.cap - 0⟩:Sl) I) I
def wM(B:World)(ro:AH)(a0:Sl)(a1:Value)(u0:Int)(Q:Sl->AH->Prop)(Y4:(Int×Int)->AH->Prop)(u1:Int)(I:AH):=
 Y4 (u1,i64.wrap (u0+1)) I
def wN(B:World)(ro:AH)(a0:Sl)(a1:Value)(Q:Sl->AH->Prop):(Int×Int)->AH->((Int×Int)->AH->Prop)->Prop:=fun⟨u0,u1⟩ I Y4=>
 if u1<(a0.len:Int)then
 ∃p2,a0.a=some p2/\(0:Int)<=u1/\u1<(a0.len:Int)/\
 ∃u3 u4 u5,qe ro I (p2.add (Int.toNat u1*3)) 0 [.int .i64 u3,.int .i64 u4,.string u5]/\
 nw ro I (.cells #[.int .i64 0,.int .i64 0,.string ByteArray.empty] 132) fun u6 I=>
 stN ⟨u6,0,none⟩ (fun I=>
  ∃u7 u8 u9,qe ro I ⟨u6,0,none⟩ 0 [.int .i64 u7,.int .i64 u8,.string u9]/\
  adQ prog B ro a1 [.agg #[.int .i64 u7,.int .i64 u8,.string u9]] I (fun v I=> ∃(u10:Bool),v= .bool u10/\
  if¬(u10=true)then
   ∃u11 u12 u13,qe ro I ⟨u6,0,none⟩ 0 [.int .i64 u11,.int .i64 u12,.string u13]/\
   ∃p14,a0.a=some p14/\(0:Int)<=u0/\u0<(a0.len:Int)/\
   stN (p14.add (Int.toNat u0*3)) (fun I=>
   wM B ro a0 a1 u1 Q Y4 (i64.wrap (u0+1)) I) [.int .i64 u11,.int .i64 u12,.string u13] 0 I
  else
  wM B ro a0 a1 u1 Q Y4 u0 I)) [.int .i64 u3,.int .i64 u4,.string u5] 0 I
 else
 vW B ro a0 Q u0 I
def xW(B:World)(ro:AH)(a0:Sl)(a1:Value)(I:AH)(Q:Sl->AH->Prop):=
 uA B ro a0 a1 I fun u0 I=>
 if u0=(-1)then
 Q a0 I
 else
 lfpD (wN B ro a0 a1 Q) (u0,i64.wrap (u0+1)) I
theorem adb{a0 a1 Q}(h:Sep ro I->xW B ro a0 a1 I Q):xU B ro a0 a1 I Q:=by
 refine zb h func232 ntmps232 fun h=>?_;unfold xW at h;refine zC func271 h fun u0 I h=>?_;refine AW.seq ?_;refine zi h (fun h=>?_) fun h=>?_
 .exact zr h
 refine zw ?_;refine AW.seqJ (fun fr I=> ∃(u1:Int),ql [(0,Sl.v a0),(5,.int .i64 u1)] fr/\vW B ro a0 Q u1 I) ?_ ?_
 .rintro fr I ⟨u1,hl,h⟩;refine AW.weaken ?_ hl (HLe.refl _)
  unfold vW at h;refine zw ?_;obtain⟨hc,h⟩:=h
  refine zm (aaH (lo:=(some u1)) (hi:=none) rfl ng yd rfl (wT rfl) vc hc) ?_;refine zl (kP (s:=Builtin.clear_ #[28] 0 #[Sl.v (⟨wt a0.a (Int.toNat u1) a0.cap 3,a0.len - Int.toNat u1,a0.cap - Int.toNat u1⟩:Sl)]) rfl rfl (fun _=>rfl) (qj _ h ?_))
  rintro v I ⟨rfl,h⟩;refine zw ?_;obtain⟨hc,h⟩:=h
  refine zm (aaH (lo:=none) (hi:=(some u1)) rfl ng yd rfl vc (wT rfl) hc) ?_;exact zr h
 refine zw ?_;refine qi.loop (fr':=[(0,Sl.v a0),(1,a1),(5,.int .i64 u0),(6,.int .i64 (i64.wrap (u0+1)))]) ?_ FL
 refine h (fun⟨u2,u3⟩ I=>qi _ _ _ _ _ _ [(0,Sl.v a0),(1,a1),(5,.int .i64 u2),(6,.int .i64 u3)] I) ?_
 rintro⟨u2,u3⟩ I Y4 hY4 h
 show AW _ _ _ _ _ _ _ _
 unfold wN at h;dsimp only at h;refine AW.seq ?_;refine zw ?_;refine zm (qA rfl rfl ng rfl rfl) ?_;refine zi h (fun h=>?_) fun h=>?_
 rotate_left
 .refine AW.exit ?_;refine zw ?_;refine qT ?_
  refine zw ?_;exact⟨_,FL,h⟩
 refine zw ?_;refine AW.seqJ (fun fr I=> ∃(u4:Int),ql [(0,Sl.v a0),(1,a1),(6,.int .i64 u3),(5,.int .i64 u4)] fr/\wM B ro a0 a1 u3 Q Y4 u4 I) ?_ ?_
 .rintro fr I ⟨u4,hl,h⟩;refine AW.weaken ?_ hl (HLe.refl _)
  unfold wM at h;refine zw ?_;refine qi.head (fr':=[(0,Sl.v a0),(1,a1),(5,.int .i64 u4),(6,.int .i64 (i64.wrap (u3+1)))]) ?_ FL
  exact hY4 _ _ h
 refine zw ?_;obtain⟨p5,ha,h0,h1,h⟩:=h
 refine zm (zP rfl ng yd (ixL rfl ha) rfl h0 h1) ?_;obtain⟨u6,u7,u8,hc,h⟩:=h
 refine zl (wg rfl nR rfl yd rfl hc ?_)
 refine zA (qM rfl yd) h fun u9 h=>?_;refine zsp yd h fun I h=>?_;obtain⟨u10,u11,u12,hc,h⟩:=h
 refine zl (wg rfl nR rfl yd rfl hc ?_)
 refine zl (ajL rfl rfl rfl (afw h ?_))
 rintro v I ⟨u13,rfl,h⟩;refine zw ?_;refine AW.iff rfl (qp Iff.rfl) h (fun h=>?_) (fun h=>?_)
 rotate_left
 .refine zw ?_;exact⟨_,FL,h⟩
 refine zw ?_;obtain⟨u14,u15,u16,hc,h⟩:=h
 refine zl (wg rfl nR rfl yd rfl hc ?_)
 obtain⟨p17,ha,h0,h1,h⟩:=h
 refine zm (zP rfl ng yd (ixL rfl ha) rfl h0 h1) ?_;refine zsp yd h fun I h=>?_;exact⟨_,FL,h⟩
def jE(B:World)(ro:AH)(Q:Int->AH->Prop)(I:AH):=
 Q (-1) I
def kZ(B:World)(ro:AH)(a0:Sl)(a1:Int)(Q:Int->AH->Prop):Int->AH->(Int->AH->Prop)->Prop:=fun u0 I Y2=>
 if u0<(a0.len:Int)then
 ∃p1,a0.a=some p1/\(0:Int)<=u0/\u0<(a0.len:Int)/\
 ∃u2,qa ro I (p1.add (Int.toNat u0*1))=some (.int .i64 u2)/\
 if a1=u2 then
  Q u0 I
 else
 Y2 (i64.wrap (u0+1)) I
 else
 jE B ro Q I
def uQ(B:World)(ro:AH)(a0:Sl)(a1:Int)(I:AH)(Q:Int->AH->Prop):=
 lfpD (kZ B ro a0 a1 Q) (0) I
theorem ags{a0 a1 Q}(h:Sep ro I->uQ B ro a0 a1 I Q):acH B ro a0 a1 I Q:=by
 refine zb h func246 ntmps246 fun h=>?_;unfold uQ at h;refine zw ?_;refine AW.seqJ (fun fr I=>ql [] fr/\jE B ro Q I) ?_ ?_
 .rintro fr I ⟨hl,h⟩;refine AW.weaken ?_ hl (HLe.refl _)
  unfold jE at h;exact zr h
 refine zw ?_;refine zm (qA rfl rfl mR rfl rfl) ?_;refine zw ?_;refine qi.loop (fr':=[(0,Sl.v a0),(1,.int .i64 a1),(7,.int .i64 (a0.len:Int)),(8,.int .i64 0)]) ?_ FL
 refine h (fun u0 I=>qi _ _ _ _ _ _ [(0,Sl.v a0),(1,.int .i64 a1),(7,.int .i64 (a0.len:Int)),(8,.int .i64 u0)] I) ?_
 rintro u0 I Y2 hY2 h
 show AW _ _ _ _ _ _ _ _
 unfold kZ at h;refine zw ?_;refine AW.seq ?_;refine zi h (fun h=>?_) fun h=>?_
 rotate_left
 .refine AW.exit ?_;refine zw ?_;refine qT ?_
  refine zw ?_;exact⟨FL,h⟩
 refine zw ?_;refine AW.seq ?_;refine zw ?_;obtain⟨p1,ha,h0,h1,h⟩:=h
 refine zm (zP rfl mR ty3 (ixL rfl ha) rfl h0 h1) ?_;refine zL mf h fun u2 h=>?_;refine zi h (fun h=>?_) fun h=>?_
 .exact zr h
 refine zw ?_;refine qi.head (fr':=[(0,Sl.v a0),(1,.int .i64 a1),(7,.int .i64 (a0.len:Int)),(8,.int .i64 (i64.wrap (u0+1)))]) ?_ FL
 exact hY2 _ _ h
def jc(B:World)(ro:AH)(Q:Int->AH->Prop)(I:AH):=
 Q (-1) I
def ve(B:World)(ro:AH)(a0:ByteArray)(a1:Int)(Q:Int->AH->Prop):Int->AH->(Int->AH->Prop)->Prop:=fun u0 I Y2=>
 if 0<=u0 then
 ∃u1:UInt8,(0:Int)<=u0/\a0[Int.toNat u0]?=some u1/\
 if(u1.toNat:Int)=a1 then
  Q u0 I
 else
 Y2 (i64.wrap (u0 - 1)) I
 else
 jc B ro Q I
def jA(B:World)(ro:AH)(a0:ByteArray)(a1:Int)(I:AH)(Q:Int->AH->Prop):=
 lfpD (ve B ro a0 a1 Q) (i64.wrap ((a0.size:Int) - 1)) I
theorem ad2{a0 a1 Q}(h:Sep ro I->jA B ro a0 a1 I Q):aab B ro a0 a1 I Q:=by
 refine zb h func264 ntmps264 fun h=>?_;unfold jA at h;refine zw ?_;refine AW.seqJ (fun fr I=>ql [] fr/\jc B ro Q I) ?_ ?_
 .rintro fr I ⟨hl,h⟩;refine AW.weaken ?_ hl (HLe.refl _)
  unfold jc at h;exact zr h
 refine zw ?_;refine zm (jM rfl rfl mj rfl rfl) ?_;refine zw ?_;refine qi.loop (fr':=[(0,.string a0),(1,.int .u8 a1),(5,.int .i64 (i64.wrap ((a0.size:Int) - 1)))]) ?_ FL
 refine h (fun u0 I=>qi _ _ _ _ _ _ [(0,.string a0),(1,.int .u8 a1),(5,.int .i64 u0)] I) ?_
 rintro u0 I Y2 hY2 h
 show AW _ _ _ _ _ _ _ _
 unfold ve at h;refine AW.seq ?_;refine zi h (fun h=>?_) fun h=>?_
 rotate_left
 .refine AW.exit ?_;refine zw ?_;refine qT ?_
  refine zw ?_;exact⟨FL,h⟩
 refine zw ?_;refine AW.seq ?_;refine zw ?_;obtain⟨u1,h0,hc,h⟩:=h
 refine zm (ak3 rfl mj rfl rfl h0 hc) ?_;refine zi h (fun h=>?_) fun h=>?_
 .exact zr h
 refine zw ?_;refine qi.head (fr':=[(0,.string a0),(1,.int .u8 a1),(5,.int .i64 (i64.wrap (u0 - 1)))]) ?_ FL
 exact hY2 _ _ h
def kd(B:World)(ro:AH)(Q:Int->AH->Prop)(I:AH):=
 Q (-1) I
def zZ(B:World)(ro:AH)(a0:Sl)(a1:Value)(Q:Int->AH->Prop):Int->AH->(Int->AH->Prop)->Prop:=fun u0 I Y2=>
 if u0<(a0.len:Int)then
 ∃p1,a0.a=some p1/\(0:Int)<=u0/\u0<(a0.len:Int)/\
 ∃u2 u3 u4,qe ro I (p1.add (Int.toNat u0*3)) 0 [.int .i64 u2,.int .i64 u3,.string u4]/\
 adQ prog B ro a1 [.agg #[.int .i64 u2,.int .i64 u3,.string u4]] I (fun v I=> ∃(u5:Bool),v= .bool u5/\
  if u5=true then
  Q u0 I
  else
  Y2 (i64.wrap (u0+1)) I)
 else
 kd B ro Q I
def jd(B:World)(ro:AH)(a0:Sl)(a1:Value)(I:AH)(Q:Int->AH->Prop):=
 lfpD (zZ B ro a0 a1 Q) (0) I
theorem adJ{a0 a1 Q}(h:Sep ro I->jd B ro a0 a1 I Q):uA B ro a0 a1 I Q:=by
 refine zb h func271 ntmps271 fun h=>?_;unfold jd at h;refine zw ?_;refine AW.seqJ (fun fr I=>ql [] fr/\kd B ro Q I) ?_ ?_
 .rintro fr I ⟨hl,h⟩;refine AW.weaken ?_ hl (HLe.refl _)
  unfold kd at h;exact zr h
 refine zw ?_;refine zm (qA rfl rfl ng rfl rfl) ?_;refine zw ?_;refine qi.loop (fr':=[(0,Sl.v a0),(1,a1),(7,.int .i64 (a0.len:Int)),(8,.int .i64 0)]) ?_ FL
 refine h (fun u0 I=>qi _ _ _ _ _ _ [(0,Sl.v a0),(1,a1),(7,.int .i64 (a0.len:Int)),(8,.int .i64 u0)] I) ?_
 rintro u0 I Y2 hY2 h
 show AW _ _ _ _ _ _ _ _
 unfold zZ at h;refine zw ?_;refine AW.seq ?_;refine zi h (fun h=>?_) fun h=>?_
 rotate_left
 .refine AW.exit ?_;refine zw ?_;refine qT ?_
  refine zw ?_;exact⟨FL,h⟩
 refine zw ?_;refine AW.seq ?_;refine zw ?_;obtain⟨p1,ha,h0,h1,h⟩:=h
 refine zm (zP rfl ng yd (ixL rfl ha) rfl h0 h1) ?_;obtain⟨u2,u3,u4,hc,h⟩:=h
 refine zl (wg rfl nR rfl yd rfl hc ?_)
 refine zl (ajL rfl rfl rfl (afw h ?_))
 rintro v I ⟨u5,rfl,h⟩;refine zj h (fun h=>?_) fun h=>?_
 .exact zr h
 refine zw ?_;refine qi.head (fr':=[(0,Sl.v a0),(1,a1),(7,.int .i64 (a0.len:Int)),(8,.int .i64 (i64.wrap (u0+1)))]) ?_ FL
 exact hY2 _ _ h