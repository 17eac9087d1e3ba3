import Derived.KernelRfl
import Derived.Test.YtomdigihapdhnaaGreatDoorProg
import Derived.Test.YtomdigihapdhnaaGreatDoorXC
set_option linter.all false
set_option maxRecDepth 99999
set_option maxHeartbeats 0
open Go.IntKind(i64)
open Go.Proofs.Tryz
namespace Go.Proofs.YtomdigihapdhnaaGreatDoor
def j0{p:Prop}(h:p:=by kernel_rfl):p:=h
abbrev zFd(n:String)(t o b:Nat)(e:Bool)(p:String):Go.Field:={name:=n,type:=t,offset:=o,embedded:=e,tag:= "",pkgPath:=p,byteOffset:=b}
abbrev zEd(n:String)(t o b:Nat):Go.Field:=zFd n t o b false ""
abbrev mf:=@underlying3
abbrev mi:=@underlying30
abbrev mn:=@underlying24
abbrev mo:=@underlying9
abbrev mw:=@underlying57
abbrev mx:=@underlying27
abbrev mE:=@underlying26
abbrev mH:=@underlying81
abbrev mL:=@underlying168
abbrev mO:=@underlying55
abbrev mP:=@underlying39
abbrev mX:=@underlying153
abbrev mZ:=@underlying72
abbrev nc:=@underlying217
abbrev nf:=@underlying28
abbrev nq:=@underlying410
abbrev nu:=@underlying37
abbrev nx:=@underlying239
abbrev ny:=@underlying231
abbrev nz:=@underlying348
abbrev nC:=@underlying254
abbrev nG:=@underlying132
abbrev nK:=@underlying237
abbrev nL:=@underlying314
abbrev nM:=@underlying23
abbrev nR:=@underlying336
abbrev nT:=@underlying307
abbrev nU:=@underlying35
abbrev nW:=@underlying227
abbrev nX:=@underlying66
abbrev nY:=@underlying61
abbrev nZ:=@underlying310
abbrev La:=@underlying5
abbrev Lc:=@underlying128
abbrev Lg:=@underlying4
abbrev Li:=@underlying83
abbrev Lo:=@underlying54
abbrev Lq:=@underlying221
abbrev Lr:=@underlying258
abbrev Lt:=@underlying149
abbrev Lu:=@underlying151
abbrev Lv:=@underlying178
abbrev Lw:=@underlying252
abbrev Lx:=@underlying245
abbrev LF:=@underlying242
abbrev LG:=@underlying243
abbrev LH:=@underlying0
abbrev LM:=@underlying219
abbrev LO:=@underlying139
abbrev LP:=@underlying150
abbrev LQ:=@underlying240
abbrev LW:=@underlying22
abbrev LZ:=@underlying399
abbrev Pb:=@underlying462
abbrev Pc:=@underlying308
abbrev Pg:=@underlying164
abbrev Ph:=@underlying136
abbrev Pi:=@underlying305
namespace G
open Go SL
variable{B:ZB}{ro I:AH}
def _root_.Go.Proofs.Tryz.mixed:prog.follows .mixedOrders=true:=j0
def ty3:qp prog 3 (.int .i64 0) 1 8:=qp.of j0
def ty4:qp prog 4 (.bool false) 1 1:=qp.of j0
def ty5:qp prog 5 (.int .u8 0) 1 1:=qp.of j0
def ty9:qp prog 9 (.string ByteArray.empty) 1 16:=qp.of j0
def afx:qp prog 22 (.int .i64 0) 1 8:=qp.of j0
def aeI:qp prog 23 (.slice none 0 0) 1 24:=qp.of j0
def wg:qp prog 24 (.slice none 0 0) 1 24:=qp.of j0
def wx:qp prog 26 (.agg #[.int .i64 0,.int .i64 0,.int .i64 0,.int .i64 0]) 4 32:=qp.of j0
def aeJ:qp prog 27 (.slice none 0 0) 1 24:=qp.of j0
def aaA:qp prog 28 (.slice none 0 0) 1 24:=qp.of j0
def qM:qp prog 30 (.agg #[.int .i64 0,.int .i64 0,.slice none 0 0,.int .i64 0,.slice none 0 0,.int .i64 0,.int .i64 0,.int .i64 0,.int .i64 0,.slice none 0 0,.slice none 0 0,.int .i64 0]) 12 160:=qp.of j0
def ahn:qp prog 35 (.slice none 0 0) 1 24:=qp.of j0
def aqR:qp prog 36 (.agg #[.int .i64 0,.int .i64 0,.int .i64 0,.int .i64 0]) 4 32:=qp.of j0
def afy:qp prog 37 (.slice none 0 0) 1 24:=qp.of j0
def aim:qp prog 39 (.agg #[.int .i64 0,.int .i64 0,.slice none 0 0,.int .i64 0,.slice none 0 0,.int .i64 0,.int .i64 0,.int .i64 0,.int .i64 0,.slice none 0 0,.slice none 0 0,.int .i64 0]) 12 160:=qp.of j0
def aoD:qp prog 54 (.slice none 0 0) 1 24:=qp.of j0
def aho:qp prog 55 (.slice none 0 0) 1 24:=qp.of j0
def yV:qp prog 57 (.agg #[.int .i64 0,.string ByteArray.empty,.int .i64 0,.int .i64 0,.int .i64 0,.int .i64 0,.int .i64 0,.int .i64 0,.slice none 0 0,.string ByteArray.empty,.bool false,.int .i64 0,.slice none 0 0]) 13 152:=qp.of j0
def aeK:qp prog 61 (.pointer none) 1 8:=qp.of j0
def adr:qp prog 66 (.agg #[.int .i64 0,.int .i64 0]) 2 16:=qp.of j0
def aeL:qp prog 72 (.agg #[.int .i64 0,.string ByteArray.empty,.slice none 0 0,.int .i64 0,.bool false,.bool false]) 6 64:=qp.of j0
def vl:qp prog 81 (.agg #[.string ByteArray.empty,.int .i64 0]) 2 24:=qp.of j0
def axo:qp prog 83 (.agg #[.string ByteArray.empty,.int .i64 0,.int .i64 0,.int .i64 0,.int .i64 0,.int .i64 0,.slice none 0 0]) 7 80:=qp.of j0
def abM:qp prog 128 (.agg #[.string ByteArray.empty,.int .i64 0]) 2 24:=qp.of j0
def xJ:qp prog 132 (.agg #[.int .i64 0,.int .i64 0,.string ByteArray.empty]) 3 32:=qp.of j0
def alV:qp prog 136 (.agg #[.string ByteArray.empty,.int .i64 0]) 2 24:=qp.of j0
def ain:qp prog 139 (.agg #[.int .i64 0,.int .i64 0,.string ByteArray.empty]) 3 32:=qp.of j0
def afZ:qp prog 149 (.agg #[.int .i64 0,.slice none 0 0]) 2 32:=qp.of j0
def aio:qp prog 150 (.pointer none) 1 8:=qp.of j0
def af0:qp prog 151 (.pointer none) 1 8:=qp.of j0
def awM:qp prog 153 (.agg #[.int .i64 0,.slice none 0 0,.pointer none,.pointer none,.pointer none]) 5 56:=qp.of j0
def aqS:qp prog 168 (.agg #[.int .i64 0,.int .i64 0,.int .i64 0,.int .i64 0,.slice none 0 0]) 5 56:=qp.of j0
def aor:qp prog 215 (.int .i8 0) 1 1:=qp.of j0
def aos:qp prog 217 (.agg #[.slice none 0 0,.int .i64 0,.int .i8 0]) 3 40:=qp.of j0
def agZ:qp prog 219 (.agg #[.slice none 0 0,.int .i64 0,.int .i8 0,.bool false]) 4 48:=qp.of j0
def awN:qp prog 221 (.agg #[.slice none 0 0,.int .i64 0,.int .i8 0,.bool false]) 4 48:=qp.of j0
def awO:qp prog 231 (.agg #[.slice none 0 0,.int .i64 0]) 2 32:=qp.of j0
def abN:qp prog 237 (.map none) 1 8:=qp.of j0
def aot:qp prog 239 (.agg #[.map none]) 1 8:=qp.of j0
def aip:qp prog 240 (.map none) 1 8:=qp.of j0
def awP:qp prog 242 (.agg #[.map none]) 1 8:=qp.of j0
def ag0:qp prog 243 (.map none) 1 8:=qp.of j0
def awQ:qp prog 245 (.agg #[.map none]) 1 8:=qp.of j0
def af1:qp prog 252 (.map none) 1 8:=qp.of j0
def awR:qp prog 254 (.agg #[.int .i64 0,.map none]) 2 16:=qp.of j0
def aiq:qp prog 258 (.slice none 0 0) 1 24:=qp.of j0
def air:qp prog 307 (.agg #[.slice none 0 0,.int .i64 0,.int .i64 0]) 3 40:=qp.of j0
def akh:qp prog 308 (.map none) 1 8:=qp.of j0
def awS:qp prog 310 (.agg #[.slice none 0 0,.int .i64 0,.int .i64 0,.map none]) 4 48:=qp.of j0
def aee:qp prog 314 (.agg #[.string ByteArray.empty,.int .i64 0]) 2 24:=qp.of j0
def acA:qp prog 336 (.agg #[.int .i64 0,.string ByteArray.empty]) 2 24:=qp.of j0
def jM:qp prog 348 (.agg #[.slice none 0 0,.slice none 0 0,.int .i64 0]) 3 56:=qp.of j0
def awT:qp prog 410 (.agg #[.slice none 0 0,.slice none 0 0,.int .i64 0,.pointer none,.string ByteArray.empty,.int .i64 0,.int .i64 0,.int .i64 0]) 8 104:=qp.of j0
def ato:wC prog [zEd "Version" 3 0 0,zEd "Counter" 3 1 8,zEd "Owner" 3 2 16,zEd "Children" 3 3 24] [(0,1),(1,1),(2,1),(3,1)]:=⟨⟨rfl,_,_,ty3⟩,⟨⟨rfl,_,_,ty3⟩,⟨⟨rfl,_,_,ty3⟩,⟨⟨rfl,_,_,ty3⟩,trivial⟩⟩⟩⟩
def agn:wC prog [zEd "Code" 22 0 0,zEd "Session" 3 1 8,zEd "Results" 23 2 16,zEd "Bad" 3 3 40,zEd "Data" 24 4 48,zEd "Stat" 26 5 72,zEd "Names" 27 9 104,zEd "Events" 28 10 128,zEd "Epoch" 3 11 152] [(0,1),(1,1),(2,1),(3,1),(4,1),(5,4),(9,1),(10,1),(11,1)]:=⟨⟨rfl,_,_,afx⟩,⟨⟨rfl,_,_,ty3⟩,⟨⟨rfl,_,_,aeI⟩,⟨⟨rfl,_,_,ty3⟩,⟨⟨rfl,_,_,wg⟩,⟨⟨rfl,_,_,wx⟩,⟨⟨rfl,_,_,aeJ⟩,⟨⟨rfl,_,_,aaA⟩,⟨⟨rfl,_,_,ty3⟩,trivial⟩⟩⟩⟩⟩⟩⟩⟩⟩
def axp:wC prog [zEd "Code" 3 0 0,zEd "Session" 3 1 8,zEd "Results" 35 2 16,zEd "Bad" 3 3 40,zEd "Data" 24 4 48,zEd "Stat" 36 5 72,zEd "Names" 27 9 104,zEd "Events" 37 10 128,zEd "Epoch" 3 11 152] [(0,1),(1,1),(2,1),(3,1),(4,1),(5,4),(9,1),(10,1),(11,1)]:=⟨⟨rfl,_,_,ty3⟩,⟨⟨rfl,_,_,ty3⟩,⟨⟨rfl,_,_,ahn⟩,⟨⟨rfl,_,_,ty3⟩,⟨⟨rfl,_,_,wg⟩,⟨⟨rfl,_,_,aqR⟩,⟨⟨rfl,_,_,aeJ⟩,⟨⟨rfl,_,_,afy⟩,⟨⟨rfl,_,_,ty3⟩,trivial⟩⟩⟩⟩⟩⟩⟩⟩⟩
def axq:wC prog [zEd "Kind" 3 0 0,zEd "Home" 9 1 8,zEd "Session" 3 2 24,zEd "Req" 3 3 32,zEd "Nonce" 3 4 40,zEd "Lease" 3 5 48,zEd "Beats" 3 6 56,zEd "Ack" 3 7 64,zEd "Ops" 54 8 72,zEd "Path" 9 9 96,zEd "Watch" 4 10 112,zEd "Epoch" 3 11 120,zEd "Members" 55 12 128] [(0,1),(1,1),(2,1),(3,1),(4,1),(5,1),(6,1),(7,1),(8,1),(9,1),(10,1),(11,1),(12,1)]:=⟨⟨rfl,_,_,ty3⟩,⟨⟨rfl,_,_,ty9⟩,⟨⟨rfl,_,_,ty3⟩,⟨⟨rfl,_,_,ty3⟩,⟨⟨rfl,_,_,ty3⟩,⟨⟨rfl,_,_,ty3⟩,⟨⟨rfl,_,_,ty3⟩,⟨⟨rfl,_,_,ty3⟩,⟨⟨rfl,_,_,aoD⟩,⟨⟨rfl,_,_,ty9⟩,⟨⟨rfl,_,_,ty4⟩,⟨⟨rfl,_,_,ty3⟩,⟨⟨rfl,_,_,aho⟩,trivial⟩⟩⟩⟩⟩⟩⟩⟩⟩⟩⟩⟩⟩
def axr:wC prog [zEd "Nodes" 3 0 0,zEd "Bytes" 3 1 8] [(0,1),(1,1)]:=⟨⟨rfl,_,_,ty3⟩,⟨⟨rfl,_,_,ty3⟩,trivial⟩⟩
def av7:wC prog [zEd "Home" 9 0 0,zEd "N" 3 1 16] [(0,1),(1,1)]:=⟨⟨rfl,_,_,ty9⟩,⟨⟨rfl,_,_,ty3⟩,trivial⟩⟩
def axs:wC prog [zFd "Key" 81 0 0 true "",zEd "Nonce" 3 2 24,zEd "Lease" 3 3 32,zEd "Beats" 3 4 40,zEd "Req" 3 5 48,zEd "Reply" 24 6 56] [(0,2),(2,1),(3,1),(4,1),(5,1),(6,1)]:=⟨⟨rfl,_,_,vl⟩,⟨⟨rfl,_,_,ty3⟩,⟨⟨rfl,_,_,ty3⟩,⟨⟨rfl,_,_,ty3⟩,⟨⟨rfl,_,_,ty3⟩,⟨⟨rfl,_,_,wg⟩,trivial⟩⟩⟩⟩⟩⟩
def awU:wC prog [zEd "Path" 9 0 0,zEd "Version" 3 1 16] [(0,1),(1,1)]:=⟨⟨rfl,_,_,ty9⟩,⟨⟨rfl,_,_,ty3⟩,trivial⟩⟩
def auR:wC prog [zEd "N" 3 0 0,zEd "Kind" 3 1 8,zEd "Path" 9 2 16] [(0,1),(1,1),(2,1)]:=⟨⟨rfl,_,_,ty3⟩,⟨⟨rfl,_,_,ty3⟩,⟨⟨rfl,_,_,ty9⟩,trivial⟩⟩⟩
def awV:wC prog [zEd "Path" 9 0 0,zEd "Version" 3 1 16] [(0,1),(1,1)]:=⟨⟨rfl,_,_,ty9⟩,⟨⟨rfl,_,_,ty3⟩,trivial⟩⟩
def awW:wC prog [zEd "N" 3 0 0,zEd "Kind" 3 1 8,zEd "Path" 9 2 16] [(0,1),(1,1),(2,1)]:=⟨⟨rfl,_,_,ty3⟩,⟨⟨rfl,_,_,ty3⟩,⟨⟨rfl,_,_,ty9⟩,trivial⟩⟩⟩
def awX:wC prog [zFd "epoch" 3 0 0 false "althing/store",zFd "members" 55 1 8 false "althing/store"] [(0,1),(1,1)]:=⟨⟨rfl,_,_,ty3⟩,⟨⟨rfl,_,_,aho⟩,trivial⟩⟩
def awY:wC prog [zFd "quorum" 149 0 0 true "althing/store",zFd "tree" 61 2 32 false "althing/store",zFd "table" 150 3 40 false "althing/store",zFd "hub" 151 4 48 false "althing/store"] [(0,2),(2,1),(3,1),(4,1)]:=⟨⟨rfl,_,_,afZ⟩,⟨⟨rfl,_,_,aeK⟩,⟨⟨rfl,_,_,aio⟩,⟨⟨rfl,_,_,af0⟩,trivial⟩⟩⟩⟩
def aqT:wC prog [zFd "Stat" 26 0 0 true "",zFd "data" 24 4 32 false "althing/ztree"] [(0,4),(4,1)]:=⟨⟨rfl,_,_,wx⟩,⟨⟨rfl,_,_,wg⟩,trivial⟩⟩
def awZ:wC prog [zFd "buffer" 219 0 0 true "althing/wire"] [(0,4)]:=⟨⟨rfl,_,_,agZ⟩,trivial⟩
def aw0:wC prog [zFd "b" 24 0 0 false "althing/wire",zFd "err" 22 1 24 false "althing/wire"] [(0,1),(1,1)]:=⟨⟨rfl,_,_,wg⟩,⟨⟨rfl,_,_,afx⟩,trivial⟩⟩
def auS:wC prog [zFd "nodes" 237 0 0 false "althing/ztree"] [(0,1)]:=⟨⟨rfl,_,_,abN⟩,trivial⟩
def aw1:wC prog [zFd "houses" 240 0 0 false "althing/session"] [(0,1)]:=⟨⟨rfl,_,_,aip⟩,trivial⟩
def aw2:wC prog [zFd "desks" 243 0 0 false "althing/watch"] [(0,1)]:=⟨⟨rfl,_,_,ag0⟩,trivial⟩
def aw3:wC prog [zFd "last" 3 0 0 false "althing/session",zFd "live" 252 1 8 false "althing/session"] [(0,1),(1,1)]:=⟨⟨rfl,_,_,ty3⟩,⟨⟨rfl,_,_,af1⟩,trivial⟩⟩
def aw4:wC prog [zFd "queue" 307 0 0 true "althing/watch",zFd "marks" 308 3 40 false "althing/watch"] [(0,3),(3,1)]:=⟨⟨rfl,_,_,air⟩,⟨⟨rfl,_,_,akh⟩,trivial⟩⟩
def aou:wC prog [zFd "path" 9 0 0 false "althing/watch",zFd "kind" 3 1 16 false "althing/watch"] [(0,1),(1,1)]:=⟨⟨rfl,_,_,ty9⟩,⟨⟨rfl,_,_,ty3⟩,trivial⟩⟩
def auT:wC prog [zEd "Kind" 3 0 0,zEd "Path" 9 1 8] [(0,1),(1,1)]:=⟨⟨rfl,_,_,ty3⟩,⟨⟨rfl,_,_,ty9⟩,trivial⟩⟩
def aqU:wC prog [zEd "Results" 23 0 0,zEd "Effects" 258 1 24,zEd "Bad" 3 2 48] [(0,1),(1,1),(2,1)]:=⟨⟨rfl,_,_,aeI⟩,⟨⟨rfl,_,_,aiq⟩,⟨⟨rfl,_,_,ty3⟩,trivial⟩⟩⟩
def aw5:wC prog [zFd "Outcome" 348 0 0 true "",zFd "t" 61 3 56 false "althing/multi",zFd "home" 9 4 64 false "althing/multi",zFd "owner" 3 5 80 false "althing/multi",zFd "q" 66 6 88 false "althing/multi"] [(0,3),(3,1),(4,1),(5,1),(6,2)]:=⟨⟨rfl,_,_,jM⟩,⟨⟨rfl,_,_,aeK⟩,⟨⟨rfl,_,_,ty9⟩,⟨⟨rfl,_,_,ty3⟩,⟨⟨rfl,_,_,adr⟩,trivial⟩⟩⟩⟩⟩
def ab3(B:ZB)(ro:AH)(a0:Sl)(a1:ZA)(I:AH)(Q:Bool->AH->Prop):=
 qc prog B ro 4 #[Sl.v a0,.string a1] I fun v I=> ∃(r0:Bool),v= .bool r0/\Q r0 I
def ads(B:ZB)(ro:AH)(a0_0 a0_1:Int)(a0_2:Sl)(a0_3:Int)(a0_4:Sl)(a0_5 a0_6 a0_7 a0_8:Int)(a0_9 a0_10:Sl)(a0_11:Int)(I:AH)(Q:Sl->Int->AH->Prop):=
 qc prog B ro 12 #[.agg #[.int .i64 a0_0,.int .i64 a0_1,Sl.v a0_2,.int .i64 a0_3,Sl.v a0_4,.int .i64 a0_5,.int .i64 a0_6,.int .i64 a0_7,.int .i64 a0_8,Sl.v a0_9,Sl.v a0_10,.int .i64 a0_11]] I fun v I=> ∃(r0:Sl) (r1:Int),v= .tuple #[Sl.v r0,.int .i64 r1]/\Q r0 r1 I
def aaX(B:ZB)(ro:AH)(a0_0 a0_1:Int)(a0_2:Sl)(a0_3:Int)(a0_4:Sl)(a0_5 a0_6 a0_7 a0_8:Int)(a0_9 a0_10:Sl)(a0_11:Int)(I:AH)(Q:Sl->Bool->AH->Prop):=
 qc prog B ro 13 #[.agg #[.int .i64 a0_0,.int .i64 a0_1,Sl.v a0_2,.int .i64 a0_3,Sl.v a0_4,.int .i64 a0_5,.int .i64 a0_6,.int .i64 a0_7,.int .i64 a0_8,Sl.v a0_9,Sl.v a0_10,.int .i64 a0_11]] I fun v I=> ∃(r0:Sl) (r1:Bool),v= .tuple #[Sl.v r0,.bool r1]/\Q r0 r1 I
def abi(B:ZB)(ro:AH)(a0_0 a0_1:Int)(a0_2:Sl)(a0_3:Int)(a0_4:Sl)(a0_5 a0_6 a0_7 a0_8:Int)(a0_9 a0_10:Sl)(a0_11:Int)(I:AH)(Q:Int->Int->Sl->Int->Sl->Int->Int->Int->Int->Sl->Sl->Int->AH->Prop):=
 qc prog B ro 14 #[.agg #[.int .i64 a0_0,.int .i64 a0_1,Sl.v a0_2,.int .i64 a0_3,Sl.v a0_4,.int .i64 a0_5,.int .i64 a0_6,.int .i64 a0_7,.int .i64 a0_8,Sl.v a0_9,Sl.v a0_10,.int .i64 a0_11]] I fun v I=> ∃(r0_0:Int) (r0_1:Int) (r0_2:Sl) (r0_3:Int) (r0_4:Sl) (r0_5:Int) (r0_6:Int) (r0_7:Int) (r0_8:Int) (r0_9:Sl) (r0_10:Sl) (r0_11:Int),v= .agg #[.int .i64 r0_0,.int .i64 r0_1,Sl.v r0_2,.int .i64 r0_3,Sl.v r0_4,.int .i64 r0_5,.int .i64 r0_6,.int .i64 r0_7,.int .i64 r0_8,Sl.v r0_9,Sl.v r0_10,.int .i64 r0_11]/\Q r0_0 r0_1 r0_2 r0_3 r0_4 r0_5 r0_6 r0_7 r0_8 r0_9 r0_10 r0_11 I
def adt(B:ZB)(ro:AH)(a0:Sl)(I:AH)(Q:Int->Int->Sl->Int->Sl->Int->Int->Int->Int->Sl->Sl->Int->Int->AH->Prop):=
 qc prog B ro 15 #[Sl.v a0] I fun v I=> ∃(r0_0:Int) (r0_1:Int) (r0_2:Sl) (r0_3:Int) (r0_4:Sl) (r0_5:Int) (r0_6:Int) (r0_7:Int) (r0_8:Int) (r0_9:Sl) (r0_10:Sl) (r0_11:Int) (r1:Int),v= .tuple #[.agg #[.int .i64 r0_0,.int .i64 r0_1,Sl.v r0_2,.int .i64 r0_3,Sl.v r0_4,.int .i64 r0_5,.int .i64 r0_6,.int .i64 r0_7,.int .i64 r0_8,Sl.v r0_9,Sl.v r0_10,.int .i64 r0_11],.int .i64 r1]/\Q r0_0 r0_1 r0_2 r0_3 r0_4 r0_5 r0_6 r0_7 r0_8 r0_9 r0_10 r0_11 r1 I
def aef(B:ZB)(ro:AH)(a0:Sl)(I:AH)(Q:Sl->AH->Prop):=
 qc prog B ro 16 #[Sl.v a0] I fun v I=> ∃(r0:Sl),v=Sl.v r0/\Q r0 I
def ago(B:ZB)(ro:AH)(a0 a1:Sl)(I:AH)(Q:Bool->AH->Prop):=
 qc prog B ro 18 #[Sl.v a0,Sl.v a1] I fun v I=> ∃(r0:Bool),v= .bool r0/\Q r0 I
def agp(B:ZB)(ro:AH)(a0_0 a0_1:Int)(a0_2:Sl)(a0_3:Int)(a0_4:Sl)(a0_5 a0_6 a0_7 a0_8:Int)(a0_9 a0_10:Sl)(a0_11 a1_0 a1_1:Int)(a1_2:Sl)(a1_3:Int)(a1_4:Sl)(a1_5 a1_6 a1_7 a1_8:Int)(a1_9 a1_10:Sl)(a1_11:Int)(I:AH)(Q:Bool->AH->Prop):=
 qc prog B ro 19 #[.agg #[.int .i64 a0_0,.int .i64 a0_1,Sl.v a0_2,.int .i64 a0_3,Sl.v a0_4,.int .i64 a0_5,.int .i64 a0_6,.int .i64 a0_7,.int .i64 a0_8,Sl.v a0_9,Sl.v a0_10,.int .i64 a0_11],.agg #[.int .i64 a1_0,.int .i64 a1_1,Sl.v a1_2,.int .i64 a1_3,Sl.v a1_4,.int .i64 a1_5,.int .i64 a1_6,.int .i64 a1_7,.int .i64 a1_8,Sl.v a1_9,Sl.v a1_10,.int .i64 a1_11]] I fun v I=> ∃(r0:Bool),v= .bool r0/\Q r0 I
def afz(B:ZB)(ro I:AH)(Q:Bool->AH->Prop):Prop:=
 qc prog B ro 20 #[] I fun v I=> ∃(r0:Bool),v= .bool r0/\Q r0 I
def abs(B:ZB)(ro:AH)(a0:Sl)(I:AH)(Q:ZO->Int->AH->Prop):=
 qc prog B ro 21 #[Sl.v a0] I fun v I=> ∃(r0:ZO) (r1:Int),v= .tuple #[.pointer r0,.int .i64 r1]/\Q r0 r1 I
def xv(B:ZB)(ro:AH)(a0:ZO)(a1_0:Int)(a1_1:ZA)(a1_2 a1_3 a1_4 a1_5 a1_6 a1_7:Int)(a1_8:Sl)(a1_9:ZA)(a1_10:Bool)(a1_11:Int)(a1_12:Sl)(I:AH)(Q:Int->Int->Sl->Int->Sl->Int->Int->Int->Int->Sl->Sl->Int->AH->Prop):=
 qc prog B ro 22 #[.pointer a0,.agg #[.int .i64 a1_0,.string a1_1,.int .i64 a1_2,.int .i64 a1_3,.int .i64 a1_4,.int .i64 a1_5,.int .i64 a1_6,.int .i64 a1_7,Sl.v a1_8,.string a1_9,.bool a1_10,.int .i64 a1_11,Sl.v a1_12]] I fun v I=> ∃(r0_0:Int) (r0_1:Int) (r0_2:Sl) (r0_3:Int) (r0_4:Sl) (r0_5:Int) (r0_6:Int) (r0_7:Int) (r0_8:Int) (r0_9:Sl) (r0_10:Sl) (r0_11:Int),v= .agg #[.int .i64 r0_0,.int .i64 r0_1,Sl.v r0_2,.int .i64 r0_3,Sl.v r0_4,.int .i64 r0_5,.int .i64 r0_6,.int .i64 r0_7,.int .i64 r0_8,Sl.v r0_9,Sl.v r0_10,.int .i64 r0_11]/\Q r0_0 r0_1 r0_2 r0_3 r0_4 r0_5 r0_6 r0_7 r0_8 r0_9 r0_10 r0_11 I
def acB(B:ZB)(ro:AH)(a0_0:Int)(a0_1:ZA)(a0_2 a0_3 a0_4 a0_5 a0_6 a0_7:Int)(a0_8:Sl)(a0_9:ZA)(a0_10:Bool)(a0_11:Int)(a0_12:Sl)(I:AH)(Q:Int->ZA->Int->Int->Int->Int->Int->Int->Sl->ZA->Bool->Int->Sl->AH->Prop):=
 qc prog B ro 23 #[.agg #[.int .i64 a0_0,.string a0_1,.int .i64 a0_2,.int .i64 a0_3,.int .i64 a0_4,.int .i64 a0_5,.int .i64 a0_6,.int .i64 a0_7,Sl.v a0_8,.string a0_9,.bool a0_10,.int .i64 a0_11,Sl.v a0_12]] I fun v I=> ∃(r0_0:Int) (r0_1:ZA) (r0_2:Int) (r0_3:Int) (r0_4:Int) (r0_5:Int) (r0_6:Int) (r0_7:Int) (r0_8:Sl) (r0_9:ZA) (r0_10:Bool) (r0_11:Int) (r0_12:Sl),v= .agg #[.int .i64 r0_0,.string r0_1,.int .i64 r0_2,.int .i64 r0_3,.int .i64 r0_4,.int .i64 r0_5,.int .i64 r0_6,.int .i64 r0_7,Sl.v r0_8,.string r0_9,.bool r0_10,.int .i64 r0_11,Sl.v r0_12]/\Q r0_0 r0_1 r0_2 r0_3 r0_4 r0_5 r0_6 r0_7 r0_8 r0_9 r0_10 r0_11 r0_12 I
def yb(B:ZB)(ro:AH)(a0:ZO)(a1:ZA)(I:AH)(Q:Sl->Int->Int->Int->Int->Int->AH->Prop):=
 qc prog B ro 25 #[.pointer a0,.string a1] I fun v I=> ∃(r0:Sl) (r1_0:Int) (r1_1:Int) (r1_2:Int) (r1_3:Int) (r2:Int),v= .tuple #[Sl.v r0,.agg #[.int .i64 r1_0,.int .i64 r1_1,.int .i64 r1_2,.int .i64 r1_3],.int .i64 r2]/\Q r0 r1_0 r1_1 r1_2 r1_3 r2 I
def afA(B:ZB)(ro:AH)(a0:ZO)(a1:Sl)(I:AH)(Q:Int->Int->AH->Prop):=
 qc prog B ro 26 #[.pointer a0,Sl.v a1] I fun v I=> ∃(r0_0:Int) (r0_1:Int),v= .agg #[.int .i64 r0_0,.int .i64 r0_1]/\Q r0_0 r0_1 I
def ab4(B:ZB)(ro:AH)(a0:ZO)(a1:ZA)(I:AH)(Q:Sl->Int->AH->Prop):=
 qc prog B ro 27 #[.pointer a0,.string a1] I fun v I=> ∃(r0:Sl) (r1:Int),v= .tuple #[Sl.v r0,.int .i64 r1]/\Q r0 r1 I
def aaY(B:ZB)(ro I:AH)(Q:ZO->AH->Prop):Prop:=
 qc prog B ro 43 #[] I fun v I=> ∃(r0:ZO),v= .pointer r0/\Q r0 I
def wZ(B:ZB)(ro:AH)(a0:ZO)(a1:Sl)(I:AH)(Q:AH->Prop):=
 qc prog B ro 44 #[.pointer a0,Sl.v a1] I fun v I=>v= .tuple #[]/\Q I
def vy(B:ZB)(ro:AH)(a0:ZO)(a1:Sl)(I:AH)(Q:AH->Prop):=
 qc prog B ro 45 #[.pointer a0,Sl.v a1] I fun v I=>v= .tuple #[]/\Q I
def jR(B:ZB)(ro:AH)(a0:ZO)(a1:Sl)(I:AH)(Q:AH->Prop):=
 qc prog B ro 46 #[.pointer a0,Sl.v a1] I fun v I=>v= .tuple #[]/\Q I
def aas(B:ZB)(ro:AH)(a0:ZO)(I:AH)(Q:Sl->Int->AH->Prop):=
 qc prog B ro 47 #[.pointer a0] I fun v I=> ∃(r0:Sl) (r1:Int),v= .tuple #[Sl.v r0,.int .i64 r1]/\Q r0 r1 I
def abt(B:ZB)(ro:AH)(a0:Sl)(I:AH)(Q:Bool->AH->Prop):=
 qc prog B ro 48 #[Sl.v a0] I fun v I=> ∃(r0:Bool),v= .bool r0/\Q r0 I
def ab5(B:ZB)(ro:AH)(a0:Sl)(I:AH)(Q:Sl->AH->Prop):=
 qc prog B ro 49 #[Sl.v a0] I fun v I=> ∃(r0:Sl),v=Sl.v r0/\Q r0 I
def jo(B:ZB)(ro:AH)(a0:Sl)(I:AH)(Q:Sl->AH->Prop):=
 qc prog B ro 50 #[Sl.v a0] I fun v I=> ∃(r0:Sl),v=Sl.v r0/\Q r0 I
def aaB(B:ZB)(ro:AH)(a0:Sl)(I:AH)(Q:Sl->AH->Prop):=
 qc prog B ro 51 #[Sl.v a0] I fun v I=> ∃(r0:Sl),v=Sl.v r0/\Q r0 I
def yk(B:ZB)(ro:AH)(a0:Int)(I:AH)(Q:Sl->AH->Prop):=
 qc prog B ro 52 #[.int .i64 a0] I fun v I=> ∃(r0:Sl),v=Sl.v r0/\Q r0 I
def aaZ(B:ZB)(ro:AH)(a0:Sl)(I:AH)(Q:ZO->AH->Prop):=
 qc prog B ro 53 #[Sl.v a0] I fun v I=> ∃(r0:ZO),v= .pointer r0/\Q r0 I
def qN(B:ZB)(ro:AH)(a0:ZO)(I:AH)(Q:Int->AH->Prop):=
 qc prog B ro 54 #[.pointer a0] I fun v I=> ∃(r0:Int),v= .int .i64 r0/\Q r0 I
def xT(B:ZB)(ro:AH)(a0:ZO)(I:AH)(Q:ZA->AH->Prop):=
 qc prog B ro 55 #[.pointer a0] I fun v I=> ∃(r0:ZA),v= .string r0/\Q r0 I
def yv(B:ZB)(ro:AH)(a0:ZO)(I:AH)(Q:Sl->AH->Prop):=
 qc prog B ro 56 #[.pointer a0] I fun v I=> ∃(r0:Sl),v=Sl.v r0/\Q r0 I
def aat(B:ZB)(ro:AH)(a0:ZO)(I:AH)(Q:Int->AH->Prop):=
 qc prog B ro 57 #[.pointer a0] I fun v I=> ∃(r0:Int),v= .int .i64 r0/\Q r0 I
def uH(B:ZB)(ro:AH)(a0:ZO)(I:AH)(Q:Int->AH->Prop):=
 qc prog B ro 58 #[.pointer a0] I fun v I=> ∃(r0:Int),v= .int .i64 r0/\Q r0 I
def aeg(B:ZB)(ro:AH)(a0:ZO)(I:AH)(Q:Int->AH->Prop):=
 qc prog B ro 62 #[.pointer a0] I fun v I=> ∃(r0:Int),v= .int .i64 r0/\Q r0 I
def ac1(B:ZB)(ro:AH)(a0:ZO)(I:AH)(Q:Sl->AH->Prop):=
 qc prog B ro 63 #[.pointer a0] I fun v I=> ∃(r0:Sl),v=Sl.v r0/\Q r0 I
def jp(B:ZB)(ro:AH)(a0:Sl)(I:AH)(Q:Bool->AH->Prop):=
 qc prog B ro 64 #[Sl.v a0] I fun v I=> ∃(r0:Bool),v= .bool r0/\Q r0 I
def xA(B:ZB)(ro:AH)(a0:Sl)(I:AH)(Q:Sl->AH->Prop):=
 qc prog B ro 65 #[Sl.v a0] I fun v I=> ∃(r0:Sl),v=Sl.v r0/\Q r0 I
def ahp(B:ZB)(ro I:AH)(Q:ZO->AH->Prop):Prop:=
 qc prog B ro 66 #[] I fun v I=> ∃(r0:ZO),v= .pointer r0/\Q r0 I
def ajb(B:ZB)(ro I:AH)(Q:ZO->AH->Prop):Prop:=
 qc prog B ro 67 #[] I fun v I=> ∃(r0:ZO),v= .pointer r0/\Q r0 I
def akP(B:ZB)(ro I:AH)(Q:ZO->AH->Prop):Prop:=
 qc prog B ro 68 #[] I fun v I=> ∃(r0:ZO),v= .pointer r0/\Q r0 I
def uI(B:ZB)(ro:AH)(a0:ZO)(a1_0:Int)(a1_1:ZA)(a1_2 a1_3 a1_4 a1_5 a1_6 a1_7:Int)(a1_8:Sl)(a1_9:ZA)(a1_10:Bool)(a1_11:Int)(a1_12:Sl)(I:AH)(Q:Int->Int->Sl->Int->Sl->Int->Int->Int->Int->Sl->Sl->Int->AH->Prop):=
 qc prog B ro 69 #[.pointer a0,.agg #[.int .i64 a1_0,.string a1_1,.int .i64 a1_2,.int .i64 a1_3,.int .i64 a1_4,.int .i64 a1_5,.int .i64 a1_6,.int .i64 a1_7,Sl.v a1_8,.string a1_9,.bool a1_10,.int .i64 a1_11,Sl.v a1_12]] I fun v I=> ∃(r0_0:Int) (r0_1:Int) (r0_2:Sl) (r0_3:Int) (r0_4:Sl) (r0_5:Int) (r0_6:Int) (r0_7:Int) (r0_8:Int) (r0_9:Sl) (r0_10:Sl) (r0_11:Int),v= .agg #[.int .i64 r0_0,.int .i64 r0_1,Sl.v r0_2,.int .i64 r0_3,Sl.v r0_4,.int .i64 r0_5,.int .i64 r0_6,.int .i64 r0_7,.int .i64 r0_8,Sl.v r0_9,Sl.v r0_10,.int .i64 r0_11]/\Q r0_0 r0_1 r0_2 r0_3 r0_4 r0_5 r0_6 r0_7 r0_8 r0_9 r0_10 r0_11 I
def aag(B:ZB)(ro:AH)(a0:ZO)(a1_0:ZA)(a1_1 a2:Int)(I:AH)(Q:Bool->AH->Prop):=
 qc prog B ro 70 #[.pointer a0,.agg #[.string a1_0,.int .i64 a1_1],.int .i64 a2] I fun v I=> ∃(r0:Bool),v= .bool r0/\Q r0 I
def vO(B:ZB)(ro:AH)(a0_0:Int)(a0_1:ZA)(a0_2 a0_3 a0_4 a0_5 a0_6 a0_7:Int)(a0_8:Sl)(a0_9:ZA)(a0_10:Bool)(a0_11:Int)(a0_12:Sl)(I:AH)(Q:ZA->Int->AH->Prop):=
 qc prog B ro 71 #[.agg #[.int .i64 a0_0,.string a0_1,.int .i64 a0_2,.int .i64 a0_3,.int .i64 a0_4,.int .i64 a0_5,.int .i64 a0_6,.int .i64 a0_7,Sl.v a0_8,.string a0_9,.bool a0_10,.int .i64 a0_11,Sl.v a0_12]] I fun v I=> ∃(r0_0:ZA) (r0_1:Int),v= .agg #[.string r0_0,.int .i64 r0_1]/\Q r0_0 r0_1 I
def wJ(B:ZB)(ro:AH)(a0:Int)(I:AH)(Q:Int->Int->Sl->Int->Sl->Int->Int->Int->Int->Sl->Sl->Int->AH->Prop):=
 qc prog B ro 72 #[.int .i64 a0] I fun v I=> ∃(r0_0:Int) (r0_1:Int) (r0_2:Sl) (r0_3:Int) (r0_4:Sl) (r0_5:Int) (r0_6:Int) (r0_7:Int) (r0_8:Int) (r0_9:Sl) (r0_10:Sl) (r0_11:Int),v= .agg #[.int .i64 r0_0,.int .i64 r0_1,Sl.v r0_2,.int .i64 r0_3,Sl.v r0_4,.int .i64 r0_5,.int .i64 r0_6,.int .i64 r0_7,.int .i64 r0_8,Sl.v r0_9,Sl.v r0_10,.int .i64 r0_11]/\Q r0_0 r0_1 r0_2 r0_3 r0_4 r0_5 r0_6 r0_7 r0_8 r0_9 r0_10 r0_11 I
def uh(B:ZB)(ro:AH)(a0:ZO)(a1_0:ZA)(a1_1:Int)(I:AH)(Q:AH->Prop):=
 qc prog B ro 73 #[.pointer a0,.agg #[.string a1_0,.int .i64 a1_1]] I fun v I=>v= .tuple #[]/\Q I
def aa0(B:ZB)(ro:AH)(a0:ZO)(a1_0:Int)(a1_1:ZA)(a1_2 a1_3 a1_4 a1_5 a1_6 a1_7:Int)(a1_8:Sl)(a1_9:ZA)(a1_10:Bool)(a1_11:Int)(a1_12:Sl)(I:AH)(Q:Int->Int->Sl->Int->Sl->Int->Int->Int->Int->Sl->Sl->Int->AH->Prop):=
 qc prog B ro 74 #[.pointer a0,.agg #[.int .i64 a1_0,.string a1_1,.int .i64 a1_2,.int .i64 a1_3,.int .i64 a1_4,.int .i64 a1_5,.int .i64 a1_6,.int .i64 a1_7,Sl.v a1_8,.string a1_9,.bool a1_10,.int .i64 a1_11,Sl.v a1_12]] I fun v I=> ∃(r0_0:Int) (r0_1:Int) (r0_2:Sl) (r0_3:Int) (r0_4:Sl) (r0_5:Int) (r0_6:Int) (r0_7:Int) (r0_8:Int) (r0_9:Sl) (r0_10:Sl) (r0_11:Int),v= .agg #[.int .i64 r0_0,.int .i64 r0_1,Sl.v r0_2,.int .i64 r0_3,Sl.v r0_4,.int .i64 r0_5,.int .i64 r0_6,.int .i64 r0_7,.int .i64 r0_8,Sl.v r0_9,Sl.v r0_10,.int .i64 r0_11]/\Q r0_0 r0_1 r0_2 r0_3 r0_4 r0_5 r0_6 r0_7 r0_8 r0_9 r0_10 r0_11 I
def aa1(B:ZB)(ro:AH)(a0:ZO)(a1_0:Int)(a1_1:ZA)(a1_2 a1_3 a1_4 a1_5 a1_6 a1_7:Int)(a1_8:Sl)(a1_9:ZA)(a1_10:Bool)(a1_11:Int)(a1_12:Sl)(I:AH)(Q:Int->Int->Sl->Int->Sl->Int->Int->Int->Int->Sl->Sl->Int->AH->Prop):=
 qc prog B ro 75 #[.pointer a0,.agg #[.int .i64 a1_0,.string a1_1,.int .i64 a1_2,.int .i64 a1_3,.int .i64 a1_4,.int .i64 a1_5,.int .i64 a1_6,.int .i64 a1_7,Sl.v a1_8,.string a1_9,.bool a1_10,.int .i64 a1_11,Sl.v a1_12]] I fun v I=> ∃(r0_0:Int) (r0_1:Int) (r0_2:Sl) (r0_3:Int) (r0_4:Sl) (r0_5:Int) (r0_6:Int) (r0_7:Int) (r0_8:Int) (r0_9:Sl) (r0_10:Sl) (r0_11:Int),v= .agg #[.int .i64 r0_0,.int .i64 r0_1,Sl.v r0_2,.int .i64 r0_3,Sl.v r0_4,.int .i64 r0_5,.int .i64 r0_6,.int .i64 r0_7,.int .i64 r0_8,Sl.v r0_9,Sl.v r0_10,.int .i64 r0_11]/\Q r0_0 r0_1 r0_2 r0_3 r0_4 r0_5 r0_6 r0_7 r0_8 r0_9 r0_10 r0_11 I
def adu(B:ZB)(ro:AH)(a0:Sl)(I:AH)(Q:Sl->AH->Prop):=
 qc prog B ro 76 #[Sl.v a0] I fun v I=> ∃(r0:Sl),v=Sl.v r0/\Q r0 I
def aeM(B:ZB)(ro:AH)(a0:Sl)(I:AH)(Q:ZO->Int->AH->Prop):=
 qc prog B ro 77 #[Sl.v a0] I fun v I=> ∃(r0:ZO) (r1:Int),v= .tuple #[.pointer r0,.int .i64 r1]/\Q r0 r1 I
def abx(B:ZB)(ro:AH)(a0:ZO)(I:AH)(Q:Sl->AH->Prop):=
 qc prog B ro 78 #[.pointer a0] I fun v I=> ∃(r0:Sl),v=Sl.v r0/\Q r0 I
def pi(B:ZB)(ro:AH)(a0:ZO)(a1:ZA)(I:AH)(Q:ZO->Int->AH->Prop):=
 qc prog B ro 79 #[.pointer a0,.string a1] I fun v I=> ∃(r0:ZO) (r1:Int),v= .tuple #[.pointer r0,.int .i64 r1]/\Q r0 r1 I
def kT(B:ZB)(ro:AH)(a0:Sl)(I:AH)(Q:Sl->AH->Prop):=
 qc prog B ro 80 #[Sl.v a0] I fun v I=> ∃(r0:Sl),v=Sl.v r0/\Q r0 I
def pG(B:ZB)(ro:AH)(a0:ZA)(I:AH)(Q:ZA->Int->AH->Prop):=
 qc prog B ro 81 #[.string a0] I fun v I=> ∃(r0:ZA) (r1:Int),v= .tuple #[.string r0,.int .i64 r1]/\Q r0 r1 I
def vC(B:ZB)(ro:AH)(a0:ZA)(I:AH)(Q:Int->AH->Prop):=
 qc prog B ro 82 #[.string a0] I fun v I=> ∃(r0:Int),v= .int .i64 r0/\Q r0 I
def xC(B:ZB)(ro:AH)(a0:Sl)(a1:ZC)(I:AH)(Q:Sl->AH->Prop):=
 qc prog B ro 83 #[Sl.v a0,a1] I fun v I=> ∃(r0:Sl),v=Sl.v r0/\Q r0 I
def xU(B:ZB)(ro:AH)(a0:ZO)(I:AH)(Q:Sl->AH->Prop):=
 qc prog B ro 84 #[.pointer a0] I fun v I=> ∃(r0:Sl),v=Sl.v r0/\Q r0 I
def adX(B:ZB)(ro:AH)(a0:ZA)(a1:Addr)(I:AH)(Q:Bool->AH->Prop):=
 qc prog B ro 85 #[.string a0,.pointer (some a1)] I fun v I=> ∃(r0:Bool),v= .bool r0/\Q r0 I
def agq(B:ZB)(ro:AH)(a0 a1:ZA)(I:AH)(Q:Bool->Int->AH->Prop):=
 qc prog B ro 86 #[.string a0,.string a1] I fun v I=> ∃(r0:Bool) (r1:Int),v= .tuple #[.bool r0,.int .i64 r1]/\Q r0 r1 I
def pH(B:ZB)(ro:AH)(a0:ZA)(I:AH)(Q:Bool->AH->Prop):=
 qc prog B ro 99 #[.string a0] I fun v I=> ∃(r0:Bool),v= .bool r0/\Q r0 I
def pj(B:ZB)(ro:AH)(a0:ZO)(a1:Int)(I:AH)(Q:AH->Prop):=
 qc prog B ro 114 #[.pointer a0,.int .i64 a1] I fun v I=>v= .tuple #[]/\Q I
def yW(B:ZB)(ro:AH)(a0:ZO)(a1:ZA)(I:AH)(Q:Int->ZC->AH->Prop):=
 qc prog B ro 115 #[.pointer a0,.string a1] I fun v I=> ∃(r0:Int) (r1:ZC),v= .tuple #[.int .i64 r0,r1]/\Q r0 r1 I
def pu(B:ZB)(ro:AH)(a0:ZO)(a1:Sl)(I:AH)(Q:Int->ZC->AH->Prop):=
 qc prog B ro 116 #[.pointer a0,Sl.v a1] I fun v I=> ∃(r0:Int) (r1:ZC),v= .tuple #[.int .i64 r0,r1]/\Q r0 r1 I
def aeh(B:ZB)(ro:AH)(a0:ZO)(I:AH)(Q:Sl->AH->Prop):=
 qc prog B ro 117 #[.pointer a0] I fun v I=> ∃(r0:Sl),v=Sl.v r0/\Q r0 I
def akQ(B:ZB)(ro:AH)(a0:Int)(I:AH)(Q:Bool->AH->Prop):=
 qc prog B ro 118 #[.int .i64 a0] I fun v I=> ∃(r0:Bool),v= .bool r0/\Q r0 I
def afB(B:ZB)(ro:AH)(a0:Sl)(a1:Int)(I:AH)(Q:Int->Int->Int->AH->Prop):=
 qc prog B ro 119 #[Sl.v a0,.int .i64 a1] I fun v I=> ∃(r0:Int) (r1:Int) (r2:Int),v= .tuple #[.int .i64 r0,.int .i64 r1,.int .i64 r2]/\Q r0 r1 r2 I
def jq(B:ZB)(ro:AH)(a0:ZO)(a1:ZA)(a2 a3:Int)(I:AH)(Q:Int->Bool->Int->AH->Prop):=
 qc prog B ro 121 #[.pointer a0,.string a1,.int .i64 a2,.int .i64 a3] I fun v I=> ∃(r0:Int) (r1:Bool) (r2:Int),v= .tuple #[.int .i64 r0,.bool r1,.int .i64 r2]/\Q r0 r1 r2 I
def jS(B:ZB)(ro:AH)(a0:ZO)(a1:ZA)(a2:Sl)(a3:Int)(a4:Bool)(I:AH)(Q:ZA->Int->AH->Prop):=
 qc prog B ro 122 #[.pointer a0,.string a1,Sl.v a2,.int .i64 a3,.bool a4] I fun v I=> ∃(r0:ZA) (r1:Int),v= .tuple #[.string r0,.int .i64 r1]/\Q r0 r1 I
def vP(B:ZB)(ro:AH)(a0:ZO)(a1_0:ZA)(a1_1:Int)(I:AH)(Q:ZO->Int->AH->Prop):=
 qc prog B ro 123 #[.pointer a0,.agg #[.string a1_0,.int .i64 a1_1]] I fun v I=> ∃(r0:ZO) (r1:Int),v= .tuple #[.pointer r0,.int .i64 r1]/\Q r0 r1 I
def adv(B:ZB)(ro:AH)(a0:ZO)(a1:Sl)(I:AH)(Q:AH->Prop):=
 qc prog B ro 124 #[.pointer a0,Sl.v a1] I fun v I=>v= .tuple #[]/\Q I
def aa2(B:ZB)(ro:AH)(a0:ZO)(a1:Sl)(I:AH)(Q:Int->AH->Prop):=
 qc prog B ro 125 #[.pointer a0,Sl.v a1] I fun v I=> ∃(r0:Int),v= .int .i64 r0/\Q r0 I
def abj(B:ZB)(ro:AH)(a0:ZO)(a1:ZA)(a2:Sl)(I:AH)(Q:Sl->AH->Prop):=
 qc prog B ro 126 #[.pointer a0,.string a1,Sl.v a2] I fun v I=> ∃(r0:Sl),v=Sl.v r0/\Q r0 I
def aaC(B:ZB)(ro:AH)(a0:ZO)(a1_0:ZA)(a1_1 a2:Int)(I:AH)(Q:Sl->Bool->Int->AH->Prop):=
 qc prog B ro 127 #[.pointer a0,.agg #[.string a1_0,.int .i64 a1_1],.int .i64 a2] I fun v I=> ∃(r0:Sl) (r1:Bool) (r2:Int),v= .tuple #[Sl.v r0,.bool r1,.int .i64 r2]/\Q r0 r1 r2 I
def jz(B:ZB)(ro:AH)(a0:ZO)(a1_0:ZA)(a1_1:Int)(I:AH)(Q:Sl->AH->Prop):=
 qc prog B ro 128 #[.pointer a0,.agg #[.string a1_0,.int .i64 a1_1]] I fun v I=> ∃(r0:Sl),v=Sl.v r0/\Q r0 I
def aei(B:ZB)(ro:AH)(a0:ZO)(a1_0:ZA)(a1_1 a2:Int)(I:AH)(Q:Int->AH->Prop):=
 qc prog B ro 129 #[.pointer a0,.agg #[.string a1_0,.int .i64 a1_1],.int .i64 a2] I fun v I=> ∃(r0:Int),v= .int .i64 r0/\Q r0 I
def aaD(B:ZB)(ro:AH)(a0:ZO)(a1_0:ZA)(a1_1:Int)(I:AH)(Q:Int->AH->Prop):=
 qc prog B ro 130 #[.pointer a0,.agg #[.string a1_0,.int .i64 a1_1]] I fun v I=> ∃(r0:Int),v= .int .i64 r0/\Q r0 I
def adw(B:ZB)(ro:AH)(a0:ZO)(a1_0:Int)(a1_1:ZA)(a1_2 a1_3 a1_4 a1_5 a1_6 a1_7:Int)(a1_8:Sl)(a1_9:ZA)(a1_10:Bool)(a1_11:Int)(a1_12:Sl)(I:AH)(Q:Int->Int->Sl->Int->Sl->Int->Int->Int->Int->Sl->Sl->Int->AH->Prop):=
 qc prog B ro 131 #[.pointer a0,.agg #[.int .i64 a1_0,.string a1_1,.int .i64 a1_2,.int .i64 a1_3,.int .i64 a1_4,.int .i64 a1_5,.int .i64 a1_6,.int .i64 a1_7,Sl.v a1_8,.string a1_9,.bool a1_10,.int .i64 a1_11,Sl.v a1_12]] I fun v I=> ∃(r0_0:Int) (r0_1:Int) (r0_2:Sl) (r0_3:Int) (r0_4:Sl) (r0_5:Int) (r0_6:Int) (r0_7:Int) (r0_8:Int) (r0_9:Sl) (r0_10:Sl) (r0_11:Int),v= .agg #[.int .i64 r0_0,.int .i64 r0_1,Sl.v r0_2,.int .i64 r0_3,Sl.v r0_4,.int .i64 r0_5,.int .i64 r0_6,.int .i64 r0_7,.int .i64 r0_8,Sl.v r0_9,Sl.v r0_10,.int .i64 r0_11]/\Q r0_0 r0_1 r0_2 r0_3 r0_4 r0_5 r0_6 r0_7 r0_8 r0_9 r0_10 r0_11 I
def ui(B:ZB)(ro:AH)(a0:ZO)(a1_0:ZA)(a1_1 a2:Int)(a3:Sl)(I:AH)(Q:Int->AH->Prop):=
 qc prog B ro 132 #[.pointer a0,.agg #[.string a1_0,.int .i64 a1_1],.int .i64 a2,Sl.v a3] I fun v I=> ∃(r0:Int),v= .int .i64 r0/\Q r0 I
def adx(B:ZB)(ro:AH)(a0:ZO)(a1 a2:ZA)(a3:ZO)(I:AH)(Q:Bool->AH->Prop):=
 qc prog B ro 133 #[.pointer a0,.string a1,.string a2,.pointer a3] I fun v I=> ∃(r0:Bool),v= .bool r0/\Q r0 I
def vD(B:ZB)(ro:AH)(a0:ZA)(I:AH)(Q:Sl->Int->AH->Prop):=
 qc prog B ro 134 #[.string a0] I fun v I=> ∃(r0:Sl) (r1:Int),v= .tuple #[Sl.v r0,.int .i64 r1]/\Q r0 r1 I
def akx{a0:ZA}{Q Q':Sl->Int->AH->Prop}(h:vD B ro a0 I Q)(hq:∀ r0 r1 I,Sep ro I->Q r0 r1 I->Q' r0 r1 I):vD B ro a0 I Q':=
 qc.monoS h fun v I hs ⟨r0,r1,hv,q⟩=>⟨r0,r1,hv,hq _ _ I hs q⟩
def ajB{B:ZB}{ro ψ:AH}{a0:ZA}{Q:Sl->Int->AH->Prop}(h:vD B ro a0 I Q)(hd:qL I ψ):vD B ro a0 (join I ψ) fun r0 r1 I=> ∃τ,I=join τ ψ/\qL τ ψ/\Q r0 r1 τ:=
 (qc.frame h hd).mono fun v I ⟨τ,h1,h2,r0,r1,hv,q⟩=>⟨r0,r1,hv,⟨τ,h1,h2,q⟩⟩
def pX(B:ZB)(ro:AH)(a0:Sl)(a1:ZC)(I:AH)(Q:Int->AH->Prop):=
 qc prog B ro 135 #[Sl.v a0,a1] I fun v I=> ∃(r0:Int),v= .int .i64 r0/\Q r0 I
def ac2(B:ZB)(ro:AH)(a0:ZC)(I:AH)(Q:Sl->AH->Prop):=
 qc prog B ro 136 #[a0] I fun v I=> ∃(r0:Sl),v=Sl.v r0/\Q r0 I
def ac3(B:ZB)(ro:AH)(a0:Option Nat)(I:AH)(Q:ZC->AH->Prop):=
 qc prog B ro 137 #[.map a0] I fun v I=> ∃(r0:ZC),v=r0/\Q r0 I
def uj(B:ZB)(ro:AH)(a0 a1:ZA)(I:AH)(Q:Bool->AH->Prop):=
 qc prog B ro 138 #[.string a0,.string a1] I fun v I=> ∃(r0:Bool),v= .bool r0/\Q r0 I
def aej(B:ZB)(ro:AH)(a0:Int)(I:AH)(Q:Bool->AH->Prop):=
 qc prog B ro 174 #[.int .i64 a0] I fun v I=> ∃(r0:Bool),v= .bool r0/\Q r0 I
def ais(B:ZB)(ro:AH)(a0:Sl)(a1:Int)(I:AH)(Q:Sl->AH->Prop):=
 qc prog B ro 175 #[Sl.v a0,.int .i64 a1] I fun v I=> ∃(r0:Sl),v=Sl.v r0/\Q r0 I
def zT(B:ZB)(ro:AH)(a0:ZO)(a1:Int)(I:AH)(Q:Int->Bool->AH->Prop):=
 qc prog B ro 176 #[.pointer a0,.int .i64 a1] I fun v I=> ∃(r0:Int) (r1:Bool),v= .tuple #[.int .i64 r0,.bool r1]/\Q r0 r1 I
def uk(B:ZB)(ro:AH)(a0:ZO)(a1:Int)(I:AH)(Q:Int->AH->Prop):=
 qc prog B ro 177 #[.pointer a0,.int .i64 a1] I fun v I=> ∃(r0:Int),v= .int .i64 r0/\Q r0 I
def aa3(B:ZB)(ro:AH)(a0:Int)(I:AH)(Q:Bool->AH->Prop):=
 qc prog B ro 178 #[.int .i64 a0] I fun v I=> ∃(r0:Bool),v= .bool r0/\Q r0 I
def yX(B:ZB)(ro:AH)(a0:ZA)(I:AH)(Q:ZA->Int->AH->Prop):=
 qc prog B ro 179 #[.string a0] I fun v I=> ∃(r0:ZA) (r1:Int),v= .tuple #[.string r0,.int .i64 r1]/\Q r0 r1 I
def afC(B:ZB)(ro:AH)(a0:ZA)(a1:Int)(I:AH)(Q:ZA->Int->AH->Prop):=
 qc prog B ro 180 #[.string a0,.int .i64 a1] I fun v I=> ∃(r0:ZA) (r1:Int),v= .tuple #[.string r0,.int .i64 r1]/\Q r0 r1 I
def pY(B:ZB)(ro:AH)(a0:ZO)(a1_0:ZA)(a1_1 a2:Int)(I:AH)(Q:Int->AH->Prop):=
 qc prog B ro 181 #[.pointer a0,.agg #[.string a1_0,.int .i64 a1_1],.int .i64 a2] I fun v I=> ∃(r0:Int),v= .int .i64 r0/\Q r0 I
def ad3(B:ZB)(ro:AH)(a0:Sl)(I:AH)(Q:ZC->AH->Prop):=
 qc prog B ro 182 #[Sl.v a0] I fun v I=> ∃(r0:ZC),v=r0/\Q r0 I
def ab6(B:ZB)(ro:AH)(a0:ZO)(a1:Sl)(I:AH)(Q:Sl->AH->Prop):=
 qc prog B ro 183 #[.pointer a0,Sl.v a1] I fun v I=> ∃(r0:Sl),v=Sl.v r0/\Q r0 I
def jT(B:ZB)(ro:AH)(a0:ZO)(a1:ZA)(a2:Int)(I:AH)(Q:Int->AH->Prop):=
 qc prog B ro 184 #[.pointer a0,.string a1,.int .i64 a2] I fun v I=> ∃(r0:Int),v= .int .i64 r0/\Q r0 I
def yY(B:ZB)(ro:AH)(a0:Sl)(I:AH)(Q:Sl->AH->Prop):=
 qc prog B ro 185 #[Sl.v a0] I fun v I=> ∃(r0:Sl),v=Sl.v r0/\Q r0 I
def ab7(B:ZB)(ro:AH)(a0:ZO)(a1_0:ZA)(a1_1:Int)(I:AH)(Q:Int->Int->AH->Prop):=
 qc prog B ro 186 #[.pointer a0,.agg #[.string a1_0,.int .i64 a1_1]] I fun v I=> ∃(r0:Int) (r1:Int),v= .tuple #[.int .i64 r0,.int .i64 r1]/\Q r0 r1 I
def acL(B:ZB)(ro:AH)(a0:ZO)(a1:Int)(I:AH)(Q:AH->Prop):=
 qc prog B ro 187 #[.pointer a0,.int .i64 a1] I fun v I=>v= .tuple #[]/\Q I
def aaE(B:ZB)(ro:AH)(a0:ZO)(a1:Sl)(I:AH)(Q:Int->AH->Prop):=
 qc prog B ro 188 #[.pointer a0,Sl.v a1] I fun v I=> ∃(r0:Int),v= .int .i64 r0/\Q r0 I
def adk(B:ZB)(ro:AH)(a0:ZO)(a1:ZA)(a2 a3_0 a3_1:Int)(a4:Sl)(I:AH)(Q:Sl->Sl->Int->Int->AH->Prop):=
 qc prog B ro 189 #[.pointer a0,.string a1,.int .i64 a2,.agg #[.int .i64 a3_0,.int .i64 a3_1],Sl.v a4] I fun v I=> ∃(r0_0:Sl) (r0_1:Sl) (r0_2:Int) (r1:Int),v= .tuple #[.agg #[Sl.v r0_0,Sl.v r0_1,.int .i64 r0_2],.int .i64 r1]/\Q r0_0 r0_1 r0_2 r1 I
def afD(B:ZB)(ro I:AH)(Q:Int->Int->AH->Prop):Prop:=
 qc prog B ro 190 #[] I fun v I=> ∃(r0_0:Int) (r0_1:Int),v= .agg #[.int .i64 r0_0,.int .i64 r0_1]/\Q r0_0 r0_1 I
def acM(B:ZB)(ro:AH)(a0:ZO)(a1_0:Int)(a1_1:ZA)(a1_2 a1_3 a1_4 a1_5 a1_6 a1_7:Int)(a1_8:Sl)(a1_9:ZA)(a1_10:Bool)(a1_11:Int)(a1_12:Sl)(I:AH)(Q:Int->Int->Sl->Int->Sl->Int->Int->Int->Int->Sl->Sl->Int->AH->Prop):=
 qc prog B ro 191 #[.pointer a0,.agg #[.int .i64 a1_0,.string a1_1,.int .i64 a1_2,.int .i64 a1_3,.int .i64 a1_4,.int .i64 a1_5,.int .i64 a1_6,.int .i64 a1_7,Sl.v a1_8,.string a1_9,.bool a1_10,.int .i64 a1_11,Sl.v a1_12]] I fun v I=> ∃(r0_0:Int) (r0_1:Int) (r0_2:Sl) (r0_3:Int) (r0_4:Sl) (r0_5:Int) (r0_6:Int) (r0_7:Int) (r0_8:Int) (r0_9:Sl) (r0_10:Sl) (r0_11:Int),v= .agg #[.int .i64 r0_0,.int .i64 r0_1,Sl.v r0_2,.int .i64 r0_3,Sl.v r0_4,.int .i64 r0_5,.int .i64 r0_6,.int .i64 r0_7,.int .i64 r0_8,Sl.v r0_9,Sl.v r0_10,.int .i64 r0_11]/\Q r0_0 r0_1 r0_2 r0_3 r0_4 r0_5 r0_6 r0_7 r0_8 r0_9 r0_10 r0_11 I
def ab8(B:ZB)(ro:AH)(a0:ZO)(a1_0:Int)(a1_1:ZA)(a1_2 a1_3 a1_4 a1_5 a1_6 a1_7:Int)(a1_8:Sl)(a1_9:ZA)(a1_10:Bool)(a1_11:Int)(a1_12:Sl)(I:AH)(Q:Int->Int->Sl->Int->Sl->Int->Int->Int->Int->Sl->Sl->Int->AH->Prop):=
 qc prog B ro 192 #[.pointer a0,.agg #[.int .i64 a1_0,.string a1_1,.int .i64 a1_2,.int .i64 a1_3,.int .i64 a1_4,.int .i64 a1_5,.int .i64 a1_6,.int .i64 a1_7,Sl.v a1_8,.string a1_9,.bool a1_10,.int .i64 a1_11,Sl.v a1_12]] I fun v I=> ∃(r0_0:Int) (r0_1:Int) (r0_2:Sl) (r0_3:Int) (r0_4:Sl) (r0_5:Int) (r0_6:Int) (r0_7:Int) (r0_8:Int) (r0_9:Sl) (r0_10:Sl) (r0_11:Int),v= .agg #[.int .i64 r0_0,.int .i64 r0_1,Sl.v r0_2,.int .i64 r0_3,Sl.v r0_4,.int .i64 r0_5,.int .i64 r0_6,.int .i64 r0_7,.int .i64 r0_8,Sl.v r0_9,Sl.v r0_10,.int .i64 r0_11]/\Q r0_0 r0_1 r0_2 r0_3 r0_4 r0_5 r0_6 r0_7 r0_8 r0_9 r0_10 r0_11 I
def ag1(B:ZB)(ro:AH)(a0 a1:ZA)(I:AH)(Q:Sl->AH->Prop):=
 qc prog B ro 193 #[.string a0,.string a1] I fun v I=> ∃(r0:Sl),v=Sl.v r0/\Q r0 I
def acK(B:ZB)(ro:AH)(a0 a1:ZA)(I:AH)(Q:Bool->AH->Prop):=
 qc prog B ro 197 #[.string a0,.string a1] I fun v I=> ∃(r0:Bool),v= .bool r0/\Q r0 I
def px(B:ZB)(ro:AH)(a0:Sl)(a1:Int)(I:AH)(Q:Bool->AH->Prop):=
 qc prog B ro 205 #[Sl.v a0,.int .i64 a1] I fun v I=> ∃(r0:Bool),v= .bool r0/\Q r0 I
def afE(B:ZB)(ro:AH)(a0_0:ZA)(a0_1:Int)(a1_0:ZA)(a1_1:Int)(I:AH)(Q:Int->AH->Prop):=
 qc prog B ro 221 #[.agg #[.string a0_0,.int .i64 a0_1],.agg #[.string a1_0,.int .i64 a1_1]] I fun v I=> ∃(r0:Int),v= .int .i64 r0/\Q r0 I
def acN(B:ZB)(ro:AH)(a0:ZO)(a1:Int)(a2:ZA)(I:AH)(Q:AH->Prop):=
 qc prog B ro 222 #[.pointer a0,.int .i64 a1,.string a2] I fun v I=>v= .tuple #[]/\Q I
def afi(B:ZB)(ro:AH)(a0:ZO)(I:AH)(Q:Int->AH->Prop):=
 qc prog B ro 224 #[.pointer a0] I fun v I=> ∃(r0:Int),v= .int .i64 r0/\Q r0 I
def ait(B:ZB)(ro:AH)(a0:ZO)(I:AH)(Q:AH->Prop):=
 qc prog B ro 225 #[.pointer a0] I fun v I=>v= .tuple #[]/\Q I
def afV(B:ZB)(ro:AH)(a0:Sl)(a1:Int)(I:AH)(Q:Sl->AH->Prop):=
 qc prog B ro 226 #[Sl.v a0,.int .i64 a1] I fun v I=> ∃(r0:Sl),v=Sl.v r0/\Q r0 I
def jN(B:ZB)(ro:AH)(a0:ZA)(a1:Int)(I:AH)(Q:Int->AH->Prop):=
 qc prog B ro 227 #[.string a0,.int .u8 a1] I fun v I=> ∃(r0:Int),v= .int .i64 r0/\Q r0 I
def ahQ(B:ZB)(ro:AH)(a0:Int)(I:AH)(Q:ZA->AH->Prop):=
 qc prog B ro 228 #[.int .i64 a0] I fun v I=> ∃(r0:ZA),v= .string r0/\Q r0 I
def agr(B:ZB)(ro:AH)(a0:ZA)(a1:Int)(I:AH)(Q:ZA->AH->Prop):=
 qc prog B ro 229 #[.string a0,.int .i64 a1] I fun v I=> ∃(r0:ZA),v= .string r0/\Q r0 I
def uJ(B:ZB)(ro:AH)(a0:ZO)(a1:ZA)(a2:Int)(I:AH)(Q:ZO->Int->AH->Prop):=
 qc prog B ro 231 #[.pointer a0,.string a1,.int .i64 a2] I fun v I=> ∃(r0:ZO) (r1:Int),v= .tuple #[.pointer r0,.int .i64 r1]/\Q r0 r1 I
def ji(B:ZB)(ro:AH)(a0:Sl)(a1:ZC)(I:AH)(Q:Sl->AH->Prop):=
 qc prog B ro 232 #[Sl.v a0,a1] I fun v I=> ∃(r0:Sl),v=Sl.v r0/\Q r0 I
def aek(B:ZB)(ro:AH)(a0_0 a0_1:Int)(a0_2:ZA)(a1:Addr)(I:AH)(Q:Bool->AH->Prop):=
 qc prog B ro 233 #[.agg #[.int .i64 a0_0,.int .i64 a0_1,.string a0_2],.pointer (some a1)] I fun v I=> ∃(r0:Bool),v= .bool r0/\Q r0 I
def ael(B:ZB)(ro:AH)(a0:ZO)(a1_0:Int)(a1_1:ZA)(a1_2:Sl)(a1_3:Int)(a1_4 a1_5:Bool)(I:AH)(Q:Int->AH->Prop):=
 qc prog B ro 234 #[.pointer a0,.agg #[.int .i64 a1_0,.string a1_1,Sl.v a1_2,.int .i64 a1_3,.bool a1_4,.bool a1_5]] I fun v I=> ∃(r0:Int),v= .int .i64 r0/\Q r0 I
def af2(B:ZB)(ro:AH)(a0_0:Int)(a0_1:ZA)(a0_2 a0_3 a0_4 a0_5 a0_6 a0_7:Int)(a0_8:Sl)(a0_9:ZA)(a0_10:Bool)(a0_11:Int)(a0_12:Sl)(I:AH)(Q:Int->AH->Prop):=
 qc prog B ro 235 #[.agg #[.int .i64 a0_0,.string a0_1,.int .i64 a0_2,.int .i64 a0_3,.int .i64 a0_4,.int .i64 a0_5,.int .i64 a0_6,.int .i64 a0_7,Sl.v a0_8,.string a0_9,.bool a0_10,.int .i64 a0_11,Sl.v a0_12]] I fun v I=> ∃(r0:Int),v= .int .i64 r0/\Q r0 I
def uK(B:ZB)(ro:AH)(a0:ZO)(a1_0:ZA)(a1_1 a2:Int)(a3:ZA)(I:AH)(Q:Int->AH->Prop):=
 qc prog B ro 236 #[.pointer a0,.agg #[.string a1_0,.int .i64 a1_1],.int .i64 a2,.string a3] I fun v I=> ∃(r0:Int),v= .int .i64 r0/\Q r0 I
def aaF(B:ZB)(ro:AH)(a0:ZO)(a1:ZA)(I:AH)(Q:Sl->Int->AH->Prop):=
 qc prog B ro 237 #[.pointer a0,.string a1] I fun v I=> ∃(r0:Sl) (r1:Int),v= .tuple #[Sl.v r0,.int .i64 r1]/\Q r0 r1 I
def ac4(B:ZB)(ro:AH)(a0:Sl)(a1:Int)(I:AH)(Q:Int->AH->Prop):=
 qc prog B ro 246 #[Sl.v a0,.int .i64 a1] I fun v I=> ∃(r0:Int),v= .int .i64 r0/\Q r0 I
def aap(B:ZB)(ro:AH)(a0:ZA)(a1:Int)(I:AH)(Q:Int->AH->Prop):=
 qc prog B ro 264 #[.string a0,.int .u8 a1] I fun v I=> ∃(r0:Int),v= .int .i64 r0/\Q r0 I
def uL(B:ZB)(ro:AH)(a0:Sl)(a1:ZC)(I:AH)(Q:Int->AH->Prop):=
 qc prog B ro 271 #[Sl.v a0,a1] I fun v I=> ∃(r0:Int),v= .int .i64 r0/\Q r0 I
def aby(B:ZB)(ro:AH)(a0:ZO)(a1_0:Int)(a1_1:ZA)(a1_2:Sl)(a1_3:Int)(a1_4 a1_5:Bool)(I:AH)(Q:Int->AH->Prop):=
 qc prog B ro 272 #[.pointer a0,.agg #[.int .i64 a1_0,.string a1_1,Sl.v a1_2,.int .i64 a1_3,.bool a1_4,.bool a1_5]] I fun v I=> ∃(r0:Int),v= .int .i64 r0/\Q r0 I
def ady(B:ZB)(ro:AH)(a0:ZO)(a1:ZA)(a2:Sl)(a3:Int)(I:AH)(Q:Int->Int->AH->Prop):=
 qc prog B ro 273 #[.pointer a0,.string a1,Sl.v a2,.int .i64 a3] I fun v I=> ∃(r0:Int) (r1:Int),v= .tuple #[.int .i64 r0,.int .i64 r1]/\Q r0 r1 I
def ahq(B:ZB)(ro:AH)(a0:ZA)(I:AH)(Q:ZA->Int->AH->Prop):=
 qc prog B ro 274 #[.string a0] I fun v I=> ∃(r0:ZA) (r1:Int),v= .tuple #[.string r0,.int .i64 r1]/\Q r0 r1 I
def aah(B:ZB)(ro:AH)(a0:Sl)(I:AH)(Q:Sl->AH->Prop):=
 if a0.a=none then
 Q (⟨none,0,0⟩:Sl) I
 else
 nw ro I (.cells #[] 3) fun u0 I=>
 awp prog ro (Builtin.append_ #[55,55] 55 #[Sl.v (⟨some ⟨u0,0,none⟩,0,0⟩:Sl),Sl.v a0]) (fun v I=> ∃(u1:Sl),v=Sl.v u1/\
 Q u1 I) I
def agQ{a0 Q}(h:Sep ro I->aah B ro a0 I Q):xA B ro a0 I Q:=by
 refine zb h func65 ntmps65 fun h=>?_;unfold aah at h;refine zw ?_;refine AW.seq ?_;refine zw ?_;refine zm (aon rfl mO rfl rfl) ?_;refine zw ?_;refine AW.iff rfl zJ h (fun h=>?_) (fun h=>?_)
 .exact zr h
 refine zw ?_;refine zAp (wj (vs:=[]) (cs:= #[]) rfl mO ty3 y1 rfl rfl) h fun u0 h=>?_;refine zl (vZ (s:=Builtin.append_ #[55,55] 55 #[Sl.v (⟨some ⟨u0,0,none⟩,0,0⟩:Sl),Sl.v a0]) rfl rfl (fun _=>rfl) (qk _ h ?_))
 rintro v I ⟨u1,rfl,h⟩;exact zr h
def afF(B:ZB)(ro:AH)(a0:Sl)(I:AH)(Q:Sl->AH->Prop):=
 if a0.a=none then
 Q (⟨none,0,0⟩:Sl) I
 else
 nw ro I (.cells #[] 5) fun u0 I=>
 awp prog ro (Builtin.append_ #[24,24] 24 #[Sl.v (⟨some ⟨u0,0,none⟩,0,0⟩:Sl),Sl.v a0]) (fun v I=> ∃(u1:Sl),v=Sl.v u1/\
 Q u1 I) I
def amH{a0 Q}(h:Sep ro I->afF B ro a0 I Q):kT B ro a0 I Q:=by
 refine zb h func80 ntmps80 fun h=>?_;unfold afF at h;refine zw ?_;refine AW.seq ?_;refine zw ?_;refine zm (aon rfl mn rfl rfl) ?_;refine zw ?_;refine AW.iff rfl zJ h (fun h=>?_) (fun h=>?_)
 .exact zr h
 refine zw ?_;refine zAp (wj (vs:=[]) (cs:= #[]) rfl mn ty5 y1 rfl rfl) h fun u0 h=>?_;refine zl (vZ (s:=Builtin.append_ #[24,24] 24 #[Sl.v (⟨some ⟨u0,0,none⟩,0,0⟩:Sl),Sl.v a0]) rfl rfl (fun _=>rfl) (qk _ h ?_))
 rintro v I ⟨u1,rfl,h⟩;exact zr h
def vA(B:ZB)(ro:AH)(a0:Sl)(Q:Sl->AH->Prop)(u0:Int)(I:AH):=
 cutOk (some u0) none a0.len a0.cap/\
 awp prog ro (Builtin.clear_ #[27] 0 #[Sl.v (⟨wv a0.a (Int.toNat u0) a0.cap 1,a0.len - Int.toNat u0,a0.cap - Int.toNat u0⟩:Sl)]) (fun v I=>v= .tuple #[]/\
 cutOk none (some u0) a0.len a0.cap/\
 Q (⟨wv a0.a (0) a0.cap 1,Int.toNat u0 - 0,a0.cap - 0⟩:Sl) I) I
def wE(B:ZB)(ro:AH)(a0:Sl)(a1:ZC)(u0:Int)(Q:Sl->AH->Prop)(Y4:(Int×Int)->AH->Prop)(u1:Int)(I:AH):=
 Y4 (u1,i64.wrap (u0+1)) I
def wF(B:ZB)(ro:AH)(a0:Sl)(a1:ZC)(Q:Sl->AH->Prop):(Int×Int)->AH->((Int×Int)->AH->Prop)->Prop:=fun⟨u0,u1⟩ I Y4=>
 if u1<(a0.len:Int)then
 ∃p2,a0.a=some p2/\(0:Int)<=u1/\u1<(a0.len:Int)/\
 ∃u3,qa ro I (p2.add (Int.toNat u1*1))=some (.string u3)/\
 aeb prog B ro a1 [.string u3] I (fun v I=> ∃(u4:Bool),v= .bool u4/\
  if¬(u4=true)then
  ∃p5,a0.a=some p5/\(0:Int)<=u0/\u0<(a0.len:Int)/\
  stN (p5.add (Int.toNat u0*1)) (fun I=>
   wE B ro a0 a1 u1 Q Y4 (i64.wrap (u0+1)) I) [.string u3] 0 I
  else
  wE B ro a0 a1 u1 Q Y4 u0 I)
 else
 vA B ro a0 Q u0 I
def xD(B:ZB)(ro:AH)(a0:Sl)(a1:ZC)(I:AH)(Q:Sl->AH->Prop):=
 pX B ro a0 a1 I fun u0 I=>
 if u0=(-1)then
 Q a0 I
 else
 lfpD (wF B ro a0 a1 Q) (u0,i64.wrap (u0+1)) I
def acO{a0 a1 Q}(h:Sep ro I->xD B ro a0 a1 I Q):xC B ro a0 a1 I Q:=by
 refine zb h func83 ntmps83 fun h=>?_;unfold xD at h;refine zC func135 h fun u0 I h=>?_;refine AW.seq ?_;refine zi h (fun h=>?_) fun h=>?_
 .exact zr h
 refine zw ?_;refine AW.seqJ (fun fr I=> ∃(u1:Int),qo [(0,Sl.v a0),(5,.int .i64 u1)] fr/\vA B ro a0 Q u1 I) ?_ ?_
 .rintro fr I ⟨u1,hl,h⟩;refine AW.weaken ?_ hl (HLe.refl _)
  unfold vA at h;refine zw ?_;obtain⟨hc,h⟩:=h
  refine zm (aaW (lo:=(some u1)) (hi:=none) rfl mx ty9 rfl (ve rfl) vd hc) ?_;refine zl (vZ (s:=Builtin.clear_ #[27] 0 #[Sl.v (⟨wv a0.a (Int.toNat u1) a0.cap 1,a0.len - Int.toNat u1,a0.cap - Int.toNat u1⟩:Sl)]) rfl rfl (fun _=>rfl) (qk _ h ?_))
  rintro v I ⟨rfl,h⟩;refine zw ?_;obtain⟨hc,h⟩:=h
  refine zm (aaW (lo:=none) (hi:=(some u1)) rfl mx ty9 rfl vd (ve rfl) hc) ?_;exact zr h
 refine zw ?_;refine qi.loop (fr':=[(0,Sl.v a0),(1,a1),(5,.int .i64 u0),(6,.int .i64 (i64.wrap (u0+1)))]) ?_ FL
 refine h (fun⟨u2,u3⟩ I=>qi _ _ _ _ _ _ [(0,Sl.v a0),(1,a1),(5,.int .i64 u2),(6,.int .i64 u3)] I) ?_
 rintro⟨u2,u3⟩ I Y4 hY4 h
 show AW _ _ _ _ _ _ _ _
 unfold wF at h;dsimp only at h;refine AW.seq ?_;refine zw ?_;refine zm (qC rfl rfl mx rfl rfl) ?_;refine zi h (fun h=>?_) fun h=>?_
 rotate_left
 .refine AW.exit ?_;refine zw ?_;refine qX ?_
  refine zw ?_;exact⟨_,FL,h⟩
 refine zw ?_;refine AW.seqJ (fun fr I=> ∃(u4:Int),qo [(0,Sl.v a0),(1,a1),(6,.int .i64 u3),(5,.int .i64 u4)] fr/\wE B ro a0 a1 u3 Q Y4 u4 I) ?_ ?_
 .rintro fr I ⟨u4,hl,h⟩;refine AW.weaken ?_ hl (HLe.refl _)
  unfold wE at h;refine zw ?_;refine qi.head (fr':=[(0,Sl.v a0),(1,a1),(5,.int .i64 u4),(6,.int .i64 (i64.wrap (u3+1)))]) ?_ FL
  exact hY4 _ _ h
 refine zw ?_;obtain⟨p5,ha,h0,h1,h⟩:=h
 refine zm (wO rfl mx ty9 (ixL rfl ha) rfl h0 h1) ?_;refine zLp mo h fun u6 h=>?_;refine zl (akf rfl rfl rfl (afW h ?_))
 rintro v I ⟨u7,rfl,h⟩;refine zw ?_;refine AW.iff rfl (qu Iff.rfl) h (fun h=>?_) (fun h=>?_)
 rotate_left
 .refine zw ?_;exact⟨_,FL,h⟩
 refine zw ?_;obtain⟨p8,ha,h0,h1,h⟩:=h
 refine zm (wO rfl mx ty9 (ixL rfl ha) rfl h0 h1) ?_;refine zsp ty9 h fun I h=>?_;exact⟨_,FL,h⟩
def vH(B:ZB)(ro:AH)(Q:Int->AH->Prop)(I:AH):=
 Q (-1) I
def zD(B:ZB)(ro:AH)(a0:Sl)(a1:ZC)(Q:Int->AH->Prop):Int->AH->(Int->AH->Prop)->Prop:=fun u0 I Y2=>
 if u0<(a0.len:Int)then
 ∃p1,a0.a=some p1/\(0:Int)<=u0/\u0<(a0.len:Int)/\
 ∃u2,qa ro I (p1.add (Int.toNat u0*1))=some (.string u2)/\
 aeb prog B ro a1 [.string u2] I (fun v I=> ∃(u3:Bool),v= .bool u3/\
  if u3=true then
  Q u0 I
  else
  Y2 (i64.wrap (u0+1)) I)
 else
 vH B ro Q I
def xO(B:ZB)(ro:AH)(a0:Sl)(a1:ZC)(I:AH)(Q:Int->AH->Prop):=
 lfpD (zD B ro a0 a1 Q) (0) I
def ac5{a0 a1 Q}(h:Sep ro I->xO B ro a0 a1 I Q):pX B ro a0 a1 I Q:=by
 refine zb h func135 ntmps135 fun h=>?_;unfold xO at h;refine zw ?_;refine AW.seqJ (fun fr I=>qo [] fr/\vH B ro Q I) ?_ ?_
 .rintro fr I ⟨hl,h⟩;refine AW.weaken ?_ hl (HLe.refl _)
  unfold vH at h;exact zr h
 refine zw ?_;refine zm (qC rfl rfl mx rfl rfl) ?_;refine zw ?_;refine qi.loop (fr':=[(0,Sl.v a0),(1,a1),(7,.int .i64 (a0.len:Int)),(8,.int .i64 0)]) ?_ FL
 refine h (fun u0 I=>qi _ _ _ _ _ _ [(0,Sl.v a0),(1,a1),(7,.int .i64 (a0.len:Int)),(8,.int .i64 u0)] I) ?_
 rintro u0 I Y2 hY2 h
 show AW _ _ _ _ _ _ _ _
 unfold zD at h;refine zw ?_;refine AW.seq ?_;refine zi h (fun h=>?_) fun h=>?_
 rotate_left
 .refine AW.exit ?_;refine zw ?_;refine qX ?_
  refine zw ?_;exact⟨FL,h⟩
 refine zw ?_;refine AW.seq ?_;refine zw ?_;obtain⟨p1,ha,h0,h1,h⟩:=h
 refine zm (wO rfl mx ty9 (ixL rfl ha) rfl h0 h1) ?_;refine zL mo h fun u2 h=>?_;refine zl (akf rfl rfl rfl (afW h ?_))
 rintro v I ⟨u3,rfl,h⟩;refine zj h (fun h=>?_) fun h=>?_
 .exact zr h
 refine zw ?_;refine qi.head (fr':=[(0,Sl.v a0),(1,a1),(7,.int .i64 (a0.len:Int)),(8,.int .i64 (i64.wrap (u0+1)))]) ?_ FL
 exact hY2 _ _ h
def abz(B:ZB)(ro:AH)(a0 a1:ZA)(I:AH)(Q:Bool->AH->Prop):=
 acK B ro a0 a1 I fun u0 I=>
 Q u0 I
def aiu{a0 a1 Q}(h:Sep ro I->abz B ro a0 a1 I Q):uj B ro a0 a1 I Q:=by
 refine zb h func138 ntmps138 fun h=>?_;unfold abz at h;refine zc func197 h ?_;rintro v I ⟨u0,rfl,h⟩;exact zr h
def jj(B:ZB)(ro:AH)(a0:Sl)(I:AH)(Q:ZC->AH->Prop):=
 nw ro I (.cells #[Sl.v a0] 27) fun u0 I=>
 Q (.func (.func 230) #[] #[.pointer (some ⟨u0,0,none⟩)]) I
def adz{a0 Q}(h:Sep ro I->jj B ro a0 I Q):ad3 B ro a0 I Q:=by
 refine zb h func182 ntmps182 fun h=>?_;unfold jj at h;refine zw ?_;refine zAp (wt rfl rfl) h fun u0 h=>?_;refine zm (aqO rfl rfl rfl) ?_;exact zr h
def yZ(B:ZB)(ro:AH)(a0:Sl)(I:AH)(Q:Sl->AH->Prop):=
 if a0.a=none then
 Q (⟨none,0,0⟩:Sl) I
 else
 nw ro I (.cells #[] 132) fun u0 I=>
 awp prog ro (Builtin.append_ #[28,28] 28 #[Sl.v (⟨some ⟨u0,0,none⟩,0,0⟩:Sl),Sl.v a0]) (fun v I=> ∃(u1:Sl),v=Sl.v u1/\
 Q u1 I) I
def afj{a0 Q}(h:Sep ro I->yZ B ro a0 I Q):yY B ro a0 I Q:=by
 refine zb h func185 ntmps185 fun h=>?_;unfold yZ at h;refine zw ?_;refine AW.seq ?_;refine zw ?_;refine zm (aon rfl nf rfl rfl) ?_;refine zw ?_;refine AW.iff rfl zJ h (fun h=>?_) (fun h=>?_)
 .exact zr h
 refine zw ?_;refine zAp (wj (vs:=[]) (cs:= #[]) rfl nf xJ y1 rfl rfl) h fun u0 h=>?_;refine zl (vZ (s:=Builtin.append_ #[28,28] 28 #[Sl.v (⟨some ⟨u0,0,none⟩,0,0⟩:Sl),Sl.v a0]) rfl rfl (fun _=>rfl) (qk _ h ?_))
 rintro v I ⟨u1,rfl,h⟩;exact zr h
def kK(B:ZB)(ro:AH)(Q:Bool->AH->Prop)(u0:Bool)(I:AH):=
 Q u0 I
def ut(B:ZB)(ro:AH)(a0 a1:ZA)(I:AH)(Q:Bool->AH->Prop):=
 if(a1.size:Int)<=(a0.size:Int)then
 cutOk none (some (a1.size:Int)) a0.size a0.size/\
 kK B ro Q (decide ((a0.extract (0) (Int.toNat (a1.size:Int)))=a1)) I
 else
 kK B ro Q false I
def ags{a0 a1 Q}(h:Sep ro I->ut B ro a0 a1 I Q):acK B ro a0 a1 I Q:=by
 refine zb h func197 ntmps197 fun h=>?_;unfold ut at h;refine zw ?_;refine zm (abZ rfl rfl mo rfl rfl) ?_;refine zw ?_;refine zm (abZ rfl rfl mo rfl rfl) ?_;refine zw ?_;refine qI 7 (decide ((a1.size:Int)<=(a0.size:Int))) me h (fun fr I=> ∃(u0:Bool),qo [(17,.bool u0)] fr/\kK B ro Q u0 I) ?_ ?_ ?_
 .intro h e5 hk5;refine zv e5 ?_;refine qO (abZ rfl rfl mo rfl rfl) rfl rfl rfl rfl e5 ?_
  obtain⟨hc,h⟩:=h
  refine qO (aol (lo:=none) (hi:=(some (a1.size:Int))) rfl mo rfl vd (ve rfl) hc) rfl rfl rfl rfl e5 ?_
  refine zv e5 ?_;exact hk5 _ _ ⟨_,FL,h⟩
 .intro h e5 hk5;refine zv e5 ?_;exact hk5 _ _ ⟨_,FL,h⟩
 rintro fr I ⟨u0,hl,h⟩;unfold kK at h;refine Lfr hl ?_
 exact zr h
def py(B:ZB)(ro:AH)(a0:Sl)(a1:Int)(I:AH)(Q:Bool->AH->Prop):=
 ac4 B ro a0 a1 I fun u0 I=>
 Q (decide (0<=u0)) I
def afG{a0 a1 Q}(h:Sep ro I->py B ro a0 a1 I Q):px B ro a0 a1 I Q:=by
 refine zb h func205 ntmps205 fun h=>?_;unfold py at h;refine zc func246 h ?_;rintro v I ⟨u0,rfl,h⟩;exact zr h
def uu(B:ZB)(ro:AH)(a0:ZA)(a1:Int)(I:AH)(Q:Int->AH->Prop):=
 aap B ro a0 a1 I fun u0 I=>
 Q u0 I
def agt{a0 a1 Q}(h:Sep ro I->uu B ro a0 a1 I Q):jN B ro a0 a1 I Q:=by
 refine zb h func227 ntmps227 fun h=>?_;unfold uu at h;refine zc func264 h ?_;rintro v I ⟨u0,rfl,h⟩;exact zr h
def vQ(B:ZB)(ro:AH)(a0:Sl)(Q:Sl->AH->Prop)(u0:Int)(I:AH):=
 cutOk (some u0) none a0.len a0.cap/\
 awp prog ro (Builtin.clear_ #[28] 0 #[Sl.v (⟨wv a0.a (Int.toNat u0) a0.cap 3,a0.len - Int.toNat u0,a0.cap - Int.toNat u0⟩:Sl)]) (fun v I=>v= .tuple #[]/\
 cutOk none (some u0) a0.len a0.cap/\
 Q (⟨wv a0.a (0) a0.cap 3,Int.toNat u0 - 0,a0.cap - 0⟩:Sl) I) I
def wP(B:ZB)(ro:AH)(a0:Sl)(a1:ZC)(u0:Int)(Q:Sl->AH->Prop)(Y4:(Int×Int)->AH->Prop)(u1:Int)(I:AH):=
 Y4 (u1,i64.wrap (u0+1)) I
def wQ(B:ZB)(ro:AH)(a0:Sl)(a1:ZC)(Q:Sl->AH->Prop):(Int×Int)->AH->((Int×Int)->AH->Prop)->Prop:=fun⟨u0,u1⟩ I Y4=>
 if u1<(a0.len:Int)then
 ∃p2,a0.a=some p2/\(0:Int)<=u1/\u1<(a0.len:Int)/\
 ∃u3 u4 u5,qe ro I (p2.add (Int.toNat u1*3)) 0 [.int .i64 u3,.int .i64 u4,.string u5]/\
 nw ro I (.cells #[.int .i64 0,.int .i64 0,.string ByteArray.empty] 132) fun u6 I=>
 stN ⟨u6,0,none⟩ (fun I=>
  ∃u7 u8 u9,qe ro I ⟨u6,0,none⟩ 0 [.int .i64 u7,.int .i64 u8,.string u9]/\
  aeb prog B ro a1 [.agg #[.int .i64 u7,.int .i64 u8,.string u9]] I (fun v I=> ∃(u10:Bool),v= .bool u10/\
  if¬(u10=true)then
   ∃u11 u12 u13,qe ro I ⟨u6,0,none⟩ 0 [.int .i64 u11,.int .i64 u12,.string u13]/\
   ∃p14,a0.a=some p14/\(0:Int)<=u0/\u0<(a0.len:Int)/\
   stN (p14.add (Int.toNat u0*3)) (fun I=>
   wP B ro a0 a1 u1 Q Y4 (i64.wrap (u0+1)) I) [.int .i64 u11,.int .i64 u12,.string u13] 0 I
  else
  wP B ro a0 a1 u1 Q Y4 u0 I)) [.int .i64 u3,.int .i64 u4,.string u5] 0 I
 else
 vQ B ro a0 Q u0 I
def jk(B:ZB)(ro:AH)(a0:Sl)(a1:ZC)(I:AH)(Q:Sl->AH->Prop):=
 uL B ro a0 a1 I fun u0 I=>
 if u0=(-1)then
 Q a0 I
 else
 lfpD (wQ B ro a0 a1 Q) (u0,i64.wrap (u0+1)) I
def adA{a0 a1 Q}(h:Sep ro I->jk B ro a0 a1 I Q):ji B ro a0 a1 I Q:=by
 refine zb h func232 ntmps232 fun h=>?_;unfold jk at h;refine zC func271 h fun u0 I h=>?_;refine AW.seq ?_;refine zi h (fun h=>?_) fun h=>?_
 .exact zr h
 refine zw ?_;refine AW.seqJ (fun fr I=> ∃(u1:Int),qo [(0,Sl.v a0),(5,.int .i64 u1)] fr/\vQ B ro a0 Q u1 I) ?_ ?_
 .rintro fr I ⟨u1,hl,h⟩;refine AW.weaken ?_ hl (HLe.refl _)
  unfold vQ at h;refine zw ?_;obtain⟨hc,h⟩:=h
  refine zm (aaW (lo:=(some u1)) (hi:=none) rfl nf xJ rfl (ve rfl) vd hc) ?_;refine zl (vZ (s:=Builtin.clear_ #[28] 0 #[Sl.v (⟨wv a0.a (Int.toNat u1) a0.cap 3,a0.len - Int.toNat u1,a0.cap - Int.toNat u1⟩:Sl)]) rfl rfl (fun _=>rfl) (qk _ h ?_))
  rintro v I ⟨rfl,h⟩;refine zw ?_;obtain⟨hc,h⟩:=h
  refine zm (aaW (lo:=none) (hi:=(some u1)) rfl nf xJ rfl vd (ve rfl) hc) ?_;exact zr h
 refine zw ?_;refine qi.loop (fr':=[(0,Sl.v a0),(1,a1),(5,.int .i64 u0),(6,.int .i64 (i64.wrap (u0+1)))]) ?_ FL
 refine h (fun⟨u2,u3⟩ I=>qi _ _ _ _ _ _ [(0,Sl.v a0),(1,a1),(5,.int .i64 u2),(6,.int .i64 u3)] I) ?_
 rintro⟨u2,u3⟩ I Y4 hY4 h
 show AW _ _ _ _ _ _ _ _
 unfold wQ at h;dsimp only at h;refine AW.seq ?_;refine zw ?_;refine zm (qC rfl rfl nf rfl rfl) ?_;refine zi h (fun h=>?_) fun h=>?_
 rotate_left
 .refine AW.exit ?_;refine zw ?_;refine qX ?_
  refine zw ?_;exact⟨_,FL,h⟩
 refine zw ?_;refine AW.seqJ (fun fr I=> ∃(u4:Int),qo [(0,Sl.v a0),(1,a1),(6,.int .i64 u3),(5,.int .i64 u4)] fr/\wP B ro a0 a1 u3 Q Y4 u4 I) ?_ ?_
 .rintro fr I ⟨u4,hl,h⟩;refine AW.weaken ?_ hl (HLe.refl _)
  unfold wP at h;refine zw ?_;refine qi.head (fr':=[(0,Sl.v a0),(1,a1),(5,.int .i64 u4),(6,.int .i64 (i64.wrap (u3+1)))]) ?_ FL
  exact hY4 _ _ h
 refine zw ?_;obtain⟨p5,ha,h0,h1,h⟩:=h
 refine zm (wO rfl nf xJ (ixL rfl ha) rfl h0 h1) ?_;obtain⟨u6,u7,u8,hc,h⟩:=h
 refine zl (wq rfl nG rfl xJ rfl hc ?_)
 refine zA (qT rfl xJ) h fun u9 h=>?_;refine zsp xJ h fun I h=>?_;obtain⟨u10,u11,u12,hc,h⟩:=h
 refine zl (wq rfl nG rfl xJ rfl hc ?_)
 refine zl (akf rfl rfl rfl (afW h ?_))
 rintro v I ⟨u13,rfl,h⟩;refine zw ?_;refine AW.iff rfl (qu Iff.rfl) h (fun h=>?_) (fun h=>?_)
 rotate_left
 .refine zw ?_;exact⟨_,FL,h⟩
 refine zw ?_;obtain⟨u14,u15,u16,hc,h⟩:=h
 refine zl (wq rfl nG rfl xJ rfl hc ?_)
 obtain⟨p17,ha,h0,h1,h⟩:=h
 refine zm (wO rfl nf xJ (ixL rfl ha) rfl h0 h1) ?_;refine zsp xJ h fun I h=>?_;exact⟨_,FL,h⟩
def jO(B:ZB)(ro:AH)(Q:Int->AH->Prop)(I:AH):=
 Q (-1) I
def xd(B:ZB)(ro:AH)(a0:Sl)(a1:Int)(Q:Int->AH->Prop):Int->AH->(Int->AH->Prop)->Prop:=fun u0 I Y2=>
 if u0<(a0.len:Int)then
 ∃p1,a0.a=some p1/\(0:Int)<=u0/\u0<(a0.len:Int)/\
 ∃u2,qa ro I (p1.add (Int.toNat u0*1))=some (.int .i64 u2)/\
 if a1=u2 then
  Q u0 I
 else
 Y2 (i64.wrap (u0+1)) I
 else
 jO B ro Q I
def aai(B:ZB)(ro:AH)(a0:Sl)(a1:Int)(I:AH)(Q:Int->AH->Prop):=
 lfpD (xd B ro a0 a1 Q) (0) I
def agR{a0 a1 Q}(h:Sep ro I->aai B ro a0 a1 I Q):ac4 B ro a0 a1 I Q:=by
 refine zb h func246 ntmps246 fun h=>?_;unfold aai at h;refine zw ?_;refine AW.seqJ (fun fr I=>qo [] fr/\jO B ro Q I) ?_ ?_
 .rintro fr I ⟨hl,h⟩;refine AW.weaken ?_ hl (HLe.refl _)
  unfold jO at h;exact zr h
 refine zw ?_;refine zm (qC rfl rfl mO rfl rfl) ?_;refine zw ?_;refine qi.loop (fr':=[(0,Sl.v a0),(1,.int .i64 a1),(7,.int .i64 (a0.len:Int)),(8,.int .i64 0)]) ?_ FL
 refine h (fun u0 I=>qi _ _ _ _ _ _ [(0,Sl.v a0),(1,.int .i64 a1),(7,.int .i64 (a0.len:Int)),(8,.int .i64 u0)] I) ?_
 rintro u0 I Y2 hY2 h
 show AW _ _ _ _ _ _ _ _
 unfold xd at h;refine zw ?_;refine AW.seq ?_;refine zi h (fun h=>?_) fun h=>?_
 rotate_left
 .refine AW.exit ?_;refine zw ?_;refine qX ?_
  refine zw ?_;exact⟨FL,h⟩
 refine zw ?_;refine AW.seq ?_;refine zw ?_;obtain⟨p1,ha,h0,h1,h⟩:=h
 refine zm (wO rfl mO ty3 (ixL rfl ha) rfl h0 h1) ?_;refine zL mf h fun u2 h=>?_;refine zi h (fun h=>?_) fun h=>?_
 .exact zr h
 refine zw ?_;refine qi.head (fr':=[(0,Sl.v a0),(1,.int .i64 a1),(7,.int .i64 (a0.len:Int)),(8,.int .i64 (i64.wrap (u0+1)))]) ?_ FL
 exact hY2 _ _ h
def jr(B:ZB)(ro:AH)(Q:Int->AH->Prop)(I:AH):=
 Q (-1) I
def vf(B:ZB)(ro:AH)(a0:ZA)(a1:Int)(Q:Int->AH->Prop):Int->AH->(Int->AH->Prop)->Prop:=fun u0 I Y2=>
 if 0<=u0 then
 ∃u1:UInt8,(0:Int)<=u0/\a0[Int.toNat u0]?=some u1/\
 if(u1.toNat:Int)=a1 then
  Q u0 I
 else
 Y2 (i64.wrap (u0 - 1)) I
 else
 jr B ro Q I
def jK(B:ZB)(ro:AH)(a0:ZA)(a1:Int)(I:AH)(Q:Int->AH->Prop):=
 lfpD (vf B ro a0 a1 Q) (i64.wrap ((a0.size:Int) - 1)) I
def aem{a0 a1 Q}(h:Sep ro I->jK B ro a0 a1 I Q):aap B ro a0 a1 I Q:=by
 refine zb h func264 ntmps264 fun h=>?_;unfold jK at h;refine zw ?_;refine AW.seqJ (fun fr I=>qo [] fr/\jr B ro Q I) ?_ ?_
 .rintro fr I ⟨hl,h⟩;refine AW.weaken ?_ hl (HLe.refl _)
  unfold jr at h;exact zr h
 refine zw ?_;refine zm (abZ rfl rfl mo rfl rfl) ?_;refine zw ?_;refine qi.loop (fr':=[(0,.string a0),(1,.int .u8 a1),(5,.int .i64 (i64.wrap ((a0.size:Int) - 1)))]) ?_ FL
 refine h (fun u0 I=>qi _ _ _ _ _ _ [(0,.string a0),(1,.int .u8 a1),(5,.int .i64 u0)] I) ?_
 rintro u0 I Y2 hY2 h
 show AW _ _ _ _ _ _ _ _
 unfold vf at h;refine AW.seq ?_;refine zi h (fun h=>?_) fun h=>?_
 rotate_left
 .refine AW.exit ?_;refine zw ?_;refine qX ?_
  refine zw ?_;exact⟨FL,h⟩
 refine zw ?_;refine AW.seq ?_;refine zw ?_;obtain⟨u1,h0,hc,h⟩:=h
 refine zm (avZ rfl mo rfl rfl h0 hc) ?_;refine zi h (fun h=>?_) fun h=>?_
 .exact zr h
 refine zw ?_;refine qi.head (fr':=[(0,.string a0),(1,.int .u8 a1),(5,.int .i64 (i64.wrap (u0 - 1)))]) ?_ FL
 exact hY2 _ _ h
def kf(B:ZB)(ro:AH)(Q:Int->AH->Prop)(I:AH):=
 Q (-1) I
def zU(B:ZB)(ro:AH)(a0:Sl)(a1:ZC)(Q:Int->AH->Prop):Int->AH->(Int->AH->Prop)->Prop:=fun u0 I Y2=>
 if u0<(a0.len:Int)then
 ∃p1,a0.a=some p1/\(0:Int)<=u0/\u0<(a0.len:Int)/\
 ∃u2 u3 u4,qe ro I (p1.add (Int.toNat u0*3)) 0 [.int .i64 u2,.int .i64 u3,.string u4]/\
 aeb prog B ro a1 [.agg #[.int .i64 u2,.int .i64 u3,.string u4]] I (fun v I=> ∃(u5:Bool),v= .bool u5/\
  if u5=true then
  Q u0 I
  else
  Y2 (i64.wrap (u0+1)) I)
 else
 kf B ro Q I
def js(B:ZB)(ro:AH)(a0:Sl)(a1:ZC)(I:AH)(Q:Int->AH->Prop):=
 lfpD (zU B ro a0 a1 Q) (0) I
def ad4{a0 a1 Q}(h:Sep ro I->js B ro a0 a1 I Q):uL B ro a0 a1 I Q:=by
 refine zb h func271 ntmps271 fun h=>?_;unfold js at h;refine zw ?_;refine AW.seqJ (fun fr I=>qo [] fr/\kf B ro Q I) ?_ ?_
 .rintro fr I ⟨hl,h⟩;refine AW.weaken ?_ hl (HLe.refl _)
  unfold kf at h;exact zr h
 refine zw ?_;refine zm (qC rfl rfl nf rfl rfl) ?_;refine zw ?_;refine qi.loop (fr':=[(0,Sl.v a0),(1,a1),(7,.int .i64 (a0.len:Int)),(8,.int .i64 0)]) ?_ FL
 refine h (fun u0 I=>qi _ _ _ _ _ _ [(0,Sl.v a0),(1,a1),(7,.int .i64 (a0.len:Int)),(8,.int .i64 u0)] I) ?_
 rintro u0 I Y2 hY2 h
 show AW _ _ _ _ _ _ _ _
 unfold zU at h;refine zw ?_;refine AW.seq ?_;refine zi h (fun h=>?_) fun h=>?_
 rotate_left
 .refine AW.exit ?_;refine zw ?_;refine qX ?_
  refine zw ?_;exact⟨FL,h⟩
 refine zw ?_;refine AW.seq ?_;refine zw ?_;obtain⟨p1,ha,h0,h1,h⟩:=h
 refine zm (wO rfl nf xJ (ixL rfl ha) rfl h0 h1) ?_;obtain⟨u2,u3,u4,hc,h⟩:=h
 refine zl (wq rfl nG rfl xJ rfl hc ?_)
 refine zl (akf rfl rfl rfl (afW h ?_))
 rintro v I ⟨u5,rfl,h⟩;refine zj h (fun h=>?_) fun h=>?_
 .exact zr h
 refine zw ?_;refine qi.head (fr':=[(0,Sl.v a0),(1,a1),(7,.int .i64 (a0.len:Int)),(8,.int .i64 (i64.wrap (u0+1)))]) ?_ FL
 exact hY2 _ _ h