import Derived.JoinedCond
import Derived.Test.YtomdigihapdhnaaGreatDoorRows
import Derived.Test.YtomdigihapdhnaaGreatDoorXS
set_option linter.all false
set_option maxRecDepth 99999
set_option maxHeartbeats 0
open Go.IntKind(i64)
open Go.Proofs.Tryz
namespace Go.Proofs.YtomdigihapdhnaaGreatDoor
namespace Zt
open Go SL G Pa Wi
variable{s:Sl}
theorem acm:∃ fs,prog.underlying 57=some (.struct fs)/\fs.toList.map (fun f:Field=>(f.type,f.offset))=[(3,0),(9,1),(3,2),(3,3),(3,4),(3,5),(3,6),(3,7),(54,8),(9,9),(4,10),(3,11),(55,12)]:=⟨_,my,rfl⟩
theorem amo:∃ fs,prog.underlying 72=some (.struct fs)/\fs.toList.map (fun f:Field=>(f.type,f.offset))=[(3,0),(9,1),(24,2),(3,3),(4,4),(4,5)]:=⟨_,mX,rfl⟩
theorem av6:prog.cellsOf 57=13:=y1
theorem awo:prog.cellsOf 72=6:=y1
theorem kI:prog.cellsOf 3=1:=y1
theorem kB:prog.cellsOf 4=1:=y1
theorem kU:prog.cellsOf 5=1:=y1
theorem kS9:prog.cellsOf 9=1:=y1
theorem kD:prog.cellsOf 24=1:=y1
theorem kOs:prog.cellsOf 54=1:=y1
theorem kIs:prog.cellsOf 55=1:=y1
theorem uOs:prog.underlying 54=some (.slice 72):=y1
theorem uDs:prog.underlying 24=some (.slice 5):=y1
theorem uU:prog.underlying 5=some (.int .u8):=y1
theorem uBo:prog.underlying 4=some .bool:=y1
theorem uCs:prog.underlying 50=some (.slice 57):=y1
variable{n:Nat}{W:World}{H:Type}{enc:TypeId×Value->H}
theorem av7(h:zJ n prog W H enc 24 [Sl.v s]):∃ d:Str,d.length<=n/\SL.wy (all W) (fun _=>none) s (d.map vU):=by
 obtain⟨l,h1,h2,_,_⟩:=zJ.rows (α:=UInt8) (V:=fun c=>[vU c]) (G:=fun _=>True) uDs kU (fun _=>rfl) (fun cs hc hl=>by
  match cs,hl with
  | [u],_=>
   obtain⟨c,rfl⟩:=Arg.u8 uU hc.arg
   exact⟨c,rfl,trivial⟩) h
 exact⟨l,h1,h2.one⟩
theorem av8(h:zJ n prog W H enc 55 [Sl.v s]):∃ d:List Int,d.length<=n/\SL.wy (all W) (fun _=>none) s (d.map vI):=by
 obtain⟨l,h1,h2,_,_⟩:=zJ.rows (α:=Int) (V:=fun c=>[vI c]) (G:=fun _=>True) aqo kI (fun _=>rfl) (fun cs hc hl=>by
  match cs,hl with
  | [u],_=>
   obtain⟨c,rfl,_⟩:=zJ.i64 u3' hc
   exact⟨c,rfl,trivial⟩) h
 exact⟨l,h1,h2.one⟩
instance:Inhabited MOp:=⟨⟨0,[],[],0,false,false⟩⟩
instance:Inhabited Sl:=⟨⟨none,0,0⟩⟩
theorem awq(h:zJ 1048576 prog W H enc 54 [Sl.v s]):∃ ops:List MOp,ops.length<=1048576/\aqc (all W) s ops/\∀ o∈ops,o.path.length<=1048576/\o.data.length<=1048576:=by
 obtain⟨l,h1,h2,h3,_⟩:=zJ.rows (α:=MOp×Sl) (V:=fun y=>opV y.1 y.2) (G:=fun y=>(y.1.path.length<=1048576/\y.1.data.length<=1048576)/\SL.wy (all W) (fun _=>none) y.2 (y.1.data.map vU)) uOs awo (fun _=>rfl) (fun cs hc hl=>by
  match cs,hl with
  | [v0,v1,v2,v3,v4,v5],_=>
   have a0:=hc.field amo 0 rfl
   have a1:=hc.field amo 1 rfl
   have a2:=hc.field amo 2 rfl
   have a3:=hc.field amo 3 rfl
   have a4:=hc.field amo 4 rfl
   have a5:=hc.field amo 5 rfl
   rw[kI]at a0 a3
   rw[kS9]at a1
   rw[kD]at a2
   rw[kB]at a4 a5
   obtain⟨x0,rfl,_⟩:=zJ.i64 u3' a0
   obtain⟨x1,rfl,h1⟩:=zJ.text u9 a1
   obtain⟨ds,rfl⟩:=zJ.isSlice uDs a2
   obtain⟨d,hd,rd⟩:=av7 a2
   obtain⟨x3,rfl,_⟩:=zJ.i64 u3' a3
   obtain⟨x4,rfl⟩:=Arg.bool uBo a4.arg
   obtain⟨x5,rfl⟩:=Arg.bool uBo a5.arg
   exact⟨(⟨x0,L x1,d,x3,x4,x5⟩,ds),by simp[opV,Pa.vS],⟨by rw[zd];exact h1,hd⟩,rd⟩) h
 refine⟨l.map (·.1),j2 h1,⟨by rw[h2.1];simp,fun j o ho=>?_⟩,fun o ho=>?_⟩
 .rw[mg]at ho
  obtain⟨y,hy,rfl⟩:=nj.1 ho
  have hm:=h3 y (mU hy)
  obtain⟨q,hq,_⟩:=h2.at (j:=j) (x:=opV y.1 y.2) (by rw[mg,hy];try rfl)
  refine⟨q,y.2,hq,fun I=>?_,hm.2,by have:=hm.1.2;omega⟩
  obtain⟨q',hq',hc⟩:=(h2.keep (I:=I)).at (j:=j) (x:=opV y.1 y.2) (by rw[mg,hy];try rfl)
  rw[hq]at hq';cases hq'
  exact hc
 .obtain⟨y,hy,rfl⟩:=mC.1 ho
  exact(h3 y hy).1
instance:Inhabited zD:=⟨zD.zero⟩
theorem avp(h:zJ 1048576 prog W H enc 50 [Sl.v s]):∃ cs:List (zD×Sl×Sl),cs.length<=1048576/\SL.jF (all W) (fun _=>none) 13 s (cs.map aqO)/\∀ y∈cs,aos (all W) y:=by
 obtain⟨l,h1,h2,h3,_⟩:=zJ.rows (α:=zD×Sl×Sl) (V:=aqO) (G:=aos (all W)) uCs av6 (fun _=>rfl) (fun cs hc hl=>by
  match cs,hl with
  | [v0,v1,v2,v3,v4,v5,v6,v7,v8,v9,v10,v11,v12],_=>
   have a0:=hc.field acm 0 rfl
   have a1:=hc.field acm 1 rfl
   have a2:=hc.field acm 2 rfl
   have a3:=hc.field acm 3 rfl
   have a4:=hc.field acm 4 rfl
   have a5:=hc.field acm 5 rfl
   have a6:=hc.field acm 6 rfl
   have a7:=hc.field acm 7 rfl
   have a8:=hc.field acm 8 rfl
   have a9:=hc.field acm 9 rfl
   have a10:=hc.field acm 10 rfl
   have a11:=hc.field acm 11 rfl
   have a12:=hc.field acm 12 rfl
   rw[kI]at a0 a2 a3 a4 a5 a6 a7 a11
   rw[kS9]at a1 a9
   rw[kOs]at a8
   rw[kB]at a10
   rw[kIs]at a12
   obtain⟨x0,rfl,_⟩:=zJ.i64 u3' a0
   obtain⟨x1,rfl,b1⟩:=zJ.text u9 a1
   obtain⟨x2,rfl,_⟩:=zJ.i64 u3' a2
   obtain⟨x3,rfl,_⟩:=zJ.i64 u3' a3
   obtain⟨x4,rfl,_⟩:=zJ.i64 u3' a4
   obtain⟨x5,rfl,_⟩:=zJ.i64 u3' a5
   obtain⟨x6,rfl,_⟩:=zJ.i64 u3' a6
   obtain⟨x7,rfl,_⟩:=zJ.i64 u3' a7
   obtain⟨os,rfl⟩:=zJ.isSlice uOs a8
   obtain⟨ops,lo,ro,bo⟩:=awq a8
   obtain⟨x9,rfl,b9⟩:=zJ.text u9 a9
   obtain⟨x10,rfl⟩:=Arg.bool uBo a10.arg
   obtain⟨x11,rfl,_⟩:=zJ.i64 u3' a11
   obtain⟨ms,rfl⟩:=zJ.isSlice aqo a12
   obtain⟨mm,lm,rm⟩:=av8 a12
   exact⟨(⟨x0,L x1,x2,x3,x4,x5,x6,x7,ops,L x9,x10,x11,mm⟩,os,ms),z8,⟨⟨ro,rm⟩,⟨by rw[zd];exact b1,by rw[zd];exact b9,bo⟩,lo,lm⟩⟩) h
 exact⟨l,h1,h2,h3⟩
end Zt
namespace G
open Go SL
variable{B:World}{ro I:AH}
def jJ(B:World)(ro:AH)(Q:Bool->AH->Prop)(I:AH):=
 ae7 B ro I fun u0 I=>
 Q u0 I
def jK(B:World)(ro:AH)(a0:Sl)(u0:Option Addr)(u1:Int)(Q:Bool->AH->Prop)(Y6:Int->AH->Prop)(I:AH):=
 Y6 (i64.wrap (u1+1)) I
def vF(B:World)(ro:AH)(a0:Sl)(u0:Option Addr)(u1:Int)(u2:Option Addr)(u3:Sl)(u4:Int)(Q:Bool->AH->Prop)(Y6:Int->AH->Prop)(Y18:Int->AH->Prop)(I:AH):=
 Y18 (i64.wrap (u4+1)) I
def jo(B:World)(ro:AH)(a0:Sl)(u0:Option Addr)(u1:Int)(u2:Option Addr)(u3:Sl)(u4:Int)(Q:Bool->AH->Prop)(Y6:Int->AH->Prop)(Y18:Int->AH->Prop)(u5:Bool)(I:AH):=
 if¬(u5=true)then
 Q false I
 else
 vF B ro a0 u0 u1 u2 u3 u4 Q Y6 Y18 I
def zK(B:World)(ro:AH)(a0:Sl)(u0:Nat)(u1:Option Addr)(u2:Int)(u3:Option Addr)(u4:Sl)(u5:Int)(u6:ByteArray)(u7:Sl)(u8:Int)(Q:Bool->AH->Prop)(Y6:Int->AH->Prop)(Y18:Int->AH->Prop)(Y33:(Bool×Int)->AH->Prop)(u9:Bool)(I:AH):=
 Y33 (u9,i64.wrap (u8+1)) I
def vG(B:World)(ro:AH)(a0:Sl)(u0:Nat)(u1:Bool)(u2:Option Addr)(u3:Int)(u4:Option Addr)(u5:Sl)(u6:Int)(u7:ByteArray)(u8:Sl)(u9:Int)(Q:Bool->AH->Prop)(Y6:Int->AH->Prop)(Y18:Int->AH->Prop)(Y33:(Bool×Int)->AH->Prop)(u10:Bool)(I:AH):=
 zK B ro a0 u0 u2 u3 u4 u5 u6 u7 u8 u9 Q Y6 Y18 Y33 u10 I
def zO(B:World)(ro:AH)(a0:Sl)(u0:Nat)(u1:Option Addr)(u2:Int)(u3:Option Addr)(u4:Sl)(u5:Int)(u6:ByteArray)(u7:Sl)(Q:Bool->AH->Prop)(Y6:Int->AH->Prop)(Y18:Int->AH->Prop):(Bool×Int)->AH->((Bool×Int)->AH->Prop)->Prop:=fun⟨u8,u9⟩ I Y33=>
 if u9<(u7.len:Int)then
 ∃p10,u7.a=some p10/\(0:Int)<=u9/\u9<(u7.len:Int)/\
 ∃u11 u12 u13 u14 u15 u16 u17,qe ro I (p10.add (Int.toNat u9*7)) 0 [.string u11,.int .i64 u12,.int .i64 u13,.int .i64 u14,.int .i64 u15,.int .i64 u16,Sl.v u17]/\
 nw ro I (.cells #[.string ByteArray.empty,.int .i64 0,.int .i64 0,.int .i64 0,.int .i64 0,.int .i64 0,Sl.v (⟨none,0,0⟩:Sl)] 83) fun u18 I=>
 stN ⟨u18,0,none⟩ (fun I=>
  if u8=true then
  zK B ro a0 u0 u1 u2 u3 u4 u5 u6 u7 u9 Q Y6 Y18 Y33 true I
  else
  ∃u19,qa ro I ⟨u18,0,none⟩=some (.string u19)/\
  if u19=u6 then
  ∃u20,qa ro I ((⟨u18,0,none⟩:Addr).add 1)=some (.int .i64 u20)/\
  ∃u21,qa ro I ((⟨u0,0,none⟩:Addr).add 2)=some (.int .i64 u21)/\
  vG B ro a0 u0 u8 u1 u2 u3 u4 u5 u6 u7 u9 Q Y6 Y18 Y33 (decide (u20=u21)) I
  else
  vG B ro a0 u0 u8 u1 u2 u3 u4 u5 u6 u7 u9 Q Y6 Y18 Y33 false I) [.string u11,.int .i64 u12,.int .i64 u13,.int .i64 u14,.int .i64 u15,.int .i64 u16,Sl.v u17] 0 I
 else
 jo B ro a0 u1 u2 u3 u4 u5 Q Y6 Y18 u8 I
def vH(B:World)(ro:AH)(a0:Sl)(u0:Option Addr)(u1:Int)(u2:Option Addr)(u3:Sl)(Q:Bool->AH->Prop)(Y6:Int->AH->Prop):Int->AH->(Int->AH->Prop)->Prop:=fun u4 I Y18=>
 if u4<(u3.len:Int)then
 ∃p5,u3.a=some p5/\(0:Int)<=u4/\u4<(u3.len:Int)/\
 ∃u6,qa ro I (p5.add (Int.toNat u4*1))=some (.string u6)/\
 xy B ro u2 u6 I fun u7 u8 u9 u10 u11 u12 I=>
 nw ro I (.cells #[.int .i64 0,.int .i64 0,.int .i64 0,.int .i64 0] 26) fun u13 I=>
 stN ⟨u13,0,none⟩ (fun I=>
  ∃u14,qa ro I ((⟨u13,0,none⟩:Addr).add 2)=some (.int .i64 u14)/\
  if u14=0 then
  vF B ro a0 u0 u1 u2 u3 u4 Q Y6 Y18 I
  else
  afX B ro u6 I fun u15 u16 I=>
  ye B ro u0 I fun u17 I=>
  lfpD (zO B ro a0 u13 u0 u1 u2 u3 u4 u15 u17 Q Y6 Y18) (false,0) I) [.int .i64 u8,.int .i64 u9,.int .i64 u10,.int .i64 u11] 0 I
 else
 jK B ro a0 u0 u1 Q Y6 I
def vP(B:World)(ro:AH)(a0:Sl)(u0:Option Addr)(Q:Bool->AH->Prop):Int->AH->(Int->AH->Prop)->Prop:=fun u1 I Y6=>
 if u1<(a0.len:Int)then
 ∃p2,a0.a=some p2/\(0:Int)<=u1/\u1<(a0.len:Int)/\
 ∃u3 u4 u5 u6 u7 u8 u9 u10 u11 u12 u13 u14 u15,qe ro I (p2.add (Int.toNat u1*13)) 0 [.int .i64 u3,.string u4,.int .i64 u5,.int .i64 u6,.int .i64 u7,.int .i64 u8,.int .i64 u9,.int .i64 u10,Sl.v u11,.string u12,.bool u13,.int .i64 u14,Sl.v u15]/\
 nw ro I (.cells #[.int .i64 0,.string ByteArray.empty,.int .i64 0,.int .i64 0,.int .i64 0,.int .i64 0,.int .i64 0,.int .i64 0,Sl.v (⟨none,0,0⟩:Sl),.string ByteArray.empty,.bool false,.int .i64 0,Sl.v (⟨none,0,0⟩:Sl)] 57) fun u16 I=>
 stN ⟨u16,0,none⟩ (fun I=>
  ∃u17 u18 u19 u20 u21 u22 u23 u24 u25 u26 u27 u28 u29,qe ro I ⟨u16,0,none⟩ 0 [.int .i64 u17,.string u18,.int .i64 u19,.int .i64 u20,.int .i64 u21,.int .i64 u22,.int .i64 u23,.int .i64 u24,Sl.v u25,.string u26,.bool u27,.int .i64 u28,Sl.v u29]/\
  aeo B ro u17 u18 u19 u20 u21 u22 u23 u24 u25 u26 u27 u28 u29 I fun u30 u31 u32 u33 u34 u35 u36 u37 u38 u39 u40 u41 u42 I=>
  jN B ro u0 u30 u31 u32 u33 u34 u35 u36 u37 u38 u39 u40 u41 u42 I fun u43 u44 u45 u46 u47 u48 u49 u50 u51 u52 u53 u54 I=>
  abK B ro u0 I fun u55 I=>
  if u55=none then
  Q false I
  else
  yo B ro u55 (⟨#[47]⟩:ByteArray) I fun u56 u57 I=>
  lfpD (vH B ro a0 u0 u1 u55 u56 Q Y6) (0) I) [.int .i64 u3,.string u4,.int .i64 u5,.int .i64 u6,.int .i64 u7,.int .i64 u8,.int .i64 u9,.int .i64 u10,Sl.v u11,.string u12,.bool u13,.int .i64 u14,Sl.v u15] 0 I
 else
 jJ B ro Q I
def aaa(B:World)(ro:AH)(a0:Sl)(I:AH)(Q:Bool->AH->Prop):=
 nw ro I (.cells #[.int .i64 0] 3) fun u0 I=>
 acE B ro (⟨some ⟨u0,0,none⟩,1,1⟩:Sl) I fun u1 u2 I=>
 if(u1=none)\/(¬(u2=0))then
 Q false I
 else
 lfpD (vP B ro a0 u1 Q) (0) I
theorem agw{a0 Q}(h:Sep ro I->aaa B ro a0 I Q):acD B ro a0 I Q:=by
 refine zb h func7 ntmps7 fun h=>?_;unfold aaa at h;refine zw ?_;refine zA (zo (vs:=[(0,.int .i64 0)]) (cs:= #[.int .i64 0]) rfl mR ty3 y0 rfl rfl) h fun u0 h=>?_;refine zc func21 h ?_;rintro v I ⟨u1,u2,rfl,h⟩;refine zw ?_;refine AW.seq ?_;refine zw ?_;refine zm (aeC rfl underlying51 rfl rfl) ?_;refine zw ?_;refine wx 3 u1.isNone [(0,Sl.v a0),(3,.pointer u1),(30,.bool (u1.isNone || (!(decide (u2=0)))))] ?_ ?_ ?_
 .intro e2 hk2
  refine zv e2 ?_;exact hk2 _ (Fe e2)
 .intro e2 hk2
  refine zv e2 ?_;exact hk2 _ (Fe e2)
 intro fr hl
 refine Lfr hl ?_
 refine zw ?_;refine AW.iff rfl (wS zQ (qp me)) h (fun h=>?_) (fun h=>?_)
 .exact zr h
 refine zw ?_;refine AW.seqJ (fun fr I=>ql [] fr/\jJ B ro Q I) ?_ ?_
 .rintro fr I ⟨hl,h⟩;refine AW.weaken ?_ hl (HLe.refl _)
  unfold jJ at h;refine zc func20 h ?_;rintro v I ⟨u3,rfl,h⟩;exact zr h
 refine zw ?_;refine zm (qA rfl rfl underlying50 rfl rfl) ?_;refine zw ?_;refine qi.loop (fr':=[(3,.pointer u1),(31,Sl.v a0),(32,.int .i64 (a0.len:Int)),(33,.int .i64 0)]) ?_ FL
 refine h (fun u4 I=>qi _ _ _ _ _ _ [(3,.pointer u1),(31,Sl.v a0),(32,.int .i64 (a0.len:Int)),(33,.int .i64 u4)] I) ?_
 rintro u4 I Y6 hY6 h
 show AW _ _ _ _ _ _ _ _
 unfold vP at h;refine zw ?_;refine AW.seq ?_;refine zi h (fun h=>?_) fun h=>?_
 rotate_left
 .refine AW.exit ?_;refine zw ?_;refine qT ?_
  refine zw ?_;exact⟨FL,h⟩
 refine zw ?_;refine AW.seqJ (fun fr I=>ql [(3,.pointer u1),(31,Sl.v a0),(32,.int .i64 (a0.len:Int)),(33,.int .i64 u4)] fr/\jK B ro a0 u1 u4 Q Y6 I) ?_ ?_
 .rintro fr I ⟨hl,h⟩;refine AW.weaken ?_ hl (HLe.refl _)
  unfold jK at h;refine zw ?_;refine qi.head (fr':=[(3,.pointer u1),(31,Sl.v a0),(32,.int .i64 (a0.len:Int)),(33,.int .i64 (i64.wrap (u4+1)))]) ?_ FL
  exact hY6 _ _ h
 refine zw ?_;obtain⟨p5,ha,h0,h1,h⟩:=h
 refine zm (zP rfl underlying50 pc (ixL rfl ha) rfl h0 h1) ?_;obtain⟨u6,u7,u8,u9,u10,u11,u12,u13,u14,u15,u16,u17,u18,hc,h⟩:=h
 refine zl (wg rfl my rfl pc rfl hc ?_)
 refine zA (qM rfl pc) h fun u19 h=>?_;refine zsp pc h fun I h=>?_;obtain⟨u20,u21,u22,u23,u24,u25,u26,u27,u28,u29,u30,u31,u32,hc,h⟩:=h
 refine zl (wg rfl my rfl pc rfl hc ?_)
 refine zc func23 h ?_;rintro v I ⟨u33,u34,u35,u36,u37,u38,u39,u40,u41,u42,u43,u44,u45,rfl,h⟩;refine zc func22 h ?_;rintro v I ⟨u46,u47,u48,u49,u50,u51,u52,u53,u54,u55,u56,u57,rfl,h⟩;refine zC func24 h fun u58 I h=>?_;refine AW.seq ?_;refine zw ?_;refine zm (aeC rfl nF rfl rfl) ?_;refine zw ?_;refine AW.iff rfl zQ h (fun h=>?_) (fun h=>?_)
 .exact zr h
 refine zc func27 h ?_;rintro v I ⟨u59,u60,rfl,h⟩;refine zw ?_;refine zm (qA rfl rfl mv rfl rfl) ?_;refine zw ?_;refine qi.loop (fr':=[(3,.pointer u1),(7,.pointer u58),(31,Sl.v a0),(32,.int .i64 (a0.len:Int)),(33,.int .i64 u4),(50,Sl.v u59),(51,.int .i64 (u59.len:Int)),(52,.int .i64 0)]) ?_ FL
 refine h (fun u61 I=>qi _ _ _ _ _ _ [(3,.pointer u1),(7,.pointer u58),(31,Sl.v a0),(32,.int .i64 (a0.len:Int)),(33,.int .i64 u4),(50,Sl.v u59),(51,.int .i64 (u59.len:Int)),(52,.int .i64 u61)] I) ?_
 rintro u61 I Y18 hY18 h
 show AW _ _ _ _ _ _ _ _
 unfold vH at h;refine zw ?_;refine AW.seq ?_;refine zi h (fun h=>?_) fun h=>?_
 rotate_left
 .refine AW.exit ?_;refine zw ?_;refine qT ?_
  refine zw ?_;exact⟨FL,h⟩
 refine zw ?_;refine AW.seqJ (fun fr I=>ql [(3,.pointer u1),(7,.pointer u58),(31,Sl.v a0),(32,.int .i64 (a0.len:Int)),(33,.int .i64 u4),(50,Sl.v u59),(51,.int .i64 (u59.len:Int)),(52,.int .i64 u61)] fr/\vF B ro a0 u1 u4 u58 u59 u61 Q Y6 Y18 I) ?_ ?_
 .rintro fr I ⟨hl,h⟩;refine AW.weaken ?_ hl (HLe.refl _)
  unfold vF at h;refine zw ?_;refine qi.head (fr':=[(3,.pointer u1),(7,.pointer u58),(31,Sl.v a0),(32,.int .i64 (a0.len:Int)),(33,.int .i64 u4),(50,Sl.v u59),(51,.int .i64 (u59.len:Int)),(52,.int .i64 (i64.wrap (u61+1)))]) ?_ FL
  exact hY18 _ _ h
 refine zw ?_;obtain⟨p62,ha,h0,h1,h⟩:=h
 refine zm (zP rfl mv ty9 (ixL rfl ha) rfl h0 h1) ?_;refine zL mj h fun u63 h=>?_;refine zc func25 h ?_;rintro v I ⟨u64,u65,u66,u67,u68,u69,rfl,h⟩;refine zw ?_;refine zA (qM rfl wC) h fun u70 h=>?_;refine zsp wC h fun I h=>?_;refine AW.seq ?_;refine zf mE ty3 ?_;refine zL mf h fun u71 h=>?_;refine zi h (fun h=>?_) fun h=>?_
 .refine AW.exit ?_;refine zw ?_;refine qT ?_
  refine zw ?_;exact⟨FL,h⟩
 refine zc func28 h ?_;rintro v I ⟨u72,u73,rfl,h⟩;refine zw ?_;refine AW.seqJ (fun fr I=> ∃(u74:Bool),ql [(3,.pointer u1),(7,.pointer u58),(31,Sl.v a0),(32,.int .i64 (a0.len:Int)),(33,.int .i64 u4),(50,Sl.v u59),(51,.int .i64 (u59.len:Int)),(52,.int .i64 u61),(17,.bool u74)] fr/\jo B ro a0 u1 u4 u58 u59 u61 Q Y6 Y18 u74 I) ?_ ?_
 .rintro fr I ⟨u74,hl,h⟩;refine AW.weaken ?_ hl (HLe.refl _)
  unfold jo at h;refine zw ?_;refine AW.iff rfl (qp Iff.rfl) h (fun h=>?_) (fun h=>?_)
  rotate_left
  .refine zw ?_;exact⟨FL,h⟩
  exact zr h
 refine zc func29 h ?_;rintro v I ⟨u75,rfl,h⟩;refine zm (qA rfl rfl underlying78 rfl rfl) ?_;refine zw ?_;refine qi.loop (fr':=[(3,.pointer u1),(7,.pointer u58),(13,.pointer (some ⟨u70,0,none⟩)),(15,.string u72),(31,Sl.v a0),(32,.int .i64 (a0.len:Int)),(33,.int .i64 u4),(50,Sl.v u59),(51,.int .i64 (u59.len:Int)),(52,.int .i64 u61),(72,Sl.v u75),(73,.int .i64 (u75.len:Int)),(17,.bool false),(74,.int .i64 0)]) ?_ FL
 refine h (fun⟨u76,u77⟩ I=>qi _ _ _ _ _ _ [(3,.pointer u1),(7,.pointer u58),(13,.pointer (some ⟨u70,0,none⟩)),(15,.string u72),(31,Sl.v a0),(32,.int .i64 (a0.len:Int)),(33,.int .i64 u4),(50,Sl.v u59),(51,.int .i64 (u59.len:Int)),(52,.int .i64 u61),(72,Sl.v u75),(73,.int .i64 (u75.len:Int)),(17,.bool u76),(74,.int .i64 u77)] I) ?_
 rintro⟨u76,u77⟩ I Y33 hY33 h
 show AW _ _ _ _ _ _ _ _
 unfold zO at h;dsimp only at h;refine zw ?_;refine AW.seq ?_;refine zi h (fun h=>?_) fun h=>?_
 rotate_left
 .refine AW.exit ?_;refine zw ?_;refine qT ?_
  refine zw ?_;exact⟨_,FL,h⟩
 refine zw ?_;refine AW.seq ?_;refine zw ?_;obtain⟨p78,ha,h0,h1,h⟩:=h
 refine zm (zP rfl underlying78 aal (ixL rfl ha) rfl h0 h1) ?_;obtain⟨u79,u80,u81,u82,u83,u84,u85,hc,h⟩:=h
 refine zl (wg rfl ni rfl aal rfl hc ?_)
 refine zA (qM rfl aal) h fun u86 h=>?_;refine zsp aal h fun I h=>?_;refine qE 14 u76 Iff.rfl h (fun fr I=> ∃(u87:Bool),ql [(3,.pointer u1),(7,.pointer u58),(13,.pointer (some ⟨u70,0,none⟩)),(15,.string u72),(31,Sl.v a0),(32,.int .i64 (a0.len:Int)),(33,.int .i64 u4),(50,Sl.v u59),(51,.int .i64 (u59.len:Int)),(52,.int .i64 u61),(72,Sl.v u75),(73,.int .i64 (u75.len:Int)),(74,.int .i64 u77),(93,.bool u87)] fr/\zK B ro a0 u70 u1 u4 u58 u59 u61 u72 u75 u77 Q Y6 Y18 Y33 u87 I) ?_ ?_ ?_
 .intro h e1 hk1;refine zv e1 ?_;refine Ln rfl rfl rfl rfl (.inr rfl) ?_
  refine Ln rfl rfl rfl rfl (.inr rfl) ?_
  refine Ln rfl rfl rfl rfl (.inr rfl) ?_
  refine Ln rfl rfl rfl rfl (.inr rfl) ?_
  refine Ln rfl rfl rfl rfl (.inr rfl) ?_
  refine Ln rfl rfl rfl rfl (.inr rfl) ?_
  refine zv e1 ?_;exact hk1 _ _ ⟨_,FL,h⟩
 .intro h e1 hk1;refine qH (qX rfl ni rfl wQ y0 rfl) rfl rfl rfl rfl e1 ?_
  refine qH (qX rfl mz rfl ty9 y0 rfl) rfl rfl rfl rfl e1 ?_
  obtain⟨u88,hc,h⟩:=h
  refine Lyb rfl rfl rfl rfl e1 (vR rfl mj rfl rfl hc ?_)
  refine zv e1 ?_;refine qE 7 (decide (u88=u72)) me h (fun fr I=> ∃(u89:Bool),ql [(3,.pointer u1),(7,.pointer u58),(13,.pointer (some ⟨u70,0,none⟩)),(15,.string u72),(31,Sl.v a0),(32,.int .i64 (a0.len:Int)),(33,.int .i64 u4),(50,Sl.v u59),(51,.int .i64 (u59.len:Int)),(52,.int .i64 u61),(72,Sl.v u75),(73,.int .i64 (u75.len:Int)),(74,.int .i64 u77),(79,.bool u76),(92,.bool u89)] fr/\vG B ro a0 u70 u76 u1 u4 u58 u59 u61 u72 u75 u77 Q Y6 Y18 Y33 u89 I) ?_ ?_ ?_
  .intro h e7 hk7;refine qH (qX rfl ni rfl wQ y0 rfl) rfl rfl rfl rfl e7 ?_
   refine qH (qX rfl mz rfl ty3 y0 rfl) rfl rfl rfl rfl e7 ?_
   obtain⟨u90,hc,h⟩:=h
   refine Lyb rfl rfl rfl rfl e7 (vR rfl mf rfl rfl hc ?_)
   refine qH (qX rfl mE rfl ty3 y0 rfl) rfl rfl rfl rfl e7 ?_
   obtain⟨u91,hc,h⟩:=h
   refine Lyb rfl rfl rfl rfl e7 (vR rfl mf rfl rfl hc ?_)
   refine zy e7 ?_;refine qH (jT rfl (evb e7) rfl) rfl rfl rfl rfl e1 ?_
   exact hk7 _ _ ⟨_,FL,h⟩
  .intro h e7 hk7;refine zv e7 ?_;refine qH (yH rfl (evb e7) rfl) rfl rfl rfl rfl e1 ?_
   exact hk7 _ _ ⟨_,FL,h⟩
  rintro fr I ⟨u89,hl,h⟩;unfold vG at h;refine Lfr hl ?_
  refine zk e1 ?_;exact hk1 _ _ ⟨_,FL,h⟩
 rintro fr I ⟨u87,hl,h⟩;unfold zK at h;refine Lfr hl ?_
 refine zw ?_;refine qi.head (fr':=[(3,.pointer u1),(7,.pointer u58),(13,.pointer (some ⟨u70,0,none⟩)),(15,.string u72),(31,Sl.v a0),(32,.int .i64 (a0.len:Int)),(33,.int .i64 u4),(50,Sl.v u59),(51,.int .i64 (u59.len:Int)),(52,.int .i64 u61),(72,Sl.v u75),(73,.int .i64 (u75.len:Int)),(17,.bool u87),(74,.int .i64 (i64.wrap (u77+1)))]) ?_ FL
 exact hY33 _ _ h
end G
namespace Zt
open Go SL G Pa Wi
variable{B:World}{ro I I':AH}{tag tag':Nat->Nat}
variable{Q:Bool->AH->Prop}{a0:Sl}
theorem ar5{p h:Str}{Q:ByteArray->Bool->AH->Prop}(hs:SL.Sep ro I)(e:qu p=some h)(hQ:∀ tag' I',qd [] ro tag I tag' I'->Q (S h) true I'):afX B ro (S p) I Q:=by
 refine am6 fun _=>?_
 unfold af8
 have hL:L (S p)=p:=L_S p
 refine aqe (tag:=tag) 15 hs (fun hn=>?_) fun ps hps sl tag1 I1 st1 r1=>?_
 .rw[hL]at hn
  unfold qu at e
  rw[hn]at e;cases e
 .rw[hL]at hps
  unfold qu at e
  rw[hps]at e
  match ps,e with
  | x::r,e=>
   cases e
   have hl:sl.len=r.length+1:=by rw[r1.len];simp
   rw[ma j0]
   obtain⟨q,hq,hg⟩:=r1.ptr st1.sep z8
   exact⟨q,hq,z7,z7,S h,by simpa using hg 0 _ rfl,hQ tag1 I1 st1⟩
theorem auP:Eph (Sto.new [0]):=fun k n hn ho=>by
 obtain⟨_,rfl⟩:=akR hn
 exact mu rfl ho
abbrev CE:List Nat:=[0,14,15,20,21,22,25,26,27]
theorem atF{b W U X j jj:Nat}{h:Str}{o:Int}{s:Sto}{pl:Sl}{Y6 Y18:Int->AH->Prop}{pre post:List Value}(hW:abD tag I W s)(i:vq b s)(hb:b<=33554433)(hl:kC s.tbl (h,o))(x1:Row tag I 14 26 ⟨some ⟨X,0,none⟩,4,4⟩ (pre++[vI o]++post))(hpre:pre.length=2)(hY:∀ tag' I',StepS CSs ro tag I tag' I'->Y18 (i64.wrap ((jj:Int)+1)) I'):
  ye B ro (some ⟨W,0,none⟩) I fun x72 I=>lfpD (zO B ro a0 X (some ⟨W,0,none⟩) (j:Int) (some ⟨U,0,none⟩) pl (jj:Int) (S h) x72 Q Y6 Y18) (false,0) I:=by
 refine aoZ hW i hb fun sl tag1 I1 L st1 hL hLl l1=>?_
 have hln:sl.len=L.length:=by rw[l1.len,mi]
 suffices∀m j' (f:Bool) tag2 I2,j'+m=L.length->StepS CSs ro tag I tag2 I2->qm tag2 I2 25 83 7 sl (L.map aiA)->((∃y∈L.take j',y.1=h/\y.2.1=o)->f=true)->lfpD (zO B ro a0 X (some ⟨W,0,none⟩) (j:Int) (some ⟨U,0,none⟩) pl (jj:Int) (S h) sl Q Y6 Y18) (f,(j':Int)) I2 from
  this _ 0 false tag1 I1 (ml _) st1 l1 (fun⟨y,hy,_⟩=>by simp at hy)
 intro m
 induction m with
 | zero=>
  intro j' f tag2 I2 hj st2 l2 c
  refine lfpD.intro ?_
  unfold zO
  simp only
  rw[ma z7]
  unfold jo
  rw[mH z7]at c
  rw[ma (by rw[c (hL _ hl)];simp)]
  unfold vF
  exact hY tag2 I2 st2
 | succ m ih=>
  intro j' f tag2 I2 hj st2 l2 c
  have hjl:j'<L.length:=by omega
  have hs2:=st2.sep
  obtain⟨q,hq,hc⟩:=(l2.read hs2).at (j:=j') (x:=aiA L[j']) (by rw[mg,md hjl];try rfl)
  have etk:L.take (j'+1)=L.take j'++[L[j']]:=by rw[mN,md hjl];try rfl
  generalize L[j']=y at hc etk
  refine lfpD.intro ?_
  generalize hZ:lfpD (zO B ro a0 X (some ⟨W,0,none⟩) (j:Int) (some ⟨U,0,none⟩) pl (jj:Int) (S h) sl Q Y6 Y18)=Z0 at ih⊢
  unfold zO
  simp only
  rw[mc z7]
  refine⟨q,hq,z7,z7,S y.1,y.2.1,y.2.2.1,y.2.2.2.1,y.2.2.2.2.1,y.2.2.2.2.2.1,y.2.2.2.2.2.2,by rw[mr];exact hc,?_⟩
  refine kq (tag:=tag2) 0 hs2 rfl (by simp[qf,Sl.v]) fun V tag3 I3 st3 v3=>?_
  have hs3:=(st3 []).sep
  have gv:=(v3.read hs3).2.2 _ rfl
  have k3:StepS CSs ro tag I tag3 I3:=st2.trans (qq st3)
  have x3:=x1.keepS k3
  have go:∀ f':Bool,((∃z∈L.take (j'+1),z.1=h/\z.2.1=o)->f'=true)->Z0 (f',i64.wrap ((j':Int)+1)) I3:=fun f' hf'=>by
   rw[Pa.inc j' z7]
   exact ih (j'+1) f' tag3 I3 z7 k3 (qm.keep l2 (st3 [])) hf'
  by_cases e0:f=true
  .rw[mc e0]
   unfold zK
   exact go true fun _=>rfl
  rw[ma e0]
  refine⟨S y.1,gv 0 _ rfl,?_⟩
  have old:∀ z∈L.take j',¬(z.1=h/\z.2.1=o):=fun z hz hh=>e0 (c ⟨z,hz,hh⟩)
  by_cases e1:y.1=h
  .rw[mc (by rw[e1])]
   have ho:qa ro I3 ((⟨X,0,none⟩:Addr).add 2)=some (vI o):=by
    refine(x3.read hs3).2.2 _ rfl 2 _ ?_
    rw[mM (by simp[hpre]),mQ z7,hpre];try rfl
   refine⟨y.2.1,gv 1 _ rfl,o,ho,?_⟩
   unfold vG zK
   refine go _ fun⟨z,hz,hh⟩=>?_
   rw[etk]at hz
   rcases mt.1 hz with hz | hz
   .exact mu hh (old z hz)
   .rw[mo.1 hz]at hh
    simpa using hh.2
  .rw[ma (by rw[ab6];exact e1)]
   unfold vG zK
   refine go false fun⟨z,hz,hh⟩=>?_
   rw[etk]at hz
   rcases mt.1 hz with hz | hz
   .exact mu hh (old z hz)
   .rw[mo.1 hz]at hh
    exact mu hh.1 e1
theorem atG{cs:List (zD×Sl×Sl)}(g:wW ro)(ha:SL.jF ro (fun _=>none) 13 a0 (cs.map aqO))(hl:cs.length<=1048576)(hok:∀ y∈cs,aos ro y)(hQ:∀ I',Q true I'):acD B ro a0 I Q:=by
 refine agw fun hs=>?_
 unfold aaa
 refine qh (tag:=T7) 9 hs fun X0 tag0 I0 st0 r0=>?_
 refine ar4 (tag:=tag0) (l:=[0]) (r0.read (st0 []).sep) y0 y0 fun W tagA IA stA hA=>?_
 rw[ma z8]
 have hln:a0.len=cs.length:=by rw[ha.1,mi]
 suffices∀m j s tag1 I1,j+m=cs.length->SL.Sep ro I1->abD tag1 I1 W s->vq j s->yl j s->Eph s->lfpD (vP B ro a0 (some ⟨W,0,none⟩) Q) (j:Int) I1 from
  this _ 0 _ tagA IA (ml _) stA.sep hA atC aqN auP
 intro m
 induction m with
 | zero=>
  intro j s tag1 I1 hj hs1 h1 i1 m1 p1
  refine lfpD.intro ?_
  unfold vP
  rw[ma z7]
  unfold jJ
  exact aqM (tag:=tag1) g fun tag' I' _=>hQ I'
 | succ m ih=>
  intro j s tag1 I1 hj hs1 h1 i1 m1 p1
  have hjl:j<cs.length:=by omega
  have ok:=hok cs[j] (mG hjl)
  obtain⟨q,hq,hc⟩:=(ha.keep (I:=I1)).at (j:=j) (x:=aqO cs[j]) (by rw[mg,md hjl];try rfl)
  obtain⟨⟨c,os,ms⟩,hy⟩:∃ y,cs[j]=y:=⟨_,rfl⟩
  rw[hy]at ok hc
  have ko:c.ops.length<=1048576:=ok.ops
  refine lfpD.intro ?_
  generalize hY:lfpD (vP B ro a0 (some ⟨W,0,none⟩) Q)=Y0 at ih⊢
  unfold vP
  rw[mc z7]
  refine⟨q,hq,z7,z7,c.kind,S c.home,c.session,c.req,c.nonce,c.lease,c.beats,c.ack,os,S c.path,c.watch,c.epoch,ms,by rw[mr];exact hc,?_⟩
  refine kq (tag:=tag1) 23 hs1 rfl (apC c os ms) fun X tag2 I2 st2 x2=>?_
  refine⟨_,_,_,_,_,_,_,_,_,_,_,_,_,qr (x2.read (st2 []).sep) rfl,?_⟩
  have h2:=h1.keepS (qq (C:=[]) st2) z8
  refine ao1 (tag:=tag2) ok.r z7 ok.mem fun os' ms' tag3 I3 st3 c3=>?_
  refine ar3 (b:=j) g (h2.keepS st3) i1 z7 c3 ok.small ok.mem fun rs ds ns es tag4 I4 st4 h4 rep4=>?_
  have i4:=aqj (c:=c) i1 z7
  have m4:=aoW (c:=c) i1 z7 m1
  have p4:=arZ (c:=c) i1 z7 m1 p1
  refine atB (tag:=tag4) g h4 i4 z7 fun U tag5 I5 st5 t5=>?_
  rw[ma z8]
  have h5:=h4.keepS st5
  have tI:=adm i4.tree
  have tlen:=tI.len
  obtain⟨M,bs,hT⟩:=id t5
  refine ap7 (tag:=tag5) (q:=13) g y0 y0 hT (fun p hp=>by
   obtain⟨n,hn⟩:=aeV (mC.2 ⟨p,hp,rfl⟩)
   exact tI.inv.path _ n hn) z7 fun pl tag6 I6 ks st6 hperm hsrt r6=>?_
  have hpl:pl.len=ks.length:=by rw[r6.len,mi]
  have hkl:ks.length=(srt (pS s c).1.tree).length:=by rw[hperm.length_eq,mi]
  suffices∀m' jj tag7 I7,jj+m'=ks.length->SL.Sep ro I7->abD tag7 I7 W (pS s c).1->qV tag7 I7 12 U (srt (pS s c).1.tree)->Row tag7 I7 13 9 pl (ks.map Pa.vS)->lfpD (vH B ro a0 (some ⟨W,0,none⟩) (j:Int) (some ⟨U,0,none⟩) pl Q Y0) (jj:Int) I7 from
   this _ 0 tag6 I6 (ml _) (st6 []).sep (h5.keepS (qq (C:=[]) st6) z8) (t5.keepS (qq (C:=[]) st6) z8 z8) r6
  intro m'
  induction m' with
  | zero=>
   intro jj tag7 I7 hjj hs7 h7 t7 r7
   refine lfpD.intro ?_
   unfold vH
   rw[ma z7]
   unfold jK
   rw[Pa.inc j z7]
   exact ih (j+1) (pS s c).1 tag7 I7 z7 hs7 h7 i4 m4 p4
  | succ m' ih'=>
   intro jj tag7 I7 hjj hs7 h7 t7 r7
   have hjl':jj<ks.length:=by omega
   obtain⟨pp,hpp,hg⟩:=r7.ptr hs7 j0
   have hcell:=hg jj (Pa.vS ks[jj]) (by rw[mg,md hjl'];try rfl)
   have hmem:ks[jj]∈(srt (pS s c).1.tree).map (·.1):=hperm.mem_iff.1 (mG hjl')
   generalize ks[jj]=p at hcell hmem
   obtain⟨n,hn⟩:=aeV hmem
   refine lfpD.intro ?_
   generalize hZ:lfpD (vH B ro a0 (some ⟨W,0,none⟩) (j:Int) (some ⟨U,0,none⟩) pl Q Y0)=Z0 at ih'⊢
   unfold vH
   rw[mc z7]
   refine⟨pp,hpp,z7,z7,S p,by rw[mr];exact hcell,?_⟩
   obtain⟨M7,bs7,hT7⟩:=id t7
   have hLp:L (S p)=p:=L_S p
   refine ahq (tag:=tag7) (r:=12) g y0 y0 y0 hT7 (fun q n hq=>tI.inv.data _ _ hq) (fun hb=>?_) (fun ps _ hb=>?_) fun n' hn' ds' tag8 I8 st8 _=>?_
   .obtain⟨ps,hps⟩:=tI.inv.path _ _ hn
    rw[hLp,hps]at hb;cases hb
   .rw[hLp,hn]at hb;cases hb
   rw[hLp,hn]at hn';cases hn'
   have k8:StepS [0] ro tag7 I7 tag8 I8:=st8.s z8
   refine kq (tag:=tag8) 14 st8.sep rfl (by simp[qf]) fun X9 tag9 I9 st9 r9=>?_
   have hs9:=(st9 []).sep
   have k9:StepS [0] ro tag7 I7 tag9 I9:=k8.trans (qq st9)
   refine⟨n.own,(r9.read hs9).2.2 _ rfl 2 _ rfl,?_⟩
   have go:∀ taga Ia,StepS CE ro tag7 I7 taga Ia->Z0 (i64.wrap ((jj:Int)+1)) Ia:=fun taga Ia ka=>by
    rw[Pa.inc jj z7]
    exact ih' (jj+1) taga Ia z7 ka.sep (h7.keepS ka) (t7.keepS ka) (r7.keepS ka)
   by_cases e0:n.own=0
   .rw[mc e0]
    unfold vF
    exact go tag9 I9 (k9.mono y0)
   rw[ma e0]
   rw[afI i4.tree.inv.keys]at hn
   obtain⟨h,hh,hlv⟩:=p4 p n hn e0
   refine ar5 (tag:=tag9) hs9 hh fun taga Ia sta=>?_
   have ka:StepS [0] ro tag7 I7 taga Ia:=k9.trans (sta.s z8)
   exact atF (X:=X9) (pre:=[vI n.ver,vI n.ctr]) (post:=[vI n.kids]) (h7.keepS ka) i4 z7 hlv (r9.keep sta) rfl fun tagb Ib stb=>go tagb Ib ((ka.mono y0).trans (stb.mono y0))
end Zt
namespace Zt
open Go Go.ChangeShapes Go.WideShapes Go.ChangeAt Go.RowKit
theorem aqP:(Rows.storeEphemeralUptoRow.inPlace == prog.inPlace 7)=true:=y1
theorem avq:(Rows.storeEphemeralUptoRow.unfollowed == prog.unfollowed 7)=true:=y1
theorem avr:(Rows.storeEphemeralUptoRow.recurses == prog.recurses 7)=true:=y1
theorem atH:(Rows.storeEphemeralUptoRow.named == prog.varsNamed 7)=true:=y1
theorem auQ:laidOutB prog=true:=apb
theorem ar6:joinedFacts prog 7 f7 (Rows.OpenSpec.upto Rows.storeEphemeralSpec).bare Rows.storeEphemeralUptoRow=true:=by
 unfold joinedFacts
 rw[aqP,avq,avr,atH,auQ]
 simp only[mw]
 repeat' refine And.intro ?_ ?_
 all_goals first | exact trivial | (as_aux_lemma=>kernel_rfl)