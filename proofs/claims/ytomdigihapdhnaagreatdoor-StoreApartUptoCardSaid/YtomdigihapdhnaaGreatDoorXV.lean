import Derived.JoinedCond
import Derived.Test.YtomdigihapdhnaaGreatDoorRows
import Derived.Test.YtomdigihapdhnaaGreatDoorXU
set_option linter.all false
set_option maxRecDepth 99999
set_option maxHeartbeats 0
open Go.IntKind(i64)
open Go.Proofs.Tryz
namespace Go.Proofs.YtomdigihapdhnaaGreatDoor
namespace G
open Go SL
variable{B:ZB}{ro I:AH}
def uq(B:ZB)(ro:AH)(Q:Bool->AH->Prop)(I:AH):=
 afz B ro I fun u0 I=>
 Q u0 I
def xc(B:ZB)(ro:AH)(a0:Sl)(a1:ZA)(u0 u1:ZO)(u2:Int)(Q:Bool->AH->Prop)(Y9:Int->AH->Prop)(I:AH):=
 Y9 (i64.wrap (u2+1)) I
def vW(B:ZB)(ro:AH)(a0:Sl)(a1:ZA)(u0 u1:Nat)(u2 u3:ZO)(u4:Int)(Q:Bool->AH->Prop)(Y9:Int->AH->Prop)(u5:Bool)(I:AH):=
 if u5=true then
 xc B ro a0 a1 u2 u3 u4 Q Y9 I
 else
 jX I fun ψ I=>
 ∃u6 u7 u8 u9 u10 u11 u12 u13 u14 u15 u16 u17 u18,qe (join ro ψ) (fun _=>none) ⟨u0,0,none⟩ 0 [.int .i64 u6,.string u7,.int .i64 u8,.int .i64 u9,.int .i64 u10,.int .i64 u11,.int .i64 u12,.int .i64 u13,Sl.v u14,.string u15,.bool u16,.int .i64 u17,Sl.v u18]/\
 ∃u19 u20 u21 u22 u23 u24 u25 u26 u27 u28 u29 u30,qe (join ro ψ) I ⟨u1,0,none⟩ 0 [.int .i64 u19,.int .i64 u20,Sl.v u21,.int .i64 u22,Sl.v u23,.int .i64 u24,.int .i64 u25,.int .i64 u26,.int .i64 u27,Sl.v u28,Sl.v u29,.int .i64 u30]/\
 abi B (join ro ψ) u19 u20 u21 u22 u23 u24 u25 u26 u27 u28 u29 u30 I fun u31 u32 u33 u34 u35 u36 u37 u38 u39 u40 u41 u42 I=>
 acB B (join ro ψ) u6 u7 u8 u9 u10 u11 u12 u13 u14 u15 u16 u17 u18 I fun u43 u44 u45 u46 u47 u48 u49 u50 u51 u52 u53 u54 u55 I=>
 xv B (join ro ψ) u3 u43 u44 u45 u46 u47 u48 u49 u50 u51 u52 u53 u54 u55 I fun u56 u57 u58 u59 u60 u61 u62 u63 u64 u65 u66 u67 I=>
 abi B (join ro ψ) u56 u57 u58 u59 u60 u61 u62 u63 u64 u65 u66 u67 I fun u68 u69 u70 u71 u72 u73 u74 u75 u76 u77 u78 u79 I=>
 agp B (join ro ψ) u31 u32 u33 u34 u35 u36 u37 u38 u39 u40 u41 u42 u68 u69 u70 u71 u72 u73 u74 u75 u76 u77 u78 u79 I fun u80 I=>
 (qL ψ I->(fun I=>
  if¬(u80=true)then
  Q false I
  else
  xc B ro a0 a1 u2 u3 u4 Q Y9 I) (join ψ I))
def xy(B:ZB)(ro:AH)(a0:Sl)(a1:ZA)(u0 u1:ZO)(Q:Bool->AH->Prop):Int->AH->(Int->AH->Prop)->Prop:=fun u2 I Y9=>
 if u2<(a0.len:Int)then
 ∃p3,a0.a=some p3/\(0:Int)<=u2/\u2<(a0.len:Int)/\
 ∃u4 u5 u6 u7 u8 u9 u10 u11 u12 u13 u14 u15 u16,qe ro I (p3.add (Int.toNat u2*13)) 0 [.int .i64 u4,.string u5,.int .i64 u6,.int .i64 u7,.int .i64 u8,.int .i64 u9,.int .i64 u10,.int .i64 u11,Sl.v u12,.string u13,.bool u14,.int .i64 u15,Sl.v u16]/\
 nw ro I (.cells #[.int .i64 0,.string ByteArray.empty,.int .i64 0,.int .i64 0,.int .i64 0,.int .i64 0,.int .i64 0,.int .i64 0,Sl.v (⟨none,0,0⟩:Sl),.string ByteArray.empty,.bool false,.int .i64 0,Sl.v (⟨none,0,0⟩:Sl)] 57) fun u17 I=>
 stN ⟨u17,0,none⟩ (fun I=>
  ∃u18 u19 u20 u21 u22 u23 u24 u25 u26 u27 u28 u29 u30,qe ro I ⟨u17,0,none⟩ 0 [.int .i64 u18,.string u19,.int .i64 u20,.int .i64 u21,.int .i64 u22,.int .i64 u23,.int .i64 u24,.int .i64 u25,Sl.v u26,.string u27,.bool u28,.int .i64 u29,Sl.v u30]/\
  acB B ro u18 u19 u20 u21 u22 u23 u24 u25 u26 u27 u28 u29 u30 I fun u31 u32 u33 u34 u35 u36 u37 u38 u39 u40 u41 u42 u43 I=>
  xv B ro u0 u31 u32 u33 u34 u35 u36 u37 u38 u39 u40 u41 u42 u43 I fun u44 u45 u46 u47 u48 u49 u50 u51 u52 u53 u54 u55 I=>
  nw ro I (.cells #[.int .i64 0,.int .i64 0,Sl.v (⟨none,0,0⟩:Sl),.int .i64 0,Sl.v (⟨none,0,0⟩:Sl),.int .i64 0,.int .i64 0,.int .i64 0,.int .i64 0,Sl.v (⟨none,0,0⟩:Sl),Sl.v (⟨none,0,0⟩:Sl),.int .i64 0] 30) fun u56 I=>
  stN ⟨u56,0,none⟩ (fun I=>
  ∃u57,qa ro I ((⟨u17,0,none⟩:Addr).add 1)=some (.string u57)/\
  if¬(u57=a1)then
   ∃u58,qa ro I ⟨u17,0,none⟩=some (.int .i64 u58)/\
   vW B ro a0 a1 u17 u56 u0 u1 u2 Q Y9 (!(decide (u58=8))) I
  else
  vW B ro a0 a1 u17 u56 u0 u1 u2 Q Y9 false I) [.int .i64 u44,.int .i64 u45,Sl.v u46,.int .i64 u47,Sl.v u48,.int .i64 u49,.int .i64 u50,.int .i64 u51,.int .i64 u52,Sl.v u53,Sl.v u54,.int .i64 u55] 0 I) [.int .i64 u4,.string u5,.int .i64 u6,.int .i64 u7,.int .i64 u8,.int .i64 u9,.int .i64 u10,.int .i64 u11,Sl.v u12,.string u13,.bool u14,.int .i64 u15,Sl.v u16] 0 I
 else
 uq B ro Q I
def acx(B:ZB)(ro:AH)(a0:Sl)(a1:ZA)(I:AH)(Q:Bool->AH->Prop):=
 nw ro I (.cells #[.int .i64 0] 3) fun u0 I=>
 abs B ro (⟨some ⟨u0,0,none⟩,1,1⟩:Sl) I fun u1 u2 I=>
 nw ro I (.cells #[.int .i64 0] 3) fun u3 I=>
 abs B ro (⟨some ⟨u3,0,none⟩,1,1⟩:Sl) I fun u4 u5 I=>
 if(((u1=none)\/(u4=none))\/(¬(u2=0)))\/(¬(u5=0))then
 Q false I
 else
 lfpD (xy B ro a0 a1 u1 u4 Q) (0) I
def ajq{a0 a1 Q}(h:Sep ro I->acx B ro a0 a1 I Q):ab3 B ro a0 a1 I Q:=by
 refine zb h func4 ntmps4 fun h=>?_;unfold acx at h;refine zw ?_;refine zA (wj (vs:=[(0,.int .i64 0)]) (cs:= #[.int .i64 0]) rfl mO ty3 y1 rfl rfl) h fun u0 h=>?_;refine zc func21 h ?_;rintro v I ⟨u1,u2,rfl,h⟩;refine zw ?_;refine zA (wj (vs:=[(0,.int .i64 0)]) (cs:= #[.int .i64 0]) rfl mO ty3 y1 rfl rfl) h fun u3 h=>?_
 refine zc func21 h ?_;rintro v I ⟨u4,u5,rfl,h⟩;refine zw ?_;refine AW.seq ?_;refine zw ?_;refine zm (ae3 rfl underlying51 rfl rfl) ?_;refine zw ?_;refine wY 3 u1.isNone [(0,Sl.v a0),(1,.string a1),(5,.pointer u1),(6,.int .i64 u2),(7,.pointer u4),(8,.int .i64 u5),(27,.bool (u1.isNone || u4.isNone))] ?_ ?_ ?_
 .intro e2 hk2
  refine zv e2 ?_;exact hk2 _ (Fe e2)
 .intro e2 hk2
  refine zy e2 ?_;refine qO (ae3 rfl underlying51 rfl rfl) rfl rfl rfl rfl e2 ?_
  refine zk e2 ?_;exact hk2 _ (Fe e2)
 intro fr hl
 refine Lfr hl ?_
 refine zw ?_;refine wY 3 (u1.isNone || u4.isNone) [(0,Sl.v a0),(1,.string a1),(5,.pointer u1),(7,.pointer u4),(8,.int .i64 u5),(31,.bool ((u1.isNone || u4.isNone) || (!(decide (u2=0)))))] ?_ ?_ ?_
 .intro e6 hk6
  refine zv e6 ?_;exact hk6 _ (Fe e6)
 .intro e6 hk6
  refine zv e6 ?_;exact hk6 _ (Fe e6)
 intro fr hl
 refine Lfr hl ?_
 refine zw ?_;refine wY 3 ((u1.isNone || u4.isNone) || (!(decide (u2=0)))) [(0,Sl.v a0),(1,.string a1),(5,.pointer u1),(7,.pointer u4),(35,.bool (((u1.isNone || u4.isNone) || (!(decide (u2=0)))) || (!(decide (u5=0)))))] ?_ ?_ ?_
 .intro e10 hk10
  refine zv e10 ?_;exact hk10 _ (Fe e10)
 .intro e10 hk10
  refine zv e10 ?_;exact hk10 _ (Fe e10)
 intro fr hl
 refine Lfr hl ?_
 refine zw ?_;refine AW.iff rfl (vr (vr (vr zJ zJ) (qu me)) (qu me)) h (fun h=>?_) (fun h=>?_)
 .exact zr h
 refine zw ?_;refine AW.seqJ (fun fr I=>qo [] fr/\uq B ro Q I) ?_ ?_
 .rintro fr I ⟨hl,h⟩;refine AW.weaken ?_ hl (HLe.refl _)
  unfold uq at h;refine zc func20 h ?_;rintro v I ⟨u6,rfl,h⟩;exact zr h
 refine zw ?_;refine zm (qC rfl rfl underlying50 rfl rfl) ?_;refine zw ?_;refine qi.loop (fr':=[(1,.string a1),(5,.pointer u1),(7,.pointer u4),(36,Sl.v a0),(37,.int .i64 (a0.len:Int)),(38,.int .i64 0)]) ?_ FL
 refine h (fun u7 I=>qi _ _ _ _ _ _ [(1,.string a1),(5,.pointer u1),(7,.pointer u4),(36,Sl.v a0),(37,.int .i64 (a0.len:Int)),(38,.int .i64 u7)] I) ?_
 rintro u7 I Y9 hY9 h
 show AW _ _ _ _ _ _ _ _
 unfold xy at h;refine zw ?_;refine AW.seq ?_;refine zi h (fun h=>?_) fun h=>?_
 rotate_left
 .refine AW.exit ?_;refine zw ?_;refine qX ?_
  refine zw ?_;exact⟨FL,h⟩
 refine zw ?_;refine AW.seqJ (fun fr I=>qo [(1,.string a1),(5,.pointer u1),(7,.pointer u4),(36,Sl.v a0),(37,.int .i64 (a0.len:Int)),(38,.int .i64 u7)] fr/\xc B ro a0 a1 u1 u4 u7 Q Y9 I) ?_ ?_
 .rintro fr I ⟨hl,h⟩;refine AW.weaken ?_ hl (HLe.refl _)
  unfold xc at h;refine zw ?_;refine qi.head (fr':=[(1,.string a1),(5,.pointer u1),(7,.pointer u4),(36,Sl.v a0),(37,.int .i64 (a0.len:Int)),(38,.int .i64 (i64.wrap (u7+1)))]) ?_ FL
  exact hY9 _ _ h
 refine zw ?_;obtain⟨p8,ha,h0,h1,h⟩:=h
 refine zm (wO rfl underlying50 yV (ixL rfl ha) rfl h0 h1) ?_;obtain⟨u9,u10,u11,u12,u13,u14,u15,u16,u17,u18,u19,u20,u21,hc,h⟩:=h
 refine zl (wq rfl mw rfl yV rfl hc ?_)
 refine zA (qT rfl yV) h fun u22 h=>?_;refine zsp yV h fun I h=>?_;obtain⟨u23,u24,u25,u26,u27,u28,u29,u30,u31,u32,u33,u34,u35,hc,h⟩:=h
 refine zl (wq rfl mw rfl yV rfl hc ?_)
 refine zc func23 h ?_;rintro v I ⟨u36,u37,u38,u39,u40,u41,u42,u43,u44,u45,u46,u47,u48,rfl,h⟩;refine zc func22 h ?_;rintro v I ⟨u49,u50,u51,u52,u53,u54,u55,u56,u57,u58,u59,u60,rfl,h⟩;refine zA (qT rfl qM) h fun u61 h=>?_;refine zsp qM h fun I h=>?_;refine AW.seq ?_;refine zf mw ty9 ?_;refine zLp mo h fun u62 h=>?_;refine zm (ajw rfl rfl rfl) ?_
 refine zw ?_;refine qI 4 (!(decide (u62=a1))) (qu me) h (fun fr I=> ∃(u63:Bool),qo [(1,.string a1),(5,.pointer u1),(7,.pointer u4),(10,.pointer (some ⟨u22,0,none⟩)),(11,.pointer (some ⟨u61,0,none⟩)),(36,Sl.v a0),(37,.int .i64 (a0.len:Int)),(38,.int .i64 u7),(54,.bool u63)] fr/\vW B ro a0 a1 u22 u61 u1 u4 u7 Q Y9 u63 I) ?_ ?_ ?_
 .intro h e4 hk4;refine qO (qW rfl mw rfl ty3 y1 rfl) rfl rfl rfl rfl e4 ?_
  obtain⟨u64,hc,h⟩:=h
  refine Lyb rfl rfl rfl rfl e4 (vc rfl mf rfl rfl hc ?_)
  refine zv e4 ?_;exact hk4 _ _ ⟨_,FL,h⟩
 .intro h e4 hk4;refine zv e4 ?_;exact hk4 _ _ ⟨_,FL,h⟩
 rintro fr I ⟨u63,hl,h⟩;unfold vW at h;refine Lfr hl ?_
 refine zj h (fun h=>?_) fun h=>?_
 .refine AW.exit ?_;refine zw ?_;refine qX ?_
  refine zw ?_;exact⟨FL,h⟩
 refine zw ?_;refine AW.seq ?_;refine AW.drawnL (fun i=>([3,2,0,0,2,2,2,2,0]:List Nat).getD i 2) [(0,1),(0,4),(0,5),(0,6),(0,7),(1,4),(1,5),(1,6),(4,5),(4,6),(4,7),(5,6),(5,7)] [2,3,0,1,4,5,6,7,8] mixed h j3 ?_
 clear h
 intro ψ I h
 refine zw ?_;obtain⟨u65,u66,u67,u68,u69,u70,u71,u72,u73,u74,u75,u76,u77,hc,h⟩:=h
 refine Dp rfl rfl rfl rfl (auM rfl mw rfl yV rfl hc) ?_
 obtain⟨u78,u79,u80,u81,u82,u83,u84,u85,u86,u87,u88,u89,hc,h⟩:=h
 refine Dr rfl rfl rfl rfl (jh rfl mi rfl qM rfl hc) ?_
 refine zG func14 h ?_;rintro v I ⟨u90,u91,u92,u93,u94,u95,u96,u97,u98,u99,u100,u101,rfl,h⟩;refine zG func23 h ?_;rintro v I ⟨u102,u103,u104,u105,u106,u107,u108,u109,u110,u111,u112,u113,u114,rfl,h⟩;refine zG func22 h ?_;rintro v I ⟨u115,u116,u117,u118,u119,u120,u121,u122,u123,u124,u125,u126,rfl,h⟩;refine zG func14 h ?_;rintro v I ⟨u127,u128,u129,u130,u131,u132,u133,u134,u135,u136,u137,u138,rfl,h⟩
 refine zG func19 h ?_;rintro v I ⟨u139,rfl,h⟩;refine zw ?_;refine⟨_,wW.refl _,fun hdj=>?_⟩
 replace h:=h hdj
 refine zw ?_;refine AW.iff rfl (qu Iff.rfl) h (fun h=>?_) (fun h=>?_)
 rotate_left
 .refine zw ?_;exact⟨FL,h⟩
 exact zr h
end G
namespace Zt
open Go SL G Pa Wi
variable{B:ZB}{ro I I':AH}{tag tag':Nat->Nat}
def xb.mono{b c:Nat}{s:Sto}(h:xb b s)(hc:b<=c):xb c s:=⟨h.qt,h.at1,h.own1,fun n hn=>by have:=h.rt n hn;omega⟩
abbrev CA2:List Nat:=C17++CAp
def arI{a0:Sl}{home:Str}{cs:List (wM×Sl×Sl)}{Q:Bool->AH->Prop}(g:ze ro)(ha:SL.vt ro (fun _=>none) 13 a0 (cs.map apr))(hl:cs.length<=1048576)(hok:∀ y∈cs,amz ro y)(hQ:∀ I',Q true I'):ab3 B ro a0 (S home) I Q:=by
 refine ajq fun hs=>?_
 unfold acx
 refine qf (tag:=T7) 9 hs fun X0 tag0 I0 st0 r0=>?_
 refine anU (tag:=tag0) (l:=[0]) (r0.read (st0 []).sep) y1 y1 fun W tagA IA stA hA=>?_
 refine qf (tag:=T7) 9 stA.sep fun X1 tagB IB stB rB=>?_
 refine anU (tag:=tagB) (l:=[0]) (rB.read (stB []).sep) y1 y1 fun V tagC IC stC hC=>?_
 rw[ma y0]
 have kC:StepS CN ro T7 IA tagC IC:=(qv stB).trans stC
 obtain⟨mC,aC⟩:=kC.mir (T2:=tagA) (fun b _=> .inl rfl) y1
 have hA':=hA.keepS mC
 have hln:a0.len=cs.length:=by rw[ha.1,mg]
 suffices∀m j s t T1 T2 I1,j+m=cs.length->SL.Sep ro I1->uV T1 I1 W s->uV T2 I1 V t->agc T1 T2 I1->wU j s->wU j t->xb j s->xb j t->Sm home s t->lfpD (xy B ro a0 (S home) (some ⟨W,0,none⟩) (some ⟨V,0,none⟩) Q) (j:Int) I1 from
  this _ 0 _ _ (SL.mir IA tagA) tagC IC (ml _) stC.sep hA' hC aC.symm apo apo amy amy (Sm.refl _ _)
 intro m
 induction m with
 | zero=>
  intro j s t T1 T2 I1 hj hs1 h1 t1 ap0 i1 j1 m1 n1 sm
  refine lfpD.intro ?_
  unfold xy
  rw[ma z7]
  unfold uq
  exact ary (tag:=T1) g fun tag' I' _=>hQ I'
 | succ m ih=>
  intro j s t T1 T2 I1 hj hs1 h1 t1 ap0 i1 j1 m1 n1 sm
  have hjl:j<cs.length:=by omega
  have ok:=hok cs[j] (mJ hjl)
  obtain⟨q,hq,hc⟩:=(ha.keep (I:=I1)).at (j:=j) (x:=apr cs[j]) (by rw[mh,md hjl];try rfl)
  obtain⟨⟨c,os,ms⟩,hy⟩:∃ y,cs[j]=y:=⟨_,rfl⟩
  rw[hy]at ok hc
  have ko:c.ops.length<=1048576:=ok.ops
  refine lfpD.intro ?_
  generalize hY:lfpD (xy B ro a0 (S home) (some ⟨W,0,none⟩) (some ⟨V,0,none⟩) Q)=Y0 at ih⊢
  unfold xy
  rw[mc z7]
  refine⟨q,hq,z7,z7,c.kind,S c.home,c.session,c.req,c.nonce,c.lease,c.beats,c.ack,os,S c.path,c.watch,c.epoch,ms,by rw[mq];exact hc,?_⟩
  refine kz (tag:=T1) 23 hs1 rfl (aqw c os ms) fun X tag2 I2 st2 x2=>?_
  refine⟨_,_,_,_,_,_,_,_,_,_,_,_,_,qz (x2.read (st2 []).sep) rfl,?_⟩
  have h2:=h1.keepS (qv (C:=[]) st2) y0
  refine ak4 (tag:=tag2) ok.r z7 ok.mem fun os' ms' tag3 I3 st3 c3=>?_
  refine anQ (b:=j) g (h2.keepS st3) i1 z7 c3 ok.small ok.mem fun rs ds ns es tag4 I4 st4 h4 rep4=>?_
  have i4:=ame (c:=c) i1 z7
  have m4:=ak3 (c:=c) i1 z7 m1
  have ok4:=amB (c:=c) i1 z7 m1
  refine kz (tag:=tag4) 29 st4.sep rfl (ah9 (vj s c).2 rs ds ns es) fun Y tag5 I5 st5 y5=>?_
  have hs5:=(st5 []).sep
  have h5:=h4.keepS (qv (C:=[]) st5) y0
  have x5:=((x2.keepS st3).keepS st4).keep (st5 [])
  have rep5:=rep4.keepS (qv (C:=[]) st5) y0
  have k5:StepS CA2 ro T1 I1 tag5 I5:=(qv st2).trans ((st3.mono y1).trans ((st4.mono y1).trans (qv st5)))
  obtain⟨mk,ap⟩:=k5.mir ap0 y1
  have t5:=t1.keepS mk
  generalize SL.mir I1 T2=U at mk ap t5
  clear mk k5 st2 st3 st4 h2 h4 rep4 x2 c3 ap0
  have go:Sm home (vj s c).1 (vj t c).1/\(vj s c).2=(vj t c).2->vW B ro a0 (S home) X Y (some ⟨W,0,none⟩) (some ⟨V,0,none⟩) (j:Int) Q Y0 false I5:=fun sm'=>by
   unfold vW
   rw[ma y0]
   refine yl U [7] ?_
   have hsA:SL.Sep (join ro (SL.inR U [7] I5)) (SL.zE U [7] I5):=hs5.lentR
   have tA:=t5.outR (L:=[7]) y1
   refine⟨_,_,_,_,_,_,_,_,_,_,_,_,_,Row.lendAll (x5.to7 y1 ap) hs5 y0,?_⟩
   refine⟨_,_,_,_,_,_,_,_,_,_,_,_,Row.lendAll (y5.to7 y1 ap) hs5 y0,?_⟩
   have dN:=rep5.lentN hs5 ap
   have hln:∀ {τ:AH},HLe (fun _=>none) τ:=fun b o h=>by cases h
   refine ami (dN.hle hln) (by have:=ok4.1.1;omega) (by have:=ok4.1.2.2.1;omega) fun rs1 es1 tag6 I6 st6 o1 o2=>?_
   have k6:=st6.new7 y1 U
   have o1':=ql.new7 o1 st6 y1 U
   have o2':=ql.new7 o2 st6 y1 U
   generalize SL.mir (SL.zE U [7] I5) U=tag6' at k6 o1' o2'
   refine ak4 (tag:=tag6') ok.r.lent z7 ok.mem fun os2 ms2 tag7 I7 st7 c7=>?_
   refine anQ (b:=j) (adZ g) ((tA.keepS (qv (C:=[]) k6) y0).keepS st7) j1 z7 c7 ok.small ok.mem fun rs2 ds2 ns2 es2 tag8 I8 st8 h8 rep8=>?_
   have ok8:=amB (c:=c) j1 z7 n1
   refine asE (tag:=tag8) (rep8.d st8.sep) (by have:=ok8.1.1;omega) (by have:=ok8.1.2.2.1;omega) fun rs3 es3 tag9 I9 st9 d9=>?_
   have r1:=ql.keep (ql.keepS (ql.keepS o1' st7 y1) st8 y1) (st9 [])
   have r2:=ql.keep (ql.keepS (ql.keepS o2' st7 y1) st8 y1) (st9 [])
   have dd:abb _ I9 rs1 ds ns es1 (vj s c).2:=⟨r1.read (st9 []).sep,dN.data.hle hln,dN.names.hle hln,r2.read (st9 []).sep⟩
   refine aub (tag:=tag9) dd d9 ok4.2 ok8.2 fun taga Ia sta=>?_
   rw[as9 ok4.1 sm'.2]
   intro hdj
   have kU:StepS CA2 (join ro (SL.inR U [7] I5)) U (SL.zE U [7] I5) taga Ia:=(qv k6).trans ((st7.mono y1).trans ((st8.mono y1).trans ((qv st9).trans (qv sta))))
   have kB:=kU.backR hs5 hdj
   have t9:=((h8.keepS (qv (C:=[]) st9) y0).keepS (qv (C:=[]) sta) y0).backR hdj
   obtain⟨mk,ap9⟩:=kB.mir ap.symm y1
   have s9:=h5.keepS mk
   show if¬(true=true)then _ else _
   rw[ma y0]
   unfold xc
   rw[Pa.inc j z7]
   exact ih (j+1) _ _ _ _ _ z7 kB.sep s9 t9 ap9.symm i4 (ame j1 z7) m4 (ak3 j1 z7 n1) sm'.1
  refine⟨S c.home,(x5.read hs5).2.2 _ rfl 1 _ rfl,?_⟩
  by_cases e1:c.home=home
  .subst e1
   rw[ma y0]
   exact go (auH i1 j1 z7 z7 m1 n1 sm)
  .rw[mc (by rw[abL];exact e1)]
   refine⟨c.kind,(x5.read hs5).2.2 _ rfl 0 _ rfl,?_⟩
   by_cases e8:c.kind=8
   .rw[show(!(decide (c.kind=8)))=false by simp[e8]]
    exact go (as8 e8 sm)
   .rw[show(!(decide (c.kind=8)))=true by simp[e8]]
    unfold vW
    rw[mc rfl]
    unfold xc
    rw[Pa.inc j z7]
    exact ih (j+1) _ _ _ _ _ z7 hs5 h5 t5 ap i4 (asX j1 z7) m4 (n1.mono z7) ((as6 i1 z7 m1 e8 fun e=>e1 e.symm).trans sm)
end Zt
namespace SL
open Go
variable{α:Type}{cs:List Value}{o w:Nat}{s:Sl}{e t:TypeId}{u v:ZC}
def zI(n:Nat)(P:Program)(W:ZB)(H:Type)(enc:TypeId×ZC->H)(t:TypeId)(cs:List Value):Prop:= ∃fuel d ps,DataW.trod enc P W 0 (fun _=>true) true fuel t cs=some (d,ps)/\(d.weights P t).all (· <=reachBytes)=true/\Rows.uptoBulk d<=n
variable{n:Nat}{P:Program}{W:ZB}{H:Type}{enc:TypeId×ZC->H}
def zI.arg(h:zI n P W H enc t cs):Arg P W H enc t cs:=by
 obtain⟨f,d,ps,h1,h2,_⟩:=h
 exact⟨f,d,ps,h1,h2⟩
def zI.slice{a:ZO}{len cap:Nat}(ht:P.underlying t=some (.slice e))(h:zI n P W H enc t [.slice a len cap]):
  (a=none/\len=0/\cap=0)\/∃ x,a=some x/\len<=cap/\len<=n/\∀ j,j<len->∃ cs,cs.length=P.cellsOf e/\(∀i,i<P.cellsOf e->W.cell? ((x.add (j*P.cellsOf e)).add i)=cs[i]?)/\zI n P W H enc e cs:=by
 obtain⟨fuel,d,ps,hf,hw,hb⟩:=h
 rcases Go.Deep.open_slice ht hf with⟨hcs,_⟩ | ⟨x,l,c,m,k,D,Pl,hcs,_,hl,_,hm,hx,hel⟩
 .simp at hcs;exact .inl hcs
 .simp at hcs
  obtain⟨rfl,rfl,rfl⟩:=hcs
  simp only[Prod.mk.injEq]at hx
  rw[hx.1]at hw hb
  rw[DataW.weights,ht]at hw
  simp only[Rows.uptoBulk]at hb
  simp only[LN,List.all_append,mu,mS,mg,List.length_range]at hw
  refine .inr ⟨x,rfl,hl,?_,fun j hj=>?_⟩
  .have:=apu ((List.range len).map D)
   simp at this
   omega
  .obtain⟨cs,h1,h2⟩:=hel j (by simp at hm;omega)
   obtain⟨_,h3,h4⟩:=World.cells?_some h1
   have:=ahm (l:=(List.range len).map D) (i:=j) (d:=D j) (by rw[mh,List.getElem?_range hj];try rfl)
   exact⟨cs,h3,h4,k,D j,Pl j,h2,amG (mN.2 ⟨j,List.mem_range.2 hj,rfl⟩) hw.2.1,z7⟩
def zI.struct{fs:Array Field}(ht:P.underlying t=some (.struct fs))(h:zI n P W H enc t cs):
  cs.length=P.cellsOf t/\∀ (i:Nat) (f:Field),fs.toList[i]?=some f->zI n P W H enc f.type ((cs.drop f.offset).take (P.cellsOf f.type)):=by
 obtain⟨fuel,d,ps,hf,hw,hb⟩:=h
 cases fuel with
 | zero=>cases hf
 | succ m=>
  unfold DataW.trod at hf
  rw[ht]at hf
  simp only at hf
  split at hf
  .rename_i hl
   refine⟨hl,fun i f hi=>?_⟩
   obtain⟨r,hr,hd⟩:=nm.1 hf
   have h1:=mapM_some_get hr i f hi
   have h2:=mapM_some_length hr
   have hil:i<fs.toList.length:=by
    rcases mM i fs.toList.length with h' | h'
    .exact h'
    .rw[mG h']at hi;cases hi
   rw[md z7]at h1
   simp only[Prod.mk.injEq]at hd
   rw[<-hd.1]at hb
   simp only[Rows.uptoBulk]at hb
   rw[<-hd.1,DataW.weights,ht]at hw
   have:=ahm (l:=r.map (·.1)) (i:=i) (d:=r[i].1) (by rw[mh,md z7];try rfl)
   refine⟨m,r[i].1,r[i].2,h1,agY (ts:=fs.toList.map (·.type)) (i:=i) (by rw[mh,hi];try rfl) (by rw[mh,md z7];try rfl) hw,z7⟩
  .cases hf
def zI.field{t':TypeId}{L:List (TypeId×Nat)}(hu:∃ fs,P.underlying t=some (.struct fs)/\fs.toList.map (fun f:Field=>(f.type,f.offset))=L)(h:zI n P W H enc t cs)(i:Nat)(hi:L[i]?=some (t',o)):zI n P W H enc t' ((cs.drop o).take (P.cellsOf t')):=by
 obtain⟨fs,hu,hfs⟩:=hu
 rw[<-hfs,mh]at hi
 obtain⟨f,hf,e⟩:=nm.1 hi
 have:=(h.struct hu).2 i f hf
 simp only[Prod.mk.injEq]at e
 rwa [e.1,e.2]at this
def zI.i64(ht:P.underlying t=some (.int .i64))(h:zI n P W H enc t [u]):∃ x:Int,u= .int .i64 x/\ -9223372036854775808<=x:=by
 obtain⟨fuel,d,ps,hf,_⟩:=h
 obtain⟨x,h,h2,_⟩:=atk ht hf
 exact⟨x,h,h2⟩
def zI.text(ht:P.underlying t=some .string)(h:zI n P W H enc t [u]):∃ s:ZA,u= .string s/\s.size<=n:=by
 obtain⟨s,rfl,_⟩:=Arg.str ht h.arg
 refine⟨s,rfl,?_⟩
 obtain⟨fuel,d,ps,hf,_,hb⟩:=h
 cases fuel with
 | zero=>cases hf
 | succ m=>
  unfold DataW.trod at hf
  rw[ht]at hf
  simp at hf
  obtain⟨_,rfl,_⟩:=hf
  simp only[Rows.uptoBulk]at hb
  simp at hb
  omega
def zI.isSlice(ht:P.underlying t=some (.slice e))(h:zI n P W H enc t [v]):∃ s:Sl,v=Sl.v s:=by
 obtain⟨fuel,d,ps,hf,_⟩:=h
 rcases Go.Deep.open_slice ht hf with⟨e,_⟩ | ⟨x,l,c,_,_,_,_,e,_⟩
 .simp at e;exact⟨⟨none,0,0⟩,e⟩
 .simp at e;exact⟨⟨some x,l,c⟩,e⟩
def zI.rows[Inhabited α]{V:α->List Value}{G:α->Prop}(ht:P.underlying t=some (.slice e))(hw:P.cellsOf e=w)(hV:∀ y,(V y).length=w)(hd:∀ cs,zI n P W H enc e cs->cs.length=w->∃ y,cs=V y/\G y)(h:zI n P W H enc t [Sl.v s]):
  ∃l:List α,l.length<=n/\vt (all W) (fun _=>none) w s (l.map V)/\(∀y∈l,G y)/\s.len<=s.cap:=by
 obtain⟨a,len,cap⟩:=s
 rcases zI.slice ht h with⟨rfl,rfl,rfl⟩ | ⟨x,rfl,hl,hb,hel⟩
 .exact⟨[],y0,⟨rfl,fun _=>rfl,(fun _ h=>by cases h),fun p h=>by cases h⟩,(fun _ h=>by cases h),mR _⟩
 .rw[hw]at hel
  have key:∀ j:Nat,∃y:α,j<len->(∀i,i<w->W.cell? ((x.add (j*w)).add i)=(V y)[i]?)/\G y:=fun j=>by
   by_cases hj:j<len
   .obtain⟨cs,h1,h2,h3⟩:=hel j hj
    obtain⟨y,rfl,hy⟩:=hd cs h3 h1
    exact⟨y,fun _=>⟨h2,hy⟩⟩
   .exact⟨default,fun h=>mt h hj⟩
  obtain⟨f,hf⟩:=Classical.axiomOfChoice key
  have hlen:((List.range len).map f).length=len:=by simp
  refine⟨(List.range len).map f,by rw[hlen];exact hb,⟨y0,(fun h=>by cases h),?_,fun p hp i v hv=>?_⟩,fun y hy=>?_,hl⟩
  .intro z hz
   obtain⟨y,_,rfl⟩:=mN.1 hz
   exact hV y
  .cases hp
   have hwid:∀ z∈((List.range len).map f).map V,z.length=w:=fun z hz=>by
    obtain⟨y,_,rfl⟩:=mN.1 hz
    exact hV y
   have hfl:=yc hwid
   rw[mg,hlen]at hfl
   have hi:i<len*w:=by
    rcases mM i (len*w)with h | h
    .exact h
    .rw[mG z7]at hv;cases hv
   have hw0:0<w:=by
    rcases nh w with h | h
    .rw[h]at hi;simp at hi
    .exact h
   have hdm:=Nat.div_add_mod i w
   have hj:i / w<len:=Nat.div_lt_of_lt_mul (by rw[LB];exact hi)
   have hm:=LX i hw0
   have he:(((List.range len).map f).map V)[i / w]?=some (V (f (i / w))):=by
    rw[mh,mh,List.getElem?_range hj];try rfl
   have hg:=alb hwid he hm
   rw[LB]at hdm
   rw[hdm,hv]at hg
   have:=(hf _ hj).1 _ hm
   rw[aal,hdm,<-hg]at this
   exact ati _ this
  .obtain⟨j,hj,rfl⟩:=mN.1 hy
   exact(hf j (List.mem_range.1 hj)).2
def auI(f:α->ZC)(l:List α):(l.map fun y=>[f y]).flatten=l.map f:=by
 induction l with
 | nil=>rfl
 | cons a l ih=>rw[mF,nQ,ih];try rfl
def vt.one{f:α->ZC}{l:List α}{ro I:AH}(h:vt ro I 1 s (l.map fun y=>[f y])):qJ ro I s (l.map f):=by
 refine⟨by rw[h.1];simp,fun hn=>?_,fun p hp i v hv=>h.2.2.2 p hp i v (by rw[auI];exact hv)⟩
 have:=h.2.1 hn
 simpa using this
end SL
namespace Zt
open Go SL G Pa Wi
variable{s:Sl}
def acJ:∃ fs,prog.underlying 57=some (.struct fs)/\fs.toList.map (fun f:Field=>(f.type,f.offset))=[(3,0),(9,1),(3,2),(3,3),(3,4),(3,5),(3,6),(3,7),(54,8),(9,9),(4,10),(3,11),(55,12)]:=⟨_,mw,rfl⟩
def ang:∃ fs,prog.underlying 72=some (.struct fs)/\fs.toList.map (fun f:Field=>(f.type,f.offset))=[(3,0),(9,1),(24,2),(3,3),(4,4),(4,5)]:=⟨_,mZ,rfl⟩
def axi:prog.cellsOf 57=13:=j0
def axD:prog.cellsOf 72=6:=j0
def kI:prog.cellsOf 3=1:=j0
def kB:prog.cellsOf 4=1:=j0
def kU:prog.cellsOf 5=1:=j0
def kS9:prog.cellsOf 9=1:=j0
def kD:prog.cellsOf 24=1:=j0
def kOs:prog.cellsOf 54=1:=j0
def kIs:prog.cellsOf 55=1:=j0
def uOs:prog.underlying 54=some (.slice 72):=j0
def uDs:prog.underlying 24=some (.slice 5):=j0
def uU:prog.underlying 5=some (.int .u8):=j0
def uBo:prog.underlying 4=some .bool:=j0
def uCs:prog.underlying 50=some (.slice 57):=j0
variable{n:Nat}{W:ZB}{H:Type}{enc:TypeId×ZC->H}
def axj(h:zI n prog W H enc 24 [Sl.v s]):∃ d:Str,d.length<=n/\SL.qJ (all W) (fun _=>none) s (d.map vU):=by
 obtain⟨l,h1,h2,_,_⟩:=zI.rows (α:=UInt8) (V:=fun c=>[vU c]) (G:=fun _=>True) uDs kU (fun _=>rfl) (fun cs hc hl=>by
  match cs,hl with
  | [u],_=>
   obtain⟨c,rfl⟩:=Arg.u8 uU hc.arg
   exact⟨c,rfl,trivial⟩) h
 exact⟨l,h1,h2.one⟩
def axk(h:zI n prog W H enc 55 [Sl.v s]):∃ d:List Int,d.length<=n/\SL.qJ (all W) (fun _=>none) s (d.map vI):=by
 obtain⟨l,h1,h2,_,_⟩:=zI.rows (α:=Int) (V:=fun c=>[vI c]) (G:=fun _=>True) aro kI (fun _=>rfl) (fun cs hc hl=>by
  match cs,hl with
  | [u],_=>
   obtain⟨c,rfl,_⟩:=zI.i64 u3' hc
   exact⟨c,rfl,trivial⟩) h
 exact⟨l,h1,h2.one⟩
instance:Inhabited MOp:=⟨⟨0,[],[],0,false,false⟩⟩
instance:Inhabited Sl:=⟨⟨none,0,0⟩⟩
def axE(h:zI 1048576 prog W H enc 54 [Sl.v s]):∃ ops:List MOp,ops.length<=1048576/\alk (all W) s ops/\∀ o∈ops,o.path.length<=1048576/\o.data.length<=1048576:=by
 obtain⟨l,h1,h2,h3,_⟩:=zI.rows (α:=MOp×Sl) (V:=fun y=>opV y.1 y.2) (G:=fun y=>(y.1.path.length<=1048576/\y.1.data.length<=1048576)/\SL.qJ (all W) (fun _=>none) y.2 (y.1.data.map vU)) uOs axD (fun _=>rfl) (fun cs hc hl=>by
  match cs,hl with
  | [v0,v1,v2,v3,v4,v5],_=>
   have a0:=hc.field ang 0 rfl
   have a1:=hc.field ang 1 rfl
   have a2:=hc.field ang 2 rfl
   have a3:=hc.field ang 3 rfl
   have a4:=hc.field ang 4 rfl
   have a5:=hc.field ang 5 rfl
   rw[kI]at a0 a3
   rw[kS9]at a1
   rw[kD]at a2
   rw[kB]at a4 a5
   obtain⟨x0,rfl,_⟩:=zI.i64 u3' a0
   obtain⟨x1,rfl,h1⟩:=zI.text u9 a1
   obtain⟨ds,rfl⟩:=zI.isSlice uDs a2
   obtain⟨d,hd,rd⟩:=axj a2
   obtain⟨x3,rfl,_⟩:=zI.i64 u3' a3
   obtain⟨x4,rfl⟩:=Arg.bool uBo a4.arg
   obtain⟨x5,rfl⟩:=Arg.bool uBo a5.arg
   exact⟨(⟨x0,L x1,d,x3,x4,x5⟩,ds),by simp[opV,Pa.vS],⟨by rw[kF];exact h1,hd⟩,rd⟩) h
 refine⟨l.map (·.1),j4 h1,⟨by rw[h2.1];simp,fun j o ho=>?_⟩,fun o ho=>?_⟩
 .rw[mh]at ho
  obtain⟨y,hy,rfl⟩:=nm.1 ho
  have hm:=h3 y (mW hy)
  obtain⟨q,hq,_⟩:=h2.at (j:=j) (x:=opV y.1 y.2) (by rw[mh,hy];try rfl)
  refine⟨q,y.2,hq,fun I=>?_,hm.2,by have:=hm.1.2;omega⟩
  obtain⟨q',hq',hc⟩:=(h2.keep (I:=I)).at (j:=j) (x:=opV y.1 y.2) (by rw[mh,hy];try rfl)
  rw[hq]at hq';cases hq'
  exact hc
 .obtain⟨y,hy,rfl⟩:=mN.1 ho
  exact(h3 y hy).1
instance:Inhabited wM:=⟨wM.zero⟩
def awy(h:zI 1048576 prog W H enc 50 [Sl.v s]):∃ cs:List (wM×Sl×Sl),cs.length<=1048576/\SL.vt (all W) (fun _=>none) 13 s (cs.map apr)/\∀ y∈cs,amz (all W) y:=by
 obtain⟨l,h1,h2,h3,_⟩:=zI.rows (α:=wM×Sl×Sl) (V:=apr) (G:=amz (all W)) uCs axi (fun _=>rfl) (fun cs hc hl=>by
  match cs,hl with
  | [v0,v1,v2,v3,v4,v5,v6,v7,v8,v9,v10,v11,v12],_=>
   have a0:=hc.field acJ 0 rfl
   have a1:=hc.field acJ 1 rfl
   have a2:=hc.field acJ 2 rfl
   have a3:=hc.field acJ 3 rfl
   have a4:=hc.field acJ 4 rfl
   have a5:=hc.field acJ 5 rfl
   have a6:=hc.field acJ 6 rfl
   have a7:=hc.field acJ 7 rfl
   have a8:=hc.field acJ 8 rfl
   have a9:=hc.field acJ 9 rfl
   have a10:=hc.field acJ 10 rfl
   have a11:=hc.field acJ 11 rfl
   have a12:=hc.field acJ 12 rfl
   rw[kI]at a0 a2 a3 a4 a5 a6 a7 a11
   rw[kS9]at a1 a9
   rw[kOs]at a8
   rw[kB]at a10
   rw[kIs]at a12
   obtain⟨x0,rfl,_⟩:=zI.i64 u3' a0
   obtain⟨x1,rfl,b1⟩:=zI.text u9 a1
   obtain⟨x2,rfl,_⟩:=zI.i64 u3' a2
   obtain⟨x3,rfl,_⟩:=zI.i64 u3' a3
   obtain⟨x4,rfl,_⟩:=zI.i64 u3' a4
   obtain⟨x5,rfl,_⟩:=zI.i64 u3' a5
   obtain⟨x6,rfl,_⟩:=zI.i64 u3' a6
   obtain⟨x7,rfl,_⟩:=zI.i64 u3' a7
   obtain⟨os,rfl⟩:=zI.isSlice uOs a8
   obtain⟨ops,lo,ro,bo⟩:=axE a8
   obtain⟨x9,rfl,b9⟩:=zI.text u9 a9
   obtain⟨x10,rfl⟩:=Arg.bool uBo a10.arg
   obtain⟨x11,rfl,_⟩:=zI.i64 u3' a11
   obtain⟨ms,rfl⟩:=zI.isSlice aro a12
   obtain⟨mm,lm,rm⟩:=axk a12
   exact⟨(⟨x0,L x1,x2,x3,x4,x5,x6,x7,ops,L x9,x10,x11,mm⟩,os,ms),y0,⟨⟨ro,rm⟩,⟨by rw[kF];exact b1,by rw[kF];exact b9,bo⟩,lo,lm⟩⟩) h
 exact⟨l,h1,h2,h3⟩
end Zt
namespace Zt
open Go SL G Pa Wi
variable{B:ZB}{ro I:AH}
def ata{a0:Sl}{hm:ZA}{cs:List (wM×Sl×Sl)}{Q:Bool->AH->Prop}(g:ze ro)(ha:SL.vt ro (fun _=>none) 13 a0 (cs.map apr))(hl:cs.length<=1048576)(hok:∀ y∈cs,amz ro y)(hQ:∀ I',Q true I'):ab3 B ro a0 hm I Q:=by
 have:=arI (B:=B) (I:=I) (home:=L hm) g ha hl hok hQ
 rwa [S_L]at this
end Zt
namespace Zt
open Go Go.ChangeShapes Go.WideShapes Go.ChangeAt Go.RowKit
def arJ:(Rows.storeApartUptoRow.inPlace == prog.inPlace 4)=true:=j0
def awz:(Rows.storeApartUptoRow.unfollowed == prog.unfollowed 4)=true:=j0
def awA:(Rows.storeApartUptoRow.recurses == prog.recurses 4)=true:=j0
def auJ:(Rows.storeApartUptoRow.named == prog.varsNamed 4)=true:=j0
def avT:laidOutB prog=true:=amK
def atb:joinedFacts prog 4 f4 (Rows.OpenSpec.upto Rows.storeApartSpec).bare Rows.storeApartUptoRow=true:=by
 unfold joinedFacts
 rw[arJ,awz,awA,auJ,avT]
 simp only[mu]
 repeat' refine And.intro ?_ ?_
 all_goals first | exact trivial | (as_aux_lemma=>kernel_rfl)