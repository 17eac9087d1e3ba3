import Derived.Test.YtomdigihapdhnaaGreatDoorXO
set_option linter.all false
set_option maxRecDepth 99999
set_option maxHeartbeats 0
open Go.IntKind(i64)
namespace Go.Proofs.YtomdigihapdhnaaGreatDoor
namespace Zt
open Go SL G Pa Wi
variable{B:ZB}{ro I I':AH}{tag tag':Nat->Nat}
def ape(st:∀ R,qd R ro tag I tag' I'):HLe I I':=fun c o hc=>((st []).keep c o hc y0).2
def xu(r:Rd):(rnum r).2.rest.length<=r.rest.length:=by
 unfold rnum
 split
 .exact mR _
 .simp
def af8(r:Rd):(rblob r).2.rest.length<=r.rest.length/\(rblob r).1.length<=r.rest.length:=by
 by_cases h:(rblob r).2.err=0
 .have e:=mj List.length (ahz h).2
  unfold vR at e
  simp only[mA]at e
  omega
 .have h1:=an4 h
  rw[h1]
  refine⟨?_,y0⟩
  unfold rblob at h⊢
  have:=xu r
  split
  .exact this
  .split
   .exact mR _
   .simp only[List.length_drop];omega
def anM{m:Nat}:∀ (n:Nat) (r:Rd),r.rest.length<=m->(gres n r).2.rest.length<=m/\∀ y∈(gres n r).1,y.1.length<=m
 | 0,r,h=>⟨h,fun y hy=>by cases hy⟩
 | n+1,r,h=>by
  have h1:=af8 r
  have h2:=xu (rblob r).2
  obtain⟨i1,i2⟩:=anM (m:=m) n (rnum (rblob r).2).2 z7
  unfold gres
  refine⟨i1,fun y hy=>?_⟩
  rcases mp.1 hy with rfl | hy
  .simp only;omega
  .exact i2 y hy
def ak0{m:Nat}:∀ (n:Nat) (r:Rd),r.rest.length<=m->(gnames n r).2.rest.length<=m/\∀ y∈(gnames n r).1,y.length<=m
 | 0,r,h=>⟨h,fun y hy=>by cases hy⟩
 | n+1,r,h=>by
  have h1:=af8 r
  obtain⟨i1,i2⟩:=ak0 (m:=m) n (rblob r).2 z7
  unfold gnames
  refine⟨i1,fun y hy=>?_⟩
  rcases mp.1 hy with rfl | hy
  .omega
  .exact i2 y hy
def anN{m:Nat}:∀ (n:Nat) (r:Rd),r.rest.length<=m->(aev n r).2.rest.length<=m/\∀ y∈(aev n r).1,y.2.2.length<=m
 | 0,r,h=>⟨h,fun y hy=>by cases hy⟩
 | n+1,r,h=>by
  have h0:=xu r
  have h1:=xu (rnum r).2
  have h2:=af8 (rnum (rnum r).2).2
  obtain⟨i1,i2⟩:=anN (m:=m) n (rblob (rnum (rnum r).2).2).2 z7
  unfold aev
  refine⟨i1,fun y hy=>?_⟩
  rcases mp.1 hy with rfl | hy
  .simp only;omega
  .exact i2 y hy
def asD{b:Str}{x:Rep}(h:uT b=some x)(hb:b.length<=1048576):uv x:=by
 unfold uT at h
 split at h
 .cases h
 cases h
 unfold zP
 simp only
 have a1:=xu ⟨b,0⟩
 have a2:=xu (rnum ⟨b,0⟩).2
 have a3:=xu (rnum (rnum ⟨b,0⟩).2).2
 simp only at a1
 generalize rnum (rnum (rnum ⟨b,0⟩).2).2=A3 at*
 obtain⟨g1,g2⟩:=anM (m:=1048576) (min A3.1 16) A3.2 z7
 generalize gres (min A3.1 16) A3.2=A4 at*
 have a5:=xu A4.2
 generalize rnum A4.2=A5 at*
 have a6:=af8 A5.2
 generalize rblob A5.2=A6 at*
 have a7:=xu A6.2
 generalize rnum A6.2=A7 at*
 have a8:=xu A7.2
 generalize rnum A7.2=A8 at*
 have a9:=xu A8.2
 generalize rnum A8.2=A9 at*
 have b0:=xu A9.2
 generalize rnum A9.2=B0 at*
 have b1:=xu B0.2
 generalize rnum B0.2=B1 at*
 obtain⟨n1,n2⟩:=ak0 (m:=1048576) (min B1.1 4096) B1.2 z7
 generalize gnames (min B1.1 4096) B1.2=B2 at*
 have b3:=xu B2.2
 generalize rnum B2.2=B3 at*
 obtain⟨v1,v2⟩:=anN (m:=1048576) (min B3.1 32) B3.2 z7
 exact⟨by simp only;omega,g2,n2,v2⟩
abbrev CL:List Nat:=[0,2,3,4,9,11]
def ami{rs ds ns es:Sl}{x:Rep}{Q:Int->Int->Sl->Int->Sl->Int->Int->Int->Int->Sl->Sl->Int->AH->Prop}(hx:abb ro I rs ds ns es x)(h1:x.results.length<=1099511627776)(h3:x.events.length<=1099511627776)
  (hQ:∀ rs' es' tag' I',StepS CL ro T7 I tag' I'->ql tag' I' 9 136 2 rs' (x.results.map xQ)->ql tag' I' 11 139 3 es' (x.events.map abH)->Q x.code x.session rs' x.bad ds x.ver x.ctr x.own x.kids ns es' x.epoch I'):abi B ro x.code x.session rs x.bad ds x.ver x.ctr x.own x.kids ns es x.epoch I Q:=by
 refine am8 fun hs=>?_
 unfold afQ
 have lr:rs.len=x.results.length:=by rw[hx.res.1,mg]
 have le:es.len=x.events.length:=by rw[hx.evs.1,mg]
 refine qf (tag:=T7) 2 hs fun X tag1 I1 st1 x1=>?_
 refine qf (tag:=tag1) 3 (st1 []).sep fun Y tag2 I2 st2 y2=>?_
 have x2:=x1.keep (st2 [])
 obtain⟨p,hp,hg⟩:=x2.ptr (st2 []).sep y0
 cases hp
 refine⟨x.code,by simpa using hg 0 _ rfl,x.session,hg 1 _ rfl,x.bad,hg 3 _ rfl,ds,hg 4 _ rfl,x.ver,hg 5 _ rfl,x.ctr,by rw[aal];exact hg 6 _ rfl,x.own,by rw[aal];exact hg 7 _ rfl,x.kids,by rw[aal];exact hg 8 _ rfl,ns,hg 9 _ rfl,x.epoch,hg 11 _ rfl,?_⟩
 refine kz (tag:=tag2) 4 (st2 []).sep rfl (by simp[qg,Sl.v]) fun Z tag3 I3 st3 z3=>?_
 have x3:=x2.keep (st3 [])
 have y3:=y2.keep (st3 [])
 have s3:StepS CL ro T7 I tag3 I3:=((st1 []).s y0).trans (((st2 []).s y0).trans ((st3 []).s y0))
 obtain⟨p,hp,hg⟩:=x3.ptr (st3 []).sep y0
 cases hp
 refine⟨rs,hg 2 _ rfl,?_⟩
 have d7:∀ {tag2 I2},StepS CL ro T7 I tag2 I2->abb ro I2 rs ds ns es x:=fun s2=>hx.hle (s2.hle y1)
 have last:∀ (rs' es':Sl) tag4 I4,StepS CL ro T7 I tag4 I4->Row tag4 I4 3 39 ⟨some ⟨Y,0,none⟩,12,12⟩ [vI 0,vI 0,Sl.v ⟨none,0,0⟩,vI 0,Sl.v ⟨none,0,0⟩,vI 0,vI 0,vI 0,vI 0,Sl.v ⟨none,0,0⟩,Sl.v ⟨none,0,0⟩,vI 0]->
   Row tag4 I4 4 39 ⟨some ⟨Z,0,none⟩,12,12⟩ [vI x.code,vI x.session,Sl.v rs',vI x.bad,Sl.v ds,vI x.ver,vI x.ctr,vI x.own,vI x.kids,Sl.v ns,Sl.v es',vI x.epoch]->ql tag4 I4 9 136 2 rs' (x.results.map xQ)->ql tag4 I4 11 139 3 es' (x.events.map abH)->uX B ro Y Z Q I4:=fun rs' es' tag4 I4 s4 y4 z4 o1 o2=>by
  unfold uX
  refine⟨_,_,_,_,_,_,_,_,_,_,_,_,Row.cellsAt z4 s4.sep,?_⟩
  refine y4.stAll s4.sep rfl (by simp[qg,Sl.v]) fun I5 st5 y5=>?_
  have s5:StepS CL ro T7 I tag4 I5:=s4.trans (st5.s y0)
  exact⟨_,_,_,_,_,_,_,_,_,_,_,_,Row.cellsAt y5 st5.sep,hQ rs' es' _ I5 s5 (o1.keep st5 y1) (o2.keep st5 y1)⟩
 have evs:∀ k j (rs' es':Sl) tag4 I4,j+k=x.events.length->StepS CL ro T7 I tag4 I4->Row tag4 I4 3 39 ⟨some ⟨Y,0,none⟩,12,12⟩ [vI 0,vI 0,Sl.v ⟨none,0,0⟩,vI 0,Sl.v ⟨none,0,0⟩,vI 0,vI 0,vI 0,vI 0,Sl.v ⟨none,0,0⟩,Sl.v ⟨none,0,0⟩,vI 0]->
   Row tag4 I4 4 39 ⟨some ⟨Z,0,none⟩,12,12⟩ [vI x.code,vI x.session,Sl.v rs',vI x.bad,Sl.v ds,vI x.ver,vI x.ctr,vI x.own,vI x.kids,Sl.v ns,Sl.v es',vI x.epoch]->ql tag4 I4 9 136 2 rs' (x.results.map xQ)->ql tag4 I4 11 139 3 es' ((x.events.take j).map abH)->lfpD (uY B ro Y Z es Q) (j:Int) I4:=by
  intro k
  induction k with
  | zero=>
   intro j rs' es' tag4 I4 hj s4 y4 z4 o1 o2
   refine lfpD.intro ?_
   unfold uY
   rw[ma z7]
   rw[mD z7]at o2
   exact last rs' es' tag4 I4 s4 y4 z4 o1 o2
  | succ k ih=>
   intro j rs' es' tag4 I4 hj s4 y4 z4 o1 o2
   have hjl:j<x.events.length:=by omega
   obtain⟨q,hq,hc⟩:=(d7 s4).evs.at (j:=j) (x:=abH x.events[j]) (by rw[mh,md hjl];try rfl)
   have etk:x.events.take (j+1)=x.events.take j++[x.events[j]]:=by rw[mK,md hjl];try rfl
   have hlj:((x.events.take j).map abH).length=j:=by rw[mg,nA];omega
   generalize x.events[j]=e at hc etk
   refine lfpD.intro ?_
   unfold uY
   rw[mc z7]
   refine⟨q,hq,z7,z7,e.1,e.2.1,S e.2.2,by rw[mq];exact hc,?_⟩
   refine kz (tag:=tag4) 0 s4.sep rfl (by simp[qg]) fun V tag5 I5 st5 v5=>?_
   have z5:=z4.keep (st5 [])
   obtain⟨p,hp,hgz⟩:=z5.ptr (st5 []).sep y0
   cases hp
   obtain⟨p,hp,hgv⟩:=v5.ptr (st5 []).sep y0
   cases hp
   refine⟨es',hgz 10 _ rfl,e.1,by simpa using hgv 0 _ rfl,e.2.1,hgv 1 _ rfl,S e.2.2,hgv 2 _ rfl,?_⟩
   refine qf (tag:=tag5) 0 (st5 []).sep fun w tag6 I6 st6 w6=>?_
   refine jn (l2:=[abH e]) ((o2.keep (st5 [])).keep (st6 [])) (st6 []).sep (Row.readW1 w6 (st6 []).sep rfl y1) (t:=37) j0 aws rfl (by simp[abH,qg]) (by rw[hlj];simp;omega) y1 fun es2 tag7 I7 st7 o7=>?_
   have st7:=st7 [11] (.inr y0)
   refine⟨es2,rfl,?_⟩
   refine((z5.keep (st6 [])).keep st7 y1).stAt [Sl.v es2] 10 st7.sep y0 (by simp[qg,Sl.v]) fun I8 st8 z8=>?_
   have k48:StepS [4,11] ro tag4 I4 tag7 I8:=((st5 []).s y0).trans (((st6 []).s y0).trans ((st7.s y0).trans (st8.s y0)))
   rw[Pa.inc j z7]
   refine ih (j+1) rs' es2 tag7 I8 z7 (s4.trans (k48.mono y0)) (y4.keepS k48) z8 (ql.keepS o1 k48) ?_
   rw[etk,my];exact o7.keep st8 y1
 suffices∀k j (rs':Sl) tag4 I4,j+k=x.results.length->StepS CL ro T7 I tag4 I4->Row tag4 I4 2 30 ⟨some ⟨X,0,none⟩,12,12⟩ [vI x.code,vI x.session,Sl.v rs,vI x.bad,Sl.v ds,vI x.ver,vI x.ctr,vI x.own,vI x.kids,Sl.v ns,Sl.v es,vI x.epoch]->Row tag4 I4 3 39 ⟨some ⟨Y,0,none⟩,12,12⟩ [vI 0,vI 0,Sl.v ⟨none,0,0⟩,vI 0,Sl.v ⟨none,0,0⟩,vI 0,vI 0,vI 0,vI 0,Sl.v ⟨none,0,0⟩,Sl.v ⟨none,0,0⟩,vI 0]->
   Row tag4 I4 4 39 ⟨some ⟨Z,0,none⟩,12,12⟩ [vI x.code,vI x.session,Sl.v rs',vI x.bad,Sl.v ds,vI x.ver,vI x.ctr,vI x.own,vI x.kids,Sl.v ns,Sl.v ⟨none,0,0⟩,vI x.epoch]->ql tag4 I4 9 136 2 rs' ((x.results.take j).map xQ)->lfpD (uZ B ro X Y Z rs Q) (j:Int) I4 from
  this _ 0 ⟨none,0,0⟩ tag3 I3 (ml _) s3 x3 y3 z3 (ql.nil _ _ _)
 intro k
 induction k with
 | zero=>
  intro j rs' tag4 I4 hj s4 x4 y4 z4 o1
  refine lfpD.intro ?_
  unfold uZ
  rw[ma z7]
  rw[mD z7]at o1
  unfold abT
  obtain⟨p,hp,hg⟩:=x4.ptr s4.sep y0
  cases hp
  exact⟨es,hg 10 _ rfl,evs _ 0 rs' ⟨none,0,0⟩ tag4 I4 (ml _) s4 y4 z4 o1 (ql.nil _ _ _)⟩
 | succ k ih=>
  intro j rs' tag4 I4 hj s4 x4 y4 z4 o1
  have hjl:j<x.results.length:=by omega
  obtain⟨q,hq,hc⟩:=(d7 s4).res.at (j:=j) (x:=xQ x.results[j]) (by rw[mh,md hjl];try rfl)
  have etk:x.results.take (j+1)=x.results.take j++[x.results[j]]:=by rw[mK,md hjl];try rfl
  have hlj:((x.results.take j).map xQ).length=j:=by rw[mg,nA];omega
  generalize x.results[j]=e at hc etk
  refine lfpD.intro ?_
  unfold uZ
  rw[mc z7]
  refine⟨q,hq,z7,z7,S e.1,e.2,by rw[mq];exact hc,?_⟩
  refine kz (tag:=tag4) 0 s4.sep rfl (by simp[qg]) fun V tag5 I5 st5 v5=>?_
  have z5:=z4.keep (st5 [])
  obtain⟨p,hp,hgz⟩:=z5.ptr (st5 []).sep y0
  cases hp
  obtain⟨p,hp,hgv⟩:=v5.ptr (st5 []).sep y0
  cases hp
  refine⟨rs',hgz 2 _ rfl,S e.1,by simpa using hgv 0 _ rfl,e.2,hgv 1 _ rfl,?_⟩
  refine qf (tag:=tag5) 0 (st5 []).sep fun w tag6 I6 st6 w6=>?_
  refine jn (l2:=[xQ e]) ((o1.keep (st5 [])).keep (st6 [])) (st6 []).sep (Row.readW1 w6 (st6 []).sep rfl y1) (t:=35) j0 avA rfl (by simp[xQ,qg]) (by rw[hlj];simp;omega) y1 fun rs2 tag7 I7 st7 o7=>?_
  have st7:=st7 [9] (.inr y0)
  refine⟨rs2,rfl,?_⟩
  refine((z5.keep (st6 [])).keep st7 y1).stAt [Sl.v rs2] 2 st7.sep y0 (by simp[qg,Sl.v]) fun I8 st8 z8=>?_
  have k48:StepS [4,9] ro tag4 I4 tag7 I8:=((st5 []).s y0).trans (((st6 []).s y0).trans ((st7.s y0).trans (st8.s y0)))
  rw[Pa.inc j z7]
  refine ih (j+1) rs2 tag7 I8 z7 (s4.trans (k48.mono y0)) (x4.keepS k48) (y4.keepS k48) z8 ?_
  rw[etk,my];exact o7.keep st8 y1
def asE{rs ds ns es:Sl}{x:Rep}{Q:Int->Int->Sl->Int->Sl->Int->Int->Int->Int->Sl->Sl->Int->AH->Prop}(hx:abb ro I rs ds ns es x)(h1:x.results.length<=1099511627776)(h3:x.events.length<=1099511627776)
  (hQ:∀ rs' es' tag' I',(∀R,qd R ro tag I tag' I')->abb ro I' rs' ds ns es' x->Q x.code x.session rs' x.bad ds x.ver x.ctr x.own x.kids ns es' x.epoch I'):abi B ro x.code x.session rs x.bad ds x.ver x.ctr x.own x.kids ns es x.epoch I Q:=
 ami hx h1 h3 fun rs' es' tag1 I1 s1 o1 o2=>by
  have hd:=hx.hle (s1.hle y1)
  exact hQ rs' es' _ I1 (s1.mix y1 tag) ⟨o1.read s1.sep,hd.data,hd.names,o2.read s1.sep⟩
def aub{rs ds ns es rs2 ds2 ns2 es2:Sl}{x y:Rep}{Q:Bool->AH->Prop}(hx:abb ro I rs ds ns es x)(hy:abb ro I rs2 ds2 ns2 es2 y)(sx:uv x)(sy:uv y)
  (hQ:∀ tag' I',(∀R,qd R ro tag I tag' I')->Q (decide (vF x≠none/\vF x=vF y)) I'):
  agp B ro x.code x.session rs x.bad ds x.ver x.ctr x.own x.kids ns es x.epoch y.code y.session rs2 y.bad ds2 y.ver y.ctr y.own y.kids ns2 es2 y.epoch I Q:=by
 refine aod fun hs=>?_
 unfold agL
 refine qf (tag:=tag) 0 hs fun X tag1 I1 st1 x1=>?_
 refine qf (tag:=tag1) 0 (st1 []).sep fun Y tag2 I2 st2 y2=>?_
 have x2:=x1.keep (st2 [])
 refine⟨_,_,_,_,_,_,_,_,_,_,_,_,Row.cellsAt x2 (st2 []).sep,?_⟩
 have k2:∀ R,qd R ro tag I tag2 I2:=fun R=>(st1 R).trans (st2 R)
 have fin:∀ (c:Bool) tag3 I3,(∀R,qd R ro tag I tag3 I3)->c=decide (vF x≠none/\vF x=vF y)->uC B ro Q c I3:=fun c tag3 I3 k3 hc=>by
  unfold uC
  rw[hc];exact hQ tag3 I3 k3
 refine agN (tag:=tag2) (hx.hle (ape k2)) sx (fun hn tag3 I3 st3=>?_) fun p hp s3 tag3 I3 st3 r3=>?_
 .refine⟨_,_,_,_,_,_,_,_,_,_,_,_,Row.cellsAt (y2.keep (st3 [])) (st3 []).sep,?_⟩
  have k3:∀ R,qd R ro tag I tag3 I3:=fun R=>(k2 R).trans (st3 R)
  refine agN (tag:=tag3) (hy.hle (ape k3)) sy (fun hn2 tag4 I4 st4=>?_) fun p2 hp2 s4 tag4 I4 st4 r4=>?_
  .rw[ma y0]
   exact fin _ tag4 I4 (fun R=>(k3 R).trans (st4 R)) (by simp[hn])
  .rw[ma y0]
   exact fin _ tag4 I4 (fun R=>(k3 R).trans (st4 R)) (by simp[hn])
 .refine⟨_,_,_,_,_,_,_,_,_,_,_,_,Row.cellsAt (y2.keep (st3 [])) (st3 []).sep,?_⟩
  have k3:∀ R,qd R ro tag I tag3 I3:=fun R=>(k2 R).trans (st3 R)
  refine agN (tag:=tag3) (hy.hle (ape k3)) sy (fun hn2 tag4 I4 st4=>?_) fun p2 hp2 s4 tag4 I4 st4 r4=>?_
  .rw[ma y0]
   exact fin _ tag4 I4 (fun R=>(k3 R).trans (st4 R)) (by simp[hp,hn2])
  .rw[mc y0]
   refine avo ((r3.keep (st4 [])).read (st4 []).sep) (r4.read (st4 []).sep) ?_
   exact fin _ tag4 I4 (fun R=>(k3 R).trans (st4 R)) (by rw[hp,hp2];simp)