import Derived.Sort.Walk0
import Derived.Test.YtomdigihapdhnaaGreatDoorXI
set_option linter.all false
set_option maxRecDepth 99999
set_option maxHeartbeats 0
open Go.IntKind(i64)
open Go.Proofs.Tryz
namespace Go.Proofs.YtomdigihapdhnaaGreatDoor
namespace Wi
open Go SL G Zt
variable{B:World}{ro I I':AH}{tag tag':Nat->Nat}
variable{Q:Int->AH->Prop}{R:List Nat}{A q r:Nat}{x:Rd}{a s:Sl}{b l:Str}
def yu(tag:Nat->Nat)(I:AH)(q:Nat)(s:Sl)(l:Str):Prop:=
 (s=⟨none,0,0⟩/\l=[])\/∃ (g:Nat) (cs:Array Value) (k:Nat),s.a=some ⟨g,k,none⟩/\tag g=q/\I g=some (.cells cs 5)/\s.len=l.length/\s.len<=s.cap/\∀ (i:Nat) (c:UInt8),l[i]?=some c->cs[k+i]?=some (vU c)
theorem yu.len(h:yu tag I q s l):s.len=l.length:=by
 rcases h with⟨rfl,rfl⟩ | ⟨_,_,_,_,_,_,h,_⟩
 .rfl
 .exact h
theorem yu.cap(h:yu tag I q s l):s.len<=s.cap:=by
 rcases h with⟨rfl,rfl⟩ | ⟨_,_,_,_,_,_,_,h,_⟩
 .exact mK _
 .exact h
theorem yu.keep(h:yu tag I q s l)(k:qd R ro tag I tag' I')(hr:q∉R:=by simp):yu tag' I' q s l:=by
 rcases h with h | ⟨g,cs,o,ha,ht,hb,hx⟩
 .exact .inl h
 .obtain⟨t,e⟩:=k.keep g _ hb (by rw[ht];exact hr)
  exact .inr ⟨g,cs,o,ha,t.trans ht,e,hx⟩
theorem yu.of_row(h:Row tag I q 5 s (l.map vU)):yu tag I q s l:=by
 rcases h with⟨rfl,h⟩ | ⟨b,cs,ha,ht,hb,hln,hc,hle,hg⟩
 .exact .inl ⟨rfl,j2 h⟩
 .refine .inr ⟨b,cs,0,ha,ht,hb,by rw[hln,mi],hle,fun i c hi=>?_⟩
  have hil:i<l.length:=by
   rcases mL i l.length with h | h
   .exact h
   .rw[mI h]at hi;cases hi
  rw[ml,hg i (j2 hil),mg,hi];try rfl
theorem yu.read(h:yu tag I q s l)(hs:SL.Sep ro I):SL.wy ro I s (l.map vU):=by
 refine⟨by rw[h.len,mi],fun hn=>?_,fun p hp i v hv=>?_⟩
 .rcases h with⟨_,rfl⟩ | ⟨_,_,_,ha,_⟩
  .rfl
  .rw[hn]at ha;cases ha
 .rcases h with⟨rfl,_⟩ | ⟨g,cs,k,ha,ht,hb,hln,hle,hg⟩
  .cases hp
  .rw[hp]at ha;cases ha
   rw[mg]at hv
   obtain⟨c,hc,rfl⟩:=nj.1 hv
   unfold qa rd
   simp only[vy,hs g _ hb,hb,vw]
   exact hg i c hc
theorem yu.drop{e:Nat}(h:yu tag I q s l)(he:e<=l.length):yu tag I q ⟨wt s.a e s.cap 1,s.len - e,s.cap - e⟩ (l.drop e):=by
 rcases h with⟨rfl,rfl⟩ | ⟨g,cs,k,ha,ht,hb,hln,hle,hg⟩
 .have:e=0:=by simpa using he
  subst this
  exact .inl ⟨by simp[wt],rfl⟩
 .unfold wt
  by_cases hc:s.cap=e
  .rw[mc hc]
   refine .inr ⟨g,cs,k,ha,ht,hb,j0,j0,fun i c hi=>?_⟩
   rw[LA z7]at hi;cases hi
  .rw[ma hc]
   refine .inr ⟨g,cs,k+e,by simp[ha,vy],ht,hb,j0,j0,fun i c hi=>?_⟩
   rw[List.getElem?_drop]at hi
   rw[Nat.add_assoc];exact hg (e+i) c hi
theorem yu.takeR{n:Nat}(h:yu tag I q s l)(hs:SL.Sep ro I)(hn:n<=l.length):SL.wy ro I ⟨wt s.a 0 s.cap 1,n - 0,s.cap - 0⟩ ((l.take n).map vU):=by
 have hr:=h.read hs
 rw[pu]
 refine⟨j0,fun ha=>?_,fun p hp i v hv=>?_⟩
 .have:=hr.2.1 ha
  have:l=[]:=by simpa using this
  rw[this];simp
 .refine hr.2.2 p hp i v ?_
  rw[List.map_take,Lb]at hv
  split at hv
  .exact hv
  .cases hv
def jZ(tag:Nat->Nat)(I:AH)(r A:Nat)(x:Rd):Prop:=
 ∃s:Sl,Row tag I r 231 ⟨some ⟨A,0,none⟩,2,2⟩ [Sl.v s,Zt.vI x.err]/\yu tag I 6 s x.rest/\x.rest.length<=140737488355328
theorem jZ.keep(h:jZ tag I r A x)(k:qd R ro tag I tag' I')(h1:r∉R:=by simp)(h2:6∉R:=by simp):jZ tag' I' r A x:=by
 obtain⟨s,a,b,c⟩:=h
 exact⟨s,a.keep k h1,b.keep k h2,c⟩
theorem jZ.keepC{c:Nat}(h:jZ tag I r A x)(k:zU c ro tag I tag' I')(hr:r%64≠c:=by decide)(h6:c≠6:=by decide):jZ tag' I' r A x:=by
 obtain⟨R,h1,h2⟩:=k
 exact h.keep h2 (fun m=>hr (h1 _ m)) (fun m=>h6 (h1 _ m).symm)
theorem ajo{Q:Option Addr->AH->Prop}(h:SL.wy ro I a (b.map vU))(hs:SL.Sep ro I)(hl:b.length<=140737488355328)(hQ:∀ A tag' I',(∀R,qd R ro tag I tag' I')->jZ tag' I' r A ⟨b,0⟩->Q (some ⟨A,0,none⟩) I'):
  aaK B ro a I Q:=by
 refine aj6 fun _=>?_
 unfold adk
 refine aaS (tag:=tag) h hs j0 (anz _) fun s tag1 I1 st1 r1=>?_
 refine qh (tag:=tag1) r (st1 []).sep fun A tag2 I2 st2 r2=>?_
 exact hQ A tag2 I2 (fun R=>(st1 R).trans (st2 R)) ⟨s,r2,yu.of_row (r1.keep (st2 [])),hl⟩
theorem aps(h:jZ tag I r A x)(hs:SL.Sep ro I)(hQ:Q (x.rest.length:Nat) I):uv B ro (some ⟨A,0,none⟩) I Q:=by
 refine aiQ fun _=>?_
 unfold abX
 obtain⟨s,a,b,c⟩:=h
 obtain⟨p,hp,hg⟩:=a.ptr hs z8
 cases hp
 refine⟨_,rfl,s,hg 0 _ rfl,?_⟩
 rw[b.len];exact hQ
theorem apt(h:jZ tag I r A x)(hs:SL.Sep ro I)(hQ:Q x.err I):aaf B ro (some ⟨A,0,none⟩) I Q:=by
 refine ajl fun _=>?_
 unfold acv
 obtain⟨s,a,b,c⟩:=h
 obtain⟨p,hp,hg⟩:=a.ptr hs z8
 cases hp
 exact⟨_,rfl,x.err,hg 1 _ rfl,hQ⟩
theorem km(h:jZ tag I r A x)(h6:r≠6)(hs:SL.Sep ro I)(hQ:∀ I',qd [r] ro tag I tag I'->jZ tag I' r A (qL x).2->Q ((qL x).1:Nat) I'):qG B ro (some ⟨A,0,none⟩) I Q:=by
 refine ajk fun _=>?_
 unfold acu
 obtain⟨s,a,b,c⟩:=id h
 obtain⟨p,hp,hg⟩:=a.ptr hs z8
 cases hp
 refine⟨_,rfl,x.err,hg 1 _ rfl,?_⟩
 by_cases he:x.err=0
 .rw[ma (j2 he)]
  refine⟨_,rfl,s,hg 0 _ rfl,?_⟩
  refine aro (b.read hs) c ?_
  have hrn:qL x=((num x.rest).1,⟨x.rest.drop (num x.rest).2.1,(num x.rest).2.2⟩):=by unfold qL;rw[ma (j2 he)]
  rw[hrn]at hQ
  have hle:=arc x.rest
  have hln:=b.len
  have hcp:=b.cap
  refine⟨_,rfl,?_⟩
  refine a.st (i:=1) hs rfl z8 rfl fun I1 st1 r1=>?_
  obtain⟨p1,hp1,hg1⟩:=r1.ptr st1.sep z8
  cases hp1
  refine⟨_,rfl,s,hg1 0 _ rfl,⟨trivial,z7,by simp only[cutHi];omega⟩,_,rfl,?_⟩
  rw[mr]
  refine r1.st (i:=0) st1.sep rfl z8 rfl fun I2 st2 r2=>?_
  refine hQ I2 (st1.trans st2) ⟨_,r2,((b.drop hle.1).keep st1 (by simpa using fun h=>h6 h.symm)).keep st2 (by simpa using fun h=>h6 h.symm),j0⟩
 .rw[mc (j2 he)]
  rw[akD he]at hQ
  exact hQ I (qd.refl hs) h
theorem ajp{Q:Sl->AH->Prop}(h:jZ tag I r A x)(h6:r≠6)(hs:SL.Sep ro I)
  (hQ:∀ s tag' I',qd [r] ro tag I tag' I'->Row tag' I' 6 5 s ((wi x).1.map vU)->jZ tag' I' r A (wi x).2->Q s I'):yp B ro (some ⟨A,0,none⟩) I Q:=by
 refine aiP fun _=>?_
 unfold abW
 obtain⟨s,a,b,c⟩:=id h
 obtain⟨p,hp,hg⟩:=a.ptr hs z8
 cases hp
 refine⟨_,rfl,s,hg 0 _ rfl,?_⟩
 refine km h h6 hs fun I1 st1 h1=>?_
 have h61:6∉[r]:=by simpa using fun h=>h6 h.symm
 obtain⟨s1,a1,b1,c1⟩:=id h1
 obtain⟨p1,hp1,hg1⟩:=a1.ptr st1.sep z8
 cases hp1
 refine⟨_,rfl,_,hg1 1 _ rfl,?_⟩
 by_cases he:(qL x).2.err=0
 .rw[ma (j2 he)]
  refine⟨_,rfl,s1,hg1 0 _ rfl,?_⟩
  have hln1:=b1.len
  have hcp1:=b1.cap
  by_cases hlt:(qL x).2.rest.length<(qL x).1
  .rw[mc z7]
   have hrb:wi x=([],⟨x.rest,12⟩):=by unfold wi;rw[ma (j2 he),mc hlt]
   rw[hrb]at hQ
   refine⟨_,rfl,?_⟩
   refine a1.st (i:=1) st1.sep rfl z8 rfl fun I2 st2 r2=>?_
   refine⟨_,rfl,?_⟩
   refine r2.st (i:=0) st2.sep rfl z8 rfl fun I3 st3 r3=>?_
   exact hQ ⟨none,0,0⟩ tag I3 (st1.trans (st2.trans st3)) (Row.nil 6 5) ⟨s,r3,((b.keep st1 h61).keep st2 h61).keep st3 h61,c⟩
  .rw[ma z7]
   have hrb:wi x=((qL x).2.rest.take (qL x).1,⟨(qL x).2.rest.drop (qL x).1,0⟩):=by unfold wi;rw[ma (j2 he),ma hlt]
   rw[hrb]at hQ
   refine⟨_,rfl,s1,hg1 0 _ rfl,⟨⟨z7,z7⟩,trivial⟩,?_⟩
   rw[mr]
   refine aaS (tag:=tag) (b1.takeR st1.sep z7) st1.sep j0 (anz _) fun s2 tag2 I2 st2 r2=>?_
   have a2:=a1.keep (st2 [])
   obtain⟨p2,hp2,hg2⟩:=a2.ptr (st2 []).sep z8
   cases hp2
   refine⟨_,rfl,s1,hg2 0 _ rfl,⟨trivial,z7,by simp only[cutHi];omega⟩,_,rfl,?_⟩
   refine a2.st (i:=0) (st2 []).sep rfl z8 rfl fun I3 st3 r3=>?_
   rw[he]at r3
   refine hQ s2 tag2 I3 (st1.trans ((st2 _).trans st3)) (r2.keep st3 h61) ⟨_,r3,((b1.drop z7).keep (st2 [])).keep st3 h61,j0⟩
 .rw[mc (j2 he)]
  have hrb:wi x=([],(qL x).2):=by unfold wi;rw[mc (j2 he)]
  rw[hrb]at hQ
  exact hQ ⟨none,0,0⟩ tag I1 st1 (Row.nil 6 5) h1
theorem agG{Q:ByteArray->AH->Prop}(h:jZ tag I r A x)(h6:r≠6)(hs:SL.Sep ro I)
  (hQ:∀ tag' I',qd [r] ro tag I tag' I'->jZ tag' I' r A (wi x).2->Q (S (wi x).1) I'):xD B ro (some ⟨A,0,none⟩) I Q:=by
 refine aiO fun _=>?_
 unfold abV
 refine ajp h h6 hs fun s tag1 I1 st1 r1 h1=>?_
 exact aun (r1.read st1.sep) ⟨_,rfl,hQ tag1 I1 st1 h1⟩
end Wi
namespace Zt
open Go SL G Pa Wi
variable{B:World}{ro I I':AH}{tag tag':Nat->Nat}
variable{C bs:List Nat}{M T r:Nat}{n:Nd}{Q:Option Addr->Int->AH->Prop}{st:St}{b q:Str}
theorem art(a b:ByteArray):agy a b=true↔L a<L b:=by
 unfold agy
 rw[Go.Proofs.bytesLess_eq,ByteArray.toList_eq,ByteArray.toList_eq]
 simp[L]
theorem ajq(a b:ByteArray):(agy a b=true\/a=b)↔L a<=L b:=by
 rw[art,List.le_iff_lt_or_eq]
 constructor
 .rintro(h | h)
  .exact .inl h
  .exact .inr (by rw[h])
 .rintro(h | h)
  .exact .inl h
  .exact .inr (yI h)
theorem qU.add2{b:Nat}{tag2:Nat->Nat}{I2:AH}(h:qU tag I r T M bs st)(hr:r<64)(hr6:r≠6)(hq:st.lookup q=none)(hnb:b∉bs)(k:qd [r+64] ro tag I tag2 I2)(hnew:acK tag2 I2 r b n)(hm:zT tag2 I2 (r+64) M (afT (kv st bs) q (ptr b))):qU tag2 I2 r T M (bs++[b]) (st++[(q,n)]):=by
 refine⟨?_,by simp[h.len],?_,h.cell.keep k,?_,fun i c p hc hp=>?_⟩
 .rw[mB,List.nodup_append]
  refine⟨h.keys,z8,?_⟩
  intro x hx y hy
  simp at hy
  intro e
  exact acL hq (by rw[<-hy,<-e];exact hx)
 .rw[List.nodup_append]
  refine⟨h.nd,z8,?_⟩
  intro x hx y hy
  simp at hy
  intro e
  exact hnb (by rw[<-hy,<-e];exact hx)
 .rw[aq4 _ _ _ _ _ h.len,<-ape _ _ _ _ h.len hq];exact hm
 .rcases mL i bs.length with hi | hi
  .rw[mM hi]at hc
   rw[mM (by rw[<-h.len];exact hi)]at hp
   exact(h.nodes i c p hc hp).keep k (by simp<;>omega) z8
  .rw[mQ hi]at hc
   rw[mQ (by rw[<-h.len];exact hi),<-h.len]at hp
   cases hd:i - bs.length with
   | zero=>
    rw[hd]at hc hp
    cases hc;cases hp
    exact hnew
   | succ j=>rw[hd]at hc;cases hc
theorem au9{b:Nat}{p last:ByteArray}{Q:Bool->AH->Prop}(g:wW ro)(hr:r<64)(hr6:r≠6)(hr0:r≠0)(h:qU tag I r T M bs st)(hn:acK tag I r b n)(hnb:b∉bs)
  (hk:∀ x∈st,x.1<=L last) (hne:∀ x∈st,x.1≠[])
  (hno:lay st (L last) (L p) n=none->∀ tag' I',zU r ro tag I tag' I'->Q false I') (hyes:∀ st',lay st (L last) (L p) n=some st'->∀ tag' I',zU r ro tag I tag' I'->(∃bs',qU tag' I' r T M bs' st'/\∀ x∈bs',x∈bs\/x=b)->Q true I'):
  ac8 B ro (some ⟨T,0,none⟩) p last (some ⟨b,0,none⟩) I Q:=by
 refine aj2 fun hs=>?_
 unfold ade
 obtain⟨ds,hn1,hn2⟩:=id hn
 obtain⟨pb,hpb,hg⟩:=hn1.ptr hs z8
 cases hpb
 have dlen:ds.len=n.data.length:=by rw[hn2.len,mi]
 let bad:Prop:=parts (L p)=none\/L p<=L last\/256<n.data.length\/10000000000<n.ctr\/(n.own≠0/\0<n.ctr)
 have hbad:bad->lay st (L last) (L p) n=none:=fun h=>by unfold lay;rw[mc h]
 have refused:bad->kh B ro (some ⟨T,0,none⟩) p last (some ⟨b,0,none⟩) Q true I:=fun hb=>by
  unfold kh
  rw[mc rfl]
  exact hno (hbad hb) tag I (zU.refl hs)
 have r4:bad->xb B ro (some ⟨T,0,none⟩) p last (some ⟨b,0,none⟩) Q true I:=fun hb=>by
  unfold xb;rw[mc rfl];exact refused hb
 have r2:bad->xc B ro (some ⟨T,0,none⟩) p last (some ⟨b,0,none⟩) Q true I:=fun hb=>by
  unfold xc;rw[mc rfl];exact r4 hb
 refine pN g ?_
 by_cases c1:(¬(Pa.chk (L p)=0))\/((agy p last=true)\/p=last)
 .rw[mc c1]
  refine r2 ?_
  rcases c1 with c1 | c1
  .refine .inl ?_
   cases e:parts (L p)with
   | none=>rfl
   | some ps=>exact mu (vB.2 ⟨ps,e⟩) c1
  .exact .inr (.inl ((ajq p last).1 c1))
 rw[ma c1]
 simp only[not_or]at c1
 have hgt:¬ L p<=L last:=fun h=>by
  rcases(ajq p last).2 h with h | h
  .exact c1.2.1 h
  .exact c1.2.2 h
 obtain⟨ps,hps⟩:=vB.1 (nW.1 c1.1)
 refine⟨_,rfl,ds,hg 4 _ rfl,?_⟩
 by_cases c2:256<n.data.length
 .rw[show decide (256<(ds.len:Int))=true from by rw[dlen];simp;omega]
  exact r2 (.inr (.inr (.inl c2)))
 rw[show decide (256<(ds.len:Int))=false from by rw[dlen];simp;omega]
 unfold xc
 rw[ma y0]
 refine⟨_,rfl,n.ctr,hg 1 _ rfl,?_⟩
 by_cases c3:10000000000<n.ctr
 .rw[show decide (10000000000<n.ctr)=true from by simpa using c3]
  exact r4 (.inr (.inr (.inr (.inl c3))))
 rw[show decide (10000000000<n.ctr)=false from by simpa using c3]
 unfold xb
 rw[ma y0]
 refine⟨_,rfl,n.own,hg 2 _ rfl,?_⟩
 have good:¬ bad->kh B ro (some ⟨T,0,none⟩) p last (some ⟨b,0,none⟩) Q false I:=fun hnbad=>by
  have hq:st.lookup (L p)=none:=by
   cases e:st.lookup (L p)with
   | none=>rfl
   | some m=>exact mu (hk _ ((qO h.keys).1 e)) hgt
  unfold kh
  rw[ma y0]
  have hlay:lay st (L last) (L p) n=if L last=[]then(if L p=[47]/\n.data=[]/\n.ver=0/\n.own=0 then some (st++[(L p,n)])else none)
    else match qv (L p)with
     | none=>none
     | some u=>match st.lookup u with
      | none=>none
      | some m=>if m.own≠0 then none else some (wv st u ag6++[(L p,n)]):=by
   conv=>lhs;unfold lay
   rw[ma hnbad]
   try rfl
  by_cases cl:last=⟨#[]⟩
  .rw[mc cl]
   have cl':L last=[]:=by rw[cl];try rfl
   rw[mc cl']at hlay
   refine⟨_,rfl,_,Row.cell1 h.cell hs,?_⟩
   rw[<-S_L p]
   refine ab8 h.map hs u126 u9 fun I1 st1 m1=>?_
   have st1c:zU r ro tag I tag I1:=st1.c (by simp<;>omega)
   have hn':=hn.keep st1 (by simp<;>omega) (by simp<;>omega)
   have hA:=h.add2 hr hr6 hq hnb st1 hn' m1
   obtain⟨ds',hn1',hn2'⟩:=hn'
   obtain⟨pb',hpb',hg'⟩:=hn1'.ptr st1.sep z8
   cases hpb'
   have dlen':ds'.len=n.data.length:=by rw[hn2'.len,mi]
   have fin:∀ x:Bool,(x=true↔(L p=[47]/\n.data=[]/\n.ver=0/\n.own=0))->Q x I1:=fun x hx=>by
    by_cases hc:L p=[47]/\n.data=[]/\n.ver=0/\n.own=0
    .rw[hx.2 hc]
     rw[mc hc]at hlay
     exact hyes _ hlay tag I1 st1c ⟨_,hA,fun x hx=>by simpa using hx⟩
    .have:x=false:=by
      cases x with
      | false=>rfl
      | true=>exact mu (hx.1 rfl) hc
     rw[this]
     rw[ma hc]at hlay
     exact hno hlay tag I1 st1c
   have j10:∀ x:Bool,(x=true↔(L p=[47]/\n.data=[]))->xJ B ro (some ⟨b,0,none⟩) Q x I1:=fun x hx=>by
    unfold xJ
    cases x with
    | true=>
     rw[mc rfl]
     have hx':=hx.1 rfl
     refine⟨_,rfl,n.ver,hg' 0 _ rfl,?_⟩
     unfold xI
     by_cases hv:n.ver=0
     .rw[mc (j2 hv)]
      refine⟨_,rfl,n.own,hg' 2 _ rfl,?_⟩
      unfold kJ
      exact fin _ (by simp[hx',hv])
     .rw[ma (j2 hv)]
      unfold kJ
      exact fin _ (by simp[hv])
    | false=>
     rw[ma y0]
     have hx':¬ (L p=[47]/\n.data=[]):=fun h=>by have:=hx.2 h;cases this
     unfold xI
     rw[ma y0]
     unfold kJ
     exact fin _ ⟨fun h=>(by cases h),fun h=>mu ⟨h.1,h.2.1⟩ hx'⟩
   by_cases cr:S (L p)=(⟨#[47]⟩:ByteArray)
   .rw[mc cr]
    have cr':L p=[47]:=ab6.1 cr
    refine⟨_,rfl,ds',hg' 4 _ rfl,?_⟩
    refine j10 _ ?_
    rw[dlen']
    simp only[mP,cr',true_and]
    constructor
    .intro h;exact mO z7
    .intro h;rw[h];try rfl
   .rw[ma cr]
    have cr':¬ L p=[47]:=fun h=>cr (ab6.2 h)
    exact j10 _ ⟨fun h=>(by cases h),fun h=>mu h.1 cr'⟩
  .rw[ma cl]
   have cl':L last≠[]:=fun h=>cl (yI h)
   rw[ma cl']at hlay
   have j27no:∀ x98,lay st (L last) (L p) n=none->vf B ro (some ⟨T,0,none⟩) p (some ⟨b,0,none⟩) x98 Q true I:=fun x98 hl=>by
    unfold vf
    rw[mc rfl]
    exact hno hl tag I (zU.refl hs)
   have look:∀ u:Str,(qv (L p)=none->lay st (L last) (L p) n=none)->(qv (L p)≠some u->st.lookup u=none)->(qv (L p)=some u\/qv (L p)=none)->
     awp prog ro (Instr.lookup 237 (.map (some M)) (.string (S u)) false) (fun v I=>
      (∃(x98_26:Option Addr),v= .pointer x98_26/\
       if x98_26=none then
       vf B ro (some ⟨T,0,none⟩) p (some ⟨b,0,none⟩) x98_26 Q true I
       else
       ∃p103_34:Addr,x98_26=some p103_34/\
       ∃(x106_35:Int),qa ro I (p103_34.add 2)=some (.int .i64 x106_35)/\
       vf B ro (some ⟨T,0,none⟩) p (some ⟨b,0,none⟩) x98_26 Q (!(decide (x106_35=0))) I)) I:=fun u hnp hnl hor=>by
    refine jW h.map hs u126 u9 ahZ ?_
    rcases abR st bs u h.len with⟨a,e⟩ | ⟨i,b',m,a1,a2,a3,e⟩
    .rw[e]
     refine⟨none,rfl,?_⟩
     rw[mc rfl]
     refine j27no none ?_
     rcases hor with hp | hp
     .rw[hlay,hp];simp only;rw[a]
     .exact hnp hp
    .rw[e]
     refine⟨some ⟨b',0,none⟩,rfl,?_⟩
     rw[ma z8]
     have hp:qv (L p)=some u:=nv fun hc=>by rw[hnl hc]at a3;cases a3
     obtain⟨dm,hm1,hm2⟩:=h.nodes i b' _ a1 a2
     obtain⟨pm,hpm,hgm⟩:=hm1.ptr hs z8
     cases hpm
     refine⟨_,rfl,m.own,hgm 2 _ rfl,?_⟩
     by_cases co:m.own=0
     .rw[show(!decide (m.own=0))=false from by simp[co]]
      have hl:lay st (L last) (L p) n=some (wv st u ag6++[(L p,n)]):=by rw[hlay,hp];simp only;rw[a3];simp only;rw[ma (j2 co)]
      unfold vf
      rw[ma y0]
      refine⟨_,rfl,m.kids,hgm 3 _ rfl,_,rfl,?_⟩
      refine hm1.st (i:=3) hs rfl z8 rfl fun I1 st1 r1=>?_
      have hA1:=h.write (n':=ag6 m) hr hr6 a1 a2 st1 ⟨dm,r1,hm2.keep st1 (by simp<;>omega)⟩
      rw[<-ahY h.keys a2 ag6]at hA1
      have hbb:b≠b':=fun e=>hnb (by rw[e];exact mU a1)
      have hnk:=hn.keep st1 (by simp<;>omega) (by simp<;>omega)
      refine⟨_,rfl,_,Row.cell1 hA1.cell st1.sep,?_⟩
      rw[<-S_L p]
      refine ab8 hA1.map st1.sep u126 u9 fun I2 st2 m2=>?_
      have hq1:(wv st u ag6).lookup (L p)=none:=by
       rw[zx];split
       .rw[hq];try rfl
       .exact hq
      have hA2:=hA1.add2 hr hr6 hq1 hnb st2 (hnk.keep st2 (by simp<;>omega) (by simp<;>omega)) m2
      exact hyes _ hl tag I2 ((st1.c (by simp<;>omega)).trans (st2.c (by simp<;>omega))) ⟨_,hA2,fun x hx=>by simpa using hx⟩
     .rw[show(!decide (m.own=0))=true from by simp[co]]
      exact j27no _ (by rw[hlay,hp];simp only;rw[a3];simp only;rw[mc co])
   refine Pa.aeT g (fun hpn=>?_) (fun u hu=>?_)
   .refine⟨_,rfl,_,Row.cell1 h.cell hs,?_⟩
    refine look [] (fun hp=>by rw[hlay,hp]) (fun _=>?_) (.inr hpn)
    cases e:st.lookup []with
    | none=>rfl
    | some m=>exact mu rfl (hne _ ((qO h.keys).1 e))
   .refine⟨_,rfl,_,Row.cell1 h.cell hs,?_⟩
    exact look u (fun hp=>by rw[hu]at hp;cases hp) (fun hc=>mu hu hc) (.inl hu)
 by_cases c4:n.own≠0
 .rw[mc (j2 c4)]
  refine⟨_,rfl,n.ctr,hg 1 _ rfl,?_⟩
  unfold xK
  by_cases c5:0<n.ctr
  .rw[show decide (0<n.ctr)=true from by simpa using c5]
   exact refused (.inr (.inr (.inr (.inr ⟨c4,c5⟩))))
  .rw[show decide (0<n.ctr)=false from by simpa using c5]
   refine good ?_
   rintro(h | h | h | h | h)
   .rw[hps]at h;cases h
   .exact hgt h
   .exact c2 h
   .exact c3 h
   .exact c5 h.2
 .rw[ma (j2 c4)]
  unfold xK
  refine good ?_
  rintro(h | h | h | h | h)
  .rw[hps]at h;cases h
  .exact hgt h
  .exact c2 h
  .exact c3 h
  .exact c4 h.1
theorem qV.keepS(h:qV tag I r T st)(k:StepS C ro tag I tag' I')(hr:r%64∉C:=by decide)(h6:6∉C:=by decide):qV tag' I' r T st:=by
 obtain⟨R,h1,h2⟩:=k
 exact h.keep h2 fun x hx=>⟨fun e=>hr (by rw[<-e];exact h1 x hx),fun e=>h6 (by have:=h1 x hx;rw[e]at this;exact this)⟩
theorem qU.fresh_b{b:Nat}(h:qU tag I r T M bs st)(hb:I b=none):b∉bs:=fun hm'=>by
 obtain⟨i,hi,e⟩:=mZ hm'
 have hb':bs[i]?=some b:=by rw[md hi,e]
 have hil:i<st.length:=by rw[<-h.len];exact hi
 obtain⟨s,hn,_⟩:=h.nodes i b _ hb' (md hil)
 obtain⟨_,o,ho⟩:=hn.tagOf
 rw[hb]at ho;cases ho
theorem anf{x:Rd}(h:(ke x).2.err=0):(ke x).2.rest.length<x.rest.length:=by
 unfold ke at h⊢
 simp only at h⊢
 have h4:=ah3 h
 have h3:=ah3 h4
 have h2:=ah3 h3
 have h1:=arf h2
 have e1:=(akn (r:=x) h1).2
 have e2:=(akn (r:=(wi x).2) h2).2
 have e3:=(afE (r:=(wi (wi x).2).2) h3).2
 have e4:=(afE (r:=(qL (wi (wi x).2).2).2) h4).2
 have e5:=(afE (r:=(qL (qL (wi (wi x).2).2).2).2) h).2
 have l1:=mh List.length e1
 have l2:=mh List.length e2
 have l3:=mh List.length e3
 have l4:=mh List.length e4
 have l5:=mh List.length e5
 simp only[mW,pQ]at l1 l2 l3 l4 l5
 have:=nz.2 (alY (wi x).1.length)
 omega
theorem avY:∀ (st:St) (bs:List Nat) (i:Nat) (p:Str×Nd) (b:Nat),st[i]?=some p->bs[i]?=some b->(kv st bs)[i]?=some (p.1,ptr b):=by
 intro st
 induction st with
 | nil=>intro bs i p b h;cases h
 | cons q st ih=>
  intro bs i p b h hb
  cases bs with
  | nil=>cases hb
  | cons c bs=>
   obtain⟨q,m⟩:=q
   cases i with
   | zero=>cases h;cases hb;rfl
   | succ i=>unfold kv;simpa using ih bs i p b (j2 h) (j2 hb)
theorem aoA(hr:r<64)(hr0:r≠0)(hr6:r≠6)(h:qU tag I r T M bs st)(hs:SL.Sep ro I)
  (hno:(st.all fun p=>decide (p.2.kids<=p.2.ctr))=false->∀ tag' I',qd [0] ro tag I tag' I'->Q none 13 I')
  (hyes:(st.all fun p=>decide (p.2.kids<=p.2.ctr))=true->∀ tag' I',qd [0] ro tag I tag' I'->qU tag' I' r T M bs st->Q (some ⟨T,0,none⟩) 0 I'):uC B ro T Q I:=by
 unfold uC
 refine⟨_,Row.cell1 h.cell hs,?_⟩
 refine am9 u126 h.map hs fun es clock x hM hes hbn hro hx=>?_
 refine⟨_,rfl,?_⟩
 have hxM:x≠M:=fun e=>by rw[e,hM]at hx;cases hx
 have hlen:es.toList.length=st.length:=by
  have:=mh List.length hes
  simp only[mi]at this
  rw[this,amB st bs h.len]
 suffices∀(m:Nat) (seen:Array Nat) (tag1:Nat->Nat) (I1:AH),ale es seen=m->qd [0] ro tag I tag1 I1->tag1 x=0->I1 x=some (.mapIter (some M) clock seen clock)->I1 M=some (.map es clock)->qU tag1 I1 r T M bs st->
   (∀(i:Nat) (e:MapEntry) (p:Str×Nd),es.toList[i]?=some e->st[i]?=some p->seen.contains e.born=true->p.2.kids<=p.2.ctr)->lfpD (abA B ro ⟨x,0,none⟩ T Q) () I1 from by
  have st1:qd [0] ro tag I (setTag tag x 0) (upd I x (.mapIter (some M) clock #[] clock)):=qd.fresh hs hro hx
  exact this _ #[] _ _ rfl st1 (by simp[setTag]) (qC _ _ _) (by rw[pJ _ _ hxM.symm];exact hM) (h.keep st1 j0) (fun i e p _ _ hc=>by simp at hc)
 intro m
 induction m using Nat.strongRecOn with
 | ind m ih=>
  intro seen tag1 I1 hm hst htx hit hmp hA hseen
  have hs1:=hst.sep
  refine lfpD.intro ?_
  unfold abA
  refine ad4 hit hmp hs1 hbn (fun hall=>?_) fun e he hne=>?_
  .refine .inl ⟨rfl,?_⟩
   unfold abz
   refine hyes ?_ tag1 I1 hst hA
   rw[mD]
   intro p hp
   obtain⟨i,hi,rfl⟩:=mZ hp
   have hie:i<es.toList.length:=by omega
   have:=hseen i es.toList[i] st[i] (md hie) (md hi) (hall _ (mG hie))
   simpa using this
  .refine .inr ⟨_,_,rfl,?_⟩
   have st2:qd [0] ro tag1 I1 tag1 (upd I1 x (.mapIter (some M) clock (seen.push e.born) clock)):=kF hs1 htx hit
   have hmp2:upd I1 x (.mapIter (some M) clock (seen.push e.born) clock) M=some (.map es clock):=by rw[pJ _ _ hxM.symm];exact hmp
   refine aiG (qC _ _ _) hmp2 st2.sep hbn he ?_
   obtain⟨i,hi,rfl⟩:=mZ he
   have hil:i<st.length:=by omega
   have hib:i<bs.length:=by rw[h.len];exact hil
   have hval:uM es.toList[i]=afx (st[i].1,ptr bs[i]):=by
    have h1:(es.toList.map uM)[i]?=some (uM es.toList[i]):=by rw[mg,md hi];try rfl
    rw[hes,mg,avY st bs i _ _ (md hil) (md hib)]at h1
    exact(mA h1).symm
   have hv:es.toList[i].val=ptr bs[i]:=mh Prod.snd hval
   rw[hv]
   refine⟨es.toList[i].key,some ⟨bs[i],0,none⟩,rfl,?_⟩
   have hA2:=hA.keep st2 j0
   obtain⟨ds,hn1,_⟩:=hA2.nodes i bs[i] st[i] (md hib) (md hil)
   obtain⟨q,hq,hg⟩:=hn1.ptr st2.sep z8
   cases hq
   refine⟨_,rfl,_,rfl,_,hg 1 _ rfl,_,hg 3 _ rfl,?_⟩
   by_cases hc:st[i].2.ctr<st[i].2.kids
   .rw[mc hc]
    refine hno ?_ tag1 _ (hst.trans st2)
    rw[<-nM,mD]
    intro hall
    have:=hall st[i] (mG hil)
    simp at this;omega
   .rw[ma hc]
    refine ih (ale es (seen.push es.toList[i].born)) (by rw[<-hm];exact ap1 he hne) _ tag1 _ rfl (hst.trans st2) htx (qC _ _ _) hmp2 hA2 fun j e' p hj hp hcont=>?_
    rw[Array.contains_push]at hcont
    by_cases hb:e'.born=es.toList[i].born
    .have hji:j=i:=by
      have h1:(es.toList.map (·.born))[j]?=some es.toList[i].born:=by rw[mg,hj,<-hb];try rfl
      have h2:(es.toList.map (·.born))[i]?=some es.toList[i].born:=by rw[mg,md hi];try rfl
      exact apd hbn.nd h1 h2
     subst hji
     rw[md hil]at hp
     cases hp
     omega
    .refine hseen j e' p hj hp ?_
     cases h1:seen.contains e'.born with
     | true=>rfl
     | false=>
      rw[h1,Bool.false_or]at hcont
      exact mu (eq_of_beq hcont) hb
theorem amL{a0:Sl}(g:wW ro)(hr:r<64)(hr6:r≠6)(hr0:r≠0)(hr3:r≠31)(h:SL.wy ro I a0 (b.map vU))(hl:b.length<=140737488355328)
  (hno:dec b=none->∀ tag' I',StepS [r,31,0] ro tag I tag' I'->Q none 13 I')
  (hyes:∀ st,dec b=some st->∀ T tag' I',StepS [r,31,0] ro tag I tag' I'->qV tag' I' r T st->Q (some ⟨T,0,none⟩) 0 I'):aca B ro a0 I Q:=by
 refine alc fun hs=>?_
 unfold aeq
 refine aqV (tag:=tag) (r+64) hs fun M tag1 I1 st1 m1=>?_
 refine qh (tag:=tag1) r (st1 []).sep fun T tag2 I2 st2 r2=>?_
 have m2:=m1.keep (st2 [])
 refine ajo (tag:=tag2) (r:=31) ((h.step (st1 [])).step (st2 [])) (st2 []).sep hl fun A tag3 I3 st3 rd3=>?_
 have hA3:qU tag3 I3 r T M [] []:=⟨z8,rfl,z8,r2.keep (st3 []),m2.keep (st3 []),fun i b p hb=>by cases hb⟩
 obtain⟨R0,hR⟩:∃ R0,ajh (b.length+1) ⟨b,0⟩ [] []=R0:=⟨_,rfl⟩
 have hdb0:dec b=R0.bind fun st=>if st.all fun p=>decide (p.2.kids<=p.2.ctr)then some st else none:=by unfold dec;rw[hR];cases R0<;>rfl
 suffices∀(f:Nat) (x:Rd) (st:St) (bs:List Nat) (last:ByteArray) (tag4:Nat->Nat) (I4:AH),ajh f x st (L last)=R0->x.rest.length<f->x.err=0->(∀y∈st,y.1<=L last)->(∀y∈st,y.1≠[])->
   StepS [r,31,0] ro tag I tag4 I4->qU tag4 I4 r T M bs st->jZ tag4 I4 31 A x->lfpD (aaR B ro T (some ⟨A,0,none⟩) Q) last I4 from
  this (b.length+1) ⟨b,0⟩ [] [] ⟨#[]⟩ tag3 I3 hR z8 rfl (fun _ h=>by cases h) (fun _ h=>by cases h) (((st1 []).s z8).trans (((st2 []).s z8).trans ((st3 []).s z8))) hA3 rd3
 intro f
 induction f with
 | zero=>intro x st bs last tag4 I4 _ hlt;omega
 | succ f ih=>
  intro x st bs last tag4 I4 hdec hlt herr hk hne hst hA hrd
  have hs4:=hst.sep
  unfold ajh at hdec
  have hdb:=hdb0
  refine lfpD.intro ?_
  unfold aaR
  refine aps hrd hs4 ?_
  have h31:(31:Nat)≠6:=by decide
  by_cases hend:x.rest=[]/\L last≠[]
  .rw[ma (by
    rintro(h | h)
    .rw[hend.1]at h;simp at h
    .exact hend.2 (by rw[h];try rfl))]
   rw[mc hend]at hdec
   rw[<-hdec]at hdb
   simp only[Option.bind_some]at hdb
   refine aoA hr hr0 hr6 hA hs4 (fun hc tag5 I5 st5=>?_) fun hc tag5 I5 st5 hA5=>?_
   .exact hno (by rw[hdb,ma (by rw[hc];simp)]) tag5 I5 (hst.trans (st5.s z8))
   .exact hyes st (by rw[hdb,mc hc]) T tag5 I5 (hst.trans (st5.s z8)) ⟨M,bs,hA5⟩
  .rw[ma hend]at hdec
   rw[mc (by
    by_cases h:L last=[]
    .exact .inr (yI h)
    .refine .inl ?_
     have:x.rest≠[]:=fun e=>hend ⟨e,h⟩
     have:=nz.2 this
     omega)]
   refine agG hrd h31 hs4 fun tag5 I5 st5 rd5=>?_
   refine ajp rd5 h31 st5.sep fun ds tag6 I6 st6 r6 rd6=>?_
   have h431:∀ x∈[31],x%64≠r%64/\x≠6:=by simp;omega
   have hA6:=(hA.keep st5 h431).keep st6 h431
   refine agA (tag:=tag6) (fun b=>r+64*(b+2)) st6.sep fun c tag7 I7 hro7 hc7 st7 r7=>?_
   have hnb:=hA6.fresh_b hc7
   have hA7:=hA6.keep (st7 [])
   have rd7:=rd6.keep (st7 [])
   have hr67:=r6.keep (st7 [])
   refine km rd7 h31 (st7 []).sep fun I8 st8 rd8=>?_
   refine km rd8 h31 st8.sep fun I9 st9 rd9=>?_
   refine km rd9 h31 st9.sep fun Ia sta rda=>?_
   have k31:∀ c:Nat,r+64*(c+2)∉[31]:=fun c=>by simp;omega
   have rna:=((r7.keep st8 (k31 c)).keep st9 (k31 c)).keep sta (k31 c)
   have hAa:=((hA7.keep st8 h431).keep st9 h431).keep sta h431
   have hda:=((hr67.keep st8).keep st9).keep sta
   refine rna.st (i:=0) sta.sep rfl z8 rfl fun Ib stb rb=>?_
   refine rb.st (i:=1) stb.sep rfl z8 rfl fun Ic stc rc=>?_
   refine rc.st (i:=2) stc.sep rfl z8 rfl fun Id std rdd=>?_
   have stbd:=stb.trans (stc.trans std)
   have kc31:(31:Nat)∉[r+64*(c+2)]:=by simp;omega
   have kc6:(6:Nat)∉[r+64*(c+2)]:=by simp;omega
   have rdD:=rda.keep stbd kc31 kc6
   have hAd:qU tag7 Id r T M bs st:=by
    refine⟨hAa.keys,hAa.len,hAa.nd,hAa.cell.keep stbd,hAa.map.keep stbd j0,fun i b p hb hp=>?_⟩
    refine(hAa.nodes i b p hb hp).keep stbd ?_ kc6
    simp
    intro e
    have:b=c:=by omega
    subst this
    exact hnb (mU hb)
   have hnode:acK tag7 Id r c (ke x).1.2:=⟨ds,rdd,hda.keep stbd kc6⟩
   have stD:StepS [r,31,0] ro tag I tag7 Id:=hst.trans ((st5.s z8).trans ((st6.s z8).trans (((st7 []).s z8).trans ((st8.s z8).trans ((st9.s z8).trans ((sta.s z8).trans (stbd.s j0)))))))
   refine apt rdD std.sep ?_
   by_cases he:(ke x).2.err=0
   .rw[ma (by simpa [ke]using he)]
    rw[ma (j2 he)]at hdec
    have hp:L (S (wi x).1)=(ke x).1.1:=by rw[L_S];try rfl
    refine au9 g hr hr6 hr0 hAd hnode hnb hk hne (fun hlay tag8 Ie ste=>?_) fun st' hlay tag8 Ie ste ⟨bs',hAe,hbs⟩=>?_
    .rw[hp]at hlay
     rw[hlay]at hdec
     simp only at hdec
     rw[<-hdec]at hdb
     unfold xz
     rw[mc y0]
     exact hno hdb tag8 Ie (stD.trans (ste.s z8))
    .rw[hp]at hlay
     rw[hlay]at hdec
     simp only at hdec
     unfold xz
     rw[ma y0]
     have hsh:=anf he
     have hkeys:(∀y∈st',y.1<=(ke x).1.1)/\∀ y∈st',y.1≠[]:=by
      unfold lay at hlay
      by_cases hbad:parts (ke x).1.1=none\/(ke x).1.1<=L last\/256<(ke x).1.2.data.length\/10000000000<(ke x).1.2.ctr\/((ke x).1.2.own≠0/\0<(ke x).1.2.ctr)
      .rw[mc hbad]at hlay;cases hlay
      rw[ma hbad]at hlay
      simp only[not_or]at hbad
      have hpn:(ke x).1.1≠[]:=by
       cases e:parts (ke x).1.1 with
       | none=>exact mu e hbad.1
       | some ps=>exact ajQ e
      have hgt:=arh (ajO.1 hbad.2.1)
      have base:∀ y∈st,y.1<=(ke x).1.1:=fun y hy=>List.le_trans (hk y hy) hgt
      by_cases hl0:L last=[]
      .rw[mc hl0]at hlay
       split at hlay
       .cases hlay
        refine⟨fun y hy=>?_,fun y hy=>?_⟩
        .rcases mt.1 hy with h | h
         .exact base y h
         .rw[mo.1 h];exact List.le_refl _
        .rcases mt.1 hy with h | h
         .exact hne y h
         .rw[mo.1 h];exact hpn
       .cases hlay
      .rw[ma hl0]at hlay
       have key:∀ u,st'=wv st u ag6++[((ke x).1.1,(ke x).1.2)]->(∀y∈st',y.1<=(ke x).1.1)/\∀ y∈st',y.1≠[]:=fun u he=>by
        have hm:∀ y∈wv st u ag6,∃z∈st,y.1=z.1:=fun y hy=>by
         unfold wv at hy
         obtain⟨z,hz,rfl⟩:=mC.1 hy
         exact⟨z,hz,by split<;>rfl⟩
        rw[he]
        refine⟨fun y hy=>?_,fun y hy=>?_⟩
        .rcases mt.1 hy with h | h
         .obtain⟨z,hz,e⟩:=hm y h;rw[e];exact base z hz
         .rw[mo.1 h];exact List.le_refl _
        .rcases mt.1 hy with h | h
         .obtain⟨z,hz,e⟩:=hm y h;rw[e];exact hne z hz
         .rw[mo.1 h];exact hpn
       cases hpp:qv (ke x).1.1 with
       | none=>rw[hpp]at hlay;cases hlay
       | some u=>
        rw[hpp]at hlay
        simp only at hlay
        cases hlk:st.lookup u with
        | none=>rw[hlk]at hlay;cases hlay
        | some m=>
         rw[hlk]at hlay
         simp only at hlay
         split at hlay
         .cases hlay
         .exact key u (mA hlay).symm
     refine ih (ke x).2 st' bs' (S (wi x).1) tag8 Ie ?_ z7 he ?_ hkeys.2 (stD.trans (ste.s z8)) hAe (rdD.keepC ste z7 hr6)
     .rw[hp];exact hdec
     .rw[hp];exact hkeys.1
   .rw[mc (by simpa [ke]using he)]
    rw[mc (j2 he)]at hdec
    rw[<-hdec]at hdb
    unfold xz
    rw[mc y0]
    exact hno hdb tag7 Id stD
end Zt
namespace Zt
open Go SL G Pa
variable{B:World}{ro I I':AH}{tag tag':Nat->Nat}
theorem aru{st:St}(hi:Inv st){p:Str}:∀ u n,qv p=some u->st.lookup p=some n->∃ m,st.lookup u=some m:=fun u n hu hn=>by
 have hne:p≠[47]:=fun e=>by rw[e,ag4]at hu;cases hu
 obtain⟨u',m',e1,e2,_⟩:=hi.up _ n hn hne
 rw[hu]at e1;cases e1
 exact⟨m',e2⟩
theorem asK(x:St):(∀p∈x,p.1.length<=128/\p.2.data.length<=256/\yt p.2=true)->(acs x).length<=512*x.length:=by
 induction x with
 | nil=>intro _;simp[acs]
 | cons p x ih=>
  intro h
  have:=ih fun q hq=>h q (by simp[hq])
  obtain⟨h1,h2,h3⟩:=h p z8
  unfold acs at this⊢
  rw[nI,mW,mx]
  unfold yt Wi.qK at h3
  simp only[mw,mP]at h3
  have l1:=(Wi.aaU 8 p.1.length z7).2
  have l2:=(Wi.aaU 8 p.2.data.length z7).2
  have l3:=(Wi.aaU 8 p.2.ver.toNat z7).2
  have l4:=(Wi.aaU 8 p.2.ctr.toNat z7).2
  have l5:=(Wi.aaU 8 p.2.own.toNat z7).2
  have:(ag5 p).length<=512:=by
   unfold ag5 Wi.pQ
   simp only[mW]
   omega
  omega
theorem anY{b:Nat}{st:St}(h:wm b st)(hb:b<=4398046511103):(al1 st).length<=512*st.length:=by
 have h3:=h.inv3 z7
 rw[apn h3,<-(vC st).length_eq]
 refine asK _ fun p hp=>?_
 have hp':=(vC st).mem_iff.1 hp
 obtain⟨h1,h2⟩:=h.inv.small p hp'
 exact⟨h1,h2,(h3.nums _ _ ((qO h.inv.keys (k:=p.1) (n:=p.2)).2 hp')).1⟩
end Zt
namespace SL
open Go
variable{P:Program}{B:World}{ro I I':AH}{tag tag':Nat->Nat}
theorem al3(zv:Value)(n:Nat):(Builtin.zeroCells #[zv] n).toList=List.replicate n zv:=by
 apply nA
 intro i
 simp only[Builtin.zeroCells,Array.getElem?_toList,Array.getElem?_map,Array.size,mx,nE,mV]
 rcases mL i n with h | h
 .rw[Lv,mc h]
  simp[h,Nat.mod_one]
 .rw[Lv,ma z7]
  simp;omega
theorem ang{r e t ty:TypeId}{s:Sl}{l:List Value}{m bytes:Nat}{zv:Value}{Q:Value->AH->Prop}(h:Row tag I r e s l)(hs:Sep ro I)(ht:P.underlying t=some (.slice e))(hz:qo P e zv 1 bytes)(hzc:zv.cells= #[zv])(hv:qf zv=true)
  (hm:m<=l.length) (hQ:∀ I',qd [r] ro tag I tag I'->Row tag I' r e ⟨s.a,m,s.cap⟩ (l.take m)->Q (.tuple #[]) I'):
  awp P ro (Builtin.clear_ #[t] ty #[Sl.v (⟨wt s.a m s.cap 1,s.len - m,s.cap - m⟩:Sl)]) Q I:=by
 have g0:(#[t]:Array TypeId)[0]?=some t:=rfl
 have g1:(#[Value.slice (wt s.a m s.cap 1) (s.len - m) (s.cap - m)]:Array Value)[0]?=some (Value.slice (wt s.a m s.cap 1) (s.len - m) (s.cap - m)):=rfl
 have hl:=h.len
 unfold Builtin.clear_
 simp only[Sl.v,qx,qN,g0,g1]
 rw[qz ht]
 have done:Q (.tuple #[]) I\/0<s.len - m:=by
  rcases nc (s.len - m)with h0 | h0
  .refine .inl (hQ I (qd.refl hs) ?_)
   exact h.take hm
  .exact .inr h0
 rcases nc (s.len - m)with h0 | h0
 .have hd:=done.resolve_right z7
  rw[h0]
  cases hc:wt s.a m s.cap 1 with
  | none=>exact hd
  | some a=>exact hd
 .rcases h with⟨rfl,rfl⟩ | ⟨b,cs,ha,htg,hbk,hln,hcp,hle,hg⟩
  .simp at h0
  .have hcut:wt s.a m s.cap 1=some ⟨b,m,none⟩:=by
    unfold wt
    rw[ma z7,ha]
    simp[vy]
   rw[hcut]
   obtain⟨k,hk⟩:∃ k,s.len - m=k+1:=⟨s.len - m - 1,z7⟩
   rw[hk]
   simp only
   rw[abI hz,hzc,al3]
   refine(vQ _ _).2 ?_
   refine jU (List.replicate (k+1) zv) 0 I (afL (List.replicate (k+1) zv) cs 0 I hbk j0 (fun v hvm=>by rw[(List.mem_replicate.1 hvm).2];exact hv) fun cs' c1 c2 c3=>?_)
   refine hQ _ (kF hs htg hbk) ?_
   refine .inr ⟨b,cs',ha,htg,qC _ _ _,j0,by rw[c1];exact hcp,j0,fun i hi=>?_⟩
   simp at hi
   rw[c2 i z7,Lb,mc z7]
   exact hg i z7
end SL
namespace Zt
open Go SL G Pa
variable{B:World}{ro I I':AH}{tag tag':Nat->Nat}
theorem awk:prog.underlying 27=some (.slice 9):=y1
theorem awl:qo prog 9 (.string ByteArray.empty) 1 16:=qo.of y1
theorem ap9{q:Nat}{s:Sl}{l:List Str}{f:Str->Bool}{fv:Value}{Q:Sl->AH->Prop}(h:Row tag I q 9 s (l.map Pa.vS))(hs:SL.Sep ro I)(hl:l.length<4611686018427387904)
  (hcall:∀ k∈l,∀I',qd [q] ro tag I tag I'->∀ K:Value->AH->Prop,K (.bool (f k)) I'->adQ prog B ro fv [.string (S k)] I' K)
  (hQ:∀ s' I',qd [q] ro tag I tag I'->Row tag I' q 9 s' ((l.filter fun k=> !f k).map Pa.vS)->Q s' I'):xr B ro s fv I Q:=by
 refine yV fun _=>?_
 unfold vJ
 refine pt fun _=>?_
 unfold vV
 have hln:s.len=l.length:=by rw[h.len,mi]
 have second:∀ (m j w:Nat) (cur:List Str) (I1:AH),j+m=l.length->w<=j->cur.length=l.length->cur.take w=(l.take j).filter (fun k=> !f k)->(∀i,j<=i->cur[i]?=l[i]?)->qd [q] ro tag I tag I1->Row tag I1 q 9 s (cur.map Pa.vS)->
   lfpD (wb B ro s fv Q) ((w:Int),(j:Int)) I1:=by
  intro m
  induction m with
  | zero=>
   intro j w cur I1 hj hw hcl htk hrest st1 r1
   refine lfpD.intro ?_
   unfold wb
   simp only
   rw[ma z7]
   unfold vu
   have hcap:=r1.capAt
   rw[mi]at hcap
   refine⟨⟨trivial,z7,by simp only[cutHi];omega⟩,?_⟩
   rw[mr]
   refine ang r1 st1.sep awk awl rfl rfl j0 fun I2 st2 r2=>?_
   refine⟨rfl,⟨⟨z7,z7⟩,trivial⟩,?_⟩
   rw[pu,Nat.sub_zero,Nat.sub_zero]
   refine hQ _ I2 (st1.trans st2) ?_
   rw[<-List.map_take,htk,mH z7]at r2
   exact r2
  | succ m ih=>
   intro j w cur I1 hj hw hcl htk hrest st1 r1
   have hjl:j<l.length:=by omega
   have hjc:j<cur.length:=by omega
   have hcj:cur[j]=l[j]:=by
    have:=hrest j (mK _)
    rw[md hjc,md hjl]at this
    exact mA this
   obtain⟨p,hp,_,hget⟩:=Row.sget r1 st1.sep hjc
   refine lfpD.intro ?_
   unfold wb
   simp only
   rw[mc z7]
   refine⟨p,hp,z7,z7,S cur[j],by rw[mr];exact hget j hjc,?_⟩
   rw[hcj]
   refine hcall _ (mG hjl) I1 st1 _ ⟨f l[j],rfl,?_⟩
   have etk:(l.take (j+1)).filter (fun k=> !f k)=(l.take j).filter (fun k=> !f k)++if f l[j]then []else [l[j]]:=by
    rw[mN,md hjl,List.filter_append]
    simp only[Option.toList_some,List.filter_cons,List.filter_nil]
    cases f l[j]<;>rfl
   cases hf:f l[j]with
   | true=>
    rw[ma z8]
    unfold wG
    rw[Pa.inc j z7]
    exact ih (j+1) w cur I1 z7 z7 hcl (by rw[etk,hf];simpa using htk) (fun i hi=>hrest i z7) st1 r1
   | false=>
    rw[mc z8]
    refine⟨p,hp,z7,z7,?_⟩
    rw[mr]
    refine r1.st (i:=w) st1.sep hp j0 rfl fun I2 st2 r2=>?_
    unfold wG
    rw[Pa.inc j z7,Pa.inc w z7]
    refine ih (j+1) (w+1) (cur.set w l[j]) I2 z7 z7 (j2 hcl) ?_ (fun i hi=>?_) (st1.trans st2) (by rw[List.map_set];exact r2)
    .rw[etk,hf,mN,List.take_set_of_le (mK _),htk,List.getElem?_set_self z7]
     try rfl
    .rw[List.getElem?_set_ne z7];exact hrest i z7
 suffices∀m j,j+m=l.length->(∀k∈l.take j,f k=false)->lfpD (qS B ro s fv fun x10 I=>if x10=(-1)then Q s I else lfpD (wb B ro s fv Q) (x10,i64.wrap (x10+1)) I) (j:Int) I from
  this _ 0 (ml _) z8
 intro m
 induction m with
 | zero=>
  intro j hj hall
  refine lfpD.intro ?_
  unfold qS
  rw[ma z7]
  unfold zF
  show(if(-1:Int)= -1 then _ else _)
  rw[mc rfl]
  rw[mH z7]at hall
  refine hQ s I (qd.refl hs) ?_
  rw[List.filter_eq_self.2 fun k hk=>by rw[hall k hk];try rfl]
  exact h
 | succ m ih=>
  intro j hj hall
  have hjl:j<l.length:=by omega
  obtain⟨p,hpp,_,hget⟩:=Row.sget h hs hjl
  refine lfpD.intro ?_
  unfold qS
  rw[mc z7]
  refine⟨p,hpp,z7,z7,_,hget j hjl,?_⟩
  refine hcall _ (mG hjl) I (qd.refl hs) _ ⟨f l[j],rfl,?_⟩
  cases hf:f l[j]with
  | true=>
   rw[mc rfl]
   show(if((j:Int))= -1 then _ else _)
   rw[ma z7,Pa.inc j z7]
   have e1:(l.take j).filter (fun k=> !f k)=l.take j:=List.filter_eq_self.2 fun k hk=>by rw[hall k hk];try rfl
   refine second m (j+1) j l I z7 z7 rfl ?_ (fun _ _=>rfl) (qd.refl hs) h
   rw[mN,md hjl,List.filter_append,e1]
   simp[hf]
  | false=>
   rw[ma y0,Pa.inc j z7]
   refine ih (j+1) z7 fun k hk=>?_
   rw[mN,md hjl]at hk
   rcases mt.1 hk with h | h
   .exact hall k h
   .have h':k=l[j]:=by simpa using h
    rw[h'];exact hf
def aes(u k:Str):Bool:=match ace u k with
 | some b=>b
 | none=>false
theorem aoB{r T M q:Nat}{bs:List Nat}{st:St}{u:ByteArray}{Q:Sl->Int->AH->Prop}(g:wW ro)(hr:r<64)(hr0:r≠0)(hq0:q≠0)(h:qU tag I r T M bs st)(hl:∀ p∈st,∃ps,parts p.1=some ps)(hn:st.length<=4398046511104)
  (hbad:parts (L u)=none->∀ tag' I',(∀R,qd R ro tag I tag' I')->Q ⟨none,0,0⟩ 20 I')
  (hQ:∀ ps,parts (L u)=some ps->∀ (s:Sl) (tag':Nat->Nat) (I':AH) (ks:List Str),qd [q] ro tag I tag' I'->ks.Perm (st.map (·.1))->ks.Pairwise (· <= ·)->Row tag' I' q 9 s ((ks.filter fun k=>aes (L u) k).map Pa.vS)->Q s 0 I'):yo B ro (some ⟨T,0,none⟩) u I Q:=by
 refine aej fun hs=>?_
 unfold uB
 refine qh (tag:=tag) 0 hs fun x tag1 I1 st1 r1=>?_
 have hA:=h.keep (st1 [])
 refine⟨_,Row.cell1 r1 (st1 []).sep,?_⟩
 refine pN g ?_
 by_cases hc:Pa.chk (L u)=0
 .rw[ma (j2 hc)]
  obtain⟨ps,hps⟩:=vB.1 hc
  have h128:∀ p∈st,p.1.length<=128:=fun p hp=>by
   obtain⟨ps,e⟩:=hl p hp
   obtain⟨e1,e2⟩:=qW.1 e
   rw[e1];exact e2.len
  refine aga (q:=q) hA h128 hn fun s tag2 I2 ks st2 hp hsrt hr2=>?_
  have hkl:ks.length=st.length:=by rw[hp.length_eq,mi]
  have r12:=r1.keep (st2 [])
  refine ap9 (f:=fun k=> !aes (L u) k) hr2 (st2 []).sep z7 (fun k hk I3 st3 K hK=>?_) fun s' I3 st3 r3=>?_
  .have hx:=Row.cell1 (r12.keep st3 (by simpa using fun e=>hq0 e.symm)) st3.sep
   refine ark ?_
   refine acJ fun _=>?_
   unfold yJ
   refine⟨_,hx,?_⟩
   obtain⟨y,hy,e⟩:=mC.1 (hp.mem_iff.1 hk)
   obtain⟨qs,hqs⟩:=hl y hy
   rw[e]at hqs
   have hu:∃ b,ace (L u) (L (S k))=some b:=by
    unfold ace
    rw[hps,L_S,hqs]
    exact⟨_,rfl⟩
   obtain⟨b,hb⟩:=hu
   refine anK g (fun hnone=>by rw[hb]at hnone;cases hnone) (fun b' hb'=>?_)
   rw[L_S]at hb'
   unfold aes at hK
   rw[hb']at hK
   exact hK
  .refine hQ ps hps s' tag2 I3 ks ((st1 _).trans ((st2 _).trans st3)) hp hsrt ?_
   simpa using r3
 .rw[mc (j2 hc)]
  have e:parts (L u)=none:=by
   cases h:parts (L u)with
   | none=>rfl
   | some ps=>exact mu (vB.2 ⟨ps,h⟩) hc
  have:Pa.chk (L u)=20:=by unfold Pa.chk;rw[e];try rfl
  rw[this]
  exact hbad e tag1 I1 st1
end Zt
namespace Zt
open Go SL Pa
def qu(p:Str):Option Str:=match parts p with
 | some (x::_)=>some x
 | _=>none
def uw(h:Str)(p:Str×Nd):Nat:=if qu p.1=some h then p.1.length+p.2.data.length else 0
def zz(st:St)(h:Str):Nat×Nat:=(st.countP fun p=>decide (qu p.1=some h),(st.map (uw h)).sum)
theorem anZ{a b:List Nat}(h:a.Perm b):a.sum=b.sum:=by
 induction h with
 | nil=>rfl
 | cons x _ ih=>simp[ih]
 | swap x y l=>simp;omega
 | trans _ _ h1 h2=>exact h1.trans h2
theorem ah9{a b:St}(h:a.Perm b)(k:Str):zz a k=zz b k:=by
 unfold zz
 rw[h.countP_eq,anZ (h.map (uw k))]
theorem arv{p h:Str}(hp:qu p=some h):h≠[]:=by
 unfold qu at hp
 split at hp
 .rename_i x r e
  cases hp
  obtain⟨_,hg⟩:=qW.1 e
  have:=(aaQ (hg.ok h z8)).1
  intro he;rw[he]at this;simp at this
 .cases hp
theorem agh{k h:Str}(hk:qu k=some h):parts (47::h)=some [h]/\aes (47::h) k=true:=by
 unfold qu at hk
 split at hk
 .rename_i x r e
  cases hk
  obtain⟨hl,hg⟩:=qW.1 e
  have hn:=hg.ok h z8
  have hnl:=aaQ hn
  have hp1:parts (47::h)=some [h]:=qW.2 ⟨by simp[mk],⟨z8,fun y hy=>by rw[mo.1 hy];exact hn,by simp[mk];omega⟩⟩
  refine⟨hp1,?_⟩
  unfold aes ace
  rw[hp1,e]
  simp
 .cases hk
theorem pR{k:Str}{ps:List Str}(h:parts k=some ps):qu k=ps.head?:=by
 unfold qu
 rw[h]
 cases ps<;>rfl
def vo(st:St)(h:Str)(ks:List Str):Nat×Nat:=
 (ks.countP fun k=>decide (qu k=some h),(ks.map fun k=>if qu k=some h then k.length+(match st.lookup k with | some n=>n.data.length | none=>0)else 0).sum)
theorem an0(st:St)(h:Str)(ks:List Str):vo st h (ks.filter fun k=>aes (47::h) k)=vo st h ks:=by
 unfold vo
 congr 1
 .rw[List.countP_filter]
  refine List.countP_congr fun k _=>?_
  simp only[mw,mP]
  exact⟨fun h=>h.1,fun h=>⟨h,(agh h).2⟩⟩
 .induction ks with
  | nil=>rfl
  | cons k ks ih=>
   rw[List.filter_cons]
   by_cases hk:qu k=some h
   .rw[mc (agh hk).2,mF,mF,List.sum_cons,List.sum_cons,ih]
   .split
    .rw[mF,mF,List.sum_cons,List.sum_cons,ih]
    .rw[mF,List.sum_cons,ma hk,ih,ml]
theorem aoC(st:St)(h:Str)(ks:List Str)(hn:parts (47::h)≠some [h]):vo st h ks=(0,0):=by
 have hno:∀ k,qu k≠some h:=fun k hk=>hn (agh hk).1
 unfold vo
 congr 1
 .rw[List.countP_eq_zero]
  intro k _
  simpa using hno k
 .induction ks with
  | nil=>rfl
  | cons k ks ih=>rw[mF,List.sum_cons,ma (hno k),ih]
theorem aia{st:St}(hk:(st.map (·.1)).Nodup)(h:Str):vo st h ((srt st).map (·.1))=zz st h:=by
 rw[<-ah9 (vC st) h]
 have hmem:∀ p∈srt st,st.lookup p.1=some p.2:=fun p hp=>(qO hk).2 ((vC st).mem_iff.1 hp)
 unfold vo zz
 rw[List.countP_map,nP]
 congr 1
 refine mh List.sum (List.map_congr_left fun p hp=>?_)
 simp only[Function.comp_apply,uw]
 rw[hmem p hp]
theorem amM(st:St)(h:Str)(ks:List Str)(hs:∀ k∈ks,k.length<=128)(hd:∀ k n,st.lookup k=some n->n.data.length<=256):(vo st h ks).1<=ks.length/\(vo st h ks).2<=384*ks.length:=by
 refine⟨List.countP_le_length,?_⟩
 unfold vo
 simp only
 induction ks with
 | nil=>simp
 | cons k ks ih=>
  have:=ih fun k hk=>hs k (by simp[hk])
  have h1:=hs k z8
  rw[mF,List.sum_cons,mx]
  have h2:(match st.lookup k with | some n=>n.data.length | none=>0)<=256:=by
   cases e:st.lookup k with
   | none=>simp
   | some n=>exact hd k n e
  split<;>omega
theorem aqa(st:St)(h:Str)(a:List Str)(k:Str):vo st h (a++[k])=if qu k=some h then((vo st h a).1+1,(vo st h a).2+(k.length+(match st.lookup k with | some n=>n.data.length | none=>0)))else vo st h a:=by
 unfold vo
 rw[List.countP_append,mB,List.sum_append]
 by_cases hk:qu k=some h<;>simp[hk]
def acO(st:St)(hs:List Str):Nat×Nat:=hs.foldl (fun a h=>(a.1+(zz st h).1,a.2+(zz st h).2)) (0,0)
theorem an1{st:St}(hi:Inv st)(h:Str):(zz st h).1<=st.length/\(zz st h).2<=384*st.length:=by
 have:=amM st h ((srt st).map (·.1)) (fun k hk=>by
  obtain⟨p,hp,rfl⟩:=mC.1 hk
  exact(hi.small p ((vC st).mem_iff.1 hp)).1) hi.data
 rw[aia hi.keys,mi,(vC st).length_eq]at this
 exact this
structure MOp where
 kind:Int
 path:Str
 data:Str
 ver:Int
 eph:Bool
 seq:Bool
structure um where
 st:St
 res:List (Str×Int)
 eff:List (Int×Str)
def zh(home:Str)(o:MOp):Int:=
 if o.kind<1\/4<o.kind then 80
 else match parts o.path with
  | none=>20
  | some ps=>if ps.head?≠some home\/(ps.length=1/\o.kind<=2)then 82 else 0
def agi(st:St)(p:Str)(v:Int):Int:=match st.lookup p with
 | none=>70
 | some n=>if v≠ -1/\v≠n.ver then 72 else 0
def xu(owner:Int)(st:St)(o:MOp):St×Str×Int×Int:=
 if o.kind=1 then((wo st o.path o.data (if o.eph then owner else 0) o.seq).1,(wo st o.path o.data (if o.eph then owner else 0) o.seq).2.1,0,(wo st o.path o.data (if o.eph then owner else 0) o.seq).2.2)
 else if o.kind=2 then((wq st o.path o.ver).1,[],0,(wq st o.path o.ver).2)
 else if o.kind=3 then((xd st o.path o.data o.ver).1,[],(xd st o.path o.data o.ver).2.1,(xd st o.path o.data o.ver).2.2)
 else(st,[],0,agi st o.path o.ver)
def agH(st:St)(home:Str)(qn qb kind:Int):Bool:=(decide (kind=1) || decide (kind=3)) && (decide (qn<((zz st home).1:Nat)) || decide (qb<((zz st home).2:Nat)))
def doE(home:Str)(owner qn qb:Int)(w:um)(o:MOp):Int×um:=
 if zh home o≠0 then(zh home o,w)
 else if(xu owner w.st o).2.2.2≠0 then((xu owner w.st o).2.2.2,{w with st:=(xu owner w.st o).1})
 else if agH (xu owner w.st o).1 home qn qb o.kind then(81,{w with st:=(xu owner w.st o).1})
 else(0,⟨(xu owner w.st o).1,w.res++[((xu owner w.st o).2.1,(xu owner w.st o).2.2.1)],if o.kind=4 then w.eff else w.eff++[(o.kind,if o.kind=1 then(xu owner w.st o).2.1 else o.path)]⟩)
theorem aib{b:Nat}{owner:Int}{st:St}{o:MOp}(h:wm b st)(hb:b<=4398046511103):wm (b+1) (xu owner st o).1:=by
 unfold xu
 split
 .exact ako h hb
 .split
  .exact akp h hb
  .split
   .exact asH h hb
   .exact h.mono z7
theorem afN{b:Nat}{home:Str}{owner qn qb:Int}{w:um}{o:MOp}(h:wm b w.st)(hb:b<=4398046511103):wm (b+1) (doE home owner qn qb w o).2.st:=by
 unfold doE
 split
 .exact h.mono z7
 .split
  .exact aib h hb
  .split
   .exact aib h hb
   .exact aib h hb
theorem apu{home:Str}{owner qn qb:Int}{w:um}{o:MOp}:(doE home owner qn qb w o).2.res.length<=w.res.length+1/\(doE home owner qn qb w o).2.eff.length<=w.eff.length+1:=by
 unfold doE
 split
 .exact⟨z8,z8⟩
 .split
  .exact⟨z8,z8⟩
  .split
   .exact⟨z8,z8⟩
   .refine⟨z8,?_⟩
    simp only
    split<;>simp