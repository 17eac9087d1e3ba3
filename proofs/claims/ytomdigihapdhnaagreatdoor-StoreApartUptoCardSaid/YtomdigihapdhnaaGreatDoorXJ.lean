import Derived.Sort.Walk0
import Derived.Test.YtomdigihapdhnaaGreatDoorXI
set_option linter.all false
set_option maxRecDepth 99999
set_option maxHeartbeats 0
open Go.IntKind(i64)
open Go.Proofs.Tryz
namespace Go.Proofs.YtomdigihapdhnaaGreatDoor
namespace Wi
open Go SL G Zt
variable{B:ZB}{ro I I':AH}{tag tag':Nat->Nat}
variable{Q:Int->AH->Prop}{R:List Nat}{A q r:Nat}{x:Rd}{a s:Sl}{b l:Str}
def yx(tag:Nat->Nat)(I:AH)(q:Nat)(s:Sl)(l:Str):Prop:=
 (s=⟨none,0,0⟩/\l=[])\/∃ (g:Nat) (cs:Array Value) (k:Nat),s.a=some ⟨g,k,none⟩/\tag g=q/\I g=some (.cells cs 5)/\s.len=l.length/\s.len<=s.cap/\∀ (i:Nat) (c:UInt8),l[i]?=some c->cs[k+i]?=some (vU c)
def yx.len(h:yx tag I q s l):s.len=l.length:=by
 rcases h with⟨rfl,rfl⟩ | ⟨_,_,_,_,_,_,h,_⟩
 .rfl
 .exact h
def yx.cap(h:yx tag I q s l):s.len<=s.cap:=by
 rcases h with⟨rfl,rfl⟩ | ⟨_,_,_,_,_,_,_,h,_⟩
 .exact mR _
 .exact h
def yx.keep(h:yx tag I q s l)(k:qd R ro tag I tag' I')(hr:q∉R:=by simp):yx tag' I' q s l:=by
 rcases h with h | ⟨g,cs,o,ha,ht,hb,hx⟩
 .exact .inl h
 .obtain⟨t,e⟩:=k.keep g _ hb (by rw[ht];exact hr)
  exact .inr ⟨g,cs,o,ha,t.trans ht,e,hx⟩
def yx.of_row(h:Row tag I q 5 s (l.map vU)):yx tag I q s l:=by
 rcases h with⟨rfl,h⟩ | ⟨b,cs,ha,ht,hb,hln,hc,hle,hg⟩
 .exact .inl ⟨rfl,j4 h⟩
 .refine .inr ⟨b,cs,0,ha,ht,hb,by rw[hln,mg],hle,fun i c hi=>?_⟩
  have hil:i<l.length:=by
   rcases mM i l.length with h | h
   .exact h
   .rw[mG h]at hi;cases hi
  rw[ml,hg i (j4 hil),mh,hi];try rfl
def yx.read(h:yx tag I q s l)(hs:SL.Sep ro I):SL.qJ ro I s (l.map vU):=by
 refine⟨by rw[h.len,mg],fun hn=>?_,fun p hp i v hv=>?_⟩
 .rcases h with⟨_,rfl⟩ | ⟨_,_,_,ha,_⟩
  .rfl
  .rw[hn]at ha;cases ha
 .rcases h with⟨rfl,_⟩ | ⟨g,cs,k,ha,ht,hb,hln,hle,hg⟩
  .cases hp
  .rw[hp]at ha;cases ha
   rw[mh]at hv
   obtain⟨c,hc,rfl⟩:=nm.1 hv
   unfold qa rd
   simp only[vq,hs g _ hb,hb,zF]
   exact hg i c hc
def yx.drop{e:Nat}(h:yx tag I q s l)(he:e<=l.length):yx tag I q ⟨wv s.a e s.cap 1,s.len - e,s.cap - e⟩ (l.drop e):=by
 rcases h with⟨rfl,rfl⟩ | ⟨g,cs,k,ha,ht,hb,hln,hle,hg⟩
 .have:e=0:=by simpa using he
  subst this
  exact .inl ⟨by simp[wv],rfl⟩
 .unfold wv
  by_cases hc:s.cap=e
  .rw[mc hc]
   refine .inr ⟨g,cs,k,ha,ht,hb,j2,j2,fun i c hi=>?_⟩
   rw[LI z7]at hi;cases hi
  .rw[ma hc]
   refine .inr ⟨g,cs,k+e,by simp[ha,vq],ht,hb,j2,j2,fun i c hi=>?_⟩
   rw[List.getElem?_drop]at hi
   rw[Nat.add_assoc];exact hg (e+i) c hi
def yx.takeR{n:Nat}(h:yx tag I q s l)(hs:SL.Sep ro I)(hn:n<=l.length):SL.qJ ro I ⟨wv s.a 0 s.cap 1,n - 0,s.cap - 0⟩ ((l.take n).map vU):=by
 have hr:=h.read hs
 rw[pI]
 refine⟨j2,fun ha=>?_,fun p hp i v hv=>?_⟩
 .have:=hr.2.1 ha
  have:l=[]:=by simpa using this
  rw[this];simp
 .refine hr.2.2 p hp i v ?_
  rw[List.map_take,Lj]at hv
  split at hv
  .exact hv
  .cases hv
def ye(tag:Nat->Nat)(I:AH)(r A:Nat)(x:Rd):Prop:=
 ∃s:Sl,Row tag I r 231 ⟨some ⟨A,0,none⟩,2,2⟩ [Sl.v s,Zt.vI x.err]/\yx tag I 6 s x.rest/\x.rest.length<=140737488355328
def ye.keep(h:ye tag I r A x)(k:qd R ro tag I tag' I')(h1:r∉R:=by simp)(h2:6∉R:=by simp):ye tag' I' r A x:=by
 obtain⟨s,a,b,c⟩:=h
 exact⟨s,a.keep k h1,b.keep k h2,c⟩
def ye.keepC{c:Nat}(h:ye tag I r A x)(k:zK c ro tag I tag' I')(hr:r%64≠c:=by decide)(h6:c≠6:=by decide):ye tag' I' r A x:=by
 obtain⟨R,h1,h2⟩:=k
 exact h.keep h2 (fun m=>hr (h1 _ m)) (fun m=>h6 (h1 _ m).symm)
def ajW{Q:ZO->AH->Prop}(h:SL.qJ ro I a (b.map vU))(hs:SL.Sep ro I)(hl:b.length<=140737488355328)(hQ:∀ A tag' I',(∀R,qd R ro tag I tag' I')->ye tag' I' r A ⟨b,0⟩->Q (some ⟨A,0,none⟩) I'):
  aaZ B ro a I Q:=by
 refine akE fun _=>?_
 unfold adI
 refine acg (tag:=tag) h hs j2 (aov _) fun s tag1 I1 st1 r1=>?_
 refine qf (tag:=tag1) r (st1 []).sep fun A tag2 I2 st2 r2=>?_
 exact hQ A tag2 I2 (fun R=>(st1 R).trans (st2 R)) ⟨s,r2,yx.of_row (r1.keep (st2 [])),hl⟩
def aqj(h:ye tag I r A x)(hs:SL.Sep ro I)(hQ:Q (x.rest.length:Nat) I):uH B ro (some ⟨A,0,none⟩) I Q:=by
 refine ajn fun _=>?_
 unfold aco
 obtain⟨s,a,b,c⟩:=h
 obtain⟨p,hp,hg⟩:=a.ptr hs y0
 cases hp
 refine⟨_,rfl,s,hg 0 _ rfl,?_⟩
 rw[b.len];exact hQ
def aqk(h:ye tag I r A x)(hs:SL.Sep ro I)(hQ:Q x.err I):aat B ro (some ⟨A,0,none⟩) I Q:=by
 refine ajT fun _=>?_
 unfold acT
 obtain⟨s,a,b,c⟩:=h
 obtain⟨p,hp,hg⟩:=a.ptr hs y0
 cases hp
 exact⟨_,rfl,x.err,hg 1 _ rfl,hQ⟩
def kq(h:ye tag I r A x)(h6:r≠6)(hs:SL.Sep ro I)(hQ:∀ I',qd [r] ro tag I tag I'->ye tag I' r A (rnum x).2->Q ((rnum x).1:Nat) I'):qN B ro (some ⟨A,0,none⟩) I Q:=by
 refine ajS fun _=>?_
 unfold acS
 obtain⟨s,a,b,c⟩:=id h
 obtain⟨p,hp,hg⟩:=a.ptr hs y0
 cases hp
 refine⟨_,rfl,x.err,hg 1 _ rfl,?_⟩
 by_cases he:x.err=0
 .rw[ma (j4 he)]
  refine⟨_,rfl,s,hg 0 _ rfl,?_⟩
  refine ase (b.read hs) c ?_
  have hrn:rnum x=((num x.rest).1,⟨x.rest.drop (num x.rest).2.1,(num x.rest).2.2⟩):=by unfold rnum;rw[ma (j4 he)]
  rw[hrn]at hQ
  have hle:=ar4 x.rest
  have hln:=b.len
  have hcp:=b.cap
  refine⟨_,rfl,?_⟩
  refine a.st (i:=1) hs rfl y0 rfl fun I1 st1 r1=>?_
  obtain⟨p1,hp1,hg1⟩:=r1.ptr st1.sep y0
  cases hp1
  refine⟨_,rfl,s,hg1 0 _ rfl,⟨trivial,z7,by simp only[cutHi];omega⟩,_,rfl,?_⟩
  rw[mq]
  refine r1.st (i:=0) st1.sep rfl y0 rfl fun I2 st2 r2=>?_
  refine hQ I2 (st1.trans st2) ⟨_,r2,((b.drop hle.1).keep st1 (by simpa using fun h=>h6 h.symm)).keep st2 (by simpa using fun h=>h6 h.symm),j2⟩
 .rw[mc (j4 he)]
  rw[alg he]at hQ
  exact hQ I (qd.refl hs) h
def ajX{Q:Sl->AH->Prop}(h:ye tag I r A x)(h6:r≠6)(hs:SL.Sep ro I)
  (hQ:∀ s tag' I',qd [r] ro tag I tag' I'->Row tag' I' 6 5 s ((rblob x).1.map vU)->ye tag' I' r A (rblob x).2->Q s I'):yv B ro (some ⟨A,0,none⟩) I Q:=by
 refine ajm fun _=>?_
 unfold acn
 obtain⟨s,a,b,c⟩:=id h
 obtain⟨p,hp,hg⟩:=a.ptr hs y0
 cases hp
 refine⟨_,rfl,s,hg 0 _ rfl,?_⟩
 refine kq h h6 hs fun I1 st1 h1=>?_
 have h61:6∉[r]:=by simpa using fun h=>h6 h.symm
 obtain⟨s1,a1,b1,c1⟩:=id h1
 obtain⟨p1,hp1,hg1⟩:=a1.ptr st1.sep y0
 cases hp1
 refine⟨_,rfl,_,hg1 1 _ rfl,?_⟩
 by_cases he:(rnum x).2.err=0
 .rw[ma (j4 he)]
  refine⟨_,rfl,s1,hg1 0 _ rfl,?_⟩
  have hln1:=b1.len
  have hcp1:=b1.cap
  by_cases hlt:(rnum x).2.rest.length<(rnum x).1
  .rw[mc z7]
   have hrb:rblob x=([],⟨x.rest,12⟩):=by unfold rblob;rw[ma (j4 he),mc hlt]
   rw[hrb]at hQ
   refine⟨_,rfl,?_⟩
   refine a1.st (i:=1) st1.sep rfl y0 rfl fun I2 st2 r2=>?_
   refine⟨_,rfl,?_⟩
   refine r2.st (i:=0) st2.sep rfl y0 rfl fun I3 st3 r3=>?_
   exact hQ ⟨none,0,0⟩ tag I3 (st1.trans (st2.trans st3)) (Row.nil 6 5) ⟨s,r3,((b.keep st1 h61).keep st2 h61).keep st3 h61,c⟩
  .rw[ma z7]
   have hrb:rblob x=((rnum x).2.rest.take (rnum x).1,⟨(rnum x).2.rest.drop (rnum x).1,0⟩):=by unfold rblob;rw[ma (j4 he),ma hlt]
   rw[hrb]at hQ
   refine⟨_,rfl,s1,hg1 0 _ rfl,⟨⟨z7,z7⟩,trivial⟩,?_⟩
   rw[mq]
   refine acg (tag:=tag) (b1.takeR st1.sep z7) st1.sep j2 (aov _) fun s2 tag2 I2 st2 r2=>?_
   have a2:=a1.keep (st2 [])
   obtain⟨p2,hp2,hg2⟩:=a2.ptr (st2 []).sep y0
   cases hp2
   refine⟨_,rfl,s1,hg2 0 _ rfl,⟨trivial,z7,by simp only[cutHi];omega⟩,_,rfl,?_⟩
   refine a2.st (i:=0) (st2 []).sep rfl y0 rfl fun I3 st3 r3=>?_
   rw[he]at r3
   refine hQ s2 tag2 I3 (st1.trans ((st2 _).trans st3)) (r2.keep st3 h61) ⟨_,r3,((b1.drop z7).keep (st2 [])).keep st3 h61,j2⟩
 .rw[mc (j4 he)]
  have hrb:rblob x=([],(rnum x).2):=by unfold rblob;rw[mc (j4 he)]
  rw[hrb]at hQ
  exact hQ ⟨none,0,0⟩ tag I1 st1 (Row.nil 6 5) h1
def ag4{Q:ZA->AH->Prop}(h:ye tag I r A x)(h6:r≠6)(hs:SL.Sep ro I)
  (hQ:∀ tag' I',qd [r] ro tag I tag' I'->ye tag' I' r A (rblob x).2->Q (S (rblob x).1) I'):xT B ro (some ⟨A,0,none⟩) I Q:=by
 refine ajl fun _=>?_
 unfold acm
 refine ajX h h6 hs fun s tag1 I1 st1 r1 h1=>?_
 exact amT (r1.read st1.sep) ⟨_,rfl,hQ tag1 I1 st1 h1⟩
end Wi
namespace Zt
open Go SL G Pa Wi
variable{B:ZB}{ro I I':AH}{tag tag':Nat->Nat}
variable{C bs:List Nat}{M T r:Nat}{n:Nd}{Q:ZO->Int->AH->Prop}{st:St}{b q:Str}
def asj(a b:ZA):agV a b=true↔L a<L b:=by
 unfold agV
 rw[Go.Proofs.bytesLess_eq,ByteArray.toList_eq,ByteArray.toList_eq]
 simp[L]
def ajY(a b:ZA):(agV a b=true\/a=b)↔L a<=L b:=by
 rw[asj,List.le_iff_lt_or_eq]
 constructor
 .rintro(h | h)
  .exact .inl h
  .exact .inr (by rw[h])
 .rintro(h | h)
  .exact .inl h
  .exact .inr (uG h)
def wa.add2{b:Nat}{tag2:Nat->Nat}{I2:AH}(h:wa tag I r T M bs st)(hr:r<64)(hr6:r≠6)(hq:st.lookup q=none)(hnb:b∉bs)(k:qd [r+64] ro tag I tag2 I2)(hnew:ac7 tag2 I2 r b n)(hm:zW tag2 I2 (r+64) M (agl (kv st bs) q (ptr b))):wa tag2 I2 r T M (bs++[b]) (st++[(q,n)]):=by
 refine⟨?_,by simp[h.len],?_,h.cell.keep k,?_,fun i c p hc hp=>?_⟩
 .rw[my,List.nodup_append]
  refine⟨h.keys,y0,?_⟩
  intro x hx y hy
  simp at hy
  intro e
  exact ac8 hq (by rw[<-hy,<-e];exact hx)
 .rw[List.nodup_append]
  refine⟨h.nd,y0,?_⟩
  intro x hx y hy
  simp at hy
  intro e
  exact hnb (by rw[<-hy,<-e];exact hx)
 .rw[arZ _ _ _ _ _ h.len,<-aqb _ _ _ _ h.len hq];exact hm
 .rcases mM i bs.length with hi | hi
  .rw[mQ hi]at hc
   rw[mQ (by rw[<-h.len];exact hi)]at hp
   exact(h.nodes i c p hc hp).keep k (by simp<;>omega) y0
  .rw[mU hi]at hc
   rw[mU (by rw[<-h.len];exact hi),<-h.len]at hp
   cases hd:i - bs.length with
   | zero=>
    rw[hd]at hc hp
    cases hc;cases hp
    exact hnew
   | succ j=>rw[hd]at hc;cases hc
def awg{b:Nat}{p last:ZA}{Q:Bool->AH->Prop}(g:ze ro)(hr:r<64)(hr6:r≠6)(hr0:r≠0)(h:wa tag I r T M bs st)(hn:ac7 tag I r b n)(hnb:b∉bs)
  (hk:∀ x∈st,x.1<=L last) (hne:∀ x∈st,x.1≠[])
  (hno:lay st (L last) (L p) n=none->∀ tag' I',zK r ro tag I tag' I'->Q false I') (hyes:∀ st',lay st (L last) (L p) n=some st'->∀ tag' I',zK r ro tag I tag' I'->(∃bs',wa tag' I' r T M bs' st'/\∀ x∈bs',x∈bs\/x=b)->Q true I'):
  adx B ro (some ⟨T,0,none⟩) p last (some ⟨b,0,none⟩) I Q:=by
 refine akA fun hs=>?_
 unfold adD
 obtain⟨ds,hn1,hn2⟩:=id hn
 obtain⟨pb,hpb,hg⟩:=hn1.ptr hs y0
 cases hpb
 have dlen:ds.len=n.data.length:=by rw[hn2.len,mg]
 let bad:Prop:=parts (L p)=none\/L p<=L last\/256<n.data.length\/10000000000<n.ctr\/(n.own≠0/\0<n.ctr)
 have hbad:bad->lay st (L last) (L p) n=none:=fun h=>by unfold lay;rw[mc h]
 have refused:bad->ki B ro (some ⟨T,0,none⟩) p last (some ⟨b,0,none⟩) Q true I:=fun hb=>by
  unfold ki
  rw[mc rfl]
  exact hno (hbad hb) tag I (zK.refl hs)
 have r4:bad->xg B ro (some ⟨T,0,none⟩) p last (some ⟨b,0,none⟩) Q true I:=fun hb=>by
  unfold xg;rw[mc rfl];exact refused hb
 have r2:bad->xh B ro (some ⟨T,0,none⟩) p last (some ⟨b,0,none⟩) Q true I:=fun hb=>by
  unfold xh;rw[mc rfl];exact r4 hb
 refine aaj g ?_
 by_cases c1:(¬(Pa.chk (L p)=0))\/((agV p last=true)\/p=last)
 .rw[mc c1]
  refine r2 ?_
  rcases c1 with c1 | c1
  .refine .inl ?_
   cases e:parts (L p)with
   | none=>rfl
   | some ps=>exact mt (vE.2 ⟨ps,e⟩) c1
  .exact .inr (.inl ((ajY p last).1 c1))
 rw[ma c1]
 simp only[not_or]at c1
 have hgt:¬ L p<=L last:=fun h=>by
  rcases(ajY p last).2 h with h | h
  .exact c1.2.1 h
  .exact c1.2.2 h
 obtain⟨ps,hps⟩:=vE.1 (Ld.1 c1.1)
 refine⟨_,rfl,ds,hg 4 _ rfl,?_⟩
 by_cases c2:256<n.data.length
 .rw[show decide (256<(ds.len:Int))=true from by rw[dlen];simp;omega]
  exact r2 (.inr (.inr (.inl c2)))
 rw[show decide (256<(ds.len:Int))=false from by rw[dlen];simp;omega]
 unfold xh
 rw[ma y1]
 refine⟨_,rfl,n.ctr,hg 1 _ rfl,?_⟩
 by_cases c3:10000000000<n.ctr
 .rw[show decide (10000000000<n.ctr)=true from by simpa using c3]
  exact r4 (.inr (.inr (.inr (.inl c3))))
 rw[show decide (10000000000<n.ctr)=false from by simpa using c3]
 unfold xg
 rw[ma y1]
 refine⟨_,rfl,n.own,hg 2 _ rfl,?_⟩
 have good:¬ bad->ki B ro (some ⟨T,0,none⟩) p last (some ⟨b,0,none⟩) Q false I:=fun hnbad=>by
  have hq:st.lookup (L p)=none:=by
   cases e:st.lookup (L p)with
   | none=>rfl
   | some m=>exact mt (hk _ ((qU h.keys).1 e)) hgt
  unfold ki
  rw[ma y1]
  have hlay:lay st (L last) (L p) n=if L last=[]then(if L p=[47]/\n.data=[]/\n.ver=0/\n.own=0 then some (st++[(L p,n)])else none)
    else match qw (L p)with
     | none=>none
     | some u=>match st.lookup u with
      | none=>none
      | some m=>if m.own≠0 then none else some (wH st u ahB++[(L p,n)]):=by
   conv=>lhs;unfold lay
   rw[ma hnbad]
   try rfl
  by_cases cl:last=⟨#[]⟩
  .rw[mc cl]
   have cl':L last=[]:=by rw[cl];try rfl
   rw[mc cl']at hlay
   refine⟨_,rfl,_,Row.cell1 h.cell hs,?_⟩
   rw[<-S_L p]
   refine acz h.map hs u126 u9 fun I1 st1 m1=>?_
   have st1c:zK r ro tag I tag I1:=st1.c (by simp<;>omega)
   have hn':=hn.keep st1 (by simp<;>omega) (by simp<;>omega)
   have hA:=h.add2 hr hr6 hq hnb st1 hn' m1
   obtain⟨ds',hn1',hn2'⟩:=hn'
   obtain⟨pb',hpb',hg'⟩:=hn1'.ptr st1.sep y0
   cases hpb'
   have dlen':ds'.len=n.data.length:=by rw[hn2'.len,mg]
   have fin:∀ x:Bool,(x=true↔(L p=[47]/\n.data=[]/\n.ver=0/\n.own=0))->Q x I1:=fun x hx=>by
    by_cases hc:L p=[47]/\n.data=[]/\n.ver=0/\n.own=0
    .rw[hx.2 hc]
     rw[mc hc]at hlay
     exact hyes _ hlay tag I1 st1c ⟨_,hA,fun x hx=>by simpa using hx⟩
    .have:x=false:=by
      cases x with
      | false=>rfl
      | true=>exact mt (hx.1 rfl) hc
     rw[this]
     rw[ma hc]at hlay
     exact hno hlay tag I1 st1c
   have j10:∀ x:Bool,(x=true↔(L p=[47]/\n.data=[]))->xW B ro (some ⟨b,0,none⟩) Q x I1:=fun x hx=>by
    unfold xW
    cases x with
    | true=>
     rw[mc rfl]
     have hx':=hx.1 rfl
     refine⟨_,rfl,n.ver,hg' 0 _ rfl,?_⟩
     unfold xV
     by_cases hv:n.ver=0
     .rw[mc (j4 hv)]
      refine⟨_,rfl,n.own,hg' 2 _ rfl,?_⟩
      unfold kM
      exact fin _ (by simp[hx',hv])
     .rw[ma (j4 hv)]
      unfold kM
      exact fin _ (by simp[hv])
    | false=>
     rw[ma y1]
     have hx':¬ (L p=[47]/\n.data=[]):=fun h=>by have:=hx.2 h;cases this
     unfold xV
     rw[ma y1]
     unfold kM
     exact fin _ ⟨fun h=>(by cases h),fun h=>mt ⟨h.1,h.2.1⟩ hx'⟩
   by_cases cr:S (L p)=(⟨#[47]⟩:ZA)
   .rw[mc cr]
    have cr':L p=[47]:=abL.1 cr
    refine⟨_,rfl,ds',hg' 4 _ rfl,?_⟩
    refine j10 _ ?_
    rw[dlen']
    simp only[mS,cr',true_and]
    constructor
    .intro h;exact nb z7
    .intro h;rw[h];try rfl
   .rw[ma cr]
    have cr':¬ L p=[47]:=fun h=>cr (abL.2 h)
    exact j10 _ ⟨fun h=>(by cases h),fun h=>mt h.1 cr'⟩
  .rw[ma cl]
   have cl':L last≠[]:=fun h=>cl (uG h)
   rw[ma cl']at hlay
   have j27no:∀ x98,lay st (L last) (L p) n=none->vg B ro (some ⟨T,0,none⟩) p (some ⟨b,0,none⟩) x98 Q true I:=fun x98 hl=>by
    unfold vg
    rw[mc rfl]
    exact hno hl tag I (zK.refl hs)
   have look:∀ u:Str,(qw (L p)=none->lay st (L last) (L p) n=none)->(qw (L p)≠some u->st.lookup u=none)->(qw (L p)=some u\/qw (L p)=none)->
     awp prog ro (Instr.lookup 237 (.map (some M)) (.string (S u)) false) (fun v I=>
      (∃(x98_26:ZO),v= .pointer x98_26/\
       if x98_26=none then
       vg B ro (some ⟨T,0,none⟩) p (some ⟨b,0,none⟩) x98_26 Q true I
       else
       ∃p103_34:Addr,x98_26=some p103_34/\
       ∃(x106_35:Int),qa ro I (p103_34.add 2)=some (.int .i64 x106_35)/\
       vg B ro (some ⟨T,0,none⟩) p (some ⟨b,0,none⟩) x98_26 Q (!(decide (x106_35=0))) I)) I:=fun u hnp hnl hor=>by
    refine ya h.map hs u126 u9 aiA ?_
    rcases acf st bs u h.len with⟨a,e⟩ | ⟨i,b',m,a1,a2,a3,e⟩
    .rw[e]
     refine⟨none,rfl,?_⟩
     rw[mc rfl]
     refine j27no none ?_
     rcases hor with hp | hp
     .rw[hlay,hp];simp only;rw[a]
     .exact hnp hp
    .rw[e]
     refine⟨some ⟨b',0,none⟩,rfl,?_⟩
     rw[ma y0]
     have hp:qw (L p)=some u:=np fun hc=>by rw[hnl hc]at a3;cases a3
     obtain⟨dm,hm1,hm2⟩:=h.nodes i b' _ a1 a2
     obtain⟨pm,hpm,hgm⟩:=hm1.ptr hs y0
     cases hpm
     refine⟨_,rfl,m.own,hgm 2 _ rfl,?_⟩
     by_cases co:m.own=0
     .rw[show(!decide (m.own=0))=false from by simp[co]]
      have hl:lay st (L last) (L p) n=some (wH st u ahB++[(L p,n)]):=by rw[hlay,hp];simp only;rw[a3];simp only;rw[ma (j4 co)]
      unfold vg
      rw[ma y1]
      refine⟨_,rfl,m.kids,hgm 3 _ rfl,_,rfl,?_⟩
      refine hm1.st (i:=3) hs rfl y0 rfl fun I1 st1 r1=>?_
      have hA1:=h.write (n':=ahB m) hr hr6 a1 a2 st1 ⟨dm,r1,hm2.keep st1 (by simp<;>omega)⟩
      rw[<-aiz h.keys a2 ahB]at hA1
      have hbb:b≠b':=fun e=>hnb (by rw[e];exact mW a1)
      have hnk:=hn.keep st1 (by simp<;>omega) (by simp<;>omega)
      refine⟨_,rfl,_,Row.cell1 hA1.cell st1.sep,?_⟩
      rw[<-S_L p]
      refine acz hA1.map st1.sep u126 u9 fun I2 st2 m2=>?_
      have hq1:(wH st u ahB).lookup (L p)=none:=by
       rw[wu];split
       .rw[hq];try rfl
       .exact hq
      have hA2:=hA1.add2 hr hr6 hq1 hnb st2 (hnk.keep st2 (by simp<;>omega) (by simp<;>omega)) m2
      exact hyes _ hl tag I2 ((st1.c (by simp<;>omega)).trans (st2.c (by simp<;>omega))) ⟨_,hA2,fun x hx=>by simpa using hx⟩
     .rw[show(!decide (m.own=0))=true from by simp[co]]
      exact j27no _ (by rw[hlay,hp];simp only;rw[a3];simp only;rw[mc co])
   refine Pa.afk g (fun hpn=>?_) (fun u hu=>?_)
   .refine⟨_,rfl,_,Row.cell1 h.cell hs,?_⟩
    refine look [] (fun hp=>by rw[hlay,hp]) (fun _=>?_) (.inr hpn)
    cases e:st.lookup []with
    | none=>rfl
    | some m=>exact mt rfl (hne _ ((qU h.keys).1 e))
   .refine⟨_,rfl,_,Row.cell1 h.cell hs,?_⟩
    exact look u (fun hp=>by rw[hu]at hp;cases hp) (fun hc=>mt hu hc) (.inl hu)
 by_cases c4:n.own≠0
 .rw[mc (j4 c4)]
  refine⟨_,rfl,n.ctr,hg 1 _ rfl,?_⟩
  unfold xX
  by_cases c5:0<n.ctr
  .rw[show decide (0<n.ctr)=true from by simpa using c5]
   exact refused (.inr (.inr (.inr (.inr ⟨c4,c5⟩))))
  .rw[show decide (0<n.ctr)=false from by simpa using c5]
   refine good ?_
   rintro(h | h | h | h | h)
   .rw[hps]at h;cases h
   .exact hgt h
   .exact c2 h
   .exact c3 h
   .exact c5 h.2
 .rw[ma (j4 c4)]
  unfold xX
  refine good ?_
  rintro(h | h | h | h | h)
  .rw[hps]at h;cases h
  .exact hgt h
  .exact c2 h
  .exact c3 h
  .exact c4 h.1
def wd.keepS(h:wd tag I r T st)(k:StepS C ro tag I tag' I')(hr:r%64∉C:=by decide)(h6:6∉C:=by decide):wd tag' I' r T st:=by
 obtain⟨R,h1,h2⟩:=k
 exact h.keep h2 fun x hx=>⟨fun e=>hr (by rw[<-e];exact h1 x hx),fun e=>h6 (by have:=h1 x hx;rw[e]at this;exact this)⟩
def wa.fresh_b{b:Nat}(h:wa tag I r T M bs st)(hb:I b=none):b∉bs:=fun hm'=>by
 obtain⟨i,hi,e⟩:=ni hm'
 have hb':bs[i]?=some b:=by rw[md hi,e]
 have hil:i<st.length:=by rw[<-h.len];exact hi
 obtain⟨s,hn,_⟩:=h.nodes i b _ hb' (md hil)
 obtain⟨_,o,ho⟩:=hn.tagOf
 rw[hb]at ho;cases ho
def an9{x:Rd}(h:(kg x).2.err=0):(kg x).2.rest.length<x.rest.length:=by
 unfold kg at h⊢
 simp only at h⊢
 have h4:=aiC h
 have h3:=aiC h4
 have h2:=aiC h3
 have h1:=ar6 h2
 have e1:=(ahz (r:=x) h1).2
 have e2:=(ahz (r:=(rblob x).2) h2).2
 have e3:=(af3 (r:=(rblob (rblob x).2).2) h3).2
 have e4:=(af3 (r:=(rnum (rblob (rblob x).2).2).2) h4).2
 have e5:=(af3 (r:=(rnum (rnum (rblob (rblob x).2).2).2).2) h).2
 have l1:=mj List.length e1
 have l2:=mj List.length e2
 have l3:=mj List.length e3
 have l4:=mj List.length e4
 have l5:=mj List.length e5
 simp only[mA,vR]at l1 l2 l3 l4 l5
 have:=nI.2 (amO (rblob x).1.length)
 omega
def axa:∀ (st:St) (bs:List Nat) (i:Nat) (p:Str×Nd) (b:Nat),st[i]?=some p->bs[i]?=some b->(kv st bs)[i]?=some (p.1,ptr b):=by
 intro st
 induction st with
 | nil=>intro bs i p b h;cases h
 | cons q st ih=>
  intro bs i p b h hb
  cases bs with
  | nil=>cases hb
  | cons c bs=>
   obtain⟨q,m⟩:=q
   cases i with
   | zero=>cases h;cases hb;rfl
   | succ i=>unfold kv;simpa using ih bs i p b (j4 h) (j4 hb)
def apA(hr:r<64)(hr0:r≠0)(hr6:r≠6)(h:wa tag I r T M bs st)(hs:SL.Sep ro I)
  (hno:(st.all fun p=>decide (p.2.kids<=p.2.ctr))=false->∀ tag' I',qd [0] ro tag I tag' I'->Q none 13 I')
  (hyes:(st.all fun p=>decide (p.2.kids<=p.2.ctr))=true->∀ tag' I',qd [0] ro tag I tag' I'->wa tag' I' r T M bs st->Q (some ⟨T,0,none⟩) 0 I'):uM B ro T Q I:=by
 unfold uM
 refine⟨_,Row.cell1 h.cell hs,?_⟩
 refine an3 u126 h.map hs fun es clock x hM hes hbn hro hx=>?_
 refine⟨_,rfl,?_⟩
 have hxM:x≠M:=fun e=>by rw[e,hM]at hx;cases hx
 have hlen:es.toList.length=st.length:=by
  have:=mj List.length hes
  simp only[mg]at this
  rw[this,anx st bs h.len]
 suffices∀(m:Nat) (seen:Array Nat) (tag1:Nat->Nat) (I1:AH),alY es seen=m->qd [0] ro tag I tag1 I1->tag1 x=0->I1 x=some (.mapIter (some M) clock seen clock)->I1 M=some (.map es clock)->wa tag1 I1 r T M bs st->
   (∀(i:Nat) (e:MapEntry) (p:Str×Nd),es.toList[i]?=some e->st[i]?=some p->seen.contains e.born=true->p.2.kids<=p.2.ctr)->lfpD (abP B ro ⟨x,0,none⟩ T Q) () I1 from by
  have st1:qd [0] ro tag I (setTag tag x 0) (upd I x (.mapIter (some M) clock #[] clock)):=qd.fresh hs hro hx
  exact this _ #[] _ _ rfl st1 (by simp[setTag]) (qE _ _ _) (by rw[pW _ _ hxM.symm];exact hM) (h.keep st1 j2) (fun i e p _ _ hc=>by simp at hc)
 intro m
 induction m using Nat.strongRecOn with
 | ind m ih=>
  intro seen tag1 I1 hm hst htx hit hmp hA hseen
  have hs1:=hst.sep
  refine lfpD.intro ?_
  unfold abP
  refine aen hit hmp hs1 hbn (fun hall=>?_) fun e he hne=>?_
  .refine .inl ⟨rfl,?_⟩
   unfold abO
   refine hyes ?_ tag1 I1 hst hA
   rw[mI]
   intro p hp
   obtain⟨i,hi,rfl⟩:=ni hp
   have hie:i<es.toList.length:=by omega
   have:=hseen i es.toList[i] st[i] (md hie) (md hi) (hall _ (mJ hie))
   simpa using this
  .refine .inr ⟨_,_,rfl,?_⟩
   have st2:qd [0] ro tag1 I1 tag1 (upd I1 x (.mapIter (some M) clock (seen.push e.born) clock)):=kJ hs1 htx hit
   have hmp2:upd I1 x (.mapIter (some M) clock (seen.push e.born) clock) M=some (.map es clock):=by rw[pW _ _ hxM.symm];exact hmp
   refine ajd (qE _ _ _) hmp2 st2.sep hbn he ?_
   obtain⟨i,hi,rfl⟩:=ni he
   have hil:i<st.length:=by omega
   have hib:i<bs.length:=by rw[h.len];exact hil
   have hval:aae es.toList[i]=afY (st[i].1,ptr bs[i]):=by
    have h1:(es.toList.map aae)[i]?=some (aae es.toList[i]):=by rw[mh,md hi];try rfl
    rw[hes,mh,axa st bs i _ _ (md hil) (md hib)]at h1
    exact(mB h1).symm
   have hv:es.toList[i].val=ptr bs[i]:=mj Prod.snd hval
   rw[hv]
   refine⟨es.toList[i].key,some ⟨bs[i],0,none⟩,rfl,?_⟩
   have hA2:=hA.keep st2 j2
   obtain⟨ds,hn1,_⟩:=hA2.nodes i bs[i] st[i] (md hib) (md hil)
   obtain⟨q,hq,hg⟩:=hn1.ptr st2.sep y0
   cases hq
   refine⟨_,rfl,_,rfl,_,hg 1 _ rfl,_,hg 3 _ rfl,?_⟩
   by_cases hc:st[i].2.ctr<st[i].2.kids
   .rw[mc hc]
    refine hno ?_ tag1 _ (hst.trans st2)
    rw[<-nV,mI]
    intro hall
    have:=hall st[i] (mJ hil)
    simp at this;omega
   .rw[ma hc]
    refine ih (alY es (seen.push es.toList[i].born)) (by rw[<-hm];exact aqZ he hne) _ tag1 _ rfl (hst.trans st2) htx (qE _ _ _) hmp2 hA2 fun j e' p hj hp hcont=>?_
    rw[Array.contains_push]at hcont
    by_cases hb:e'.born=es.toList[i].born
    .have hji:j=i:=by
      have h1:(es.toList.map (·.born))[j]?=some es.toList[i].born:=by rw[mh,hj,<-hb];try rfl
      have h2:(es.toList.map (·.born))[i]?=some es.toList[i].born:=by rw[mh,md hi];try rfl
      exact aqa hbn.nd h1 h2
     subst hji
     rw[md hil]at hp
     cases hp
     omega
    .refine hseen j e' p hj hp ?_
     cases h1:seen.contains e'.born with
     | true=>rfl
     | false=>
      rw[h1,Bool.false_or]at hcont
      exact mt (eq_of_beq hcont) hb
def ask{a0:Sl}(g:ze ro)(hr:r<64)(hr6:r≠6)(hr0:r≠0)(hr3:r≠31)(h:SL.qJ ro I a0 (b.map vU))(hl:b.length<=140737488355328)
  (hno:dec b=none->∀ tag' I',StepS [r,31,0] ro tag I tag' I'->Q none 13 I')
  (hyes:∀ st,dec b=some st->∀ T tag' I',StepS [r,31,0] ro tag I tag' I'->wd tag' I' r T st->Q (some ⟨T,0,none⟩) 0 I'):aeM B ro a0 I Q:=by
 refine al0 fun hs=>?_
 unfold aeQ
 refine arP (tag:=tag) (r+64) hs fun M tag1 I1 st1 m1=>?_
 refine qf (tag:=tag1) r (st1 []).sep fun T tag2 I2 st2 r2=>?_
 have m2:=m1.keep (st2 [])
 refine ajW (tag:=tag2) (r:=31) ((h.step (st1 [])).step (st2 [])) (st2 []).sep hl fun A tag3 I3 st3 rd3=>?_
 have hA3:wa tag3 I3 r T M [] []:=⟨y0,rfl,y0,r2.keep (st3 []),m2.keep (st3 []),fun i b p hb=>by cases hb⟩
 obtain⟨R0,hR⟩:∃ R0,ajN (b.length+1) ⟨b,0⟩ [] []=R0:=⟨_,rfl⟩
 have hdb0:dec b=R0.bind fun st=>if st.all fun p=>decide (p.2.kids<=p.2.ctr)then some st else none:=by unfold dec;rw[hR];cases R0<;>rfl
 suffices∀(f:Nat) (x:Rd) (st:St) (bs:List Nat) (last:ZA) (tag4:Nat->Nat) (I4:AH),ajN f x st (L last)=R0->x.rest.length<f->x.err=0->(∀y∈st,y.1<=L last)->(∀y∈st,y.1≠[])->
   StepS [r,31,0] ro tag I tag4 I4->wa tag4 I4 r T M bs st->ye tag4 I4 31 A x->lfpD (aa4 B ro T (some ⟨A,0,none⟩) Q) last I4 from
  this (b.length+1) ⟨b,0⟩ [] [] ⟨#[]⟩ tag3 I3 hR y0 rfl (fun _ h=>by cases h) (fun _ h=>by cases h) (((st1 []).s y0).trans (((st2 []).s y0).trans ((st3 []).s y0))) hA3 rd3
 intro f
 induction f with
 | zero=>intro x st bs last tag4 I4 _ hlt;omega
 | succ f ih=>
  intro x st bs last tag4 I4 hdec hlt herr hk hne hst hA hrd
  have hs4:=hst.sep
  unfold ajN at hdec
  have hdb:=hdb0
  refine lfpD.intro ?_
  unfold aa4
  refine aqj hrd hs4 ?_
  have h31:(31:Nat)≠6:=by decide
  by_cases hend:x.rest=[]/\L last≠[]
  .rw[ma (by
    rintro(h | h)
    .rw[hend.1]at h;simp at h
    .exact hend.2 (by rw[h];try rfl))]
   rw[mc hend]at hdec
   rw[<-hdec]at hdb
   simp only[Option.bind_some]at hdb
   refine apA hr hr0 hr6 hA hs4 (fun hc tag5 I5 st5=>?_) fun hc tag5 I5 st5 hA5=>?_
   .exact hno (by rw[hdb,ma (by rw[hc];simp)]) tag5 I5 (hst.trans (st5.s y0))
   .exact hyes st (by rw[hdb,mc hc]) T tag5 I5 (hst.trans (st5.s y0)) ⟨M,bs,hA5⟩
  .rw[ma hend]at hdec
   rw[mc (by
    by_cases h:L last=[]
    .exact .inr (uG h)
    .refine .inl ?_
     have:x.rest≠[]:=fun e=>hend ⟨e,h⟩
     have:=nI.2 this
     omega)]
   refine ag4 hrd h31 hs4 fun tag5 I5 st5 rd5=>?_
   refine ajX rd5 h31 st5.sep fun ds tag6 I6 st6 r6 rd6=>?_
   have h431:∀ x∈[31],x%64≠r%64/\x≠6:=by simp;omega
   have hA6:=(hA.keep st5 h431).keep st6 h431
   refine agX (tag:=tag6) (fun b=>r+64*(b+2)) st6.sep fun c tag7 I7 hro7 hc7 st7 r7=>?_
   have hnb:=hA6.fresh_b hc7
   have hA7:=hA6.keep (st7 [])
   have rd7:=rd6.keep (st7 [])
   have hr67:=r6.keep (st7 [])
   refine kq rd7 h31 (st7 []).sep fun I8 st8 rd8=>?_
   refine kq rd8 h31 st8.sep fun I9 st9 rd9=>?_
   refine kq rd9 h31 st9.sep fun Ia sta rda=>?_
   have k31:∀ c:Nat,r+64*(c+2)∉[31]:=fun c=>by simp;omega
   have rna:=((r7.keep st8 (k31 c)).keep st9 (k31 c)).keep sta (k31 c)
   have hAa:=((hA7.keep st8 h431).keep st9 h431).keep sta h431
   have hda:=((hr67.keep st8).keep st9).keep sta
   refine rna.st (i:=0) sta.sep rfl y0 rfl fun Ib stb rb=>?_
   refine rb.st (i:=1) stb.sep rfl y0 rfl fun Ic stc rc=>?_
   refine rc.st (i:=2) stc.sep rfl y0 rfl fun Id std rdd=>?_
   have stbd:=stb.trans (stc.trans std)
   have kc31:(31:Nat)∉[r+64*(c+2)]:=by simp;omega
   have kc6:(6:Nat)∉[r+64*(c+2)]:=by simp;omega
   have rdD:=rda.keep stbd kc31 kc6
   have hAd:wa tag7 Id r T M bs st:=by
    refine⟨hAa.keys,hAa.len,hAa.nd,hAa.cell.keep stbd,hAa.map.keep stbd j2,fun i b p hb hp=>?_⟩
    refine(hAa.nodes i b p hb hp).keep stbd ?_ kc6
    simp
    intro e
    have:b=c:=by omega
    subst this
    exact hnb (mW hb)
   have hnode:ac7 tag7 Id r c (kg x).1.2:=⟨ds,rdd,hda.keep stbd kc6⟩
   have stD:StepS [r,31,0] ro tag I tag7 Id:=hst.trans ((st5.s y0).trans ((st6.s y0).trans (((st7 []).s y0).trans ((st8.s y0).trans ((st9.s y0).trans ((sta.s y0).trans (stbd.s j2)))))))
   refine aqk rdD std.sep ?_
   by_cases he:(kg x).2.err=0
   .rw[ma (by simpa [kg]using he)]
    rw[ma (j4 he)]at hdec
    have hp:L (S (rblob x).1)=(kg x).1.1:=by rw[L_S];try rfl
    refine awg g hr hr6 hr0 hAd hnode hnb hk hne (fun hlay tag8 Ie ste=>?_) fun st' hlay tag8 Ie ste ⟨bs',hAe,hbs⟩=>?_
    .rw[hp]at hlay
     rw[hlay]at hdec
     simp only at hdec
     rw[<-hdec]at hdb
     unfold xP
     rw[mc y1]
     exact hno hdb tag8 Ie (stD.trans (ste.s y0))
    .rw[hp]at hlay
     rw[hlay]at hdec
     simp only at hdec
     unfold xP
     rw[ma y1]
     have hsh:=an9 he
     have hkeys:(∀y∈st',y.1<=(kg x).1.1)/\∀ y∈st',y.1≠[]:=by
      unfold lay at hlay
      by_cases hbad:parts (kg x).1.1=none\/(kg x).1.1<=L last\/256<(kg x).1.2.data.length\/10000000000<(kg x).1.2.ctr\/((kg x).1.2.own≠0/\0<(kg x).1.2.ctr)
      .rw[mc hbad]at hlay;cases hlay
      rw[ma hbad]at hlay
      simp only[not_or]at hbad
      have hpn:(kg x).1.1≠[]:=by
       cases e:parts (kg x).1.1 with
       | none=>exact mt e hbad.1
       | some ps=>exact akk e
      have hgt:=ar7 (akj.1 hbad.2.1)
      have base:∀ y∈st,y.1<=(kg x).1.1:=fun y hy=>List.le_trans (hk y hy) hgt
      by_cases hl0:L last=[]
      .rw[mc hl0]at hlay
       split at hlay
       .cases hlay
        refine⟨fun y hy=>?_,fun y hy=>?_⟩
        .rcases mv.1 hy with h | h
         .exact base y h
         .rw[mr.1 h];exact List.le_refl _
        .rcases mv.1 hy with h | h
         .exact hne y h
         .rw[mr.1 h];exact hpn
       .cases hlay
      .rw[ma hl0]at hlay
       have key:∀ u,st'=wH st u ahB++[((kg x).1.1,(kg x).1.2)]->(∀y∈st',y.1<=(kg x).1.1)/\∀ y∈st',y.1≠[]:=fun u he=>by
        have hm:∀ y∈wH st u ahB,∃z∈st,y.1=z.1:=fun y hy=>by
         unfold wH at hy
         obtain⟨z,hz,rfl⟩:=mN.1 hy
         exact⟨z,hz,by split<;>rfl⟩
        rw[he]
        refine⟨fun y hy=>?_,fun y hy=>?_⟩
        .rcases mv.1 hy with h | h
         .obtain⟨z,hz,e⟩:=hm y h;rw[e];exact base z hz
         .rw[mr.1 h];exact List.le_refl _
        .rcases mv.1 hy with h | h
         .obtain⟨z,hz,e⟩:=hm y h;rw[e];exact hne z hz
         .rw[mr.1 h];exact hpn
       cases hpp:qw (kg x).1.1 with
       | none=>rw[hpp]at hlay;cases hlay
       | some u=>
        rw[hpp]at hlay
        simp only at hlay
        cases hlk:st.lookup u with
        | none=>rw[hlk]at hlay;cases hlay
        | some m=>
         rw[hlk]at hlay
         simp only at hlay
         split at hlay
         .cases hlay
         .exact key u (mB hlay).symm
     refine ih (kg x).2 st' bs' (S (rblob x).1) tag8 Ie ?_ z7 he ?_ hkeys.2 (stD.trans (ste.s y0)) hAe (rdD.keepC ste z7 hr6)
     .rw[hp];exact hdec
     .rw[hp];exact hkeys.1
   .rw[mc (by simpa [kg]using he)]
    rw[mc (j4 he)]at hdec
    rw[<-hdec]at hdb
    unfold xP
    rw[mc y1]
    exact hno hdb tag7 Id stD
end Zt
namespace Zt
open Go SL G Pa
variable{B:ZB}{ro I I':AH}{tag tag':Nat->Nat}
def asl{st:St}(hi:Inv st){p:Str}:∀ u n,qw p=some u->st.lookup p=some n->∃ m,st.lookup u=some m:=fun u n hu hn=>by
 have hne:p≠[47]:=fun e=>by rw[e,ahy]at hu;cases hu
 obtain⟨u',m',e1,e2,_⟩:=hi.up _ n hn hne
 rw[hu]at e1;cases e1
 exact⟨m',e2⟩
def atP(x:St):(∀p∈x,p.1.length<=128/\p.2.data.length<=256/\yw p.2=true)->(acQ x).length<=512*x.length:=by
 induction x with
 | nil=>intro _;simp[acQ]
 | cons p x ih=>
  intro h
  have:=ih fun q hq=>h q (by simp[hq])
  obtain⟨h1,h2,h3⟩:=h p y0
  unfold acQ at this⊢
  rw[nE,mA,mz]
  unfold yw Wi.qr at h3
  simp only[mu,mS]at h3
  have l1:=(Wi.ub 8 p.1.length z7).2
  have l2:=(Wi.ub 8 p.2.data.length z7).2
  have l3:=(Wi.ub 8 p.2.ver.toNat z7).2
  have l4:=(Wi.ub 8 p.2.ctr.toNat z7).2
  have l5:=(Wi.ub 8 p.2.own.toNat z7).2
  have:(ahA p).length<=512:=by
   unfold ahA Wi.vR
   simp only[mA]
   omega
  omega
def atQ{b:Nat}{st:St}(h:qQ b st)(hb:b<=4398046511103):(amR st).length<=512*st.length:=by
 have h3:=h.inv3 z7
 rw[aqe h3,<-(zZ st).length_eq]
 refine atP _ fun p hp=>?_
 have hp':=(zZ st).mem_iff.1 hp
 obtain⟨h1,h2⟩:=h.inv.small p hp'
 exact⟨h1,h2,(h3.nums _ _ ((qU h.inv.keys (k:=p.1) (n:=p.2)).2 hp')).1⟩
end Zt
namespace SL
open Go
variable{P:Program}{B:ZB}{ro I I':AH}{tag tag':Nat->Nat}
def amU(zv:ZC)(n:Nat):(Builtin.zeroCells #[zv] n).toList=List.replicate n zv:=by
 apply nJ
 intro i
 simp only[Builtin.zeroCells,Array.getElem?_toList,Array.getElem?_map,Array.size,mz,nH,mV]
 rcases mM i n with h | h
 .rw[LC,mc h]
  simp[h,Nat.mod_one]
 .rw[LC,ma z7]
  simp;omega
def aoa{r e t ty:TypeId}{s:Sl}{l:List Value}{m bytes:Nat}{zv:ZC}{Q:ZC->AH->Prop}(h:Row tag I r e s l)(hs:Sep ro I)(ht:P.underlying t=some (.slice e))(hz:qp P e zv 1 bytes)(hzc:zv.cells= #[zv])(hv:qg zv=true)
  (hm:m<=l.length) (hQ:∀ I',qd [r] ro tag I tag I'->Row tag I' r e ⟨s.a,m,s.cap⟩ (l.take m)->Q (.tuple #[]) I'):
  awp P ro (Builtin.clear_ #[t] ty #[Sl.v (⟨wv s.a m s.cap 1,s.len - m,s.cap - m⟩:Sl)]) Q I:=by
 have g0:(#[t]:Array TypeId)[0]?=some t:=rfl
 have g1:(#[Value.slice (wv s.a m s.cap 1) (s.len - m) (s.cap - m)]:Array Value)[0]?=some (Value.slice (wv s.a m s.cap 1) (s.len - m) (s.cap - m)):=rfl
 have hl:=h.len
 unfold Builtin.clear_
 simp only[Sl.v,qy,qS,g0,g1]
 rw[qx ht]
 have done:Q (.tuple #[]) I\/0<s.len - m:=by
  rcases nh (s.len - m)with h0 | h0
  .refine .inl (hQ I (qd.refl hs) ?_)
   exact h.take hm
  .exact .inr h0
 rcases nh (s.len - m)with h0 | h0
 .have hd:=done.resolve_right z7
  rw[h0]
  cases hc:wv s.a m s.cap 1 with
  | none=>exact hd
  | some a=>exact hd
 .rcases h with⟨rfl,rfl⟩ | ⟨b,cs,ha,htg,hbk,hln,hcp,hle,hg⟩
  .simp at h0
  .have hcut:wv s.a m s.cap 1=some ⟨b,m,none⟩:=by
    unfold wv
    rw[ma z7,ha]
    simp[vq]
   rw[hcut]
   obtain⟨k,hk⟩:∃ k,s.len - m=k+1:=⟨s.len - m - 1,z7⟩
   rw[hk]
   simp only
   rw[ab0 hz,hzc,amU]
   refine(vL _ _).2 ?_
   refine jY (List.replicate (k+1) zv) 0 I (age (List.replicate (k+1) zv) cs 0 I hbk j2 (fun v hvm=>by rw[(List.mem_replicate.1 hvm).2];exact hv) fun cs' c1 c2 c3=>?_)
   refine hQ _ (kJ hs htg hbk) ?_
   refine .inr ⟨b,cs',ha,htg,qE _ _ _,j2,by rw[c1];exact hcp,j2,fun i hi=>?_⟩
   simp at hi
   rw[c2 i z7,Lj,mc z7]
   exact hg i z7
end SL
namespace Zt
open Go SL G Pa
variable{B:ZB}{ro I I':AH}{tag tag':Nat->Nat}
def axz:prog.underlying 27=some (.slice 9):=j0
def axA:qp prog 9 (.string ByteArray.empty) 1 16:=qp.of j0
def aq7{q:Nat}{s:Sl}{l:List Str}{f:Str->Bool}{fv:ZC}{Q:Sl->AH->Prop}(h:Row tag I q 9 s (l.map Pa.vS))(hs:SL.Sep ro I)(hl:l.length<4611686018427387904)
  (hcall:∀ k∈l,∀I',qd [q] ro tag I tag I'->∀ K:ZC->AH->Prop,K (.bool (f k)) I'->aeb prog B ro fv [.string (S k)] I' K)
  (hQ:∀ s' I',qd [q] ro tag I tag I'->Row tag I' q 9 s' ((l.filter fun k=> !f k).map Pa.vS)->Q s' I'):xC B ro s fv I Q:=by
 refine acO fun _=>?_
 unfold xD
 refine ac5 fun _=>?_
 unfold xO
 have hln:s.len=l.length:=by rw[h.len,mg]
 have second:∀ (m j w:Nat) (cur:List Str) (I1:AH),j+m=l.length->w<=j->cur.length=l.length->cur.take w=(l.take j).filter (fun k=> !f k)->(∀i,j<=i->cur[i]?=l[i]?)->qd [q] ro tag I tag I1->Row tag I1 q 9 s (cur.map Pa.vS)->
   lfpD (wF B ro s fv Q) ((w:Int),(j:Int)) I1:=by
  intro m
  induction m with
  | zero=>
   intro j w cur I1 hj hw hcl htk hrest st1 r1
   refine lfpD.intro ?_
   unfold wF
   simp only
   rw[ma z7]
   unfold vA
   have hcap:=r1.capAt
   rw[mg]at hcap
   refine⟨⟨trivial,z7,by simp only[cutHi];omega⟩,?_⟩
   rw[mq]
   refine aoa r1 st1.sep axz axA rfl rfl j2 fun I2 st2 r2=>?_
   refine⟨rfl,⟨⟨z7,z7⟩,trivial⟩,?_⟩
   rw[pI,Nat.sub_zero,Nat.sub_zero]
   refine hQ _ I2 (st1.trans st2) ?_
   rw[<-List.map_take,htk,mD z7]at r2
   exact r2
  | succ m ih=>
   intro j w cur I1 hj hw hcl htk hrest st1 r1
   have hjl:j<l.length:=by omega
   have hjc:j<cur.length:=by omega
   have hcj:cur[j]=l[j]:=by
    have:=hrest j (mR _)
    rw[md hjc,md hjl]at this
    exact mB this
   obtain⟨p,hp,_,hget⟩:=Row.sget r1 st1.sep hjc
   refine lfpD.intro ?_
   unfold wF
   simp only
   rw[mc z7]
   refine⟨p,hp,z7,z7,S cur[j],by rw[mq];exact hget j hjc,?_⟩
   rw[hcj]
   refine hcall _ (mJ hjl) I1 st1 _ ⟨f l[j],rfl,?_⟩
   have etk:(l.take (j+1)).filter (fun k=> !f k)=(l.take j).filter (fun k=> !f k)++if f l[j]then []else [l[j]]:=by
    rw[mK,md hjl,List.filter_append]
    simp only[Option.toList_some,List.filter_cons,List.filter_nil]
    cases f l[j]<;>rfl
   cases hf:f l[j]with
   | true=>
    rw[ma y0]
    unfold wE
    rw[Pa.inc j z7]
    exact ih (j+1) w cur I1 z7 z7 hcl (by rw[etk,hf];simpa using htk) (fun i hi=>hrest i z7) st1 r1
   | false=>
    rw[mc y0]
    refine⟨p,hp,z7,z7,?_⟩
    rw[mq]
    refine r1.st (i:=w) st1.sep hp j2 rfl fun I2 st2 r2=>?_
    unfold wE
    rw[Pa.inc j z7,Pa.inc w z7]
    refine ih (j+1) (w+1) (cur.set w l[j]) I2 z7 z7 (j4 hcl) ?_ (fun i hi=>?_) (st1.trans st2) (by rw[List.map_set];exact r2)
    .rw[etk,hf,mK,List.take_set_of_le (mR _),htk,List.getElem?_set_self z7]
     try rfl
    .rw[List.getElem?_set_ne z7];exact hrest i z7
 suffices∀m j,j+m=l.length->(∀k∈l.take j,f k=false)->lfpD (zD B ro s fv fun x10 I=>if x10=(-1)then Q s I else lfpD (wF B ro s fv Q) (x10,i64.wrap (x10+1)) I) (j:Int) I from
  this _ 0 (ml _) y0
 intro m
 induction m with
 | zero=>
  intro j hj hall
  refine lfpD.intro ?_
  unfold zD
  rw[ma z7]
  unfold vH
  show(if(-1:Int)= -1 then _ else _)
  rw[mc rfl]
  rw[mD z7]at hall
  refine hQ s I (qd.refl hs) ?_
  rw[List.filter_eq_self.2 fun k hk=>by rw[hall k hk];try rfl]
  exact h
 | succ m ih=>
  intro j hj hall
  have hjl:j<l.length:=by omega
  obtain⟨p,hpp,_,hget⟩:=Row.sget h hs hjl
  refine lfpD.intro ?_
  unfold zD
  rw[mc z7]
  refine⟨p,hpp,z7,z7,_,hget j hjl,?_⟩
  refine hcall _ (mJ hjl) I (qd.refl hs) _ ⟨f l[j],rfl,?_⟩
  cases hf:f l[j]with
  | true=>
   rw[mc rfl]
   show(if((j:Int))= -1 then _ else _)
   rw[ma z7,Pa.inc j z7]
   have e1:(l.take j).filter (fun k=> !f k)=l.take j:=List.filter_eq_self.2 fun k hk=>by rw[hall k hk];try rfl
   refine second m (j+1) j l I z7 z7 rfl ?_ (fun _ _=>rfl) (qd.refl hs) h
   rw[mK,md hjl,List.filter_append,e1]
   simp[hf]
  | false=>
   rw[ma y1,Pa.inc j z7]
   refine ih (j+1) z7 fun k hk=>?_
   rw[mK,md hjl]at hk
   rcases mv.1 hk with h | h
   .exact hall k h
   .have h':k=l[j]:=by simpa using h
    rw[h'];exact hf
def aeR(u k:Str):Bool:=match aeo u k with
 | some b=>b
 | none=>false
def apB{r T M q:Nat}{bs:List Nat}{st:St}{u:ZA}{Q:Sl->Int->AH->Prop}(g:ze ro)(hr:r<64)(hr0:r≠0)(hq0:q≠0)(h:wa tag I r T M bs st)(hl:∀ p∈st,∃ps,parts p.1=some ps)(hn:st.length<=4398046511104)
  (hbad:parts (L u)=none->∀ tag' I',(∀R,qd R ro tag I tag' I')->Q ⟨none,0,0⟩ 20 I')
  (hQ:∀ ps,parts (L u)=some ps->∀ (s:Sl) (tag':Nat->Nat) (I':AH) (ks:List Str),qd [q] ro tag I tag' I'->ks.Perm (st.map (·.1))->ks.Pairwise (· <= ·)->Row tag' I' q 9 s ((ks.filter fun k=>aeR (L u) k).map Pa.vS)->Q s 0 I'):ab4 B ro (some ⟨T,0,none⟩) u I Q:=by
 refine ajf fun hs=>?_
 unfold aca
 refine qf (tag:=tag) 0 hs fun x tag1 I1 st1 r1=>?_
 have hA:=h.keep (st1 [])
 refine⟨_,Row.cell1 r1 (st1 []).sep,?_⟩
 refine aaj g ?_
 by_cases hc:Pa.chk (L u)=0
 .rw[ma (j4 hc)]
  obtain⟨ps,hps⟩:=vE.1 hc
  have h128:∀ p∈st,p.1.length<=128:=fun p hp=>by
   obtain⟨ps,e⟩:=hl p hp
   obtain⟨e1,e2⟩:=qZ.1 e
   rw[e1];exact e2.len
  refine aiE (q:=q) hA h128 hn fun s tag2 I2 ks st2 hp hsrt hr2=>?_
  have hkl:ks.length=st.length:=by rw[hp.length_eq,mg]
  have r12:=r1.keep (st2 [])
  refine aq7 (f:=fun k=> !aeR (L u) k) hr2 (st2 []).sep z7 (fun k hk I3 st3 K hK=>?_) fun s' I3 st3 r3=>?_
  .have hx:=Row.cell1 (r12.keep st3 (by simpa using fun e=>hq0 e.symm)) st3.sep
   refine awc ?_
   refine ahw fun _=>?_
   unfold aaH
   refine⟨_,hx,?_⟩
   obtain⟨y,hy,e⟩:=mN.1 (hp.mem_iff.1 hk)
   obtain⟨qs,hqs⟩:=hl y hy
   rw[e]at hqs
   have hu:∃ b,aeo (L u) (L (S k))=some b:=by
    unfold aeo
    rw[hps,L_S,hqs]
    exact⟨_,rfl⟩
   obtain⟨b,hb⟩:=hu
   refine atx g (fun hnone=>by rw[hb]at hnone;cases hnone) (fun b' hb'=>?_)
   rw[L_S]at hb'
   unfold aeR at hK
   rw[hb']at hK
   exact hK
  .refine hQ ps hps s' tag2 I3 ks ((st1 _).trans ((st2 _).trans st3)) hp hsrt ?_
   simpa using r3
 .rw[mc (j4 hc)]
  have e:parts (L u)=none:=by
   cases h:parts (L u)with
   | none=>rfl
   | some ps=>exact mt (vE.2 ⟨ps,h⟩) hc
  have:Pa.chk (L u)=20:=by unfold Pa.chk;rw[e];try rfl
  rw[this]
  exact hbad e tag1 I1 st1
end Zt
namespace Zt
open Go SL Pa
def qq(p:Str):Option Str:=match parts p with
 | some (x::_)=>some x
 | _=>none
def uw(h:Str)(p:Str×Nd):Nat:=if qq p.1=some h then p.1.length+p.2.data.length else 0
def zh(st:St)(h:Str):Nat×Nat:=(st.countP fun p=>decide (qq p.1=some h),(st.map (uw h)).sum)
def aoW{a b:List Nat}(h:a.Perm b):a.sum=b.sum:=by
 induction h with
 | nil=>rfl
 | cons x _ ih=>simp[ih]
 | swap x y l=>simp;omega
 | trans _ _ h1 h2=>exact h1.trans h2
def af4{a b:St}(h:a.Perm b)(k:Str):zh a k=zh b k:=by
 unfold zh
 rw[h.countP_eq,aoW (h.map (uw k))]
def asm{p h:Str}(hp:qq p=some h):h≠[]:=by
 unfold qq at hp
 split at hp
 .rename_i x r e
  cases hp
  obtain⟨_,hg⟩:=qZ.1 e
  have:=(ab9 (hg.ok h y0)).1
  intro he;rw[he]at this;simp at this
 .cases hp
def agF{k h:Str}(hk:qq k=some h):parts (47::h)=some [h]/\aeR (47::h) k=true:=by
 unfold qq at hk
 split at hk
 .rename_i x r e
  cases hk
  obtain⟨hl,hg⟩:=qZ.1 e
  have hn:=hg.ok h y0
  have hnl:=ab9 hn
  have hp1:parts (47::h)=some [h]:=qZ.2 ⟨by simp[mk],⟨y0,fun y hy=>by rw[mr.1 hy];exact hn,by simp[mk];omega⟩⟩
  refine⟨hp1,?_⟩
  unfold aeR aeo
  rw[hp1,e]
  simp
 .cases hk
def yy{k:Str}{ps:List Str}(h:parts k=some ps):qq k=ps.head?:=by
 unfold qq
 rw[h]
 cases ps<;>rfl
def vw(st:St)(h:Str)(ks:List Str):Nat×Nat:=
 (ks.countP fun k=>decide (qq k=some h),(ks.map fun k=>if qq k=some h then k.length+(match st.lookup k with | some n=>n.data.length | none=>0)else 0).sum)
def aoX(st:St)(h:Str)(ks:List Str):vw st h (ks.filter fun k=>aeR (47::h) k)=vw st h ks:=by
 unfold vw
 congr 1
 .rw[List.countP_filter]
  refine List.countP_congr fun k _=>?_
  simp only[mu,mS]
  exact⟨fun h=>h.1,fun h=>⟨h,(agF h).2⟩⟩
 .induction ks with
  | nil=>rfl
  | cons k ks ih=>
   rw[List.filter_cons]
   by_cases hk:qq k=some h
   .rw[mc (agF hk).2,mF,mF,List.sum_cons,List.sum_cons,ih]
   .split
    .rw[mF,mF,List.sum_cons,List.sum_cons,ih]
    .rw[mF,List.sum_cons,ma hk,ih,ml]
def apC(st:St)(h:Str)(ks:List Str)(hn:parts (47::h)≠some [h]):vw st h ks=(0,0):=by
 have hno:∀ k,qq k≠some h:=fun k hk=>hn (agF hk).1
 unfold vw
 congr 1
 .rw[List.countP_eq_zero]
  intro k _
  simpa using hno k
 .induction ks with
  | nil=>rfl
  | cons k ks ih=>rw[mF,List.sum_cons,ma (hno k),ih]
def aiJ{st:St}(hk:(st.map (·.1)).Nodup)(h:Str):vw st h ((srt st).map (·.1))=zh st h:=by
 rw[<-af4 (zZ st) h]
 have hmem:∀ p∈srt st,st.lookup p.1=some p.2:=fun p hp=>(qU hk).2 ((zZ st).mem_iff.1 hp)
 unfold vw zh
 rw[List.countP_map,Lh]
 congr 1
 refine mj List.sum (List.map_congr_left fun p hp=>?_)
 simp only[Function.comp_apply,uw]
 rw[hmem p hp]
def anC(st:St)(h:Str)(ks:List Str)(hs:∀ k∈ks,k.length<=128)(hd:∀ k n,st.lookup k=some n->n.data.length<=256):(vw st h ks).1<=ks.length/\(vw st h ks).2<=384*ks.length:=by
 refine⟨List.countP_le_length,?_⟩
 unfold vw
 simp only
 induction ks with
 | nil=>simp
 | cons k ks ih=>
  have:=ih fun k hk=>hs k (by simp[hk])
  have h1:=hs k y0
  rw[mF,List.sum_cons,mz]
  have h2:(match st.lookup k with | some n=>n.data.length | none=>0)<=256:=by
   cases e:st.lookup k with
   | none=>simp
   | some n=>exact hd k n e
  split<;>omega
def aq8(st:St)(h:Str)(a:List Str)(k:Str):vw st h (a++[k])=if qq k=some h then((vw st h a).1+1,(vw st h a).2+(k.length+(match st.lookup k with | some n=>n.data.length | none=>0)))else vw st h a:=by
 unfold vw
 rw[List.countP_append,my,List.sum_append]
 by_cases hk:qq k=some h<;>simp[hk]
def adc(st:St)(hs:List Str):Nat×Nat:=hs.foldl (fun a h=>(a.1+(zh st h).1,a.2+(zh st h).2)) (0,0)
def aoY{st:St}(hi:Inv st)(h:Str):(zh st h).1<=st.length/\(zh st h).2<=384*st.length:=by
 have:=anC st h ((srt st).map (·.1)) (fun k hk=>by
  obtain⟨p,hp,rfl⟩:=mN.1 hk
  exact(hi.small p ((zZ st).mem_iff.1 hp)).1) hi.data
 rw[aiJ hi.keys,mg,(zZ st).length_eq]at this
 exact this
structure MOp where
 kind:Int
 path:Str
 data:Str
 ver:Int
 eph:Bool
 seq:Bool
structure ph where
 st:St
 res:List (Str×Int)
 eff:List (Int×Str)
def wT(home:Str)(o:MOp):Int:=
 if o.kind<1\/4<o.kind then 80
 else match parts o.path with
  | none=>20
  | some ps=>if ps.head?≠some home\/(ps.length=1/\o.kind<=2)then 82 else 0
def afL(st:St)(p:Str)(v:Int):Int:=match st.lookup p with
 | none=>70
 | some n=>if v≠ -1/\v≠n.ver then 72 else 0
def vT(owner:Int)(st:St)(o:MOp):St×Str×Int×Int:=
 if o.kind=1 then((we st o.path o.data (if o.eph then owner else 0) o.seq).1,(we st o.path o.data (if o.eph then owner else 0) o.seq).2.1,0,(we st o.path o.data (if o.eph then owner else 0) o.seq).2.2)
 else if o.kind=2 then((wo st o.path o.ver).1,[],0,(wo st o.path o.ver).2)
 else if o.kind=3 then((kn st o.path o.data o.ver).1,[],(kn st o.path o.data o.ver).2.1,(kn st o.path o.data o.ver).2.2)
 else(st,[],0,afL st o.path o.ver)
def aer(st:St)(home:Str)(qn qb kind:Int):Bool:=(decide (kind=1) || decide (kind=3)) && (decide (qn<((zh st home).1:Nat)) || decide (qb<((zh st home).2:Nat)))
def doE(home:Str)(owner qn qb:Int)(w:ph)(o:MOp):Int×ph:=
 if wT home o≠0 then(wT home o,w)
 else if(vT owner w.st o).2.2.2≠0 then((vT owner w.st o).2.2.2,{w with st:=(vT owner w.st o).1})
 else if aer (vT owner w.st o).1 home qn qb o.kind then(81,{w with st:=(vT owner w.st o).1})
 else(0,⟨(vT owner w.st o).1,w.res++[((vT owner w.st o).2.1,(vT owner w.st o).2.2.1)],if o.kind=4 then w.eff else w.eff++[(o.kind,if o.kind=1 then(vT owner w.st o).2.1 else o.path)]⟩)
def aeS{b:Nat}{owner:Int}{st:St}{o:MOp}(h:qQ b st)(hb:b<=4398046511103):qQ (b+1) (vT owner st o).1:=by
 unfold vT
 split
 .exact akV h hb
 .split
  .exact akW h hb
  .split
   .exact atM h hb
   .exact h.mono z7
def aeT{b:Nat}{home:Str}{owner qn qb:Int}{w:ph}{o:MOp}(h:qQ b w.st)(hb:b<=4398046511103):qQ (b+1) (doE home owner qn qb w o).2.st:=by
 unfold doE
 split
 .exact h.mono z7
 .split
  .exact aeS h hb
  .split
   .exact aeS h hb
   .exact aeS h hb
def aql{home:Str}{owner qn qb:Int}{w:ph}{o:MOp}:(doE home owner qn qb w o).2.res.length<=w.res.length+1/\(doE home owner qn qb w o).2.eff.length<=w.eff.length+1:=by
 unfold doE
 split
 .exact⟨y0,y0⟩
 .split
  .exact⟨y0,y0⟩
  .split
   .exact⟨y0,y0⟩
   .refine⟨y0,?_⟩
    simp only
    split<;>simp