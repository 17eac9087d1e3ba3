import Derived.Sort.Walk0
import Derived.Test.YtomdigihapdhnaaGreatDoorXI
set_option linter.all false
set_option maxRecDepth 99999
set_option maxHeartbeats 0
open Go.IntKind(i64)
open Go.Proofs.Tryz
namespace Go.Proofs.YtomdigihapdhnaaGreatDoor
namespace Wi
open Go SL G Zt
variable{B:World}{ro I I':AH}{tag tag':Nat->Nat}
variable{Q:Int->AH->Prop}{R:List Nat}{A q r:Nat}{x:Rd}{a s:Sl}{b l:Str}
def jP(tag:Nat->Nat)(I:AH)(q:Nat)(s:Sl)(l:Str):Prop:=
 (s=⟨none,0,0⟩/\l=[])\/∃ (g:Nat) (cs:Array Value) (k:Nat),s.a=some ⟨g,k,none⟩/\tag g=q/\I g=some (.cells cs 5)/\s.len=l.length/\s.len<=s.cap/\∀ (i:Nat) (c:UInt8),l[i]?=some c->cs[k+i]?=some (vU c)
theorem jP.len(h:jP tag I q s l):s.len=l.length:=by
 rcases h with⟨rfl,rfl⟩ | ⟨_,_,_,_,_,_,h,_⟩
 .rfl
 .exact h
theorem jP.cap(h:jP tag I q s l):s.len<=s.cap:=by
 rcases h with⟨rfl,rfl⟩ | ⟨_,_,_,_,_,_,_,h,_⟩
 .exact Nat.le_refl _
 .exact h
theorem jP.keep(h:jP tag I q s l)(k:qe R ro tag I tag' I')(hr:q∉R:=by simp):jP tag' I' q s l:=by
 rcases h with h | ⟨g,cs,o,ha,ht,hb,hx⟩
 .exact .inl h
 .obtain⟨t,e⟩:=k.keep g _ hb (by rw[ht];exact hr)
  exact .inr ⟨g,cs,o,ha,t.trans ht,e,hx⟩
theorem jP.of_row(h:Row tag I q 5 s (l.map vU)):jP tag I q s l:=by
 rcases h with⟨rfl,h⟩ | ⟨b,cs,ha,ht,hb,hln,hc,hle,hg⟩
 .exact .inl ⟨rfl,by simpa using h⟩
 .refine .inr ⟨b,cs,0,ha,ht,hb,by rw[hln,List.length_map],hle,fun i c hi=>?_⟩
  have hil:i<l.length:=by
   rcases Nat.lt_or_ge i l.length with h | h
   .exact h
   .rw[List.getElem?_eq_none h]at hi;cases hi
  rw[Nat.zero_add,hg i (by simpa using hil),List.getElem?_map,hi];try rfl
theorem jP.read(h:jP tag I q s l)(hs:SL.Sep ro I):SL.zw ro I s (l.map vU):=by
 refine⟨by rw[h.len,List.length_map],fun hn=>?_,fun p hp i v hv=>?_⟩
 .rcases h with⟨_,rfl⟩ | ⟨_,_,_,ha,_⟩
  .rfl
  .rw[hn]at ha;cases ha
 .rcases h with⟨rfl,_⟩ | ⟨g,cs,k,ha,ht,hb,hln,hle,hg⟩
  .cases hp
  .rw[hp]at ha;cases ha
   rw[List.getElem?_map]at hv
   obtain⟨c,hc,rfl⟩:=Option.map_eq_some_iff.1 hv
   unfold qa rd
   simp only[vn,hs g _ hb,hb,vy]
   exact hg i c hc
theorem jP.drop{e:Nat}(h:jP tag I q s l)(he:e<=l.length):jP tag I q ⟨wu s.a e s.cap 1,s.len - e,s.cap - e⟩ (l.drop e):=by
 rcases h with⟨rfl,rfl⟩ | ⟨g,cs,k,ha,ht,hb,hln,hle,hg⟩
 .have:e=0:=by simpa using he
  subst this
  exact .inl ⟨by simp[wu],rfl⟩
 .unfold wu
  by_cases hc:s.cap=e
  .rw[if_pos hc]
   refine .inr ⟨g,cs,k,ha,ht,hb,by simp;omega,by simp;omega,fun i c hi=>?_⟩
   rw[List.drop_of_length_le (by omega)]at hi;cases hi
  .rw[if_neg hc]
   refine .inr ⟨g,cs,k+e,by simp[ha,vn],ht,hb,by simp;omega,by simp;omega,fun i c hi=>?_⟩
   rw[List.getElem?_drop]at hi
   rw[Nat.add_assoc];exact hg (e+i) c hi
theorem jP.takeR{n:Nat}(h:jP tag I q s l)(hs:SL.Sep ro I)(hn:n<=l.length):SL.zw ro I ⟨wu s.a 0 s.cap 1,n - 0,s.cap - 0⟩ ((l.take n).map vU):=by
 have hr:=h.read hs
 rw[pR]
 refine⟨by simp;omega,fun ha=>?_,fun p hp i v hv=>?_⟩
 .have:=hr.2.1 ha
  have:l=[]:=by simpa using this
  rw[this];simp
 .refine hr.2.2 p hp i v ?_
  rw[List.map_take,List.getElem?_take]at hv
  split at hv
  .exact hv
  .cases hv
def jz(tag:Nat->Nat)(I:AH)(r A:Nat)(x:Rd):Prop:=
 ∃s:Sl,Row tag I r 231 ⟨some ⟨A,0,none⟩,2,2⟩ [Sl.v s,Zt.vI x.err]/\jP tag I 6 s x.rest/\x.rest.length<=140737488355328
theorem jz.keep(h:jz tag I r A x)(k:qe R ro tag I tag' I')(h1:r∉R:=by simp)(h2:6∉R:=by simp):jz tag' I' r A x:=by
 obtain⟨s,a,b,c⟩:=h
 exact⟨s,a.keep k h1,b.keep k h2,c⟩
theorem jz.keepC{c:Nat}(h:jz tag I r A x)(k:zF c ro tag I tag' I')(hr:r%64≠c:=by decide)(h6:c≠6:=by decide):jz tag' I' r A x:=by
 obtain⟨R,h1,h2⟩:=k
 exact h.keep h2 (fun m=>hr (h1 _ m)) (fun m=>h6 (h1 _ m).symm)
theorem ah8{Q:Option Addr->AH->Prop}(h:SL.zw ro I a (b.map vU))(hs:SL.Sep ro I)(hl:b.length<=140737488355328)(hQ:∀ A tag' I',(∀R,qe R ro tag I tag' I')->jz tag' I' r A ⟨b,0⟩->Q (some ⟨A,0,none⟩) I'):
  uS B ro a I Q:=by
 refine aiO fun _=>?_
 unfold acA
 refine aba (tag:=tag) h hs (by simp;omega) (al3 _) fun s tag1 I1 st1 r1=>?_
 refine qj (tag:=tag1) r (st1 []).sep fun A tag2 I2 st2 r2=>?_
 exact hQ A tag2 I2 (fun R=>(st1 R).trans (st2 R)) ⟨s,r2,jP.of_row (r1.keep (st2 [])),hl⟩
theorem anI(h:jz tag I r A x)(hs:SL.Sep ro I)(hQ:Q (x.rest.length:Nat) I):pM B ro (some ⟨A,0,none⟩) I Q:=by
 refine ahC fun _=>?_
 unfold abf
 obtain⟨s,a,b,c⟩:=h
 obtain⟨p,hp,hg⟩:=a.ptr hs (by simp)
 cases hp
 refine⟨_,rfl,s,hg 0 _ rfl,?_⟩
 rw[b.len];exact hQ
theorem anJ(h:jz tag I r A x)(hs:SL.Sep ro I)(hQ:Q x.err I):ur B ro (some ⟨A,0,none⟩) I Q:=by
 refine ah5 fun _=>?_
 unfold abH
 obtain⟨s,a,b,c⟩:=h
 obtain⟨p,hp,hg⟩:=a.ptr hs (by simp)
 cases hp
 exact⟨_,rfl,x.err,hg 1 _ rfl,hQ⟩
theorem vX(h:jz tag I r A x)(h6:r≠6)(hs:SL.Sep ro I)(hQ:∀ I',qe [r] ro tag I tag I'->jz tag I' r A (qR x).2->Q ((qR x).1:Nat) I'):qN B ro (some ⟨A,0,none⟩) I Q:=by
 refine ah4 fun _=>?_
 unfold abG
 obtain⟨s,a,b,c⟩:=id h
 obtain⟨p,hp,hg⟩:=a.ptr hs (by simp)
 cases hp
 refine⟨_,rfl,x.err,hg 1 _ rfl,?_⟩
 by_cases he:x.err=0
 .rw[if_neg (by simpa using he)]
  refine⟨_,rfl,s,hg 0 _ rfl,?_⟩
  refine apn (b.read hs) c ?_
  have hrn:qR x=((num x.rest).1,⟨x.rest.drop (num x.rest).2.1,(num x.rest).2.2⟩):=by unfold qR;rw[if_neg (by simpa using he)]
  rw[hrn]at hQ
  have hle:=apd x.rest
  have hln:=b.len
  have hcp:=b.cap
  refine⟨_,rfl,?_⟩
  refine a.st (i:=1) hs rfl (by simp) rfl fun I1 st1 r1=>?_
  obtain⟨p1,hp1,hg1⟩:=r1.ptr st1.sep (by simp)
  cases hp1
  refine⟨_,rfl,s,hg1 0 _ rfl,⟨trivial,by omega,by simp only[cutHi];omega⟩,_,rfl,?_⟩
  rw[Int.toNat_natCast]
  refine r1.st (i:=0) st1.sep rfl (by simp) rfl fun I2 st2 r2=>?_
  refine hQ I2 (st1.trans st2) ⟨_,r2,((b.drop hle.1).keep st1 (by simpa using fun h=>h6 h.symm)).keep st2 (by simpa using fun h=>h6 h.symm),by simp;omega⟩
 .rw[if_pos (by simpa using he)]
  rw[ajm he]at hQ
  exact hQ I (qe.refl hs) h
theorem ah9{Q:Sl->AH->Prop}(h:jz tag I r A x)(h6:r≠6)(hs:SL.Sep ro I)
  (hQ:∀ s tag' I',qe [r] ro tag I tag' I'->Row tag' I' 6 5 s ((wo x).1.map vU)->jz tag' I' r A (wo x).2->Q s I'):jM B ro (some ⟨A,0,none⟩) I Q:=by
 refine ahB fun _=>?_
 unfold abe
 obtain⟨s,a,b,c⟩:=id h
 obtain⟨p,hp,hg⟩:=a.ptr hs (by simp)
 cases hp
 refine⟨_,rfl,s,hg 0 _ rfl,?_⟩
 refine vX h h6 hs fun I1 st1 h1=>?_
 have h61:6∉[r]:=by simpa using fun h=>h6 h.symm
 obtain⟨s1,a1,b1,c1⟩:=id h1
 obtain⟨p1,hp1,hg1⟩:=a1.ptr st1.sep (by simp)
 cases hp1
 refine⟨_,rfl,_,hg1 1 _ rfl,?_⟩
 by_cases he:(qR x).2.err=0
 .rw[if_neg (by simpa using he)]
  refine⟨_,rfl,s1,hg1 0 _ rfl,?_⟩
  have hln1:=b1.len
  have hcp1:=b1.cap
  by_cases hlt:(qR x).2.rest.length<(qR x).1
  .rw[if_pos (by omega)]
   have hrb:wo x=([],⟨x.rest,12⟩):=by unfold wo;rw[if_neg (by simpa using he),if_pos hlt]
   rw[hrb]at hQ
   refine⟨_,rfl,?_⟩
   refine a1.st (i:=1) st1.sep rfl (by simp) rfl fun I2 st2 r2=>?_
   refine⟨_,rfl,?_⟩
   refine r2.st (i:=0) st2.sep rfl (by simp) rfl fun I3 st3 r3=>?_
   exact hQ ⟨none,0,0⟩ tag I3 (st1.trans (st2.trans st3)) (Row.nil 6 5) ⟨s,r3,((b.keep st1 h61).keep st2 h61).keep st3 h61,c⟩
  .rw[if_neg (by omega)]
   have hrb:wo x=((qR x).2.rest.take (qR x).1,⟨(qR x).2.rest.drop (qR x).1,0⟩):=by unfold wo;rw[if_neg (by simpa using he),if_neg hlt]
   rw[hrb]at hQ
   refine⟨_,rfl,s1,hg1 0 _ rfl,⟨⟨by omega,by omega⟩,trivial⟩,?_⟩
   rw[Int.toNat_natCast]
   refine aba (tag:=tag) (b1.takeR st1.sep (by omega)) st1.sep (by simp;omega) (al3 _) fun s2 tag2 I2 st2 r2=>?_
   have a2:=a1.keep (st2 [])
   obtain⟨p2,hp2,hg2⟩:=a2.ptr (st2 []).sep (by simp)
   cases hp2
   refine⟨_,rfl,s1,hg2 0 _ rfl,⟨trivial,by omega,by simp only[cutHi];omega⟩,_,rfl,?_⟩
   refine a2.st (i:=0) (st2 []).sep rfl (by simp) rfl fun I3 st3 r3=>?_
   rw[he]at r3
   refine hQ s2 tag2 I3 (st1.trans ((st2 _).trans st3)) (r2.keep st3 h61) ⟨_,r3,((b1.drop (by omega)).keep (st2 [])).keep st3 h61,by simp;omega⟩
 .rw[if_pos (by simpa using he)]
  have hrb:wo x=([],(qR x).2):=by unfold wo;rw[if_pos (by simpa using he)]
  rw[hrb]at hQ
  exact hQ ⟨none,0,0⟩ tag I1 st1 (Row.nil 6 5) h1
theorem afw{Q:ByteArray->AH->Prop}(h:jz tag I r A x)(h6:r≠6)(hs:SL.Sep ro I)
  (hQ:∀ tag' I',qe [r] ro tag I tag' I'->jz tag' I' r A (wo x).2->Q (S (wo x).1) I'):xn B ro (some ⟨A,0,none⟩) I Q:=by
 refine ahA fun _=>?_
 unfold abd
 refine ah9 h h6 hs fun s tag1 I1 st1 r1 h1=>?_
 exact asf (r1.read st1.sep) ⟨_,rfl,hQ tag1 I1 st1 h1⟩
end Wi
namespace Zt
open Go SL G Pa Wi
variable{B:World}{ro I I':AH}{tag tag':Nat->Nat}
variable{C bs:List Nat}{M T r:Nat}{n:Nd}{Q:Option Addr->Int->AH->Prop}{st:St}{b q:Str}
theorem aps(a b:ByteArray):afp a b=true↔L a<L b:=by
 unfold afp
 rw[Go.Proofs.bytesLess_eq,ByteArray.toList_eq,ByteArray.toList_eq]
 simp[L]
theorem aia(a b:ByteArray):(afp a b=true\/a=b)↔L a<=L b:=by
 rw[aps,List.le_iff_lt_or_eq]
 constructor
 .rintro(h | h)
  .exact .inl h
  .exact .inr (by rw[h])
 .rintro(h | h)
  .exact .inl h
  .exact .inr (pL h)
theorem qZ.add2{b:Nat}{tag2:Nat->Nat}{I2:AH}(h:qZ tag I r T M bs st)(hr:r<64)(hr6:r≠6)(hq:st.lookup q=none)(hnb:b∉bs)(k:qe [r+64] ro tag I tag2 I2)(hnew:abX tag2 I2 r b n)(hm:zO tag2 I2 (r+64) M (aeV (kv st bs) q (ptr b))):qZ tag2 I2 r T M (bs++[b]) (st++[(q,n)]):=by
 refine⟨?_,by simp[h.len],?_,h.cell.keep k,?_,fun i c p hc hp=>?_⟩
 .rw[List.map_append,List.nodup_append]
  refine⟨h.keys,by simp,?_⟩
  intro x hx y hy
  simp at hy
  intro e
  exact abY hq (by rw[<-hy,<-e];exact hx)
 .rw[List.nodup_append]
  refine⟨h.nd,by simp,?_⟩
  intro x hx y hy
  simp at hy
  intro e
  exact hnb (by rw[<-hy,<-e];exact hx)
 .rw[ao8 _ _ _ _ _ h.len,<-anA _ _ _ _ h.len hq];exact hm
 .rcases Nat.lt_or_ge i bs.length with hi | hi
  .rw[List.getElem?_append_left hi]at hc
   rw[List.getElem?_append_left (by rw[<-h.len];exact hi)]at hp
   exact(h.nodes i c p hc hp).keep k (by simp<;>omega) (by simp)
  .rw[List.getElem?_append_right hi]at hc
   rw[List.getElem?_append_right (by rw[<-h.len];exact hi),<-h.len]at hp
   cases hd:i - bs.length with
   | zero=>
    rw[hd]at hc hp
    cases hc;cases hp
    exact hnew
   | succ j=>rw[hd]at hc;cases hc
theorem as0{b:Nat}{p last:ByteArray}{Q:Bool->AH->Prop}(g:wV ro)(hr:r<64)(hr6:r≠6)(hr0:r≠0)(h:qZ tag I r T M bs st)(hn:abX tag I r b n)(hnb:b∉bs)
  (hk:∀ x∈st,x.1<=L last) (hne:∀ x∈st,x.1≠[])
  (hno:lay st (L last) (L p) n=none->∀ tag' I',zF r ro tag I tag' I'->Q false I') (hyes:∀ st',lay st (L last) (L p) n=some st'->∀ tag' I',zF r ro tag I tag' I'->(∃bs',qZ tag' I' r T M bs' st'/\∀ x∈bs',x∈bs\/x=b)->Q true I'):
  acq B ro (some ⟨T,0,none⟩) p last (some ⟨b,0,none⟩) I Q:=by
 refine aiL fun hs=>?_
 unfold acw
 obtain⟨ds,hn1,hn2⟩:=id hn
 obtain⟨pb,hpb,hg⟩:=hn1.ptr hs (by simp)
 cases hpb
 have dlen:ds.len=n.data.length:=by rw[hn2.len,List.length_map]
 let bad:Prop:=parts (L p)=none\/L p<=L last\/256<n.data.length\/10000000000<n.ctr\/(n.own≠0/\0<n.ctr)
 have hbad:bad->lay st (L last) (L p) n=none:=fun h=>by unfold lay;rw[if_pos h]
 have refused:bad->vN B ro (some ⟨T,0,none⟩) p last (some ⟨b,0,none⟩) Q true I:=fun hb=>by
  unfold vN
  rw[if_pos rfl]
  exact hno (hbad hb) tag I (zF.refl hs)
 have r4:bad->kK B ro (some ⟨T,0,none⟩) p last (some ⟨b,0,none⟩) Q true I:=fun hb=>by
  unfold kK;rw[if_pos rfl];exact refused hb
 have r2:bad->kM B ro (some ⟨T,0,none⟩) p last (some ⟨b,0,none⟩) Q true I:=fun hb=>by
  unfold kM;rw[if_pos rfl];exact r4 hb
 refine ug g ?_
 by_cases c1:(¬(Pa.chk (L p)=0))\/((afp p last=true)\/p=last)
 .rw[if_pos c1]
  refine r2 ?_
  rcases c1 with c1 | c1
  .refine .inl ?_
   cases e:parts (L p)with
   | none=>rfl
   | some ps=>exact absurd (vq.2 ⟨ps,e⟩) c1
  .exact .inr (.inl ((aia p last).1 c1))
 rw[if_neg c1]
 simp only[not_or]at c1
 have hgt:¬ L p<=L last:=fun h=>by
  rcases(aia p last).2 h with h | h
  .exact c1.2.1 h
  .exact c1.2.2 h
 obtain⟨ps,hps⟩:=vq.1 (Classical.not_not.1 c1.1)
 refine⟨_,rfl,ds,hg 4 _ rfl,?_⟩
 by_cases c2:256<n.data.length
 .rw[show decide (256<(ds.len:Int))=true from by rw[dlen];simp;omega]
  exact r2 (.inr (.inr (.inl c2)))
 rw[show decide (256<(ds.len:Int))=false from by rw[dlen];simp;omega]
 unfold kM
 rw[if_neg (by decide)]
 refine⟨_,rfl,n.ctr,hg 1 _ rfl,?_⟩
 by_cases c3:10000000000<n.ctr
 .rw[show decide (10000000000<n.ctr)=true from by simpa using c3]
  exact r4 (.inr (.inr (.inr (.inl c3))))
 rw[show decide (10000000000<n.ctr)=false from by simpa using c3]
 unfold kK
 rw[if_neg (by decide)]
 refine⟨_,rfl,n.own,hg 2 _ rfl,?_⟩
 have good:¬ bad->vN B ro (some ⟨T,0,none⟩) p last (some ⟨b,0,none⟩) Q false I:=fun hnbad=>by
  have hq:st.lookup (L p)=none:=by
   cases e:st.lookup (L p)with
   | none=>rfl
   | some m=>exact absurd (hk _ ((qW h.keys).1 e)) hgt
  unfold vN
  rw[if_neg (by decide)]
  have hlay:lay st (L last) (L p) n=if L last=[]then(if L p=[47]/\n.data=[]/\n.ver=0/\n.own=0 then some (st++[(L p,n)])else none)
    else match qB (L p)with
     | none=>none
     | some u=>match st.lookup u with
      | none=>none
      | some m=>if m.own≠0 then none else some (wi st u afU++[(L p,n)]):=by
   conv=>lhs;unfold lay
   rw[if_neg hnbad]
   try rfl
  by_cases cl:last=⟨#[]⟩
  .rw[if_pos cl]
   have cl':L last=[]:=by rw[cl];try rfl
   rw[if_pos cl']at hlay
   refine⟨_,rfl,_,Row.cell1 h.cell hs,?_⟩
   rw[<-S_L p]
   refine abp h.map hs u126 u9 fun I1 st1 m1=>?_
   have st1c:zF r ro tag I tag I1:=st1.c (by simp<;>omega)
   have hn':=hn.keep st1 (by simp<;>omega) (by simp<;>omega)
   have hA:=h.add2 hr hr6 hq hnb st1 hn' m1
   obtain⟨ds',hn1',hn2'⟩:=hn'
   obtain⟨pb',hpb',hg'⟩:=hn1'.ptr st1.sep (by simp)
   cases hpb'
   have dlen':ds'.len=n.data.length:=by rw[hn2'.len,List.length_map]
   have fin:∀ x:Bool,(x=true↔(L p=[47]/\n.data=[]/\n.ver=0/\n.own=0))->Q x I1:=fun x hx=>by
    by_cases hc:L p=[47]/\n.data=[]/\n.ver=0/\n.own=0
    .rw[hx.2 hc]
     rw[if_pos hc]at hlay
     exact hyes _ hlay tag I1 st1c ⟨_,hA,fun x hx=>by simpa using hx⟩
    .have:x=false:=by
      cases x with
      | false=>rfl
      | true=>exact absurd (hx.1 rfl) hc
     rw[this]
     rw[if_neg hc]at hlay
     exact hno hlay tag I1 st1c
   have j10:∀ x:Bool,(x=true↔(L p=[47]/\n.data=[]))->xq B ro (some ⟨b,0,none⟩) Q x I1:=fun x hx=>by
    unfold xq
    cases x with
    | true=>
     rw[if_pos rfl]
     have hx':=hx.1 rfl
     refine⟨_,rfl,n.ver,hg' 0 _ rfl,?_⟩
     unfold xp
     by_cases hv:n.ver=0
     .rw[if_pos (by simpa using hv)]
      refine⟨_,rfl,n.own,hg' 2 _ rfl,?_⟩
      unfold kj
      exact fin _ (by simp[hx',hv])
     .rw[if_neg (by simpa using hv)]
      unfold kj
      exact fin _ (by simp[hv])
    | false=>
     rw[if_neg (by decide)]
     have hx':¬ (L p=[47]/\n.data=[]):=fun h=>by have:=hx.2 h;cases this
     unfold xp
     rw[if_neg (by decide)]
     unfold kj
     exact fin _ ⟨fun h=>(by cases h),fun h=>absurd ⟨h.1,h.2.1⟩ hx'⟩
   by_cases cr:S (L p)=(⟨#[47]⟩:ByteArray)
   .rw[if_pos cr]
    have cr':L p=[47]:=ab9.1 cr
    refine⟨_,rfl,ds',hg' 4 _ rfl,?_⟩
    refine j10 _ ?_
    rw[dlen']
    simp only[decide_eq_true_eq,cr',true_and]
    constructor
    .intro h;exact List.eq_nil_of_length_eq_zero (by omega)
    .intro h;rw[h];try rfl
   .rw[if_neg cr]
    have cr':¬ L p=[47]:=fun h=>cr (ab9.2 h)
    exact j10 _ ⟨fun h=>(by cases h),fun h=>absurd h.1 cr'⟩
  .rw[if_neg cl]
   have cl':L last≠[]:=fun h=>cl (pL h)
   rw[if_neg cl']at hlay
   have j27no:∀ x98,lay st (L last) (L p) n=none->zT B ro (some ⟨T,0,none⟩) p (some ⟨b,0,none⟩) x98 Q true I:=fun x98 hl=>by
    unfold zT
    rw[if_pos rfl]
    exact hno hl tag I (zF.refl hs)
   have look:∀ u:Str,(qB (L p)=none->lay st (L last) (L p) n=none)->(qB (L p)≠some u->st.lookup u=none)->(qB (L p)=some u\/qB (L p)=none)->
     awp prog ro (Instr.lookup 237 (.map (some M)) (.string (S u)) false) (fun v I=>
      (∃(x98_26:Option Addr),v= .pointer x98_26/\
       if x98_26=none then
       zT B ro (some ⟨T,0,none⟩) p (some ⟨b,0,none⟩) x98_26 Q true I
       else
       ∃p103_34:Addr,x98_26=some p103_34/\
       ∃(x106_35:Int),qa ro I (p103_34.add 2)=some (.int .i64 x106_35)/\
       zT B ro (some ⟨T,0,none⟩) p (some ⟨b,0,none⟩) x98_26 Q (!(decide (x106_35=0))) I)) I:=fun u hnp hnl hor=>by
    refine jv h.map hs u126 u9 agR ?_
    rcases aa9 st bs u h.len with⟨a,e⟩ | ⟨i,b',m,a1,a2,a3,e⟩
    .rw[e]
     refine⟨none,rfl,?_⟩
     rw[if_pos rfl]
     refine j27no none ?_
     rcases hor with hp | hp
     .rw[hlay,hp];simp only;rw[a]
     .exact hnp hp
    .rw[e]
     refine⟨some ⟨b',0,none⟩,rfl,?_⟩
     rw[if_neg (by simp)]
     have hp:qB (L p)=some u:=Classical.byContradiction fun hc=>by rw[hnl hc]at a3;cases a3
     obtain⟨dm,hm1,hm2⟩:=h.nodes i b' _ a1 a2
     obtain⟨pm,hpm,hgm⟩:=hm1.ptr hs (by simp)
     cases hpm
     refine⟨_,rfl,m.own,hgm 2 _ rfl,?_⟩
     by_cases co:m.own=0
     .rw[show(!decide (m.own=0))=false from by simp[co]]
      have hl:lay st (L last) (L p) n=some (wi st u afU++[(L p,n)]):=by rw[hlay,hp];simp only;rw[a3];simp only;rw[if_neg (by simpa using co)]
      unfold zT
      rw[if_neg (by decide)]
      refine⟨_,rfl,m.kids,hgm 3 _ rfl,_,rfl,?_⟩
      refine hm1.st (i:=3) hs rfl (by simp) rfl fun I1 st1 r1=>?_
      have hA1:=h.write (n':=afU m) hr hr6 a1 a2 st1 ⟨dm,r1,hm2.keep st1 (by simp<;>omega)⟩
      rw[<-agQ h.keys a2 afU]at hA1
      have hbb:b≠b':=fun e=>hnb (by rw[e];exact List.mem_of_getElem? a1)
      have hnk:=hn.keep st1 (by simp<;>omega) (by simp<;>omega)
      refine⟨_,rfl,_,Row.cell1 hA1.cell st1.sep,?_⟩
      rw[<-S_L p]
      refine abp hA1.map st1.sep u126 u9 fun I2 st2 m2=>?_
      have hq1:(wi st u afU).lookup (L p)=none:=by
       rw[zd];split
       .rw[hq];try rfl
       .exact hq
      have hA2:=hA1.add2 hr hr6 hq1 hnb st2 (hnk.keep st2 (by simp<;>omega) (by simp<;>omega)) m2
      exact hyes _ hl tag I2 ((st1.c (by simp<;>omega)).trans (st2.c (by simp<;>omega))) ⟨_,hA2,fun x hx=>by simpa using hx⟩
     .rw[show(!decide (m.own=0))=true from by simp[co]]
      exact j27no _ (by rw[hlay,hp];simp only;rw[a3];simp only;rw[if_pos co])
   refine Pa.ad3 g (fun hpn=>?_) (fun u hu=>?_)
   .refine⟨_,rfl,_,Row.cell1 h.cell hs,?_⟩
    refine look [] (fun hp=>by rw[hlay,hp]) (fun _=>?_) (.inr hpn)
    cases e:st.lookup []with
    | none=>rfl
    | some m=>exact absurd rfl (hne _ ((qW h.keys).1 e))
   .refine⟨_,rfl,_,Row.cell1 h.cell hs,?_⟩
    exact look u (fun hp=>by rw[hu]at hp;cases hp) (fun hc=>absurd hu hc) (.inl hu)
 by_cases c4:n.own≠0
 .rw[if_pos (by simpa using c4)]
  refine⟨_,rfl,n.ctr,hg 1 _ rfl,?_⟩
  unfold xr
  by_cases c5:0<n.ctr
  .rw[show decide (0<n.ctr)=true from by simpa using c5]
   exact refused (.inr (.inr (.inr (.inr ⟨c4,c5⟩))))
  .rw[show decide (0<n.ctr)=false from by simpa using c5]
   refine good ?_
   rintro(h | h | h | h | h)
   .rw[hps]at h;cases h
   .exact hgt h
   .exact c2 h
   .exact c3 h
   .exact c5 h.2
 .rw[if_neg (by simpa using c4)]
  unfold xr
  refine good ?_
  rintro(h | h | h | h | h)
  .rw[hps]at h;cases h
  .exact hgt h
  .exact c2 h
  .exact c3 h
  .exact c4 h.1
theorem wa.keepS(h:wa tag I r T st)(k:StepS C ro tag I tag' I')(hr:r%64∉C:=by decide)(h6:6∉C:=by decide):wa tag' I' r T st:=by
 obtain⟨R,h1,h2⟩:=k
 exact h.keep h2 fun x hx=>⟨fun e=>hr (by rw[<-e];exact h1 x hx),fun e=>h6 (by have:=h1 x hx;rw[e]at this;exact this)⟩
theorem qZ.fresh_b{b:Nat}(h:qZ tag I r T M bs st)(hb:I b=none):b∉bs:=fun hm'=>by
 obtain⟨i,hi,e⟩:=List.getElem_of_mem hm'
 have hb':bs[i]?=some b:=by rw[List.getElem?_eq_getElem hi,e]
 have hil:i<st.length:=by rw[<-h.len];exact hi
 obtain⟨s,hn,_⟩:=h.nodes i b _ hb' (List.getElem?_eq_getElem hil)
 obtain⟨_,o,ho⟩:=hn.tagOf
 rw[hb]at ho;cases ho
theorem alJ{x:Rd}(h:(vL x).2.err=0):(vL x).2.rest.length<x.rest.length:=by
 unfold vL at h⊢
 simp only at h⊢
 have h4:=agT h
 have h3:=agT h4
 have h2:=agT h3
 have h1:=apf h2
 have e1:=(ai3 (r:=x) h1).2
 have e2:=(ai3 (r:=(wo x).2) h2).2
 have e3:=(aeH (r:=(wo (wo x).2).2) h3).2
 have e4:=(aeH (r:=(qR (wo (wo x).2).2).2) h4).2
 have e5:=(aeH (r:=(qR (qR (wo (wo x).2).2).2).2) h).2
 have l1:=congrArg List.length e1
 have l2:=congrArg List.length e2
 have l3:=congrArg List.length e3
 have l4:=congrArg List.length e4
 have l5:=congrArg List.length e5
 simp only[List.length_append,yZ]at l1 l2 l3 l4 l5
 have:=List.length_pos_iff.2 (akB (wo x).1.length)
 omega
theorem atS:∀ (st:St) (bs:List Nat) (i:Nat) (p:Str×Nd) (b:Nat),st[i]?=some p->bs[i]?=some b->(kv st bs)[i]?=some (p.1,ptr b):=by
 intro st
 induction st with
 | nil=>intro bs i p b h;cases h
 | cons q st ih=>
  intro bs i p b h hb
  cases bs with
  | nil=>cases hb
  | cons c bs=>
   obtain⟨q,m⟩:=q
   cases i with
   | zero=>cases h;cases hb;rfl
   | succ i=>unfold kv;simpa using ih bs i p b (by simpa using h) (by simpa using hb)
theorem am3(hr:r<64)(hr0:r≠0)(hr6:r≠6)(h:qZ tag I r T M bs st)(hs:SL.Sep ro I)
  (hno:(st.all fun p=>decide (p.2.kids<=p.2.ctr))=false->∀ tag' I',qe [0] ro tag I tag' I'->Q none 13 I')
  (hyes:(st.all fun p=>decide (p.2.kids<=p.2.ctr))=true->∀ tag' I',qe [0] ro tag I tag' I'->qZ tag' I' r T M bs st->Q (some ⟨T,0,none⟩) 0 I'):pT B ro T Q I:=by
 unfold pT
 refine⟨_,Row.cell1 h.cell hs,?_⟩
 refine alH u126 h.map hs fun es clock x hM hes hbn hro hx=>?_
 refine⟨_,rfl,?_⟩
 have hxM:x≠M:=fun e=>by rw[e,hM]at hx;cases hx
 have hlen:es.toList.length=st.length:=by
  have:=congrArg List.length hes
  simp only[List.length_map]at this
  rw[this,ali st bs h.len]
 suffices∀(m:Nat) (seen:Array Nat) (tag1:Nat->Nat) (I1:AH),ajV es seen=m->qe [0] ro tag I tag1 I1->tag1 x=0->I1 x=some (.mapIter (some M) clock seen clock)->I1 M=some (.map es clock)->qZ tag1 I1 r T M bs st->
   (∀(i:Nat) (e:MapEntry) (p:Str×Nd),es.toList[i]?=some e->st[i]?=some p->seen.contains e.born=true->p.2.kids<=p.2.ctr)->lfpD (aaO B ro ⟨x,0,none⟩ T Q) () I1 from by
  have st1:qe [0] ro tag I (setTag tag x 0) (upd I x (.mapIter (some M) clock #[] clock)):=qe.fresh hs hro hx
  exact this _ #[] _ _ rfl st1 (by simp[setTag]) (qE _ _ _) (by rw[yS _ _ hxM.symm];exact hM) (h.keep st1 (by simp;omega)) (fun i e p _ _ hc=>by simp at hc)
 intro m
 induction m using Nat.strongRecOn with
 | ind m ih=>
  intro seen tag1 I1 hm hst htx hit hmp hA hseen
  have hs1:=hst.sep
  refine lfpD.intro ?_
  unfold aaO
  refine adc hit hmp hs1 hbn (fun hall=>?_) fun e he hne=>?_
  .refine .inl ⟨rfl,?_⟩
   unfold aaN
   refine hyes ?_ tag1 I1 hst hA
   rw[List.all_eq_true]
   intro p hp
   obtain⟨i,hi,rfl⟩:=List.getElem_of_mem hp
   have hie:i<es.toList.length:=by omega
   have:=hseen i es.toList[i] st[i] (List.getElem?_eq_getElem hie) (List.getElem?_eq_getElem hi) (hall _ (List.getElem_mem hie))
   simpa using this
  .refine .inr ⟨_,_,rfl,?_⟩
   have st2:qe [0] ro tag1 I1 tag1 (upd I1 x (.mapIter (some M) clock (seen.push e.born) clock)):=kh hs1 htx hit
   have hmp2:upd I1 x (.mapIter (some M) clock (seen.push e.born) clock) M=some (.map es clock):=by rw[yS _ _ hxM.symm];exact hmp
   refine aht (qE _ _ _) hmp2 st2.sep hbn he ?_
   obtain⟨i,hi,rfl⟩:=List.getElem_of_mem he
   have hil:i<st.length:=by omega
   have hib:i<bs.length:=by rw[h.len];exact hil
   have hval:ub es.toList[i]=aeB (st[i].1,ptr bs[i]):=by
    have h1:(es.toList.map ub)[i]?=some (ub es.toList[i]):=by rw[List.getElem?_map,List.getElem?_eq_getElem hi];try rfl
    rw[hes,List.getElem?_map,atS st bs i _ _ (List.getElem?_eq_getElem hil) (List.getElem?_eq_getElem hib)]at h1
    exact(Option.some.inj h1).symm
   have hv:es.toList[i].val=ptr bs[i]:=congrArg Prod.snd hval
   rw[hv]
   refine⟨es.toList[i].key,some ⟨bs[i],0,none⟩,rfl,?_⟩
   have hA2:=hA.keep st2 (by simp;omega)
   obtain⟨ds,hn1,_⟩:=hA2.nodes i bs[i] st[i] (List.getElem?_eq_getElem hib) (List.getElem?_eq_getElem hil)
   obtain⟨q,hq,hg⟩:=hn1.ptr st2.sep (by simp)
   cases hq
   refine⟨_,rfl,_,rfl,_,hg 1 _ rfl,_,hg 3 _ rfl,?_⟩
   by_cases hc:st[i].2.ctr<st[i].2.kids
   .rw[if_pos hc]
    refine hno ?_ tag1 _ (hst.trans st2)
    rw[<-Bool.not_eq_true,List.all_eq_true]
    intro hall
    have:=hall st[i] (List.getElem_mem hil)
    simp at this;omega
   .rw[if_neg hc]
    refine ih (ajV es (seen.push es.toList[i].born)) (by rw[<-hm];exact aoh he hne) _ tag1 _ rfl (hst.trans st2) htx (qE _ _ _) hmp2 hA2 fun j e' p hj hp hcont=>?_
    rw[Array.contains_push]at hcont
    by_cases hb:e'.born=es.toList[i].born
    .have hji:j=i:=by
      have h1:(es.toList.map (·.born))[j]?=some es.toList[i].born:=by rw[List.getElem?_map,hj,<-hb];try rfl
      have h2:(es.toList.map (·.born))[i]?=some es.toList[i].born:=by rw[List.getElem?_map,List.getElem?_eq_getElem hi];try rfl
      exact anz hbn.nd h1 h2
     subst hji
     rw[List.getElem?_eq_getElem hil]at hp
     cases hp
     omega
    .refine hseen j e' p hj hp ?_
     cases h1:seen.contains e'.born with
     | true=>rfl
     | false=>
      rw[h1,Bool.false_or]at hcont
      exact absurd (eq_of_beq hcont) hb
theorem alo{a0:Sl}(g:wV ro)(hr:r<64)(hr6:r≠6)(hr0:r≠0)(hr3:r≠31)(h:SL.zw ro I a0 (b.map vU))(hl:b.length<=140737488355328)
  (hno:dec b=none->∀ tag' I',StepS [r,31,0] ro tag I tag' I'->Q none 13 I')
  (hyes:∀ st,dec b=some st->∀ T tag' I',StepS [r,31,0] ro tag I tag' I'->wa tag' I' r T st->Q (some ⟨T,0,none⟩) 0 I'):abr B ro a0 I Q:=by
 refine ajX fun hs=>?_
 unfold adz
 refine aoX (tag:=tag) (r+64) hs fun M tag1 I1 st1 m1=>?_
 refine qj (tag:=tag1) r (st1 []).sep fun T tag2 I2 st2 r2=>?_
 have m2:=m1.keep (st2 [])
 refine ah8 (tag:=tag2) (r:=31) ((h.step (st1 [])).step (st2 [])) (st2 []).sep hl fun A tag3 I3 st3 rd3=>?_
 have hA3:qZ tag3 I3 r T M [] []:=⟨by simp,rfl,by simp,r2.keep (st3 []),m2.keep (st3 []),fun i b p hb=>by cases hb⟩
 obtain⟨R0,hR⟩:∃ R0,ah0 (b.length+1) ⟨b,0⟩ [] []=R0:=⟨_,rfl⟩
 have hdb0:dec b=R0.bind fun st=>if st.all fun p=>decide (p.2.kids<=p.2.ctr)then some st else none:=by unfold dec;rw[hR];cases R0<;>rfl
 suffices∀(f:Nat) (x:Rd) (st:St) (bs:List Nat) (last:ByteArray) (tag4:Nat->Nat) (I4:AH),ah0 f x st (L last)=R0->x.rest.length<f->x.err=0->(∀y∈st,y.1<=L last)->(∀y∈st,y.1≠[])->
   StepS [r,31,0] ro tag I tag4 I4->qZ tag4 I4 r T M bs st->jz tag4 I4 31 A x->lfpD (uX B ro T (some ⟨A,0,none⟩) Q) last I4 from
  this (b.length+1) ⟨b,0⟩ [] [] ⟨#[]⟩ tag3 I3 hR (by simp) rfl (fun _ h=>by cases h) (fun _ h=>by cases h) (((st1 []).s (by simp)).trans (((st2 []).s (by simp)).trans ((st3 []).s (by simp)))) hA3 rd3
 intro f
 induction f with
 | zero=>intro x st bs last tag4 I4 _ hlt;omega
 | succ f ih=>
  intro x st bs last tag4 I4 hdec hlt herr hk hne hst hA hrd
  have hs4:=hst.sep
  unfold ah0 at hdec
  have hdb:=hdb0
  refine lfpD.intro ?_
  unfold uX
  refine anI hrd hs4 ?_
  have h31:(31:Nat)≠6:=by decide
  by_cases hend:x.rest=[]/\L last≠[]
  .rw[if_neg (by
    rintro(h | h)
    .rw[hend.1]at h;simp at h
    .exact hend.2 (by rw[h];try rfl))]
   rw[if_pos hend]at hdec
   rw[<-hdec]at hdb
   simp only[Option.bind_some]at hdb
   refine am3 hr hr0 hr6 hA hs4 (fun hc tag5 I5 st5=>?_) fun hc tag5 I5 st5 hA5=>?_
   .exact hno (by rw[hdb,if_neg (by rw[hc];simp)]) tag5 I5 (hst.trans (st5.s (by simp)))
   .exact hyes st (by rw[hdb,if_pos hc]) T tag5 I5 (hst.trans (st5.s (by simp))) ⟨M,bs,hA5⟩
  .rw[if_neg hend]at hdec
   rw[if_pos (by
    by_cases h:L last=[]
    .exact .inr (pL h)
    .refine .inl ?_
     have:x.rest≠[]:=fun e=>hend ⟨e,h⟩
     have:=List.length_pos_iff.2 this
     omega)]
   refine afw hrd h31 hs4 fun tag5 I5 st5 rd5=>?_
   refine ah9 rd5 h31 st5.sep fun ds tag6 I6 st6 r6 rd6=>?_
   have h431:∀ x∈[31],x%64≠r%64/\x≠6:=by simp;omega
   have hA6:=(hA.keep st5 h431).keep st6 h431
   refine afr (tag:=tag6) (fun b=>r+64*(b+2)) st6.sep fun c tag7 I7 hro7 hc7 st7 r7=>?_
   have hnb:=hA6.fresh_b hc7
   have hA7:=hA6.keep (st7 [])
   have rd7:=rd6.keep (st7 [])
   have hr67:=r6.keep (st7 [])
   refine vX rd7 h31 (st7 []).sep fun I8 st8 rd8=>?_
   refine vX rd8 h31 st8.sep fun I9 st9 rd9=>?_
   refine vX rd9 h31 st9.sep fun Ia sta rda=>?_
   have k31:∀ c:Nat,r+64*(c+2)∉[31]:=fun c=>by simp;omega
   have rna:=((r7.keep st8 (k31 c)).keep st9 (k31 c)).keep sta (k31 c)
   have hAa:=((hA7.keep st8 h431).keep st9 h431).keep sta h431
   have hda:=((hr67.keep st8).keep st9).keep sta
   refine rna.st (i:=0) sta.sep rfl (by simp) rfl fun Ib stb rb=>?_
   refine rb.st (i:=1) stb.sep rfl (by simp) rfl fun Ic stc rc=>?_
   refine rc.st (i:=2) stc.sep rfl (by simp) rfl fun Id std rdd=>?_
   have stbd:=stb.trans (stc.trans std)
   have kc31:(31:Nat)∉[r+64*(c+2)]:=by simp;omega
   have kc6:(6:Nat)∉[r+64*(c+2)]:=by simp;omega
   have rdD:=rda.keep stbd kc31 kc6
   have hAd:qZ tag7 Id r T M bs st:=by
    refine⟨hAa.keys,hAa.len,hAa.nd,hAa.cell.keep stbd,hAa.map.keep stbd (by simp;omega),fun i b p hb hp=>?_⟩
    refine(hAa.nodes i b p hb hp).keep stbd ?_ kc6
    simp
    intro e
    have:b=c:=by omega
    subst this
    exact hnb (List.mem_of_getElem? hb)
   have hnode:abX tag7 Id r c (vL x).1.2:=⟨ds,rdd,hda.keep stbd kc6⟩
   have stD:StepS [r,31,0] ro tag I tag7 Id:=hst.trans ((st5.s (by simp)).trans ((st6.s (by simp)).trans (((st7 []).s (by simp)).trans ((st8.s (by simp)).trans ((st9.s (by simp)).trans ((sta.s (by simp)).trans (stbd.s (by simp;omega))))))))
   refine anJ rdD std.sep ?_
   by_cases he:(vL x).2.err=0
   .rw[if_neg (by simpa [vL]using he)]
    rw[if_neg (by simpa using he)]at hdec
    have hp:L (S (wo x).1)=(vL x).1.1:=by rw[L_S];try rfl
    refine as0 g hr hr6 hr0 hAd hnode hnb hk hne (fun hlay tag8 Ie ste=>?_) fun st' hlay tag8 Ie ste ⟨bs',hAe,hbs⟩=>?_
    .rw[hp]at hlay
     rw[hlay]at hdec
     simp only at hdec
     rw[<-hdec]at hdb
     unfold xl
     rw[if_pos (by decide)]
     exact hno hdb tag8 Ie (stD.trans (ste.s (by simp)))
    .rw[hp]at hlay
     rw[hlay]at hdec
     simp only at hdec
     unfold xl
     rw[if_neg (by decide)]
     have hsh:=alJ he
     have hkeys:(∀y∈st',y.1<=(vL x).1.1)/\∀ y∈st',y.1≠[]:=by
      unfold lay at hlay
      by_cases hbad:parts (vL x).1.1=none\/(vL x).1.1<=L last\/256<(vL x).1.2.data.length\/10000000000<(vL x).1.2.ctr\/((vL x).1.2.own≠0/\0<(vL x).1.2.ctr)
      .rw[if_pos hbad]at hlay;cases hlay
      rw[if_neg hbad]at hlay
      simp only[not_or]at hbad
      have hpn:(vL x).1.1≠[]:=by
       cases e:parts (vL x).1.1 with
       | none=>exact absurd e hbad.1
       | some ps=>exact aiy e
      have hgt:=apg (aix.1 hbad.2.1)
      have base:∀ y∈st,y.1<=(vL x).1.1:=fun y hy=>List.le_trans (hk y hy) hgt
      by_cases hl0:L last=[]
      .rw[if_pos hl0]at hlay
       split at hlay
       .cases hlay
        refine⟨fun y hy=>?_,fun y hy=>?_⟩
        .rcases List.mem_append.1 hy with h | h
         .exact base y h
         .rw[List.mem_singleton.1 h];exact List.le_refl _
        .rcases List.mem_append.1 hy with h | h
         .exact hne y h
         .rw[List.mem_singleton.1 h];exact hpn
       .cases hlay
      .rw[if_neg hl0]at hlay
       have key:∀ u,st'=wi st u afU++[((vL x).1.1,(vL x).1.2)]->(∀y∈st',y.1<=(vL x).1.1)/\∀ y∈st',y.1≠[]:=fun u he=>by
        have hm:∀ y∈wi st u afU,∃z∈st,y.1=z.1:=fun y hy=>by
         unfold wi at hy
         obtain⟨z,hz,rfl⟩:=List.mem_map.1 hy
         exact⟨z,hz,by split<;>rfl⟩
        rw[he]
        refine⟨fun y hy=>?_,fun y hy=>?_⟩
        .rcases List.mem_append.1 hy with h | h
         .obtain⟨z,hz,e⟩:=hm y h;rw[e];exact base z hz
         .rw[List.mem_singleton.1 h];exact List.le_refl _
        .rcases List.mem_append.1 hy with h | h
         .obtain⟨z,hz,e⟩:=hm y h;rw[e];exact hne z hz
         .rw[List.mem_singleton.1 h];exact hpn
       cases hpp:qB (vL x).1.1 with
       | none=>rw[hpp]at hlay;cases hlay
       | some u=>
        rw[hpp]at hlay
        simp only at hlay
        cases hlk:st.lookup u with
        | none=>rw[hlk]at hlay;cases hlay
        | some m=>
         rw[hlk]at hlay
         simp only at hlay
         split at hlay
         .cases hlay
         .exact key u (Option.some.inj hlay).symm
     refine ih (vL x).2 st' bs' (S (wo x).1) tag8 Ie ?_ (by omega) he ?_ hkeys.2 (stD.trans (ste.s (by simp))) hAe (rdD.keepC ste (by omega) hr6)
     .rw[hp];exact hdec
     .rw[hp];exact hkeys.1
   .rw[if_pos (by simpa [vL]using he)]
    rw[if_pos (by simpa using he)]at hdec
    rw[<-hdec]at hdb
    unfold xl
    rw[if_pos (by decide)]
    exact hno hdb tag7 Id stD
end Zt
namespace Zt
open Go SL G Pa
variable{B:World}{ro I I':AH}{tag tag':Nat->Nat}
theorem apt{st:St}(hi:Inv st){p:Str}:∀ u n,qB p=some u->st.lookup p=some n->∃ m,st.lookup u=some m:=fun u n hu hn=>by
 have hne:p≠[47]:=fun e=>by rw[e,afS]at hu;cases hu
 obtain⟨u',m',e1,e2,_⟩:=hi.up _ n hn hne
 rw[hu]at e1;cases e1
 exact⟨m',e2⟩
theorem aqJ(x:St):(∀p∈x,p.1.length<=128/\p.2.data.length<=256/\jO p.2=true)->(abE x).length<=512*x.length:=by
 induction x with
 | nil=>intro _;simp[abE]
 | cons p x ih=>
  intro h
  have:=ih fun q hq=>h q (by simp[hq])
  obtain⟨h1,h2,h3⟩:=h p (by simp)
  unfold abE at this⊢
  rw[List.flatMap_cons,List.length_append,List.length_cons]
  unfold jO Wi.qQ at h3
  simp only[Bool.and_eq_true,decide_eq_true_eq]at h3
  have l1:=(Wi.uZ 8 p.1.length (by omega)).2
  have l2:=(Wi.uZ 8 p.2.data.length (by omega)).2
  have l3:=(Wi.uZ 8 p.2.ver.toNat (by omega)).2
  have l4:=(Wi.uZ 8 p.2.ctr.toNat (by omega)).2
  have l5:=(Wi.uZ 8 p.2.own.toNat (by omega)).2
  have:(afT p).length<=512:=by
   unfold afT Wi.yZ
   simp only[List.length_append]
   omega
  omega
theorem amu{b:Nat}{st:St}(h:ww b st)(hb:b<=4398046511103):(akF st).length<=512*st.length:=by
 have h3:=h.inv3 (by omega)
 rw[anD h3,<-(vr st).length_eq]
 refine aqJ _ fun p hp=>?_
 have hp':=(vr st).mem_iff.1 hp
 obtain⟨h1,h2⟩:=h.inv.small p hp'
 exact⟨h1,h2,(h3.nums _ _ ((qW h.inv.keys (k:=p.1) (n:=p.2)).2 hp')).1⟩
end Zt
namespace SL
open Go
variable{P:Program}{B:World}{ro I I':AH}{tag tag':Nat->Nat}
theorem akH(zv:Value)(n:Nat):(Builtin.zeroCells #[zv] n).toList=List.replicate n zv:=by
 apply List.ext_getElem?
 intro i
 simp only[Builtin.zeroCells,Array.getElem?_toList,Array.getElem?_map,Array.size,List.length_cons,List.length_nil,Nat.mul_one]
 rcases Nat.lt_or_ge i n with h | h
 .rw[List.getElem?_replicate,if_pos h]
  simp[h,Nat.mod_one]
 .rw[List.getElem?_replicate,if_neg (by omega)]
  simp;omega
theorem alK{r e t ty:TypeId}{s:Sl}{l:List Value}{m bytes:Nat}{zv:Value}{Q:Value->AH->Prop}(h:Row tag I r e s l)(hs:Sep ro I)(ht:P.underlying t=some (.slice e))(hz:qp P e zv 1 bytes)(hzc:zv.cells= #[zv])(hv:qh zv=true)
  (hm:m<=l.length) (hQ:∀ I',qe [r] ro tag I tag I'->Row tag I' r e ⟨s.a,m,s.cap⟩ (l.take m)->Q (.tuple #[]) I'):
  awp P ro (Builtin.clear_ #[t] ty #[Sl.v (⟨wu s.a m s.cap 1,s.len - m,s.cap - m⟩:Sl)]) Q I:=by
 have g0:(#[t]:Array TypeId)[0]?=some t:=rfl
 have g1:(#[Value.slice (wu s.a m s.cap 1) (s.len - m) (s.cap - m)]:Array Value)[0]?=some (Value.slice (wu s.a m s.cap 1) (s.len - m) (s.cap - m)):=rfl
 have hl:=h.len
 unfold Builtin.clear_
 simp only[Sl.v,qy,qV,g0,g1]
 rw[qw ht]
 have done:Q (.tuple #[]) I\/0<s.len - m:=by
  rcases Nat.eq_zero_or_pos (s.len - m)with h0 | h0
  .refine .inl (hQ I (qe.refl hs) ?_)
   exact h.take hm
  .exact .inr h0
 rcases Nat.eq_zero_or_pos (s.len - m)with h0 | h0
 .have hd:=done.resolve_right (by omega)
  rw[h0]
  cases hc:wu s.a m s.cap 1 with
  | none=>exact hd
  | some a=>exact hd
 .rcases h with⟨rfl,rfl⟩ | ⟨b,cs,ha,htg,hbk,hln,hcp,hle,hg⟩
  .simp at h0
  .have hcut:wu s.a m s.cap 1=some ⟨b,m,none⟩:=by
    unfold wu
    rw[if_neg (by omega),ha]
    simp[vn]
   rw[hcut]
   obtain⟨k,hk⟩:∃ k,s.len - m=k+1:=⟨s.len - m - 1,by omega⟩
   rw[hk]
   simp only
   rw[aaW hz,hzc,akH]
   refine(vA _ _).2 ?_
   refine jt (List.replicate (k+1) zv) 0 I (aeP (List.replicate (k+1) zv) cs 0 I hbk (by simp;omega) (fun v hvm=>by rw[(List.mem_replicate.1 hvm).2];exact hv) fun cs' c1 c2 c3=>?_)
   refine hQ _ (kh hs htg hbk) ?_
   refine .inr ⟨b,cs',ha,htg,qE _ _ _,by simp;omega,by rw[c1];exact hcp,by simp;omega,fun i hi=>?_⟩
   simp at hi
   rw[c2 i (by omega),List.getElem?_take,if_pos (by omega)]
   exact hg i (by omega)
end SL
namespace Zt
open Go SL G Pa
variable{B:World}{ro I I':AH}{tag tag':Nat->Nat}
theorem aue:prog.underlying 27=some (.slice 9):=by kernel_rfl
theorem auf:qp prog 9 (.string ByteArray.empty) 1 16:=qp.of (by kernel_rfl)
theorem aop{q:Nat}{s:Sl}{l:List Str}{f:Str->Bool}{fv:Value}{Q:Sl->AH->Prop}(h:Row tag I q 9 s (l.map Pa.vS))(hs:SL.Sep ro I)(hl:l.length<4611686018427387904)
  (hcall:∀ k∈l,∀I',qe [q] ro tag I tag I'->∀ K:Value->AH->Prop,K (.bool (f k)) I'->ac0 prog B ro fv [.string (S k)] I' K)
  (hQ:∀ s' I',qe [q] ro tag I tag I'->Row tag I' q 9 s' ((l.filter fun k=> !f k).map Pa.vS)->Q s' I'):xc B ro s fv I Q:=by
 refine abC fun _=>?_
 unfold xd
 refine abV fun _=>?_
 unfold xk
 have hln:s.len=l.length:=by rw[h.len,List.length_map]
 have second:∀ (m j w:Nat) (cur:List Str) (I1:AH),j+m=l.length->w<=j->cur.length=l.length->cur.take w=(l.take j).filter (fun k=> !f k)->(∀i,j<=i->cur[i]?=l[i]?)->qe [q] ro tag I tag I1->Row tag I1 q 9 s (cur.map Pa.vS)->
   lfpD (wG B ro s fv Q) ((w:Int),(j:Int)) I1:=by
  intro m
  induction m with
  | zero=>
   intro j w cur I1 hj hw hcl htk hrest st1 r1
   refine lfpD.intro ?_
   unfold wG
   simp only
   rw[if_neg (by omega)]
   unfold vk
   have hcap:=r1.capAt
   rw[List.length_map]at hcap
   refine⟨⟨trivial,by omega,by simp only[cutHi];omega⟩,?_⟩
   rw[Int.toNat_natCast]
   refine alK r1 st1.sep aue auf rfl rfl (by simp;omega) fun I2 st2 r2=>?_
   refine⟨rfl,⟨⟨by omega,by omega⟩,trivial⟩,?_⟩
   rw[pR,Nat.sub_zero,Nat.sub_zero]
   refine hQ _ I2 (st1.trans st2) ?_
   rw[<-List.map_take,htk,List.take_of_length_le (by omega)]at r2
   exact r2
  | succ m ih=>
   intro j w cur I1 hj hw hcl htk hrest st1 r1
   have hjl:j<l.length:=by omega
   have hjc:j<cur.length:=by omega
   have hcj:cur[j]=l[j]:=by
    have:=hrest j (Nat.le_refl _)
    rw[List.getElem?_eq_getElem hjc,List.getElem?_eq_getElem hjl]at this
    exact Option.some.inj this
   obtain⟨p,hp,_,hget⟩:=Row.sget r1 st1.sep hjc
   refine lfpD.intro ?_
   unfold wG
   simp only
   rw[if_pos (by omega)]
   refine⟨p,hp,by omega,by omega,S cur[j],by rw[Int.toNat_natCast];exact hget j hjc,?_⟩
   rw[hcj]
   refine hcall _ (List.getElem_mem hjl) I1 st1 _ ⟨f l[j],rfl,?_⟩
   have etk:(l.take (j+1)).filter (fun k=> !f k)=(l.take j).filter (fun k=> !f k)++if f l[j]then []else [l[j]]:=by
    rw[List.take_add_one,List.getElem?_eq_getElem hjl,List.filter_append]
    simp only[Option.toList_some,List.filter_cons,List.filter_nil]
    cases f l[j]<;>rfl
   cases hf:f l[j]with
   | true=>
    rw[if_neg (by simp)]
    unfold wF
    rw[Pa.inc j (by omega)]
    exact ih (j+1) w cur I1 (by omega) (by omega) hcl (by rw[etk,hf];simpa using htk) (fun i hi=>hrest i (by omega)) st1 r1
   | false=>
    rw[if_pos (by simp)]
    refine⟨p,hp,by omega,by omega,?_⟩
    rw[Int.toNat_natCast]
    refine r1.st (i:=w) st1.sep hp (by simp;omega) rfl fun I2 st2 r2=>?_
    unfold wF
    rw[Pa.inc j (by omega),Pa.inc w (by omega)]
    refine ih (j+1) (w+1) (cur.set w l[j]) I2 (by omega) (by omega) (by simpa using hcl) ?_ (fun i hi=>?_) (st1.trans st2) (by rw[List.map_set];exact r2)
    .rw[etk,hf,List.take_add_one,List.take_set_of_le (Nat.le_refl _),htk,List.getElem?_set_self (by omega)]
     try rfl
    .rw[List.getElem?_set_ne (by omega)];exact hrest i (by omega)
 suffices∀m j,j+m=l.length->(∀k∈l.take j,f k=false)->lfpD (zz B ro s fv fun x10 I=>if x10=(-1)then Q s I else lfpD (wG B ro s fv Q) (x10,i64.wrap (x10+1)) I) (j:Int) I from
  this _ 0 (Nat.zero_add _) (by simp)
 intro m
 induction m with
 | zero=>
  intro j hj hall
  refine lfpD.intro ?_
  unfold zz
  rw[if_neg (by omega)]
  unfold vw
  show(if(-1:Int)= -1 then _ else _)
  rw[if_pos rfl]
  rw[List.take_of_length_le (by omega)]at hall
  refine hQ s I (qe.refl hs) ?_
  rw[List.filter_eq_self.2 fun k hk=>by rw[hall k hk];try rfl]
  exact h
 | succ m ih=>
  intro j hj hall
  have hjl:j<l.length:=by omega
  obtain⟨p,hpp,_,hget⟩:=Row.sget h hs hjl
  refine lfpD.intro ?_
  unfold zz
  rw[if_pos (by omega)]
  refine⟨p,hpp,by omega,by omega,_,hget j hjl,?_⟩
  refine hcall _ (List.getElem_mem hjl) I (qe.refl hs) _ ⟨f l[j],rfl,?_⟩
  cases hf:f l[j]with
  | true=>
   rw[if_pos rfl]
   show(if((j:Int))= -1 then _ else _)
   rw[if_neg (by omega),Pa.inc j (by omega)]
   have e1:(l.take j).filter (fun k=> !f k)=l.take j:=List.filter_eq_self.2 fun k hk=>by rw[hall k hk];try rfl
   refine second m (j+1) j l I (by omega) (by omega) rfl ?_ (fun _ _=>rfl) (qe.refl hs) h
   rw[List.take_add_one,List.getElem?_eq_getElem hjl,List.filter_append,e1]
   simp[hf]
  | false=>
   rw[if_neg (by decide),Pa.inc j (by omega)]
   refine ih (j+1) (by omega) fun k hk=>?_
   rw[List.take_add_one,List.getElem?_eq_getElem hjl]at hk
   rcases List.mem_append.1 hk with h | h
   .exact hall k h
   .have h':k=l[j]:=by simpa using h
    rw[h'];exact hf
def adA(u k:Str):Bool:=match ade u k with
 | some b=>b
 | none=>false
theorem am4{r T M q:Nat}{bs:List Nat}{st:St}{u:ByteArray}{Q:Sl->Int->AH->Prop}(g:wV ro)(hr:r<64)(hr0:r≠0)(hq0:q≠0)(h:qZ tag I r T M bs st)(hl:∀ p∈st,∃ps,parts p.1=some ps)(hn:st.length<=4398046511104)
  (hbad:parts (L u)=none->∀ tag' I',(∀R,qe R ro tag I tag' I')->Q ⟨none,0,0⟩ 20 I')
  (hQ:∀ ps,parts (L u)=some ps->∀ (s:Sl) (tag':Nat->Nat) (I':AH) (ks:List Str),qe [q] ro tag I tag' I'->ks.Perm (st.map (·.1))->ks.Pairwise (· <= ·)->Row tag' I' q 9 s ((ks.filter fun k=>adA (L u) k).map Pa.vS)->Q s 0 I'):aa0 B ro (some ⟨T,0,none⟩) u I Q:=by
 refine ahu fun hs=>?_
 unfold aa5
 refine qj (tag:=tag) 0 hs fun x tag1 I1 st1 r1=>?_
 have hA:=h.keep (st1 [])
 refine⟨_,Row.cell1 r1 (st1 []).sep,?_⟩
 refine ug g ?_
 by_cases hc:Pa.chk (L u)=0
 .rw[if_neg (by simpa using hc)]
  obtain⟨ps,hps⟩:=vq.1 hc
  have h128:∀ p∈st,p.1.length<=128:=fun p hp=>by
   obtain⟨ps,e⟩:=hl p hp
   obtain⟨e1,e2⟩:=wd.1 e
   rw[e1];exact e2.len
  refine agV (q:=q) hA h128 hn fun s tag2 I2 ks st2 hp hsrt hr2=>?_
  have hkl:ks.length=st.length:=by rw[hp.length_eq,List.length_map]
  have r12:=r1.keep (st2 [])
  refine aop (f:=fun k=> !adA (L u) k) hr2 (st2 []).sep (by omega) (fun k hk I3 st3 K hK=>?_) fun s' I3 st3 r3=>?_
  .have hx:=Row.cell1 (r12.keep st3 (by simpa using fun e=>hq0 e.symm)) st3.sep
   refine asW ?_
   refine afQ fun _=>?_
   unfold uD
   refine⟨_,hx,?_⟩
   obtain⟨y,hy,e⟩:=List.mem_map.1 (hp.mem_iff.1 hk)
   obtain⟨qs,hqs⟩:=hl y hy
   rw[e]at hqs
   have hu:∃ b,ade (L u) (L (S k))=some b:=by
    unfold ade
    rw[hps,L_S,hqs]
    exact⟨_,rfl⟩
   obtain⟨b,hb⟩:=hu
   refine aqt g (fun hnone=>by rw[hb]at hnone;cases hnone) (fun b' hb'=>?_)
   rw[L_S]at hb'
   unfold adA at hK
   rw[hb']at hK
   exact hK
  .refine hQ ps hps s' tag2 I3 ks ((st1 _).trans ((st2 _).trans st3)) hp hsrt ?_
   simpa using r3
 .rw[if_pos (by simpa using hc)]
  have e:parts (L u)=none:=by
   cases h:parts (L u)with
   | none=>rfl
   | some ps=>exact absurd (vq.2 ⟨ps,h⟩) hc
  have:Pa.chk (L u)=20:=by unfold Pa.chk;rw[e];try rfl
  rw[this]
  exact hbad e tag1 I1 st1
end Zt
namespace Zt
open Go SL Pa
def qK(p:Str):Option Str:=match parts p with
 | some (x::_)=>some x
 | _=>none
def uw(h:Str)(p:Str×Nd):Nat:=if qK p.1=some h then p.1.length+p.2.data.length else 0
def ze(st:St)(h:Str):Nat×Nat:=(st.countP fun p=>decide (qK p.1=some h),(st.map (uw h)).sum)
theorem amv{a b:List Nat}(h:a.Perm b):a.sum=b.sum:=by
 induction h with
 | nil=>rfl
 | cons x _ ih=>simp[ih]
 | swap x y l=>simp;omega
 | trans _ _ h1 h2=>exact h1.trans h2
theorem ag0{a b:St}(h:a.Perm b)(k:Str):ze a k=ze b k:=by
 unfold ze
 rw[h.countP_eq,amv (h.map (uw k))]
theorem apu{p h:Str}(hp:qK p=some h):h≠[]:=by
 unfold qK at hp
 split at hp
 .rename_i x r e
  cases hp
  obtain⟨_,hg⟩:=wd.1 e
  have:=(aa4 (hg.ok h (by simp))).1
  intro he;rw[he]at this;simp at this
 .cases hp
theorem afb{k h:Str}(hk:qK k=some h):parts (47::h)=some [h]/\adA (47::h) k=true:=by
 unfold qK at hk
 split at hk
 .rename_i x r e
  cases hk
  obtain⟨hl,hg⟩:=wd.1 e
  have hn:=hg.ok h (by simp)
  have hnl:=aa4 hn
  have hp1:parts (47::h)=some [h]:=wd.2 ⟨by simp[mk],⟨by simp,fun y hy=>by rw[List.mem_singleton.1 hy];exact hn,by simp[mk];omega⟩⟩
  refine⟨hp1,?_⟩
  unfold adA ade
  rw[hp1,e]
  simp
 .cases hk
theorem pc{k:Str}{ps:List Str}(h:parts k=some ps):qK k=ps.head?:=by
 unfold qK
 rw[h]
 cases ps<;>rfl
def vf(st:St)(h:Str)(ks:List Str):Nat×Nat:=
 (ks.countP fun k=>decide (qK k=some h),(ks.map fun k=>if qK k=some h then k.length+(match st.lookup k with | some n=>n.data.length | none=>0)else 0).sum)
theorem amw(st:St)(h:Str)(ks:List Str):vf st h (ks.filter fun k=>adA (47::h) k)=vf st h ks:=by
 unfold vf
 congr 1
 .rw[List.countP_filter]
  refine List.countP_congr fun k _=>?_
  simp only[Bool.and_eq_true,decide_eq_true_eq]
  exact⟨fun h=>h.1,fun h=>⟨h,(afb h).2⟩⟩
 .induction ks with
  | nil=>rfl
  | cons k ks ih=>
   rw[List.filter_cons]
   by_cases hk:qK k=some h
   .rw[if_pos (afb hk).2,List.map_cons,List.map_cons,List.sum_cons,List.sum_cons,ih]
   .split
    .rw[List.map_cons,List.map_cons,List.sum_cons,List.sum_cons,ih]
    .rw[List.map_cons,List.sum_cons,if_neg hk,ih,Nat.zero_add]
theorem am5(st:St)(h:Str)(ks:List Str)(hn:parts (47::h)≠some [h]):vf st h ks=(0,0):=by
 have hno:∀ k,qK k≠some h:=fun k hk=>hn (afb hk).1
 unfold vf
 congr 1
 .rw[List.countP_eq_zero]
  intro k _
  simpa using hno k
 .induction ks with
  | nil=>rfl
  | cons k ks ih=>rw[List.map_cons,List.sum_cons,if_neg (hno k),ih]
theorem ag1{st:St}(hk:(st.map (·.1)).Nodup)(h:Str):vf st h ((srt st).map (·.1))=ze st h:=by
 rw[<-ag0 (vr st) h]
 have hmem:∀ p∈srt st,st.lookup p.1=some p.2:=fun p hp=>(qW hk).2 ((vr st).mem_iff.1 hp)
 unfold vf ze
 rw[List.countP_map,List.map_map]
 congr 1
 refine congrArg List.sum (List.map_congr_left fun p hp=>?_)
 simp only[Function.comp_apply,uw]
 rw[hmem p hp]
theorem alp(st:St)(h:Str)(ks:List Str)(hs:∀ k∈ks,k.length<=128)(hd:∀ k n,st.lookup k=some n->n.data.length<=256):(vf st h ks).1<=ks.length/\(vf st h ks).2<=384*ks.length:=by
 refine⟨List.countP_le_length,?_⟩
 unfold vf
 simp only
 induction ks with
 | nil=>simp
 | cons k ks ih=>
  have:=ih fun k hk=>hs k (by simp[hk])
  have h1:=hs k (by simp)
  rw[List.map_cons,List.sum_cons,List.length_cons]
  have h2:(match st.lookup k with | some n=>n.data.length | none=>0)<=256:=by
   cases e:st.lookup k with
   | none=>simp
   | some n=>exact hd k n e
  split<;>omega
theorem aoq(st:St)(h:Str)(a:List Str)(k:Str):vf st h (a++[k])=if qK k=some h then((vf st h a).1+1,(vf st h a).2+(k.length+(match st.lookup k with | some n=>n.data.length | none=>0)))else vf st h a:=by
 unfold vf
 rw[List.countP_append,List.map_append,List.sum_append]
 by_cases hk:qK k=some h<;>simp[hk]
def ab2(st:St)(hs:List Str):Nat×Nat:=hs.foldl (fun a h=>(a.1+(ze st h).1,a.2+(ze st h).2)) (0,0)
theorem ajn{st:St}(hi:Inv st)(h:Str):(ze st h).1<=st.length/\(ze st h).2<=384*st.length:=by
 have:=alp st h ((srt st).map (·.1)) (fun k hk=>by
  obtain⟨p,hp,rfl⟩:=List.mem_map.1 hk
  exact(hi.small p ((vr st).mem_iff.1 hp)).1) hi.data
 rw[ag1 hi.keys,List.length_map,(vr st).length_eq]at this
 exact this
structure MOp where
 kind:Int
 path:Str
 data:Str
 ver:Int
 eph:Bool
 seq:Bool
structure uG where
 st:St
 res:List (Str×Int)
 eff:List (Int×Str)
def zC(home:Str)(o:MOp):Int:=
 if o.kind<1\/4<o.kind then 80
 else match parts o.path with
  | none=>20
  | some ps=>if ps.head?≠some home\/(ps.length=1/\o.kind<=2)then 82 else 0
def afc(st:St)(p:Str)(v:Int):Int:=match st.lookup p with
 | none=>70
 | some n=>if v≠ -1/\v≠n.ver then 72 else 0
def xf(owner:Int)(st:St)(o:MOp):St×Str×Int×Int:=
 if o.kind=1 then((wt st o.path o.data (if o.eph then owner else 0) o.seq).1,(wt st o.path o.data (if o.eph then owner else 0) o.seq).2.1,0,(wt st o.path o.data (if o.eph then owner else 0) o.seq).2.2)
 else if o.kind=2 then((wL st o.path o.ver).1,[],0,(wL st o.path o.ver).2)
 else if o.kind=3 then((vW st o.path o.data o.ver).1,[],(vW st o.path o.data o.ver).2.1,(vW st o.path o.data o.ver).2.2)
 else(st,[],0,afc st o.path o.ver)
def adP(st:St)(home:Str)(qn qb kind:Int):Bool:=(decide (kind=1) || decide (kind=3)) && (decide (qn<((ze st home).1:Nat)) || decide (qb<((ze st home).2:Nat)))
def doE(home:Str)(owner qn qb:Int)(w:uG)(o:MOp):Int×uG:=
 if zC home o≠0 then(zC home o,w)
 else if(xf owner w.st o).2.2.2≠0 then((xf owner w.st o).2.2.2,{w with st:=(xf owner w.st o).1})
 else if adP (xf owner w.st o).1 home qn qb o.kind then(81,{w with st:=(xf owner w.st o).1})
 else(0,⟨(xf owner w.st o).1,w.res++[((xf owner w.st o).2.1,(xf owner w.st o).2.2.1)],if o.kind=4 then w.eff else w.eff++[(o.kind,if o.kind=1 then(xf owner w.st o).2.1 else o.path)]⟩)
theorem ag2{b:Nat}{owner:Int}{st:St}{o:MOp}(h:ww b st)(hb:b<=4398046511103):ww (b+1) (xf owner st o).1:=by
 unfold xf
 split
 .exact ai5 h hb
 .split
  .exact ai6 h hb
  .split
   .exact amq h hb
   .exact h.mono (by omega)
theorem agf{b:Nat}{home:Str}{owner qn qb:Int}{w:uG}{o:MOp}(h:ww b w.st)(hb:b<=4398046511103):ww (b+1) (doE home owner qn qb w o).2.st:=by
 unfold doE
 split
 .exact h.mono (by omega)
 .split
  .exact ag2 h hb
  .split
   .exact ag2 h hb
   .exact ag2 h hb
theorem anK{home:Str}{owner qn qb:Int}{w:uG}{o:MOp}:(doE home owner qn qb w o).2.res.length<=w.res.length+1/\(doE home owner qn qb w o).2.eff.length<=w.eff.length+1:=by
 unfold doE
 split
 .exact⟨by simp,by simp⟩
 .split
  .exact⟨by simp,by simp⟩
  .split
   .exact⟨by simp,by simp⟩
   .refine⟨by simp,?_⟩
    simp only
    split<;>simp