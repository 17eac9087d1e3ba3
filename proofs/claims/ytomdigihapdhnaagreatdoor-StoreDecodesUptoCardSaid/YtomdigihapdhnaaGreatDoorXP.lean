import Derived.Test.YtomdigihapdhnaaGreatDoorXO
set_option linter.all false
set_option maxRecDepth 99999
set_option maxHeartbeats 0
open Go.IntKind(i64)
open Go.Proofs.Tryz
namespace Go.Proofs.YtomdigihapdhnaaGreatDoor
namespace Zt
open Go SL G Pa Wi
variable{B:World}[Zd B]{ro I I':AH}{tag tag':Nat->Nat}
variable{Q:Sl->AH->Prop}
section
variable{T M b0:Nat}{bs:List Nat}{t:Tbl}
theorem apP(h:pw tag I T M bs t)(hw:ag4 t)(hgr:∀ p∈t,∀y∈p.2.live,1<=y.1/\y.1<=p.2.last)
  (hQ:∀ s tag' I' (ks:List (Str×Int)),qi [0,20,21,22] ro tag I tag' I'->(∀p,aeO t p->p∈ks)->(∀p∈ks,aeO t p)->ks.length<=2147483712->qH tag' I' 22 81 2 s (ks.map akF)->Q s I'):aaa B ro (some ⟨T,0,none⟩) nS I Q:=by
 refine ags fun hs=>?_
 unfold aar
 refine alb (tag:=tag) 20 h hw fun hsl tag1 I1 st1 r1=>?_
 have hperm:(homesT t).Perm (t.map (·.1)):=List.mergeSort_perm _ _
 generalize homesT t=hm at hperm r1
 have hln:hsl.len=hm.length:=by rw[r1.len,ml]
 have hml:hm.length=t.length:=by rw[hperm.length_eq,ml]
 have htl:=hw.len
 suffices∀m j (s:Sl) (ks:List (Str×Int)) tag2 I2,j+m=hm.length->qi [0,20,21,22] ro tag I tag2 I2->Row tag2 I2 20 9 hsl (hm.map Pa.vS)->pw tag2 I2 T M bs t->qH tag2 I2 22 81 2 s (ks.map akF)->(∀p,aeO t p->p.1∈hm.take j->p∈ks)->(∀p∈ks,aeO t p)->ks.length<=64*j->lfpD (vB B ro (some ⟨T,0,none⟩) nS hsl Q) (s,(j:Int)) I2 from
  this _ 0 nS [] tag1 I1 (mp _) (wt st1) r1 (h.fresh st1) (qH.nil _ _ _) (fun p _ hp=>by simp at hp) (fun p hp=>by cases hp) (Nat.zero_le _)
 intro m
 induction m with
 | zero=>
  intro j s ks tag2 I2 hj st2 r2 h2 k2 a1 a2 a3
  refine lfpD.intro ?_
  unfold vB
  simp only
  rw[mc z6]
  unfold jU
  refine hQ s tag2 I2 ks st2 (fun p hp=>a1 p hp ?_) a2 z6 k2
  rw[mT z6]
  obtain⟨x,_,g1,_⟩:=ad9.1 hp
  exact hperm.mem_iff.2 (my.2 ⟨_,yI g1,rfl⟩)
 | succ m ih=>
  intro j s ks tag2 I2 hj st2 r2 h2 k2 a1 a2 a3
  have hjl:j<hm.length:=by omega
  have hs2:=st2.sep
  obtain⟨p,hp,hg⟩:=r2.ptr hs2 y6
  have hmem:hm[j]∈t.map (·.1):=hperm.mem_iff.1 (mO hjl)
  have etk:hm.take (j+1)=hm.take j++[hm[j]]:=by rw[np,mh hjl];try rfl
  have hcell:=hg j (Pa.vS hm[j]) (by rw[mq,mh hjl];try rfl)
  generalize hm[j]=home at hmem etk hcell
  refine lfpD.intro ?_
  generalize hY:lfpD (vB B ro (some ⟨T,0,none⟩) nS hsl Q)=Y0 at ih⊢
  unfold vB
  simp only
  rw[me z6]
  refine⟨p,hp,z6,z6,S home,by rw[mr];exact hcell,?_⟩
  rw[mc z7]
  unfold kE
  rw[mc z7]
  refine⟨_,rfl,some M,h2.cell.cell1 hs2,?_⟩
  refine aaJ (k:=home) h2.map.map hs2 ae0 (amm u9) aom ?_
  rcases h2.map.look home with⟨b1,_⟩ | ⟨i,b,hh,hb,hpp,b3,b4,mm,cs,row,map⟩
  .exact mC hmem (zF.1 b1)
  rw[b4]
  refine⟨some ⟨b,0,none⟩,rfl,?_⟩
  have hmt:=yI b3
  refine aiN (tag:=tag2) 21 row map (hw.live _ hmt) (hw.rng _ hmt) fun nsl tag3 I3 st3 r3=>?_
  have nperm:(numsH hh).Perm (hh.live.map (·.1)):=List.mergeSort_perm _ _
  generalize numsH hh=ns at nperm r3
  have hnl:nsl.len=ns.length:=by rw[r3.len,ml]
  have hns:ns.length<=64:=by rw[nperm.length_eq,ml];exact hw.live _ hmt
  have k3:qi [0,20,21,22] ro tag I tag3 I3:=st2.trans (wt st3)
  suffices∀m' i (s:Sl) (ks':List (Str×Int)) tag4 I4,i+m'=ns.length->qi [0,22] ro tag3 I3 tag4 I4->Row tag4 I4 21 3 nsl (ns.map vI)->qH tag4 I4 22 81 2 s (ks'.map akF)->(∀p,aeO t p->p.1∈hm.take j->p∈ks')->(∀n∈ns.take i,(home,n)∈ks')->(∀p∈ks',aeO t p)->ks'.length<=64*j+i->lfpD (vh B ro (some ⟨T,0,none⟩) nS hsl (j:Int) (S home) nsl Q Y0) (s,(i:Int)) I4 from
   this _ 0 s ks tag3 I3 (mp _) (qi.refl (st3 []).sep) r3 (qH.keep k2 (st3 [])) a1 (fun n hn=>by simp at hn) a2 z6
  intro m'
  induction m' with
  | zero=>
   intro i s ks' tag4 I4 hi' st4 r4 k4 c1 c2 c3 c4
   refine lfpD.intro ?_
   unfold vh
   simp only
   rw[mc z6]
   unfold xc
   rw[Pa.inc j z6]
   refine ih (j+1) s ks' tag4 I4 z6 (k3.trans (st4.mono z7)) ((r2.keep (st3 [])).keepS st4) ((h2.fresh st3).keepS st4) k4 (fun p hl hp=>?_) c3 z6
   rw[etk]at hp
   rcases mt.1 hp with hp | hp
   .exact c1 p hl hp
   .have e:p.1=home:=mK.1 hp
    obtain⟨x,y,g1,_,_,g4⟩:=ad9.1 hl
    rw[e,b3]at g1
    cases g1
    have:=c2 p.2 (by rw[mT z6];exact nperm.mem_iff.2 (my.2 ⟨_,yI g4,rfl⟩))
    rw[<-e]at this
    exact this
  | succ m' ih'=>
   intro i s ks' tag4 I4 hi' st4 r4 k4 c1 c2 c3 c4
   have hil:i<ns.length:=by omega
   have hs4:=st4.sep
   obtain⟨p',hp',hg'⟩:=r4.ptr hs4 y6
   have hcell':=hg' i (vI ns[i]) (by rw[mq,mh hil];try rfl)
   have hnm:ns[i]∈hh.live.map (·.1):=nperm.mem_iff.1 (mO hil)
   have etn:ns.take (i+1)=ns.take i++[ns[i]]:=by rw[np,mh hil];try rfl
   generalize ns[i]=n at hcell' hnm etn
   refine lfpD.intro ?_
   generalize hZ:lfpD (vh B ro (some ⟨T,0,none⟩) nS hsl (j:Int) (S home) nsl Q Y0)=Z0 at ih'⊢
   unfold vh
   simp only
   rw[me z6]
   refine⟨p',hp',z6,z6,n,by rw[mr];exact hcell',?_⟩
   refine qr (tag:=tag4) 0 hs4 fun y tag5 I5 st5 r5=>?_
   refine acb (l2:=[akF (home,n)]) (qH.keep k4 (st5 [])) (st5 []).sep (Row.readW1 r5 (st5 []).sep rfl z8) (t:=178) y0 zP rfl (by simp[qk]) y6 z8 fun sn tag6 I6 st6 r6=>?_
   have st6':=st6 [22] (.inr z7)
   refine⟨sn,rfl,?_⟩
   rw[Pa.inc i z6]
   refine ih' (i+1) sn (ks'++[(home,n)]) tag6 I6 z6 (st4.trans ((wt st5).trans (st6'.s z7))) ((r4.keep (st5 [])).keep st6') (by rw[mJ];exact r6) (fun p hl hp=>by simp[c1 p hl hp]) (fun x hx=>?_) (fun p hp=>?_) y6
   .rw[etn]at hx
    rcases mt.1 hx with hx | hx
    .simp[c2 x hx]
    .rw[mK.1 hx];simp
   .rcases mt.1 hp with hp | hp
    .exact c3 p hp
    .rw[mK.1 hp]
     obtain⟨y,hy,e⟩:=my.1 hnm
     have rg:=hgr _ hmt y hy
     have rg':1<=n/\n<=hh.last:=by rw[<-e];exact rg
     exact ad9.2 ⟨hh,y.2,b3,rg'.1,rg'.2,by
      have:=yn map.keys (k:=y.1) (a:=y.2) hy
      rw[<-e];exact this⟩
end
theorem alv{A:Nat}{x:Rd}(h:vd tag I 29 A x)
  (hQ:∀ s tag' I',qi [0,29,54] ro tag I tag' I'->Row tag' I' 118 3 s ((gnums (min (qa x).1 8) (qa x).2).1.map vI)->vd tag' I' 29 A (gnums (min (qa x).1 8) (qa x).2).2->Q s I'):ac1 B ro (some ⟨A,0,none⟩) I Q:=by
 refine ai8 fun hs=>?_
 unfold adl
 refine wW h z8 hs fun I1 st1 rd1=>?_
 obtain⟨N,hN⟩:∃ N,(qa x).1=N:=⟨_,rfl⟩
 obtain⟨y,hy⟩:∃ y,(qa x).2=y:=⟨_,rfl⟩
 rw[hN,hy]at hQ
 rw[hy]at rd1
 rw[hN]
 have mn:=atm (n:=N) (m:=8)
 rw[show((8:Nat):Int)=8 from rfl]at mn
 suffices∀k j (s:Sl) (l:List Int) (z:Rd) tag2 I2,j+k=min N 8->l.length=j->(l++(gnums k z).1,(gnums k z).2)=gnums (min N 8) y->qi [0,29,54] ro tag I tag2 I2->Row tag2 I2 118 3 s (l.map vI)->vd tag2 I2 29 A z->lfpD (pg B ro (some ⟨A,0,none⟩) (N:Nat) Q) (s,(j:Int)) I2 from
  this _ 0 nS [] y tag I1 (mp _) rfl z7 (st1.s z7) (Row.nil _ _) rd1
 intro k
 induction k with
 | zero=>
  intro j s l z tag2 I2 hj hl hg st2 r2 rd2
  refine lfpD.intro ?_
  unfold pg
  simp only
  rw[mc (by rw[mn];omega)]
  unfold aan
  have h1:l=(gnums (min N 8) y).1:=by rw[<-hg];simp[gnums]
  have h2:z=(gnums (min N 8) y).2:=by rw[<-hg];simp[gnums]
  rw[h1]at r2;rw[h2]at rd2
  exact hQ s tag2 I2 st2 r2 rd2
 | succ k ih=>
  intro j s l z tag2 I2 hj hl hg st2 r2 rd2
  refine lfpD.intro ?_
  unfold pg
  simp only
  rw[me (by rw[mn];omega)]
  refine wW rd2 z8 st2.sep fun I3 st3 rd3=>?_
  have r3:=r2.keep st3
  refine qr (tag:=tag2) 0 st3.sep fun w tag4 I4 st4 w4=>?_
  refine adO (r3.keep (st4 [])) (st4 []).sep alL amo rfl (by simp[qk]) ((w4.read (st4 []).sep).2.2 _ rfl 0 (.int .i64 ((qa z).1:Nat)) rfl) rfl (by rw[ml,hl];omega) z8 fun s' tag5 I5 st5 r5=>?_
  refine⟨s',rfl,?_⟩
  rw[Pa.inc j z6]
  have k5:qi [0,29,54] ro tag2 I2 tag5 I5:=(st3.s z7).trans (((st4 []).s z7).trans (st5.s z7))
  refine ih (j+1) s' (l++[((qa z).1:Int)]) (qa z).2 tag5 I5 z6 (by simp[hl]) ?_ (st2.trans k5) (by rw[mJ];exact r5) ?_
  .rw[<-hg]
   simp[gnums]
  .exact(vd.keep rd3 (st4 [])).keep st5
end Zt
namespace Zt
open Go SL G Pa Wi
variable{B:World}[Zd B]{ro I I':AH}{tag tag':Nat->Nat}{L:List Nat}
variable{l:List Int}
theorem aeS:∀ (b:Option Int),ail l b=true↔∀ j (hj:j<l.length),0<=l[j]/\l[j]<=31/\(∀x,(if j=0 then b else l[j - 1]?)=some x->x<l[j]):=by
 induction l with
 | nil=>intro b;exact⟨fun _ j hj=>by simp at hj,fun _=>rfl⟩
 | cons m l ih=>
  intro b
  unfold ail
  simp only[mv,mV]
  rw[ih (some m)]
  constructor
  .rintro⟨⟨⟨h1,h2⟩,h3⟩,h4⟩ j hj
   cases j with
   | zero=>
    refine⟨h1,h2,fun x hx=>?_⟩
    simp only[if_true]at hx
    rw[hx]at h3
    simpa using h3
   | succ j=>
    have hj':j<l.length:=by simpa using hj
    obtain⟨a,b',c⟩:=h4 j hj'
    refine⟨a,b',fun x hx=>c x ?_⟩
    cases j with
    | zero=>simpa using hx
    | succ j=>simpa using hx
  .intro h
   refine⟨⟨⟨(h 0 z7).1,(h 0 z7).2.1⟩,?_⟩,fun j hj=>?_⟩
   .cases b with
    | none=>rfl
    | some x=>
     have:=(h 0 z7).2.2 x z7
     rw[mg];exact this
   .obtain⟨a,b',c⟩:=h (j+1) (j1 hj)
    refine⟨a,b',fun x hx=>c x ?_⟩
    cases j with
    | zero=>simpa using hx
    | succ j=>simpa using hx
theorem arW{s:Sl}{Q:Bool->AH->Prop}(h:SL.qU ro I s (l.map vI))(hl:l.length<=1048576)(hQ:Q (zH l) I):xx B ro s I Q:=by
 refine acO fun _=>?_
 unfold yA
 have hln:s.len=l.length:=by rw[h.1,ml]
 suffices∀m j,j+m=l.length->(∀k (hk:k<l.length),k<j->0<=l[k]/\l[k]<=31/\(∀x,(if k=0 then none else l[k - 1]?)=some x->x<l[k]))->lfpD (qW B ro s Q) (j:Int) I from
  this _ 0 (mp _) (fun k _ hk=>by omega)
 intro m
 induction m with
 | zero=>
  intro j hj hall
  refine lfpD.intro ?_
  unfold qW
  rw[mc z6]
  unfold xb
  have e:zH l=(decide (1<=(s.len:Int)) && decide ((s.len:Int)<=7)):=by
   unfold zH
   rw[(aeS none).2 fun k hk=>hall k hk z6,Bool.true_and,show decide (1<=(s.len:Int))=decide (1<=l.length)from Lh.2 z6,show decide ((s.len:Int)<=7)=decide (l.length<=7)from Lh.2 z6]
  rw[<-e];exact hQ
 | succ m ih=>
  intro j hj hall
  have hjl:j<l.length:=by omega
  obtain⟨p,hp⟩:∃ p,s.a=some p:=by
   cases e:s.a with
   | none=>have:=h.2.1 e;simp at this;rw[this]at hjl;simp at hjl
   | some p=>exact⟨p,rfl⟩
  have gj:=h.2.2 p hp j (vI l[j]) (by rw[mq,mh hjl];try rfl)
  have bad:∀ {c:Bool},c=true->¬ (0<=l[j]/\l[j]<=31/\(∀x,(if j=0 then none else l[j - 1]?)=some x->x<l[j]))->wm B ro s (j:Int) Q (lfpD (qW B ro s Q)) c I:=fun hc hn=>by
   unfold wm
   rw[me hc]
   have:zH l=false:=by
    unfold zH
    have:ail l none=false:=by
     rw[<-nE]
     intro e
     exact hn ((aeS none).1 e j hjl)
    rw[this];try rfl
   rw[this]at hQ;exact hQ
  have good:∀ {c:Bool},c=false->(0<=l[j]/\l[j]<=31/\(∀x,(if j=0 then none else l[j - 1]?)=some x->x<l[j]))->wm B ro s (j:Int) Q (lfpD (qW B ro s Q)) c I:=fun hc hg=>by
   unfold wm
   rw[mc (by simp[hc]),Pa.inc j z6]
   refine ih (j+1) z6 fun k hk hkj=>?_
   rcases mB k j with h | h
   .exact hall k hk h
   .have:k=j:=by omega
    subst this;exact hg
  refine lfpD.intro ?_
  unfold qW
  rw[me z6]
  refine⟨p,hp,z6,z6,l[j],by rw[mr,mX];exact gj,?_⟩
  by_cases c1:l[j]<0\/31<l[j]
  .rw[me c1]
   exact bad rfl fun hn=>by omega
  rw[mc c1]
  by_cases c2:0<j
  .rw[me z6]
   have ew:i64.wrap ((j:Int) - 1)=((j - 1:Nat):Int):=by rw[SL.qM z6 z6];omega
   rw[ew]
   have hj1:j - 1<l.length:=by omega
   have gj1:=h.2.2 p hp (j - 1) (vI l[j - 1]) (by rw[mq,mh hj1];try rfl)
   refine⟨p,hp,z6,z6,l[j - 1],by rw[mr,mX];exact gj1,?_⟩
   unfold wE
   by_cases c3:l[j]<=l[j - 1]
   .exact bad (j1 c3) fun hn=>by
     have:=hn.2.2 l[j - 1] (by rw[mc z6,mh hj1]);omega
   .refine good (j1 c3) ⟨z6,z6,fun x hx=>?_⟩
    rw[mc z6,mh hj1]at hx
    cases hx;omega
  .rw[mc z6]
   unfold wE
   exact good rfl ⟨z6,z6,fun x hx=>by rw[me z6]at hx;cases hx⟩
end Zt
namespace Zt
open Go SL G Pa Wi
variable{B:World}[Zd B]{ro I I':AH}{tag tag':Nat->Nat}
variable{n:Nd}{a0:Sl}{a:St}{b home last u:Str}
theorem vd.keepS{C:List Nat}{r A:Nat}{x:Rd}(h:vd tag I r A x)(k:qi C ro tag I tag' I')(hr:r%64∉C:=by decide)(h6:6∉C:=by decide):vd tag' I' r A x:=by
 obtain⟨R,hR,k⟩:=k
 exact h.keep k (fun hx=>hr (hR _ hx)) fun hx=>h6 (hR _ hx)
def agu{α:Type}(r:Option α)(At:Nat->α->Prop)(p:Option Addr)(e:Int):Prop:=(r=none/\e=13)\/∃ a T,r=some a/\p=some ⟨T,0,none⟩/\e=0/\At T a
theorem agu.mono{α:Type}{r:Option α}{At At':Nat->α->Prop}{p:Option Addr}{e:Int}(h:agu r At p e)(hm:∀ T a,At T a->At' T a):agu r At' p e:=by
 rcases h with h | ⟨a,T,h1,h2,h3,h4⟩
 .exact .inl h
 .exact .inr ⟨a,T,h1,h2,h3,hm T a h4⟩
theorem aeT:∀ (n:Nat) (r:Rd),(gnums n r).2.rest.length<=r.rest.length
 | 0,r=>mH _
 | n+1,r=>by
  have h1:=aeT n (qa r).2
  have h2:=uR r
  show(gnums n (qa r).2).2.rest.length<=_
  omega
theorem aoq(h:qV home=true):parts (47::home)=some [home]:=(ao7 h).1
abbrev CDs:List Nat:=[0,10,16,18,19,20,21,22,23,29,30,31,54,55,56,57,58,59,60,61,62]
theorem arX{Q:Option Addr->Int->AH->Prop}(g:xC ro)(hr:SL.qU ro I a0 (b.map vU))(hl:b.length<=1048576)
  (hno:xI b=none->∀ tag' I',qi CDs ro tag I tag' I'->Q none 13 I')
  (hyes:∀ s,xI b=some s->∀ W tag' I',qi CDs ro tag I tag' I'->afU tag' I' W s->Q (some ⟨W,0,none⟩) 0 I'):ads B ro a0 I Q:=by
 refine aj1 fun hs=>?_
 unfold adF
 refine ade (tag:=tag) (r:=29) hr hs z6 fun A tag1 I1 st1 rd1=>?_
 refine wW rd1 z8 (st1 []).sep fun I2 k2 rd2=>?_
 refine alv rd2 fun ms tag3 I3 k3 m3 rd3=>?_
 have s3:qi CDs ro tag I tag3 I3:=(wt st1).trans ((k2.s z7).trans (k3.mono z8))
 refine qr (tag:=tag3) 54 s3.sep fun W tag4 I4 st4 w4=>?_
 have l0:(⟨b,0⟩:Rd).rest.length=b.length:=rfl
 have l1:=uR ⟨b,0⟩
 have l2:=uR (qa ⟨b,0⟩).2
 have l3:=aeT (min (qa (qa ⟨b,0⟩).2).1 8) (qa (qa ⟨b,0⟩).2).2
 have hml:(gnums (min (qa (qa ⟨b,0⟩).2).1 8) (qa (qa ⟨b,0⟩).2).2).1.length<=8:=by rw[ah6];omega
 have ed:xI b=match dec (wl b).tree,pd (wl b).tbl,pf (wl b).hub with
  | some st,some t,some h=>if(wl b).r.err≠0\/0<(wl b).r.rest.length\/zH (wl b).members=false\/¬ afy st t then none else some ⟨(wl b).epoch,(wl b).members,st,t,h⟩
  | _,_,_=>none:=rfl
 have er:wl b=⟨(qa ⟨b,0⟩).1,(gnums (min (qa (qa ⟨b,0⟩).2).1 8) (qa (qa ⟨b,0⟩).2).2).1,
   (rblob (gnums (min (qa (qa ⟨b,0⟩).2).1 8) (qa (qa ⟨b,0⟩).2).2).2).1,
   (rblob (rblob (gnums (min (qa (qa ⟨b,0⟩).2).1 8) (qa (qa ⟨b,0⟩).2).2).2).2).1,
   (rblob (rblob (rblob (gnums (min (qa (qa ⟨b,0⟩).2).1 8) (qa (qa ⟨b,0⟩).2).2).2).2).2).1,
   (rblob (rblob (rblob (gnums (min (qa (qa ⟨b,0⟩).2).1 8) (qa (qa ⟨b,0⟩).2).2).2).2).2).2⟩:=rfl
 rw[er]at ed
 generalize (gnums (min (qa (qa ⟨b,0⟩).2).1 8) (qa (qa ⟨b,0⟩).2).2).1=mem at ed m3 hml
 generalize (gnums (min (qa (qa ⟨b,0⟩).2).1 8) (qa (qa ⟨b,0⟩).2).2).2=x3 at ed rd3 l3
 generalize (qa ⟨b,0⟩).1=ep at ed w4⊢
 have s4:=s3.trans (wt (C:=CDs) st4)
 have m4:=m3.keep (st4 [])
 clear er rd1 rd2 k2 k3 m3 s3
 have l4:=yz x3
 have l5:=yz (rblob x3).2
 have l6:=yz (rblob (rblob x3).2).2
 simp only at ed
 refine acN (vd.keep rd3 (st4 [])) z8 s4.sep fun d1 tag5 I5 k5 b5 rd5=>?_
 have s5:=s4.trans (k5.s (C:=CDs) z7)
 have w5:=w4.keep k5
 have m5:=m4.keep k5
 have T1:∀ (p:Option Addr) (e:Int) tag6 I6,qi [10,31,0] ro tag5 I5 tag6 I6->agu (dec (rblob x3).1) (fun T st=>vJ tag6 I6 10 T st) p e->
   stN ((⟨W,0,none⟩:Addr).add 2) (fun I=>
 wz B ro (some ⟨A,0,none⟩) I fun x35_8 I=>
 aab B ro x35_8 I fun x36_9 x36_10 I=>
 stN ((⟨W,0,none⟩:Addr).add 3) (fun I=>
  wz B ro (some ⟨A,0,none⟩) I fun x44_11 I=>
  ux B ro x44_11 I fun x45_12 x45_13 I=>
  stN ((⟨W,0,none⟩:Addr).add 4) (fun I=>
  wI B ro (some ⟨A,0,none⟩) I fun x51_14 I=>
  if¬(x51_14=0)then
   wG B ro W e x36_10 x45_13 Q true I
  else
  wZ B ro (some ⟨A,0,none⟩) I fun x55_35 I=>
  wG B ro W e x36_10 x45_13 Q (decide (0<x55_35)) I) [.pointer x45_12] 0 I) [.pointer x36_9] 0 I) [.pointer p] 0 I6:=by
  intro p1 e1 tag6 I6 k6 P1
  refine Row.stAt [.pointer p1] 2 (w5.keepS k6) k6.sep z7 (by simp[qk]) fun I7 k7 w7=>?_
  have m7:=(m5.keepS k6).keep k7
  have k57:qi [0,10,31,54] ro tag5 I5 tag6 I7:=(k6.mono z8).trans (k7.s z7)
  have P1:=P1.mono (At':=fun T st=>vJ tag6 I7 10 T st) fun T st h=>h.keepS (k7.s (C:=[54]) z7)
  refine acN (vd.keepS rd5 k57) z8 k7.sep fun d2 tag8 I8 k8 b8 rd8=>?_
  have k58:qi [0,10,29,31,54] ro tag5 I5 tag8 I8:=(k57.mono z8).trans (k8.s z7)
  have w8:=w7.keep k8
  have m8:=m7.keep k8
  have P1:=P1.mono (At':=fun T st=>vJ tag8 I8 10 T st) fun T st h=>h.keepS (k8.s (C:=[29]) z7)
  have T2:∀ (p:Option Addr) (e:Int) tag9 I9,qi CTd ro tag8 I8 tag9 I9->agu (pd (rblob (rblob x3).2).1) (fun T t=>adX tag9 I9 T t) p e->
    stN ((⟨W,0,none⟩:Addr).add 3) (fun I=>
  wz B ro (some ⟨A,0,none⟩) I fun x44_11 I=>
  ux B ro x44_11 I fun x45_12 x45_13 I=>
  stN ((⟨W,0,none⟩:Addr).add 4) (fun I=>
  wI B ro (some ⟨A,0,none⟩) I fun x51_14 I=>
  if¬(x51_14=0)then
   wG B ro W e1 e x45_13 Q true I
  else
  wZ B ro (some ⟨A,0,none⟩) I fun x55_35 I=>
  wG B ro W e1 e x45_13 Q (decide (0<x55_35)) I) [.pointer x45_12] 0 I) [.pointer p] 0 I9:=by
   intro p2 e2 tag9 I9 k9 P2
   refine Row.stAt [.pointer p2] 3 (w8.keepS k9) k9.sep z7 (by simp[qk]) fun Ia ka wa=>?_
   have ma:=(m8.keepS k9).keep ka
   have k8a:qi [16,30,54,55,56,57,58] ro tag8 I8 tag9 Ia:=(k9.mono z8).trans (ka.s z7)
   have P1:=P1.mono (At':=fun T st=>vJ tag9 Ia 10 T st) fun T st h=>h.keepS k8a
   have P2:=P2.mono (At':=fun T t=>adX tag9 Ia T t) fun T t h=>h.keepS (ka.s (C:=[54]) z7)
   refine acN (vd.keepS rd8 k8a) z8 ka.sep fun d3 tagb Ib kb bb rdb=>?_
   have k8b:qi [16,29,30,54,55,56,57,58] ro tag8 I8 tagb Ib:=(k8a.mono z8).trans (kb.s z7)
   have wb:=wa.keep kb
   have mb:=ma.keep kb
   have P1:=P1.mono (At':=fun T st=>vJ tagb Ib 10 T st) fun T st h=>h.keepS (kb.s (C:=[29]) z7)
   have P2:=P2.mono (At':=fun T t=>adX tagb Ib T t) fun T t h=>h.keepS (kb.s (C:=[29]) z7)
   have T3:∀ (p:Option Addr) (e:Int) tagc Ic,qi CHd ro tagb Ib tagc Ic->agu (pf (rblob (rblob (rblob x3).2).2).1) (fun T t=>afT tagc Ic T t) p e->
     stN ((⟨W,0,none⟩:Addr).add 4) (fun I=>
  wI B ro (some ⟨A,0,none⟩) I fun x51_14 I=>
  if¬(x51_14=0)then
   wG B ro W e1 e2 e Q true I
  else
  wZ B ro (some ⟨A,0,none⟩) I fun x55_35 I=>
  wG B ro W e1 e2 e Q (decide (0<x55_35)) I) [.pointer p] 0 Ic:=by
    intro p3 e3 tagc Ic kc P3
    refine Row.stAt [.pointer p3] 4 (wb.keepS kc) kc.sep z7 (by simp[qk]) fun Id kd wd=>?_
    have kbd:qi [18,19,23,30,54,59,60,61,62] ro tagb Ib tagc Id:=(kc.mono z8).trans (kd.s z7)
    have P1:=P1.mono (At':=fun T st=>vJ tagc Id 10 T st) fun T st h=>h.keepS kbd
    have P2:=P2.mono (At':=fun T t=>adX tagc Id T t) fun T t h=>h.keepS kbd
    have P3:=P3.mono (At':=fun T t=>afT tagc Id T t) fun T t h=>h.keepS (kd.s (C:=[54]) z7)
    have rdd:=vd.keepS rdb kbd
    have sd:qi CDs ro tag I tagc Id:=s5.trans ((k58.mono z8).trans ((k8b.mono z8).trans (kbd.mono z8)))
    have wd':Row tagc Id 54 153 ⟨some ⟨W,0,none⟩,5,5⟩ [vI ep,Sl.v ms,.pointer p1,.pointer p2,.pointer p3]:=wd
    have md:Row tagc Id 118 3 ms (mem.map vI):=(mb.keepS kc).keep kd
    have lt:(rblob (rblob x3).2).1.length<=1048576:=by omega
    have lt1:(rblob x3).1.length<=1048576:=by omega
    generalize rblob (rblob (rblob x3).2).2=y3 at ed P3 rdd
    generalize rblob (rblob x3).2=y2 at ed P2 lt
    generalize rblob x3=y1 at ed P1 lt1
    have hsd:=sd.sep
    have fail:xI b=none->Q none 13 Id:=fun e=>hno e tagc Id sd
    have j17t:xI b=none->kQ B ro W Q true Id:=fun e=>by
     unfold kQ
     rw[me rfl]
     exact fail e
    have noneE:(y3.2.err≠0\/0<y3.2.rest.length\/zH mem=false)->xI b=none:=fun h=>by
     rw[ed]
     split
     .rw[me (by rcases h with h | h | h;exact .inl h;exact .inr (.inl h);exact .inr (.inr (.inl h)))]
     .rfl
    refine aeX rdd hsd ?_
    by_cases c1:¬ y3.2.err=0
    .rw[me c1]
     unfold wG
     rw[me (.inl (.inl (.inl rfl)))]
     exact j17t (noneE (.inl c1))
    rw[mc c1]
    refine aii rdd hsd ?_
    unfold wG
    by_cases c2:0<y3.2.rest.length
    .rw[me (.inl (.inl (.inl (mF z6))))]
     exact j17t (noneE (.inr (.inl c2)))
    rcases P1 with⟨q1,r1⟩ | ⟨st,T,q1,r1,r1',tr⟩
    .rw[me (.inl (.inl (.inr (by rw[r1];decide))))]
     exact j17t (by rw[ed,q1])
    rcases P2 with⟨q2,r2⟩ | ⟨t,Tt,q2,r2,r2',tb⟩
    .rw[me (.inl (.inr (by rw[r2];decide)))]
     exact j17t (by rw[ed,q1,q2])
    rcases P3 with⟨q3,r3⟩ | ⟨hu,Th,q3,r3,r3',hb⟩
    .rw[me (.inr (by rw[r3];decide))]
     exact j17t (by rw[ed,q1,q2,q3])
    rw[mc (by
     rintro(((h | h) | h) | h)
     .have:=nJ h;omega
     .exact h r1'
     .exact h r2'
     .exact h r3')]
    rw[q1,q2,q3]at ed
    simp only at ed
    refine⟨ms,(wd'.read hsd).2.2 _ rfl 1 _ rfl,?_⟩
    refine arW (md.read hsd) z6 ?_
    cases c3:zH mem with
    | false=>exact j17t (noneE (.inr (.inr c3)))
    | true=>
    unfold kQ
    rw[mc z7]
    rw[r1,r2,r3]at wd'
    refine⟨some ⟨Tt,0,none⟩,(wd'.read hsd).2.2 _ rfl 3 _ rfl,?_⟩
    obtain⟨M,bs,tin⟩:=tb
    obtain⟨_,tg,te⟩:=ai5 q2
    have tw:ag4 t:=tg.w te lt
    have hinv:=(ag7 q1 z6).1.inv
    refine apP (tag:=tagc) tin tw (fun p hp y hy=>⟨by have:=(tg.ok p hp).live.lo y hy;omega,(tg.ok p hp).live.hi y hy⟩) fun ksl tage Ie ks ke hk1 hk2 hk3 rk=>?_
    have hkl:ksl.len=ks.length:=by rw[rk.len,ml]
    suffices∀n j tagf If,j+n=ks.length->qi [0,20,21,22] ro tagc Id tagf If->qH tagf If 22 81 2 ksl (ks.map akF)->(∀p∈ks.take j,(st.lookup (47::p.1)).isSome=true)->lfpD (jt B ro W ksl Q) (j:Int) If from
     this _ 0 tage Ie (mp _) ke rk (fun p hp=>by simp at hp)
    intro n
    induction n with
    | zero=>
     intro j tagf If hj kf rf ha
     refine lfpD.intro ?_
     unfold jt
     rw[mc z6]
     unfold aap
     have hh:afy st t:=fun p hp hne=>by
      obtain⟨y,hy⟩:=List.exists_mem_of_ne_nil _ hne
      have hL:aeO t (p.1,y.1):=ad9.2 ⟨p.2,y.2,yn tw.keys hp,by have:=(tg.ok p hp).live.lo y hy;simp only;omega,(tg.ok p hp).live.hi y hy,yn ((tg.ok p hp).live.up.imp fun h e=>by omega) hy⟩
      have:=hk1 _ hL
      exact ha (p.1,y.1) (by rw[mT z6];exact this)
     refine hyes ⟨ep,mem,st,t,hu⟩ (by
      rw[ed,mc]
      rintro(h | h | h | h)
      .exact c1 h
      .exact c2 h
      .rw[c3]at h;cases h
      .exact h hh) W tagf If (sd.trans (kf.mono z8)) ⟨T,Tt,Th,ms,wd'.keepS kf,md.keepS kf,tr.keepS kf,⟨M,bs,tin.keepS kf⟩,hb.keepS kf⟩
    | succ n ih=>
     intro j tagf If hj kf rf ha
     have hjl:j<ks.length:=by omega
     have hsf:=kf.sep
     obtain⟨q,hq,hc⟩:=(rf.read hsf).at (j:=j) (x:=akF ks[j]) (by rw[mq,mh hjl];try rfl)
     have hlv:aeO t ks[j]:=hk2 _ (mO hjl)
     have etk:ks.take (j+1)=ks.take j++[ks[j]]:=by rw[np,mh hjl];try rfl
     generalize ks[j]=pk at hc hlv etk
     obtain⟨hx,sx,g1,g2,g3,g4⟩:=ad9.1 hlv
     have hmt:=yI g1
     have hpp:=aoq (tg.names _ hmt)
     have hpl:=tw.names _ hmt
     simp only at hpp hpl
     refine lfpD.intro ?_
     generalize hY:lfpD (jt B ro W ksl Q)=Y0 at ih⊢
     unfold jt
     rw[me z6]
     refine⟨q,hq,z6,z6,S pk.1,pk.2,by rw[mr];exact hc,?_⟩
     refine acj (tag:=tagf) 24 hsf rfl (by simp[qk]) fun X tagg Ig stg xg=>?_
     have kg:=kf.trans (wt stg)
     have wg:=wd'.keepS kg
     have hsg:=kg.sep
     refine⟨some ⟨T,0,none⟩,(wg.read hsg).2.2 _ rfl 2 _ rfl,S pk.1,by simpa using(xg.read hsg).2.2 _ rfl 0 _ rfl,?_,?_⟩
     .have:(S pk.1).size=pk.1.length:=by rw[<-wT,L_S]
      rw[this]
      show 1+pk.1.length<=_
      omega
     rw[show(⟨#[47]⟩:ByteArray)++S pk.1=S (47::pk.1)from uY [47] pk.1]
     refine arG (tag:=tagg) 25 z8 g (tr.keepS kg) hinv fun s tagh Ih sth rh=>?_
     refine acj (tag:=tagh) 24 sth.sep rfl (by simp[qk]) fun Z tagi Ii sti zi=>?_
     have kfi:qi [0] ro tagf If tagi Ii:=(wt stg).trans (sth.trans (wt sti))
     cases c5:st.lookup (47::pk.1)with
     | none=>
      have e5:(uq st (47::pk.1)).err=70:=by unfold uq;rw[hpp,c5]
      rw[me (by rw[e5];decide)]
      refine hno ?_ tagi Ii (sd.trans ((kf.mono z8).trans (kfi.mono z8)))
      rw[ed,me]
      refine .inr (.inr (.inr fun hh=>?_))
      have:=hh _ hmt (fun e=>by have h9:=yI g4;simp only at e;rw[e]at h9;cases h9)
      simp only at this
      rw[c5]at this;cases this
     | some nd=>
      have e5:(uq st (47::pk.1)).err=0:=by unfold uq;rw[hpp,c5]
      rw[mc (by rw[e5];simp)]
      rw[Pa.inc j z6]
      refine ih (j+1) tagi Ii z6 (kf.trans (kfi.mono z8)) (qH.keepS rf kfi) fun p hp=>?_
      rw[etk]at hp
      rcases mt.1 hp with hp | hp
      .exact ha p hp
      .rw[mK.1 hp,c5];try rfl
   refine arU (tag:=tagb) g (bb.read kb.sep) z6 (fun e tagc Ic kc=>?_) fun t e T tagc Ic kc h=>?_
   .exact T3 none 13 tagc Ic kc (.inl ⟨e,rfl⟩)
   .exact T3 _ 0 tagc Ic kc (.inr ⟨t,T,e,rfl,rfl,h⟩)
  refine arP (tag:=tag8) (b8.read k8.sep) z6 (fun e tag9 I9 k9=>?_) fun t e T tag9 I9 k9 h=>?_
  .exact T2 none 13 tag9 I9 k9 (.inl ⟨e,rfl⟩)
  .exact T2 _ 0 tag9 I9 k9 (.inr ⟨t,T,e,rfl,rfl,h⟩)
 refine ao4 (tag:=tag5) (r:=10) g z8 z8 z8 z8 (b5.read k5.sep) z6 (fun e tag6 I6 k6=>?_) fun st e T tag6 I6 k6 h=>?_
 .exact T1 none 13 tag6 I6 k6 (.inl ⟨e,rfl⟩)
 .exact T1 _ 0 tag6 I6 k6 (.inr ⟨st,T,e,rfl,rfl,h⟩)
theorem apQ:(wi ⟨[],0⟩).2.err≠0:=z8
theorem arY{p:Str}(h:256<n.data.length\/10000000000<n.ctr\/(n.own≠0/\0<n.ctr)):lay a last p n=none:=by
 unfold lay
 rw[me (.inr (.inr h))]
theorem aqV{p:Str}(hb:¬ (256<n.data.length\/10000000000<n.ctr\/(n.own≠0/\0<n.ctr))):lay a [] p n=if p=[47]/\n.data=[]/\n.ver=0/\n.own=0 then some (a++[(p,n)])else none:=by
 unfold lay
 by_cases hc:parts p=none\/p<=[]\/256<n.data.length\/10000000000<n.ctr\/(n.own≠0/\0<n.ctr)
 .rw[me hc,mc]
  rintro⟨rfl,_⟩
  rcases hc with h | h | h
  .cases h
  .exact mC h z8
  .exact hb h
 .rw[mc hc,me rfl]
theorem asG{p:Str}(hl:last≠[])(h:ws p=none):lay a last p n=none:=by
 unfold lay
 split
 .rfl
 .simp[hl,h]
theorem asH{p:Str}(h:p<=last):lay a last p n=none:=by
 unfold lay
 rw[me (.inr (.inl h))]
theorem asI{p:Str}(hb:¬ (256<n.data.length\/10000000000<n.ctr\/(n.own≠0/\0<n.ctr)))(hl:last≠[])(h:ws p=some u)(hle:¬ p<=last):lay a last p n=match a.lookup u with | none=>none | some m=>if m.own≠0 then none else some (xo a u uE++[(p,n)]):=by
 have hb':¬ (parts p=none\/p<=last\/256<n.data.length\/10000000000<n.ctr\/(n.own≠0/\0<n.ctr)):=by
  rintro(h' | h' | h')
  .obtain⟨ps,hps⟩:=alZ h
   rw[hps]at h';cases h'
  .exact hle h'
  .exact hb h'
 unfold lay
 rw[mc hb',mc hl,h]
 simp only
 cases a.lookup u<;>rfl
theorem aor(rd:Rd):kC (wi rd).1.2=true/\0<=(wi rd).1.2.ctr:=by
 unfold kC qY wi
 simp only[mv,mV]
 have k1:=aeY (rblob (rblob rd).2).2
 have k2:=aeY (qa (rblob (rblob rd).2).2).2
 have k3:=aeY (qa (qa (rblob (rblob rd).2).2).2).2
 omega
theorem arZ:(xo a u uE).map Zt.nk=a.map Zt.nk:=aqK fun n=>rfl
theorem decode7_ok{Q:Option Addr->Bool->AH->Prop}(hr:SL.qU ro (fun _=>none) a0 (b.map vU))(hc:a0.len<=a0.cap)(hl:b.length<=1048576)
  (hno:dec b=none->∀ T tag' I',qi [11,35,0] ro tag I tag' I'->Q T false I')
  (hyes:∀ st,dec b=some st->∀ U tag' I',qi [11,35,0] ro tag I tag' I'->je tag' I' 11 U st->Q (some ⟨U,0,none⟩) true I'):uy B ro a0 I Q:=by
 refine ajJ fun hs=>?_
 unfold adB
 refine qr (tag:=tag) 35 hs fun X tag1 I1 st1 r1=>?_
 refine qr (tag:=tag1) 11 (st1 []).sep fun U tag2 I2 st2 r2=>?_
 have hl':b.length<=140737488355328:=by omega
 obtain⟨R0,hR⟩:∃ R0,ada (b.length+1) ⟨b,0⟩ [] []=R0:=⟨_,rfl⟩
 have hdb:dec b=R0.bind fun st=>if st.all fun p=>decide (p.2.kids<=p.2.ctr)then some st else none:=by unfold dec;rw[hR];cases R0<;>rfl
 have hrd2:vq tag2 I2 35 X a0 b ⟨b,0⟩:=⟨0,Nat.zero_le _,rfl,r1.keep (st2 [])⟩
 have hU2:je tag2 I2 11 U []:=⟨⟨none,0,0⟩,[],rfl,r2,qH.nil _ _ _,fun i p d h=>by cases h⟩
 suffices∀(f:Nat) (rd:Rd) (a:St) (last:Str) (tag4:Nat->Nat) (I4:AH),ada f rd a last=R0->rd.rest.length<f->rd.err=0->ah2 a last->(a=[]->last=[])->(a≠[]->last≠[]/\∃ n,a[a.length - 1]?=some (last,n))->a.length+rd.rest.length<=b.length->
   qi [11,35,0] ro tag I tag4 I4->je tag4 I4 11 U a->vq tag4 I4 35 X a0 b rd->lfpD (wx B ro X U Q) () I4 from
  this (b.length+1) ⟨b,0⟩ [] [] tag2 I2 hR z7 rfl amg (fun _=>rfl) (fun h=>mC rfl h) z7 (((st1 []).s z7).trans ((st2 []).s z7)) hU2 hrd2
 intro f
 induction f with
 | zero=>intro rd a last tag4 I4 _ hlt;omega
 | succ f ih=>
  intro rd a last tag4 I4 hdec hlt herr hlaid hnil hcons hlen hst hU hrd
  have hs4:=hst.sep
  have hal:a.length<=4294967296:=by omega
  unfold ada at hdec
  refine lfpD.intro ?_
  unfold wx
  refine aed hrd hr hl' ?_
  by_cases hend:rd.rest=[]
  .rw[mc (by rw[hend];simp)]
   refine arL hs4 hU hal (fun h T=>hno ?_ T tag4 I4 hst) (fun h1 h2=>?_)
   .by_cases c:a=[]
    .rw[hnil c]at hdec
     have e:rd=⟨[],0⟩:=by cases rd;simp_all
     rw[mc z7,e,me apQ]at hdec
     rw[hdb,<-hdec];try rfl
    .have hk:=h.resolve_right c
     rw[me ⟨hend,(hcons c).1⟩]at hdec
     rw[hdb,<-hdec]
     simp only[Option.bind_some]
     rw[mc]
     rw[nE,<-hk]
     exact all_congr fun p hp=>by rw[hlaid.kids _ _ ((jC hlaid.srt.nodup).2 hp)]
   .rw[me ⟨hend,(hcons h2).1⟩]at hdec
    refine hyes a ?_ U tag4 I4 hst hU
    rw[hdb,<-hdec]
    simp only[Option.bind_some]
    rw[me]
    rw[<-h1]
    exact all_congr fun p hp=>by rw[hlaid.kids _ _ ((jC hlaid.srt.nodup).2 hp)]
  .rw[me (by have:=nr.2 hend;omega)]
   rw[mc fun h=>hend h.1]at hdec
   refine jL z8 hrd hr hc hl' fun d1 tag5 I5 st5 rd5 k5=>?_
   refine abO (k5.read st5.sep) ?_
   refine⟨_,rfl,?_⟩
   refine acj (tag:=tag5) 0 st5.sep rfl (by simp[qk,Sl.v]) fun X6 tag6 I6 st6 r6=>?_
   refine jL z8 (rd5.keep (st6 [])) hr hc hl' fun d2 tag7 I7 st7 rd7 k7=>?_
   have r7:=r6.keep st7 z8
   refine r7.st (i:=1) st7.sep rfl z7 rfl fun I8 st8 r8=>?_
   refine rdnum_ok (rd7.keep st8 z8) hr hl' fun I9 st9 rd9=>?_
   refine(r8.keep st9 z8).st (i:=2) st9.sep rfl z7 rfl fun Ia sta ra=>?_
   refine rdnum_ok (rd9.keep sta z8) hr hl' fun Ib stb rdb=>?_
   refine(ra.keep stb z8).st (i:=3) stb.sep rfl z7 rfl fun Ic stc rc=>?_
   refine rdnum_ok (rdb.keep stc z8) hr hl' fun Id std rdd=>?_
   refine(rc.keep std z8).st (i:=4) std.sep rfl z7 rfl fun Ie ste re=>?_
   have rde:=rdd.keep ste z8
   have kd:Row tag7 Ie 6 5 d2 ((wi rd).1.2.data.map vU):=(((((k7.keep st8 z8).keep st9 z8).keep sta z8).keep stb z8).keep stc z8).keep std z8 |>.keep ste z8
   have re:Row tag7 Ie 0 329 ⟨some ⟨X6,0,none⟩,5,5⟩ (acr (wi rd).1 d2):=re
   have rde:vq tag7 Ie 35 X a0 b (wi rd).2:=rde
   have s4e:qi [35,0] ro tag4 I4 tag7 Ie:=(st5.s z8).trans (((st6 []).s z7).trans ((st7.s z8).trans ((st8.s z8).trans ((st9.s z8).trans ((sta.s z8).trans ((stb.s z8).trans ((stc.s z8).trans ((std.s z8).trans (ste.s z8)))))))))
   have hse:=s4e.sep
   have hst':qi [11,35,0] ro tag I tag7 Ie:=hst.trans (s4e.mono z8)
   have hUe:=hU.keepS s4e
   have hdl:=kd.len
   rw[ml]at hdl
   have hsh:(wi rd).2.err=0->(wi rd).2.rest.length<rd.rest.length:=ahg
   have hnums:=aor rd
   have hkid:(wi rd).1.2.kids=0:=rfl
   obtain⟨nd,hnd⟩:∃ nd,(wi rd).1=nd:=⟨_,rfl⟩
   obtain⟨rd',hrd'⟩:∃ rd',(wi rd).2=rd':=⟨_,rfl⟩
   rw[hnd]at re kd hdec hnums hkid hdl
   rw[hrd']at rde hdec hsh
   obtain⟨p,n⟩:=nd
   simp only at hdl hnums hkid
   obtain⟨pp,hpp,hg⟩:=re.ptr hse (by simp[acr])
   cases hpp
   have refuse:R0=none->Q none false Ie:=fun h=>hno (by rw[hdb,h];try rfl) _ tag7 Ie hst'
   refine⟨_,rde.err hse,?_⟩
   by_cases he:rd'.err=0
   .rw[mc (j1 he)]
    rw[mc (j1 he)]at hdec
    have nolay:lay a last p n=none->R0=none:=fun h=>by rw[<-hdec];simp only;rw[h]
    refine⟨_,hg 1 _ rfl,?_⟩
    have r30:(256<n.data.length\/10000000000<n.ctr\/(n.own≠0/\0<n.ctr))->zQ B ro X6 X U Q (fun _=>lfpD (wx B ro X U Q) ()) true Ie:=fun hb=>by
     unfold zQ
     rw[me rfl]
     exact refuse (nolay (arY hb))
    have r28:(256<n.data.length\/10000000000<n.ctr\/(n.own≠0/\0<n.ctr))->vK B ro X6 X U Q (fun _=>lfpD (wx B ro X U Q) ()) true Ie:=fun hb=>by
     unfold vK
     rw[me rfl]
     exact r30 hb
    have accept:∀ a',lay a last p n=some a'->(∃a0,a'=a0++[(p,n)]/\a0.map Zt.nk=a.map Zt.nk)->jr B ro X6 X U Q (fun _=>lfpD (wx B ro X U Q) ()) Ie:=fun a' hly hform=>by
     rw[hly]at hdec
     simp only at hdec
     obtain⟨l1,l2,l3⟩:=ak6 hlaid z6 hnums.1 hkid hly
     have hsh:=hsh he
     obtain⟨a0',ea,enk⟩:=hform
     obtain⟨s,ds,g1,g2,g3,g4⟩:=hUe
     unfold jr
     refine⟨s,Row.cell1 g2 hse,_,_,_,_,_,Row.cellsAt re hse,?_⟩
     refine arK (r:=11+64) g3 hse rfl rfl (by simp[acr,qk,Sl.v]) (by rw[LK,g1,Pg];omega) fun s' tagf If stf rf=>?_
     have g2f:=g2.keep stf z8
     refine g2f.st (i:=0) stf.sep rfl z7 rfl fun Ig stg rg=>?_
     have hs7g:qi [11] ro tag7 Ie tagf Ig:=(stf.s z8).trans (stg.s z8)
     have hUg:je tagf Ig 11 U (a++[(p,n)]):=by
      refine⟨s',ds++[d2],by simp[g1],rg,?_,fun i p' d hp' hd'=>?_⟩
      .rw[List.zipWith_append g1.symm]
       exact qH.keep rf stg z8
      .rcases mB i a.length with hi | hi
       .rw[mM hi]at hp'
        rw[mM z6]at hd'
        exact(g4 i p' d hp' hd').keepS hs7g
       .rw[mW hi]at hp'
        rw[mW z6,g1]at hd'
        cases hi':i - a.length with
        | zero=>
         rw[hi']at hp' hd'
         cases hp';cases hd'
         exact kd.keepS hs7g
        | succ k=>rw[hi']at hp';cases hp'
     have hUg':je tagf Ig 11 U a':=hUg.nk (by rw[ea,mJ,mJ,enk])
     refine ih rd' a' p tagf Ig hdec z6 he l1 (fun e=>?_) (fun _=>⟨l2,n,?_⟩) z6 (hst'.trans (hs7g.mono z8)) hUg' ((rde.keep stf z8).keep stg z8)
     .rw[e]at l3;simp at l3
     .rw[ea];simp
    have good:¬ (256<n.data.length\/10000000000<n.ctr\/(n.own≠0/\0<n.ctr))->zQ B ro X6 X U Q (fun _=>lfpD (wx B ro X U Q) ()) false Ie:=fun hb=>by
     have hU0:=hUe
     obtain⟨s,ds,g1,g2,g3,g4⟩:=hU0
     have hT:=Row.cell1 g2 hse
     have hsl:=g3.len
     rw[LK,g1,Pg]at hsl
     unfold zQ
     rw[mc z7]
     refine⟨s,hT,?_⟩
     by_cases ca:a=[]
     .rw[me (by rw[hsl,ca];try rfl)]
      have hlast:=hnil ca
      subst hlast
      have hly:=aqV (a:=a) (p:=p) hb
      refine⟨S p,by have:=hg 0 _ rfl;rwa [LB,uW]at this,?_⟩
      have no:¬ (p=[47]/\n.data=[]/\n.ver=0/\n.own=0)->Q none false Ie:=fun h=>refuse (nolay (by rw[hly,mc h]))
      have n43:¬ (p=[47]/\n.data=[]/\n.ver=0/\n.own=0)->kK B ro X6 X U Q (fun _=>lfpD (wx B ro X U Q) ()) true Ie:=fun h=>by
       unfold kK;rw[me rfl];exact no h
      have n41:¬ (p=[47]/\n.data=[]/\n.ver=0/\n.own=0)->kL B ro X6 X U Q (fun _=>lfpD (wx B ro X U Q) ()) true Ie:=fun h=>by
       unfold kL;rw[me rfl];exact n43 h
      have n39:¬ (p=[47]/\n.data=[]/\n.ver=0/\n.own=0)->kM B ro X6 X U Q (fun _=>lfpD (wx B ro X U Q) ()) true Ie:=fun h=>by
       unfold kM;rw[me rfl];exact n41 h
      by_cases c1:p=[47]
      .rw[mc (by rw[c1];exact fun h=>h rfl)]
       refine⟨_,hg 1 _ rfl,?_⟩
       by_cases c2:n.data=[]
       .rw[mL (by rw[hdl,c2];simp)]
        unfold kM
        rw[mc z7]
        refine⟨_,hg 2 _ rfl,?_⟩
        by_cases c3:n.ver=0
        .rw[show(!decide (n.ver=0))=false by simp[c3]]
         unfold kL
         rw[mc z7]
         refine⟨_,hg 4 _ rfl,?_⟩
         by_cases c4:n.own=0
         .rw[show(!decide (n.own=0))=false by simp[c4]]
          unfold kK
          rw[mc z7]
          exact accept _ (by rw[hly,me ⟨c1,c2,c3,c4⟩]) ⟨a,rfl,rfl⟩
         .rw[show(!decide (n.own=0))=true by simp[c4]]
          exact n43 fun h=>c4 h.2.2.2
        .rw[show(!decide (n.ver=0))=true by simp[c3]]
         exact n41 fun h=>c3 h.2.2.1
       .rw[mF (by have:=nr.2 c2;omega)]
        exact n39 fun h=>c2 h.2.1
      .rw[me (by rw[show(⟨#[47]⟩:ByteArray)=S [47]from rfl,yu];exact c1)]
       exact n39 fun h=>c1 h.1
     .rw[mc (by have:=nr.2 ca;omega)]
      obtain⟨hlast,nl,hnl⟩:=hcons ca
      refine⟨S p,by have:=hg 0 _ rfl;rwa [LB,uW]at this,?_⟩
      have n51:∀ u,lay a last p n=none->kO B ro X6 X U u Q (fun _=>lfpD (wx B ro X U Q) ()) true Ie:=fun u h=>by
       unfold kO;rw[me rfl];exact refuse (nolay h)
      refine ajz (fun hp=>?_) fun u hu=>?_
      .rw[me z7]
       rw[L_S]at hp
       exact n51 _ (asG hlast hp)
      rw[L_S]at hu
      rw[mc z7]
      obtain⟨s2,b2,d3,e1,e2,e3,e4⟩:=(hUe.m hse).row hnl
      have hal1:=nr.2 ca
      have ew:i64.wrap ((s2.len:Int) - 1)=((a.length - 1:Nat):Int):=by rw[SL.qM z6 z6];omega
      refine⟨S p,by have:=hg 0 _ rfl;rwa [LB,uW]at this,s2,e1,s2,e1,_,e3,by rw[ew];omega,by rw[ew];omega,S last,?_,?_⟩
      .rw[ew]
       have:=e4 0 _ rfl
       rwa [uW]at this
      by_cases cle:p<=last
      .rw[show(zD (S p) (S last) || decide (S p=S last))=true by
        rw[Bool.or_eq_true,mV]
        exact(uG _ _).2 (by rw[L_S,L_S];exact cle)]
       exact n51 _ (asH cle)
      rw[show(zD (S p) (S last) || decide (S p=S last))=false by
       rw[<-nE,Bool.or_eq_true,mV]
       intro h
       exact cle (by have:=(uG _ _).1 h;rwa [L_S,L_S]at this)]
      have hly:=asI (a:=a) hb hlast hu cle
      unfold kO
      rw[mc z7]
      refine al6 (hUe.m hse) hal ?_
      have n54:lay a last p n=none->kN B ro X6 X U Q (fun _=>lfpD (wx B ro X U Q) ()) true Ie:=fun h=>by
       unfold kN;rw[me rfl];exact refuse (nolay h)
      rcases al8 (l:=a) (k:=u) 0 with⟨f1,f2⟩ | ⟨j,m,f1,f2,f3⟩
      .rw[f2,me z8]
       exact n54 (by rw[hly,f1])
      .rw[f3,mc z6,mp]
       obtain⟨s3,b3,d4,q1,q2,q3,q4⟩:=(hUe.m hse).row f1
       have hjl:j<a.length:=by
        rcases mB j a.length with h | h
        .exact h
        .rw[mw h]at f1;cases f1
       refine⟨s3,q1,_,q3,z6,z6,m.own,q4 4 _ rfl,?_⟩
       by_cases co:m.own=0
       .rw[show(!decide (m.own=0))=false by simp[co]]
        unfold kN
        rw[mc z7]
        refine accept (xo a u uE++[(p,n)]) (by rw[hly,f2];simp[co]) ⟨_,rfl,arZ⟩
       .rw[show(!decide (m.own=0))=true by simp[co]]
        exact n54 (by rw[hly,f2];simp[co])
    by_cases c1:256<n.data.length
    .rw[mF z6]
     unfold kP
     rw[me rfl]
     exact r28 (.inl c1)
    rw[mL z6]
    unfold kP
    rw[mc z7]
    refine⟨_,hg 3 _ rfl,?_⟩
    by_cases c2:10000000000<n.ctr
    .rw[show decide (10000000000<n.ctr)=true by simpa using c2]
     exact r28 (.inr (.inl c2))
    rw[show decide (10000000000<n.ctr)=false by simpa using c2]
    unfold vK
    rw[mc z7]
    refine⟨_,hg 4 _ rfl,?_⟩
    by_cases c3:n.own=0
    .rw[mc (j1 c3)]
     unfold js
     exact good (by rintro(h | h | h);exact c1 h;exact c2 h;exact h.1 c3)
    .rw[me (j1 c3)]
     refine⟨_,hg 3 _ rfl,?_⟩
     unfold js
     have hc0:=hnums.2
     by_cases c4:n.ctr=0
     .rw[show(!decide (n.ctr=0))=false by simp[c4]]
      exact good (by rintro(h | h | h);exact c1 h;exact c2 h;omega)
     .rw[show(!decide (n.ctr=0))=true by simp[c4]]
      exact r30 (.inr (.inr ⟨c3,z6⟩))
   .rw[me (j1 he)]
    rw[me (j1 he)]at hdec
    unfold kP
    rw[me rfl]
    unfold vK
    rw[me rfl]
    unfold zQ
    rw[me rfl]
    exact refuse hdec.symm
where
 all_congr {α:Type} {l:List α} {f g:α->Bool} (h:∀ p∈l,f p=g p):l.all f=l.all g:=by
  induction l with
  | nil=>rfl
  | cons x l ih=>rw[LZ,LZ,h x z7,ih fun p hp=>h p (by simp[hp])]
end Zt
namespace Zt
open Go SL G Pa Wi
variable{B:World}[Zd B]{ro I I':AH}{tag tag':Nat->Nat}{L:List Nat}
variable{X q r:Nat}{rd:Rd}{s:Sl}{l:Str}
theorem vq.outR(h:vq tag I q X s l rd)(hq:q∉L):vq tag (SL.vG tag L I) q X s l rd:=by
 obtain⟨p,h1,h2,h3⟩:=h
 exact⟨p,h1,h2,h3.outR hq⟩
theorem vq.backR{tag1:Nat->Nat}{τ:AH}(h:vq tag1 τ q X s l rd)(hd:qI (SL.inR tag L I) τ):vq (aet tag tag1 L I) (join (SL.inR tag L I) τ) q X s l rd:=by
 obtain⟨p,h1,h2,h3⟩:=h
 exact⟨p,h1,h2,h3.backR hd⟩
theorem Row.cap{e:TypeId}{l:List Value}(h:Row tag I r e s l):s.len<=s.cap:=by
 rcases h with⟨rfl,rfl⟩ | ⟨b,cs,_,_,_,_,_,h,_⟩
 .exact mH _
 .exact h
end Zt
namespace Zt
open Go SL G Pa Wi
variable{B:World}[Zd B]{ro I I':AH}{tag tag':Nat->Nat}
abbrev CK:List Nat:=[0,2,3,4,5,8,10,12,13,14,54,55,56,57,58,62]
theorem aj4{Q:Bool->AH->Prop}(g:xC ro)(hQ:∀ tag' I',(∀R,qd R ro tag I tag' I')->Q true I'):acl B ro I Q:=by
 refine akA fun hs=>?_
 unfold aey
 refine qr (tag:=T7) 8 hs fun X tag1 I1 st1 r1=>?_
 refine amG (tag:=tag1) (r1.read (st1 []).sep) fun W T Tt M ms Th tag2 I2 st2 h2=>?_
 rw[mc z7]
 refine apB g h2 fun tag3 I3 st3=>?_
 have o3:=h2.own.keepS st3
 have m3:=h2.mem.keepS st3
 refine qr (tag:=tag3) 13 st3.sep fun Z tag4 I4 st4 r4=>?_
 refine r4.stPre ai9 0 _ I4 (st4 []).sep z7 aqN fun I5 st5 r5=>?_
 have y5:Row tag4 I5 13 _ ⟨some ⟨Z,0,none⟩,12,12⟩ ai9:=r5
 have k5:qd [13] ro tag3 I3 tag4 I5:=(st4 [13]).trans st5
 have o5:=o3.keep k5
 have m5:=m3.keep k5
 have hs5:=st5.sep
 refine⟨0,(y5.read hs5).2.2 _ rfl 0 _ rfl,?_⟩
 rw[me rfl]
 refine⟨1,(y5.read hs5).2.2 _ rfl 1 _ rfl,?_⟩
 unfold uJ
 rw[me z8]
 refine⟨_,rfl,?_⟩
 refine agq fun _=>?_
 unfold aaq
 refine⟨_,rfl,0,(o5.read hs5).2.2 _ rfl 0 _ rfl,?_⟩
 show yS B ro (some ⟨W,0,none⟩) Q (decide ((0:Int)=0)) I5
 unfold yS
 rw[me z8]
 refine⟨_,rfl,?_⟩
 refine afE fun _=>?_
 unfold uf
 refine⟨_,rfl,ms,(o5.read hs5).2.2 _ rfl 1 _ rfl,?_⟩
 refine ak8 (tag:=tag4) 14 (m5.read hs5) hs5 z8 (by simp[qk]) fun s tag6 I6 st6 r6=>?_
 unfold pW
 have hl:s.len=3:=(r6.read (st6 []).sep).1
 show Q (decide ((s.len:Int)=3)) I6
 rw[hl]
 have st:qi CK ro T7 I tag6 I6:=((st1 []).s z7).trans ((st2.mono z8).trans ((st3.mono z8).trans ((k5.s z7).trans ((st6 []).s z7))))
 exact hQ _ I6 (st.mix z8 tag)
theorem afU.keepS{C:List Nat}{W:Nat}{s:Sto}(h:afU tag I W s)(k:qi C ro tag I tag' I')(hC:∀ x∈DSt,x∉C:=by decide):afU tag' I' W s:=by
 obtain⟨T,Tt,Th,ms,h⟩:=h.in
 exact(h.keepS k hC).at
end Zt
namespace SL
open Go
variable{ro I I':AH}{T1 T2 T1' tag:Nat->Nat}{L:List Nat}
theorem apR{a:Addr}{v:Value}{o:Obj}{τ:AH}(hs:Sep ro I)(ht:tag a.block∈L)(hb:I a.block=some o)(h:qb ro I a=some v):qb (join ro (inR tag L I)) τ a=some v:=by
 unfold qb rd at h⊢
 rw[hs _ _ hb]at h
 unfold join inR
 rw[hs _ _ hb]
 simp only[me ht,hb]at h⊢
 exact h
theorem Row.lentN{r:Nat}{e:TypeId}{s:Sl}{l:List Value}(h:Row tag I r e s l)(hs:Sep ro I)(hr:r∈L):qU (join ro (inR tag L I)) (fun _=>none) s l:=by
 have R:=h.read hs
 refine⟨R.1,R.2.1,fun p hp i v hv=>?_⟩
 rcases h with⟨e,_⟩ | ⟨b,cs,ha,ht,hb,_⟩
 .rw[e]at hp;cases hp
 .have hpb:p.block=b:=by rw[ha]at hp;cases hp;rfl
  exact apR hs (by rw[afR,hpb,ht];exact hr) (by rw[afR,hpb];exact hb) (R.2.2 p hp i v hv)
end SL
namespace G
open Go SL
variable{B:World}{ro I:AH}
def yD(B:World)(ro:AH)(Q:Bool->AH->Prop)(I:AH):=
 Q true I
def yE(B:World)(ro:AH)(u0:Int)(u1:Option Addr)(u2:Nat)(Q:Bool->AH->Prop)(Y23:Int->AH->Prop)(I:AH):=
 Y23 (i64.wrap (u0 - 1)) I
def yF(B:World)(ro:AH)(u0 u1:Int)(u2:Option Addr)(u3:Nat)(Q:Bool->AH->Prop)(Y23:Int->AH->Prop)(Y32:Int->AH->Prop)(I:AH):=
 Y32 (i64.wrap (u1 - 1)) I
def yG(B:World)(ro:AH)(u0 u1:Int)(u2:Option Addr)(u3:Nat)(Q:Bool->AH->Prop)(Y23:Int->AH->Prop)(Y32:Int->AH->Prop)(I:AH):=
 qL B ro (some ⟨u3,0,none⟩) I fun u4 I=>
 yF B ro u0 u1 u2 u3 Q Y23 Y32 I
def vW(B:World)(ro:AH)(u0 u1:Int)(u2:Option Addr)(u3:Nat)(Q:Bool->AH->Prop)(Y23:Int->AH->Prop)(Y32:Int->AH->Prop):Int->AH->(Int->AH->Prop)->Prop:=fun u4 I Y37=>
 if u4<5 then
 qm B ro (some ⟨u3,0,none⟩) I fun u5 I=>
 Y37 (i64.wrap (u4+1)) I
 else
 yG B ro u0 u1 u2 u3 Q Y23 Y32 I
def vX(B:World)(ro:AH)(u0:Int)(u1:Option Addr)(u2:Nat)(Q:Bool->AH->Prop)(Y23:Int->AH->Prop):Int->AH->(Int->AH->Prop)->Prop:=fun u3 I Y32=>
 if 0<u3 then
 lfpD (vW B ro u0 u3 u1 u2 Q Y23 Y32) (0) I
 else
 yE B ro u0 u1 u2 Q Y23 I
def zU(B:World)(ro:AH)(u0:Int)(u1:Option Addr)(u2:Nat)(u3:Int)(Q:Bool->AH->Prop)(Y23:Int->AH->Prop)(u4:Bool)(I:AH):=
 if u4=true then
 Q false I
 else
 lfpD (vX B ro u0 u1 u2 Q Y23) (u3) I
def vY(B:World)(ro:AH)(u0:Option Addr)(u1:Nat)(Q:Bool->AH->Prop):Int->AH->(Int->AH->Prop)->Prop:=fun u2 I Y23=>
 if 0<u2 then
 qL B ro (some ⟨u1,0,none⟩) I fun u3 I=>
 awp prog ro (convert 24 9 (Sl.v u3)) (fun v I=>
  (∃(u4:ByteArray),v= .string u4/\
  qm B ro (some ⟨u1,0,none⟩) I fun u5 I=>
  qm B ro (some ⟨u1,0,none⟩) I fun u6 I=>
  if 0<u6 then
   (⟨#[47]⟩:ByteArray).size+u4.size<=9223372036854775807/\
   un B ro u0 ((⟨#[47]⟩:ByteArray)++u4) I fun u7 I=>
   zU B ro u2 u0 u1 u6 Q Y23 (decide (u7<0)) I
  else
  zU B ro u2 u0 u1 u6 Q Y23 false I)) I
 else
 yD B ro Q I
def zV(B:World)(ro:AH)(u0 u1:Sl)(Q:Bool->AH->Prop)(u2:Bool)(I:AH):=
 if u2=true then
 Q false I
 else
 uy B ro u0 I fun u3 u4 I=>
 if¬(u4=true)then
 Q false I
 else
 nw ro I (.cells #[Sl.v u1,.int .i64 0,.int .i64 0] 147) fun u5 I=>
 qm B ro (some ⟨u5,0,none⟩) I fun u6 I=>
 lfpD (vY B ro u3 u5 Q) (u6) I
def zW(B:World)(ro:AH)(u0 u1 u2:Sl)(Q:Bool->AH->Prop)(u3:Bool)(I:AH):=
 if u3=true then
 zV B ro u0 u1 Q true I
 else
 aax B ro u2 I fun u4 I=>
 zV B ro u0 u1 Q (!u4) I
def zX(B:World)(ro:AH)(u0 u1 u2:Sl)(Q:Bool->AH->Prop)(u3:Bool)(I:AH):=
 if u3=true then
 zW B ro u0 u1 u2 Q true I
 else
 aaw B ro u1 I fun u4 I=>
 zW B ro u0 u1 u2 Q (!u4) I
def zY(B:World)(ro:AH)(u0 u1 u2 u3:Sl)(Q:Bool->AH->Prop)(u4:Bool)(I:AH):=
 if u4=true then
 zX B ro u1 u2 u3 Q true I
 else
 aek B ro u0 I fun u5 I=>
 zX B ro u1 u2 u3 Q (!u5) I
def pz(B:World)(ro:AH)(u0:Nat)(Q:Bool->AH->Prop)(u1:Sl)(I:AH):=
 qL B ro (some ⟨u0,0,none⟩) I fun u2 I=>
 qL B ro (some ⟨u0,0,none⟩) I fun u3 I=>
 qL B ro (some ⟨u0,0,none⟩) I fun u4 I=>
 ∃u5,qb ro I ((⟨u0,0,none⟩:Addr).add 2)=some (.int .i64 u5)/\
 if¬(u5=0)then
 zY B ro u1 u2 u3 u4 Q true I
 else
 vp B ro (some ⟨u0,0,none⟩) I fun u6 I=>
 zY B ro u1 u2 u3 u4 Q (!(decide (u6=0))) I
def xR(B:World)(ro:AH)(u0:Nat)(u1:Int)(Q:Bool->AH->Prop):(Sl×Int)->AH->((Sl×Int)->AH->Prop)->Prop:=fun⟨u2,u3⟩ I Y45=>
 if(u3<u1)/\(u3<8)then
 qm B ro (some ⟨u0,0,none⟩) I fun u4 I=>
 nw ro I (.cells #[.int .i64 u4] 3) fun u5 I=>
 awp prog ro (Builtin.append_ #[55,55] 55 #[Sl.v u2,Sl.v (⟨some ⟨u5,0,none⟩,1,1⟩:Sl)]) (fun v I=> ∃(u6:Sl),v=Sl.v u6/\
  Y45 (u6,i64.wrap (u3+1)) I) I
 else
 pz B ro u0 Q u2 I
def abH(B:World)(ro:AH)(a0:Sl)(I:AH)(Q:Bool->AH->Prop):=
 nw ro I (.cells #[Sl.v a0,.int .i64 0,.int .i64 0] 147) fun u0 I=>
 qm B ro (some ⟨u0,0,none⟩) I fun u1 I=>
 qm B ro (some ⟨u0,0,none⟩) I fun u2 I=>
 lfpD (xR B ro u0 u2 Q) ((⟨none,0,0⟩:Sl),0) I
theorem ahx{a0 Q}(h:Sep ro I->abH B ro a0 I Q):jI B ro a0 I Q:=by
 refine zb h func42 ntmps42 fun h=>?_;unfold abH at h;refine zw ?_;refine zm (wD (vs:=[(0,Sl.v a0)]) (cs:= #[Sl.v a0,.int .i64 0,.int .i64 0]) rfl mS ajs aju rfl rfl) ?_;refine zA (wY rfl rfl) h fun u0 h=>?_;refine zc func59 h ?_;rintro v I ⟨u1,rfl,h⟩;refine zC func59 h fun u2 I h=>?_;refine AW.seqJ (fun fr I=> ∃(u3:Sl),qg [(3,.pointer (some ⟨u0,0,none⟩)),(5,Sl.v u3)] fr/\pz B ro u0 Q u3 I) ?_ ?_
 rotate_left
 .refine zw ?_;refine qf.loop (fr':=[(3,.pointer (some ⟨u0,0,none⟩)),(4,.int .i64 u2),(5,Sl.v (⟨none,0,0⟩:Sl)),(6,.int .i64 0)]) ?_ FL
  refine h (fun⟨u4,u5⟩ I=>qf _ _ _ _ _ _ [(3,.pointer (some ⟨u0,0,none⟩)),(4,.int .i64 u2),(5,Sl.v u4),(6,.int .i64 u5)] I) ?_
  rintro⟨u4,u5⟩ I Y45 hY45 h
  show AW _ _ _ _ _ _ _ _
  unfold xR at h;dsimp only at h;refine AW.seq ?_;refine zw ?_;refine qx 3 (decide (u5<u2)) [(3,.pointer (some ⟨u0,0,none⟩)),(4,.int .i64 u2),(5,Sl.v u4),(6,.int .i64 u5),(30,.bool ((decide (u5<u2)) && (decide (u5<8))))] ?_ ?_ ?_
  .intro e3 hk3
   refine zv e3 ?_;exact hk3 _ (Fe e3)
  .intro e3 hk3
   refine zv e3 ?_;exact hk3 _ (Fe e3)
  intro fr hl
  refine Lfr hl ?_
  refine zw ?_;refine AW.iff rfl (xv mg mg) h (fun h=>?_) (fun h=>?_)
  rotate_left
  .refine AW.exit ?_;refine zw ?_;refine qN ?_
   refine zw ?_;exact⟨_,FL,h⟩
  refine zw ?_;refine AW.seq ?_;refine zc func59 h ?_;rintro v I ⟨u6,rfl,h⟩;refine zA (wS (vs:=[(0,.int .i64 u6)]) (cs:= #[.int .i64 u6]) rfl mx ty3 z8 rfl rfl) h fun u7 h=>?_;refine zl (yt (s:=Builtin.append_ #[55,55] 55 #[Sl.v u4,Sl.v (⟨some ⟨u7,0,none⟩,1,1⟩:Sl)]) rfl rfl (fun _=>rfl) (qj _ h ?_))
  rintro v I ⟨u8,rfl,h⟩;refine zw ?_;refine qf.head (fr':=[(3,.pointer (some ⟨u0,0,none⟩)),(4,.int .i64 u2),(5,Sl.v u8),(6,.int .i64 (i64.wrap (u5+1)))]) ?_ FL
  exact hY45 _ _ h
 rintro fr I ⟨u3,hl,h⟩;refine AW.weaken ?_ hl (HLe.refl _)
 unfold pz at h;refine zc func60 h ?_;rintro v I ⟨u9,rfl,h⟩;refine zc func60 h ?_;rintro v I ⟨u10,rfl,h⟩;refine zC func60 h fun u11 I h=>?_;refine AW.seq ?_;refine zw ?_;refine zm (qC rfl rfl) ?_;refine zf mS ty3 ?_;refine zLp mj h fun u12 h=>?_;refine qn 4 (!(decide (u12=0))) (qp mg) h (fun fr I=> ∃(u13:Bool),qg [(5,Sl.v u3),(7,Sl.v u9),(8,Sl.v u10),(9,Sl.v u11),(53,.bool u13)] fr/\zY B ro u3 u9 u10 u11 Q u13 I) ?_ ?_ ?_
 .intro h e5 hk5;refine zv e5 ?_;exact hk5 _ _ ⟨_,FL,h⟩
 .intro h e5 hk5;refine zy e5 ?_;refine Lyb rfl rfl rfl rfl e5 (wu rfl func61 rfl rfl rfl (qc.mono h ?_))
  rintro v I ⟨u14,rfl,h⟩;refine zv e5 ?_;exact hk5 _ _ ⟨_,FL,h⟩
 rintro fr I ⟨u13,hl,h⟩;unfold zY at h;refine Lfr hl ?_
 refine zw ?_;refine qn 4 u13 Iff.rfl h (fun fr I=> ∃(u15:Bool),qg [(7,Sl.v u9),(8,Sl.v u10),(9,Sl.v u11),(58,.bool u15)] fr/\zX B ro u9 u10 u11 Q u15 I) ?_ ?_ ?_
 .intro h e10 hk10;refine zv e10 ?_;exact hk10 _ _ ⟨_,FL,h⟩
 .intro h e10 hk10;refine zy e10 ?_;refine Lyb rfl rfl rfl rfl e10 (wu rfl func102 rfl rfl rfl (qc.mono h ?_))
  rintro v I ⟨u16,rfl,h⟩;refine zv e10 ?_;exact hk10 _ _ ⟨_,FL,h⟩
 rintro fr I ⟨u15,hl,h⟩;unfold zX at h;refine Lfr hl ?_
 refine zw ?_;refine qn 4 u15 Iff.rfl h (fun fr I=> ∃(u17:Bool),qg [(7,Sl.v u9),(8,Sl.v u10),(9,Sl.v u11),(63,.bool u17)] fr/\zW B ro u9 u10 u11 Q u17 I) ?_ ?_ ?_
 .intro h e15 hk15;refine zv e15 ?_;exact hk15 _ _ ⟨_,FL,h⟩
 .intro h e15 hk15;refine zy e15 ?_;refine Lyb rfl rfl rfl rfl e15 (wu rfl func110 rfl rfl rfl (qc.mono h ?_))
  rintro v I ⟨u18,rfl,h⟩;refine zv e15 ?_;exact hk15 _ _ ⟨_,FL,h⟩
 rintro fr I ⟨u17,hl,h⟩;unfold zW at h;refine Lfr hl ?_
 refine zw ?_;refine qn 4 u17 Iff.rfl h (fun fr I=> ∃(u19:Bool),qg [(7,Sl.v u9),(8,Sl.v u10),(68,.bool u19)] fr/\zV B ro u9 u10 Q u19 I) ?_ ?_ ?_
 .intro h e20 hk20;refine zv e20 ?_;exact hk20 _ _ ⟨_,FL,h⟩
 .intro h e20 hk20;refine zy e20 ?_;refine Lyb rfl rfl rfl rfl e20 (wu rfl func111 rfl rfl rfl (qc.mono h ?_))
  rintro v I ⟨u20,rfl,h⟩;refine zv e20 ?_;exact hk20 _ _ ⟨_,FL,h⟩
 rintro fr I ⟨u19,hl,h⟩;unfold zV at h;refine Lfr hl ?_
 refine zj h (fun h=>?_) fun h=>?_
 .exact zr h
 refine zc func112 h ?_;rintro v I ⟨u21,u22,rfl,h⟩;refine zw ?_;refine AW.seq ?_;refine zw ?_;refine AW.iff rfl (qp Iff.rfl) h (fun h=>?_) (fun h=>?_)
 .exact zr h
 refine zw ?_;refine zm (wD (vs:=[(0,Sl.v u10)]) (cs:= #[Sl.v u10,.int .i64 0,.int .i64 0]) rfl mS ajs aju rfl rfl) ?_;refine zAp (wY rfl rfl) h fun u23 h=>?_;refine AW.seqJ (fun fr I=>qg [] fr/\yD B ro Q I) ?_ ?_
 .rintro fr I ⟨hl,h⟩;refine AW.weaken ?_ hl (HLe.refl _)
  unfold yD at h;exact zr h
 refine zC func59 h fun u24 I h=>?_;refine qf.loop (fr':=[(10,.pointer u21),(12,.pointer (some ⟨u23,0,none⟩)),(13,.int .i64 u24)]) ?_ FL
 refine h (fun u25 I=>qf _ _ _ _ _ _ [(10,.pointer u21),(12,.pointer (some ⟨u23,0,none⟩)),(13,.int .i64 u25)] I) ?_
 rintro u25 I Y23 hY23 h
 show AW _ _ _ _ _ _ _ _
 unfold vY at h;refine AW.seq ?_;refine zi h (fun h=>?_) fun h=>?_
 rotate_left
 .refine AW.exit ?_;refine zw ?_;refine qN ?_
  refine zw ?_;exact⟨FL,h⟩
 refine zw ?_;refine AW.seqJ (fun fr I=>qg [(10,.pointer u21),(12,.pointer (some ⟨u23,0,none⟩)),(13,.int .i64 u25)] fr/\yE B ro u25 u21 u23 Q Y23 I) ?_ ?_
 .rintro fr I ⟨hl,h⟩;refine AW.weaken ?_ hl (HLe.refl _)
  unfold yE at h;refine zw ?_;refine qf.head (fr':=[(10,.pointer u21),(12,.pointer (some ⟨u23,0,none⟩)),(13,.int .i64 (i64.wrap (u25 - 1)))]) ?_ FL
  exact hY23 _ _ h
 refine zc func60 h ?_;rintro v I ⟨u26,rfl,h⟩;refine zl (aeK rfl rfl (qj _ h ?_))
 rintro v I ⟨u27,rfl,h⟩;refine zc func59 h ?_;rintro v I ⟨u28,rfl,h⟩;refine zC func59 h fun u29 I h=>?_;refine AW.seq ?_;refine zw ?_;refine qn 6 (decide (0<u29)) mg h (fun fr I=> ∃(u30:Bool),qg [(10,.pointer u21),(12,.pointer (some ⟨u23,0,none⟩)),(13,.int .i64 u25),(15,.int .i64 u29),(100,.bool u30)] fr/\zU B ro u25 u21 u23 u29 Q Y23 u30 I) ?_ ?_ ?_
 .intro h e2 hk2;refine zv e2 ?_;obtain⟨hc,h⟩:=h
  refine qo (aeJ rfl rfl rfl hc) rfl rfl rfl rfl e2 ?_
  refine Lyb rfl rfl rfl rfl e2 (wu rfl func113 rfl rfl rfl (qc.mono h ?_))
  rintro v I ⟨u31,rfl,h⟩;refine zv e2 ?_;exact hk2 _ _ ⟨_,FL,h⟩
 .intro h e2 hk2;refine zv e2 ?_;exact hk2 _ _ ⟨_,FL,h⟩
 rintro fr I ⟨u30,hl,h⟩;unfold zU at h;refine Lfr hl ?_
 refine zj h (fun h=>?_) fun h=>?_
 .exact zr h
 refine zw ?_;refine qf.loop (fr':=[(10,.pointer u21),(12,.pointer (some ⟨u23,0,none⟩)),(13,.int .i64 u25),(15,.int .i64 u29)]) ?_ FL
 refine h (fun u32 I=>qf _ _ _ _ _ _ [(10,.pointer u21),(12,.pointer (some ⟨u23,0,none⟩)),(13,.int .i64 u25),(15,.int .i64 u32)] I) ?_
 rintro u32 I Y32 hY32 h
 show AW _ _ _ _ _ _ _ _
 unfold vX at h;refine AW.seq ?_;refine zi h (fun h=>?_) fun h=>?_
 rotate_left
 .refine AW.exit ?_;refine zw ?_;refine qN ?_
  refine zw ?_;exact⟨FL,h⟩
 refine zw ?_;refine AW.seqJ (fun fr I=>qg [(10,.pointer u21),(12,.pointer (some ⟨u23,0,none⟩)),(13,.int .i64 u25),(15,.int .i64 u32)] fr/\yF B ro u25 u32 u21 u23 Q Y23 Y32 I) ?_ ?_
 .rintro fr I ⟨hl,h⟩;refine AW.weaken ?_ hl (HLe.refl _)
  unfold yF at h;refine zw ?_;refine qf.head (fr':=[(10,.pointer u21),(12,.pointer (some ⟨u23,0,none⟩)),(13,.int .i64 u25),(15,.int .i64 (i64.wrap (u32 - 1)))]) ?_ FL
  exact hY32 _ _ h
 refine zw ?_;refine AW.seqJ (fun fr I=>qg [(10,.pointer u21),(12,.pointer (some ⟨u23,0,none⟩)),(13,.int .i64 u25),(15,.int .i64 u32)] fr/\yG B ro u25 u32 u21 u23 Q Y23 Y32 I) ?_ ?_
 .rintro fr I ⟨hl,h⟩;refine AW.weaken ?_ hl (HLe.refl _)
  unfold yG at h;refine zC func60 h fun u33 I h=>?_;exact⟨FL,h⟩
 refine zw ?_;refine qf.loop (fr':=[(10,.pointer u21),(12,.pointer (some ⟨u23,0,none⟩)),(13,.int .i64 u25),(15,.int .i64 u32),(16,.int .i64 0)]) ?_ FL
 refine h (fun u34 I=>qf _ _ _ _ _ _ [(10,.pointer u21),(12,.pointer (some ⟨u23,0,none⟩)),(13,.int .i64 u25),(15,.int .i64 u32),(16,.int .i64 u34)] I) ?_
 rintro u34 I Y37 hY37 h
 show AW _ _ _ _ _ _ _ _
 unfold vW at h;refine AW.seq ?_;refine zi h (fun h=>?_) fun h=>?_
 rotate_left
 .refine AW.exit ?_;refine zw ?_;refine qN ?_
  refine zw ?_;exact⟨FL,h⟩
 refine zw ?_;refine AW.seq ?_;refine zC func59 h fun u35 I h=>?_;refine qf.head (fr':=[(10,.pointer u21),(12,.pointer (some ⟨u23,0,none⟩)),(13,.int .i64 u25),(15,.int .i64 u32),(16,.int .i64 (i64.wrap (u34+1)))]) ?_ FL
 exact hY37 _ _ h
def abR(B:World)(ro:AH)(a0:Sl)(Q:Bool->AH->Prop)(I:AH):=
 Q ((decide (1<=(a0.len:Int))) && (decide ((a0.len:Int)<=7))) I
def vj(B:World)(ro:AH)(a0:Sl)(u0:Int)(Q:Bool->AH->Prop)(Y2:Int->AH->Prop)(u1:Bool)(I:AH):=
 if u1=true then
 Q false I
 else
 Y2 (i64.wrap (u0+1)) I
def jx(B:World)(ro:AH)(a0:Sl)(Q:Bool->AH->Prop):Int->AH->(Int->AH->Prop)->Prop:=fun u0 I Y2=>
 if u0<(a0.len:Int)then
 ∃p1,a0.a=some p1/\(0:Int)<=u0/\u0<(a0.len:Int)/\
 ∃u2,qb ro I (p1.add (Int.toNat u0*1))=some (.int .i64 u2)/\
 if u2<0 then
  vj B ro a0 u0 Q Y2 true I
 else
 ∃p3,a0.a=some p3/\(0:Int)<=u0/\u0<(a0.len:Int)/\
 ∃u4,qb ro I (p3.add (Int.toNat u0*1))=some (.int .i64 u4)/\
 if 31<u4 then
  vj B ro a0 u0 Q Y2 true I
 else
 if 0<u0 then
  ∃p5,a0.a=some p5/\(0:Int)<=u0/\u0<(a0.len:Int)/\
  ∃p6,a0.a=some p6/\(0:Int)<=(i64.wrap (u0 - 1))/\(i64.wrap (u0 - 1))<(a0.len:Int)/\
  ∃u7,qb ro I (p5.add (Int.toNat u0*1))=some (.int .i64 u7)/\
  ∃u8,qb ro I (p6.add (Int.toNat (i64.wrap (u0 - 1))*1))=some (.int .i64 u8)/\
  vj B ro a0 u0 Q Y2 (decide (u7<=u8)) I
 else
 vj B ro a0 u0 Q Y2 false I
 else
 abR B ro a0 Q I
def aeD(B:World)(ro:AH)(a0:Sl)(I:AH)(Q:Bool->AH->Prop):=
 lfpD (jx B ro a0 Q) (0) I
theorem akG{a0 Q}(h:Sep ro I->aeD B ro a0 I Q):aek B ro a0 I Q:=by
 refine zb h func102 ntmps102 fun h=>?_;unfold aeD at h;refine zw ?_;refine AW.seqJ (fun fr I=>qg [(0,Sl.v a0)] fr/\abR B ro a0 Q I) ?_ ?_
 .rintro fr I ⟨hl,h⟩;refine AW.weaken ?_ hl (HLe.refl _)
  unfold abR at h;refine zw ?_;refine zm (qD rfl rfl mx rfl rfl) ?_;refine zw ?_;refine qx 4 (decide (1<=(a0.len:Int))) [(45,.bool ((decide (1<=(a0.len:Int))) && (decide ((a0.len:Int)<=7))))] ?_ ?_ ?_
  .intro e3 hk3
   refine zy e3 ?_;refine qo (qD rfl rfl mx rfl rfl) rfl rfl rfl rfl e3 ?_
   refine zv e3 ?_;exact hk3 _ (Fe e3)
  .intro e3 hk3
   refine zv e3 ?_;exact hk3 _ (Fe e3)
  intro fr hl
  refine Lfr hl ?_
  exact zr h
 refine zw ?_;refine qf.loop (fr':=[(0,Sl.v a0),(3,.int .i64 0)]) ?_ FL
 refine h (fun u0 I=>qf _ _ _ _ _ _ [(0,Sl.v a0),(3,.int .i64 u0)] I) ?_
 rintro u0 I Y2 hY2 h
 show AW _ _ _ _ _ _ _ _
 unfold jx at h;refine AW.seq ?_;refine zw ?_;refine zm (qD rfl rfl mx rfl rfl) ?_;refine zi h (fun h=>?_) fun h=>?_
 rotate_left
 .refine AW.exit ?_;refine zw ?_;refine qN ?_
  refine zw ?_;exact⟨FL,h⟩
 refine zw ?_;refine AW.seq ?_;refine zw ?_;refine AW.seqJ (fun fr I=> ∃(u1:Bool),qg [(0,Sl.v a0),(3,.int .i64 u0),(37,.bool u1)] fr/\vj B ro a0 u0 Q Y2 u1 I) ?_ ?_
 .rintro fr I ⟨u1,hl,h⟩;refine AW.weaken ?_ hl (HLe.refl _)
  unfold vj at h;refine zj h (fun h=>?_) fun h=>?_
  .exact zr h
  refine zw ?_;refine qf.head (fr':=[(0,Sl.v a0),(3,.int .i64 (i64.wrap (u0+1)))]) ?_ FL
  exact hY2 _ _ h
 refine AW.drawn0 (fun i=>([0,0,0,3,0,0,0,0,0,3,0,0,0,0,0,0,0,0,0,3,0,0,0,0,3,0,0,0]:List Nat).getD i 2) [] [0,1,2,3,4,5,6,7,8,9,10,11,12,13,14,15,16,17,18,20,21,22,23,19,24,25,26,27] mixed j0 ?_
 refine zw ?_;obtain⟨p2,ha,h0,h1,h⟩:=h
 refine Dp rfl rfl rfl rfl (wR rfl mx ty3 (ixL rfl ha) rfl h0 h1) ?_
 refine zR mj h fun u3 h=>?_;refine zw ?_;refine abm (decide (u3<0)) mg h ?_ ?_
 .intro h e5
  refine Dpn rfl rfl rfl rfl rfl (.inl (by rw[e5];try rfl)) rfl ?_
  refine Dpn rfl rfl rfl rfl rfl (.inl (by rw[e5];try rfl)) rfl ?_
  refine Dpn rfl rfl rfl rfl rfl (.inl (by rw[e5];try rfl)) rfl ?_
  refine Drn rfl rfl rfl rfl rfl (.inl (by rw[e5];try rfl)) rfl ?_
  refine Dpn rfl rfl rfl rfl rfl (.inl (by rw[e5];try rfl)) rfl ?_
  refine Dp rfl rfl rfl rfl (qT rfl (evb e5) rfl) ?_
  refine zw ?_;refine Dpn rfl rfl rfl rfl rfl (.inl rfl) rfl ?_
  refine Dpn rfl rfl rfl rfl rfl (.inl rfl) rfl ?_
  refine Dpn rfl rfl rfl rfl rfl (.inl rfl) rfl ?_
  refine Dpn rfl rfl rfl rfl rfl (.inr rfl) rfl ?_
  refine Dpn rfl rfl rfl rfl rfl (.inr rfl) rfl ?_
  refine Dpn rfl rfl rfl rfl rfl (.inr rfl) rfl ?_
  refine Dpn rfl rfl rfl rfl rfl (.inr rfl) rfl ?_
  refine Dpn rfl rfl rfl rfl rfl (.inr rfl) rfl ?_
  refine Dpn rfl rfl rfl rfl rfl (.inr rfl) rfl ?_
  refine Dpn rfl rfl rfl rfl rfl (.inr rfl) rfl ?_
  refine Drn rfl rfl rfl rfl rfl (.inr rfl) rfl ?_
  refine Drn rfl rfl rfl rfl rfl (.inr rfl) rfl ?_
  refine Dpn rfl rfl rfl rfl rfl (.inr rfl) rfl ?_
  refine Dpn rfl rfl rfl rfl rfl (.inl rfl) rfl ?_
  refine Dp rfl rfl rfl rfl (qT rfl (evb rfl) rfl) ?_
  refine vn ?_
  refine zw ?_;exact⟨_,FL,h⟩
 intro h e5
 refine Dpy rfl rfl rfl rfl rfl e5 rfl (zZ rfl rfl) ?_
 refine Dpy rfl rfl rfl rfl rfl e5 rfl (zZ rfl rfl) ?_
 obtain⟨p4,ha,h0,h1,h⟩:=h
 refine Dpy rfl rfl rfl rfl rfl e5 rfl (wR rfl mx ty3 (ixL rfl ha) rfl h0 h1) ?_
 obtain⟨u5,hc,h⟩:=h
 refine Dry rfl rfl rfl rfl rfl e5 rfl (abT rfl mj rfl rfl hc) ?_
 refine Dpy rfl rfl rfl rfl rfl e5 rfl (aeI rfl rfl rfl) ?_
 refine Dp rfl rfl rfl rfl (wL rfl (evb e5) rfl) ?_
 refine zw ?_;refine abm (decide (31<u5)) mg h ?_ ?_
 .intro h e12
  refine Dpn rfl rfl rfl rfl rfl (.inl (by rw[e12];try rfl)) rfl ?_
  refine Dpn rfl rfl rfl rfl rfl (.inl (by rw[e12];try rfl)) rfl ?_
  refine Dpn rfl rfl rfl rfl rfl (.inl (by rw[e12];try rfl)) rfl ?_
  refine Dpn rfl rfl rfl rfl rfl (.inr rfl) rfl ?_
  refine Dpn rfl rfl rfl rfl rfl (.inr rfl) rfl ?_
  refine Dpn rfl rfl rfl rfl rfl (.inr rfl) rfl ?_
  refine Dpn rfl rfl rfl rfl rfl (.inr rfl) rfl ?_
  refine Dpn rfl rfl rfl rfl rfl (.inr rfl) rfl ?_
  refine Dpn rfl rfl rfl rfl rfl (.inr rfl) rfl ?_
  refine Dpn rfl rfl rfl rfl rfl (.inr rfl) rfl ?_
  refine Drn rfl rfl rfl rfl rfl (.inr rfl) rfl ?_
  refine Drn rfl rfl rfl rfl rfl (.inr rfl) rfl ?_
  refine Dpn rfl rfl rfl rfl rfl (.inr rfl) rfl ?_
  refine Dpn rfl rfl rfl rfl rfl (.inl (by rw[e12];try rfl)) rfl ?_
  refine Dp rfl rfl rfl rfl (qT rfl (evb e12) rfl) ?_
  refine vn ?_
  refine zw ?_;exact⟨_,FL,h⟩
 intro h e12
 refine Dpy rfl rfl rfl rfl rfl e12 rfl (zZ rfl rfl) ?_
 refine Dpy rfl rfl rfl rfl rfl e12 rfl (aeI rfl rfl rfl) ?_
 refine Dpy rfl rfl rfl rfl rfl e12 rfl (zZ rfl rfl) ?_
 refine abm (decide (0<u0)) mg h ?_ ?_
 rotate_left
 .intro h e15
  refine Dpn rfl rfl rfl rfl rfl (.inl (by rw[e15];try rfl)) rfl ?_
  refine Dpn rfl rfl rfl rfl rfl (.inl (by rw[e15];try rfl)) rfl ?_
  refine Dpn rfl rfl rfl rfl rfl (.inl (by rw[e15];try rfl)) rfl ?_
  refine Dpn rfl rfl rfl rfl rfl (.inl (by rw[e15];try rfl)) rfl ?_
  refine Dpn rfl rfl rfl rfl rfl (.inl (by rw[e15];try rfl)) rfl ?_
  refine Dpn rfl rfl rfl rfl rfl (.inl (by rw[e15];try rfl)) rfl ?_
  refine Dpn rfl rfl rfl rfl rfl (.inl (by rw[e15];try rfl)) rfl ?_
  refine Drn rfl rfl rfl rfl rfl (.inl (by rw[e15];try rfl)) rfl ?_
  refine Drn rfl rfl rfl rfl rfl (.inl (by rw[e15];try rfl)) rfl ?_
  refine Dpn rfl rfl rfl rfl rfl (.inl (by rw[e15];try rfl)) rfl ?_
  refine Dpy rfl rfl rfl rfl rfl e12 rfl (wL rfl (evb e15) rfl) ?_
  refine Dp rfl rfl rfl rfl (wL rfl (evb e12) rfl) ?_
  refine vn ?_
  refine zw ?_;exact⟨_,FL,h⟩
 intro h e15
 refine Dpy rfl rfl rfl rfl rfl e15 rfl (zZ rfl rfl) ?_
 refine Dpy rfl rfl rfl rfl rfl e15 rfl (zZ rfl rfl) ?_
 obtain⟨p6,ha,h0,h1,h⟩:=h
 refine Dpy rfl rfl rfl rfl rfl e15 rfl (wR rfl mx ty3 (ixL rfl ha) rfl h0 h1) ?_
 refine Dpy rfl rfl rfl rfl rfl e15 rfl (zZ rfl rfl) ?_
 refine Dpy rfl rfl rfl rfl rfl e15 rfl (zZ rfl rfl) ?_
 refine Dpy rfl rfl rfl rfl rfl e15 rfl (ajf rfl rfl rfl) ?_
 obtain⟨p7,ha,h0,h1,h⟩:=h
 refine Dpy rfl rfl rfl rfl rfl e15 rfl (wR rfl mx ty3 (ixL rfl ha) rfl h0 h1) ?_
 obtain⟨u8,hc,h⟩:=h
 refine Dry rfl rfl rfl rfl rfl e15 rfl (abT rfl mj rfl rfl hc) ?_
 obtain⟨u9,hc,h⟩:=h
 refine Dry rfl rfl rfl rfl rfl e15 rfl (abT rfl mj rfl rfl hc) ?_
 refine Dpy rfl rfl rfl rfl rfl e15 rfl (alz rfl rfl rfl) ?_
 refine Dpy rfl rfl rfl rfl rfl e12 rfl (qT rfl (evb e15) rfl) ?_
 refine Dp rfl rfl rfl rfl (wL rfl (evb e12) rfl) ?_
 refine vn ?_
 refine zw ?_;exact⟨_,FL,h⟩
end G
namespace Zt
open Go SL G Pa Wi
variable{B:World}[Zd B]{ro I I':AH}{tag tag':Nat->Nat}
variable{s0 τ:AH}{Q:Bool->AH->Prop}{T X q:Nat}{t0 tag1:Nat->Nat}{rd:Rd}{a0 s:Sl}{b l:Str}
theorem ar0{l:List Int}(h:SL.qU ro I s (l.map vI))(hl:l.length<=1048576)(hQ:Q (zH l) I):aek B ro s I Q:=by
 refine akG fun _=>?_
 unfold aeD
 have hln:s.len=l.length:=by rw[h.1,ml]
 suffices∀m j,j+m=l.length->(∀k (hk:k<l.length),k<j->0<=l[k]/\l[k]<=31/\(∀x,(if k=0 then none else l[k - 1]?)=some x->x<l[k]))->lfpD (jx B ro s Q) (j:Int) I from
  this _ 0 (mp _) (fun k _ hk=>by omega)
 intro m
 induction m with
 | zero=>
  intro j hj hall
  refine lfpD.intro ?_
  unfold jx
  rw[mc z6]
  unfold abR
  have e:zH l=(decide (1<=(s.len:Int)) && decide ((s.len:Int)<=7)):=by
   unfold zH
   rw[(aeS none).2 fun k hk=>hall k hk z6,Bool.true_and,show decide (1<=(s.len:Int))=decide (1<=l.length)from Lh.2 z6,show decide ((s.len:Int)<=7)=decide (l.length<=7)from Lh.2 z6]
  rw[<-e];exact hQ
 | succ m ih=>
  intro j hj hall
  have hjl:j<l.length:=by omega
  obtain⟨p,hp⟩:∃ p,s.a=some p:=by
   cases e:s.a with
   | none=>have:=h.2.1 e;simp at this;rw[this]at hjl;simp at hjl
   | some p=>exact⟨p,rfl⟩
  have gj:=h.2.2 p hp j (vI l[j]) (by rw[mq,mh hjl];try rfl)
  have bad:∀ {c:Bool},c=true->¬ (0<=l[j]/\l[j]<=31/\(∀x,(if j=0 then none else l[j - 1]?)=some x->x<l[j]))->vj B ro s (j:Int) Q (lfpD (jx B ro s Q)) c I:=fun hc hn=>by
   unfold vj
   rw[me hc]
   have:zH l=false:=by
    unfold zH
    have:ail l none=false:=by
     rw[<-nE]
     intro e
     exact hn ((aeS none).1 e j hjl)
    rw[this];try rfl
   rw[this]at hQ;exact hQ
  have good:∀ {c:Bool},c=false->(0<=l[j]/\l[j]<=31/\(∀x,(if j=0 then none else l[j - 1]?)=some x->x<l[j]))->vj B ro s (j:Int) Q (lfpD (jx B ro s Q)) c I:=fun hc hg=>by
   unfold vj
   rw[mc (by simp[hc]),Pa.inc j z6]
   refine ih (j+1) z6 fun k hk hkj=>?_
   rcases mB k j with h | h
   .exact hall k hk h
   .have:k=j:=by omega
    subst this;exact hg
  refine lfpD.intro ?_
  unfold jx
  rw[me z6]
  refine⟨p,hp,z6,z6,l[j],by rw[mr,mX];exact gj,?_⟩
  by_cases c0:l[j]<0
  .rw[me c0]
   exact bad rfl fun hn=>by omega
  rw[mc c0]
  refine⟨p,hp,z6,z6,l[j],by rw[mr,mX];exact gj,?_⟩
  by_cases c1:31<l[j]
  .rw[me c1]
   exact bad rfl fun hn=>by omega
  rw[mc c1]
  by_cases c2:0<j
  .rw[me z6]
   have ew:i64.wrap ((j:Int) - 1)=((j - 1:Nat):Int):=by rw[SL.qM z6 z6];omega
   rw[ew]
   have hj1:j - 1<l.length:=by omega
   have gj1:=h.2.2 p hp (j - 1) (vI l[j - 1]) (by rw[mq,mh hj1];try rfl)
   refine⟨p,hp,z6,z6,p,hp,z6,z6,l[j],by rw[mr,mX];exact gj,l[j - 1],by rw[mr,mX];exact gj1,?_⟩
   by_cases c3:l[j]<=l[j - 1]
   .exact bad (j1 c3) fun hn=>by
     have:=hn.2.2 l[j - 1] (by rw[mc z6,mh hj1]);omega
   .refine good (j1 c3) ⟨z6,z6,fun x hx=>?_⟩
    rw[mc z6,mh hj1]at hx
    cases hx;omega
  .rw[mc z6]
   refine good rfl ⟨z6,z6,fun x hx=>?_⟩
   rw[me z6]at hx;cases hx
theorem aiO{P:Program}{f:FuncId}{args:Array Value}{Q:Value->AH->Prop}(L:List Nat)(h:qc P B (join ro (SL.inR tag L I)) f args (SL.vG tag L I) fun v τ=>SL.Sep (join ro (SL.inR tag L I)) τ->qI (SL.inR tag L I) τ->Q v (join (SL.inR tag L I) τ)):qc P B ro f args I Q:=by
 have h':=qc.monoS h (Q':=fun v τ=>SL.Sep (join ro (SL.inR tag L I)) τ/\(SL.Sep (join ro (SL.inR tag L I)) τ->qI (SL.inR tag L I) τ->Q v (join (SL.inR tag L I) τ))) fun v τ hs q=>⟨hs,q⟩
 have:=qc.lend h' (fun b o hb=>by
  obtain⟨h1,_⟩:=alV hb
  unfold SL.vG
  rw[me h1])
 rw[arO]at this
 exact qc.mono this fun v I' ⟨τ,ht,hd,hs,q⟩=>by rw[ht];exact q hs hd
theorem afV{Q:Int->AH->Prop}(hq6:q≠6)(h:vq tag I q X s l rd)(hd:Row tag I 6 5 s (l.map vU))(hs:SL.Sep ro I)(hl:l.length<=140737488355328)
  (hQ:∀ tag' I',qd [q] ro tag I tag' I'->vq tag' I' q X s l (qa rd).2->Q ((qa rd).1:Nat) I'):qm B ro (some ⟨X,0,none⟩) I Q:=by
 refine aiO (tag:=tag) [6] ?_
 have base:qm B (join ro (SL.inR tag [6] I)) (some ⟨X,0,none⟩) (SL.vG tag [6] I) fun r τ=>SL.Sep (join ro (SL.inR tag [6] I)) τ->qI (SL.inR tag [6] I) τ->Q r (join (SL.inR tag [6] I) τ):=
  rdnum_ok (h.outR (j1 hq6)) (hd.lentN hs z7) hl fun I' st h' _ hdj=>hQ _ _ (qd.backR st hs hdj) (h'.backR hdj)
 exact qc.mono base fun v τ ⟨r,hv,q⟩ h1 h2=>⟨r,hv,q h1 h2⟩
theorem aj5{Q:Sl->AH->Prop}(hq6:q≠6)(h:vq tag I q X s l rd)(hd:Row tag I 6 5 s (l.map vU))(hs:SL.Sep ro I)(hl:l.length<=140737488355328)
  (hQ:∀ d tag' I',qd [q] ro tag I tag' I'->vq tag' I' q X s l (rblob rd).2->Row tag' I' 6 5 d ((rblob rd).1.map vU)->Q d I'):qL B ro (some ⟨X,0,none⟩) I Q:=by
 refine aiO (tag:=tag) [6] ?_
 have base:qL B (join ro (SL.inR tag [6] I)) (some ⟨X,0,none⟩) (SL.vG tag [6] I) fun r τ=>SL.Sep (join ro (SL.inR tag [6] I)) τ->qI (SL.inR tag [6] I) τ->Q r (join (SL.inR tag [6] I) τ):=
  jL hq6 (h.outR (j1 hq6)) (hd.lentN hs z7) (Row.cap hd) hl fun d tag1 I' st h' r _ hdj=>hQ _ _ _ (qd.backR st hs hdj) (h'.backR hdj) (r.backR hdj)
 exact qc.mono base fun v τ ⟨r,hv,q⟩ h1 h2=>⟨r,hv,q h1 h2⟩
theorem je.allB{r:Nat}{l:St}(h:je tag1 τ r T l)(hd:qI I τ)(tag:Nat->Nat):je (aex I tag tag1) (join I τ) r T l:=by
 obtain⟨s,ds,g1,g2,g3,g4⟩:=h
 exact⟨s,ds,g1,g2.allB hd tag,apL g3 hd tag,fun i p d hp hdd=>(g4 i p d hp hdd).allB hd tag⟩
theorem asJ{Q:Option Addr->Bool->AH->Prop}(hr:SL.qU ro I a0 (b.map vU))(hs:SL.Sep ro I)(hc:a0.len<=a0.cap)(hl:b.length<=1048576)
  (hno:dec b=none->∀ T tag' I',(∀R,qd R ro tag I tag' I')->Q T false I')
  (hyes:∀ st,dec b=some st->∀ U tag' I',(∀R,qd R ro tag I tag' I')->je tag' I' 11 U st->Q (some ⟨U,0,none⟩) true I'):uy B ro a0 I Q:=by
 refine adE ?_
 have base:uy B (join ro I) a0 (fun _=>none) fun r0 r1 τ=>SL.Sep (join ro I) τ->qI I τ->Q r0 r1 (join I τ):=
  decode7_ok (tag:=T7) (hr.all hs) hc hl (fun e T tag1 τ st hτ hd=>hno e T _ _ (afz (tag1:=tag1) hs hd hτ tag)) fun st e U tag1 τ k h hτ hd=>hyes st e U _ _ (afz (tag1:=tag1) hs hd hτ tag) (h.allB hd tag)
 exact qc.mono base fun v τ ⟨r0,r1,hv,q⟩ h1 h2=>⟨r0,r1,hv,q h1 h2⟩
def rn:Nat->Rd->Rd
 | 0,r=>r
 | n+1,r=>rn n (qa r).2
def rs:Nat->Rd->Rd
 | 0,r=>r
 | n+1,r=>rs n (rblob (rn 5 r)).2
theorem ar1{p:Int×xF}(h:ago p)(r:Str):(rblob (rn 5 ⟨yy p++r,0⟩)).2=⟨r,0⟩:=by
 have b1:=xH.1 h.n
 have b2:=xH.1 h.nonce
 have b3:=xH.1 h.lease
 have b4:=xH.1 h.beats
 have b5:=xH.1 h.req
 unfold yy
 simp only[rn,mI]
 rw[aag z6,aag z6,aag z6,aag z6,aag z6,akT h.reply]
theorem apS:∀ (l:List (Int×xF)) (r:Str),(∀p∈l,ago p)->rs l.length ⟨l.flatMap yy++r,0⟩=⟨r,0⟩
 | [],r,_=>rfl
 | p::l,r,h=>by
  rw[mA,rs,na,mI,ar1 (h p z7)]
  exact apS l r fun q hq=>h q (by simp[hq])
theorem aqW{n:Nat}{h0:Int}{Y23:Int->AH->Prop}(hl:l.length<=140737488355328)(hn:n<=64):∀ k xr tag I,k<=n->SL.Sep ro I->qd [28] ro t0 s0 tag I->vq tag I 28 X s l xr->Row tag I 6 5 s (l.map vU)->
  (∀tag' I',qd [28] ro t0 s0 tag' I'->vq tag' I' 28 X s l (rs k xr)->Row tag' I' 6 5 s (l.map vU)->Y23 (i64.wrap (h0 - 1)) I')->
  lfpD (vX B ro h0 (some ⟨T,0,none⟩) X Q Y23) (k:Int) I:=by
 intro k
 induction k with
 | zero=>
  intro xr tag I _ hs st rd row hY
  refine lfpD.intro ?_
  unfold vX
  rw[mc z6]
  unfold yE
  exact hY tag I st rd row
 | succ k ih=>
  intro xr tag I hk hs st rd row hY
  refine lfpD.intro ?_
  generalize hZ:lfpD (vX B ro h0 (some ⟨T,0,none⟩) X Q Y23)=Z0 at ih⊢
  unfold vX
  rw[me z6]
  suffices∀(c j:Nat) (z:Rd) (tag:Nat->Nat) (I:AH),j+c=5->rn c z=rn 5 xr->SL.Sep ro I->qd [28] ro t0 s0 tag I->vq tag I 28 X s l z->Row tag I 6 5 s (l.map vU)->
    lfpD (vW B ro h0 ((k+1:Nat):Int) (some ⟨T,0,none⟩) X Q Y23 Z0) (j:Int) I from
   this 5 0 xr tag I rfl rfl hs st rd row
  intro c
  induction c with
  | zero=>
   intro j z tag I hj hz hs st rd row
   refine lfpD.intro ?_
   unfold vW
   rw[mc z6]
   unfold yG
   refine aj5 (tag:=tag) z8 rd row hs hl fun d tag1 I1 k1 rd1 d1=>?_
   unfold yF
   rw[show i64.wrap (((k+1:Nat):Int) - 1)=(k:Int)from by rw[SL.qM z6 z6];omega]
   refine ih (rblob z).2 tag1 I1 z6 k1.sep (st.trans k1) rd1 (row.keep k1) fun tag' I' st' rd' row'=>hY tag' I' st' ?_ row'
   have e:z=rn 5 xr:=hz
   rw[e]at rd'
   exact rd'
  | succ c ihc=>
   intro j z tag I hj hz hs st rd row
   refine lfpD.intro ?_
   generalize hV:lfpD (vW B ro h0 ((k+1:Nat):Int) (some ⟨T,0,none⟩) X Q Y23 Z0)=V0 at ihc⊢
   unfold vW
   rw[me z6]
   refine afV (tag:=tag) z8 rd row hs hl fun tag1 I1 k1 rd1=>?_
   rw[Pa.inc j z6]
   exact ihc (j+1) (qa z).2 tag1 I1 z6 hz k1.sep (st.trans k1) rd1 (row.keep k1)
end Zt
namespace Wi
open Go SL G Zt
variable{B:World}[Zd B]{ro I I':AH}{tag tag':Nat->Nat}
theorem ah9{r W q j:Nat}{s d:Sl}{l:List Sl}{a:Str×Bool}{p:Str}{Q:AH->Prop}(h:qP tag I r W a.1 a.2)(hr:r≠1)(hs:SL.Sep ro I)(hl:a.1.length+9+p.length<=140737488355328)(hx:Row tag I q 24 s (l.map Sl.v))(hd:l[j]?=some d)(hdl:d.len=p.length)(hj:j<=1000)
  (hsrc:∀ tag' I',qd [r,r+64,1] ro tag I tag' I'->SL.qU ro I' d (p.map vU)) (hQ:∀ tag' I',qd [r,r+64,1] ro tag I tag' I'->qP tag' I' r W (wv a p).1 (wv a p).2->lfpD (zt B ro (some ⟨W,0,none⟩) s Q) ((j+1:Nat):Int) I'):
  lfpD (zt B ro (some ⟨W,0,none⟩) s Q) (j:Int) I:=by
 have hjl:j<l.length:=(List.getElem?_eq_some_iff.1 hd).1
 have hsl:s.len=l.length:=by rw[hx.len,ml]
 obtain⟨b,hb,hg⟩:=hx.ptr hs y6
 refine lfpD.intro ?_
 generalize hY:lfpD (zt B ro (some ⟨W,0,none⟩) s Q)=Y0 at hQ⊢
 unfold zt
 rw[me z6]
 refine⟨b,hb,z6,z6,d,by rw[mr];simpa using hg j (Sl.v d) (by rw[mq,hd];try rfl),_,rfl,?_⟩
 have hlen:=kl a p.length
 rw[hdl]
 refine ajG h hr hs z6 fun tag1 I1 st1 h1=>?_
 refine⟨_,rfl,?_⟩
 have wid:∀ x∈[r,r+64],x∈[r,r+64,1]:=fun x hx=>by
  simp only[mD,LE,or_false]at hx⊢
  rcases hx with h | h<;>simp[h]
 refine agb (d:=p) h1 st1.sep z6 hdl (fun tag2 I2 st2=>hsrc tag2 I2 (st1.trans (st2.mono wid))) fun _ _ tag2 I2 st2 h2=>?_
 rw[Pa.inc j z6]
 exact hQ tag2 I2 (st1.trans (st2.mono wid)) h2
theorem apT{r W q:Nat}{s d1 d2 d3:Sl}{a:Str×Bool}{p1 p2 p3:Str}{Q:AH->Prop}(h:qP tag I r W a.1 a.2)(hr:r≠1)(hq:q≠r/\q≠r+64/\q≠1)(hs:SL.Sep ro I)(hl:a.1.length+27+p1.length+p2.length+p3.length<=140737488355328)(hx:Row tag I q 24 s ([d1,d2,d3].map Sl.v))(k1:d1.len=p1.length)(k2:d2.len=p2.length)(k3:d3.len=p3.length)
  (h1:∀ tag' I',qd [r,r+64,1] ro tag I tag' I'->SL.qU ro I' d1 (p1.map vU)) (h2:∀ tag' I',qd [r,r+64,1] ro tag I tag' I'->SL.qU ro I' d2 (p2.map vU)) (h3:∀ tag' I',qd [r,r+64,1] ro tag I tag' I'->SL.qU ro I' d3 (p3.map vU))
  (hQ:∀ tag' I',qd [r,r+64,1] ro tag I tag' I'->qP tag' I' r W ([p1,p2,p3].foldl wv a).1 ([p1,p2,p3].foldl wv a).2->Q I'):vo B ro (some ⟨W,0,none⟩) s I Q:=by
 refine adb fun _=>?_
 unfold pj
 have hnR:q∉[r,r+64,1]:=by simp only[mD,LE,or_false];omega
 have z1:=vl a p1
 have z2:=vl (wv a p1) p2
 refine ah9 (j:=0) h hr hs z6 hx rfl k1 z8 h1 fun tag1 I1 s1 b1=>?_
 refine ah9 (j:=1) b1 hr s1.sep z6 (hx.keep s1 hnR) rfl k2 z8 (fun tag' I' st=>h2 tag' I' (s1.trans st)) fun tag2 I2 s2 b2=>?_
 have s12:=s1.trans s2
 refine ah9 (j:=2) b2 hr s12.sep z6 (hx.keep s12 hnR) rfl k3 z8 (fun tag' I' st=>h3 tag' I' (s12.trans st)) fun tag3 I3 s3 b3=>?_
 have s13:=s12.trans s3
 have hsl:s.len=3:=by rw[hx.len];try rfl
 refine lfpD.intro ?_
 unfold zt
 rw[mc (by rw[hsl];decide)]
 exact hQ tag3 I3 s13 b3