import Derived.Shelf.SlIterI.Nil
import Derived.Shelf.SortM.Plain
import Derived.Shelf.SortM.SortNone
import Derived.Ground.GgzProg
import Derived.Ground.SlgmProg
import Derived.Test.YtomdigihapdhnaaGreatDoorProg
import Derived.Test.YtomdigihapdhnaaGreatDoorXF
set_option linter.all false
set_option maxRecDepth 99999
set_option maxHeartbeats 0
open Go.IntKind(i64)
open Go.Proofs.Tryz
namespace Go.Proofs.YtomdigihapdhnaaGreatDoor.Zt
open Go SL G Pa
variable{B:World}{ro I I':AH}{tag tag':Nat->Nat}
variable{p:ByteArray}{o v:Int}{Q:Int->AH->Prop}{bs:List Nat}{M T b i r:Nat}{m n:Nd}{s:Sl}{st:St}{d q u:Str}
theorem aub(st:St)(h:st[i]?=some (u,m)):(st++[(q,n)])[i]?=some (u,m):=by
 have hil:i<st.length:=by
  rcases mL i st.length with h' | h'
  .exact h'
  .rw[mI h']at h;cases h
 rw[mM hil];exact h
theorem auc{c:Nat}(h:bs[i]?=some b):(bs++[c])[i]?=some b:=by
 have hil:i<bs.length:=by
  rcases mL i bs.length with h' | h'
  .exact h'
  .rw[mI h']at h;cases h
 rw[mM hil];exact h
theorem ai9{seq:Bool}{Q:ByteArray->Int->AH->Prop}(g:wW ro)(hr:r<64)(hr6:r≠6)(hr0:r≠0)(h:qV tag I r T st)(hd:SL.wy ro I s (d.map vU))(hdl:d.length<4611686018427387904)
  (hQ:∀ tag' I',zU r ro tag I tag' I'->qV tag' I' r T (wo st (L p) d o seq).1->Q (S (wo st (L p) d o seq).2.1) (wo st (L p) d o seq).2.2 I'):jP B ro (some ⟨T,0,none⟩) p s o seq I Q:=by
 refine ahW fun hs=>?_
 unfold abo
 have hsl:s.len=d.length:=by rw[hd.1,mi]
 have same:∀ e:Int,wo st (L p) d o seq=(st,[],e)->Q (⟨#[]⟩:ByteArray) e I:=fun e he=>by
  have:=hQ tag I (zU.refl hs) (by rw[he];exact h)
  rw[he]at this;exact this
 refine aeT g (fun hp=>?_) (fun u hu=>?_)
 .rw[mc y0]
  exact same 20 (by unfold wo;rw[hp])
 .rw[ma y0]
  by_cases h1:256<(s.len:Int)
  .rw[mc h1]
   exact same 75 (by unfold wo;rw[hu];simp only;rw[mc z7])
  .rw[ma h1]
   have h1':¬ 256<d.length:=by omega
   by_cases h2:o<0\/4611686018427387903<o
   .rw[mc h2]
    exact same 10 (by unfold wo;rw[hu];simp only;rw[ma h1',mc h2])
   .rw[ma h2]
    obtain⟨M,bs,hA⟩:=h
    refine⟨_,rfl,_,Row.cell1 hA.cell hs,?_⟩
    refine jW hA.map hs u126 u9 ahZ ?_
    rcases abR st bs u hA.len with⟨a,e⟩ | ⟨i,b,n,a1,a2,a3,e⟩
    .rw[e]
     refine⟨none,rfl,?_⟩
     rw[mc rfl]
     exact same 70 (by unfold wo;rw[hu];simp only;rw[ma h1',ma h2,a])
    .rw[e]
     refine⟨some ⟨b,0,none⟩,rfl,?_⟩
     rw[ma z8]
     obtain⟨ds,hn,hdat⟩:=hA.nodes i b _ a1 a2
     obtain⟨q,hq,hg⟩:=hn.ptr hs z8
     cases hq
     refine⟨_,rfl,n.own,hg 2 _ rfl,?_⟩
     by_cases h3:n.own=0
     .rw[ma (by simp[h3])]
      refine⟨_,rfl,n.ctr,hg 1 _ rfl,?_⟩
      by_cases h4:9999999999<n.ctr
      .rw[mc h4]
       exact same 76 (by unfold wo;rw[hu];simp only;rw[ma h1',ma h2,a3];simp only;rw[ma (by simp[h3]),mc h4])
      .rw[ma h4]
       have hcr:wo st (L p) d o seq=match(if seq then pP (L p) n.ctr else some (L p))with
         | none=>(st,[],20)
         | some q=>if(st.lookup q).isSome then(st,[],71)else(wv (st++[(q,⟨0,0,o,0,d⟩)]) u jg,q,0):=by
        unfold wo;rw[hu];simp only;rw[ma h1',ma h2,a3];simp only;rw[ma (by simp[h3]),ma h4];try rfl
       have main:∀ q:Str,(if seq then pP (L p) n.ctr else some (L p))=some q->ku B ro (some ⟨T,0,none⟩) s o (some ⟨b,0,none⟩) Q (S q) I:=by
        intro q hq
        rw[hq]at hcr
        simp only at hcr
        unfold ku
        refine⟨_,rfl,_,Row.cell1 hA.cell hs,?_⟩
        refine jW hA.map hs u126 u9 ahZ ?_
        rcases abR st bs q hA.len with⟨c,e2⟩ | ⟨i2,b2,n2,c1,c2,c3,e2⟩
        .rw[e2]
         refine⟨none,rfl,?_⟩
         rw[ma z8]
         rw[c]at hcr
         simp only[Option.isSome_none,Bool.false_eq_true,if_false]at hcr
         refine adR T ?_
         obtain⟨hT0,hTo⟩:=hA.cell.tagOf
         have hs1:SL.Sep (join ro (SL.one I T)) (SL.del I T):=hs.lent
         refine⟨_,rfl,some M,hA.cell.lend hs (i:=0) rfl,?_⟩
         refine aaS (tag:=tag) (hd.lent T) hs1 j0 (by simp[qf]) fun s' tag1 I1 st1 r1=>?_
         refine agA (tag:=tag1) (fun b=>r+64*(b+2)) (st1 []).sep fun c' tag2 I2 hro2 hc2 st2 r2=>?_
         have hM1:=((hA.map.del (by rw[hT0];omega)).keep (st1 [])).keep (st2 [])
         refine ab8 hM1 (st2 []).sep u126 u9 fun I3 st3 m3=>?_
         intro hdj
         have stA:qd [r+64] (join ro (SL.one I T)) tag (SL.del I T) tag2 I3:=(st1 _).trans ((st2 _).trans st3)
         have stB:=stA.back hs hdj hTo
         have m4:=m3.back (r':=tag T) hdj hTo
         have hnode:acK (setTag tag2 T (tag T)) (join (SL.one I T) I3) r c' ⟨0,0,o,0,d⟩:=
          ⟨s',(r2.keep st3 j0).back hdj hTo,((r1.keep (st2 [])).keep st3).back hdj hTo⟩
         have hfree:I c'=none:=by
          cases hcc:I c' with
          | none=>rfl
          | some x=>
           have hne:c'≠T:=fun e=>by
            have:=(aaC hro2).2
            unfold SL.one at this
            rw[mc e,hcc]at this;cases this
           obtain⟨_,x',hx'⟩:=(st1 []).old c' x (by unfold SL.del;rw[ma hne];exact hcc)
           rw[hc2]at hx';cases hx'
         have hA2:=hA.add (n:=⟨0,0,o,0,d⟩) hr hr6 c hfree stB hnode m4
         have b1:=auc (c:=c') a1
         have b2:=aub (q:=q) (n:=⟨0,0,o,0,d⟩) st a2
         generalize setTag tag2 T (tag T)=tagx at*
         generalize join (SL.one I T) I3=Ix at*
         have hsx:=stB.sep
         obtain⟨d1,hn1,hd1⟩:=hA2.nodes i b _ b1 b2
         obtain⟨q1,hq1,hg1⟩:=hn1.ptr hsx z8
         cases hq1
         refine⟨_,rfl,n.ctr,hg1 1 _ rfl,_,rfl,?_⟩
         refine hn1.st (i:=1) hsx rfl z8 rfl fun I4 st4 r4=>?_
         have hA3:=hA2.write (n':={n with ctr:=i64.wrap (n.ctr+1)}) hr hr6 b1 b2 st4 ⟨d1,r4,hd1.keep st4 j0⟩
         have b3:((st++[(q,(⟨0,0,o,0,d⟩:Nd))]).set i (u,{n with ctr:=i64.wrap (n.ctr+1)}))[i]?=some (u,{n with ctr:=i64.wrap (n.ctr+1)}):=by
          rw[nH,mc rfl,mc]
          rcases mL i (st++[(q,(⟨0,0,o,0,d⟩:Nd))]).length with h' | h'
          .exact h'
          .rw[mI h']at b2;cases b2
         obtain⟨q2,hq2,hg2⟩:=r4.ptr st4.sep z8
         cases hq2
         refine⟨_,rfl,n.kids,hg2 3 _ rfl,_,rfl,?_⟩
         refine r4.st (i:=3) st4.sep rfl z8 rfl fun I5 st5 r5=>?_
         have hA4:=hA3.write (n':=jg n) hr hr6 b1 b3 st5 ⟨d1,r5,(hd1.keep st4 j0).keep st5 j0⟩
         rw[List.set_set]at hA4
         rw[<-ahY hA2.keys b2 jg]at hA4
         have hres:=hQ tagx I5 ((stB.c j0).trans ((st4.c j0).trans (st5.c j0))) (by rw[hcr];exact⟨M,_,hA4⟩)
         rw[hcr]at hres
         exact hres
        .rw[e2]
         refine⟨some ⟨b2,0,none⟩,rfl,?_⟩
         rw[mc z8]
         refine same 71 ?_
         rw[hcr,c3];try rfl
       by_cases h5:seq=true
       .rw[mc h5]
        refine⟨_,rfl,n.ctr,hg 1 _ rfl,?_⟩
        refine aq2 g (fun hnone=>?_) (fun q hq=>?_)
        .rw[mc y0]
         refine same 20 ?_
         rw[hcr,mc h5,hnone]
        .rw[ma y0]
         exact main q (by rw[mc h5];exact hq)
       .rw[ma h5]
        have:=main (L p) (by rw[ma h5])
        rw[S_L]at this;exact this
     .rw[mc (by simp[h3])]
      exact same 74 (by unfold wo;rw[hu];simp only;rw[ma h1',ma h2,a3];simp only;rw[mc (by simp[h3])])
def jh:St->Str->St
 | [],_=>[]
 | (k',n)::r,k=>if k=k' then r else(k',n)::jh r k
def xX(n:Nd):Nd:={n with kids:=i64.wrap (n.kids - 1)}
def wq(st:St)(p:Str)(v:Int):St×Int:=
 if p=[47]\/parts p=none then(st,20)
 else match st.lookup p with
  | none=>(st,70)
  | some n=>if v≠ -1/\v≠n.ver then(st,72)else if 0<n.kids then(st,73)
   else match qv p with
    | none=>(st,20)
    | some u=>(jh (wv st u xX) p,0)
def ad3(d:Str)(n:Nd):Nd:={n with ver:=i64.wrap (n.ver+1),data:=d}
def xd(st:St)(p d:Str)(v:Int):St×Int×Int:=
 if p=[47]\/parts p=none then(st,0,20)
 else if 256<d.length then(st,0,75)
 else match st.lookup p with
  | none=>(st,0,70)
  | some n=>if v≠ -1/\v≠n.ver then(st,0,72)else(wv st p (ad3 d),i64.wrap (n.ver+1),0)
theorem asu:∀ (st:St) (bs:List Nat) (i b:Nat) (q:Str) (n:Nd),bs.length=st.length->(st.map (·.1)).Nodup->bs[i]?=some b->st[i]?=some (q,n)->
  jh st q=st.eraseIdx i/\afU (kv st bs) q=kv (st.eraseIdx i) (bs.eraseIdx i):=by
 intro st
 induction st with
 | nil=>intro bs i b q n _ _ _ h;cases h
 | cons p st ih=>
  intro bs i b q n hl hk hb hp
  cases bs with
  | nil=>simp at hl
  | cons c bs=>
   obtain⟨p,m⟩:=p
   rw[mF,nl]at hk
   cases i with
   | zero=>
    cases hp
    exact⟨by simp[jh],by simp[kv,afU]⟩
   | succ i=>
    simp only[LK]at hb hp
    have hne:q≠p:=fun e=>hk.1 (by rw[<-e];exact mC.2 ⟨_,mU hp,rfl⟩)
    obtain⟨h1,h2⟩:=ih bs i b q n (j2 hl) hk.2 hb hp
    refine⟨by simp[jh,hne,h1],?_⟩
    simp only[List.eraseIdx_cons_succ]
    unfold kv afU
    rw[ma hne,h2]
theorem anN{α:Type}(l:List α)(i j:Nat):(l.eraseIdx i)[j]?=if j<i then l[j]? else l[j+1]?:=by
 rw[List.getElem?_eraseIdx]
theorem qU.rem(h:qU tag I r T M bs st)(hr:r<64)(hr6:r≠6)(hb:bs[i]?=some b)(hp:st[i]?=some (q,n))(k:qd [r+64] ro tag I tag' I')
  (hm:zT tag' I' (r+64) M (afU (kv st bs) q)):qU tag' I' r T M (bs.eraseIdx i) (jh st q):=by
 obtain⟨e1,e2⟩:=asu st bs i b q n h.len h.keys hb hp
 rw[e1]
 rw[e2]at hm
 refine⟨List.Nodup.sublist ((List.eraseIdx_sublist ..).map _) h.keys,?_,List.Nodup.sublist (List.eraseIdx_sublist ..) h.nd,h.cell.keep k,hm,fun j c p hc hp'=>?_⟩
 .rw[List.length_eraseIdx,List.length_eraseIdx,h.len]
 .rw[anN]at hc hp'
  by_cases hj:j<i
  .rw[mc hj]at hc hp'
   exact(h.nodes j c p hc hp').keep k j0 z8
  .rw[ma hj]at hc hp'
   exact(h.nodes (j+1) c p hc hp').keep k j0 z8
theorem asv{f:Nd->Nd}(h:st[i]?=some (q,n))(hne:q≠u):(wv st u f)[i]?=some (q,n):=by
 unfold wv
 rw[mg,h]
 simp[hne]
theorem aeU{p:Str}(h:qv p=some u):p≠u:=by
 unfold qv at h
 cases hp:parts p with
 | none=>rw[hp]at h;cases h
 | some ps=>
  rw[hp]at h
  simp only at h
  split at h
  .cases h
  .rename_i hn
   cases h
   obtain⟨hl,hg⟩:=qW.1 hp
   intro e
   have:=aqW hg hg.up (by rw[<-hl];exact e)
   have h1:=mh List.length this
   have h2:=nz.2 hn
   simp at h1;omega
theorem akj{p:Str}{ps:List Str}(h:parts p=some ps)(hne:p≠[47]):∃ u,qv p=some u:=by
 unfold qv
 rw[h]
 simp only
 rw[ma]
 .exact⟨_,rfl⟩
 .intro e;obtain⟨hl,_⟩:=qW.1 h;exact hne (by rw[hl,e];try rfl)
theorem ald(g:wW ro)(hr:r<64)(hr6:r≠6)(hr0:r≠0)(hA:qU tag I r T M bs st)
  (hup:∀ u n,qv (L p)=some u->st.lookup (L p)=some n->∃ m,st.lookup u=some m)
  (hQ:∀ tag' I' bs',zU r ro tag I tag' I'->qU tag' I' r T M bs' (wq st (L p) v).1->Q (wq st (L p) v).2 I'):jQ B ro (some ⟨T,0,none⟩) p v I Q:=by
 refine ahX fun hs=>?_
 unfold abp
 have same:∀ e:Int,wq st (L p) v=(st,e)->Q e I:=fun e he=>by
  have:=hQ tag I bs (zU.refl hs) (by rw[he];exact hA)
  rw[he]at this;exact this
 have hgood:L p≠[47]->∀ ps,parts (L p)=some ps->¬ (L p=[47]\/parts (L p)=none):=fun h1 ps h2 h3=>by
  rcases h3 with h3 | h3
  .exact h1 h3
  .rw[h2]at h3;cases h3
 refine amA g hA hs (fun hb=>?_) (fun hne ps hps hl=>?_) (fun hne ps n hps hl hv1 hv2=>?_) (fun hne ps i b n hps hb hp hl hv=>?_)
 .rw[mc y0]
  exact same 20 (by unfold wq;rw[mc hb])
 .rw[mc y0]
  exact same 70 (by unfold wq;rw[ma (hgood hne ps hps),hl])
 .rw[mc y0]
  exact same 72 (by unfold wq;rw[ma (hgood hne ps hps),hl];simp only;rw[mc ⟨hv1,hv2⟩])
 .rw[ma y0]
  have hre:wq st (L p) v=if 0<n.kids then(st,(73:Int))else match qv (L p)with
    | none=>(st,(20:Int))
    | some u=>(jh (wv st u xX) (L p),(0:Int)):=by
   unfold wq;rw[ma (hgood hne ps hps),hl];simp only;rw[ma z7];all_goals (cases qv (L p)<;>rfl)
  obtain⟨s,hn,hd⟩:=hA.nodes i b _ hb hp
  obtain⟨q,hq,hg⟩:=hn.ptr hs z8
  cases hq
  refine⟨_,rfl,n.kids,hg 3 _ rfl,?_⟩
  by_cases h1:0<n.kids
  .rw[mc h1]
   exact same 73 (by rw[hre,mc h1])
  .rw[ma h1]
   rw[ma h1]at hre
   refine aeT g (fun hnone=>?_) (fun u hu=>?_)
   .obtain⟨u,hu⟩:=akj hps hne
    rw[hu]at hnone;cases hnone
   .rw[hu]at hre
    simp only at hre
    obtain⟨m,hm⟩:=hup u n hu hl
    refine⟨_,rfl,_,Row.cell1 hA.cell hs,?_⟩
    refine jW hA.map hs u126 u9 ahZ ?_
    rcases abR st bs u hA.len with⟨a,e⟩ | ⟨j,c,m',c1,c2,c3,e⟩
    .rw[hm]at a;cases a
    .rw[e]
     refine⟨some ⟨c,0,none⟩,rfl,?_⟩
     obtain⟨s2,hn2,hd2⟩:=hA.nodes j c _ c1 c2
     obtain⟨q2,hq2,hg2⟩:=hn2.ptr hs z8
     cases hq2
     refine⟨_,rfl,m'.kids,hg2 3 _ rfl,_,rfl,?_⟩
     refine hn2.st (i:=3) hs rfl z8 rfl fun I1 st1 r1=>?_
     have hA1:=hA.write (n':=xX m') hr hr6 c1 c2 st1 ⟨s2,r1,hd2.keep st1 j0⟩
     rw[<-ahY hA.keys c2 xX]at hA1
     refine⟨_,rfl,_,Row.cell1 hA1.cell st1.sep,?_⟩
     rw[<-S_L p]
     refine alN hA1.map st1.sep u126 u9 fun I2 st2 m2=>⟨rfl,?_⟩
     have hA2:=hA1.rem hr hr6 hb (asv hp (aeU hu)) st2 m2
     have hres:=hQ tag I2 _ ((st1.c j0).trans (st2.c j0)) (by rw[hre];exact hA2)
     rw[hre]at hres
     exact hres
theorem aq5(g:wW ro)(hr:r<64)(hr6:r≠6)(hr0:r≠0)(h:qV tag I r T st)
  (hup:∀ u n,qv (L p)=some u->st.lookup (L p)=some n->∃ m,st.lookup u=some m)
  (hQ:∀ tag' I',zU r ro tag I tag' I'->qV tag' I' r T (wq st (L p) v).1->Q (wq st (L p) v).2 I'):jQ B ro (some ⟨T,0,none⟩) p v I Q:=by
 obtain⟨M,bs,hA⟩:=h
 exact ald g hr hr6 hr0 hA hup fun tag' I' bs' st h'=>hQ tag' I' st ⟨M,bs',h'⟩
theorem au4{Q:Int->Int->AH->Prop}(g:wW ro)(hr:r<64)(hr6:r≠6)(hr0:r≠0)(h:qV tag I r T st)(hd:SL.wy ro I s (d.map vU))(hdl:d.length<4611686018427387904)
  (hQ:∀ tag' I',zU r ro tag I tag' I'->qV tag' I' r T (xd st (L p) d v).1->Q (xd st (L p) d v).2.1 (xd st (L p) d v).2.2 I'):ac9 B ro (some ⟨T,0,none⟩) p s v I Q:=by
 refine aj3 fun hs=>?_
 unfold adf
 have hsl:s.len=d.length:=by rw[hd.1,mi]
 have same:∀ e:Int,xd st (L p) d v=(st,0,e)->Q 0 e I:=fun e he=>by
  have:=hQ tag I (zU.refl hs) (by rw[he];exact h)
  rw[he]at this;exact this
 by_cases h0:p=⟨#[47]⟩
 .rw[mc h0]
  unfold jq
  rw[mc rfl]
  exact same 20 (by unfold xd;rw[mc (.inl (by rw[h0];try rfl))])
 .rw[ma h0]
  have hne:L p≠[47]:=fun h=>h0 (yI h)
  refine pN g ?_
  unfold jq
  by_cases h1:Pa.chk (L p)=0
  .rw[ma (j2 h1)]
   obtain⟨ps,hps⟩:=vB.1 h1
   have hgood:¬ (L p=[47]\/parts (L p)=none):=fun h3=>by
    rcases h3 with h3 | h3
    .exact hne h3
    .rw[hps]at h3;cases h3
   by_cases h2:256<(s.len:Int)
   .rw[mc h2]
    exact same 75 (by unfold xd;rw[ma hgood,mc z7])
   .rw[ma h2]
    have h2':¬ 256<d.length:=by omega
    obtain⟨M,bs,hA⟩:=h
    refine amA g hA hs (fun hb=>mu hb hgood) (fun _ _ _ hl=>?_) (fun _ _ n _ hl hv1 hv2=>?_) (fun _ _ i b n _ hb hp hl hv=>?_)
    .rw[mc y0]
     exact same 70 (by unfold xd;rw[ma hgood,ma h2',hl])
    .rw[mc y0]
     exact same 72 (by unfold xd;rw[ma hgood,ma h2',hl];simp only;rw[mc ⟨hv1,hv2⟩])
    .rw[ma y0]
     have hre:xd st (L p) d v=(wv st (L p) (ad3 d),i64.wrap (n.ver+1),0):=by
      unfold xd;rw[ma hgood,ma h2',hl];simp only;rw[ma z7]
     refine aaS (tag:=tag) hd hs j0 (by simp[qf]) fun s' tag1 I1 st1 r1=>?_
     have hA1:=hA.keep (st1 [])
     have hs1:=(st1 []).sep
     obtain⟨ds,hn,hdd⟩:=hA1.nodes i b _ hb hp
     refine⟨_,rfl,?_⟩
     refine hn.st (i:=4) hs1 rfl z8 rfl fun I2 st2 r2=>?_
     obtain⟨q,hq,hg⟩:=r2.ptr st2.sep z8
     cases hq
     refine⟨_,rfl,n.ver,hg 0 _ rfl,_,rfl,?_⟩
     refine r2.st (i:=0) st2.sep rfl z8 rfl fun I3 st3 r3=>?_
     obtain⟨q3,hq3,hg3⟩:=r3.ptr st3.sep z8
     cases hq3
     refine⟨_,rfl,_,hg3 0 _ rfl,?_⟩
     have st23:=st2.trans st3
     have hA3:=hA1.write (n':=ad3 d n) hr hr6 hb hp st23 ⟨s',r3,r1.keep st23 j0⟩
     rw[<-ahY hA.keys hp (ad3 d)]at hA3
     have hres:=hQ tag1 I3 (((st1 []).c z8).trans (st23.c j0)) (by rw[hre];exact⟨M,_,hA3⟩)
     rw[hre]at hres
     exact hres
  .rw[mc (j2 h1)]
   have e:parts (L p)=none:=by
    cases h:parts (L p)with
    | none=>rfl
    | some ps=>exact mu (vB.2 ⟨ps,h⟩) h1
   exact same 20 (by unfold xd;rw[mc (.inr e)])
end Go.Proofs.YtomdigihapdhnaaGreatDoor.Zt
namespace Go.Proofs.YtomdigihapdhnaaGreatDoor.Zt
open Go SL G Pa Go.Maps Go.Sort Go.Shelf Go.RowKit
variable{B:World}{ro I I':AH}{tag tag':Nat->Nat}
variable{m:KV}{M b c:Nat}{Q:Sl->AH->Prop}
theorem apf:∀ (st:St) (bs:List Nat),bs.length=st.length->(kv st bs).map (·.1)=st.map (·.1):=by
 intro st
 induction st with
 | nil=>intro bs h;cases bs<;>rfl
 | cons p st ih=>
  intro bs h
  cases bs with
  | nil=>simp at h
  | cons b bs=>obtain⟨p,n⟩:=p;unfold kv;rw[mF,ih bs (j2 h)];try rfl
theorem amB(st:St)(bs:List Nat)(h:bs.length=st.length):(kv st bs).length=st.length:=by
 have:=mh List.length (apf st bs h)
 simpa using this
abbrev RT:Value->Option (DataW Unit×List MemPlace):=fun _=>some (.nil,[])
theorem au5{w:World}(hm:zT tag I c b m)(hw:alL ro I w)(hs:SL.Sep ro I)(hnd:(m.map (·.1)).Nodup)(hl:∀ p∈m,p.1.length<=128)(hn:m.length<=4398046511104):
  ∃D:DataW Unit,w.ownsMap prog 9 RT b m.length D/\Maps.size D=m.length/\(strKeys D).Perm (m.map (·.1)):=by
 obtain⟨es,clock,hb,he,hbn⟩:=hm.obj
 have hwb:=hw b _ (by unfold SL.rd;rw[hs b _ hb];exact hb)
 have hsz:es.size=m.length:=by have:=mh List.length he;simpa using this
 have hkey:∀ (i:Nat) (h1:i<es.toList.length),∃h2:i<m.length,(es.toList[i]).key= .string (S m[i].1):=fun i h1=>by
  have h2:i<m.length:=by rw[<-hsz];simpa using h1
  refine⟨h2,?_⟩
  have h:=mh (·[i]?) he
  simp only[mg,md h1,md h2,Option.map_some]at h
  exact mh Prod.fst (mA h)
 have hko:∀ (i:Nat) (h1:i<es.toList.length) (h2:i<m.length),WideElems.rd prog 9 RT es.toList[i]=some (.string m[i].1,.nil):=fun i h1 h2=>by
  obtain⟨_,hk⟩:=hkey i h1
  have hlen:=hl _ (mG h2)
  unfold WideElems.rd
  rw[hk]
  have:keyOf prog 9 (.string (S m[i].1))=some (.string m[i].1):=by
   unfold keyOf
   rw[u9]
   show mapKey prog 9 (.string (S m[i].1))=_
   unfold mapKey
   rw[u9]
   show(if(S m[i].1).size<=maxLen then _ else _)=_
   rw[mc (by simp only[ahl,maxLen];omega)];rfl
  rw[this];try rfl
 refine⟨.map ((es.toList.map (WideElems.rg prog 9 RT)).foldr DataW.insert []),⟨es,clock,hwb,⟨by rw[hsz];simp only[maxLen];omega,⟨hbn.lt,hbn.nd,?_⟩,?_⟩,z7,rfl⟩,?_,?_⟩
 .have:es.toList.map (·.key)=(m.map (·.1)).map fun k=>Value.string (S k):=by
   apply LD
   .simp[hsz]
   .intro i h1 h2
    simp only[List.getElem_map]
    obtain⟨_,h⟩:=hkey i (j2 h1)
    exact h
  rw[this]
  refine List.Pairwise.map _ (fun a b hab e=>hab ?_) hnd
  simpa [ab6]using e
 .intro x hx
  obtain⟨i,hi,rfl⟩:=mZ hx
  obtain⟨h2,_⟩:=hkey i hi
  exact⟨_,hko i hi h2⟩
 .show((es.toList.map (WideElems.rg prog 9 RT)).foldr DataW.insert []).length=m.length
  rw[DataW.length_sorted];simp[hsz]
 .show(((es.toList.map (WideElems.rg prog 9 RT)).foldr DataW.insert []).map fun p=>strOf p.1).Perm _
  refine((WideShapes.sorted_perm _).map _).trans ?_
  rw[nP]
  have:es.toList.map ((fun p:Lit×DataW Unit=>strOf p.1) ∘ WideElems.rg prog 9 RT)=m.map (·.1):=by
   apply LD
   .simp[hsz]
   .intro i h1 h2
    simp only[List.getElem_map,Function.comp]
    have h3:i<es.toList.length:=by simpa using h1
    obtain⟨h4,_⟩:=hkey i h3
    unfold WideElems.rg
    rw[hko i h3 h4];try rfl
  rw[this]
theorem aud{Q:Value->AH->Prop}(hQ:∀ gb tag' I',(∀R,qd R ro tag I tag' I')->Row tag' I' 0 237 ⟨some ⟨gb,0,none⟩,1,1⟩ [.map (some M)]->Q (.func (.func 196) #[] #[.pointer (some ⟨gb,0,none⟩)]) I'):
  acG B ro (some M) I Q:=by
 refine qc.of_calls fun w hw hsep=>?_
 refine(callsIn_wide.1 (Tryz.maps_Keys_137 (some M) w)).mono ?_
 rintro e w' ⟨he,rfl⟩
 obtain⟨N,tag',hN,hst,hrow⟩:=ab7 (tag:=tag) (w':=w.alloc (.cells #[.map (some M)] 237)) 0 hw hsep (mK w.heap.size) (heap_alloc_new w _)
 exact⟨_,N,he,(Below.refl _ w).alloc (mK _) _,hN,_,rfl,hQ _ tag' _ hst (hrow _ _ _ rfl rfl (mK _) rfl)⟩
theorem aq6{gb:Nat}(r:Nat)(hg:Row tag I 0 237 ⟨some ⟨gb,0,none⟩,1,1⟩ [.map (some b)])(hm:zT tag I c b m)(hnd:(m.map (·.1)).Nodup)(hl:∀ p∈m,p.1.length<=128)(hn:m.length<=4398046511104)
  (hQ:∀ (s:Sl) (tag':Nat->Nat) (I':AH) (ks:List Str),(∀R,qd R ro tag I tag' I')->ks.Perm (m.map (·.1))->ks.Pairwise (· <= ·)->Row tag' I' r 9 s (ks.map Pa.vS)->Q s I'):yf B ro (.func (.func 196) #[] #[.pointer (some ⟨gb,0,none⟩)]) I Q:=by
 refine qc.of_calls fun w hw hsep=>?_
 obtain⟨D,hown,hsz,hperm⟩:=au5 hm hw hsep hnd hl hn
 have hcell:w.cell? ⟨gb,0,none⟩=some (.map (some b)):=by
  have h1:=Row.cell1 hg hsep
  unfold qa at h1
  rw[cell?_eq]
  cases hr:SL.rd ro I gb with
  | none=>simp only at h1;rw[hr]at h1;cases h1
  | some o=>simp only at h1;rw[hw gb o hr];rw[hr]at h1;exact h1
 have hlt:gb<w.heap.size:=by
  rw[cell?_eq]at hcell
  cases hh:w.heap[gb]? with
  | none=>simp only at hcell;rw[hh]at hcell;cases hcell
  | some o=>exact wK hh
 have hseq:SeqGives Fence.wide 2 prog 196 #[.pointer (some ⟨gb,0,none⟩)] encStr (fun ss=>ss.Perm (strKeys D)) (Maps.size D) w:=
  AnyZ.keys_gives (ρ:=akh) {ao6 with} Fence.wide _ trivial rfl z7 gb b m.length D w hlt hcell hown
 have hsort:=AnyZ.sorted_in amx Fence.wide 5 trivial trivial trivial trivial rfl z7 (Tryz.sorts136 _) (enters_of func195 y1 rfl) 196 #[.pointer (some ⟨gb,0,none⟩)] trivial (enters_of func196 y1 rfl) _ _ (by rw[hsz];simp only[maxLen];omega) (by rw[hsz];omega) _ hseq
 refine(callsIn_wide.1 hsort).mono ?_
 rintro e w' ⟨v,ss,he,hS,hrow,hnil,hb⟩
 have hpair:(ss.mergeSort (fun x y=>decide (x<=y))).Pairwise (· <= ·):=by
  have:=List.pairwise_mergeSort (le:=fun x y:List UInt8=>decide (x<=y)) (fun a b c h1 h2=>by simp at *;exact List.le_trans h1 h2) (fun a b=>by simp;exact List.le_total a b) ss
  simpa using this
 have hpm:(ss.mergeSort (fun x y=>decide (x<=y))).Perm (m.map (·.1)):=(List.mergeSort_perm _ _).trans (hS.trans hperm)
 have henc:∀ l:List (List UInt8),l.map encStr=l.map Pa.vS:=fun l=>rfl
 rcases hrow with⟨hlen,⟨rfl,h0⟩ | ⟨g,cap,cur,rfl,hbase,hgb,r1,r2,r3,r4⟩⟩
 .have h0':ss=[]:=mO h0
  subst h0'
  refine⟨_,fun _=>none,he,hb,ahP.none _ _,⟨none,0,0⟩,rfl,?_⟩
  rw[yG]
  exact hQ _ tag I _ (fun _=>qd.refl hsep) hpm hpair (by simpa using Row.nil r 9)
 .obtain⟨N,tag',hN,hst,hrow⟩:=ab7 (tag:=tag) r hw hsep hbase hgb
  refine⟨_,N,he,hb,hN,⟨some ⟨g,0,none⟩,ss.length,cap⟩,rfl,?_⟩
  refine hQ _ tag' _ _ hst hpm hpair (hrow _ _ _ z8 (by rw[r3,mV]) r1 ?_)
  rw[mV]at r4
  rw[r4];try rfl
theorem aga{r T q:Nat}{bs:List Nat}{st:St}(h:qU tag I r T M bs st)(hl:∀ p∈st,p.1.length<=128)(hn:st.length<=4398046511104)
  (hQ:∀ (s:Sl) (tag':Nat->Nat) (I':AH) (ks:List Str),(∀R,qd R ro tag I tag' I')->ks.Perm (st.map (·.1))->ks.Pairwise (· <= ·)->Row tag' I' q 9 s (ks.map Pa.vS)->Q s I'):xF B ro (some ⟨T,0,none⟩) I Q:=by
 refine aiJ fun hs=>?_
 unfold abO
 refine⟨_,rfl,_,Row.cell1 h.cell hs,?_⟩
 refine aud (tag:=tag) fun gb tag1 I1 st1 r1=>?_
 have hk:=apf st bs h.len
 refine aq6 q r1 (h.map.keep (st1 [])) (by rw[hk];exact h.keys) (fun p hp=>?_) (by rw[amB _ _ h.len];exact hn) fun s tag' I' ks st2 hp hs' hr=>?_
 .have:p.1∈(kv st bs).map (·.1):=mC.2 ⟨p,hp,rfl⟩
  rw[hk]at this
  obtain⟨x,hx,e⟩:=mC.1 this
  rw[<-e];exact hl x hx
 .rw[hk]at hp
  exact hQ s tag' I' ks (fun R=>(st1 R).trans (st2 R)) hp hs' hr
end Go.Proofs.YtomdigihapdhnaaGreatDoor.Zt
namespace Go.Proofs
open YtomdigihapdhnaaGreatDoor
open Go.Shelf
def akk:Go.Shelf.Ren:=⟨fun | 7=>201 | 10=>245 | n=>n,fun | 23=>252 | 26=>3 | 3=>249 | 28=>358 | 0=>0 | 27=>357 | 33=>229 | 4=>4 | n=>n,fun | n=>n⟩
theorem apg:Go.Proofs.SlLaysZI.n7 prog akk:={
 mixed:=by kernel_rfl
 f7:=⟨f201.name,y0,func201.trans (congrArg some y1)⟩
 f10:=⟨f245.name,y0,func245.trans (congrArg some y1)⟩
 t0:=underlying0
 a0:=isAgg0
 z0:=sizeOf0
 v0:=zeroValue0
 t4:=underlying4
 a4:=isAgg4
 z4:=sizeOf4
 v4:=zeroValue4
 t23:=underlying252
 a23:=isAgg252
 z23:=sizeOf252
 v23:=zeroValue252
 t26:=underlying3
 a26:=isAgg3
 z26:=sizeOf3
 v26:=zeroValue3
 t27:=underlying357
 a27:=isAgg357
 z27:=sizeOf357
 v27:=zeroValue357
 t28:=underlying358
 a28:=isAgg358
 z28:=sizeOf358
 v28:=zeroValue358
 t33:=underlying229
 a33:=isAgg229
 z33:=sizeOf229
 v33:=zeroValue229}
def aiF:Go.Shelf.Ren:=⟨fun | 6=>200 | 8=>243 | 9=>244 | 11=>289 | 13=>241 | 12=>290 | 23=>287 | 24=>288 | 14=>330 | 15=>331 | 16=>332 | 17=>333 | 18=>334 | 19=>335 | 20=>336 | 21=>337 | 22=>338 | 25=>374 | 26=>326 | 27=>327 | 28=>375 | 29=>376 | 30=>262 | 31=>394 | n=>n,fun | 26=>3 | 28=>358 | 24=>55 | 0=>0 | 3=>3 | 37=>399 | 48=>462 | 50=>464 | 4=>4 | 40=>456 | 39=>455 | 45=>300 | 5=>5 | 9=>9 | 51=>496 | 55=>500 | 57=>534 | 58=>344 | 33=>229 | n=>n,fun | n=>n⟩
theorem aq7:Go.Proofs.SlLaysZI.n6 prog aiF:={
 mixed:=by kernel_rfl
 f6:=⟨f200.name,y0,func200.trans (congrArg some y1)⟩
 f8:=⟨f243.name,y0,func243.trans (congrArg some y1)⟩
 f11:=⟨f289.name,y0,func289.trans (congrArg some y1)⟩
 t0:=underlying0
 a0:=isAgg0
 z0:=sizeOf0
 v0:=zeroValue0
 t24:=underlying55
 a24:=isAgg55
 z24:=sizeOf55
 v24:=zeroValue55
 t26:=underlying3
 a26:=isAgg3
 z26:=sizeOf3
 v26:=zeroValue3
 t28:=underlying358
 a28:=isAgg358
 z28:=sizeOf358
 v28:=zeroValue358
 i26:=by kernel_rfl}
def aow:Go.Shelf.Ren:=⟨fun | 5=>244 | 8=>241 | 7=>290 | 19=>287 | 20=>288 | 10=>330 | 11=>331 | 12=>332 | 13=>333 | 14=>334 | 15=>335 | 16=>336 | 17=>337 | 18=>338 | 30=>374 | 31=>326 | 32=>327 | 33=>375 | 34=>376 | 35=>262 | 40=>394 | n=>n,fun | 23=>55 | 25=>3 | 3=>3 | 32=>399 | 22=>55 | 0=>0 | 44=>462 | 46=>464 | 4=>4 | 36=>456 | 35=>455 | 41=>300 | 5=>5 | 9=>9 | 53=>496 | 57=>500 | 63=>534 | 64=>344 | n=>n,fun | n=>n⟩
theorem aph:Go.Proofs.SlLaysM.n5 prog aow:={
 mixed:=by kernel_rfl
 f5:=⟨f244.name,y0,func244.trans (congrArg some y1)⟩
 f7:=⟨f290.name,y0,func290.trans (congrArg some y1)⟩
 f8:=func241.trans (congrArg some y1)
 f10:=⟨f330.name,y0,func330.trans (congrArg some y1)⟩
 f11:=⟨f331.name,y0,func331.trans (congrArg some y1)⟩
 f12:=⟨f332.name,y0,func332.trans (congrArg some y1)⟩
 f13:=⟨f333.name,y0,func333.trans (congrArg some y1)⟩
 f14:=⟨f334.name,y0,func334.trans (congrArg some y1)⟩
 f15:=⟨f335.name,y0,func335.trans (congrArg some y1)⟩
 f16:=⟨f336.name,y0,func336.trans (congrArg some y1)⟩
 f17:=⟨f337.name,y0,func337.trans (congrArg some y1)⟩
 f18:=⟨f338.name,y0,func338.trans (congrArg some y1)⟩
 f19:=func287.trans (congrArg some y1)
 f20:=func288.trans (congrArg some y1)
 f30:=⟨f374.name,y0,func374.trans (congrArg some y1)⟩
 f31:=func326.trans (congrArg some y1)
 f32:=func327.trans (congrArg some y1)
 f33:=⟨f375.name,y0,func375.trans (congrArg some y1)⟩
 f34:=⟨f376.name,y0,func376.trans (congrArg some y1)⟩
 f35:=⟨f262.name,y0,func262.trans (congrArg some y1)⟩
 f40:=⟨f394.name,y0,func394.trans (congrArg some y1)⟩
 t0:=underlying0
 a0:=isAgg0
 z0:=sizeOf0
 v0:=zeroValue0
 t3:=underlying3
 a3:=isAgg3
 z3:=sizeOf3
 v3:=zeroValue3
 t4:=underlying4
 a4:=isAgg4
 z4:=sizeOf4
 v4:=zeroValue4
 t5:=underlying5
 a5:=isAgg5
 z5:=sizeOf5
 v5:=zeroValue5
 t9:=underlying9
 a9:=isAgg9
 z9:=sizeOf9
 v9:=zeroValue9
 t22:=underlying55
 a22:=isAgg55
 z22:=sizeOf55
 v22:=zeroValue55
 t23:=underlying55
 a23:=isAgg55
 z23:=sizeOf55
 v23:=zeroValue55
 t25:=underlying3
 a25:=isAgg3
 z25:=sizeOf3
 v25:=zeroValue3
 t32:=underlying399
 a32:=isAgg399
 z32:=sizeOf399
 v32:=zeroValue399
 t35:=underlying455
 a35:=isAgg455
 z35:=sizeOf455
 v35:=zeroValue455
 t36:=underlying456
 a36:=isAgg456
 z36:=sizeOf456
 v36:=zeroValue456
 t41:=underlying300
 a41:=isAgg300
 z41:=sizeOf300
 v41:=zeroValue300
 t44:=underlying462
 a44:=isAgg462
 z44:=sizeOf462
 v44:=zeroValue462
 t46:=underlying464
 a46:=isAgg464
 z46:=sizeOf464
 v46:=zeroValue464
 t53:=underlying496
 a53:=isAgg496
 z53:=sizeOf496
 v53:=zeroValue496
 t57:=underlying500
 a57:=isAgg500
 z57:=sizeOf500
 v57:=zeroValue500
 t63:=underlying534
 a63:=isAgg534
 z63:=sizeOf534
 v63:=zeroValue534
 t64:=underlying344
 a64:=isAgg344
 z64:=sizeOf344
 v64:=zeroValue344}
open Go.RowKit Go.Maps Go.Sort in
theorem Tryz.sorts200(m:Nat):AnyZI.SortsIn prog aiF Fence.wide m:=
 ⟨fun blk off cap ss W hH hblk hsz=>callsIn_wide.2 (AnyM.slices_Sort_int aph blk off cap ss W hH hblk hsz),
  fun p cap W=>callsIn_wide.2 (AnyM.slices_Sort_int_none aph p cap W)⟩
end Go.Proofs
namespace Go.Proofs.YtomdigihapdhnaaGreatDoor.SL
open Go
variable{P:Program}{B:World}{ro I I':AH}{tag tag':Nat->Nat}
variable{α β:Type}{I'' τ:AH}{a p:Addr}{seen:Array Nat}{m:KV}{l:List (List Value)}{C R:List Nat}{x:List Value}{M b bytes c clock i j n r w:Nat}{tag'' tag1:Nat->Nat}{o:Obj}{e t ty:TypeId}{v zv:Value}{K Q:Value->AH->Prop}
theorem akl{q:Question}{f:Nat->Sem β}{Q:β->AH->Prop}(h0:q.forced=true->awp P ro (f 0) Q I)(h1:q.forced=false->∀ n,awp P ro (f (q.cut n)) Q I):awp P ro (Sem.bind (choose q) f) Q I:=by
 show(if q.forced then awp P ro (f 0) Q I else∀n,awp P ro (f (q.cut n)) Q I)
 split
 .rename_i h;exact h0 h
 .rename_i h;exact h1 (j2 h)
theorem am9{kt et:TypeId}(ht:P.underlying t=some (.map kt et))(hm:zT tag I r M m)(hs:Sep ro I)
  (hK:∀ (es:Array MapEntry) (clock x:Nat),I M=some (.map es clock)->es.toList.map uM=m.map afx->alM es clock->ro x=none->I x=none->K (.pointer (some ⟨x,0,none⟩)) (upd I x (.mapIter (some M) clock #[] clock))):
  awp P ro (Instr.range t (.map (some M))) K I:=by
 obtain⟨es,clock,hb,he,hbn⟩:=hm.obj
 unfold Instr.range
 simp only[qx]
 rw[qz ht]
 refine⟨.map es clock,by unfold rd;rw[hs M _ hb];exact hb,rfl,?_⟩
 intro x hro hx
 exact hK es clock x hb he hbn hro hx
theorem ad4{x:Nat}{es:Array MapEntry}(hx:I x=some (.mapIter (some M) clock seen clock))(hm:I M=some (.map es clock))(hs:Sep ro I)(hb:alM es clock)
  (hover:(∀e∈es.toList,seen.contains e.born=true)->K (.tuple #[.bool false]) I)
  (hstep:∀ e∈es.toList,seen.contains e.born=false->K (.tuple #[.bool true,e.key,e.val]) (upd I x (.mapIter (some M) clock (seen.push e.born) clock))):
  awp P ro (Instr.next (.pointer (some ⟨x,0,none⟩)) false ty) K I:=by
 unfold Instr.next
 refine⟨.mapIter (some M) clock seen clock,by unfold rd;rw[hs x _ hx];exact hx,rfl,?_⟩
 refine⟨.map es clock,by unfold rd;rw[hs M _ hm];exact hm,rfl,?_⟩
 have hall:(!seen.isEmpty && !es.isEmpty && es.all fun e=>decide (e.born≥clock))=false:=by
  cases he:es.isEmpty with
  | true=>simp
  | false=>
   have hne:0<es.size:=by
    rcases nc es.size with h | h
    .have:es= #[]:=Array.eq_empty_of_size_eq_zero h
     rw[this]at he;cases he
    .exact h
   have h0:=hb.lt es[0] z8
   have:(es.all fun e=>decide (e.born≥clock))=false:=by
    rw[<-nM,Array.all_eq_true]
    intro h
    have:=h 0 hne
    simp only[mP]at this
    omega
   rw[this];simp
 show awp P ro (if _ then _ else _) K I
 rw[ma (by rw[hall];simp)]
 have hold:((es.filter fun e=> !seen.contains e.born).filter fun e=>decide (e.born<clock))=es.filter fun e=> !seen.contains e.born:=by
  rw[Array.filter_eq_self]
  intro e he
  have:=hb.lt e (by have:=(Array.mem_filter.1 he).1;simpa using this)
  simpa using this
 have hnew:((es.filter fun e=> !seen.contains e.born).filter fun e=>decide (e.born≥clock))= #[]:=by
  rw[Array.filter_eq_empty_iff]
  intro e he
  have:=hb.lt e (by have:=(Array.mem_filter.1 he).1;simpa using this)
  simp;omega
 simp only[hold,hnew,Array.append_empty]
 generalize hleft:(es.filter fun e=> !seen.contains e.born)=left
 have hmem:∀ e,e∈left↔e∈es.toList/\seen.contains e.born=false:=fun e=>by
  rw[<-hleft,Array.mem_filter];simp
 by_cases hemp:left= #[]
 .subst hemp
  have e1:((if(#[]:Array MapEntry).isEmpty=true then(#[none]:Array (Option MapEntry))else #[])++(#[]:Array MapEntry).map some)= #[none]:=by simp
  rw[e1]
  refine akl (fun _=>?_) (fun h=>mu h y0)
  show K (Value.tuple #[.bool false]) I
  refine hover fun e he=>?_
  cases h:seen.contains e.born with
  | true=>rfl
  | false=>exact mu ((hmem e).2 ⟨he,h⟩) z8
 .have hsz:0<left.size:=by
   rcases nc left.size with h | h
   .exact mu (Array.eq_empty_of_size_eq_zero h) hemp
   .exact h
  have hie:left.isEmpty=false:=by simp[Array.isEmpty];omega
  rw[ma (by rw[hie];simp)]
  have hcand:(#[]:Array (Option MapEntry))++left.map some=left.map some:=by simp
  rw[hcand]
  have step:∀ i,i<left.size->awp P ro (match(left.map some)[i]? with
    | some (some e)=>Sem.bind (setObj x (.mapIter (some M) clock (seen.push e.born) clock)) fun _=>Sem.pure (Value.tuple #[.bool true,e.key,e.val])
    | some none=>Sem.pure (Value.tuple #[.bool false])
    | none=>stuck "Next: no such candidate") K I:=fun i hi=>by
   rw[Array.getElem?_map,Array.getElem?_eq_getElem hi]
   simp only[Option.map_some]
   have hin:=(hmem left[i]).1 (Array.getElem_mem hi)
   exact⟨.mapIter (some M) clock seen clock,hx,rfl,hstep left[i] hin.1 hin.2⟩
  refine akl (fun _=>step 0 hsz) (fun _ n=>step _ ?_)
  simp only[Question.cut,Array.size_map]
  exact LJ _ hsz
theorem aiG{x:Nat}{es:Array MapEntry}{e:MapEntry}(hx:I x=some (.mapIter (some M) clock (seen.push e.born) clock))(hm:I M=some (.map es clock))(hs:Sep ro I)(hb:alM es clock)(he:e∈es.toList)
  (hK:K (.tuple #[e.key,e.val]) I):awp P ro (Instr.entry (.pointer (some ⟨x,0,none⟩))) K I:=by
 have hfind:es.find? (·.born == e.born)=some e:=by
  rw[<-Array.find?_toList]
  have hnd:=hb.nd
  have hin:=he
  generalize es.toList=l at hnd hin
  induction l with
  | nil=>cases hin
  | cons y l ih=>
   simp only[mF,nl]at hnd
   rw[List.find?_cons]
   rcases mq.1 hin with h | h
   .rw[h];simp
   .have hne:y.born≠e.born:=fun hh=>hnd.1 (mC.2 ⟨e,h,hh.symm⟩)
    rw[show(y.born == e.born)=false by simpa using hne]
    exact ih hnd.2 h
 unfold Instr.entry
 refine⟨.mapIter (some M) clock (seen.push e.born) clock,by unfold rd;rw[hs x _ hx];exact hx,rfl,?_⟩
 simp only[wP,Array.back?_push]
 refine⟨.map es clock,by unfold rd;rw[hs M _ hm];exact hm,rfl,?_⟩
 show awp P ro (if _ then _ else _) K I
 rw[ma z8]
 show awp P ro (match es.find? (·.born == e.born)with | some e=>_ | none=>_) K I
 rw[hfind]
 exact hK
theorem apZ{p q:α->Bool}(hpq:∀ a,q a=true->p a=true):∀ (l:List α),(l.filter q).length<=(l.filter p).length:=by
 intro l
 induction l with
 | nil=>exact mK _
 | cons y l ih=>
  rw[List.filter_cons,List.filter_cons]
  split
  .rename_i h;rw[mc (hpq y h)];simp only[mx];omega
  .split
   .simp only[mx];omega
   .exact ih
theorem ap0{p q:α->Bool}(hpq:∀ a,q a=true->p a=true){e:α}(hp:p e=true)(hq:q e=false):∀ {l:List α},e∈l->(l.filter q).length<(l.filter p).length:=by
 intro l
 induction l with
 | nil=>intro h;cases h
 | cons y l ih=>
  intro h
  rw[List.filter_cons,List.filter_cons]
  rcases mq.1 h with h | h
  .rw[<-h,hp,hq]
   have:=apZ hpq l
   simp only[if_true,mx]
   simp;omega
  .have:=ih h
   split
   .rename_i h1;rw[mc (hpq y h1)];simp only[mx];omega
   .split
    .simp only[mx];omega
    .exact this
def ale(es:Array MapEntry)(seen:Array Nat):Nat:=(es.toList.filter fun e=> !seen.contains e.born).length
theorem ap1{es:Array MapEntry}{e:MapEntry}(he:e∈es.toList)(hn:seen.contains e.born=false):ale es (seen.push e.born)<ale es seen:=by
 unfold ale
 refine ap0 (fun a ha=>?_) (e:=e) (by rw[hn];try rfl) (by rw[Array.contains_push];simp) he
 rw[Array.contains_push]at ha
 cases h:seen.contains a.born with
 | true=>rw[h]at ha;simp at ha
 | false=>rfl
theorem uR:∀ {l:List (List Value)},(∀x∈l,x.length=w)->l.flatten.length=l.length*w:=by
 intro l
 induction l with
 | nil=>intro _;simp
 | cons x l ih=>intro h;rw[LB,mW,h x z8,ih fun y hy=>h y (by simp[hy]),mx,nT];omega
theorem akz:∀ {l:List (List Value)},(∀x∈l,x.length=w)->∀ {j:Nat} {x:List Value} {i:Nat},l[j]?=some x->i<w->l.flatten[j*w+i]?=x[i]?:=by
 intro l
 induction l with
 | nil=>intro _ j x i h;cases h
 | cons y l ih=>
  intro h j x i hj hi
  rw[LB]
  have hy:=h y z8
  rcases j with _ | j
  .cases hj
   rw[Nat.zero_mul,ml,mM z7]
  .rw[mQ (by rw[hy,nT];omega),hy,show(j+1)*w+i - w=j*w+i by rw[nT];omega]
   exact ih (fun z hz=>h z (by simp[hz])) (j2 hj) hi
theorem asw:∀ {l:List (List Value)},(∀x∈l,x.length=w)->∀ {j:Nat} {x:List Value} {i:Nat} (v:Value),l[j]?=some x->i<w->l.flatten.set (j*w+i) v=(l.set j (x.set i v)).flatten:=by
 intro l
 induction l with
 | nil=>intro _ j x i v h;cases h
 | cons y l ih=>
  intro h j x i v hj hi
  have hy:=h y z8
  rcases j with _ | j
  .cases hj
   rw[LB,Nat.zero_mul,ml,List.set_append_left _ _ z7];try rfl
  .rw[LB,List.set_append_right _ _ (by rw[hy,nT];omega),hy,show(j+1)*w+i - w=j*w+i by rw[nT];omega,ih (fun z hz=>h z (by simp[hz])) v (j2 hj) hi]
   try rfl
def qm(tag:Nat->Nat)(I:AH)(r:Nat)(e:TypeId)(w:Nat)(s:Sl)(l:List (List Value)):Prop:=
 (s=⟨none,0,0⟩/\l=[])\/∃ (b:Nat) (cs:Array Value),s.a=some ⟨b,0,none⟩/\tag b=r/\I b=some (.cells cs e)/\s.len=l.length/\cs.size=s.cap*w/\s.len<=s.cap/\(∀x∈l,x.length=w)/\∀ (i:Nat) (v:Value),l.flatten[i]?=some v->cs[i]?=some v
theorem qm.nil(r:Nat)(e:TypeId)(w:Nat):qm tag I r e w ⟨none,0,0⟩ []:= .inl ⟨rfl,rfl⟩
theorem qm.len{s:Sl}(h:qm tag I r e w s l):s.len=l.length:=by
 rcases h with⟨rfl,rfl⟩ | ⟨b,cs,_,_,_,h,_⟩
 .rfl
 .exact h
theorem qm.cap{s:Sl}(h:qm tag I r e w s l):s.len<=s.cap:=by
 rcases h with⟨rfl,rfl⟩ | ⟨b,cs,_,_,_,_,_,h,_⟩
 .exact mK _
 .exact h
theorem qm.wide{s:Sl}(h:qm tag I r e w s l):∀ x∈l,x.length=w:=by
 rcases h with⟨rfl,rfl⟩ | ⟨b,cs,_,_,_,_,_,_,h,_⟩
 .intro x hx;cases hx
 .exact h
theorem qm.keep{s:Sl}(h:qm tag I r e w s l)(k:qd R ro tag I tag' I')(hr:r∉R:=by simp):qm tag' I' r e w s l:=by
 rcases h with h | ⟨b,cs,ha,ht,hs,hx⟩
 .exact .inl h
 .obtain⟨t,e⟩:=k.keep b _ hs (by rw[ht];exact hr)
  exact .inr ⟨b,cs,ha,t.trans ht,e,hx⟩
theorem qm.keepC{s:Sl}(h:qm tag I r e w s l)(k:zU c ro tag I tag' I')(hr:r%64≠c:=by decide):qm tag' I' r e w s l:=by
 obtain⟨R,h1,h2⟩:=k
 exact h.keep h2 fun m=>hr (h1 _ m)
theorem qm.get{s:Sl}(h:qm tag I r e w s l)(hs:Sep ro I)(hj:l[j]?=some x):
  ∃b,s.a=some ⟨b,0,none⟩/\tag b=r/\∀ i v,x[i]?=some v->qa ro I ⟨b,j*w+i,none⟩=some v:=by
 rcases h with⟨_,rfl⟩ | ⟨b,cs,ha,ht,hb,hln,hc,hle,hw,hg⟩
 .cases hj
 .refine⟨b,ha,ht,fun i v hv=>?_⟩
  have hx:x.length=w:=hw x (mU hj)
  have hi:i<w:=by
   rcases mL i w with h | h
   .exact h
   .rw[mI z7]at hv;cases hv
  have:=hg (j*w+i) v (by rw[akz hw hj hi];exact hv)
  unfold qa rd
  simp only[hs b _ hb,hb,vw]
  exact this
theorem qm.st{s:Sl}{K:AH->Prop}(h:qm tag I r e w s l)(hs:Sep ro I)(ha:s.a=some ⟨b,0,none⟩)(hj:l[j]?=some x)(hi:i<w)(hv:qf v=true)
  (hK:∀ I',qd [r] ro tag I tag I'->qm tag I' r e w s (l.set j (x.set i v))->K I'):stN ⟨b,j*w+i,none⟩ K [v] 0 I:=by
 rcases h with⟨_,rfl⟩ | ⟨b',cs,ha',ht,hb,hln,hc,hle,hw,hg⟩
 .cases hj
 .rw[ha]at ha';cases ha'
  have hjl:j<l.length:=by
   rcases mL j l.length with h | h
   .exact h
   .rw[mI h]at hj;cases hj
  have hlt:j*w+i<cs.size:=by
   rw[hc]
   have:(j+1)*w<=s.cap*w:=Nat.mul_le_mul_right _ z7
   rw[nT]at this;omega
  have hfl:=uR hw
  have hfi:j*w+i<l.flatten.length:=by
   rw[hfl]
   have:(j+1)*w<=l.length*w:=Nat.mul_le_mul_right _ z7
   rw[nT]at this;omega
  refine⟨hv,z8,cs,e,(0,0),j2 hb,j2 hlt,z8,?_⟩
  simp only[aku,stN]
  refine hK _ (kF hs ht hb) (.inr ⟨b,_,ha,ht,qC _ _ _,by simp[hln],by simp[hc],hle,?_,?_⟩)
  .intro y hy
   rcases List.mem_or_eq_of_mem_set hy with h | h
   .exact hw y h
   .rw[h,List.length_set];exact hw x (mU hj)
  .intro k u hk
   rw[<-asw hw v hj hi]at hk
   by_cases hkj:j*w+i=k
   .subst hkj
    rw[List.getElem?_set_self hfi]at hk
    rw[Array.getElem?_setIfInBounds_self_of_lt hlt];exact hk
   .rw[List.getElem?_set_ne hkj]at hk
    rw[Array.getElem?_setIfInBounds_ne hkj];exact hg k u hk
def jF(ro I:AH)(w:Nat)(s:Sl)(l:List (List Value)):Prop:=s.len=l.length/\(s.a=none->l=[])/\(∀x∈l,x.length=w)/\∀ p,s.a=some p->∀ (i:Nat) (v:Value),l.flatten[i]?=some v->qa ro I (p.add i)=some v
theorem qm.read{s:Sl}(h:qm tag I r e w s l)(hs:Sep ro I):jF ro I w s l:=by
 refine⟨h.len,fun hn=>?_,h.wide,fun p hp i v hv=>?_⟩
 .rcases h with⟨_,rfl⟩ | ⟨b,cs,ha,_⟩
  .rfl
  .rw[hn]at ha;cases ha
 .rcases h with⟨_,rfl⟩ | ⟨b,cs,ha,ht,hb,_,_,_,_,hg⟩
  .cases hv
  .rw[hp]at ha;cases ha
   unfold qa rd
   simp only[vy,ml,hs b _ hb,hb,vw]
   exact hg i v hv
theorem jF.flat{s:Sl}(h:jF ro I w s l):l.flatten.length=s.len*w:=by rw[uR h.2.2.1,h.1]
theorem jF.keep{s:Sl}(h:jF ro (fun _=>none) w s l):jF ro I w s l:=by
 refine⟨h.1,h.2.1,h.2.2.1,fun p hp i v hv=>?_⟩
 have:=h.2.2.2 p hp i v hv
 unfold qa rd at this⊢
 cases e:ro (p.add i).block with
 | some o=>rw[e]at this;exact this
 | none=>rw[e]at this;simp[vw]at this
theorem jF.step{s:Sl}(h:jF ro I w s l)(k:qd [] ro tag I tag' I'):jF ro I' w s l:=by
 refine⟨h.1,h.2.1,h.2.2.1,fun p hp i v hv=>?_⟩
 have:=h.2.2.2 p hp i v hv
 unfold qa rd at this⊢
 cases e:ro (p.add i).block with
 | some o=>rw[e]at this;exact this
 | none=>
  rw[e]at this
  simp only at this⊢
  cases e2:I (p.add i).block with
  | none=>rw[e2]at this;simp[vw]at this
  | some o=>rw[(k.keep _ o e2 z8).2];rw[e2]at this;exact this
theorem xZ{s s2:Sl}{l2:List (List Value)}(h:qm tag I r e w s l)(hs:Sep ro I)(h2:jF ro I w s2 l2)
  (ht:P.underlying t=some (.slice e)) (hz:qo P e zv w bytes) (hzc:zv.cells.size=w) (hv:∀ x∈l2,∀v∈x,qf v=true) (hb:(l.length+l2.length)*bytes<=140737488355328) (hb0:0<bytes)
  (hK:∀ s' tag' I',(∀R,s.len=s.cap\/r∈R->qd R ro tag I tag' I')->qm tag' I' r e w s' (l++l2)->Q (Sl.v s') I'):
  awp P ro (Builtin.append_ #[t,t] ty #[Sl.v s,Sl.v s2]) Q I:=by
 obtain⟨i,hi,hiz,his,hib⟩:=hz
 have hz:qo P e zv w bytes:=⟨i,hi,hiz,his,hib⟩
 have g0:(#[t,t]:Array TypeId)[0]?=some t:=rfl
 have g1:(#[t,t]:Array TypeId)[1]?=some t:=rfl
 have g2:(#[Value.slice s.a s.len s.cap,Value.slice s2.a s2.len s2.cap]:Array Value)[0]?=some (Value.slice s.a s.len s.cap):=rfl
 have g3:(#[Value.slice s.a s.len s.cap,Value.slice s2.a s2.len s2.cap]:Array Value)[1]?=some (Value.slice s2.a s2.len s2.cap):=rfl
 have hln:=h2.1
 have hfl2:=h2.flat
 have hvf:∀ v∈l2.flatten,qf v=true:=fun v hm=>by
  obtain⟨x,hx,hm⟩:=List.mem_flatten.1 hm
  exact hv x hx v hm
 have hld:∀ {β:Type} (f:Array Value->Sem β) (Q:β->AH->Prop),awp P ro (f l2.flatten.toArray) Q I->awp P ro (Sem.bind (Builtin.firstCells w s2.len (.slice s2.a s2.len s2.cap)) f) Q I:=by
  intro β f Q hf
  cases hsa:s2.a with
  | none=>
   rw[h2.2.1 hsa]at hf
   exact hf
  | some p=>
   rw[show Sem.bind (Builtin.firstCells w s2.len (.slice (some p) s2.len s2.cap)) f=(loadCells p (s2.len*w)) >>= f from rfl,vQ,<-hfl2]
   exact jy l2.flatten 0 #[] (zt 0 fun j v hj=>by rw[ml];exact h2.2.2.2 p hsa j v hj) (j2 hf)
 have hfs:∀ {β:Type} (f:Array Value->Sem β) (Q:β->AH->Prop),awp P ro (f l.flatten.toArray) Q I->awp P ro (Sem.bind (Builtin.firstCells w s.len (.slice s.a s.len s.cap)) f) Q I:=by
  intro β f Q hf
  have hr:=h.read hs
  cases hsa:s.a with
  | none=>
   rw[hr.2.1 hsa]at hf
   exact hf
  | some p=>
   rw[show Sem.bind (Builtin.firstCells w s.len (.slice (some p) s.len s.cap)) f=(loadCells p (s.len*w)) >>= f from rfl,vQ,<-hr.flat]
   exact jy l.flatten 0 #[] (zt 0 fun j v hj=>by rw[ml];exact hr.2.2.2 p hsa j v hj) (j2 hf)
 have hwide:∀ x∈l++l2,x.length=w:=fun x hx=>by
  rcases mt.1 hx with h' | h'
  .exact h.wide x h'
  .exact h2.2.2.1 x h'
 have hfl:=uR h.wide
 unfold Builtin.append_
 simp only[Sl.v,qx,qN,g0,g1,g2,g3]
 rw[qz ht]
 simp only[]
 rw[aem hz]
 rw[qz ht]
 simp only[wP,Builtin.lenOf,qx,qN,Bool.false_eq_true,if_false,Bool.not_false,if_true,false_or]
 split
 .rename_i hroom
  refine hld _ _ ?_
  rcases h with⟨rfl,rfl⟩ | ⟨b,cs,ha,htg,hbk,hln1,hcp,hle,hwl,hg⟩
  .have h0:l2=[]:=mO (by simp at hroom;omega)
   subst h0
   have hs2:s2.len=0:=hln
   show Q (.slice none (0+s2.len) 0) I
   rw[hs2]
   exact hK ⟨none,0,0⟩ tag I (fun _ _=>qd.refl hs) (.inl ⟨rfl,rfl⟩)
  .have h':qm tag I r e w s l:= .inr ⟨b,cs,ha,htg,hbk,hln1,hcp,hle,hwl,hg⟩
   by_cases h0:l2=[]
   .subst h0
    have hs2:s2.len=0:=hln
    simp only[ha]
    show Q (Value.slice (some ⟨b,0,none⟩) (s.len+s2.len) s.cap) I
    rw[hs2,Nat.add_zero]
    have:=hK s tag I (fun _ _=>qd.refl hs) (by rw[ny];exact h')
    unfold Sl.v at this
    rw[ha]at this;exact this
   have hpos:=nz.2 h0
   simp only[ha]
   show awp P ro (storeCells (Addr.add ⟨b,0,none⟩ (s.len*w)) l2.flatten >>= fun _=>Sem.pure (Value.slice (some ⟨b,0,none⟩) (s.len+s2.len) s.cap)) Q I
   rw[vQ,vy,ml]
   have hcm:(s.len+s2.len)*w<=s.cap*w:=Nat.mul_le_mul_right _ hroom
   rw[nT]at hcm
   refine jU l2.flatten 0 I (afL l2.flatten cs 0 I hbk (by rw[hcp,hfl2];omega) hvf fun cs' c1 c2 c3=>?_)
   show Q (Value.slice (some ⟨b,0,none⟩) (s.len+s2.len) s.cap) _
   refine hK ⟨some ⟨b,0,none⟩,s.len+s2.len,s.cap⟩ tag _ (fun R hR=>(kF hs htg hbk).mono fun x hx=>by rw[mo]at hx;rw[hx];exact hR.resolve_left z7) (.inr ⟨b,cs',rfl,htg,qC _ _ _,by simp[hln1,hln],by rw[c1];exact hcp,hroom,hwide,fun i v hi=>?_⟩)
   rw[List.flatten_append]at hi
   rcases mL i l.flatten.length with hh | hh
   .rw[mM hh]at hi
    rw[c2 i (by rw[hfl,<-hln1]at hh;omega)];exact hg i v hi
   .rw[mQ hh]at hi
    have:=c3 (i - l.flatten.length) v hi
    rw[<-this]
    congr 1;rw[hfl,<-hln1]at hh ⊢;omega
 .rename_i hroom
  rw[vX hi]
  rw[ma (by rw[hib];omega)]
  rw[vX hi]
  have hl:=h.len
  rw[ma (by rw[hib];have:=growslice_fits (need:=s.len+s2.len) (old:=s.cap) (bytes:=bytes) z7 (by rw[hl,hln];exact hb);omega)]
  refine ahN rfl (fun n=>?_)
  rw[vX hi]
  refine agS ?_
  have hcut:s.len+s2.len<=(Question.appendCap (s.len+s2.len) s.cap e).cut n:=by simp only[Question.cut];omega
  generalize (Question.appendCap (s.len+s2.len) s.cap e).cut n=N at hcut
  refine hfs _ _ ?_
  refine hld _ _ ?_
  rw[abI hz]
  show∀b,ro b=none->I b=none->Q (Value.slice (some ⟨b,0,none⟩) (s.len+s2.len) N) (upd I b _)
  intro b hro hb
  refine hK ⟨some ⟨b,0,none⟩,s.len+s2.len,N⟩ (setTag tag b r) _ (fun _ _=>qd.fresh hs hro hb) (.inr ⟨b,_,rfl,by simp[setTag],qC _ _ _,by simp[hl,hln],?_,hcut,hwide,fun i v hi=>?_⟩)
  .have e1:(Builtin.zeroCells zv.cells (N - (s.len+s2.len))).size=(N - (s.len+s2.len))*w:=by simp[Builtin.zeroCells,hzc]
   rw[Array.size_append,Array.size_append,e1,List.size_toArray,List.size_toArray,hfl2,hfl,<-hl,<-nT,<-nT]
   congr 1;simp only;omega
  .rw[List.flatten_append]at hi
   have hlt:i<(l.flatten++l2.flatten).length:=by
    rcases mL i (l.flatten++l2.flatten).length with h | h
    .exact h
    .rw[mI h]at hi;cases hi
   rw[Array.getElem?_append_left (j2 hlt)]
   simpa using hi
theorem api{s:Sl}(ht:P.underlying t=some (.slice e))(h:Q (.int .i64 (s.cap:Int)) I):awp P ro (Builtin.cap_ #[t] ty #[Sl.v s]) Q I:=by
 have g0:(#[t]:Array TypeId)[0]?=some t:=rfl
 have g1:(#[Value.slice s.a s.len s.cap]:Array Value)[0]?=some (Value.slice s.a s.len s.cap):=rfl
 unfold Builtin.cap_
 simp only[Sl.v,qx,qN,g0,g1]
 rw[qz ht]
 exact h
structure Src(P:Program)(ro I:AH)(x:Value)(l:List Value):Prop where
 len:∀ {β:Type} (f:Nat->Sem β) (Q:β->AH->Prop),awp P ro (f l.length) Q I->awp P ro (Sem.bind (Builtin.lenOf x) f) Q I
 cells:∀ {β:Type} (f:Array Value->Sem β) (Q:β->AH->Prop),awp P ro (f l.toArray) Q I->awp P ro (Sem.bind (Builtin.firstCells 1 l.length x) f) Q I
theorem wy.src{s:Sl}{l:List Value}(h:wy ro I s l):Src P ro I (Sl.v s) l:=by
 refine⟨fun f Q hf=>?_,fun f Q hf=>?_⟩
 .rw[<-h.1]at hf;exact hf
 .unfold Sl.v
  cases hsa:s.a with
  | none=>
   rw[h.2.1 hsa]at hf⊢
   exact hf
  | some p=>
   rw[show Sem.bind (Builtin.firstCells 1 l.length (.slice (some p) s.len s.cap)) f=(loadCells p (l.length*1)) >>= f from rfl,vQ,mV]
   exact jy l 0 #[] (zt 0 fun j v hj=>by rw[ml];exact h.2.2 p hsa j v hj) (j2 hf)
theorem apj(b:ByteArray):Src P ro I (.string b) ((L b).map fun c=> .int .u8 c.toNat):=by
 refine⟨fun f Q hf=>?_,fun f Q hf=>?_⟩
 .rw[mi,zd]at hf;exact hf
 .rw[mi,zd]
  show awp P ro (f ((b.extract 0 b.size).data.map fun c=> .int .u8 c.toNat)) Q I
  rw[show b.extract 0 b.size=b from by rw[atN,mH (by rw[zd];exact mK _)];exact S_L b]
  have e:((L b).map fun c=>Value.int .u8 c.toNat).toArray=b.data.map fun c=> .int .u8 c.toNat:=by unfold L;rw[<-Array.toList_map]
  rw[<-e];exact hf
theorem aja{r t2:TypeId}{s:Sl}{l l2:List Value}{m:Nat}{x:Value}(h:Row tag I r e s l)(hs:Sep ro I)(ht:P.underlying t=some (.slice e))(hz:qo P e zv 1 bytes)
  (hx:Src P ro I x l2) (hm:m+l2.length=l.length) (hv:∀ v∈l2,qf v=true) (hQ:∀ I',qd [r] ro tag I tag I'->Row tag I' r e s (l.take m++l2)->Q (.int .i64 (l2.length:Int)) I'):
  awp P ro (Builtin.copy_ #[t,t2] ty #[Sl.v (⟨wt s.a m s.cap 1,s.len - m,s.cap - m⟩:Sl),x]) Q I:=by
 have g0:(#[t,t2]:Array TypeId)[0]?=some t:=rfl
 have g1:(#[Value.slice (wt s.a m s.cap 1) (s.len - m) (s.cap - m),x]:Array Value)[0]?=some (Value.slice (wt s.a m s.cap 1) (s.len - m) (s.cap - m)):=rfl
 have g2:(#[Value.slice (wt s.a m s.cap 1) (s.len - m) (s.cap - m),x]:Array Value)[1]?=some x:=rfl
 have hl:=h.len
 unfold Builtin.copy_
 simp only[Sl.v,qx,qN,g0,g1,g2]
 rw[qz ht]
 simp only[]
 refine hx.len _ _ ?_
 rw[aem hz]
 rw[show Nat.min l2.length (s.len - m)=l2.length from Nat.min_eq_left z7]
 refine hx.cells _ _ ?_
 have done:l2=[]->Q (.int .i64 (l2.length:Int)) I:=fun e0=>hQ I (qd.refl hs) (by
  rw[e0,ny,mH (by rw[e0]at hm;simp at hm;omega)];exact h)
 rcases h with⟨rfl,rfl⟩ | ⟨b,cs,ha,htg,hbk,hln,hcp,hle,hg⟩
 .have h0:l2=[]:=mO (by simp only[nE]at hm;omega)
  rw[show wt none m 0 1=none from by unfold wt;split<;>rfl]
  exact done h0
 .by_cases h0:l2=[]
  .unfold wt
   have:=done h0
   subst h0
   split
   .exact this
   .exact this
  .have hpos:=nz.2 h0
   unfold wt
   rw[ma z7,ha]
   simp only[Option.map_some,mV,vy,ml]
   show awp P ro (storeCells ⟨b,m,none⟩ l2 >>= fun _=>Sem.pure (goInt l2.length)) Q I
   rw[vQ]
   refine jU l2 0 I (afL l2 cs 0 I hbk z7 hv fun cs' c1 c2 c3=>?_)
   refine hQ _ (kF hs htg hbk) (.inr ⟨b,cs',ha,htg,qC _ _ _,j0,by rw[c1];exact hcp,hle,fun i hi=>?_⟩)
   simp at hi
   rcases mL i m with hh | hh
   .rw[c2 i z7,mM j0,Lb,mc hh];exact hg i z7
   .have e1:(l.take m).length=m:=by simp;omega
    rw[mQ z7,e1]
    have:=c3 (i - m) _ (md z7)
    rw[md z7,<-this]
    congr 1;omega
theorem Row.more{s:Sl}{l:List Value}(h:Row tag I r e s l)(hn:l.length+n<=s.cap):∃ xs:List Value,xs.length=n/\Row tag I r e ⟨s.a,l.length+n,s.cap⟩ (l++xs):=by
 rcases h with⟨rfl,rfl⟩ | ⟨b,cs,ha,htg,hbk,hln,hcp,hle,hg⟩
 .have:n=0:=by simpa using hn
  subst this
  exact⟨[],rfl,.inl ⟨rfl,rfl⟩⟩
 .refine⟨(cs.toList.drop l.length).take n,j0,.inr ⟨b,cs,ha,htg,hbk,j0,hcp,hn,fun i hi=>?_⟩⟩
  rcases mL i l.length with h1 | h1
  .rw[mM h1];exact hg i h1
  .simp at hi
   rw[mQ h1,Lb,mc z7,List.getElem?_drop]
   simp only[Array.getElem?_toList]
   congr 1;omega
theorem Row.capAt{s:Sl}{l:List Value}(h:Row tag I r e s l):l.length<=s.cap:=by
 rcases h with⟨rfl,rfl⟩ | ⟨b,cs,ha,htg,hbk,hln,hcp,hle,hg⟩
 .simp
 .omega
theorem pu(a:Option Addr)(c s:Nat):wt a 0 c s=a:=by
 unfold wt;split
 .rfl
 .cases a<;>simp[Nat.zero_mul,aku]
def StepS(C:List Nat)(ro:AH)(tag:Nat->Nat)(I:AH)(tag':Nat->Nat)(I':AH):Prop:= ∃R:List Nat,(∀x∈R,x%64∈C)/\qd R ro tag I tag' I'
theorem qd.s(h:qd R ro tag I tag' I')(hR:∀ x∈R,x%64∈C):StepS C ro tag I tag' I':=⟨R,hR,h⟩
theorem zU.s(h:zU c ro tag I tag' I')(hc:c∈C):StepS C ro tag I tag' I':=by
 obtain⟨R,h1,h2⟩:=h
 exact⟨R,fun x hx=>by rw[h1 x hx];exact hc,h2⟩
theorem StepS.sep(h:StepS C ro tag I tag' I'):Sep ro I':=by obtain⟨_,_,h⟩:=h;exact h.sep
theorem StepS.refl(h:Sep ro I):StepS C ro tag I tag I:=⟨[],z8,qd.refl h⟩
theorem StepS.trans(h:StepS C ro tag I tag' I')(k:StepS C ro tag' I' tag'' I''):StepS C ro tag I tag'' I'':=by
 obtain⟨R,h1,h2⟩:=h
 obtain⟨R',k1,k2⟩:=k
 refine⟨R++R',fun x hx=>?_,(h2.mono fun r hr=>by simp[hr]).trans (k2.mono fun r hr=>by simp[hr])⟩
 rcases mt.1 hx with h | h
 .exact h1 x h
 .exact k1 x h
theorem StepS.mono{D:List Nat}(h:StepS C ro tag I tag' I')(hd:∀ c∈C,c∈D):StepS D ro tag I tag' I':=by
 obtain⟨R,h1,h2⟩:=h
 exact⟨R,fun x hx=>hd _ (h1 x hx),h2⟩
theorem Row.keepS{s:Sl}{l:List Value}(h:Row tag I r e s l)(k:StepS C ro tag I tag' I')(hr:r%64∉C:=by decide):Row tag' I' r e s l:=by
 obtain⟨R,h1,h2⟩:=k
 exact h.keep h2 fun m=>hr (h1 _ m)
theorem StepS.back(h:StepS C (join ro (one I b)) tag (del I b) tag' τ)(hs:Sep ro I)(hd:qJ (one I b) τ)(hb:∃ o,I b=some o):StepS C ro tag I (setTag tag' b (tag b)) (join (one I b) τ):=by
 obtain⟨R,h1,h2⟩:=h
 exact⟨R,h1,h2.back hs hd hb⟩
def inR(tag:Nat->Nat)(L:List Nat)(I:AH):AH:=fun c=>if tag c∈L then I c else none
def vg(tag:Nat->Nat)(L:List Nat)(I:AH):AH:=fun c=>if tag c∈L then none else I c
def tagB(tag tag1:Nat->Nat)(L:List Nat)(I:AH):Nat->Nat:=fun c=>if(inR tag L I c).isSome then tag c else tag1 c
variable{L:List Nat}
theorem pi(tag:Nat->Nat)(L:List Nat){K:AH->AH->Prop}(h:K (inR tag L I) (vg tag L I)):uh I K:=by
 refine⟨_,_,fun c o hc=>?_,?_,h⟩
 .unfold inR at hc;unfold vg
  split at hc
  .rename_i e;rw[mc e]
  .cases hc
 .funext c;unfold join inR vg
  by_cases e:tag c∈L
  .simp only[e,if_true];cases I c<;>rfl
  .simp[e]
theorem asx(b:Nat)(hs:Sep ro I):rd (join ro (inR tag L I)) (vg tag L I) b=rd ro I b:=by
 unfold rd join inR vg
 cases h:ro b with
 | some o=>rfl
 | none=>
  simp only
  by_cases e:tag b∈L
  .simp only[e,if_true];cases I b<;>rfl
  .simp[e]
theorem Sep.lentR(hs:Sep ro I):Sep (join ro (inR tag L I)) (vg tag L I):=by
 intro c o hc
 unfold vg at hc
 split at hc
 .cases hc
 .rename_i e
  unfold join inR
  rw[hs c o hc];simp[e]
theorem Row.outR{s:Sl}{l:List Value}(h:Row tag I r e s l)(hr:r∉L):Row tag (SL.vg tag L I) r e s l:=by
 rcases h with h | ⟨c,cs,ha,ht,hs,hx⟩
 .exact .inl h
 .refine .inr ⟨c,cs,ha,ht,?_,hx⟩
  unfold SL.vg;rw[ma (by rw[ht];exact hr)];exact hs
theorem zT.outR(h:zT tag I r b m)(hr:r∉L):zT tag (SL.vg tag L I) r b m:=by
 obtain⟨es,clock,hb,x⟩:=h.obj
 exact⟨h.tg,es,clock,by unfold SL.vg;rw[ma (by rw[h.tg];exact hr)];exact hb,x⟩
theorem akm(hs:Sep ro I):qa (join ro (inR tag L I)) (vg tag L I) a=qa ro I a:=by
 unfold qa;rw[asx _ hs]
theorem Row.lendR{s:Sl}{l:List Value}(h:Row tag I r e s l)(hs:Sep ro I)(hr:r∈L)(hp:s.a=some p)(hv:l[i]?=some v):qa (join ro (inR tag L I)) τ (p.add i)=some v:=by
 rcases h with⟨e,_⟩ | ⟨c,cs,ha,ht,hb,hln,hc,hle,hg⟩
 .rw[e]at hp;cases hp
 .rw[ha]at hp;cases hp
  have hi:i<l.length:=by
   rcases mL i l.length with h | h
   .exact h
   .rw[mI h]at hv;cases hv
  rw[vy,ml]
  have:join ro (inR tag L I) c=some (.cells cs e):=by unfold join inR;rw[hs c _ hb];simp[ht,hr,hb]
  unfold qa rd
  simp only[this,vw]
  rw[<-hv,<-hg i hi];try rfl
theorem wy.lentR{s:Sl}{l:List Value}(h:wy ro I s l)(hs:Sep ro I):wy (join ro (inR tag L I)) (SL.vg tag L I) s l:=
 ⟨h.1,h.2.1,fun p hp i v hv=>by rw[akm hs];exact h.2.2 p hp i v hv⟩
theorem anO(h:inR tag L I c=some o):tag c∈L/\I c=some o:=by
 unfold inR at h
 split at h
 .exact⟨by assumption,h⟩
 .cases h
theorem aer(h:inR tag L I c=none):tagB tag tag1 L I c=tag1 c:=by unfold tagB;rw[h];try rfl
theorem alV(h:inR tag L I c=some o):tagB tag tag1 L I c=tag c:=by unfold tagB;rw[h];try rfl
theorem Row.backR{s:Sl}{l:List Value}(h:Row tag1 τ r e s l)(hd:qJ (inR tag L I) τ):Row (tagB tag tag1 L I) (join (inR tag L I) τ) r e s l:=by
 rcases h with h | ⟨c,cs,ha,ht,hs,hx⟩
 .exact .inl h
 .have hn:inR tag L I c=none:=by
   cases e:inR tag L I c with
   | none=>rfl
   | some o=>have:=hd c o e;rw[hs]at this;cases this
  exact .inr ⟨c,cs,ha,by rw[aer hn];exact ht,by unfold join;rw[hn];exact hs,hx⟩
theorem zT.backR(h:zT tag1 τ r b m)(hd:qJ (inR tag L I) τ):zT (tagB tag tag1 L I) (join (inR tag L I) τ) r b m:=by
 obtain⟨es,clock,hb,x⟩:=h.obj
 have hn:inR tag L I b=none:=by
  cases e:inR tag L I b with
  | none=>rfl
  | some o=>have:=hd b o e;rw[hb]at this;cases this
 exact⟨by rw[aer hn];exact h.tg,es,clock,by unfold join;rw[hn];exact hb,x⟩
theorem qd.backR(h:qd R (join ro (inR tag L I)) tag (vg tag L I) tag1 τ)(hs:Sep ro I)(hd:qJ (inR tag L I) τ):qd R ro tag I (tagB tag tag1 L I) (join (inR tag L I) τ):=by
 have split':∀ c o,I c=some o->inR tag L I c=some o\/(inR tag L I c=none/\vg tag L I c=some o):=fun c o hc=>by
  unfold inR vg
  by_cases e:tag c∈L
  .left;rw[mc e];exact hc
  .right;rw[ma e,ma e];exact⟨rfl,hc⟩
 refine⟨fun c o hc hn=>?_,fun c o hc=>?_,fun c o hc=>?_⟩
 .rcases split' c o hc with h1 | ⟨h1,h2⟩
  .exact⟨alV h1,by unfold join;rw[h1]⟩
  .obtain⟨t1,t2⟩:=h.keep c o h2 hn
   exact⟨by rw[aer h1];exact t1,by unfold join;rw[h1];exact t2⟩
 .rcases split' c o hc with h1 | ⟨h1,h2⟩
  .exact⟨alV h1,o,by unfold join;rw[h1]⟩
  .obtain⟨t1,o',t2⟩:=h.old c o h2
   exact⟨by rw[aer h1];exact t1,o',by unfold join;rw[h1];exact t2⟩
 .rcases adx hc with h1 | ⟨h1,h2⟩
  .exact hs c o (anO h1).2
  .exact(aaC (h.sep c o h2)).1
theorem StepS.backR(h:StepS C (join ro (inR tag L I)) tag (vg tag L I) tag1 τ)(hs:Sep ro I)(hd:qJ (inR tag L I) τ):StepS C ro tag I (tagB tag tag1 L I) (join (inR tag L I) τ):=by
 obtain⟨R,h1,h2⟩:=h
 exact⟨R,h1,h2.backR hs hd⟩
end Go.Proofs.YtomdigihapdhnaaGreatDoor.SL
namespace Go.Proofs.YtomdigihapdhnaaGreatDoor.SL
open Go
variable{P:Program}{B:World}{ro I I':AH}{tag tag':Nat->Nat}{κ:Type}[DecidableEq κ]{enc:κ->Value}
section
variable{α:Type}
def wR:List (κ×α)->κ->α->List (κ×α)
 | [],k,v=>[(k,v)]
 | (k',v')::r,k,v=>if k=k' then(k,v)::r else(k',v')::wR r k v
def ji:List (κ×α)->κ->List (κ×α)
 | [],_=>[]
 | (k',v')::r,k=>if k=k' then r else(k',v')::ji r k
def qy:List (κ×α)->κ->Option α
 | [],_=>none
 | (k',v')::r,k=>if k=k' then some v' else qy r k
end
def aeH(enc:κ->Value)(p:κ×Value):Value×Value:=(enc p.1,p.2)
def acW(k:κ):List (κ×Value)->Nat->Option (Nat×Value)
 | [],_=>none
 | p::m,i=>if k=p.1 then some (i,p.2)else acW k m (i+1)
structure akA(P:Program)(kt:TypeId)(enc:κ->Value):Prop where
 check:∀ {ro I:AH} {β:Type} {em:Bool} {k:κ} {f:Unit->Sem β} {K:β->AH->Prop},awp P ro (f ()) K I->awp P ro (Sem.bind (Instr.checkKey em 10000 kt (enc k)) f) K I
 find:∀ {ro I:AH} {β:Type} {k:κ} {l:List MapEntry} {m:List (κ×Value)} {f:Option (Nat×Value)->Sem β} {K:β->AH->Prop},l.map uM=m.map (aeH enc)->awp P ro (f (acW k m 0)) K I->awp P ro (Sem.bind (Instr.findKey kt (enc k) l) f) K I
 stays:∀ k,Instr.keyThatStays (enc k) (enc k)=Sem.pure (enc k)
structure zu(enc:κ->Value)(tag:Nat->Nat)(I:AH)(r b:Nat)(m:List (κ×Value)):Prop where
 tg:tag b=r
 obj:∃ es clock,I b=some (.map es clock)/\es.toList.map uM=m.map (aeH enc)/\alM es clock
theorem zu.keep{R:List Nat}{r b:Nat}{m:List (κ×Value)}(h:zu enc tag I r b m)(k:qd R ro tag I tag' I')(hr:r∉R:=by simp):zu enc tag' I' r b m:=by
 obtain⟨es,c,hb,hx⟩:=h.obj
 obtain⟨t,e⟩:=k.keep b _ hb (by rw[h.tg];exact hr)
 exact⟨t.trans h.tg,es,c,e,hx⟩
theorem zu.keepS{C:List Nat}{r b:Nat}{m:List (κ×Value)}(h:zu enc tag I r b m)(k:StepS C ro tag I tag' I')(hr:r%64∉C:=by decide):zu enc tag' I' r b m:=by
 obtain⟨R,h1,h2⟩:=k
 exact h.keep h2 fun m=>hr (h1 _ m)
theorem ah0(k:κ):∀ (m:List (κ×Value)) (i:Nat),
  (qy m k=none/\ji m k=m/\(∀v,wR m k v=m++[(k,v)])/\acW k m i=none)\/
  ∃j v,j<m.length/\qy m k=some v/\acW k m i=some (i+j,v)/\m[j]?=some (k,v)/\(∀v',wR m k v'=m.set j (k,v'))/\ji m k=m.eraseIdx j:=by
 intro m
 induction m with
 | nil=>intro i;exact .inl ⟨rfl,rfl,fun _=>rfl,rfl⟩
 | cons p m ih=>
  intro i
  obtain⟨pk,pv⟩:=p
  by_cases c:k=pk
  .subst c
   exact .inr ⟨0,pv,z8,by simp[qy],by simp[acW],rfl,fun v'=>by simp[wR],by simp[ji]⟩
  .rcases ih (i+1)with⟨a,b,d,f⟩ | ⟨j,v,hj,a,f,g,q,w⟩
   .exact .inl ⟨by simp[qy,c,a],by simp[ji,c,b],fun v=>by simp[wR,c,d],by simp[acW,c,f]⟩
   .exact .inr ⟨j+1,v,j0,by simp[qy,c,a],by simp[acW,c];rw[f];congr 2;omega,j2 g,fun v'=>by simp[wR,c,q],by simp[ji,c,w]⟩
theorem anP{t kt et:TypeId}{zv:Value}{n bt r b:Nat}{m:List (κ×Value)}{k:κ}{ok:Bool}{K:Value->AH->Prop}(hm:zu enc tag I r b m)(hs:Sep ro I)(ht:P.underlying t=some (.map kt et))(hk:akA P kt enc)(hz:qo P et zv n bt)
  (hK:K (if ok then .tuple #[(qy m k).getD zv,.bool (qy m k).isSome]else(qy m k).getD zv) I):awp P ro (Instr.lookup t (.map (some b)) (enc k) ok) K I:=by
 obtain⟨es,clock,hb,he,hbn⟩:=hm.obj
 unfold Instr.lookup
 simp only[qx]
 rw[qz ht]
 simp only[bind_assoc']
 refine⟨.map es clock,by unfold rd;rw[hs b _ hb];exact hb,rfl,?_⟩
 refine hk.check ?_
 refine hk.find he ?_
 rcases ah0 k m 0 with⟨a,_,_,f⟩ | ⟨j,v,hj,a,f,_⟩
 .rw[f]
  simp only[bind_assoc']
  rw[abI hz]
  rw[a]at hK
  exact hK
 .rw[f]
  rw[a]at hK
  exact hK
theorem zX{t kt et:TypeId}{zv:Value}{n bt r b:Nat}{m:List (κ×Value)}{k:κ}{K:Value->AH->Prop}(hm:zu enc tag I r b m)(hs:Sep ro I)(ht:P.underlying t=some (.map kt et))(hk:akA P kt enc)(hz:qo P et zv n bt)
  (hK:K ((qy m k).getD zv) I):awp P ro (Instr.lookup t (.map (some b)) (enc k) false) K I:=anP hm hs ht hk hz hK
theorem abh{t kt et:TypeId}{r b:Nat}{m:List (κ×Value)}{k:κ}{v:Value}{K:Unit->AH->Prop}(hm:zu enc tag I r b m)(hs:Sep ro I)(ht:P.underlying t=some (.map kt et))(hk:akA P kt enc)
  (hK:∀ I',qd [r] ro tag I tag I'->zu enc tag I' r b (wR m k v)->K () I'):awp P ro (Instr.mapUpdate t (.map (some b)) (enc k) v) K I:=by
 obtain⟨es,clock,hb,he,hbn⟩:=hm.obj
 have hsz:es.toList.length=m.length:=by have:=mh List.length he;simpa using this
 unfold Instr.mapUpdate
 simp only[qx]
 rw[qz ht]
 refine⟨.map es clock,by unfold rd;rw[hs b _ hb];exact hb,rfl,?_⟩
 refine hk.check ?_
 refine hk.find he ?_
 rcases ah0 k m 0 with⟨a,_,d,f⟩ | ⟨j,u,hj,a,f,g,q,_⟩
 .rw[f]
  refine⟨.map es clock,hb,rfl,?_⟩
  refine hK _ (kF hs hm.tg hb) ⟨hm.tg,_,_,qC _ _ _,?_,?_,?_⟩
  .rw[d v,Array.toList_push,mB,mB,he];try rfl
  .intro e he'
   rw[Array.toList_push]at he'
   rcases mt.1 he' with h | h
   .have:=hbn.lt e h;omega
   .rw[mo]at h;rw[h];exact Nat.lt_succ_self _
  .rw[Array.toList_push,mB,List.nodup_append]
   refine⟨hbn.nd,z8,?_⟩
   intro x hx y hy
   obtain⟨e,he',rfl⟩:=mC.1 hx
   have:=hbn.lt e he'
   simp at hy;omega
 .rw[f]
  have hjl:j<es.toList.length:=by omega
  have hje:j<es.size:=by simpa using hjl
  have hkey:es[j].key=enc k:=by
   have h1:(es.toList.map uM)[j]?=(m.map (aeH enc))[j]?:=by rw[he]
   rw[mg,mg,g,md hjl]at h1
   have:=mA h1
   exact mh Prod.fst this
  have hst:(((es[0+j]?).map (·.key)).getD (enc k))=enc k:=by
   rw[ml,Array.getElem?_eq_getElem hje]
   exact hkey
  simp only
  rw[hst,hk.stays k]
  refine⟨.map es clock,hb,rfl,?_⟩
  have hml:(es.modify (0+j) fun e=>{e with key:=enc k,val:=v}).toList=es.toList.modify j fun e=>{e with key:=enc k,val:=v}:=by
   rw[ml];exact Array.toList_modify ..
  refine hK _ (kF hs hm.tg hb) ⟨hm.tg,_,_,qC _ _ _,?_,?_,?_⟩
  .rw[hml,q v]
   apply nA
   intro i
   rw[mg,mg,List.getElem?_modify,nH]
   have hi:(es.toList.map uM)[i]?=(m.map (aeH enc))[i]?:=by rw[he]
   rw[mg,mg]at hi
   by_cases c:j=i
   .subst c
    rw[mc rfl,mc hj,md hjl]
    simp[uM,aeH]
   .rw[ma c]
    simp only[c,if_false]
    cases h:es.toList[i]? with
    | none=>rw[h]at hi;simpa using hi
    | some e=>rw[h]at hi;simpa using hi
  .intro e he'
   rw[hml]at he'
   obtain⟨i,hi,rfl⟩:=mZ he'
   rw[List.getElem_modify]
   rw[List.length_modify]at hi
   split
   .have:=hbn.lt _ (mG hi)
    exact this
   .have:=hbn.lt _ (mG hi)
    exact this
  .rw[hml]
   have:(es.toList.modify j fun e=>{e with key:=enc k,val:=v}).map (·.born)=es.toList.map (·.born):=by
    apply nA
    intro i
    rw[mg,mg,List.getElem?_modify]
    by_cases c:j=i
    .subst c;rw[md hjl];simp
    .simp[c]
   rw[this];exact hbn.nd
theorem ag3{t u kt et ty:TypeId}{r b:Nat}{m:List (κ×Value)}{k:κ}{K:Value->AH->Prop}(hm:zu enc tag I r b m)(hs:Sep ro I)(ht:P.underlying t=some (.map kt et))(hk:akA P kt enc)
  (hK:∀ I',qd [r] ro tag I tag I'->zu enc tag I' r b (ji m k)->K (.tuple #[]) I'):awp P ro (Builtin.delete_ #[t,u] ty #[.map (some b),enc k]) K I:=by
 obtain⟨es,clock,hb,he,hbn⟩:=hm.obj
 have hsz:es.toList.length=m.length:=by have:=mh List.length he;simpa using this
 unfold Builtin.delete_
 simp only[qx]
 show awp P ro (Sem.bind (underlying t) _) K I
 rw[qz ht]
 show awp P ro (Sem.bind (getObj b) _) K I
 refine⟨.map es clock,by unfold rd;rw[hs b _ hb];exact hb,rfl,?_⟩
 refine hk.check ?_
 refine hk.find he ?_
 rcases ah0 k m 0 with⟨a,d,_,f⟩ | ⟨j,u,hj,a,f,g,_,w⟩
 .rw[f]
  refine⟨.map es clock,hb,rfl,?_⟩
  refine hK _ (kF hs hm.tg hb) ⟨hm.tg,_,_,qC _ _ _,?_,hbn⟩
  rw[d];exact he
 .rw[f]
  refine⟨.map es clock,hb,rfl,?_⟩
  have hjl:j<es.toList.length:=by omega
  have hje:j<es.size:=by simpa using hjl
  have hel:(es.eraseIdxIfInBounds (0+j)).toList=es.toList.eraseIdx j:=by
   rw[ml]
   simp[Array.eraseIdxIfInBounds,hje]
  refine hK _ (kF hs hm.tg hb) ⟨hm.tg,_,_,qC _ _ _,?_,?_,?_⟩
  .rw[hel,w,map_eraseIdx',map_eraseIdx',he]
  .intro e he'
   rw[hel]at he'
   exact hbn.lt e ((List.eraseIdx_sublist ..).subset he')
  .rw[hel]
   exact List.Nodup.sublist ((List.eraseIdx_sublist ..).map _) hbn.nd
where
 map_eraseIdx' {α β:Type} {f:α->β}:∀ {l:List α} {j:Nat},(l.eraseIdx j).map f=(l.map f).eraseIdx j:=fun{l} {j}=>by
  induction l generalizing j with
  | nil=>simp
  | cons x l ih=>cases j<;>simp[ih]
theorem ahn(enc:κ->Value)(r:Nat){K:Nat->AH->Prop}(hs:Sep ro I)(hK:∀ b tag' I',(∀R,qd R ro tag I tag' I')->zu enc tag' I' r b []->K b I'):nw ro I (.map #[] 0) K:=by
 intro b hro hb
 exact hK b (setTag tag b r) _ (fun R=>qd.fresh hs hro hb) ⟨by simp[setTag],_,_,qC _ _ _,rfl,z8,z8⟩
theorem akB{t kt et ty:TypeId}{r b:Nat}{m:List (κ×Value)}{K:Value->AH->Prop}(hm:zu enc tag I r b m)(hs:Sep ro I)(ht:P.underlying t=some (.map kt et))(hK:K (.int .i64 (m.length:Nat)) I):awp P ro (Builtin.len_ #[t] ty #[.map (some b)]) K I:=by
 obtain⟨es,clock,hb,he,hbn⟩:=hm.obj
 unfold Builtin.len_
 simp only[qx]
 show awp P ro (Sem.bind (underlying t) _) K I
 rw[qz ht]
 refine⟨.map es clock,by unfold rd;rw[hs b _ hb];exact hb,rfl,?_⟩
 have hsz:es.size=m.length:=by have:=mh List.length he;simpa using this
 show K (.int .i64 (es.size:Nat)) I
 rw[hsz];exact hK
theorem zu.outR{L:List Nat}{r b:Nat}{m:List (κ×Value)}(h:zu enc tag I r b m)(hr:r∉L):zu enc tag (SL.vg tag L I) r b m:=by
 obtain⟨es,clock,hb,x⟩:=h.obj
 exact⟨h.tg,es,clock,by unfold SL.vg;rw[ma (by rw[h.tg];exact hr)];exact hb,x⟩
theorem aho{t kt et:TypeId}{r M:Nat}{m:List (κ×Value)}{K:Value->AH->Prop}(ht:P.underlying t=some (.map kt et))(hm:zu enc tag I r M m)(hs:Sep ro I)
  (hK:∀ (es:Array MapEntry) (clock x:Nat),I M=some (.map es clock)->es.toList.map uM=m.map (aeH enc)->alM es clock->ro x=none->I x=none->K (.pointer (some ⟨x,0,none⟩)) (upd I x (.mapIter (some M) clock #[] clock))):
  awp P ro (Instr.range t (.map (some M))) K I:=by
 obtain⟨es,clock,hb,he,hbn⟩:=hm.obj
 unfold Instr.range
 simp only[qx]
 rw[qz ht]
 refine⟨.map es clock,by unfold rd;rw[hs M _ hb];exact hb,rfl,?_⟩
 intro x hro hx
 exact hK es clock x hb he hbn hro hx
theorem amC{T:Type}{F:Addr->T->AH->(T->AH->Prop)->Prop}{t kt et ty:TypeId}{r M:Nat}{m:List (κ×Value)}{R:List Nat}{s0:T}(ht:P.underlying t=some (.map kt et))(hm:zu enc tag I r M m)(hs:Sep ro I)(hR:r∉R)(h0:0∉R)(hr0:r≠0)
  (J:List (κ×Value)->T->(Nat->Nat)->AH->Prop) (h:∀ tag' I',(∀R,qd R ro tag I tag' I')->J [] s0 tag' I')
  (hround:∀ (x:Addr) d rest s tag I (Y:T->AH->Prop),(d++rest).Perm m->SL.Sep ro I->J d s tag I->
   (∀K:Value->AH->Prop,(rest=[]->K (.tuple #[.bool false]) I)->
    (∀p q a b tag' I',(d++p::q).Perm m->qd [0] ro tag I tag' I'->zu enc tag' I' r M m->
     (∀K':Value->AH->Prop,K' (.tuple #[enc p.1,p.2]) I'->awp P ro (Instr.entry (.pointer (some x))) K' I')->
     (∀s' tag2 I2,qd R ro tag' I' tag2 I2->J (d++[p]) s' tag2 I2->Y s' I2)->K (.tuple #[.bool true,a,b]) I')->
    awp P ro (Instr.next (.pointer (some x)) false ty) K I)->F x s I Y):
  awp P ro (Instr.range t (.map (some M))) (fun v I=> ∃p:Addr,v= .pointer (some p)/\lfpD (F p) s0 I) I:=by
 refine aho ht hm hs fun es clock x hM hes hbn hro hx=>?_
 refine⟨_,rfl,?_⟩
 have hxM:x≠M:=fun e=>by rw[e,hM]at hx;cases hx
 have zips:∀ {l:List MapEntry} {m:List (κ×Value)},l.map uM=m.map (aeH enc)->∃ z:List (MapEntry×(κ×Value)),z.map Prod.fst=l/\z.map Prod.snd=m/\∀ y∈z,uM y.1=aeH enc y.2:=by
  intro l
  induction l with
  | nil=>intro m h;cases m with
   | nil=>exact⟨[],rfl,rfl,fun y h=>by cases h⟩
   | cons p m=>cases h
  | cons e l ih=>
   intro m h
   cases m with
   | nil=>cases h
   | cons p m=>
    simp only[mF,List.cons.injEq]at h
    obtain⟨z,z1,z2,z3⟩:=ih h.2
    refine⟨(e,p)::z,by rw[mF,z1],by rw[mF,z2],fun y hy=>?_⟩
    rcases mq.1 hy with rfl | hy
    .exact h.1
    .exact z3 y hy
 obtain⟨z,z1,z2,z3⟩:=zips hes
 suffices∀(n:Nat) (D rest:List (MapEntry×(κ×Value))) (seen:Array Nat) (s:T) (tag1:Nat->Nat) (I1:AH),rest.length=n->(D++rest).Perm z->(∀e∈D,seen.contains e.1.born=true)->(∀e∈rest,seen.contains e.1.born=false)->
   SL.Sep ro I1->tag1 x=0->I1 x=some (.mapIter (some M) clock seen clock)->tag1 M=r->I1 M=some (.map es clock)->J (D.map Prod.snd) s tag1 I1->lfpD (F ⟨x,0,none⟩) s I1 from by
  have st1:∀ R,qd R ro tag I (setTag tag x 0) (upd I x (.mapIter (some M) clock #[] clock)):=fun R=>qd.fresh hs hro hx
  exact this z.length [] z #[] s0 _ _ rfl z8 (fun e h=>by cases h) (fun e _=>by simp) (st1 []).sep (by simp[setTag]) (qC _ _ _) (by simp[setTag,hxM.symm];exact hm.tg) (by rw[pJ _ _ hxM.symm];exact hM) (h _ _ st1)
 intro n
 induction n with
 | zero=>
  intro D rest seen s tag1 I1 hn hp hD hrest hs1 htx hit htm hmp hA
  obtain rfl:=List.length_eq_zero_iff.1 hn
  have hp':=hp.map Prod.snd
  rw[z2,mB]at hp'
  refine lfpD.intro (hround ⟨x,0,none⟩ _ _ s tag1 I1 _ hp' hs1 hA fun K hend hstep=>?_)
  refine ad4 hit hmp hs1 hbn (fun hall=>hend rfl) fun e he hne=>?_
  rw[ny]at hp
  rw[<-z1]at he
  obtain⟨y,hy,rfl⟩:=mC.1 he
  have:=hD y (hp.mem_iff.2 hy);rw[hne]at this;cases this
 | succ n ih=>
  intro D rest seen s tag1 I1 hn hp hD hrest hs1 htx hit htm hmp hA
  have hp':=hp.map Prod.snd
  rw[z2,mB]at hp'
  refine lfpD.intro (hround ⟨x,0,none⟩ _ _ s tag1 I1 _ hp' hs1 hA fun K hend hstep=>?_)
  refine ad4 hit hmp hs1 hbn (fun hall=>?_) fun e he hne=>?_
  .exfalso
   cases rest with
   | nil=>simp at hn
   | cons y rest=>
    have hyz:y∈z:=hp.mem_iff.1 z8
    have h1:=hall y.1 (by rw[<-z1];exact mC.2 ⟨y,hyz,rfl⟩)
    have h2:=hrest y z8
    rw[h1]at h2;cases h2
  .have st2:qd [0] ro tag1 I1 tag1 (upd I1 x (.mapIter (some M) clock (seen.push e.born) clock)):=kF hs1 htx hit
   have hmp2:upd I1 x (.mapIter (some M) clock (seen.push e.born) clock) M=some (.map es clock):=by rw[pJ _ _ hxM.symm];exact hmp
   have he':=he
   rw[<-z1]at he'
   obtain⟨y,hyz,hye⟩:=mC.1 he'
   have hin:y∈rest:=by
    rcases mt.1 (hp.mem_iff.2 hyz)with h | h
    .have:=hD y h;rw[hye,hne]at this;cases this
    .exact h
   obtain⟨a,b,rfl⟩:=List.append_of_mem hin
   have hp2:(D++y::(a++b)).Perm z:=(List.Perm.append_left D List.perm_middle.symm).trans hp
   have hy3:=z3 y hyz
   rw[hye]at hy3
   have hk1:e.key=enc y.2.1:=mh Prod.fst hy3
   have hv1:e.val=y.2.2:=mh Prod.snd hy3
   have hnd:((D++y::(a++b)).map (·.1.born)).Nodup:=by
    have h1:(D++y::(a++b)).map (·.1.born)=((D++y::(a++b)).map Prod.fst).map (·.born):=by rw[nP];try rfl
    rw[h1]
    have h2:=hp2.map Prod.fst
    rw[z1]at h2
    exact(h2.map _).nodup_iff.2 hbn.nd
   refine hstep y.2 ((a++b).map Prod.snd) _ _ tag1 _ ?_ st2 ⟨htm,es,clock,hmp2,hes,hbn⟩ (fun K' hK'=>?_) fun s' tag2 I2 st3 hJ2=>?_
   .have:=hp2.map Prod.snd
    rw[z2]at this
    simpa using this
   .refine aiG (qC _ _ _) hmp2 st2.sep hbn he ?_
    rw[hk1,hv1];exact hK'
   .have e1:=st3.keep x _ (qC _ _ _) (by rw[htx];exact h0)
    have e2:=st3.keep M _ hmp2 (by rw[htm];exact hR)
    refine ih (D++[y]) (a++b) (seen.push e.born) s' tag2 I2 (by simp at hn ⊢;omega) (j2 hp2) (fun w hw=>?_) (fun w hw=>?_) st3.sep (e1.1.trans htx) e1.2 (e2.1.trans htm) e2.2 (j2 hJ2)
    .rcases mt.1 hw with h | h
     .have:=hD w h;simp at this ⊢;exact .inl this
     .rw[mo.1 h,hye];simp
    .have h1:seen.contains w.1.born=false:=hrest w (by simp at hw ⊢;rcases hw with h | h<;>simp[h])
     have h2:w.1.born≠e.born:=by
      rw[mB,mF,List.nodup_append]at hnd
      have:=(nl.1 hnd.2.1).1
      intro hh
      exact this (by rw[hye,<-hh];exact mC.2 ⟨w,hw,rfl⟩)
     rw[<-nM]at h1⊢
     simp at h1⊢
     exact⟨h1,h2⟩