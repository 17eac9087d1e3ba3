import Derived.Test.YtomdigihapdhnaaGreatDoorXQ
set_option linter.all false
set_option maxRecDepth 99999
set_option maxHeartbeats 0
open Go.IntKind(i64)
namespace Go.Proofs.YtomdigihapdhnaaGreatDoor
namespace Zt
open Go SL G Pa Wi
variable{B:World}{ro I I':AH}{tag tag':Nat->Nat}
variable{Q:Int->AH->Prop}{m:jl}
theorem aol{s:ByteArray}{Q:ByteArray->Int->AH->Prop}(g:wW ro)(hQ:∀ tag' I',(∀R,qd R ro tag I tag' I')->Q (S ((qu (L s)).getD [])) (if parts (L s)=none then 20 else 0) I')(hs:SL.Sep ro I):po B ro s I Q:=by
 cases hp:parts (L s)with
 | some ps=>
  have h7:∀ tag1 I1,(∀R,qd R ro T7 I tag1 I1)->Q (S ((qu (L s)).getD [])) 0 I1:=fun tag1 I1 st=>by
   have:=hQ (aqn I tag tag1) I1 (((st []).s (C:=[]) z8).mix z8 tag)
   rw[hp]at this
   exact this
  refine al6 (tag:=T7) g hp fun tag' I' st=>h7 tag' I' fun R=>⟨fun b o hb hn=>⟨((st.keep b o hb z8)).1,(st.keep b o hb z8).2⟩,st.old,st.sep⟩
 | none=>
  refine af3 fun hs=>?_
  unfold acI
  refine aid (tag:=tag) 0 g hs (fun h tag1 I1 st1=>?_) fun ps' h=>by rw[hp]at h;cases h
  rw[mc (by rfl)]
  have:=hQ tag1 I1 fun R=>⟨fun b o hb hn=>st1.keep b o hb z8,st1.old,st1.sep⟩
  unfold qu at this
  rw[hp]at this
  exact this
section
variable{T M:Nat}{bs:List Nat}{h:Hub}{k:Str×Int}
theorem arR(g:wW ro)(hQ:∀ tag' I',(∀R,qd R ro tag I tag' I')->Q (ad9 k m) I'):afc B ro (S k.1) k.2 (S m.1) m.2 I Q:=by
 refine amj fun hs=>?_
 unfold afu
 refine qh (tag:=tag) 0 hs fun X tag1 I1 st1 r1=>?_
 refine qh (tag:=tag1) 0 (st1 []).sep fun Y tag2 I2 st2 r2=>?_
 have hs2:=(st2 []).sep
 refine⟨S m.1,(r2.read hs2).2.2 _ rfl 0 _ rfl,?_⟩
 refine aol (tag:=tag2) g (fun tag3 I3 st3=>?_) hs2
 rw[L_S]
 have hs3:=(st3 []).sep
 have k3:∀ R,qd R ro tag I tag3 I3:=fun R=>(st1 R).trans ((st2 R).trans (st3 R))
 have g1:=(((r1.keep (st2 [])).keep (st3 [])).read hs3).2.2 _ rfl
 have g2:=((r2.keep (st3 [])).read hs3).2.2 _ rfl
 refine⟨m.2,g2 1 _ rfl,?_⟩
 have hq:=hQ tag3 I3 k3
 unfold ad9 at hq
 have j14:∀ c:Bool,(if(m.2≠1/\m.2≠2)then(160:Int)else if parts m.1=none then 20 else if(qu m.1).getD []≠k.1\/qP k.1=false\/k.2<1\/4611686018427387903<k.2 then 82 else 0)=(if c=true then 82 else 0)->yM B ro Q c I3:=fun c e=>by
  rw[e]at hq
  unfold yM
  cases c
  .rw[ma z8]at hq ⊢;exact hq
  .rw[mc rfl]at hq ⊢;exact hq
 have rest:(m.2=1\/m.2=2)->yb B ro X (S ((qu m.1).getD [])) (if parts m.1=none then 20 else 0) Q false I3:=fun hm=>by
  have hm':¬ (m.2≠1/\m.2≠2):=by omega
  unfold yb
  rw[ma z8]
  by_cases c1:parts m.1=none
  .rw[mc c1,mc y0]
   rw[ma hm',mc c1]at hq
   exact hq
  rw[ma c1,ma z8]
  refine⟨S k.1,g1 0 _ rfl,?_⟩
  by_cases c2:(qu m.1).getD []=k.1
  .rw[ma (by rw[c2];simp)]
   refine⟨S k.1,g1 0 _ rfl,?_⟩
   refine afM ?_
   rw[L_S]
   unfold yN
   cases c3:qP k.1 with
   | false=>
    rw[mc z8]
    unfold jm
    rw[mc rfl]
    exact j14 true (by rw[ma hm',ma c1,mc (.inr (.inl c3)),mc rfl])
   | true=>
    rw[ma z8]
    refine⟨k.2,g1 1 _ rfl,?_⟩
    unfold jm
    by_cases c4:k.2<1
    .rw[mc (j2 c4)]
     exact j14 true (by rw[ma hm',ma c1,mc (.inr (.inr (.inl c4))),mc rfl])
    rw[ma (j2 c4)]
    refine⟨k.2,g1 1 _ rfl,?_⟩
    refine j14 _ ?_
    rw[ma hm',ma c1]
    by_cases c5:4611686018427387903<k.2
    .rw[mc (.inr (.inr (.inr c5))),mc (j2 c5)]
    .rw[ma (by simp only[not_or];exact⟨j2 c2,by simp[c3],c4,c5⟩),ma (j2 c5)]
  .rw[mc (fun e=>c2 (ab6.1 e))]
   unfold yN
   rw[mc rfl]
   unfold jm
   rw[mc rfl]
   exact j14 true (by rw[ma hm',ma c1,mc (.inl c2),mc rfl])
 by_cases d1:m.2=1
 .rw[ma (j2 d1)]
  exact rest (.inl d1)
 .rw[mc d1]
  refine⟨m.2,g2 1 _ rfl,?_⟩
  by_cases d2:m.2=2
  .rw[show(!decide (m.2=2))=false by simp[d2]]
   exact rest (.inr d2)
  .rw[show(!decide (m.2=2))=true by simp[d2]]
   unfold yb
   rw[mc rfl]
   rw[mc ⟨d1,d2⟩]at hq
   exact hq
abbrev CD:List Nat:=[0,59,60,61,62]
theorem auE{b0:Nat}(g:wW ro)(hi:wY tag I T M bs h)(hok:kX b0 h)(hQ:∀ bs' tag' I',StepS CD ro tag I tag' I'->wY tag' I' T M bs' (un h k m).1->Q (un h k m).2 I'):uz B ro (some ⟨T,0,none⟩) (S k.1) k.2 m.2 (S m.1) I Q:=by
 refine akL fun hs=>?_
 unfold aeg
 refine qh (tag:=tag) 36 hs fun X tag1 I1 st1 r1=>?_
 refine kq (tag:=tag1) 37 (st1 []).sep rfl (by simp[qf]) fun Y tag2 I2 st2 r2=>?_
 have hs2:=(st2 []).sep
 have r12:=r1.keep (st2 [])
 refine⟨S k.1,k.2,qr (r12.read hs2) rfl,S m.1,m.2,qr (r2.read hs2) rfl,?_⟩
 refine arR (tag:=tag2) g fun tag3 I3 st3=>?_
 have hs3:=(st3 []).sep
 have k3:∀ R,qd R ro tag I tag3 I3:=fun R=>(st1 R).trans ((st2 R).trans (st3 R))
 have h3:=hi.fresh k3
 have x3:=r12.keep (st3 [])
 have y3:=r2.keep (st3 [])
 unfold un at hQ
 by_cases c0:ad9 k m=0
 .rw[ma (j2 c0)]at hQ⊢
  refine⟨_,rfl,some M,h3.cell.cell1 hs3,S k.1,k.2,qr (x3.read hs3) rfl,?_⟩
  refine zX (k:=k) h3.map.map hs3 ae2 (aec aiw) aoj ?_
  have key:∀ (D mm:Nat) (s:Sl) (tag4:Nat->Nat) (I4:AH),StepS CD ro tag I tag4 I4->wY tag4 I4 T M bs h->Row tag4 I4 36 81 ⟨some ⟨X,0,none⟩,2,2⟩ (kV k)->Row tag4 I4 37 314 ⟨some ⟨Y,0,none⟩,2,2⟩ [.string (S m.1),.int .i64 m.2]->
    Row tag4 I4 (rD D) 310 ⟨some ⟨D,0,none⟩,4,4⟩ [Sl.v s,vI (vD h k).acked,vI (vD h k).last,.map (some mm)]->qm tag4 I4 (rE D) 132 3 s ((vD h k).events.map evV)->zu kSI tag4 I4 (rM D) mm (mk1 (vD h k).marks)->
    (∀tag5 I5 d',qd [rM D] ro tag4 I4 tag5 I5->yx tag5 I5 D k d'->∀ tag6 I6,qd [126] ro tag5 I5 tag6 I6->zu kSI tag6 I6 126 M (wR (kvP h bs) k (afj D))->∃ bs',wY tag6 I6 T M bs' (wR h k d'))->
    jx B ro (some ⟨T,0,none⟩) X Y Q (some ⟨D,0,none⟩) I4:=by
   intro D mm s tag4 I4 s4 h4 x4 y4 row ev mk fin
   have hs4:=s4.sep
   unfold jx
   have gr:=(row.read hs4).2.2 _ rfl
   refine pi tag4 [rD D] ?_
   have hsA:SL.Sep (join ro (SL.inR tag4 [rD D] I4)) (SL.vg tag4 [rD D] I4):=hs4.lentR
   have mkA:=mk.outR (L:=[rD D]) (by simp[rD,rM,rE]<;>omega)
   refine⟨_,rfl,some mm,row.lendR hs4 z8 rfl (i:=3) rfl,S m.1,m.2,?_,?_⟩
   .exact zt 0 fun i v hv=>by rw[akm hs4,ml];exact aoh (qr (y4.read hs4) rfl) hv
   refine zX (k:=m) mkA hsA ajF (aec aly) aqp ?_
   rw[aoi]
   have room:=(vD h k).events
   have tail:∀ full:Bool,(full=true↔m∉(vD h k).marks/\32<=(vD h k).marks.length+(vD h k).events.length)->jw B ro (some ⟨T,0,none⟩) X Y (some ⟨D,0,none⟩) Q full I4:=fun full hf=>by
    unfold jw
    by_cases c1:full=true
    .rw[mc c1]
     rw[mc (hf.1 c1)]at hQ
     exact hQ bs tag4 I4 s4 h4
    rw[ma c1]
    rw[ma (fun e=>c1 (hf.2 e))]at hQ
    refine⟨_,rfl,some mm,gr 3 _ rfl,S m.1,m.2,qr (y4.read hs4) rfl,?_⟩
    refine abh (k:=m) mk hs4 ajF (aec aly) fun I5 st5 m5=>?_
    rw[auz]at m5
    have h5:wY tag4 I5 T M bs h->True:=fun _=>trivial
    refine⟨_,rfl,some M,(h4.cell.keep st5 (by simp[rD,rM,rE]<;>omega)).cell1 st5.sep,S k.1,k.2,qr ((x4.keep st5 (by simp[rD,rM,rE]<;>omega)).read st5.sep) rfl,?_⟩
    refine abh (k:=k) (h4.map.map.keep st5 (by simp[rD,rM,rE]<;>omega)) st5.sep ae2 (aec aiw) fun I6 st6 m6=>?_
    obtain⟨bs',h6⟩:=fin tag4 I5 (asT (vD h k) m) st5 ⟨mm,s,row.keep st5 (by simp[rD,rM,rE]<;>omega),ev.keep st5 (by simp[rD,rM,rE]<;>omega),m5⟩ tag4 I6 st6 m6
    exact hQ bs' tag4 I6 (s4.trans ((st5.s (by simp[rD,rM,rE]<;>omega)).trans (st6.s z8))) h6
   by_cases c2:m∈(vD h k).marks
   .rw[mc c2]
    refine⟨1,rfl,?_⟩
    rw[ma y0]
    intro hd
    rw[ajX]
    exact tail false ⟨(fun e=>by cases e),fun e=>mu c2 e.1⟩
   .rw[ma c2]
    refine⟨0,rfl,?_⟩
    rw[mc rfl]
    refine⟨_,rfl,_,rfl,s,row.lendR hs4 z8 rfl (i:=0) rfl,some mm,row.lendR hs4 z8 rfl (i:=3) rfl,?_⟩
    refine akB mkA hsA ajF ?_
    refine⟨_,rfl,fun hd=>?_⟩
    rw[ajX]
    have e1:(mk1 (vD h k).marks).length=(vD h k).marks.length:=by simp
    have e2:s.len=(vD h k).events.length:=by rw[ev.len,mi]
    have hroom:(vD h k).events.length+(vD h k).marks.length<=32:=by
     unfold vD
     cases e:qy h k with
     | none=>simp
     | some d=>exact(hok.ok _ (yr e)).room
    rw[e1,e2,SL.wd z7 z7]
    refine tail _ ?_
    rw[me]
    exact⟨fun e=>⟨c2,z7⟩,fun e=>by have:=e.2;omega⟩
  rcases h3.map.look k with⟨a1,a2⟩ | ⟨i,b,d,hb,hp,a3,a4,mm,s,row,ev,mk⟩
  .rw[a2]
   refine⟨none,rfl,?_⟩
   rw[mc rfl]
   have ed:vD h k=⟨[],0,0,[]⟩:=by unfold vD;rw[a1];try rfl
   intro mm hrom hm D hroD hD
   have hDm:D≠mm:=fun e=>by rw[e,qC]at hD;cases hD
   have hD0:I3 D=none:=by rw[pJ _ _ hDm]at hD;exact hD
   have n1:∀ R,qd R ro tag3 I3 (setTag tag3 mm (rM D)) (upd I3 mm (.map #[] 0)):=fun R=>qd.fresh hs3 hrom hm
   have m1:zu kSI (setTag tag3 mm (rM D)) (upd I3 mm (.map #[] 0)) (rM D) mm []:=⟨by simp[setTag],_,_,qC _ _ _,rfl,z8,z8⟩
   have n2:∀ R,qd R ro (setTag tag3 mm (rM D)) (upd I3 mm (.map #[] 0)) (setTag (setTag tag3 mm (rM D)) D (rD D)) (upd (upd I3 mm (.map #[] 0)) D (.cells #[Sl.v ⟨none,0,0⟩,.int .i64 0,.int .i64 0,.map (some mm)] 310)):=fun R=>qd.fresh (n1 []).sep hroD hD
   have rw2:Row (setTag (setTag tag3 mm (rM D)) D (rD D)) (upd (upd I3 mm (.map #[] 0)) D (.cells #[Sl.v ⟨none,0,0⟩,.int .i64 0,.int .i64 0,.map (some mm)] 310)) (rD D) 310 ⟨some ⟨D,0,none⟩,4,4⟩ [Sl.v ⟨none,0,0⟩,vI 0,vI 0,.map (some mm)]:=
    .inr ⟨D,_,rfl,by simp[setTag],qC _ _ _,z8,rfl,mK _,fun i hi=>by simp⟩
   generalize (setTag (setTag tag3 mm (rM D)) D (rD D))=tag4 at n2 rw2⊢
   generalize (upd (upd I3 mm (.map #[] 0)) D (.cells #[Sl.v ⟨none,0,0⟩,.int .i64 0,.int .i64 0,.map (some mm)] 310))=I4 at n2 rw2⊢
   have k4:∀ R,qd R ro tag3 I3 tag4 I4:=fun R=>(n1 R).trans (n2 R)
   have h4:=h3.fresh k4
   have hnb:D∉bs:=fun hm'=>by
    obtain⟨i,hi',e⟩:=mZ hm'
    obtain⟨o,ho⟩:=(h3.map.at' i D _ _ (by rw[md hi',e]) (md (by rw[<-h3.map.len];exact hi'))).own
    rw[hD0]at ho;cases ho
   refine key D mm ⟨none,0,0⟩ tag4 I4 (qq fun R=>(k3 R).trans (k4 R)) h4 (x3.keep (k4 [])) (y3.keep (k4 [])) (by rw[ed];exact rw2) (by rw[ed];exact qm.nil _ _ _) (by rw[ed];exact m1.keep (n2 [])) fun tag5 I5 d' st5 hd5 tag6 I6 st6 m6=>?_
   have hR:agp D [rM D]:=by
    refine⟨by simp[rD,rM,rE]<;>omega,by simp[rD,rM,rE]<;>omega,fun x hx e=>?_,fun x hx e=>mo.1 hx,fun x hx e=>?_⟩
    .rw[mo.1 hx]at e;unfold rM at e;omega
    .rw[mo.1 hx]at e;unfold rM at e;omega
   exact⟨bs++[D],h4.new a1 st5 hR hnb hd5 st6 m6⟩
  .rw[a4]
   refine⟨some ⟨b,0,none⟩,rfl,?_⟩
   rw[ma z8]
   have ed:vD h k=d:=by unfold vD;rw[a3];try rfl
   refine key b mm s tag3 I3 (qq k3) h3 x3 y3 (by rw[ed];exact row) (by rw[ed];exact ev) (by rw[ed];exact mk) fun tag5 I5 d' st5 hd5 tag6 I6 st6 m6=>?_
   have hR:agp b [rM b]:=by
    refine⟨by simp[rD,rM,rE]<;>omega,by simp[rD,rM,rE]<;>omega,fun x hx e=>?_,fun x hx e=>mo.1 hx,fun x hx e=>?_⟩
    .rw[mo.1 hx]at e;unfold rM at e;omega
    .rw[mo.1 hx]at e;unfold rM at e;omega
   have h5:=h3.old st5 hR hb hp hd5
   rw[ajx a4]at m6
   exact⟨bs,h5.cell.keep st6,h5.map.mono (by
    have e:kvP (wR h k d') bs=kvP h bs:=by rw[agb d' h3.map.keys hp,alX _ _ _ _ _ _ hp]
    rw[e];exact m6) fun j c k' y _ _ hy=>hy.keepS (st6.s (C:=[62]) z8)⟩
 .rw[mc (j2 c0)]at hQ⊢
  exact hQ bs tag3 I3 (qq k3) h3
end
end Zt
namespace Zt
open Go SL Pa Wi
structure ajG(c:zD):Prop where
 home:c.home.length<=1048576
 path:c.path.length<=1048576
 ops:∀ o∈c.ops,o.path.length<=1048576/\o.data.length<=1048576
end Zt
namespace Zt
open Go SL G Pa Wi
variable{B:World}{ro I I':AH}{tag tag':Nat->Nat}
structure agq(tag:Nat->Nat)(I:AH)(q m:Nat)(os ms:Sl)(c:zD):Prop where
 ops:abC tag I q os c.ops
 mem:Row tag I m 3 ms (c.members.map vI)
def zD.zero:zD:=⟨0,[],0,0,0,0,0,0,[],[],false,0,[]⟩
end Zt
namespace Zt
open Go SL Pa
variable{owner qb qn v:Int}{ws:List Int}{o:MOp}{b:Nat}{n:Nd}{a st:St}{d h home k p q u:Str}
def Loc(h:Str)(a b:St):Prop:= ∀k,qu k=some h->a.lookup k=b.lookup k
def Out(h:Str)(a a':St):Prop:= ∀k,qu k≠some h->a'.lookup k=a.lookup k
theorem akO(h:qv q=some u):∃ qs,parts q=some qs/\qs≠[]/\parts u=some qs.dropLast:=by
 unfold qv at h
 cases hq:parts q with
 | none=>rw[hq]at h;cases h
 | some qs=>
  rw[hq]at h
  simp only at h
  split at h
  .cases h
  .rename_i hne
   cases h
   exact⟨qs,rfl,hne,qW.2 ⟨rfl,(qW.1 hq).2.up⟩⟩
theorem arS(hp:qv q=some u)(hu:qu u=some h):qu q=some h:=by
 obtain⟨qs,h1,h2,h3⟩:=akO hp
 rw[pR h3]at hu
 rw[pR h1]
 match qs,h2 with
 | [x],_=>simp at hu
 | x::y::r,_=>simpa using hu
theorem auF{qs:List Str}(hq:parts q=some qs)(hh:qs.head?=some h)(hl:qs.length≠1)(hp:qv q=some u):qu u=some h:=by
 obtain⟨qs',h1,h2,h3⟩:=akO hp
 rw[hq]at h1;cases h1
 rw[pR h3]
 match qs,h2 with
 | [x],_=>simp at hl
 | x::y::r,_=>simpa using hh
theorem ahE(hk:qu k≠some h)(hp:qu p=some h):k≠p:=fun e=>hk (by rw[e];exact hp)
theorem alz{o:Int}{seq:Bool}(hu:∀ u,qv p=some u->qu u=some h):Out h a (wo a p d o seq).1:=by
 have R:Out h a a:=fun _ _=>rfl
 unfold wo
 cases hp:qv p with
 | none=>exact R
 | some u=>
  have hhu:=hu u hp
  simp only
  split
  .exact R
  .split
   .exact R
   .cases hn:a.lookup u with
    | none=>exact R
    | some n=>
     simp only
     split
     .exact R
     .split
      .exact R
      .cases hq:(if seq then pP p n.ctr else some p)with
       | none=>exact R
       | some q=>
        simp only
        have hpq:qv q=some u:=by
         cases seq with
         | true=>simp at hq;obtain⟨_,_,e⟩:=acX hq;rw[e,hp]
         | false=>simp at hq;rw[<-hq,hp]
        have hhq:=arS hpq hhu
        split
        .exact R
        .intro k hk
         rw[zx,ma (ahE hk hhu),aaT]
         cases a.lookup k with
         | some m=>rfl
         | none=>simp only;rw[ma (ahE hk hhq)]
theorem aqw(hka:(a.map (·.1)).Nodup)(hp:qu p=some h)(hu:∀ u,qv p=some u->qu u=some h):Out h a (wq a p v).1:=by
 have R:Out h a a:=fun _ _=>rfl
 unfold wq
 split
 .exact R
 .cases hn:a.lookup p with
  | none=>exact R
  | some n=>
   simp only
   split
   .exact R
   .split
    .exact R
    .cases hpp:qv p with
     | none=>exact R
     | some u=>
      simp only
      intro k hk
      rw[yh (by rw[xA];exact hka),ma (ahE hk hp),zx,ma (ahE hk (hu u hpp))]
theorem atg(hp:qu p=some h):Out h a (xd a p d v).1:=by
 have R:Out h a a:=fun _ _=>rfl
 unfold xd
 split
 .exact R
 .split
  .exact R
  .cases hn:a.lookup p with
   | none=>exact R
   | some n=>
    simp only
    split
    .exact R
    .intro k hk
     rw[zx,ma (ahE hk hp)]
theorem ahe(h:zh home o=0):qu o.path=some home/\(o.kind<=2->∀ u,qv o.path=some u->qu u=some home):=by
 unfold zh at h
 split at h
 .cases h
 .cases hp:parts o.path with
  | none=>rw[hp]at h;cases h
  | some ps=>
   rw[hp]at h
   simp only at h
   split at h
   .cases h
   .rename_i hc
    simp only[not_or,nW,not_and]at hc
    refine⟨by rw[pR hp];exact hc.1,fun hk u hu=>auF hp hc.1 (fun e=>?_) hu⟩
    exact mu hk (by have:=hc.2 e;omega)
theorem ath(hw:zh home o=0)(hka:(a.map (·.1)).Nodup):Out home a (xu owner a o).1:=by
 obtain⟨h1,h2⟩:=ahe hw
 unfold xu
 split
 .exact alz (h2 z7)
 .split
  .exact aqw hka h1 (h2 z7)
  .split
   .exact atg h1
   .exact fun _ _=>rfl
theorem aom(h:(a.map (·.1)).Nodup):a.Nodup:=List.Pairwise.of_map (·.1) (fun a b h e=>h (by rw[e])) h
theorem aix(h:Str):∀ a:St,(a.map (uw h)).sum=((a.filter fun p=>decide (qu p.1=some h)).map (uw h)).sum
 | []=>rfl
 | p::r=>by
  have ih:=aix h r
  by_cases c:qu p.1=some h
  .rw[List.filter_cons_of_pos (j2 c)];simp[ih]
  .rw[List.filter_cons_of_neg (j2 c)]
   rw[mF,List.sum_cons,ih]
   unfold uw;rw[ma c];simp
theorem amV{b:St}(hka:(a.map (·.1)).Nodup)(hkb:(b.map (·.1)).Nodup)(L:Loc h a b):zz a h=zz b h:=by
 have hp:(a.filter fun p=>decide (qu p.1=some h)).Perm (b.filter fun p=>decide (qu p.1=some h)):=by
  refine(List.perm_ext_iff_of_nodup ((aom hka).filter _) ((aom hkb).filter _)).2 fun p=>?_
  obtain⟨k,n⟩:=p
  simp only[Lz,mP]
  constructor
  .rintro⟨h1,h2⟩
   exact⟨(qO hkb).1 (by rw[<-L k h2];exact(qO hka).2 h1),h2⟩
  .rintro⟨h1,h2⟩
   exact⟨(qO hka).1 (by rw[L k h2];exact(qO hkb).2 h1),h2⟩
 unfold zz
 rw[aix h a,aix h b,anZ (hp.map (uw h)),List.countP_eq_length_filter,List.countP_eq_length_filter,hp.length_eq]
theorem auG{w:um}(hk:(w.st.map (·.1)).Nodup):Out home w.st (doE home owner qn qb w o).2.st:=by
 by_cases hc:zh home o=0
 .have:=ath (owner:=owner) hc hk
  unfold doE
  rw[ma (j2 hc)]
  split
  .exact this
  .split
   .exact this
   .exact this
 .unfold doE
  rw[mc hc]
  exact fun _ _=>rfl
theorem aqx:∀ {os:List MOp} {i b:Nat} {w v:um},wm b w.st->b+os.length<=4398046511103->vp home owner qn qb os i w= .inr v->Out home w.st v.st:=by
 intro os
 induction os with
 | nil=>intro i b w v _ _ h;cases h;exact fun _ _=>rfl
 | cons o os ih=>
  intro i b w v h1 hb h
  simp only[mx]at hb
  unfold vp at h
  split at h
  .cases h
  .have e1:=ih (afN h1 z7) z7 h
   have e2:=auG (home:=home) (owner:=owner) (qn:=qn) (qb:=qb) (o:=o) h1.inv.keys
   exact fun k hk=>(e1 k hk).trans (e2 k hk)
theorem afI(hk:(a.map (·.1)).Nodup)(k:Str):(srt a).lookup k=a.lookup k:=(aeI (vC a).symm hk k).symm
theorem alA{ops:List MOp}(ha:wm b a)(hb:b<=4398046511000):Out home a (qZ a home owner qn qb ops).st:=by
 unfold qZ
 split
 .exact fun _ _=>rfl
 .split
  .exact fun _ _=>rfl
  .cases e:vp home owner qn qb ops 0 ⟨srt a,[],[]⟩with
   | inl x=>exact fun _ _=>rfl
   | inr w=>
    have:=aqx (adm ha) z7 e
    exact fun k hk=>(this k hk).trans (afI ha.inv.keys k)
theorem aqy(h:wm b st)(hn:st.lookup p=some n)(ho:n.own≠0):∃ u,wq st p (-1)=(jh (wv st u xX) p,0):=by
 have hne:p≠[47]:=fun e=>by subst e;exact ho (h.rt n hn).2.2
 obtain⟨ps,hps⟩:=h.inv.path p n hn
 obtain⟨u,m,hu,_⟩:=h.inv.up p n hn hne
 have hc:=(h.own p n hn).2.2 ho
 have hk:=(h.inv.ctr p n hn).1
 refine⟨u,?_⟩
 unfold wq
 rw[ma (fun h=>h.elim hne fun h=>by rw[hps]at h;cases h),hn]
 simp only
 rw[ma (fun h=>h.1 rfl),ma z7,hu]
theorem aoQ(hk:(st.map (·.1)).Nodup)(n:Nd):(jh (wv st u xX) p).lookup k=some n->k≠p/\∃ m,st.lookup k=some m/\m.own=n.own:=by
 intro h
 rw[yh (by rw[xA];exact hk)]at h
 split at h
 .cases h
 .rename_i hne
  rw[zx]at h
  split at h
  .cases hl:st.lookup k with
   | none=>rw[hl]at h;cases h
   | some m=>rw[hl]at h;cases h;exact⟨hne,m,rfl,rfl⟩
  .exact⟨hne,n,h,rfl⟩
theorem aon(hk:(st.map (·.1)).Nodup)(h:st.lookup k=some n)(hne:k≠p):∃ m,(jh (wv st u xX) p).lookup k=some m/\m.own=n.own:=by
 rw[yh (by rw[xA];exact hk),ma hne,zx]
 split
 .rw[h];exact⟨_,rfl,rfl⟩
 .exact⟨n,h,rfl⟩
theorem aoR(h:st.lookup p=some n):(jh (wv st u xX) p).length+1=st.length:=by
 have hl:∃ m,(wv st u xX).lookup p=some m:=by
  rw[zx]
  split
  .rw[h];exact⟨_,rfl⟩
  .exact⟨n,h⟩
 obtain⟨m,hm⟩:=hl
 obtain⟨a,b,h1,h2⟩:=anQ hm
 rw[xA]at h1
 have e1:=mh List.length h1
 have e2:=mh List.length h2
 simp only[mi,mW,mx]at e1 e2
 omega
theorem aqz{a:St×List Str}(h:wm b a.1):
  (wX home a p).1.length+(wX home a p).2.length=a.1.length+a.2.length/\
  (∀k n,(wX home a p).1.lookup k=some n->∃ m,a.1.lookup k=some m/\m.own=n.own)/\
  (∀k n,k≠p->a.1.lookup k=some n->∃ m,(wX home a p).1.lookup k=some m/\m.own=n.own)/\
  (((wX home a p).2=a.2/\(∀n,a.1.lookup p=some n->n.own≠0->(qu p).getD []≠home))\/((wX home a p).2=a.2++[p]/\(wX home a p).1.lookup p=none)):=by
 unfold wX
 by_cases c:(qu p).getD []=home/\(wq a.1 p (-1)).2=0
 .rw[mc c]
  rcases uS a.1 p (-1)with⟨e,he,h2⟩ | ⟨n,u,h2,h3,_⟩
  .rw[h2]at c;exact mu c.2 he
  .rw[h2]
   have hk:=h.inv.keys
   refine⟨?_,fun k n' hl=>(aoQ hk n' hl).2,fun k n' hne hl=>aon hk hl hne,.inr ⟨rfl,?_⟩⟩
   .have:=aoR (u:=u) h3
    simp only[mW,mx,nE];omega
   .simp only
    rw[yh (by rw[xA];exact hk),mc rfl]
 .rw[ma c]
  refine⟨rfl,fun k n hl=>⟨n,hl,rfl⟩,fun k n _ hl=>⟨n,hl,rfl⟩,.inl ⟨rfl,fun n hn ho e=>c ⟨e,?_⟩⟩⟩
  obtain⟨u,hu⟩:=aqy h hn ho
  rw[hu]
theorem avl:∀ (ks:List Str) {a:St×List Str} {b:Nat},wm b a.1->b+ks.length<=4398046511103->ks.Nodup->(∀k∈ks,∃n,a.1.lookup k=some n/\n.own≠0)->
  (ks.foldl (wX home) a).1.length+(ks.foldl (wX home) a).2.length=a.1.length+a.2.length/\
  (∀k n,(ks.foldl (wX home) a).1.lookup k=some n->∃ m,a.1.lookup k=some m/\m.own=n.own)/\
  (∃l,(ks.foldl (wX home) a).2=a.2++l/\List.Sublist l ks/\∀ k∈l,(ks.foldl (wX home) a).1.lookup k=none)/\
  (∀k∈ks,(qu k).getD []=home->(ks.foldl (wX home) a).1.lookup k=none):=by
 intro ks
 induction ks with
 | nil=>intro a b _ _ _ _;exact⟨rfl,fun k n h=>⟨n,h,rfl⟩,⟨[],z8,List.Sublist.refl _,z8⟩,z8⟩
 | cons p ks ih=>
  intro a b h hb hnd hall
  simp only[mx]at hb
  obtain⟨hp,hnd'⟩:=nl.1 hnd
  obtain⟨s1,s2,s3,s4⟩:=aqz (home:=home) (p:=p) h
  obtain⟨i1,i2,⟨l,i3,i4,i5⟩,i6⟩:=ih (a:=wX home a p) (amP h z7) z7 hnd' (fun k hk=>by
   obtain⟨n,h1,h2⟩:=hall k (by simp[hk])
   obtain⟨m,h3,h4⟩:=s3 k n (fun e=>hp (e▸hk)) h1
   exact⟨m,h3,by rw[h4];exact h2⟩)
  rw[nh]
  have back:∀ k n,(ks.foldl (wX home) (wX home a p)).1.lookup k=some n->∃ m,a.1.lookup k=some m/\m.own=n.own:=fun k n hl=>by
   obtain⟨m,h1,h2⟩:=i2 k n hl
   obtain⟨m',h3,h4⟩:=s2 k m h1
   exact⟨m',h3,h4.trans h2⟩
  have gone:∀ k,(wX home a p).1.lookup k=none->(ks.foldl (wX home) (wX home a p)).1.lookup k=none:=fun k hk=>by
   cases e:(ks.foldl (wX home) (wX home a p)).1.lookup k with
   | none=>rfl
   | some n=>obtain⟨m,h1,_⟩:=i2 k n e;rw[hk]at h1;cases h1
  refine⟨z7,back,?_,fun k hk hh=>?_⟩
  .rcases s4 with⟨e,_⟩ | ⟨e,hn⟩
   .exact⟨l,by rw[i3,e],List.Sublist.cons _ i4,i5⟩
   .refine⟨p::l,by rw[i3,e,nk];try rfl,List.Sublist.cons_cons _ i4,fun k hk=>?_⟩
    rcases mq.1 hk with rfl | hk
    .exact gone _ hn
    .exact i5 k hk
  .rcases mq.1 hk with rfl | hk
   .rcases s4 with⟨_,e⟩ | ⟨_,hn⟩
    .obtain⟨n,h1,h2⟩:=hall k z8
     exact mu hh (e n h1 h2)
    .exact gone _ hn
   .exact i6 k hk hh
theorem aks:pF st ws k=true↔∃ n,st.lookup k=some n/\n.own≠0/\n.own∈ws:=by
 unfold pF
 cases st.lookup k with
 | none=>simp
 | some n=>simp
theorem aqA(hk:(st.map (·.1)).Nodup):k∈yW st ws↔pF st ws k=true:=by
 unfold yW
 rw[List.mem_reverse,Lz]
 refine⟨fun h=>h.2,fun h=>⟨?_,h⟩⟩
 obtain⟨n,hn,_⟩:=aks.1 h
 exact((vC st).map (·.1)).mem_iff.2 (ajc hn)
theorem aoS(hk:(st.map (·.1)).Nodup):(yW st ws).Pairwise fun a b=>b<a:=by
 unfold yW
 rw[List.pairwise_reverse]
 refine List.Pairwise.filter _ ?_
 rw[LL]
 exact ajP hk
theorem aiy:(yW st ws).length<=st.length:=by
 unfold yW
 rw[List.length_reverse]
 refine Lt (List.length_filter_le _ _) ?_
 rw[mi,(vC st).length_eq]
 exact mK _
end Zt
namespace SL
open Go
variable{P:Program}{B:World}{ro I I':AH}{tag tag':Nat->Nat}{L:List Nat}
variable{τ:AH}{l:List (List Value)}{r w:Nat}{tag1:Nat->Nat}{s:Sl}{e:TypeId}
theorem qm.outR(h:qm tag I r e w s l)(hr:r∉L):qm tag (SL.vg tag L I) r e w s l:=by
 rcases h with h | ⟨c,cs,ha,ht,hs,hx⟩
 .exact .inl h
 .refine .inr ⟨c,cs,ha,ht,?_,hx⟩
  unfold SL.vg;rw[ma (by rw[ht];exact hr)];exact hs
theorem qm.backR(h:qm tag1 τ r e w s l)(hd:qJ (inR tag L I) τ):qm (tagB tag tag1 L I) (join (inR tag L I) τ) r e w s l:=by
 rcases h with h | ⟨c,cs,ha,ht,hs,hx⟩
 .exact .inl h
 .have hn:inR tag L I c=none:=by
   cases e:inR tag L I c with
   | none=>rfl
   | some o=>have:=hd c o e;rw[hs]at this;cases this
  exact .inr ⟨c,cs,ha,by rw[aer hn];exact ht,by unfold join;rw[hn];exact hs,hx⟩
theorem Row.againR{l:List Value}(h:Row tag I r e s l)(hr:r∈L):Row (tagB tag tag1 L I) (join (inR tag L I) τ) r e s l:=by
 rcases h with h | ⟨c,cs,ha,ht,hs,hx⟩
 .exact .inl h
 .have hn:inR tag L I c=some (.cells cs e):=by unfold inR;rw[mc (by rw[ht];exact hr)];exact hs
  exact .inr ⟨c,cs,ha,by rw[alV hn];exact ht,by unfold join;rw[hn],hx⟩
end SL
namespace Zt
open Go SL G Pa Wi
variable{B:World}{ro I I':AH}{tag tag':Nat->Nat}{L:List Nat}
variable{τ:AH}{h:Hub}{C bs:List Nat}{M T Th Tt W b r:Nat}{tag1:Nat->Nat}{a2 ms os:Sl}{st:St}{s:Sto}{c:zD}
theorem qV.outR(h:qV tag I r T st)(hL:∀ x∈L,x%64≠r%64/\x%64≠6):qV tag (SL.vg tag L I) r T st:=by
 obtain⟨M,bs,h⟩:=h
 have no:∀ x,x%64=r%64->x∉L:=fun x hx hm=>(hL x hm).1 hx
 refine⟨M,bs,h.keys,h.len,h.nd,h.cell.outR (no _ rfl),h.map.outR (no _ z7),fun i b p hb hp=>?_⟩
 obtain⟨s,a,e⟩:=h.nodes i b p hb hp
 exact⟨s,a.outR (no _ z7),e.outR fun hm=>(hL 6 hm).2 rfl⟩
theorem qV.backR(h:qV tag1 τ r T st)(hd:qJ (inR tag L I) τ):qV (tagB tag tag1 L I) (join (inR tag L I) τ) r T st:=by
 obtain⟨M,bs,h⟩:=h
 refine⟨M,bs,h.keys,h.len,h.nd,h.cell.backR hd,h.map.backR hd,fun i b p hb hp=>?_⟩
 obtain⟨s,a,e⟩:=h.nodes i b p hb hp
 exact⟨s,a.backR hd,e.backR hd⟩
theorem wY.outR(hi:wY tag I T M bs h)(hL:∀ x∈L,x%64∉[59,60,61,62]):wY tag (SL.vg tag L I) T M bs h:=by
 have no:∀ x,x%64∈[59,60,61,62]->x∉L:=fun x hx hm=>hL x hm hx
 refine⟨hi.cell.outR (no 62 y0),hi.map.mono (hi.map.map.outR (no 126 y0)) fun _ b k d _ _ hx=>?_⟩
 obtain⟨m,s,row,ev,mk⟩:=hx
 exact⟨m,s,row.outR (no _ (by rw[show(59+64*(b+2))%64=59 by omega];decide)),ev.outR (no _ (by rw[show(61+64*(b+2))%64=61 by omega];decide)),mk.outR (no _ (by rw[show(60+64*(b+2))%64=60 by omega];decide))⟩
theorem wY.backR(hi:wY tag1 τ T M bs h)(hd:qJ (inR tag L I) τ):wY (tagB tag tag1 L I) (join (inR tag L I) τ) T M bs h:=by
 refine⟨hi.cell.backR hd,hi.map.mono (hi.map.map.backR hd) fun _ b k d _ _ hx=>?_⟩
 obtain⟨m,s,row,ev,mk⟩:=hx
 exact⟨m,s,row.backR hd,ev.backR hd,mk.backR hd⟩
abbrev RQ:=Int->Int->Sl->Int->Sl->Int->Int->Int->Int->Sl->Sl->Int->AH->Prop
abbrev adw(x:Rep)(rs ds ns es:Sl):List Value:=[.int .i64 x.code,.int .i64 x.session,Sl.v rs,.int .i64 x.bad,Sl.v ds,.int .i64 x.ver,.int .i64 x.ctr,.int .i64 x.own,.int .i64 x.kids,Sl.v ns,Sl.v es,.int .i64 x.epoch]
abbrev aeh(Q:RQ)(x:Rep)(rs ds ns es:Sl)(I:AH):Prop:=Q x.code x.session rs x.bad ds x.ver x.ctr x.own x.kids ns es x.epoch I
abbrev aiz(c:zD)(os ms:Sl):List Value:=[.int .i64 c.kind,.string (S c.home),.int .i64 c.session,.int .i64 c.req,.int .i64 c.nonce,.int .i64 c.lease,.int .i64 c.beats,.int .i64 c.ack,Sl.v os,.string (S c.path),.bool c.watch,.int .i64 c.epoch,Sl.v ms]
theorem ajY(x:Rep)(rs ds ns es:Sl):∀ v∈adw x rs ds ns es,qf v=true:=by simp[qf,Sl.v]
abbrev amm(ro:AH)(R:Nat)(Q:RQ):AH->Prop:=fun I=> ∃(a b:Int) (c:Sl) (d:Int) (e:Sl) (f g h i:Int) (j k:Sl) (m:Int),SL.qe ro I ⟨R,0,none⟩ 0 [.int .i64 a,.int .i64 b,Sl.v c,.int .i64 d,Sl.v e,.int .i64 f,.int .i64 g,.int .i64 h,.int .i64 i,Sl.v j,Sl.v k,.int .i64 m]/\Q a b c d e f g h i j k m I
abbrev akP(ro:AH)(R:Nat)(Q:RQ):RQ:=fun a b c d e f g h i j k m I=>stN ⟨R,0,none⟩ (amm ro R Q) [.int .i64 a,.int .i64 b,Sl.v c,.int .i64 d,Sl.v e,.int .i64 f,.int .i64 g,.int .i64 h,.int .i64 i,Sl.v j,Sl.v k,.int .i64 m] 0 I
theorem pU{R:Nat}{l:List Value}{Q:RQ}(x:Rep)(rs ds ns es:Sl)(hr:Row tag I r 30 ⟨some ⟨R,0,none⟩,12,12⟩ l)(hl:l.length=12)(hs:SL.Sep ro I)(hQ:∀ I',qd [r] ro tag I tag I'->aeh Q x rs ds ns es I'):
  stN ⟨R,0,none⟩ (amm ro R Q) (adw x rs ds ns es) 0 I:=by
 refine hr.stPre (adw x rs ds ns es) 0 _ I hs (by simp[hl]) (ajY _ _ _ _ _) fun I1 st1 r1=>?_
 have e:l.take 0++adw x rs ds ns es++l.drop (0+(adw x rs ds ns es).length)=adw x rs ds ns es:=by
  rw[Lr,nx,LA (by simp[hl]),ny]
 rw[e]at r1
 exact⟨_,_,_,_,_,_,_,_,_,_,_,_,qr (r1.read st1.sep) rfl,hQ I1 st1⟩
theorem ahF{Q:ByteArray->Int->AH->Prop}(hQ:∀ tag' I',(∀R,qd R ro tag I tag' I')->Q (S c.home) c.session I'):vT B ro c.kind (S c.home) c.session c.req c.nonce c.lease c.beats c.ack os (S c.path) c.watch c.epoch ms I Q:=by
 refine aj9 fun hs=>?_
 unfold adr
 refine qh (tag:=tag) 0 hs fun X tag1 I1 st1 r1=>?_
 have g0:=fun τ t (st:∀ R,qd R ro tag1 I1 t τ)=>((r1.keep (st [])).read (st []).sep).2.2 _ rfl
 intro Y hroY hY
 have st2:∀ R,qd R ro tag1 I1 (setTag tag1 Y 0) (upd I1 Y (.cells #[.string ByteArray.empty,.int .i64 0] 81)):=fun R=>qd.fresh (st1 []).sep hroY hY
 refine⟨S c.home,g0 _ _ st2 1 _ rfl,c.session,g0 _ _ st2 2 _ rfl,?_⟩
 have:=kq (ro:=ro) (tag:=tag1) (I:=I1) (e:=81) (cs:= #[.string ByteArray.empty,.int .i64 0]) (vs:=[.string (S c.home),.int .i64 c.session]) (K:=fun y I=> ∃(a:ByteArray) (b:Int),SL.qe ro I ⟨y,0,none⟩ 0 [.string a,.int .i64 b]/\Q a b I) 0 (st1 []).sep rfl (by simp[qf]) fun y tag3 I3 st3 r3=>⟨S c.home,c.session,qr (r3.read (st3 []).sep) rfl,hQ tag3 I3 fun R=>(st1 R).trans (st3 R)⟩
 exact this Y hroY hY
theorem ab3{e:Int}{Q:RQ}(hQ:∀ tag' I',(∀R,qd R ro tag I tag' I')->aeh Q (wZ e) nS nS nS nS I'):wJ B ro e I Q:=by
 refine amh fun hs=>?_
 unfold afs
 refine kq (tag:=tag) 0 hs rfl (ajY (wZ e) nS nS nS nS) fun X tag1 I1 st1 r1=>?_
 exact⟨_,_,_,_,_,_,_,_,_,_,_,_,qr (r1.read (st1 []).sep) rfl,hQ tag1 I1 st1⟩
theorem ati{Q:Int->Int->AH->Prop}(hQ:∀ tag' I',(∀R,qd R ro tag I tag' I')->Q 64 8192 I'):afb B ro I Q:=by
 refine ami fun hs=>?_
 unfold aft
 refine kq (tag:=tag) 0 hs rfl (by simp[qf]) fun X tag1 I1 st1 r1=>?_
 exact⟨_,_,qr (r1.read (st1 []).sep) rfl,hQ tag1 I1 st1⟩
theorem atY{Q:Int->AH->Prop}(g:wW ro)(hQ:∀ tag' I',(∀R,qd R ro tag I tag' I')->Q (atE c) I'):afC B ro c.kind (S c.home) c.session c.req c.nonce c.lease c.beats c.ack os (S c.path) c.watch c.epoch ms I Q:=by
 refine aoM fun hs=>?_
 unfold ais
 refine qh (tag:=tag) 0 hs fun X tag1 I1 st1 r1=>?_
 have hs1:=(st1 []).sep
 refine⟨S c.path,(r1.read hs1).2.2 _ rfl 9 _ rfl,?_⟩
 refine aol (tag:=tag1) g (fun tag2 I2 st2=>?_) hs1
 rw[L_S]
 have hq:=hQ tag2 I2 fun R=>(st1 R).trans (st2 R)
 unfold atE at hq
 by_cases h1:parts c.path=none
 .rw[mc h1]at hq⊢
  rw[ma y0]
  unfold abj
  rw[ma z8]
  exact hq
 .rw[ma h1]at hq⊢
  rw[mc rfl]
  refine⟨S c.home,((r1.keep (st2 [])).read (st2 []).sep).2.2 _ rfl 1 _ rfl,?_⟩
  unfold abj
  by_cases h2:(qu c.path).getD []=c.home
  .rw[ma (by simp[h2])]at hq
   rw[ma (by simp[h2])]
   exact hq
  .rw[mc h2]at hq
   rw[mc (by simpa using fun e=>h2 (ab6.1 e))]
   exact hq
structure wI(tag:Nat->Nat)(I:AH)(W T Tt Th:Nat)(ms:Sl)(s:Sto):Prop where
 own:Row tag I 54 153 ⟨some ⟨W,0,none⟩,5,5⟩ [vI s.epoch,Sl.v ms,ptr T,ptr Tt,ptr Th]
 mem:Row tag I 118 3 ms (s.members.map vI)
 tree:qV tag I 10 T s.tree
 tbl:aim tag I Tt s.tbl
 hub:ajU tag I Th s.hub
theorem wI.at(h:wI tag I W T Tt Th ms s):abD tag I W s:=⟨T,Tt,Th,ms,h.own,h.mem,h.tree,h.tbl,h.hub⟩
theorem abD.in(h:abD tag I W s):∃ T Tt Th ms,wI tag I W T Tt Th ms s:=by
 obtain⟨T,Tt,Th,ms,a,b,c,d,e⟩:=h
 exact⟨T,Tt,Th,ms,a,b,c,d,e⟩
abbrev DSt:List Nat:=[6,10,54,55,56,57,58,59,60,61,62]
theorem wI.keepS(h:wI tag I W T Tt Th ms s)(k:StepS C ro tag I tag' I')(hC:∀ x∈DSt,x∉C:=by decide):wI tag' I' W T Tt Th ms s:=
 ⟨h.own.keepS k (hC 54 y0),h.mem.keepS k (hC 54 y0),h.tree.keepS k (hC 10 y0) (hC 6 y0),h.tbl.keepS k ⟨hC 55 y0,hC 56 y0,hC 57 y0,hC 58 y0,hC 6 y0⟩,h.hub.keepS k ⟨hC 62 y0,hC 59 y0,hC 60 y0,hC 61 y0⟩⟩
theorem wI.fresh(h:wI tag I W T Tt Th ms s)(k:∀ R,qd R ro tag I tag' I'):wI tag' I' W T Tt Th ms s:=h.keepS (qq (C:=[]) k) z8
theorem arT{q q2 rw:Nat}{home:Str}{ws:List Int}{Q:Sl->AH->Prop}(g:wW ro)(hr:r<64)(hr0:r≠0)(hr6:r≠6)(hq:q<64)(hq2:q2<64)(hqs:q∉[0,6,r])(hq2s:q2∉[0,6,r,q])
  (h:qV tag I r T st) (hi:wm b st) (hb:b<=1073741824) (hw:Row tag I rw 3 a2 (ws.map vI)) (hrw:rw%64≠r/\rw%64≠6) (hwl:ws.length<=4611686018427387903) (hs:SL.Sep ro I)
  (hQ:∀ es tag' I',StepS [0,r,q,q2] ro tag I tag' I'->qV tag' I' r T (yX st home ws).1->qm tag' I' (q2+256) 336 2 es ((yX st home ws).2.map akG)->Q es I'):
  aa9 B ro (some ⟨T,0,none⟩) (S home) a2 I Q:=by
 have hL:∀ x∈[rw],x%64≠r%64/\x%64≠6:=fun x hx=>by rw[mo.1 hx,nG hr];exact hrw
 have base:aa9 B (join ro (SL.inR tag [rw] I)) (some ⟨T,0,none⟩) (S home) a2 (SL.vg tag [rw] I) fun es τ=>qJ (SL.inR tag [rw] I) τ->Q es (join (SL.inR tag [rw] I) τ):=by
  refine asR (tag:=tag) (b:=b) (q:=q) (q2:=q2) (aeW g) hr hr0 hr6 hq hq2 hqs hq2s (h.outR hL) hi hb ?_ hwl fun es tag1 τ st1 h1 h2 hd=>?_
  .refine⟨(hw.read hs).1,(hw.read hs).2.1,fun p hp i v hv=>hw.lendR hs z8 hp hv⟩
  .exact hQ es _ _ (st1.backR hs hd) (h1.backR hd) (h2.backR hd)
 have hd:qJ (SL.inR tag [rw] I) (SL.vg tag [rw] I):=fun c o hc=>by
  obtain⟨h1,_⟩:=anO hc
  unfold SL.vg;rw[mc h1]
 have:=qc.lend base hd
 rw[ajX]at this
 exact qc.mono this fun v I' ⟨τ,ht,hdj,r0,hv,q'⟩=>by subst ht;exact⟨r0,hv,q' hdj⟩
abbrev CC:List Nat:=[0,10,20,21,52,53,59,60,61,62]
theorem auH(l:List Str):(l.map akG)=(l.map fun p=>((2:Int),p)).map afo:=by rw[nP];try rfl
theorem aoo{k:Str×Int}{Q:AH->Prop}(g:wW ro)(h:wI tag I W T Tt Th ms s)(i:vq b s)(hb:b<=33554433)
  (hQ:∀ tag' I',StepS CC ro tag I tag' I'->wI tag' I' W T Tt Th ms (aeZ s k)->Q I'):pW B ro (some ⟨W,0,none⟩) (S k.1) k.2 I Q:=by
 refine air fun hs=>?_
 unfold abu
 refine qh (tag:=tag) 52 hs fun X tag1 I1 st1 r1=>?_
 have hs1:=(st1 []).sep
 have h1:=h.fresh st1
 refine⟨_,rfl,some ⟨Th,0,none⟩,(h1.own.read hs1).2.2 _ rfl 4 _ rfl,S k.1,k.2,qr (r1.read hs1) rfl,?_⟩
 refine qh (tag:=tag1) 53 hs1 fun Y tag2 I2 st2 r2=>?_
 have h2:=h1.fresh st2
 obtain⟨M,bs,hub⟩:=h2.hub
 refine atf hub r2 fun bs' tag3 I3 st3 hub3=>?_
 have hs3:=st3.sep
 have r3:=(r1.keep (st2 [])).keepS st3
 have o3:=h2.own.keepS st3
 have t3:=h2.tree.keepS st3
 have L2:∀ x∈[54,52],x%64≠10%64/\x%64≠6:=by decide
 refine pi tag3 [54,52] ?_
 have hsA:SL.Sep (join ro (SL.inR tag3 [54,52] I3)) (SL.vg tag3 [54,52] I3):=hs3.lentR
 have tA:=t3.outR L2
 have hubA:=hub3.outR (L:=[54,52]) y0
 refine⟨_,rfl,some ⟨Th,0,none⟩,o3.lendR hs3 z8 rfl (i:=4) rfl,_,rfl,some ⟨T,0,none⟩,o3.lendR hs3 z8 rfl (i:=2) rfl,S k.1,r3.lendR hs3 z8 rfl (i:=0) rfl,k.2,r3.lendR hs3 z8 rfl (i:=1) rfl,?_⟩
 refine qh (tag:=tag3) 53 hsA fun Z tag4 I4 st4 r4=>?_
 have t4:=tA.keep (st4 [])
 have hub4:=hub3.outR (L:=[54,52]) y0 |>.fresh st4
 refine arT (b:=20*b) (q:=20) (q2:=21) (ws:=[k.2]) (rw:=53) (aeW g) y0 y0 y0 y0 y0 y0 y0 t4 i.tree z7 r4 y0 z8 (st4 []).sep fun es tag5 I5 st5 t5 e5=>?_
 have hub5:=hub4.keepS st5
 rw[auH]at e5
 have hln:(yX s.tree k.1 [k.2]).2.length<=1099511627776:=by
  have:=(alo (home:=k.1) (yW s.tree [k.2]) (a:=(s.tree,[])) i.tree (by
   have:=aiy (st:=s.tree) (ws:=[k.2]);have:=i.tree.len;omega)).2
  have h2:=aiy (st:=s.tree) (ws:=[k.2])
  have h3:=i.tree.len
  unfold yX
  simp only[nE,ml]at this
  omega
 refine aok (b0:=b) (aeW g) hub5 (an7 i.hub) hb e5 y0 (j2 hln) fun n tag6 I6 st6 hub6=>?_
 intro hd
 have k46:StepS CC (join ro (SL.inR tag3 [54,52] I3)) tag3 (SL.vg tag3 [54,52] I3) tag6 I6:=(qq st4).trans ((st5.mono y0).trans (st6.mono y0))
 have kA:=k46.backR hs3 hd
 have k2:StepS CC ro tag I tag3 I3:=(qq fun R=>(st1 R).trans (st2 R)).trans (st3.mono y0)
 have kB:=k2.trans kA
 refine hQ _ _ kB ⟨o3.againR z8,?_,?_,?_,M,bs',hub6.backR hd⟩
 .exact(h2.mem.keepS st3).keepS kA
 .exact(t5.keepS st6).backR hd
 .exact(h2.tbl.keepS st3).keepS kA
end Zt
namespace Zt
open Go SL Pa Wi
variable{seq:Bool}{lease nonce owner qb qn req v:Int}{ws:List Int}{ops:List MOp}{o:MOp}{b:Nat}{n n':Nd}{a a' st:St}{s s':Sto}{d h home p u:Str}{k k':Str×Int}{t t':Tbl}{w:um}{c:zD}
theorem ajH{P:St->Prop}(hP:∀ a p,p∈yW st ws->(qu p).getD []=home->P a->P (wq a p (-1)).1)(h:P st):P (yX st home ws).1:=by
 have key:∀ (ks:List Str) (a:St×List Str),(∀k∈ks,k∈yW st ws)->P a.1->P (ks.foldl (wX home) a).1:=by
  intro ks
  induction ks with
  | nil=>intro a _ h;exact h
  | cons k ks ih=>
   intro a hk h
   rw[nh]
   refine ih _ (fun x hx=>hk x (by simp[hx])) ?_
   unfold wX
   split
   .rename_i c
    exact hP _ _ (hk k z8) c.1 h
   .exact h
 exact key _ _ (fun k hk=>hk) h
theorem amW{k:Str}(hm:k∈yW st ws):∃ n,st.lookup k=some n/\n.own≠0/\n.own∈ws:=by
 unfold yW at hm
 rw[List.mem_reverse,Lz]at hm
 have:=hm.2
 unfold pF at this
 cases e:st.lookup k with
 | none=>rw[e]at this;simp at this
 | some n=>rw[e]at this;simp at this;exact⟨n,rfl,this.1,this.2⟩
theorem ab4(hn:qP home=true):parts (47::home)=some [home]/\qv (47::home)=some [47]/\qu (47::home)=some home:=by
 have hl:=aaQ hn
 have h1:parts (47::home)=some [home]:=qW.2 ⟨by simp[mk],⟨z8,fun y hy=>by rw[mo.1 hy];exact hn,by simp[mk];omega⟩⟩
 refine⟨h1,?_,?_⟩
 .unfold qv;rw[h1];try rfl
 .rw[pR h1];try rfl
theorem arU{k x:Str}(h:parts k=some [x]):k=47::x/\qP x=true/\qu k=some x/\qv k=some [47]:=by
 obtain⟨h1,h2⟩:=qW.1 h
 have hx:=h2.ok x z8
 have hk:k=47::x:=by rw[h1];simp[mk]
 rw[hk]
 exact⟨rfl,hx,(ab4 hx).2.2,(ab4 hx).2.1⟩
theorem ahf:qu [47]=none:=rfl
theorem ahg(hi:wm b st)(hn:qP home=true)(hr:st.lookup [47]=some n)(hc:n.ctr<=9999999999)(hl:st.lookup (47::home)=none):
  wo st (47::home) [] 0 false=(wv (st++[(47::home,⟨0,0,0,0,[]⟩)]) [47] jg,47::home,0):=by
 unfold wo
 rw[(ab4 hn).2.1]
 simp only
 rw[ma z8,ma z7,hr]
 simp only
 rw[ma (by simp[(hi.rt n hr).2.2]),ma z7]
 simp only[Bool.false_eq_true,if_false]
 rw[hl]
 try rfl
theorem auI(hi:Inv st)(hl:st.lookup (47::home)=none):∀ k n,st.lookup k=some n->qu k≠some home:=by
 have key:∀ (m:Nat) (k:Str) (n:Nd) (ps:List Str),st.lookup k=some n->parts k=some ps->ps.length=m+1->ps.head?=some home->False:=by
  intro m
  induction m with
  | zero=>
   intro k n ps hk hp hlen hh
   match ps,hlen with
   | [x],_=>
    simp at hh
    subst hh
    rw[(arU hp).1,hl]at hk;cases hk
  | succ m ih=>
   intro k n ps hk hp hlen hh
   have hne:k≠[47]:=fun e=>by
    rw[e]at hp
    have:parts [47]=some []:=rfl
    rw[this]at hp;cases hp;simp at hlen
   obtain⟨u,m',hu,hl',_⟩:=hi.up k n hk hne
   obtain⟨qs,h1,h2,h3⟩:=akO hu
   rw[hp]at h1;cases h1
   refine ih u m' _ hl' h3 (by rw[List.length_dropLast];omega) ?_
   match ps,hlen with
   | x::y::r,_=>simpa using hh
 intro k n hk hh
 obtain⟨ps,hps⟩:=hi.path k n hk
 rw[pR hps]at hh
 match ps,hh with
 | x::r,hh=>exact key r.length k n _ hk hps z8 hh
def Qt(st:St):Prop:= ∀home,bnd st home 64 8192
theorem alB(hk:(st.map (·.1)).Nodup)(hn:∀ k n,st.lookup k=some n->qu k≠some h):zz st h=(0,0):=by
 have L:Loc h st []:=fun k hk=>by
  cases e:st.lookup k with
  | none=>rfl
  | some n=>exact mu hk (hn k n e)
 exact amV hk z8 L
theorem avm:Qt St.new:=fun home=>by
 have:zz St.new home=(0,0):=by
  refine alB (by simp[St.new]) fun k n h=>?_
  unfold St.new at h
  rw[mY]at h
  by_cases c:k=[47]
  .rw[c,ahf];simp
  .rw[show(k == [47])=false by simpa using c]at h;cases h
 unfold bnd;rw[this];exact⟨y0,y0⟩
theorem atj(h:Qt st):Qt (yX st home ws).1:=ajH (P:=Qt) (fun a p _ _ ha home'=>aln (ha home')) h
theorem atk(hi:wm b st)(hb:b<=4398046511000)(h:Qt st):Qt (qZ st home owner 64 8192 ops).st:=fun h'=>by
 by_cases c:h'=home
 .subst c;exact arz (h _)
 .have L:Loc h' (qZ st home owner 64 8192 ops).st st:=fun k hk=>alA hi hb k (by rw[hk];intro e;exact c (mA e))
  have:=h h'
  unfold bnd at this⊢
  rw[amV (alk hi hb).inv.keys hi.inv.keys L];exact this
theorem auJ(hi:wm b st)(hn:qP home=true)(hr:st.lookup [47]=some n)(hc:n.ctr<=9999999999)(hl:st.lookup (47::home)=none)(h:Qt st):Qt (wo st (47::home) [] 0 false).1:=fun h'=>by
 rw[ahg hi hn hr hc hl]
 unfold bnd
 rw[aif (f:=jg) (fun n=>rfl),ah9 (List.perm_append_singleton (47::home,(⟨0,0,0,0,[]⟩:Nd)) st),ach]
 have hl':=aaQ hn
 by_cases c:h'=home
 .subst c
  rw[alB hi.inv.keys (auI hi.inv hl)]
  unfold uw
  rw[mc (ab4 hn).2.2,mc (ab4 hn).2.2]
  simp only[mx,nE]
  exact⟨z7,z7⟩
 .have hne:qu (47::home)≠some h':=by rw[(ab4 hn).2.2];intro e;exact c (mA e).symm
  unfold uw
  rw[ma hne,ma hne]
  have:=h h'
  unfold bnd at this
  simp only
  exact⟨z7,z7⟩
def Top(a a':St):Prop:= ∀k x,parts k=some [x]->(a'.lookup k).map (·.own)=(a.lookup k).map (·.own)
theorem Top.refl(a:St):Top a a:=fun _ _ _=>rfl
theorem Top.trans{b c:St}(h:Top a b)(k:Top b c):Top a c:=fun x y e=>(k x y e).trans (h x y e)
theorem aew{f:Nd->Nd}(hf:∀ n,(f n).own=n.own)(k:Str):((wv st u f).lookup k).map (·.own)=(st.lookup k).map (·.own):=by
 rw[zx]
 split
 .cases st.lookup k with
  | none=>rfl
  | some n=>simp[hf]
 .rfl
theorem aqB{o:Int}(hu:∀ u,qv p=some u->qu u=some h):Top a (wo a p d o seq).1:=by
 have R:=Top.refl a
 unfold wo
 cases hp:qv p with
 | none=>exact R
 | some u=>
  have hhu:=hu u hp
  simp only
  split
  .exact R
  .split
   .exact R
   .cases hn:a.lookup u with
    | none=>exact R
    | some n=>
     simp only
     split
     .exact R
     .split
      .exact R
      .cases hq:(if seq then pP p n.ctr else some p)with
       | none=>exact R
       | some q=>
        simp only
        have hpq:qv q=some u:=by
         cases seq with
         | true=>simp at hq;obtain⟨_,_,e⟩:=acX hq;rw[e,hp]
         | false=>simp at hq;rw[<-hq,hp]
        split
        .exact R
        .intro k x hk
         rw[aew (f:=jg) (fun n=>rfl),aaT]
         have hkq:k≠q:=fun e=>by
          have h1:=(arU hk).2.2.2
          rw[e,hpq]at h1
          rw[mA h1,ahf]at hhu;cases hhu
         cases a.lookup k with
         | some m=>rfl
         | none=>simp only;rw[ma hkq]
theorem alC(hk:(a.map (·.1)).Nodup)(hp:∀ x,parts p≠some [x]):Top a (wq a p v).1:=by
 rcases uS a p v with⟨e,_,he⟩ | ⟨n,u,he,_⟩
 .rw[he];exact Top.refl a
 .rw[he]
  intro k x hkx
  simp only
  rw[yh (by rw[xA];exact hk),ma (fun e=>hp x (by rw[<-e];exact hkx)),aew (f:=xX) (fun n=>rfl)]
theorem atl:Top a (xd a p d v).1:=by
 rcases agF a p d v with⟨e,_,he⟩ | ⟨n,he,_⟩
 .rw[he];exact Top.refl a
 .rw[he]
  intro k x hkx
  simp only
  rw[aew (f:=ad3 d) (fun n=>rfl)]
theorem aoT(h:zh home o=0)(hk:o.kind<=2):∀ x,parts o.path≠some [x]:=by
 intro x e
 unfold zh at h
 split at h
 .cases h
 .rw[e]at h
  simp only at h
  rw[mc (.inr ⟨rfl,hk⟩)]at h;cases h
theorem atm(hw:zh home o=0)(hka:(a.map (·.1)).Nodup):Top a (xu owner a o).1:=by
 obtain⟨h1,h2⟩:=ahe hw
 unfold xu
 split
 .exact aqB (h2 z7)
 .split
  .exact alC hka (aoT hw z7)
  .split
   .exact atl
   .exact Top.refl a
theorem auK(hk:(w.st.map (·.1)).Nodup):Top w.st (doE home owner qn qb w o).2.st:=by
 by_cases hc:zh home o=0
 .have:=atm (owner:=owner) hc hk
  unfold doE
  rw[ma (j2 hc)]
  split
  .exact this
  .split
   .exact this
   .exact this
 .unfold doE
  rw[mc hc]
  exact Top.refl _
theorem aqC:∀ {os:List MOp} {i b:Nat} {w v:um},wm b w.st->b+os.length<=4398046511103->vp home owner qn qb os i w= .inr v->Top w.st v.st:=by
 intro os
 induction os with
 | nil=>intro i b w v _ _ h;cases h;exact Top.refl _
 | cons o os ih=>
  intro i b w v h1 hb h
  simp only[mx]at hb
  unfold vp at h
  split at h
  .cases h
  .exact(auK (home:=home) (owner:=owner) (qn:=qn) (qb:=qb) (o:=o) h1.inv.keys).trans (ih (afN h1 z7) z7 h)
theorem aqD(ha:wm b a)(hb:b<=4398046511000):Top a (qZ a home owner qn qb ops).st:=by
 unfold qZ
 split
 .exact Top.refl a
 .split
  .exact Top.refl a
  .cases e:vp home owner qn qb ops 0 ⟨srt a,[],[]⟩with
   | inl x=>exact Top.refl a
   | inr w=>
    have:=aqC (adm ha) z7 e
    intro k x hk
    rw[<-afI ha.inv.keys k]
    exact this k x hk
structure yl(b:Nat)(s:Sto):Prop where
 qt:Qt s.tree
 at1:∀ p∈s.tbl.map (·.1),∃n,s.tree.lookup (47::p)=some n
 own1:∀ k n x,s.tree.lookup k=some n->parts k=some [x]->n.own=0
 rt:∀ n,s.tree.lookup [47]=some n->n.ctr<=b
theorem Top.at1(h:Top a a')(ht:∀ p∈t.map (·.1),qP p=true)(k:∀ p∈t.map (·.1),∃n,a.lookup (47::p)=some n):∀ p∈t.map (·.1),∃n,a'.lookup (47::p)=some n:=fun p hp=>by
 obtain⟨n,hn⟩:=k p hp
 have:=h (47::p) p (ab4 (ht p hp)).1
 rw[hn]at this
 cases e:a'.lookup (47::p)with
 | some m=>exact⟨m,rfl⟩
 | none=>rw[e]at this;cases this
theorem Top.own1(h:Top a a')(k:∀ k n x,a.lookup k=some n->parts k=some [x]->n.own=0):∀ k n x,a'.lookup k=some n->parts k=some [x]->n.own=0:=fun q n x hn hp=>by
 have:=h q x hp
 rw[hn]at this
 cases e:a.lookup q with
 | none=>rw[e]at this;cases this
 | some m=>rw[e]at this;simp at this;rw[this];exact k q m x e hp
theorem amX{s:yv}:(agj t k s).map (·.1)=t.map (·.1):=by
 unfold agj
 split
 .rfl
 .rename_i h e
  rw[ae1,mc (by rw[<-nW (a:=k.1∈_),<-kR,e];simp)]
theorem amY:(afp t k).map (·.1)=t.map (·.1):=by
 unfold afp
 split
 .rfl
 .rename_i h e
  rw[ae1,mc (by rw[<-nW (a:=k.1∈_),<-kR,e];simp)]
theorem aoU:(abc t k).1.map (·.1)=t.map (·.1):=by
 unfold abc
 split
 .exact amX
 .rfl
theorem arV:(ad8 t k req d).1.map (·.1)=t.map (·.1):=by
 unfold ad8
 split
 .split
  .rfl
  .split
   .rfl
   .exact amX
 .rfl
theorem aop{n:Int}:(ky t k n).1.map (·.1)=t.map (·.1):=by
 unfold ky
 split
 .split
  .exact amY
  .rfl
 .rfl
theorem aoV:(aav t k).1.map (·.1)=t.map (·.1):=by
 unfold aav
 split
 .exact amY
 .rfl
theorem ae3(h:vK b t):∀ p∈t.map (·.1),qP p=true:=fun p hp=>by
 obtain⟨q,hq,rfl⟩:=mC.1 hp
 exact(h.ok q hq).1
theorem yl.of{c:Nat}(h:yl b s)(hc:b<=c)(ht:∀ p∈s.tbl.map (·.1),qP p=true)(hk:s'.tbl.map (·.1)=s.tbl.map (·.1))(hq:Qt s'.tree)(htop:Top s.tree s'.tree)(hr:∀ n,s'.tree.lookup [47]=some n->∃ m,s.tree.lookup [47]=some m/\n.ctr=m.ctr):yl c s':=
 ⟨hq,by rw[hk];exact htop.at1 ht h.at1,htop.own1 h.own1,fun n hn=>by
  obtain⟨m,h1,h2⟩:=hr n hn
  have:=h.rt m h1
  omega⟩
theorem yl.tbl{c:Nat}(h:yl b s)(hc:b<=c)(ht:∀ p∈s.tbl.map (·.1),qP p=true)(hk:s'.tbl.map (·.1)=s.tbl.map (·.1))(he:s'.tree=s.tree):yl c s':=
 h.of hc ht hk (by rw[he];exact h.qt) (by rw[he];exact Top.refl _) fun n hn=>⟨n,by rw[<-he];exact hn,rfl⟩
theorem arW(hi:wm b st)(hb:b<=4398046511103)(ho:∀ k n x,st.lookup k=some n->parts k=some [x]->n.own=0):Top st (yX st home ws).1:=by
 have:=ajH (P:=fun a=>wm b a/\Top st a) (home:=home) (ws:=ws) (st:=st) (fun a p hp _ h=>?_) ⟨hi,Top.refl st⟩
 .exact this.2
 .obtain⟨n,h1,h2,_⟩:=amW hp
  exact⟨akH h.1 hb,h.2.trans (alC h.1.inv.keys fun x e=>h2 (ho p n x h1 e))⟩
theorem atn(hi:wm b st)(hb:b<=4398046511103):∀ n,(yX st home ws).1.lookup [47]=some n->∃ m,st.lookup [47]=some m/\n.ctr=m.ctr:=by
 have:=ajH (P:=fun a=>wm b a/\∀ n,a.lookup [47]=some n->∃ m,st.lookup [47]=some m/\n.ctr=m.ctr) (home:=home) (ws:=ws) (st:=st) (fun a p hp _ h=>?_) ⟨hi,fun n hn=>⟨n,hn,rfl⟩⟩
 .exact this.2
 .refine⟨akH h.1 hb,fun n hn=>?_⟩
  rcases uS a p (-1)with⟨e,_,he⟩ | ⟨n',u,he,_⟩
  .rw[he]at hn;exact h.2 n hn
  .rw[he]at hn
   simp only at hn
   rw[yh (by rw[xA];exact h.1.inv.keys)]at hn
   split at hn
   .cases hn
   .rw[zx]at hn
    split at hn
    .obtain⟨m',h1,h2⟩:=nj.1 hn
     obtain⟨m,h3,h4⟩:=h.2 m' h1
     exact⟨m,h3,by rw[<-h2];exact h4⟩
    .exact h.2 n hn
theorem ato(hi:wm b st)(hb:b<=4398046511000):∀ n,(qZ st home owner qn qb ops).st.lookup [47]=some n->∃ m,st.lookup [47]=some m/\n.ctr=m.ctr:=fun n hn=>
 ⟨n,by rw[<-alA (home:=home) (owner:=owner) (qn:=qn) (qb:=qb) (ops:=ops) hi hb [47] (by rw[ahf];simp)];exact hn,rfl⟩
theorem akt{c:Nat}(h:yl b s)(hc:b<=c)(i:vq c s)(hb:c<=33554433):yl c (aeZ s k):=
 h.of hc (ae3 i.tbl) rfl (atj h.qt) (arW i.tree z7 h.own1) (atn i.tree z7)
theorem alD:∀ p∈(vm t home nonce lease).1.map (·.1),p∈t.map (·.1)\/p=home:=fun p hp=>by
 unfold vm at hp
 split at hp
 .exact .inl hp
 split at hp
 .exact .inl hp
 split at hp
 .exact .inl hp
 split at hp
 .exact .inl hp
 split at hp
 .exact .inl hp
 rw[ae1]at hp
 split at hp
 .exact .inl hp
 .rcases mt.1 hp with hp | hp
  .exact .inl hp
  .exact .inr (mo.1 hp)
theorem alE(h:(vm t home nonce lease).2.2=0):qP home=true:=by
 unfold vm at h
 split at h
 .cases h
 .rename_i hn;simpa using hn
theorem arX(i:vq b s)(hb:b<=33554432)(h:yl b s):yl (b+1) (aci s c).1/\((aci s c).2.code=0->∃ n,(aci s c).1.tree.lookup (47::c.home)=some n):=by
 unfold aci
 by_cases h0:(vm s.tbl c.home c.nonce c.lease).2.2=0
 .rw[ma (j2 h0)]
  have hn:=alE h0
  simp only
  by_cases hl:(s.tree.lookup (47::c.home)).isNone=true
  .rw[mc ⟨hn,hl⟩]
   have hl':s.tree.lookup (47::c.home)=none:=by simpa using hl
   obtain⟨n,hr⟩:=i.tree.inv.root
   have hrc:=h.rt n hr
   have hq:=auJ i.tree hn hr z7 hl' h.qt
   have e:=ahg i.tree hn hr z7 hl'
   have lk:∀ k,(wo s.tree (47::c.home) [] 0 false).1.lookup k=if k=[47]then some (jg n)else if k=47::c.home then some ⟨0,0,0,0,[]⟩else s.tree.lookup k:=fun k=>by
    rw[e]
    simp only
    rw[zx,aaT]
    by_cases c1:k=[47]
    .subst c1;rw[mc rfl,mc rfl,hr];try rfl
    .rw[ma c1,ma c1]
     by_cases c2:k=47::c.home
     .subst c2;rw[mc rfl,hl'];simp
     .cases s.tree.lookup k with
      | none=>simp[c2]
      | some m=>simp[c2]
   have hne:(47::c.home:Str)≠[47]:=fun x=>by have:=aaQ hn;simp at x;rw[x]at this;simp at this
   have hbump:(jg n).ctr=n.ctr+1:=by
    unfold jg
    have:=(i.tree.inv.ctr0 hr)
    exact SL.wd z7 z7
   refine⟨⟨hq,fun p hp=>?_,fun k m x hk hp=>?_,fun m hm=>?_⟩,fun _=>⟨_,by rw[lk,ma hne,mc rfl]⟩⟩
   .simp only at hp⊢
    rw[lk]
    rcases alD p hp with hp | hp
    .obtain⟨m,hm⟩:=h.at1 p hp
     split
     .exact⟨_,rfl⟩
     .split
      .exact⟨_,rfl⟩
      .exact⟨m,hm⟩
    .rw[hp,ma hne,mc rfl];exact⟨_,rfl⟩
   .simp only at hk
    rw[lk]at hk
    split at hk
    .rename_i e1
     rw[e1]at hp
     have:parts [47]=some []:=rfl
     rw[this]at hp;cases hp
    .split at hk
     .cases hk;rfl
     .exact h.own1 k m x hk hp
   .simp only at hm
    rw[lk,mc rfl]at hm
    cases hm
    rw[hbump];omega
  .rw[ma (fun x=>hl x.2)]
   have hs:∃ n,s.tree.lookup (47::c.home)=some n:=by
    cases e:s.tree.lookup (47::c.home)with
    | none=>rw[e]at hl;exact mu rfl hl
    | some n=>exact⟨n,rfl⟩
   refine⟨⟨h.qt,fun p hp=>?_,h.own1,fun n hn=>by have:=h.rt n hn;omega⟩,fun _=>hs⟩
   rcases alD p hp with hp | hp
   .exact h.at1 p hp
   .rw[hp];exact hs
 .rw[mc h0]
  refine⟨⟨h.qt,h.at1,h.own1,fun n hn=>by have:=h.rt n hn;omega⟩,fun hx=>?_⟩
  unfold wZ at hx
  simp only at hx
  exact mu hx h0
theorem atp(i:vq b s)(hb:b<=33554432)(h:yl b s):yl (b+1) (doS s c).1:=by
 have ht:=ae3 i.tbl
 have same:yl (b+1) s:=h.tbl z7 ht rfl rfl
 unfold doS
 split
 .exact h.tbl z7 ht aoU rfl
 split
 .unfold agk
  exact h.of z7 ht rfl (atk i.tree z7 h.qt) (aqD i.tree z7) (ato i.tree z7)
 split
 .unfold adn
  split
  .exact same
  .split
   .exact same
   .exact h.tbl z7 ht rfl rfl
 split
 .unfold aaZ
  split
  .exact same
  .split
   .exact same
   .split
    .exact same
    .exact h.tbl z7 ht rfl rfl
 .exact same
theorem aoW(i:vq b s)(hb:b<=33554432)(h:yl b s):yl (b+1) (pS s c).1:=by
 have ht:=ae3 i.tbl
 have i':vq (b+1) s:=⟨i.tree.mono z7,i.tbl.mono z7,i.hub.mono z7,by have:=i.ep;omega,i.mem⟩
 have same:yl (b+1) s:=h.tbl z7 ht rfl rfl
 unfold pS
 split
 .exact(arX i hb h).1
 split
 .split
  .refine akt (b:=b+1) (h.tbl z7 ht aop rfl) z7 ?_ z7
   exact⟨i'.tree,ag8 i'.tbl,i'.hub,i'.ep,i'.mem⟩
  .exact same
 split
 .unfold acj
  split
  .exact same
  .split
   .exact same
   .exact h.tbl z7 ht rfl rfl
 split
 .unfold acl
  split
  .exact same
  split
  .exact same
  simp only
  have i1:vq b ({s with hub:=(aea s.hub c.key c.ack).1}:Sto):=⟨i.tree,i.tbl,aet i.hub,i.ep,i.mem⟩
  split
  .refine akt (b:=b+1) (h.tbl z7 ht aoV rfl) z7 ?_ z7
   exact⟨i'.tree,aik i'.tbl,aet i'.hub,i'.ep,i'.mem⟩
  .have h1:yl b ({s with hub:=(aea s.hub c.key c.ack).1}:Sto):=h.tbl z7 ht rfl rfl
   have h2:=atp (c:=c) i1 hb h1
   refine h2.tbl z7 ?_ arV rfl
   exact ae3 (amd (c:=c) i1 hb).tbl
 .exact same
def uZ(home:Str)(owner:Int)(a a':St):Prop:= ∀k n',a'.lookup k=some n'->n'.own=0\/(n'.own=owner/\qu k=some home)\/∃ n,a.lookup k=some n/\n.own=n'.own
theorem uZ.refl(a:St):uZ home owner a a:=fun k n h=> .inr (.inr ⟨n,h,rfl⟩)
theorem uZ.trans{b c:St}(h:uZ home owner a b)(k:uZ home owner b c):uZ home owner a c:=fun x n hn=>by
 rcases k x n hn with e | e | ⟨m,h1,h2⟩
 .exact .inl e
 .exact .inr (.inl e)
 .rw[<-h2];exact h x m h1
theorem alF{k:Str}(h:(a'.lookup k).map (·.own)=(a.lookup k).map (·.own))(hn:a'.lookup k=some n'):∃ n,a.lookup k=some n/\n.own=n'.own:=by
 rw[hn]at h
 cases e:a.lookup k with
 | none=>rw[e]at h;cases h
 | some n=>rw[e]at h;simp at h;exact⟨n,rfl,h.symm⟩
theorem aqE{o:Int}(hu:∀ u,qv p=some u->qu u=some home)(ho:o=0\/o=owner):uZ home owner a (wo a p d o seq).1:=by
 have hout:=alz (d:=d) (a:=a) (o:=o) (seq:=seq) hu
 intro k n' hn'
 by_cases hk:qu k=some home
 .rcases ag7 a p d o seq with⟨e,_,he⟩ | ⟨q,u,n,he,_⟩
  .rw[he]at hn';exact .inr (.inr ⟨n',hn',rfl⟩)
  .rw[he]at hn'
   simp only at hn'
   have h2:=aew (st:=a++[(q,(⟨0,0,o,0,d⟩:Nd))]) (u:=u) (f:=jg) (fun n=>rfl) k
   rw[hn',aaT]at h2
   cases e:a.lookup k with
   | some m=>rw[e]at h2;simp at h2;exact .inr (.inr ⟨m,rfl,h2.symm⟩)
   | none=>
    rw[e]at h2
    by_cases c:k=q
    .simp[c]at h2
     rcases ho with h | h
     .exact .inl (by rw[h2,h])
     .exact .inr (.inl ⟨by rw[h2,h],hk⟩)
    .simp[c]at h2
 .exact .inr (.inr ⟨n',by rw[<-hout k hk];exact hn',rfl⟩)
theorem aqF(hk:(a.map (·.1)).Nodup):uZ home owner a (wq a p v).1:=by
 rcases uS a p v with⟨e,_,he⟩ | ⟨n,u,he,_⟩
 .rw[he];exact uZ.refl a
 .rw[he]
  intro k n' hn'
  simp only at hn'
  rw[yh (by rw[xA];exact hk)]at hn'
  split at hn'
  .cases hn'
  .exact .inr (.inr (alF (aew (f:=xX) (fun n=>rfl) k) hn'))
theorem atq:uZ home owner a (xd a p d v).1:=by
 rcases agF a p d v with⟨e,_,he⟩ | ⟨n,he,_⟩
 .rw[he];exact uZ.refl a
 .rw[he]
  intro k n' hn'
  exact .inr (.inr (alF (aew (f:=ad3 d) (fun n=>rfl) k) hn'))
theorem atr(hw:zh home o=0)(hka:(a.map (·.1)).Nodup):uZ home owner a (xu owner a o).1:=by
 obtain⟨h1,h2⟩:=ahe hw
 unfold xu
 split
 .exact aqE (h2 z7) (by split<;>simp)
 .split
  .exact aqF hka
  .split
   .exact atq
   .exact uZ.refl a
theorem auL(hk:(w.st.map (·.1)).Nodup):uZ home owner w.st (doE home owner qn qb w o).2.st:=by
 by_cases hc:zh home o=0
 .have:=atr (owner:=owner) hc hk
  unfold doE
  rw[ma (j2 hc)]
  split
  .exact this
  .split
   .exact this
   .exact this
 .unfold doE
  rw[mc hc]
  exact uZ.refl _
theorem aqG:∀ {os:List MOp} {i b:Nat} {w v:um},wm b w.st->b+os.length<=4398046511103->vp home owner qn qb os i w= .inr v->uZ home owner w.st v.st:=by
 intro os
 induction os with
 | nil=>intro i b w v _ _ h;cases h;exact uZ.refl _
 | cons o os ih=>
  intro i b w v h1 hb h
  simp only[mx]at hb
  unfold vp at h
  split at h
  .cases h
  .exact(auL (home:=home) (owner:=owner) (qn:=qn) (qb:=qb) (o:=o) h1.inv.keys).trans (ih (afN h1 z7) z7 h)
theorem aqH(ha:wm b a)(hb:b<=4398046511000):uZ home owner a (qZ a home owner qn qb ops).st:=by
 unfold qZ
 split
 .exact uZ.refl a
 .split
  .exact uZ.refl a
  .cases e:vp home owner qn qb ops 0 ⟨srt a,[],[]⟩with
   | inl x=>exact uZ.refl a
   | inr w=>
    have:=aqG (adm ha) z7 e
    intro k n' hn'
    rcases this k n' hn' with h | h | ⟨n,h1,h2⟩
    .exact .inl h
    .exact .inr (.inl h)
    .exact .inr (.inr ⟨n,by rw[<-afI ha.inv.keys k];exact h1,h2⟩)
theorem ats{h:xl}{s:yv}(h1:qy t k.1=some h)(h2:1<=k.2)(h3:k.2<=h.last)(h4:qy h.live k.2=some s):jG t k=(0,some s):=by
 unfold jG
 rw[h1]
 simp only
 rw[ma z7,h4]
def kC(t:Tbl)(k:Str×Int):Prop:= ∃s,jG t k=(0,some s)
theorem uJ:kC t k↔∃ h s,qy t k.1=some h/\1<=k.2/\k.2<=h.last/\qy h.live k.2=some s:=by
 constructor
 .rintro⟨s,hs⟩
  obtain⟨_,h,h1,h2,h3,h4⟩:=aij hs
  exact⟨h,s,h1,h2,h3,h4⟩
 .rintro⟨h,s,h1,h2,h3,h4⟩
  exact⟨s,ats h1 h2 h3 h4⟩
theorem amZ{s:yv}(h:kC t k'):kC (agj t k s) k':=by
 obtain⟨hh,x,h1,h2,h3,h4⟩:=uJ.1 h
 refine uJ.2 ?_
 unfold agj
 cases e:qy t k.1 with
 | none=>exact⟨hh,x,h1,h2,h3,h4⟩
 | some g=>
  simp only
  rw[adD]
  by_cases c:k'.1=k.1
  .rw[mc c]
   rw[c,e]at h1;cases h1
   by_cases d:k'.2=k.2
   .exact⟨_,s,rfl,h2,h3,by simp only;rw[adD,mc d]⟩
   .exact⟨_,x,rfl,h2,h3,by simp only;rw[adD,ma d];exact h4⟩
  .rw[ma c]
   exact⟨hh,x,h1,h2,h3,h4⟩
theorem am0(i:vK b t)(h:kC t k')(hne:k'≠k):kC (afp t k) k':=by
 obtain⟨hh,x,h1,h2,h3,h4⟩:=uJ.1 h
 refine uJ.2 ?_
 unfold afp
 cases e:qy t k.1 with
 | none=>exact⟨hh,x,h1,h2,h3,h4⟩
 | some g=>
  simp only
  rw[adD]
  by_cases c:k'.1=k.1
  .rw[mc c]
   rw[c,e]at h1;cases h1
   have d:k'.2≠k.2:=fun d=>hne (Prod.ext c d)
   exact⟨_,x,rfl,h2,h3,by simp only;rw[arC (agm i e).2.keys,ma d];exact h4⟩
  .rw[ma c]
   exact⟨hh,x,h1,h2,h3,h4⟩
theorem alG(h:kC t k):kC (vm t home nonce lease).1 k:=by
 obtain⟨hh,x,h1,h2,h3,h4⟩:=uJ.1 h
 unfold vm
 split
 .exact h
 split
 .exact h
 split
 .exact h
 split
 .exact h
 split
 .exact h
 refine uJ.2 ?_
 simp only
 rw[adD]
 by_cases c:k.1=home
 .rw[mc c]
  have e:qQ t home=hh:=by unfold qQ;rw[<-c,h1];try rfl
  rw[e]
  unfold alp
  exact⟨_,x,rfl,h2,(by simp only;omega),by simp only;rw[adD,ma z7];exact h4⟩
 .rw[ma c]
  exact⟨hh,x,h1,h2,h3,h4⟩
theorem aoX(h:kC t k'):kC (abc t k).1 k':=by
 unfold abc
 split
 .exact amZ h
 .exact h
theorem arY(h:kC t k'):kC (ad8 t k req d).1 k':=by
 unfold ad8
 split
 .split
  .exact h
  .split
   .exact h
   .exact amZ h
 .exact h
theorem aoY(h:(kK t k req).2.2=0):kC t k:=by
 unfold kK at h
 rcases abi t k with⟨s,e⟩ | ⟨x,hx,e⟩
 .exact⟨s,e⟩
 .rw[e]at h;simp only at h;rcases hx with rfl | rfl<;>cases h
theorem aqI{l:List Str}(h:l.Pairwise fun a b=>b<a):l.Nodup:=List.Pairwise.imp (fun{a b} (hab:b<a) (e:a=b)=>ad5 b (by rw[e]at hab;exact hab)) h
def Eph(s:Sto):Prop:= ∀k n,s.tree.lookup k=some n->n.own≠0->∃ h,qu k=some h/\kC s.tbl (h,n.own)
theorem akQ(h:Eph s)(he:s'.tree=s.tree)(hl:∀ k,kC s.tbl k->kC s'.tbl k):Eph s':=fun k n hk ho=>by
 rw[he]at hk
 obtain⟨x,h1,h2⟩:=h k n hk ho
 exact⟨x,h1,hl _ h2⟩
theorem am1(h:Eph s)(i:vq b s)(hb:b<=33554433)(hl:∀ q,q≠k->kC s.tbl q->kC t' q):Eph (aeZ {s with tbl:=t'} k):=fun p n hp ho=>by
 unfold aeZ at hp⊢
 simp only at hp⊢
 have hnd:(yW s.tree [k.2]).Nodup:=aqI (aoS i.tree.inv.keys)
 have hlen:=aiy (st:=s.tree) (ws:=[k.2])
 have htl:=i.tree.len
 obtain⟨_,h2,_,h4⟩:=avl (home:=k.1) (yW s.tree [k.2]) (a:=(s.tree,[])) i.tree z7 hnd fun q hq=>by
  obtain⟨m,h1,h2,_⟩:=amW hq
  exact⟨m,h1,h2⟩
 obtain⟨m,hm,hown⟩:=h2 p n hp
 simp only at hm
 obtain⟨x,hx,hv⟩:=h p m hm (by rw[hown];exact ho)
 refine⟨x,hx,?_⟩
 rw[hown]at hv
 refine hl _ (fun e=>?_) hv
 have e1:x=k.1:=mh Prod.fst e
 have e2:n.own=k.2:=mh Prod.snd e
 have hin:p∈yW s.tree [k.2]:=(aqA i.tree.inv.keys).2 (aks.2 ⟨m,hm,by rw[hown];exact ho,by rw[hown,e2];simp⟩)
 have:=h4 p hin (by rw[hx,e1];try rfl)
 unfold yX at hp
 rw[hp]at this;cases this
theorem att(i:vq b s)(hb:b<=33554432)(hh:yl b s)(h:Eph s):Eph (aci s c).1:=by
 unfold aci
 split
 .exact h
 .rename_i h0
  have h0:(vm s.tbl c.home c.nonce c.lease).2.2=0:=by simpa using h0
  have hn:=alE h0
  simp only
  split
  .rename_i hc
   have hl':s.tree.lookup (47::c.home)=none:=by simpa using hc.2
   obtain⟨n,hr⟩:=i.tree.inv.root
   have hrc:=hh.rt n hr
   intro k m hk ho
   simp only at hk⊢
   rw[ahg i.tree hn hr z7 hl']at hk
   simp only at hk
   have h2:=aew (st:=s.tree++[(47::c.home,(⟨0,0,0,0,[]⟩:Nd))]) (u:=[47]) (f:=jg) (fun n=>rfl) k
   rw[hk,aaT]at h2
   cases e:s.tree.lookup k with
   | some m'=>
    rw[e]at h2
    simp at h2
    obtain⟨x,h3,h4⟩:=h k m' e (by rw[<-h2];exact ho)
    exact⟨x,h3,alG (by rw[h2];exact h4)⟩
   | none=>
    rw[e]at h2
    by_cases d:k=47::c.home
    .simp[d]at h2;exact mu h2 ho
    .simp[d]at h2
  .exact akQ (s:=s) h rfl fun k hk=>alG hk
theorem avn(i:vq b s)(hb:b<=33554432)(h:Eph s)(hk:kC s.tbl c.key):Eph (doS s c).1:=by
 unfold doS
 split
 .exact akQ (s:=s) h rfl fun k hk=>aoX hk
 split
 .unfold agk
  intro k n hn ho
  simp only at hn⊢
  rcases aqH (home:=c.home) (owner:=c.session) (qn:=64) (qb:=8192) (ops:=c.ops) i.tree z7 k n hn with e | ⟨e1,e2⟩ | ⟨m,h1,h2⟩
  .exact mu e ho
  .exact⟨c.home,e2,by rw[e1];exact hk⟩
  .obtain⟨x,h3,h4⟩:=h k m h1 (by rw[h2];exact ho)
   exact⟨x,h3,by rw[<-h2];exact h4⟩
 split
 .unfold adn
  split
  .exact h
  .split
   .exact h
   .exact h
 split
 .unfold aaZ
  split
  .exact h
  .split
   .exact h
   .split
    .exact h
    .exact h
 .exact h
theorem arZ(i:vq b s)(hb:b<=33554432)(hh:yl b s)(h:Eph s):Eph (pS s c).1:=by
 have i':vq (b+1) s:=⟨i.tree.mono z7,i.tbl.mono z7,i.hub.mono z7,by have:=i.ep;omega,i.mem⟩
 unfold pS
 split
 .exact att i hb hh h
 split
 .split
  .refine am1 (s:=s) h i' z7 fun q hq hl=>?_
   unfold ky
   split
   .split
    .exact am0 i.tbl hl hq
    .exact hl
   .exact hl
  .exact h
 split
 .unfold acj
  split
  .exact h
  .split
   .exact h
   .exact h
 split
 .unfold acl
  split
  .exact h
  rename_i h0
  split
  .exact h
  have hv:=aoY (j2 h0)
  simp only
  have i1:vq b ({s with hub:=(aea s.hub c.key c.ack).1}:Sto):=⟨i.tree,i.tbl,aet i.hub,i.ep,i.mem⟩
  split
  .have i2:vq (b+1) ({s with hub:=(aea s.hub c.key c.ack).1}:Sto):=⟨i'.tree,i'.tbl,aet i'.hub,i'.ep,i'.mem⟩
   refine am1 (s:={s with hub:=(aea s.hub c.key c.ack).1}) h i2 z7 fun q hq hl=>?_
   unfold aav
   split
   .exact am0 i.tbl hl hq
   .exact hl
  .have h1:Eph ({s with hub:=(aea s.hub c.key c.ack).1}:Sto):=h
   exact akQ (avn (c:=c) i1 hb h1 hv) rfl fun k hk=>arY hk
 .exact h
end Zt
namespace Zt
open Go SL G Pa Wi
variable{B:World}{ro I I':AH}{tag tag':Nat->Nat}
section
variable{T M b0:Nat}{bs:List Nat}{t:Tbl}
theorem atu{Q:Sl->AH->Prop}(q:Nat)(h:wF tag I T M bs t)(hi:vK b0 t)(hb0:b0<=33554433)
  (hQ:∀ s tag' I' (ks:List Str),(∀R,qd R ro tag I tag' I')->ks.Perm (t.map (·.1))->Row tag' I' q 9 s (ks.map Pa.vS)->Q s I'):aao B ro (some ⟨T,0,none⟩) I Q:=by
 refine ahc fun hs=>?_
 unfold aaA
 refine⟨_,rfl,some M,h.cell.cell1 hs,?_⟩
 refine as2 (tag:=tag) fun gb tag1 I1 st1 r1=>?_
 have h1:=h.fresh st1
 have hk:=abS t bs h.map.len
 refine aqk (tag:=tag1) q r1 h1.map.map (by rw[hk];exact h.map.keys) (fun p hp=>?_) (by rw[alW t bs h.map.len];have:=hi.len;omega) fun s tag2 I2 ks st2 hp hsrt r2=>?_
 .have:p.1∈(kvP t bs).map (·.1):=mC.2 ⟨p,hp,rfl⟩
  rw[hk]at this
  have:=aaQ (ae3 hi p.1 this)
  omega
 .rw[hk]at hp
  exact hQ s tag2 I2 ks (fun R=>(st1 R).trans (st2 R)) hp r2
theorem aqJ{b m:Nat}{cs:List Nat}{home:Str}{h:xl}{Q:Sl->AH->Prop}(q:Nat)(row:Row tag I (rH b) 254 ⟨some ⟨b,0,none⟩,2,2⟩ [vI h.last,.map (some m)])(map:yq kI (aed tag I b home) tag I (rL b) m cs h.live)(hi:adC b0 h)(hb0:b0<=33554433)
  (hQ:∀ s tag' I' (ns:List Int),(∀R,qd R ro tag I tag' I')->ns.Perm (h.live.map (·.1))->Row tag' I' q 3 s (ns.map vI)->Q s I'):ui B ro (some ⟨b,0,none⟩) I Q:=by
 refine ago fun hs=>?_
 unfold uo
 refine⟨_,rfl,some m,(row.read hs).2.2 _ rfl 1 _ rfl,?_⟩
 refine as3 (tag:=tag) fun gb tag1 I1 st1 r1=>?_
 have hk:=abS h.live cs map.len
 refine aql (tag:=tag1) q r1 (map.map.keep (st1 [])) (by rw[hk];exact map.keys) (fun p hp=>?_) (by rw[alW h.live cs map.len];have:=hi.len;omega) fun s tag2 I2 ns st2 hp hsrt r2=>?_
 .have:p.1∈(kvP h.live cs).map (·.1):=mC.2 ⟨p,hp,rfl⟩
  rw[hk]at this
  obtain⟨y,hy,e⟩:=mC.1 this
  have:=hi.rng y hy
  have:=hi.last
  rw[<-e];omega
 .rw[hk]at hp
  exact hQ s tag2 I2 ns (fun R=>(st1 R).trans (st2 R)) hp r2
abbrev amn(p:Str×Int):List Value:=[Pa.vS p.1,vI p.2]
theorem atv{Q:Sl->AH->Prop}(h:wF tag I T M bs t)(hi:vK b0 t)(hb0:b0<=33554433)
  (hQ:∀ s tag' I' (ks:List (Str×Int)),StepS [0,20,21,22] ro tag I tag' I'->(∀p,kC t p->p∈ks)->(∀p∈ks,kC t p)->ks.length<=2147483712->qm tag' I' 22 81 2 s (ks.map amn)->Q s I'):aaN B ro (some ⟨T,0,none⟩) nS I Q:=by
 refine ahB fun hs=>?_
 unfold aa4
 refine atu (tag:=tag) 20 h hi hb0 fun hsl tag1 I1 hm st1 hperm r1=>?_
 have hln:hsl.len=hm.length:=by rw[r1.len,mi]
 have hml:hm.length=t.length:=by rw[hperm.length_eq,mi]
 have htl:=hi.len
 suffices∀m j (s:Sl) (ks:List (Str×Int)) tag2 I2,j+m=hm.length->StepS [0,20,21,22] ro tag I tag2 I2->Row tag2 I2 20 9 hsl (hm.map Pa.vS)->wF tag2 I2 T M bs t->qm tag2 I2 22 81 2 s (ks.map amn)->(∀p,kC t p->p.1∈hm.take j->p∈ks)->(∀p∈ks,kC t p)->ks.length<=64*j->lfpD (kz B ro (some ⟨T,0,none⟩) nS hsl Q) (s,(j:Int)) I2 from
  this _ 0 nS [] tag1 I1 (ml _) (qq st1) r1 (h.fresh st1) (qm.nil _ _ _) (fun p _ hp=>by simp at hp) (fun p hp=>by cases hp) (Nat.zero_le _)
 intro m
 induction m with
 | zero=>
  intro j s ks tag2 I2 hj st2 r2 h2 k2 a1 a2 a3
  refine lfpD.intro ?_
  unfold kz
  simp only
  rw[ma z7]
  unfold yL
  refine hQ s tag2 I2 ks st2 (fun p hp=>a1 p hp ?_) a2 z7 k2
  rw[mH z7]
  obtain⟨x,_,g1,_⟩:=uJ.1 hp
  exact hperm.mem_iff.2 (mC.2 ⟨_,yr g1,rfl⟩)
 | succ m ih=>
  intro j s ks tag2 I2 hj st2 r2 h2 k2 a1 a2 a3
  have hjl:j<hm.length:=by omega
  have hs2:=st2.sep
  obtain⟨p,hp,hg⟩:=r2.ptr hs2 j0
  have hmem:hm[j]∈t.map (·.1):=hperm.mem_iff.1 (mG hjl)
  have etk:hm.take (j+1)=hm.take j++[hm[j]]:=by rw[mN,md hjl];try rfl
  have hcell:=hg j (Pa.vS hm[j]) (by rw[mg,md hjl];try rfl)
  generalize hm[j]=home at hmem etk hcell
  refine lfpD.intro ?_
  generalize hY:lfpD (kz B ro (some ⟨T,0,none⟩) nS hsl Q)=Y0 at ih⊢
  unfold kz
  simp only
  rw[mc z7]
  refine⟨p,hp,z7,z7,S home,by rw[mr];exact hcell,?_⟩
  rw[ma z8]
  unfold xv
  rw[ma z8]
  refine⟨_,rfl,some M,h2.cell.cell1 hs2,?_⟩
  refine zX (k:=home) h2.map.map hs2 adG (ajw u9) amk ?_
  rcases h2.map.look home with⟨b1,_⟩ | ⟨i,b,hh,hb,hpp,b3,b4,mm,cs,row,map⟩
  .exact mu hmem (kR.1 b1)
  rw[b4]
  refine⟨some ⟨b,0,none⟩,rfl,?_⟩
  have hok:=(hi.ok _ (yr b3)).2
  refine aqJ (tag:=tag2) 21 row map hok hb0 fun nsl tag3 I3 ns st3 nperm r3=>?_
  have hnl:nsl.len=ns.length:=by rw[r3.len,mi]
  have hns:ns.length<=64:=by rw[nperm.length_eq,mi];exact hok.len
  have k3:StepS [0,20,21,22] ro tag I tag3 I3:=st2.trans (qq st3)
  suffices∀m' i (s:Sl) (ks':List (Str×Int)) tag4 I4,i+m'=ns.length->StepS [0,22] ro tag3 I3 tag4 I4->Row tag4 I4 21 3 nsl (ns.map vI)->qm tag4 I4 22 81 2 s (ks'.map amn)->(∀p,kC t p->p.1∈hm.take j->p∈ks')->(∀n∈ns.take i,(home,n)∈ks')->(∀p∈ks',kC t p)->ks'.length<=64*j+i->lfpD (kg B ro (some ⟨T,0,none⟩) nS hsl (j:Int) (S home) nsl Q Y0) (s,(i:Int)) I4 from
   this _ 0 s ks tag3 I3 (ml _) (StepS.refl (st3 []).sep) r3 (qm.keep k2 (st3 [])) a1 (fun n hn=>by simp at hn) a2 z7
  intro m'
  induction m' with
  | zero=>
   intro i s ks' tag4 I4 hi' st4 r4 k4 c1 c2 c3 c4
   refine lfpD.intro ?_
   unfold kg
   simp only
   rw[ma z7]
   unfold xO
   rw[Pa.inc j z7]
   refine ih (j+1) s ks' tag4 I4 z7 (k3.trans (st4.mono z8)) ((r2.keep (st3 [])).keepS st4) ((h2.fresh st3).keepS st4) k4 (fun p hl hp=>?_) c3 z7
   rw[etk]at hp
   rcases mt.1 hp with hp | hp
   .exact c1 p hl hp
   .have e:p.1=home:=mo.1 hp
    obtain⟨x,y,g1,_,_,g4⟩:=uJ.1 hl
    rw[e,b3]at g1
    cases g1
    have:=c2 p.2 (by rw[mH z7];exact nperm.mem_iff.2 (mC.2 ⟨_,yr g4,rfl⟩))
    rw[<-e]at this
    exact this
  | succ m' ih'=>
   intro i s ks' tag4 I4 hi' st4 r4 k4 c1 c2 c3 c4
   have hil:i<ns.length:=by omega
   have hs4:=st4.sep
   obtain⟨p',hp',hg'⟩:=r4.ptr hs4 j0
   have hcell':=hg' i (vI ns[i]) (by rw[mg,md hil];try rfl)
   have hnm:ns[i]∈hh.live.map (·.1):=nperm.mem_iff.1 (mG hil)
   have etn:ns.take (i+1)=ns.take i++[ns[i]]:=by rw[mN,md hil];try rfl
   generalize ns[i]=n at hcell' hnm etn
   refine lfpD.intro ?_
   generalize hZ:lfpD (kg B ro (some ⟨T,0,none⟩) nS hsl (j:Int) (S home) nsl Q Y0)=Z0 at ih'⊢
   unfold kg
   simp only
   rw[mc z7]
   refine⟨p',hp',z7,z7,n,by rw[mr];exact hcell',?_⟩
   refine qh (tag:=tag4) 0 hs4 fun y tag5 I5 st5 r5=>?_
   refine xZ (l2:=[amn (home,n)]) (qm.keep k4 (st5 [])) (st5 []).sep (Row.readW1 r5 (st5 []).sep rfl y0) (t:=178) y1 wQ rfl (by simp[qf]) j0 y0 fun sn tag6 I6 st6 r6=>?_
   have st6':=st6 [22] (.inr z8)
   refine⟨sn,rfl,?_⟩
   rw[Pa.inc i z7]
   refine ih' (i+1) sn (ks'++[(home,n)]) tag6 I6 z7 (st4.trans ((qq st5).trans (st6'.s z8))) ((r4.keep (st5 [])).keep st6') (by rw[mB];exact r6) (fun p hl hp=>by simp[c1 p hl hp]) (fun x hx=>?_) (fun p hp=>?_) j0
   .rw[etn]at hx
    rcases mt.1 hx with hx | hx
    .simp[c2 x hx]
    .rw[mo.1 hx];simp
   .rcases mt.1 hp with hp | hp
    .exact c3 p hp
    .rw[mo.1 hp]
     obtain⟨y,hy,e⟩:=mC.1 hnm
     have rg:=hok.rng y hy
     have rg':1<=n/\n<=hh.last:=by rw[<-e];exact rg
     exact uJ.2 ⟨hh,y.2,b3,rg'.1,rg'.2,by
      have:=ah1 map.keys (k:=y.1) (a:=y.2) hy
      rw[<-e];exact this⟩
abbrev aiA(y:Str×Int×Int×Int×Int×Int×Sl):List Value:=[Pa.vS y.1,vI y.2.1,vI y.2.2.1,vI y.2.2.2.1,vI y.2.2.2.2.1,vI y.2.2.2.2.2.1,Sl.v y.2.2.2.2.2.2]
theorem auM{home:Str}{n:Int}{Q:ByteArray->Int->Int->Int->Int->Int->Sl->Int->AH->Prop}(h:wF tag I T M bs t)(hi:vK b0 t)(hl:kC t (home,n))
  (hQ:∀ nonce lease beats req d tag' I',StepS [0,26,27] ro tag I tag' I'->Q (S home) n nonce lease beats req d 0 I'):abk B ro (some ⟨T,0,none⟩) (S home) n I Q:=by
 refine ait fun hs=>?_
 unfold abv
 refine qh (tag:=tag) 0 hs fun X tag1 I1 st1 x1=>?_
 refine qh (tag:=tag1) 26 (st1 []).sep fun Y tag2 I2 st2 y2=>?_
 have x2:=x1.keep (st2 [])
 refine⟨S home,n,qr (x2.read (st2 []).sep) rfl,?_⟩
 refine aev ((h.fresh st1).fresh st2) (fun e he hne tag3 I3 st3 h3=>?_) fun i b hh m cs j c s tag3 I3 st3 h3 f=>?_
 .obtain⟨x,hx⟩:=hl
  rw[hx]at he;cases he
 rw[ma z8]
 have hs3:=(st3 []).sep
 have ef:=(f.look h3).2.2
 obtain⟨d,row,rd⟩:=f.sess
 have y3:=y2.keep (st3 [])
 refine⟨_,rfl,S home,n,s.nonce,s.lease,s.beats,s.req,d,qr (row.read hs3) rfl,?_⟩
 refine kq (tag:=tag3) 27 hs3 rfl (by simp[qf,Sl.v]) fun Z tag4 I4 st4 z4=>?_
 have hs4:=(st4 []).sep
 have row4:=row.keep (st4 [])
 refine⟨_,rfl,d,(row4.read hs4).2.2 _ rfl 6 _ rfl,?_⟩
 have hrl:s.reply.length<=1048576:=(afO hi ef).reply
 refine aaS (tag:=tag4) ((rd.keep (st4 [])).read hs4) hs4 j0 (by simp[qf,vU]) fun d' tag5 I5 st5 r5=>?_
 refine(z4.keep (st5 [])).stAt [Sl.v d'] 6 (st5 []).sep z8 (by simp[qf,Sl.v]) fun I6 st6 z6=>?_
 have z6':Row tag5 I6 27 83 ⟨some ⟨Z,0,none⟩,7,7⟩ (aiA (home,n,s.nonce,s.lease,s.beats,s.req,d')):=z6
 refine⟨_,_,_,_,_,_,_,qr (z6'.read st6.sep) rfl,?_⟩
 refine(((y3.keep (st4 [])).keep (st5 [])).keep st6).stPre (aiA (home,n,s.nonce,s.lease,s.beats,s.req,d')) 0 _ I6 st6.sep z8 (by simp[qf,Sl.v]) fun I7 st7 y7=>?_
 have y7':Row tag5 I7 26 83 ⟨some ⟨Y,0,none⟩,7,7⟩ (aiA (home,n,s.nonce,s.lease,s.beats,s.req,d')):=y7
 refine⟨_,_,_,_,_,_,_,qr (y7'.read st7.sep) rfl,?_⟩
 exact hQ s.nonce s.lease s.beats s.req d' tag5 I7 ((qq st1).trans ((qq st2).trans ((qq st3).trans ((qq st4).trans ((qq st5).trans ((st6.s z8).trans (st7.s z8)))))))
abbrev CSs:List Nat:=[0,20,21,22,25,26,27]
theorem aoZ{W:Nat}{s:Sto}{Q:Sl->AH->Prop}(h:abD tag I W s)(i:vq b0 s)(hb0:b0<=33554433)
  (hQ:∀ sl tag' I' (L:List (Str×Int×Int×Int×Int×Int×Sl)),StepS CSs ro tag I tag' I'->(∀p,kC s.tbl p->∃ y∈L,y.1=p.1/\y.2.1=p.2)->L.length<=2147483712->qm tag' I' 25 83 7 sl (L.map aiA)->Q sl I'):ye B ro (some ⟨W,0,none⟩) I Q:=by
 obtain⟨T,Tt,Th,ms,h⟩:=h.in
 refine agt fun hs=>?_
 unfold uW
 obtain⟨M,bs,tb⟩:=h.tbl
 refine⟨_,rfl,some ⟨Tt,0,none⟩,(h.own.read hs).2.2 _ rfl 3 _ rfl,?_⟩
 refine atv tb i.tbl hb0 fun ksl tag1 I1 ks st1 a1 a2 a3 k1=>?_
 have hln:ksl.len=ks.length:=by rw[k1.len,mi]
 suffices∀m j (sl:Sl) (L:List (Str×Int×Int×Int×Int×Int×Sl)) tag2 I2,j+m=ks.length->StepS CSs ro tag I tag2 I2->qm tag2 I2 22 81 2 ksl (ks.map amn)->Row tag2 I2 54 153 ⟨some ⟨W,0,none⟩,5,5⟩ [vI s.epoch,Sl.v ms,ptr T,ptr Tt,ptr Th]->wF tag2 I2 Tt M bs s.tbl->(∀p∈ks.take j,∃y∈L,y.1=p.1/\y.2.1=p.2)->L.length=j->qm tag2 I2 25 83 7 sl (L.map aiA)->lfpD (vN B ro (some ⟨W,0,none⟩) ksl Q) (sl,(j:Int)) I2 from
  this _ 0 nS [] tag1 I1 (ml _) (st1.mono y0) k1 (h.own.keepS st1) (tb.keepS st1) (fun p hp=>by simp at hp) rfl (qm.nil _ _ _)
 intro m
 induction m with
 | zero=>
  intro j sl L tag2 I2 hj st2 k2 o2 t2 c1 c2 l2
  refine lfpD.intro ?_
  unfold vN
  simp only
  rw[ma z7]
  unfold jI
  rw[mH z7]at c1
  exact hQ sl tag2 I2 L st2 (fun p hp=>c1 p (a1 p hp)) z7 l2
 | succ m ih=>
  intro j sl L tag2 I2 hj st2 k2 o2 t2 c1 c2 l2
  have hjl:j<ks.length:=by omega
  have hs2:=st2.sep
  obtain⟨q,hq,hc⟩:=(k2.read hs2).at (j:=j) (x:=amn ks[j]) (by rw[mg,md hjl];try rfl)
  have hlv:kC s.tbl ks[j]:=a2 _ (mG hjl)
  have etk:ks.take (j+1)=ks.take j++[ks[j]]:=by rw[mN,md hjl];try rfl
  generalize ks[j]=k at hc hlv etk
  obtain⟨home,n⟩:=k
  refine lfpD.intro ?_
  generalize hY:lfpD (vN B ro (some ⟨W,0,none⟩) ksl Q)=Y0 at ih⊢
  unfold vN
  simp only
  rw[mc z7]
  refine⟨q,hq,z7,z7,S home,n,by rw[mr];exact hc,?_⟩
  refine kq (tag:=tag2) 0 hs2 rfl (by simp[qf]) fun X tag3 I3 st3 x3=>?_
  have hs3:=(st3 []).sep
  have o3:=o2.keep (st3 [])
  refine⟨_,rfl,some ⟨Tt,0,none⟩,(o3.read hs3).2.2 _ rfl 3 _ rfl,S home,n,qr (x3.read hs3) rfl,?_⟩
  refine auM (t2.fresh st3) i.tbl hlv fun nonce lease beats req d tag4 I4 st4=>?_
  refine kq (tag:=tag4) 0 st4.sep rfl (by simp[qf,Sl.v]) fun Z tag5 I5 st5 z5=>?_
  have z5':Row tag5 I5 0 83 ⟨some ⟨Z,0,none⟩,7,7⟩ (aiA (home,n,nonce,lease,beats,req,d)):=z5
  refine⟨_,_,_,_,_,_,_,qr (z5'.read (st5 []).sep) rfl,?_⟩
  refine qh (tag:=tag5) 0 (st5 []).sep fun y tag6 I6 st6 y6=>?_
  have k26:StepS [0,26,27] ro tag2 I2 tag6 I6:=(qq st3).trans (st4.trans ((qq st5).trans (qq st6)))
  refine xZ (l2:=[aiA (home,n,nonce,lease,beats,req,d)]) (qm.keepS l2 k26) (st6 []).sep (Row.readW1 y6 (st6 []).sep rfl y0) (t:=78) y1 aal rfl (by simp[qf,Sl.v]) j0 y0 fun sn tag7 I7 st7 l7=>?_
  have st7':=st7 [25] (.inr z8)
  have k27:StepS [0,25,26,27] ro tag2 I2 tag7 I7:=(k26.mono y0).trans (st7'.s z8)
  refine⟨sn,rfl,?_⟩
  rw[Pa.inc j z7]
  refine ih (j+1) sn (L++[(home,n,nonce,lease,beats,req,d)]) tag7 I7 z7 (st2.trans (k27.mono y0)) (qm.keepS k2 k27) (o2.keepS k27) (t2.keepS k27) (fun p hp=>?_) (by simp[c2]) (by rw[mB];exact l7)
  rw[etk]at hp
  rcases mt.1 hp with hp | hp
  .obtain⟨y,hy,e⟩:=c1 p hp
   exact⟨y,by simp[hy],e⟩
  .rw[mo.1 hp]
   exact⟨_,mt.2 (.inr (mo.2 rfl)),rfl,rfl⟩
end