import Derived.Shelf.SlIterI.Nil
import Derived.Shelf.SortM.Plain
import Derived.Shelf.SortM.SortNone
import Derived.Ground.GgzProg
import Derived.Ground.SlgmProg
import Derived.Test.YtomdigihapdhnaaGreatDoorProg
import Derived.Test.YtomdigihapdhnaaGreatDoorXN
set_option linter.all false
set_option maxRecDepth 99999
set_option maxHeartbeats 0
open Go.IntKind(i64)
open Go.Proofs.Tryz
namespace Go.Proofs.YtomdigihapdhnaaGreatDoor.Zt
open Go SL G Pa Wi
variable{B:World}[Zd B]{ro I I' I'':AH}{tag tag' tag'':Nat->Nat}
abbrev CTd:List Nat:=[16,30,55,56,57,58]
theorem arP{a0:Sl}{b:Str}{Q:Option Addr->Int->AH->Prop}(hr:SL.qU ro I a0 (b.map vU))(hl:b.length<=140737488355328)
  (hno:pd b=none->∀ tag' I',qi CTd ro tag I tag' I'->Q none 13 I')
  (hyes:∀ t,pd b=some t->∀ T tag' I',qi CTd ro tag I tag' I'->adX tag' I' T t->Q (some ⟨T,0,none⟩) 0 I'):aab B ro a0 I Q:=by
 refine aiu fun hs=>?_
 unfold acI
 refine agr fun hs0=>?_
 unfold acu
 refine aeV kS (tag:=tag) 119 hs0 fun M tag1 I1 st1 m1=>?_
 refine qr (tag:=tag1) 55 (st1 []).sep fun T tag2 I2 st2 r2=>?_
 have k2:∀ R,qd R ro tag I tag2 I2:=fun R=>(st1 R).trans (st2 R)
 have t2:pw tag2 I2 T M [] []:=⟨r2,ud.nil (m1.keep (st2 []))⟩
 refine ade (tag:=tag2) (r:=30) (hr.step (k2 [])) (st2 []).sep hl fun A tag3 I3 st3 rd3=>?_
 refine wW rd3 z8 (st3 []).sep fun I4 k4 rd4=>?_
 have s4:qi CTd ro tag I tag3 I4:=(wt k2).trans ((wt st3).trans (k4.s z7))
 have t4:pw tag3 I4 T M [] []:=(t2.keepS (wt (C:=[]) st3) z7).keepS (k4.s (C:=[30]) z7)
 have hbound:=km ⟨b,0⟩
 have ed:pd b=match aaY (qa ⟨b,0⟩).1 (qa ⟨b,0⟩).2 [] []with
  | none=>none
  | some (t,r)=>if r.err≠0\/0<r.rest.length then none else some t:=rfl
 suffices∀k xr (last:Str) acc bs tag1 I1,k<=(qa ⟨b,0⟩).1->aaY k xr last acc=aaY (qa ⟨b,0⟩).1 (qa ⟨b,0⟩).2 [] []->(∀p∈acc,¬last<p.1)->qi CTd ro tag I tag1 I1->vd tag1 I1 30 A xr->pw tag1 I1 T M bs acc->
   lfpD (xV B ro (some ⟨T,0,none⟩) (some ⟨A,0,none⟩) Q) (S last,(k:Int)) I1 from
  this _ _ [] [] [] tag3 I4 (mH _) rfl (fun p hp=>by cases hp) s4 rd4 t4
 clear s4 t4 rd4 rd3 k4 st3 t2 k2 st1 st2 r2 m1
 intro k
 induction k with
 | zero=>
  intro xr last acc bs tag1 I1 hk hx hacc st rd t
  refine lfpD.intro ?_
  unfold xV
  simp only
  rw[mc z6]
  unfold ur
  rw[<-hx]at ed
  simp only[aaY]at ed
  refine aeX rd st.sep ?_
  by_cases c:xr.err=0
  .rw[mc (j1 c)]
   refine aii rd st.sep ?_
   unfold xU
   by_cases c2:0<xr.rest.length
   .rw[me (mF z6)]
    exact hno (by rw[ed,me (.inr c2)]) tag1 I1 st
   .rw[mc (by rw[mL z6];simp)]
    exact hyes acc (by rw[ed,mc (by rintro(h | h);exact h c;exact c2 h)]) T tag1 I1 st ⟨M,bs,t⟩
  .rw[me c]
   unfold xU
   rw[me rfl]
   exact hno (by rw[ed,me (.inl c)]) tag1 I1 st
 | succ k ih=>
  intro xr last acc bs tag1 I1 hk hx hacc st rd t
  rw[aaY]at hx
  refine lfpD.intro ?_
  generalize hY:lfpD (xV B ro (some ⟨T,0,none⟩) (some ⟨A,0,none⟩) Q)=Y0 at ih⊢
  unfold xV
  simp only
  rw[me z6]
  refine ad8 rd z8 st.sep fun tag2 I2 k2 rd2=>?_
  have s2:qi CTd ro tag I tag2 I2:=st.trans (k2.s z7)
  have t2:=t.keepS (k2.s (C:=[30]) z7)
  generalize rblob xr=rb at hx rd2⊢
  obtain⟨home,xr2⟩:=rb
  simp only at hx rd2⊢
  have none13:aaY (qa ⟨b,0⟩).1 (qa ⟨b,0⟩).2 [] []=none->pd b=none:=fun e=>by rw[ed,e]
  refine apI rd2 k2.sep (fun e tag3 I3 st3=>?_) fun h x' e H tag3 I3 hH st3 rd3 hh=>?_
  .rw[e]at hx
   rw[me rfl]
   unfold xd
   rw[me (.inl rfl)]
   exact hno (none13 hx.symm) tag3 I3 (s2.trans (st3.mono z8))
  .rw[e]at hx
   simp only at hx
   rw[mc z7]
   have s3:qi CTd ro tag I tag3 I3:=s2.trans (st3.s.mono z8)
   refine agl ?_
   rw[L_S]
   unfold xd
   have hle:(zD (S home) (S last)=true\/S home=S last)↔home<=last:=by have:=uG (S home) (S last);rwa [L_S,L_S]at this
   by_cases c1:qV home=false
   .rw[me (.inl (by rw[c1];try rfl))]
    rw[me (.inl c1)]at hx
    exact hno (none13 hx.symm) tag3 I3 s3
   have c1:qV home=true:=by simpa using c1
   by_cases c2:last<home
   .rw[mc (by rw[c1];rintro(h | h);cases h;exact(List.not_lt.2 (hle.1 h)) c2)]
    rw[mc (by rw[c1];rintro(h | h);cases h;exact h c2)]at hx
    obtain⟨R,hR,_,kR⟩:=st3
    refine⟨_,rfl,some M,(t2.cell.keep kR hR.r55).cell1 s3.sep,?_⟩
    have g1:qS acc home=none:=by
     rw[zF]
     intro hmm
     obtain⟨p,hp,e'⟩:=my.1 hmm
     exact hacc p hp (by rw[e'];exact c2)
    have g2:qS (kvP acc bs) home=none:=by rw[zF,acB _ _ t.map.len,<-zF];exact g1
    refine adm (k:=home) (t2.map.map.keep kR hR.r119) s3.sep ae0 (amm u9) aom g2 fun stp I4 store=>?_
    refine⟨none,stp,rfl,?_⟩
    refine store _ _ fun I5 k5 m5=>?_
    have hnb:H∉bs:=fun hm'=>by
     obtain⟨i,hi',e⟩:=nv hm'
     obtain⟨m',cs',row',_⟩:=t2.map.at' i H _ _ (by rw[mh hi',e]) (mh (by rw[<-t2.map.len];exact hi'))
     obtain⟨_,o,ho⟩:=row'.tagOf
     rw[hH]at ho;cases ho
    rw[show i64.wrap (((k+1:Nat):Int) - 1)=(k:Int)from by rw[SL.qM z6 z6];omega]
    refine ih x' home (acc++[(home,h)]) (bs++[H]) tag3 I5 z6 hx (fun p hp=>?_) (s3.trans (k5.s z7)) (rd3.keep k5) ?_
    .rcases mt.1 hp with h' | h'
     .exact fun h2=>hacc p h' (List.lt_trans c2 h2)
     .rw[mK.1 h'];exact List.lt_irrefl _
    .rw[<-adx _ g1]
     refine⟨(t2.cell.keep kR hR.r55).keep k5,t2.map.add g1 m5 hnb (hh.keepS (k5.s (C:=[55]) z7)) fun i b' k' y hb' _ hy=>?_⟩
     exact(hy.other kR hR fun e=>hnb (by rw[<-e];exact nY hb')).keepS (k5.s (C:=[55]) z7)
   .rw[me (.inr (hle.2 (List.not_lt.1 c2)))]
    rw[me (.inr c2)]at hx
    exact hno (none13 hx.symm) tag3 I3 s3
end Go.Proofs.YtomdigihapdhnaaGreatDoor.Zt
namespace Go.Proofs.YtomdigihapdhnaaGreatDoor.Zt
open Go SL G Pa Wi
variable{B:World}[Zd B]{ro I I':AH}{tag tag':Nat->Nat}
variable{R:List Nat}{b:Nat}{k:Str×Int}{d:xG}
abbrev rD(b:Nat):Nat:=59+64*(b+2)
abbrev rM(b:Nat):Nat:=60+64*(b+2)
abbrev rE(b:Nat):Nat:=61+64*(b+2)
structure aef(b:Nat)(R:List Nat):Prop where
 r62:62∉R
 r126:126∉R
 r59:∀ x∈R,x%64=59->x=rD b
 r60:∀ x∈R,x%64=60->x=rM b
 r61:∀ x∈R,x%64=61->x=rE b
theorem ph.other{b':Nat}(i:ph tag I b' k d)(st:qd R ro tag I tag' I')(hR:aef b R)(hne:b'≠b):ph tag' I' b' k d:=by
 refine i.keep st (fun hx=>?_) (fun hx=>?_) fun hx=>?_
 .have:=hR.r59 _ hx z6;unfold rD at this;omega
 .have:=hR.r60 _ hx z6;unfold rM at this;omega
 .have:=hR.r61 _ hx z6;unfold rE at this;omega
section
variable{T M:Nat}{bs:List Nat}{h:Hub}
theorem us.new{tag2:Nat->Nat}{I2:AH}(hi:us tag I T M bs h)(hk:qS h k=none)(st:qd R ro tag I tag' I')(hR:aef b R)(hnb:b∉bs)(hn:ph tag' I' b k d)(st2:qd [126] ro tag' I' tag2 I2)(hm:wy kSI tag2 I2 126 M (abt (kvP h bs) k (akn b))):us tag2 I2 T M (bs++[b]) (abt h k d):=
 ⟨(hi.cell.keep st hR.r62).keep st2,hi.map.add hk hm hnb (hn.keepS (st2.s (C:=[62]) z7)) fun i b' k' x hb' _ hA=>(hA.other st hR fun e=>hnb (by rw[<-e];exact nY hb')).keepS (st2.s (C:=[62]) z7)⟩
end
theorem ph.own(h:ph tag I b k d):∃ o,I b=some o:=by
 obtain⟨m,s,a,_⟩:=h
 exact a.tagOf.2
abbrev mk1(l:List xq):List (xq×Value):=l.map fun k=>(k,vI 1)
theorem aqQ(l:List xq)(m:xq):qS (mk1 l) m=if m∈l then some (vI 1)else none:=by
 induction l with
 | nil=>rfl
 | cons x l ih=>
  show(if m=x then some (vI 1)else qS (mk1 l) m)=_
  by_cases c:m=x
  .rw[me c,me (by simp[c])]
  .rw[mc c,ih]
   by_cases d:m∈l
   .rw[me d,me (by simp[d])]
   .rw[mc d,mc (by simp[c,d])]
theorem arQ(l:List xq)(m:xq):abt (mk1 l) m (vI 1)=mk1 (if m∈l then l else l++[m]):=by
 induction l with
 | nil=>rfl
 | cons x l ih=>
  show(if m=x then(m,vI 1)::mk1 l else(x,vI 1)::abt (mk1 l) m (vI 1))=_
  by_cases c:m=x
  .rw[me c,me (by simp[c]),c];try rfl
  .rw[mc c,ih]
   by_cases d:m∈l
   .rw[me d,me (by simp[d])];try rfl
   .rw[mc d,mc (by simp[c,d])];try rfl
end Go.Proofs.YtomdigihapdhnaaGreatDoor.Zt
namespace Go.Proofs.YtomdigihapdhnaaGreatDoor.Zt
open Go SL G Pa Wi
variable{B:World}[Zd B]{ro I I':AH}{tag tag':Nat->Nat}
theorem amq:prog.underlying 243=some (.map 81 305):=y0
theorem apJ:prog.underlying 308=some (.map 314 3):=y0
theorem atG:prog.underlying 28=some (.slice 132):=y0
theorem asE:ql prog 305 (.pointer none) 1 8:=ql.of y0
theorem aro:SI prog 81:=⟨⟨_,_,mN,y0,rfl,y0,rfl,z8,z8⟩,y0⟩
theorem asF:SI prog 314:=⟨⟨_,_,nt,y0,rfl,y0,rfl,z8,z8⟩,y0⟩
section
variable{T M:Nat}{bs:List Nat}{h:Hub}{k:Str×Int}
theorem arR{b m:Nat}{s:Sl}{d:xG}{kind:Int}{x:Str}{Q:AH->Prop}(row:Row tag I (rD b) 310 ⟨some ⟨b,0,none⟩,4,4⟩ [Sl.v s,vI d.acked,vI d.last,.map (some m)])(ev:qH tag I (rE b) 132 3 s (d.events.map evV))(hs:SL.Sep ro I)(hl:d.events.length<=1048576)(h0:0<=d.last)(h1:d.last<=4611686018427387903)
  (hQ:∀ s' tag' I',qd [rD b,rE b] ro tag I tag' I'->Row tag' I' (rD b) 310 ⟨some ⟨b,0,none⟩,4,4⟩ [Sl.v s',vI d.acked,vI (aqt d kind x).last,.map (some m)]->qH tag' I' (rE b) 132 3 s' ((aqt d kind x).events.map evV)->Q I'):abV B ro (some ⟨b,0,none⟩) kind (S x) I Q:=by
 refine ah5 fun _=>?_
 unfold ab3
 have g0:=(row.read hs).2.2 _ rfl
 refine⟨_,rfl,d.last,g0 2 _ rfl,_,rfl,?_⟩
 rw[SL.qM z6 z6]
 refine row.stAt [vI (d.last+1)] 2 hs z7 (by simp[qk]) fun I1 st1 r1=>?_
 have g1:=(r1.read st1.sep).2.2 _ rfl
 refine⟨_,rfl,_,rfl,s,g1 0 _ rfl,d.last+1,g1 2 _ rfl,?_⟩
 refine qr (tag:=tag) 0 st1.sep fun E tag2 I2 st2 r2=>?_
 have hs2:=(st2 []).sep
 have ev2:=(ev.keep st1 (by simp[rD,rM,rE]<;>omega)).keep (st2 [])
 refine acb (l2:=[evV (d.last+1,kind,x)]) ev2 hs2 (Row.readW1 r2 hs2 rfl z8) atG atE rfl (by simp[evV,qk]) (by simp[rD,rM,rE]<;>omega) z8 fun s' tag3 I3 st3 r3=>?_
 have st3':=st3 [rE b] (.inr z7)
 have row3:=(Row.keep r1 (st2 [])).keep st3' (by simp[rD,rM,rE]<;>omega)
 refine⟨s',rfl,_,rfl,?_⟩
 refine Row.stPre [Sl.v s'] 0 _ I3 row3 st3'.sep z7 (by simp[qk,Sl.v]) fun I4 st4 r4=>?_
 refine hQ s' tag3 I4 (((st1.mono z7).trans (st2 _)).trans ((st3'.mono z7).trans (st4.mono z7))) r4 ?_
 have:=qH.keep r3 st4 (by simp[rD,rM,rE]<;>omega)
 unfold aqt
 simpa using this
end
end Go.Proofs.YtomdigihapdhnaaGreatDoor.Zt
namespace Go.Proofs.YtomdigihapdhnaaGreatDoor.Zt
open Go SL G Pa Wi
variable{B:World}[Zd B]{ro I I':AH}{tag tag':Nat->Nat}
theorem aqR{s:ByteArray}{Q:ByteArray->Int->AH->Prop}(g:xC ro)(hQ:∀ tag' I',(∀R,qd R ro tag I tag' I')->Q (S ((kD (L s)).getD [])) (if parts (L s)=none then 20 else 0) I')(hs:SL.Sep ro I):adP B ro s I Q:=by
 cases hp:parts (L s)with
 | some ps=>
  have h7:∀ tag1 I1,(∀R,qd R ro T7 I tag1 I1)->Q (S ((kD (L s)).getD [])) 0 I1:=fun tag1 I1 st=>by
   have:=hQ (aex I tag tag1) I1 (((st []).s (C:=[]) z7).mix z7 tag)
   rw[hp]at this
   exact this
  refine arD (tag:=T7) g hp fun tag' I' st=>h7 tag' I' fun R=>⟨fun b o hb hn=>⟨((st.keep b o hb z7)).1,(st.keep b o hb z7).2⟩,st.old,st.sep⟩
 | none=>
  refine ahL fun hs=>?_
  unfold adQ
  refine ajI (tag:=tag) 0 g hs (fun h tag1 I1 st1=>?_) fun ps' h=>by rw[hp]at h;cases h
  rw[me (by rfl)]
  have:=hQ tag1 I1 fun R=>⟨fun b o hb hn=>st1.keep b o hb z7,st1.old,st1.sep⟩
  unfold kD at this
  rw[hp]at this
  exact this
section
variable{T M:Nat}{bs:List Nat}{h:Hub}{k:Str×Int}
theorem ah8{m:xq}{Q:Int->AH->Prop}(g:xC ro)(hQ:∀ tag' I',(∀R,qd R ro tag I tag' I')->Q (wQ k m) I'):aaB B ro (S k.1) k.2 (S m.1) m.2 I Q:=by
 refine akC fun hs=>?_
 unfold aeA
 refine qr (tag:=tag) 0 hs fun X tag1 I1 st1 r1=>?_
 refine qr (tag:=tag1) 0 (st1 []).sep fun Y tag2 I2 st2 r2=>?_
 have hs2:=(st2 []).sep
 refine⟨S m.1,(r2.read hs2).2.2 _ rfl 0 _ rfl,?_⟩
 refine aqR (tag:=tag2) g (fun tag3 I3 st3=>?_) hs2
 rw[L_S]
 have hs3:=(st3 []).sep
 have k3:∀ R,qd R ro tag I tag3 I3:=fun R=>(st1 R).trans ((st2 R).trans (st3 R))
 have g1:=(((r1.keep (st2 [])).keep (st3 [])).read hs3).2.2 _ rfl
 have g2:=((r2.keep (st3 [])).read hs3).2.2 _ rfl
 refine⟨m.2,g2 1 _ rfl,?_⟩
 have hq:=hQ tag3 I3 k3
 unfold wQ at hq
 have j14:∀ c:Bool,(if(m.2≠1/\m.2≠2)then(160:Int)else if parts m.1=none then 20 else if(kD m.1).getD []≠k.1\/qV k.1=false\/k.2<1\/4611686018427387903<k.2 then 82 else 0)=(if c=true then 82 else 0)->jX B ro Q c I3:=fun c e=>by
  rw[e]at hq
  unfold jX
  cases c
  .rw[mc z7]at hq ⊢;exact hq
  .rw[me rfl]at hq ⊢;exact hq
 have rest:(m.2=1\/m.2=2)->jw B ro X (S ((kD m.1).getD [])) (if parts m.1=none then 20 else 0) Q false I3:=fun hm=>by
  have hm':¬ (m.2≠1/\m.2≠2):=by omega
  unfold jw
  rw[mc z7]
  by_cases c1:parts m.1=none
  .rw[me c1,me z8]
   rw[mc hm',me c1]at hq
   exact hq
  rw[mc c1,mc z7]
  refine⟨S k.1,g1 0 _ rfl,?_⟩
  by_cases c2:(kD m.1).getD []=k.1
  .rw[mc (by rw[c2];simp)]
   refine⟨S k.1,g1 0 _ rfl,?_⟩
   refine agl ?_
   rw[L_S]
   unfold jY
   cases c3:qV k.1 with
   | false=>
    rw[me z7]
    unfold xP
    rw[me rfl]
    exact j14 true (by rw[mc hm',mc c1,me (.inr (.inl c3)),me rfl])
   | true=>
    rw[mc z7]
    refine⟨k.2,g1 1 _ rfl,?_⟩
    unfold xP
    by_cases c4:k.2<1
    .rw[me (j1 c4)]
     exact j14 true (by rw[mc hm',mc c1,me (.inr (.inr (.inl c4))),me rfl])
    rw[mc (j1 c4)]
    refine⟨k.2,g1 1 _ rfl,?_⟩
    refine j14 _ ?_
    rw[mc hm',mc c1]
    by_cases c5:4611686018427387903<k.2
    .rw[me (.inr (.inr (.inr c5))),me (j1 c5)]
    .rw[mc (by simp only[not_or];exact⟨j1 c2,by simp[c3],c4,c5⟩),mc (j1 c5)]
  .rw[me (fun e=>c2 (yu.1 e))]
   unfold jY
   rw[me rfl]
   unfold xP
   rw[me rfl]
   exact j14 true (by rw[mc hm',mc c1,me (.inl c2),me rfl])
 by_cases d1:m.2=1
 .rw[mc (j1 d1)]
  exact rest (.inl d1)
 .rw[me d1]
  refine⟨m.2,g2 1 _ rfl,?_⟩
  by_cases d2:m.2=2
  .rw[show(!decide (m.2=2))=false by simp[d2]]
   exact rest (.inr d2)
  .rw[show(!decide (m.2=2))=true by simp[d2]]
   unfold jw
   rw[me rfl]
   rw[me ⟨d1,d2⟩]at hq
   exact hq
end
end Go.Proofs.YtomdigihapdhnaaGreatDoor.Zt
namespace Go.Proofs.YtomdigihapdhnaaGreatDoor.Zt
open Go SL G Pa
variable{B:World}{ro I I':AH}{tag tag':Nat->Nat}
variable{Q:Int->AH->Prop}
theorem ann{x:ByteArray}{Q:Bool->AH->Prop}(h:Q false I):pL B ro x I Q:=by
 refine ahm fun _=>?_
 unfold abs
 rw[mF rfl]
 exact h
theorem ano{x:Int}{Q:Bool->AH->Prop}(h:Q false I):aa6 B ro x I Q:=by
 refine aiS fun _=>?_
 unfold ac5
 rw[mF rfl]
 exact h
theorem anp{a b:Str}(h:Q (amb a b) I):yw B ro (S a) (S b) I Q:=by
 refine agj fun _=>?_
 unfold aad
 refine ann (ann ?_)
 rw[mc z7,mc z7]
 unfold amb at h
 have e:zD (S a) (S b)=true↔a<b:=by rw[afQ,L_S,L_S]
 by_cases h1:a<b
 .rw[me h1]at h
  rw[me (e.2 h1)]
  exact h
 .rw[mc h1]at h
  rw[mc fun k=>h1 (e.1 k)]
  by_cases h2:b<a
  .rw[me h2]at h
   rw[me]
   .exact h
   .rintro(k | k)
    .exact h1 (e.1 k)
    .rw[yu]at k;rw[k]at h2;exact List.lt_irrefl _ h2
  .rw[mc h2]at h
   rw[mc]
   .exact h
   .rw[mE]
    exact .inr (by rw[amc h1 h2])
theorem anq{a b:Int}(h:Q (an9 a b) I):uo B ro a b I Q:=by
 refine ahK fun _=>?_
 unfold abW
 refine ano (ano ?_)
 rw[mc z7,mc z7]
 unfold an9 at h
 by_cases h1:a<b
 .rw[me h1]at h ⊢;exact h
 .rw[mc h1]at h⊢
  by_cases h2:b<a
  .rw[me h2]at h ⊢;exact h
  .rw[mc h2]at h ⊢;exact h
theorem apK{q y:Nat}{a b:Int}(h:Row tag I q 3 ⟨some ⟨y,0,none⟩,2,2⟩ [vI a,vI b])(hs:SL.Sep ro I)(hQ:Q (if a≠0 then a else b) I):ac4 B ro ⟨some ⟨y,0,none⟩,2,2⟩ I Q:=by
 refine alf fun _=>?_
 unfold afd
 have g:=(h.read hs).2.2 _ rfl
 refine lfpD.intro ?_
 generalize hY:lfpD (ym B ro ⟨some ⟨y,0,none⟩,2,2⟩ Q)=Y0
 unfold ym
 rw[me z7]
 refine⟨_,rfl,z8,z7,a,g 0 _ rfl,?_⟩
 by_cases h0:a=0
 .rw[mc (j1 h0)]
  rw[mc (j1 h0)]at hQ
  rw[show i64.wrap (0+1)=1 from by decide,<-hY]
  refine lfpD.intro ?_
  generalize hZ:lfpD (ym B ro ⟨some ⟨y,0,none⟩,2,2⟩ Q)=Z0
  unfold ym
  rw[me z7]
  refine⟨_,rfl,z8,z7,b,g 1 _ rfl,?_⟩
  by_cases h1:b=0
  .rw[mc (j1 h1)]
   rw[show i64.wrap (1+1)=2 from by decide,<-hZ]
   refine lfpD.intro ?_
   unfold ym
   rw[mc z7]
   unfold acn
   rw[h1]at hQ
   exact hQ
  .rw[me h1];exact hQ
 .rw[me h0]
  rw[me h0]at hQ
  exact hQ
theorem amr{a b:Str×Int}(hQ:∀ I',Q (wh a b) I'):aaz B ro (S a.1) a.2 (S b.1) b.2 I Q:=by
 refine akB fun hs=>?_
 unfold aez
 refine qr (tag:=T7) 0 hs fun x tag1 I1 st1 r1=>?_
 refine qr (tag:=tag1) 0 (st1 []).sep fun y tag2 I2 st2 r2=>?_
 have hs2:=(st2 []).sep
 have g1:=((r1.keep (st2 [])).read hs2).2.2 _ rfl
 have g2:=(r2.read hs2).2.2 _ rfl
 refine amj ?_
 refine⟨a.2,pV hs2 (g1 1 _ rfl),b.2,pV hs2 (g2 1 _ rfl),S a.1,pV hs2 (g1 0 _ rfl),S b.1,pV hs2 (g2 0 _ rfl),?_⟩
 refine anp (anq ?_)
 refine qr (tag:=T7) 0 Sep.none fun z tag3 I3 st3 r3=>?_
 refine apK r3 (st3 []).sep fun _=>?_
 exact hQ _
theorem ala{a b:Str×Int}(hQ:∀ I',Q (wh a b) I'):uz B ro (S a.1) a.2 (S b.1) b.2 I Q:=by
 refine aj3 fun hs=>?_
 unfold adH
 refine qr (tag:=T7) 0 hs fun x tag1 I1 st1 r1=>?_
 refine qr (tag:=tag1) 0 (st1 []).sep fun y tag2 I2 st2 r2=>?_
 have hs2:=(st2 []).sep
 have g1:=((r1.keep (st2 [])).read hs2).2.2 _ rfl
 have g2:=(r2.read hs2).2.2 _ rfl
 refine amj ?_
 refine⟨a.2,pV hs2 (g1 1 _ rfl),b.2,pV hs2 (g2 1 _ rfl),S a.1,pV hs2 (g1 0 _ rfl),S b.1,pV hs2 (g2 0 _ rfl),?_⟩
 refine anp (anq ?_)
 refine qr (tag:=T7) 0 Sep.none fun z tag3 I3 st3 r3=>?_
 refine apK r3 (st3 []).sep fun _=>?_
 exact hQ _
end Go.Proofs.YtomdigihapdhnaaGreatDoor.Zt
namespace Go.Proofs.YtomdigihapdhnaaGreatDoor.Zt
open Go SL G Pa Wi
variable{B:World}[Zd B]{ro I I':AH}{tag tag':Nat->Nat}
theorem apL{tag1:Nat->Nat}{τ:AH}{r w:Nat}{e:TypeId}{s:Sl}{l:List (List Value)}(h:qH tag1 τ r e w s l)(hd:qI I τ)(tag:Nat->Nat):qH (aex I tag tag1) (join I τ) r e w s l:=by
 rcases h with h | ⟨b,cs,ha,ht,hb,hx⟩
 .exact .inl h
 .have hn:I b=Option.none:=by
   cases e:I b with
   | none=>rfl
   | some o=>have:=hd b o e;rw[hb]at this;cases this
  exact .inr ⟨b,cs,ha,by simp[aex,hn,ht],by unfold join;rw[hn];exact hb,hx⟩
end Go.Proofs.YtomdigihapdhnaaGreatDoor.Zt
namespace Go.Proofs.YtomdigihapdhnaaGreatDoor.SL
open Go
variable{P:Program}{B:World}{ro I I':AH}{tag tag':Nat->Nat}{L:List Nat}
theorem qH.outR{r w:Nat}{e:TypeId}{s:Sl}{l:List (List Value)}(h:qH tag I r e w s l)(hr:r∉L):qH tag (SL.vG tag L I) r e w s l:=by
 rcases h with h | ⟨c,cs,ha,ht,hs,hx⟩
 .exact .inl h
 .refine .inr ⟨c,cs,ha,ht,?_,hx⟩
  unfold SL.vG;rw[mc (by rw[ht];exact hr)];exact hs
end Go.Proofs.YtomdigihapdhnaaGreatDoor.SL
namespace Go.Proofs.YtomdigihapdhnaaGreatDoor.Zt
open Go SL G Pa Wi
variable{B:World}[Zd B]{ro I I':AH}{tag tag':Nat->Nat}{L:List Nat}
variable{C bs:List Nat}{T Th Tt W r:Nat}{ms:Sl}{s:Sto}
theorem vJ.outR{st:St}(h:vJ tag I r T st)(hL:∀ x∈L,x%64≠r%64/\x%64≠6):vJ tag (SL.vG tag L I) r T st:=by
 obtain⟨M,bs,h⟩:=h
 have no:∀ x,x%64=r%64->x∉L:=fun x hx hm=>(hL x hm).1 hx
 refine⟨M,bs,h.keys,h.len,h.nd,h.cell.outR (no _ rfl),h.map.outR (no _ z6),fun i b p hb hp=>?_⟩
 obtain⟨s,a,e⟩:=h.nodes i b p hb hp
 exact⟨s,a.outR (no _ z6),e.outR fun hm=>(hL 6 hm).2 rfl⟩
theorem us.outR{M:Nat}{h:Hub}(hi:us tag I T M bs h)(hL:∀ x∈L,x%64∉[59,60,61,62]):us tag (SL.vG tag L I) T M bs h:=by
 have no:∀ x,x%64∈[59,60,61,62]->x∉L:=fun x hx hm=>hL x hm hx
 refine⟨hi.cell.outR (no 62 z8),hi.map.mono (hi.map.map.outR (no 126 z8)) fun _ b k d _ _ hx=>?_⟩
 obtain⟨m,s,row,ev,mk⟩:=hx
 exact⟨m,s,row.outR (no _ (by rw[show(59+64*(b+2))%64=59 by omega];decide)),ev.outR (no _ (by rw[show(61+64*(b+2))%64=61 by omega];decide)),mk.outR (no _ (by rw[show(60+64*(b+2))%64=60 by omega];decide))⟩
structure aeR(tag:Nat->Nat)(I:AH)(W T Tt Th:Nat)(ms:Sl)(s:Sto):Prop where
 own:Row tag I 54 153 ⟨some ⟨W,0,none⟩,5,5⟩ [vI s.epoch,Sl.v ms,ptr T,ptr Tt,ptr Th]
 mem:Row tag I 118 3 ms (s.members.map vI)
 tree:vJ tag I 10 T s.tree
 tbl:adX tag I Tt s.tbl
 hub:afT tag I Th s.hub
theorem aeR.at(h:aeR tag I W T Tt Th ms s):afU tag I W s:=⟨T,Tt,Th,ms,h.own,h.mem,h.tree,h.tbl,h.hub⟩
theorem afU.in(h:afU tag I W s):∃ T Tt Th ms,aeR tag I W T Tt Th ms s:=by
 obtain⟨T,Tt,Th,ms,a,b,c,d,e⟩:=h
 exact⟨T,Tt,Th,ms,a,b,c,d,e⟩
abbrev DSt:List Nat:=[6,10,54,55,56,57,58,59,60,61,62]
theorem aeR.keepS(h:aeR tag I W T Tt Th ms s)(k:qi C ro tag I tag' I')(hC:∀ x∈DSt,x∉C:=by decide):aeR tag' I' W T Tt Th ms s:=
 ⟨h.own.keepS k (hC 54 z8),h.mem.keepS k (hC 54 z8),h.tree.keepS k (hC 10 z8) (hC 6 z8),h.tbl.keepS k ⟨hC 55 z8,hC 56 z8,hC 57 z8,hC 58 z8,hC 6 z8⟩,h.hub.keepS k ⟨hC 62 z8,hC 59 z8,hC 60 z8,hC 61 z8⟩⟩
theorem aeR.fresh(h:aeR tag I W T Tt Th ms s)(k:∀ R,qd R ro tag I tag' I'):aeR tag' I' W T Tt Th ms s:=h.keepS (wt (C:=[]) k) z7
theorem Row.lendAll{e:TypeId}{b n c:Nat}{l:List Value}{τ:AH}(h:Row tag I r e ⟨some ⟨b,0,none⟩,n,c⟩ l)(hs:SL.Sep ro I)(hr:r∈L):SL.qB (join ro (SL.inR tag L I)) τ ⟨b,0,none⟩ 0 l:=
 wN 0 fun i v hv=>by rw[mp];exact h.lendR hs hr rfl hv
end Go.Proofs.YtomdigihapdhnaaGreatDoor.Zt
namespace Go.Proofs.YtomdigihapdhnaaGreatDoor.Zt
open Go SL G Pa Wi
variable{B:World}[Zd B]{ro I I' I'':AH}{tag tag' tag'':Nat->Nat}
variable{acked last n:Int}{R:List Nat}{P b c0 nn:Nat}{Q:Option Addr->AH->Prop}{x x0:Rd}
theorem apM{a b:Str×Int}{Q:Int->AH->Prop}(hQ:Q (wh a b) I):aaz B ro (S a.1) a.2 (S b.1) b.2 I Q:=by
 refine qc.quiet (R:=fun v=>v= .int .i64 (wh a b)) ?_ (fun v hv=>⟨_,hv,hQ⟩)
 have:aaz B ro (S a.1) a.2 (S b.1) b.2 (fun _=>none) fun r _=>r=wh a b:=amr fun _=>rfl
 exact qc.mono this fun v I ⟨r,hv,hr⟩=>by rw[hv,hr]
theorem aon{a b:Str×Int}{Q:Int->AH->Prop}(hQ:Q (wh a b) I):uz B ro (S a.1) a.2 (S b.1) b.2 I Q:=by
 refine qc.quiet (R:=fun v=>v= .int .i64 (wh a b)) ?_ (fun v hv=>⟨_,hv,hQ⟩)
 have:uz B ro (S a.1) a.2 (S b.1) b.2 (fun _=>none) fun r _=>r=wh a b:=ala fun _=>rfl
 exact qc.mono this fun v I ⟨r,hv,hr⟩=>by rw[hv,hr]
theorem aef.app{S:List Nat}(h:aef b R)(k:aef b S):aef b (R++S):=by
 refine⟨fun m=>?_,fun m=>?_,fun x hx e=>?_,fun x hx e=>?_,fun x hx e=>?_⟩
 .exact(mt.1 m).elim h.r62 k.r62
 .exact(mt.1 m).elim h.r126 k.r126
 .exact(mt.1 hx).elim (fun m=>h.r59 x m e) fun m=>k.r59 x m e
 .exact(mt.1 hx).elim (fun m=>h.r60 x m e) fun m=>k.r60 x m e
 .exact(mt.1 hx).elim (fun m=>h.r61 x m e) fun m=>k.r61 x m e
def ku(D:Nat)(ro:AH)(tag:Nat->Nat)(I:AH)(tag':Nat->Nat)(I':AH):Prop:= ∃R,aef D R/\(∀x∈R,x%64∈[18,19,30,59,60,61])/\qd R ro tag I tag' I'
theorem ku.trans{D:Nat}(h:ku D ro tag I tag' I')(k:ku D ro tag' I' tag'' I''):ku D ro tag I tag'' I'':=by
 obtain⟨R,h1,h2,h3⟩:=h
 obtain⟨S,k1,k2,k3⟩:=k
 refine⟨R++S,h1.app k1,fun x hx=>(mt.1 hx).elim (h2 x) (k2 x),(h3.mono fun r hr=>by simp[hr]).trans (k3.mono fun r hr=>by simp[hr])⟩
theorem ku.sep{D:Nat}(h:ku D ro tag I tag' I'):SL.Sep ro I':=by obtain⟨_,_,_,h⟩:=h;exact h.sep
theorem ku.s{D:Nat}(h:ku D ro tag I tag' I'):qi [18,19,30,59,60,61] ro tag I tag' I':=by obtain⟨R,_,h1,h2⟩:=h;exact⟨R,h1,h2⟩
theorem apN{D:Nat}(h:∀ x∈R,x=18\/x=19\/x=30\/x=rD D\/x=rM D\/x=rE D):aef D R/\∀ x∈R,x%64∈[18,19,30,59,60,61]:=by
 refine⟨⟨fun m=>?_,fun m=>?_,fun x hx e=>?_,fun x hx e=>?_,fun x hx e=>?_⟩,fun x hx=>?_⟩
 .rcases h _ m with e | e | e | e | e | e<;>first | omega | (simp only[rD,rM,rE]at e;omega)
 .rcases h _ m with e | e | e | e | e | e<;>first | omega | (simp only[rD,rM,rE]at e;omega)
 .rcases h _ hx with e' | e' | e' | e' | e' | e'<;>first | exact e' | omega | (simp only[rD,rM,rE]at e';omega)
 .rcases h _ hx with e' | e' | e' | e' | e' | e'<;>first | exact e' | omega | (simp only[rD,rM,rE]at e';omega)
 .rcases h _ hx with e' | e' | e' | e' | e' | e'<;>first | exact e' | omega | (simp only[rD,rM,rE]at e';omega)
 .rcases h _ hx with e | e | e | e | e | e
  .rw[e];decide
  .rw[e];decide
  .rw[e];decide
  .rw[e,show rD D%64=59 by simp only[rD];omega];decide
  .rw[e,show rM D%64=60 by simp only[rM];omega];decide
  .rw[e,show rE D%64=61 by simp only[rE];omega];decide
theorem qd.d{D:Nat}(k:qd R ro tag I tag' I')(h:∀ x∈R,x=18\/x=19\/x=30\/x=rD D\/x=rM D\/x=rE D):ku D ro tag I tag' I':=⟨R,(apN h).1,(apN h).2,k⟩
theorem afC{D:Nat}(k:∀ R,qd R ro tag I tag' I'):ku D ro tag I tag' I':=qd.d (k []) (fun x hx=>by cases hx)
structure yC(tag:Nat->Nat)(I:AH)(A X D m:Nat)(k:Str×Int)(d:xG)(x:Rd):Prop where
 rd:vd tag I 30 A x
 key:Row tag I 17 81 ⟨some ⟨X,0,none⟩,2,2⟩ [.string (S k.1),.int .i64 k.2]
 desk:∃ s,Row tag I (rD D) 310 ⟨some ⟨D,0,none⟩,4,4⟩ [Sl.v s,vI d.acked,vI d.last,.map (some m)]/\qH tag I (rE D) 132 3 s (d.events.map evV)
 map:wy kSI tag I (rM D) m (d.marks.map fun k=>(k,vI 1))
theorem yC.at{A X D m:Nat}{k:Str×Int}{d:xG}(h:yC tag I A X D m k d x):ph tag I D k d:=by
 obtain⟨s,a,b⟩:=h.desk
 exact⟨m,s,a,b,h.map⟩
theorem yC.keep{A X D m:Nat}{k:Str×Int}{d:xG}(h:yC tag I A X D m k d x)(st:qd R ro tag I tag' I')(h1:30∉R:=by simp)(h2:6∉R:=by simp)(h3:17∉R:=by simp)(h4:rD D∉R:=by simp)(h5:rM D∉R:=by simp)(h6:rE D∉R:=by simp):yC tag' I' A X D m k d x:=by
 obtain⟨s,a,b⟩:=h.desk
 exact⟨h.rd.keep st h1 h2,h.key.keep st h3,⟨s,a.keep st h4,b.keep st h6⟩,h.map.keep st h5⟩
theorem yC.fresh{A X D m:Nat}{k:Str×Int}{d:xG}(h:yC tag I A X D m k d x)(st:∀ R,qd R ro tag I tag' I'):yC tag' I' A X D m k d x:=h.keep (st [])
theorem yC.next{A X D m:Nat}{k:Str×Int}{d:xG}{x':Rd}(h:yC tag I A X D m k d x)(st:qd [30] ro tag I tag' I')(rd:vd tag' I' 30 A x'):yC tag' I' A X D m k d x':=by
 obtain⟨s,a,b⟩:=h.desk
 exact⟨rd,h.key.keep st,⟨s,a.keep st (by simp[rD,rM,rE]<;>omega),b.keep st (by simp[rD,rM,rE]<;>omega)⟩,h.map.keep st (by simp[rD,rM,rE]<;>omega)⟩
section
variable{A X D m:Nat}{k:Str×Int}{t0:Nat->Nat}{s0:AH}
theorem arS(g:xC ro)(hc0:c0<=32)(ha:0<=acked)(hla:last=acked+(c0:Nat))(hlb:last<=4611686018427387903)
  (hno:aaZ k c0 x0 acked []=none->∀ tag' I',ku D ro t0 s0 tag' I'->Q none I')
  (hyes:∀ es x',aaZ k c0 x0 acked []=some (es,x')->es.length=c0->∀ tag' I',ku D ro t0 s0 tag' I'->yC tag' I' A X D m k ⟨es,acked,last,[]⟩ x'->jN B ro (some ⟨A,0,none⟩) X D Q I')
  (st0:ku D ro t0 s0 tag I) (h0:yC tag I A X D m k ⟨[],acked,acked,[]⟩ x0):
  lfpD (vN B ro (some ⟨A,0,none⟩) X D last Q) () I:=by
 suffices∀c xr cur es tag1 I1,cur+(c:Nat)=last->(es.length:Int)=cur - acked->aaZ k c xr cur es=aaZ k c0 x0 acked []->ku D ro t0 s0 tag1 I1->yC tag1 I1 A X D m k ⟨es,acked,cur,[]⟩ xr->
   lfpD (vN B ro (some ⟨A,0,none⟩) X D last Q) () I1 from
  this c0 x0 acked [] tag I hla.symm z7 rfl st0 h0
 intro c
 induction c with
 | zero=>
  intro xr cur es tag1 I1 hcur hes hr st h
  obtain⟨s,row,ev⟩:=h.desk
  refine lfpD.intro ?_
  unfold vN
  have hcl:cur=last:=by simpa using hcur
  refine⟨cur,(row.read st.sep).2.2 _ rfl 2 _ rfl,?_⟩
  rw[mc z6]
  subst hcl
  exact hyes es xr (by rw[<-hr];try rfl) z6 tag1 I1 st h
 | succ c ih=>
  intro xr cur es tag1 I1 hcur hes hr st h
  obtain⟨s,row,ev⟩:=h.desk
  rw[aaZ]at hr
  refine lfpD.intro ?_
  generalize hY:lfpD (vN B ro (some ⟨A,0,none⟩) X D last Q)=Y0 at ih⊢
  unfold vN
  refine⟨cur,(row.read st.sep).2.2 _ rfl 2 _ rfl,?_⟩
  rw[me z6]
  refine wW h.rd z8 st.sep fun I2 k2 rd2=>?_
  refine ad8 rd2 z8 k2.sep fun tag3 I3 k3 rd3=>?_
  have k23:=k2.trans k3
  have he:zu xr=((((qa xr).1:Int),(rblob (qa xr).2).1),(rblob (qa xr).2).2):=rfl
  have h3:=h.next k23 rd3
  have s3:ku D ro t0 s0 tag3 I3:=st.trans (qd.d k23 z7)
  rw[he]at hr
  generalize ((qa xr).1:Int)=kind at hr⊢
  generalize (rblob (qa xr).2).1=p at hr⊢
  generalize (rblob (qa xr).2).2=x3 at hr h3 rd3
  simp only at hr
  clear h row ev st k2 k3 k23 rd2 rd3 he
  refine acj (tag:=tag3) 19 s3.sep rfl (by simp[qk]) fun Y tag4 I4 st4 y4=>?_
  have fail:ai6 k (kind,p)->∀ tag' I',ku D ro t0 s0 tag' I'->Q none I':=fun hb tag' I' st'=>by
   rw[me hb]at hr
   exact hno hr.symm tag' I' st'
  have go:∀ (mk:Int) I5,mk=(if kind=4 then 2 else 1)->ku D ro t0 s0 tag4 I5->yC tag4 I5 A X D m k ⟨es,acked,cur,[]⟩ x3->Row tag4 I5 19 314 ⟨some ⟨Y,0,none⟩,2,2⟩ [.string (S p),.int .i64 mk]->
    xk B ro (some ⟨A,0,none⟩) X Y D last kind (S p) Q Y0 I5:=fun mk I5 hmk s5 h5 y5=>by
   unfold xk
   by_cases c1:kind<1\/4<kind
   .rw[me c1]
    unfold xj
    rw[me rfl]
    exact fail (c1.elim .inl fun h=> .inr (.inl h)) tag4 I5 s5
   rw[mc c1]
   refine⟨S k.1,k.2,kT (h5.key.read s5.sep) rfl,S p,mk,kT (y5.read s5.sep) rfl,?_⟩
   refine ah8 (tag:=tag4) (m:=(p,mk)) g fun tag6 I6 st6=>?_
   have s6:=s5.trans (afC (D:=D) st6)
   unfold xj
   by_cases c2:wQ k (p,mk)=0
   .rw[mc (by simp[c2])]
    have nb:¬ ai6 k (kind,p):=by
     rintro(h | h | h)
     .exact c1 (.inl h)
     .exact c1 (.inr h)
     .simp only at h;rw[<-hmk]at h;exact h c2
    rw[mc nb]at hr
    have h6:=h5.fresh st6
    obtain⟨s,row,ev⟩:=h6.desk
    refine arR (d:=⟨es,acked,cur,[]⟩) row ev s6.sep (by simp only;omega) (by simp only;omega) (by simp only;omega) fun s' tag7 I7 st7 row7 ev7=>?_
    refine ih x3 (cur+1) (es++[(cur+1,kind,p)]) tag7 I7 z6 (by simp only[mU,mA,mZ];omega) hr (s6.trans (qd.d st7 z7)) ⟨h6.rd.keep st7 (by simp[rD,rM,rE]<;>omega) (by simp[rD,rM,rE]<;>omega),h6.key.keep st7 (by simp[rD,rM,rE]<;>omega),⟨s',row7,ev7⟩,h6.map.keep st7 (by simp[rD,rM,rE]<;>omega)⟩
   .rw[me (j1 c2)]
    exact fail (.inr (.inr (by simp only;rw[<-hmk];exact c2))) tag6 I6 s6
  have s4:=s3.trans (afC (D:=D) st4)
  have h4:=h3.fresh st4
  by_cases c4:kind=4
  .rw[me c4]
   refine Row.stAt [vI 2] 1 y4 s4.sep z7 (by simp[qk]) fun I5 k5 y5=>?_
   exact go 2 I5 (by rw[me c4]) (s4.trans (qd.d k5 z7)) (h4.keep k5 z7 z7 z7 (by simp[rD,rM,rE]<;>omega) (by simp[rD,rM,rE]<;>omega) (by simp[rD,rM,rE]<;>omega)) y5
  .rw[mc c4]
   exact go 1 I4 (by rw[mc c4]) s4 h4 y4
theorem arT{es:Evs}(g:xC ro)(hn:n=(nn:Nat))
  (hno:aa0 k (min nn 33) x0 ([],0) []=none->∀ tag' I',ku D ro t0 s0 tag' I'->Q none I')
  (hyes:∀ ms x',aa0 k (min nn 33) x0 ([],0) []=some (ms,x')->∀ tag' I',ku D ro t0 s0 tag' I'->yC tag' I' A X D m k ⟨es,acked,last,ms⟩ x'->jM B ro (some ⟨A,0,none⟩) X D n Q I')
  (st0:ku D ro t0 s0 tag I) (h0:yC tag I A X D m k ⟨es,acked,last,[]⟩ x0) (b0:Row tag I 18 314 ⟨some ⟨P,0,none⟩,2,2⟩ [.string (S []),.int .i64 0]):
  lfpD (vM B ro (some ⟨A,0,none⟩) X P D n Q) 0 I:=by
 have hlim:(if 33<n then 33 else n)=((min nn 33:Nat):Int):=by split<;>omega
 suffices∀c i xr (bef:xq) ms tag1 I1,i+c=min nn 33->aa0 k c xr bef ms=aa0 k (min nn 33) x0 ([],0) []->(∀y∈ms,¬wh bef y<0)->ku D ro t0 s0 tag1 I1->yC tag1 I1 A X D m k ⟨es,acked,last,ms⟩ xr->Row tag1 I1 18 314 ⟨some ⟨P,0,none⟩,2,2⟩ [.string (S bef.1),.int .i64 bef.2]->
   lfpD (vM B ro (some ⟨A,0,none⟩) X P D n Q) (i:Int) I1 from
  this (min nn 33) 0 x0 ([],0) [] tag I (mp _) rfl (fun y hy=>by cases hy) st0 h0 b0
 intro c
 induction c with
 | zero=>
  intro i xr bef ms tag1 I1 hi hr hms st h b
  refine lfpD.intro ?_
  unfold vM
  rw[hlim,mc z6]
  exact hyes ms xr hr.symm tag1 I1 st h
 | succ c ih=>
  intro i xr bef ms tag1 I1 hi hr hms st h b
  rw[aa0]at hr
  refine lfpD.intro ?_
  generalize hY:lfpD (vM B ro (some ⟨A,0,none⟩) X P D n Q)=Y0 at ih⊢
  unfold vM
  rw[hlim,me z6]
  refine wW h.rd z8 st.sep fun I2 k2 rd2=>?_
  refine ad8 rd2 z8 k2.sep fun tag3 I3 k3 rd3=>?_
  have k23:=k2.trans k3
  have he:zu xr=((((qa xr).1:Int),(rblob (qa xr).2).1),(rblob (qa xr).2).2):=rfl
  have h3:=h.next k23 rd3
  have b3:=b.keep k23
  have s3:ku D ro t0 s0 tag3 I3:=st.trans (qd.d k23 z7)
  rw[he]at hr
  generalize ((qa xr).1:Int)=kind at hr⊢
  generalize (rblob (qa xr).2).1=p at hr⊢
  generalize (rblob (qa xr).2).2=x3 at hr h3 rd3
  simp only at hr
  clear h st k2 k3 k23 rd2 rd3 he b
  refine acj (tag:=tag3) 19 s3.sep rfl (by simp[qk]) fun Y tag4 I4 st4 y4=>?_
  have s4:=s3.trans (afC (D:=D) st4)
  have h4:=h3.fresh st4
  have b4:=b3.keep (st4 [])
  have fail:(wQ k (p,kind)≠0\/¬ wh bef (p,kind)<0)->∀ tag' I',ku D ro t0 s0 tag' I'->Q none I':=fun hb tag' I' st'=>by
   rw[me hb]at hr
   exact hno hr.symm tag' I' st'
  refine⟨S k.1,k.2,kT (h4.key.read s4.sep) rfl,S p,kind,kT (y4.read s4.sep) rfl,?_⟩
  refine ah8 (tag:=tag4) (m:=(p,kind)) g fun tag5 I5 st5=>?_
  have s5:=s4.trans (afC (D:=D) st5)
  have h5:=h4.fresh st5
  have b5:=b4.keep (st5 [])
  have y5:=y4.keep (st5 [])
  by_cases c1:¬ wQ k (p,kind)=0
  .rw[me c1]
   unfold xi
   rw[me rfl]
   exact fail (.inl c1) tag5 I5 s5
  rw[mc c1]
  have c1:=mE.1 c1
  refine⟨S bef.1,bef.2,kT (b5.read s5.sep) rfl,S p,kind,kT (y5.read s5.sep) rfl,?_⟩
  refine aon (a:=bef) (b:=(p,kind)) ?_
  unfold xi
  by_cases c2:¬ wh bef (p,kind)<0
  .rw[me (mF z6)]
   exact fail (.inr c2) tag5 I5 s5
  have c2:=mE.1 c2
  rw[mc (by rw[mL z6];simp)]
  rw[mc (by rintro(h | h);exact h c1;exact h c2)]at hr
  have hs5:=s5.sep
  refine agN tag5 [19] ?_
  have hsA:SL.Sep (join ro (SL.inR tag5 [19] I5)) (SL.vG tag5 [19] I5):=hs5.lentR
  obtain⟨s,row,ev⟩:=h5.desk
  refine⟨_,_,Row.lendAll y5 hs5 z7,some m,((row.outR (L:=[19]) (by simp[rD,rM,rE]<;>omega)).read hsA).2.2 _ rfl 3 _ rfl,_,_,Row.lendAll y5 hs5 z7,?_⟩
  have hnew:(p,kind)∉ms:=fun hm=>hms _ hm c2
  have gl:qS (mk1 ms) (p,kind)=none:=by rw[aqQ,mc hnew]
  refine adm (k:=(p,kind)) (wy.outR (L:=[19]) h5.map (by simp[rD,rM,rE]<;>omega)) hsA apJ (aol asF) amo gl fun stp I6 store=>?_
  refine⟨0,stp,rfl,?_⟩
  refine store _ _ fun I7 k7 m7=>?_
  intro hd
  have kA:=qd.backR k7 hs5 hd
  have m8:=wy.backR m7 hd
  have k9:=kA
  generalize (join (SL.inR tag5 [19] I5) I7)=I8 at kA m8 k9⊢
  generalize (aet tag5 tag5 [19] I5)=tag8 at kA m8 k9
  have b8:=b5.keep kA (by simp[rD,rM,rE]<;>omega)
  refine Row.stPre [.string (S p),vI kind] 0 _ I8 b8 kA.sep z7 (by simp[qk]) fun I9 k10 b9=>?_
  rw[Pa.inc i z6]
  have k89:qd [rM D,18] ro tag5 I5 tag8 I9:=(kA.mono z7).trans (k10.mono z7)
  refine ih (i+1) x3 (p,kind) (ms++[(p,kind)]) tag8 I9 z6 hr (fun y hy=>?_) (s5.trans (qd.d k89 z7)) ⟨h5.rd.keep k89 (by simp[rD,rM,rE]<;>omega) (by simp[rD,rM,rE]<;>omega),h5.key.keep k89 (by simp[rD,rM,rE]<;>omega),⟨s,row.keep k89 (by simp[rD,rM,rE]<;>omega),ev.keep k89 (by simp[rD,rM,rE]<;>omega)⟩,?_⟩ b9
  .rcases mt.1 hy with h | h
   .exact fun h2=>hms y h (pT c2 h2)
   .rw[mK.1 h];exact pU _
  .rw[arQ,mc hnew]at m8
   exact m8.keep k10 (by simp[rD,rM,rE]<;>omega)
end
end Go.Proofs.YtomdigihapdhnaaGreatDoor.Zt
namespace Go.Proofs.YtomdigihapdhnaaGreatDoor.Zt
open Go SL G Pa Wi
variable{B:World}[Zd B]{ro I I' I'':AH}{tag tag' tag'':Nat->Nat}
theorem aqS{A:Nat}{k:Str×Int}{x:Rd}{Q:Option Addr->AH->Prop}(g:xC ro)(rd:vd tag I 30 A x)(hs:SL.Sep ro I)(hk:k.1.length<=140737488355328)
  (hno:acs k x=none->∀ tag' I',qi [18,19,30,59,60,61] ro tag I tag' I'->Q none I')
  (hyes:∀ d x',acs k x=some (d,x')->∀ D tag' I',I D=none->ku D ro tag I tag' I'->vd tag' I' 30 A x'->ph tag' I' D k d->Q (some ⟨D,0,none⟩) I'):acz B ro (some ⟨A,0,none⟩) (S k.1) k.2 I Q:=by
 refine aiw fun _=>?_
 unfold acK
 refine qr (tag:=tag) 17 hs fun X tag1 I1 st1 x1=>?_
 have hs1:=(st1 []).sep
 intro m hrom hm D hroD hD
 have hDm:D≠m:=fun e=>by rw[e,qA]at hD;cases hD
 have hD1:I1 D=none:=by rw[uv _ _ hDm]at hD;exact hD
 have hDσ:I D=none:=by
  cases e:I D with
  | none=>rfl
  | some o=>obtain⟨o',ho'⟩:=((st1 []).old D o e).2;rw[hD1]at ho';cases ho'
 have st2:∀ R,qd R ro tag1 I1 (setTag tag1 m (rM D)) (upd I1 m (.map #[] 0)):=fun R=>qd.fresh hs1 hrom hm
 have m2:wy kSI (setTag tag1 m (rM D)) (upd I1 m (.map #[] 0)) (rM D) m []:=⟨by simp[setTag],_,_,qA _ _ _,rfl,z7,z7⟩
 have st3:∀ R,qd R ro (setTag tag1 m (rM D)) (upd I1 m (.map #[] 0)) (setTag (setTag tag1 m (rM D)) D (rD D)) (upd (upd I1 m (.map #[] 0)) D (.cells #[Sl.v (⟨none,0,0⟩:Sl),.int .i64 0,.int .i64 0,.map (some m)] 310)):=fun R=>qd.fresh (st2 []).sep hroD hD
 have r3:Row (setTag (setTag tag1 m (rM D)) D (rD D)) (upd (upd I1 m (.map #[] 0)) D (.cells #[Sl.v (⟨none,0,0⟩:Sl),.int .i64 0,.int .i64 0,.map (some m)] 310)) (rD D) 310 ⟨some ⟨D,0,none⟩,4,4⟩ [Sl.v ⟨none,0,0⟩,vI 0,vI 0,.map (some m)]:=
  .inr ⟨D,_,rfl,by simp[setTag],qA _ _ _,z7,rfl,mH _,fun i hi=>by simp⟩
 generalize (setTag (setTag tag1 m (rM D)) D (rD D))=tag3 at st3 r3⊢
 generalize (upd (upd I1 m (.map #[] 0)) D (.cells #[Sl.v (⟨none,0,0⟩:Sl),.int .i64 0,.int .i64 0,.map (some m)] 310))=I3 at st3 r3⊢
 have m3:=m2.keep (st3 [])
 have f13:∀ R,qd R ro tag1 I1 tag3 I3:=fun R=>(st2 R).trans (st3 R)
 have f03:∀ R,qd R ro tag I tag3 I3:=fun R=>(st1 R).trans (f13 R)
 refine wW (rd.keep (f03 [])) z8 (st3 []).sep fun I4 k4 rd4=>?_
 have key4:=(x1.keep (f13 [])).keep k4
 refine Row.stAt [vI ((qa x).1:Nat)] 1 (r3.keep k4 (by simp[rD,rM,rE]<;>omega)) k4.sep z7 (by simp[qk]) fun I5 k5 r5=>?_
 refine⟨((qa x).1:Nat),(r5.read k5.sep).2.2 _ rfl 1 _ rfl,?_⟩
 refine Row.stAt [vI ((qa x).1:Nat)] 2 r5 k5.sep z7 (by simp[qk]) fun I6 k6 r6=>?_
 have k56:qd [rD D] ro tag3 I4 tag3 I6:=k5.trans k6
 refine wW (rd4.keep k56 (by simp[rD,rM,rE]<;>omega) (by simp[rD,rM,rE]<;>omega)) z8 k6.sep fun I7 k7 rd7=>?_
 have r7:=r6.keep k7 (by simp[rD,rM,rE]<;>omega)
 have k47:qd [30,rD D] ro tag3 I3 tag3 I7:=(k4.mono z7).trans ((k56.mono z7).trans (k7.mono z7))
 have m7:=m3.keep k47 (by simp[rD,rM,rE]<;>omega)
 have key7:=(key4.keep k56 (by simp[rD,rM,rE]<;>omega)).keep k7
 have s7:ku D ro tag I tag3 I7:=(afC f03).trans (qd.d k47 z7)
 have h7:yC tag3 I7 A X D m k ⟨[],((qa x).1:Nat),((qa x).1:Nat),[]⟩ (qa (qa x).2).2:=⟨rd7,key7,⟨⟨none,0,0⟩,r7,qH.nil _ _ _⟩,m7⟩
 have g7:qb ro I7 ((⟨D,0,none⟩:Addr).add 1)=some (.int .i64 ((qa x).1:Nat)):=(r7.read k7.sep).2.2 _ rfl 1 _ rfl
 have b1:=km x
 have b2:=km (qa x).2
 have ex:acs k x=if(qa (qa x).2).1<(qa x).1\/32<(qa (qa x).2).1 - (qa x).1 then none
  else match aaZ k ((qa (qa x).2).1 - (qa x).1) (qa (qa x).2).2 (qa x).1 []with
  | none=>none
  | some (es,r1)=>match aa0 k (min (qa r1).1 33) (qa r1).2 ([],0) []with
   | none=>none
   | some (ms,r2)=>if r2.err≠0\/wQ k (47::k.1,1)≠0\/32<es.length+(qa r1).1\/((qa r1).1=0/\(qa (qa x).2).1=0)then none else some (⟨es,(qa x).1,(qa (qa x).2).1,ms⟩,r2):=rfl
 clear k4 k5 k6 k7 k56 k47 r5 r6 r7 rd4 rd7 key4 key7 m7 m3 m2 st2 st3 r3 f13 f03 rd
 refine⟨((qa x).1:Nat),g7,?_⟩
 by_cases c1:(qa (qa x).2).1<(qa x).1
 .rw[me z6]
  rw[me (.inl c1)]at ex
  unfold xW
  rw[me rfl]
  exact hno ex tag3 I7 s7.s
 rw[mc z6]
 refine⟨((qa x).1:Nat),g7,?_⟩
 rw[SL.qM z6 z6]
 unfold xW
 by_cases c2:32<(qa (qa x).2).1 - (qa x).1
 .rw[me (mF z6)]
  rw[me (.inr c2)]at ex
  exact hno ex tag3 I7 s7.s
 rw[mc (by rw[mL z6];simp)]
 rw[mc (by rintro(h | h);exact c1 h;exact c2 h)]at ex
 refine arS (t0:=tag) (s0:=I) (c0:=(qa (qa x).2).1 - (qa x).1) g z6 z6 z6 z6 (fun e tag' I' st=>?_) (fun es x' e hlen tag4 I4 st4 h4=>?_) s7 h7
 .rw[e]at ex
  exact hno ex tag' I' st.s
 rw[e]at ex
 simp only at ex
 unfold jN
 refine wW h4.rd z8 st4.sep fun I5 k5 rd5=>?_
 have h5:=h4.next k5 rd5
 have s5:=st4.trans (qd.d (D:=D) k5 z7)
 refine acj (tag:=tag4) 18 s5.sep rfl (by simp[qk]) fun P tag6 I6 st6 p6=>?_
 have b3:=km x'
 refine arT (t0:=tag) (s0:=I) g rfl (fun e2 tag' I' st=>?_) (fun ms x2 e2 tag7 I7 st7 h7=>?_) (s5.trans (afC st6)) (h5.fresh st6) p6
 .rw[e2]at ex
  exact hno ex tag' I' st.s
 rw[e2]at ex
 simp only at ex
 have fail:(x2.err≠0\/wQ k (47::k.1,1)≠0\/32<es.length+(qa x').1\/((qa x').1=0/\(qa (qa x).2).1=0))->∀ tag' I',ku D ro tag I tag' I'->Q none I':=fun hb tag' I' st=>by
  rw[me hb]at ex
  exact hno ex tag' I' st.s
 unfold jM
 refine aeX h7.rd st7.sep ?_
 by_cases c3:¬ x2.err=0
 .rw[me c3]
  unfold xh
  rw[me rfl]
  unfold vL
  rw[me rfl]
  unfold zx
  rw[me rfl]
  exact fail (.inl c3) tag7 I7 st7
 rw[mc c3]
 refine⟨S k.1,k.2,kT (h7.key.read st7.sep) rfl,S k.1,by simpa using(h7.key.read st7.sep).2.2 _ rfl 0 _ rfl,?_,?_⟩
 .have:(S k.1).size=k.1.length:=by rw[<-wT,L_S]
  rw[this]
  show 1+k.1.length<=_
  omega
 rw[show(⟨#[47]⟩:ByteArray)++S k.1=S (47::k.1)from uY [47] k.1]
 refine ah8 (tag:=tag7) (m:=(47::k.1,1)) g fun tag8 I8 st8=>?_
 have s8:=st7.trans (afC (D:=D) st8)
 have h8:=h7.fresh st8
 unfold xh
 by_cases c4:¬ wQ k (47::k.1,1)=0
 .rw[me (j1 c4)]
  unfold vL
  rw[me rfl]
  unfold zx
  rw[me rfl]
  exact fail (.inr (.inl c4)) tag8 I8 s8
 rw[mc (j1 c4)]
 obtain⟨s,row,ev⟩:=h8.desk
 have hsl:s.len=es.length:=by rw[ev.len,ml]
 refine⟨s,by simpa using(row.read s8.sep).2.2 _ rfl 0 _ rfl,?_⟩
 rw[hsl,SL.qM z6 z6]
 unfold vL
 by_cases c5:32<es.length+(qa x').1
 .rw[me (mF z6)]
  unfold zx
  rw[me rfl]
  exact fail (.inr (.inr (.inl c5))) tag8 I8 s8
 rw[mc (by rw[mL z6];simp)]
 have good:¬ ((qa x').1=0/\(qa (qa x).2).1=0)->Q (some ⟨D,0,none⟩) I8:=fun c6=>by
  rw[mc (by rintro(h | h | h | h);exact c3 h;exact c4 h;exact c5 h;exact c6 h)]at ex
  exact hyes _ _ ex D tag8 I8 hDσ s8 h8.rd h8.at
 by_cases c6:(qa x').1=0
 .rw[me z6]
  refine⟨((qa (qa x).2).1:Nat),(row.read s8.sep).2.2 _ rfl 2 _ rfl,?_⟩
  unfold xf zx
  by_cases c7:(qa (qa x).2).1=0
  .rw[me (mF z6)]
   exact fail (.inr (.inr (.inr ⟨c6,c7⟩))) tag8 I8 s8
  .rw[mc (by rw[mL z6];simp)]
   exact good fun h=>c7 h.2
 .rw[mc z6]
  unfold xf zx
  rw[mc z7]
  exact good fun h=>c6 h.1
abbrev CHd:List Nat:=[18,19,23,30,59,60,61,62]
theorem arU{a0:Sl}{b:Str}{Q:Option Addr->Int->AH->Prop}(g:xC ro)(hr:SL.qU ro I a0 (b.map vU))(hl:b.length<=140737488355328)
  (hno:pf b=none->∀ tag' I',qi CHd ro tag I tag' I'->Q none 13 I')
  (hyes:∀ t,pf b=some t->∀ T tag' I',qi CHd ro tag I tag' I'->afT tag' I' T t->Q (some ⟨T,0,none⟩) 0 I'):ux B ro a0 I Q:=by
 refine aj2 fun hs=>?_
 unfold adG
 refine ah4 fun hs0=>?_
 unfold adW
 refine aeV kSI (tag:=tag) 126 hs0 fun M tag1 I1 st1 m1=>?_
 refine qr (tag:=tag1) 62 (st1 []).sep fun T tag2 I2 st2 r2=>?_
 have k2:∀ R,qd R ro tag I tag2 I2:=fun R=>(st1 R).trans (st2 R)
 have t2:us tag2 I2 T M [] []:=⟨r2,ud.nil (m1.keep (st2 []))⟩
 refine ade (tag:=tag2) (r:=30) (hr.step (k2 [])) (st2 []).sep hl fun A tag3 I3 st3 rd3=>?_
 refine qr (tag:=tag3) 23 (st3 []).sep fun L0 tag4 I4 st4 l4=>?_
 refine wW (rd3.keep (st4 [])) z8 (st4 []).sep fun I5 k5 rd5=>?_
 have s5:qi CHd ro tag I tag4 I5:=(wt k2).trans ((wt st3).trans ((wt st4).trans (k5.s z7)))
 have t5:us tag4 I5 T M [] []:=((t2.keepS (wt (C:=[]) st3) z7).keepS (wt (C:=[]) st4) z7).keepS (k5.s (C:=[30]) z7)
 have l5:Row tag4 I5 23 81 ⟨some ⟨L0,0,none⟩,2,2⟩ [.string (S []),.int .i64 0]:=l4.keep k5
 have hbound:=km ⟨b,0⟩
 have ed:pf b=match aa1 (qa ⟨b,0⟩).1 (qa ⟨b,0⟩).2 ([],0) []with
  | none=>none
  | some (t,r)=>if r.err≠0\/0<r.rest.length then none else some t:=rfl
 suffices∀k xr (last:Str×Int) acc bs tag1 I1,k<=(qa ⟨b,0⟩).1->aa1 k xr last acc=aa1 (qa ⟨b,0⟩).1 (qa ⟨b,0⟩).2 ([],0) []->(∀p∈acc,¬wh last p.1<0)->qi CHd ro tag I tag1 I1->vd tag1 I1 30 A xr->Row tag1 I1 23 81 ⟨some ⟨L0,0,none⟩,2,2⟩ [.string (S last.1),.int .i64 last.2]->us tag1 I1 T M bs acc->
   lfpD (jv B ro L0 (some ⟨T,0,none⟩) (some ⟨A,0,none⟩) Q) (k:Int) I1 from
  this _ _ ([],0) [] [] tag4 I5 (mH _) rfl (fun p hp=>by cases hp) s5 rd5 l5 t5
 clear s5 t5 l5 rd5 rd3 k5 st4 l4 st3 t2 k2 st1 st2 r2 m1
 intro k
 induction k with
 | zero=>
  intro xr last acc bs tag1 I1 hk hx hacc st rd lr t
  refine lfpD.intro ?_
  unfold jv
  rw[mc z6]
  unfold abf
  rw[<-hx]at ed
  simp only[aa1]at ed
  refine aeX rd st.sep ?_
  by_cases c:xr.err=0
  .rw[mc (j1 c)]
   refine aii rd st.sep ?_
   unfold jW
   by_cases c2:0<xr.rest.length
   .rw[me (mF z6)]
    exact hno (by rw[ed,me (.inr c2)]) tag1 I1 st
   .rw[mc (by rw[mL z6];simp)]
    exact hyes acc (by rw[ed,mc (by rintro(h | h);exact h c;exact c2 h)]) T tag1 I1 st ⟨M,bs,t⟩
  .rw[me c]
   unfold jW
   rw[me rfl]
   exact hno (by rw[ed,me (.inl c)]) tag1 I1 st
 | succ k ih=>
  intro xr last acc bs tag1 I1 hk hx hacc st rd lr t
  rw[aa1]at hx
  refine lfpD.intro ?_
  generalize hY:lfpD (jv B ro L0 (some ⟨T,0,none⟩) (some ⟨A,0,none⟩) Q)=Y0 at ih⊢
  unfold jv
  rw[me z6]
  refine ad8 rd z8 st.sep fun tag2 I2 k2 rd2=>?_
  refine wW rd2 z8 k2.sep fun I3 k3 rd3=>?_
  have k23:qd [30] ro tag1 I1 tag2 I3:=k2.trans k3
  have hlen:(rblob xr).1.length<=140737488355328:=by
   have h1:=(yz xr).2
   obtain⟨_,_,_,h2⟩:=rd
   omega
  have ek:wJ xr=(((rblob xr).1,((qa (rblob xr).2).1:Int)),(qa (rblob xr).2).2):=rfl
  rw[ek]at hx
  simp only at hx
  have t3:=t.keepS (k23.s (C:=[30]) z7)
  have l3:=lr.keep k23
  have s3:qi CHd ro tag I tag2 I3:=st.trans (k23.s z7)
  generalize (rblob xr).1=home at hx hlen⊢
  generalize ((qa (rblob xr).2).1:Int)=num at hx⊢
  generalize (qa (rblob xr).2).2=x3 at hx rd3
  clear k2 k3 k23 rd2 rd ek
  refine acj (tag:=tag2) 24 s3.sep rfl (by simp[qk]) fun X tag4 I4 st4 x4=>?_
  have s4:=s3.trans (wt st4)
  have t4:=t3.keepS (wt (C:=[]) st4) z7
  have none13:aa1 (qa ⟨b,0⟩).1 (qa ⟨b,0⟩).2 ([],0) []=none->pf b=none:=fun e=>by rw[ed,e]
  refine⟨S home,num,kT (x4.read s4.sep) rfl,?_⟩
  refine aqS (k:=(home,num)) g (rd3.keep (st4 [])) s4.sep hlen (fun e tag5 I5 st5=>?_) fun d x' e D tag5 I5 hD st5 rd5 hd=>?_
  .rw[e]at hx
   rw[me rfl]
   unfold ju
   rw[me rfl]
   exact hno (none13 hx.symm) tag5 I5 (s4.trans (st5.mono z8))
  rw[e]at hx
  simp only at hx
  rw[mc z7]
  have s5:qi CHd ro tag I tag5 I5:=s4.trans (st5.s.mono z8)
  have l5:=(l3.keep (st4 [])).keepS st5.s
  have x5:=x4.keepS st5.s
  refine⟨S last.1,last.2,kT (l5.read s5.sep) rfl,S home,num,kT (x5.read s5.sep) rfl,?_⟩
  refine apM (a:=last) (b:=(home,num)) ?_
  unfold ju
  by_cases c2:¬ wh last (home,num)<0
  .rw[me (mF z6)]
   rw[me c2]at hx
   exact hno (none13 hx.symm) tag5 I5 s5
  rw[mc c2]at hx
  have c2:=mE.1 c2
  rw[mc (by rw[mL z6];simp)]
  obtain⟨R,hR,hR2,kR⟩:=st5
  have hs5:=s5.sep
  have cell5:=t4.cell.keep kR hR.r62
  have map5:=t4.map.map.keep kR hR.r126
  have g1:qS acc (home,num)=none:=by
   rw[zF]
   intro hmm
   obtain⟨p,hp,e'⟩:=my.1 hmm
   exact hacc p hp (by rw[e'];exact c2)
  have g2:qS (kvP acc bs) (home,num)=none:=by rw[zF,acB _ _ t.map.len,<-zF];exact g1
  refine agN tag5 [24] ?_
  have hsA:SL.Sep (join ro (SL.inR tag5 [24] I5)) (SL.vG tag5 [24] I5):=hs5.lentR
  refine⟨_,rfl,_,_,Row.lendAll x5 hs5 z7,some M,(cell5.outR (L:=[24]) z7).cell1 hsA,_,_,Row.lendAll x5 hs5 z7,?_⟩
  refine adm (k:=(home,num)) (wy.outR (L:=[24]) map5 z7) hsA amq (aol aro) asE g2 fun stp I6 store=>?_
  refine⟨none,stp,rfl,?_⟩
  refine store _ _ fun I7 k7 m7=>?_
  intro hdj
  have kA:=qd.backR k7 hs5 hdj
  have m8:=wy.backR m7 hdj
  generalize (join (SL.inR tag5 [24] I5) I7)=I8 at kA m8⊢
  generalize (aet tag5 tag5 [24] I5)=tag8 at kA m8
  have l8:=l5.keep kA
  have hnb:D∉bs:=fun hm'=>by
   obtain⟨i,hi',e⟩:=nv hm'
   obtain⟨o,ho⟩:=(t4.map.at' i D _ _ (by rw[mh hi',e]) (mh (by rw[<-t4.map.len];exact hi'))).own
   rw[hD]at ho;cases ho
  have t8:=t4.new (k:=(home,num)) (d:=d) g1 kR hR hnb hd kA m8
  refine Row.stPre [.string (S home),vI num] 0 _ I8 l8 kA.sep z7 (by simp[qk]) fun I9 k9 l9=>?_
  rw[show i64.wrap (((k+1:Nat):Int) - 1)=(k:Int)from by rw[SL.qM z6 z6];omega]
  refine ih x' (home,num) (acc++[((home,num),d)]) (bs++[D]) tag8 I9 z6 hx (fun p hp=>?_) (s5.trans ((kA.s z7).trans (k9.s z7))) ((rd5.keep kA).keep k9) l9 ?_
  .rcases mt.1 hp with h' | h'
   .exact fun h2=>hacc p h' (pT c2 h2)
   .rw[mK.1 h'];exact pU _
  .rw[<-adx _ g1]
   exact t8.keepS (k9.s (C:=[23]) z7)
end Go.Proofs.YtomdigihapdhnaaGreatDoor.Zt
namespace Go.Proofs
open YtomdigihapdhnaaGreatDoor
open Go.Shelf
def aiM:Go.Shelf.Ren:=⟨fun | 7=>201 | 10=>245 | n=>n,fun | 23=>252 | 26=>3 | 3=>249 | 28=>358 | 0=>0 | 27=>357 | 33=>229 | 4=>4 | n=>n,fun | n=>n⟩
theorem anr:Go.Proofs.SlLaysZI.n7 prog aiM:={
 mixed:=by kernel_rfl
 f7:=⟨f201.name,z8,func201.trans (congrArg some y0)⟩
 f10:=⟨f245.name,z8,func245.trans (congrArg some y0)⟩
 t0:=underlying0
 a0:=isAgg0
 z0:=sizeOf0
 v0:=zeroValue0
 t4:=underlying4
 a4:=isAgg4
 z4:=sizeOf4
 v4:=zeroValue4
 t23:=underlying252
 a23:=isAgg252
 z23:=sizeOf252
 v23:=zeroValue252
 t26:=underlying3
 a26:=isAgg3
 z26:=sizeOf3
 v26:=zeroValue3
 t27:=underlying357
 a27:=isAgg357
 z27:=sizeOf357
 v27:=zeroValue357
 t28:=underlying358
 a28:=isAgg358
 z28:=sizeOf358
 v28:=zeroValue358
 t33:=underlying229
 a33:=isAgg229
 z33:=sizeOf229
 v33:=zeroValue229}
def ahh:Go.Shelf.Ren:=⟨fun | 6=>200 | 8=>243 | 9=>244 | 11=>289 | 13=>241 | 12=>290 | 23=>287 | 24=>288 | 14=>330 | 15=>331 | 16=>332 | 17=>333 | 18=>334 | 19=>335 | 20=>336 | 21=>337 | 22=>338 | 25=>374 | 26=>326 | 27=>327 | 28=>375 | 29=>376 | 30=>262 | 31=>394 | n=>n,fun | 26=>3 | 28=>358 | 24=>55 | 0=>0 | 3=>3 | 37=>399 | 48=>462 | 50=>464 | 4=>4 | 40=>456 | 39=>455 | 45=>300 | 5=>5 | 9=>9 | 51=>496 | 55=>500 | 57=>534 | 58=>344 | 33=>229 | n=>n,fun | n=>n⟩
theorem apO:Go.Proofs.SlLaysZI.n6 prog ahh:={
 mixed:=by kernel_rfl
 f6:=⟨f200.name,z8,func200.trans (congrArg some y0)⟩
 f8:=⟨f243.name,z8,func243.trans (congrArg some y0)⟩
 f11:=⟨f289.name,z8,func289.trans (congrArg some y0)⟩
 t0:=underlying0
 a0:=isAgg0
 z0:=sizeOf0
 v0:=zeroValue0
 t24:=underlying55
 a24:=isAgg55
 z24:=sizeOf55
 v24:=zeroValue55
 t26:=underlying3
 a26:=isAgg3
 z26:=sizeOf3
 v26:=zeroValue3
 t28:=underlying358
 a28:=isAgg358
 z28:=sizeOf358
 v28:=zeroValue358
 i26:=by kernel_rfl}
def amI:Go.Shelf.Ren:=⟨fun | 5=>244 | 8=>241 | 7=>290 | 19=>287 | 20=>288 | 10=>330 | 11=>331 | 12=>332 | 13=>333 | 14=>334 | 15=>335 | 16=>336 | 17=>337 | 18=>338 | 30=>374 | 31=>326 | 32=>327 | 33=>375 | 34=>376 | 35=>262 | 40=>394 | n=>n,fun | 23=>55 | 25=>3 | 3=>3 | 32=>399 | 22=>55 | 0=>0 | 44=>462 | 46=>464 | 4=>4 | 36=>456 | 35=>455 | 41=>300 | 5=>5 | 9=>9 | 53=>496 | 57=>500 | 63=>534 | 64=>344 | n=>n,fun | n=>n⟩
theorem ans:Go.Proofs.SlLaysM.n5 prog amI:={
 mixed:=by kernel_rfl
 f5:=⟨f244.name,z8,func244.trans (congrArg some y0)⟩
 f7:=⟨f290.name,z8,func290.trans (congrArg some y0)⟩
 f8:=func241.trans (congrArg some y0)
 f10:=⟨f330.name,z8,func330.trans (congrArg some y0)⟩
 f11:=⟨f331.name,z8,func331.trans (congrArg some y0)⟩
 f12:=⟨f332.name,z8,func332.trans (congrArg some y0)⟩
 f13:=⟨f333.name,z8,func333.trans (congrArg some y0)⟩
 f14:=⟨f334.name,z8,func334.trans (congrArg some y0)⟩
 f15:=⟨f335.name,z8,func335.trans (congrArg some y0)⟩
 f16:=⟨f336.name,z8,func336.trans (congrArg some y0)⟩
 f17:=⟨f337.name,z8,func337.trans (congrArg some y0)⟩
 f18:=⟨f338.name,z8,func338.trans (congrArg some y0)⟩
 f19:=func287.trans (congrArg some y0)
 f20:=func288.trans (congrArg some y0)
 f30:=⟨f374.name,z8,func374.trans (congrArg some y0)⟩
 f31:=func326.trans (congrArg some y0)
 f32:=func327.trans (congrArg some y0)
 f33:=⟨f375.name,z8,func375.trans (congrArg some y0)⟩
 f34:=⟨f376.name,z8,func376.trans (congrArg some y0)⟩
 f35:=⟨f262.name,z8,func262.trans (congrArg some y0)⟩
 f40:=⟨f394.name,z8,func394.trans (congrArg some y0)⟩
 t0:=underlying0
 a0:=isAgg0
 z0:=sizeOf0
 v0:=zeroValue0
 t3:=underlying3
 a3:=isAgg3
 z3:=sizeOf3
 v3:=zeroValue3
 t4:=underlying4
 a4:=isAgg4
 z4:=sizeOf4
 v4:=zeroValue4
 t5:=underlying5
 a5:=isAgg5
 z5:=sizeOf5
 v5:=zeroValue5
 t9:=underlying9
 a9:=isAgg9
 z9:=sizeOf9
 v9:=zeroValue9
 t22:=underlying55
 a22:=isAgg55
 z22:=sizeOf55
 v22:=zeroValue55
 t23:=underlying55
 a23:=isAgg55
 z23:=sizeOf55
 v23:=zeroValue55
 t25:=underlying3
 a25:=isAgg3
 z25:=sizeOf3
 v25:=zeroValue3
 t32:=underlying399
 a32:=isAgg399
 z32:=sizeOf399
 v32:=zeroValue399
 t35:=underlying455
 a35:=isAgg455
 z35:=sizeOf455
 v35:=zeroValue455
 t36:=underlying456
 a36:=isAgg456
 z36:=sizeOf456
 v36:=zeroValue456
 t41:=underlying300
 a41:=isAgg300
 z41:=sizeOf300
 v41:=zeroValue300
 t44:=underlying462
 a44:=isAgg462
 z44:=sizeOf462
 v44:=zeroValue462
 t46:=underlying464
 a46:=isAgg464
 z46:=sizeOf464
 v46:=zeroValue464
 t53:=underlying496
 a53:=isAgg496
 z53:=sizeOf496
 v53:=zeroValue496
 t57:=underlying500
 a57:=isAgg500
 z57:=sizeOf500
 v57:=zeroValue500
 t63:=underlying534
 a63:=isAgg534
 z63:=sizeOf534
 v63:=zeroValue534
 t64:=underlying344
 a64:=isAgg344
 z64:=sizeOf344
 v64:=zeroValue344}
open Go.RowKit Go.Maps Go.Sort in
theorem Tryz.sorts200(m:Nat):AnyZI.SortsIn prog ahh Fence.wide m:=
 ⟨fun blk off cap ss W hH hblk hsz=>callsIn_wide.2 (AnyM.slices_Sort_int ans blk off cap ss W hH hblk hsz),
  fun p cap W=>callsIn_wide.2 (AnyM.slices_Sort_int_none ans p cap W)⟩
end Go.Proofs
namespace Go.Proofs.YtomdigihapdhnaaGreatDoor.Zt
open Go SL G Pa Go.Maps Go.Sort Go.Shelf Go.RowKit
variable{B:World}[Zd B]{ro I I':AH}{tag tag':Nat->Nat}
variable{m:List (Str×Value)}{M b c gb:Nat}{Q:Value->AH->Prop}{w:World}
theorem u3p:prog.underlying 3=some (.int .i64):=y0
theorem wy.is{r:Nat}(h:wy kS tag I r b m):xw tag I r b m:=⟨h.tg,h.obj⟩
theorem ams{t:Nat}{v:Value}(hg:Row tag I 0 t ⟨some ⟨gb,0,none⟩,1,1⟩ [v])(hw:aj9 ro I w)(hs:SL.Sep ro I):w.cell? ⟨gb,0,none⟩=some v/\gb<w.heap.size:=by
 have hcell:w.cell? ⟨gb,0,none⟩=some v:=by
  have h1:=Row.cell1 hg hs
  unfold qb at h1
  rw[cell?_eq]
  cases hr:SL.rd ro I gb with
  | none=>simp only at h1;rw[hr]at h1;cases h1
  | some o=>simp only at h1;rw[hw gb o hr];rw[hr]at h1;exact h1
 refine⟨hcell,?_⟩
 rw[cell?_eq]at hcell
 cases hh:w.heap[gb]? with
 | none=>simp only at hcell;rw[hh]at hcell;cases hcell
 | some o=>exact qw hh
theorem aqT(hQ:∀ gb tag' I',(∀R,qd R ro tag I tag' I')->Row tag' I' 0 240 ⟨some ⟨gb,0,none⟩,1,1⟩ [.map (some M)]->Q (.func (.func 242) #[] #[.pointer (some ⟨gb,0,none⟩)]) I'):
  aa5 B ro (some M) I Q:=by
 refine qc.of_calls fun w hw hsep=>?_
 refine(callsIn_wide.1 (Tryz.maps_Keys_198 (some M) w)).mono ?_
 rintro e w' ⟨he,rfl⟩
 obtain⟨N,tag',hN,hst,hrow⟩:=abK (tag:=tag) (w':=w.alloc (.cells #[.map (some M)] 240)) 0 hw hsep (mH w.heap.size) (heap_alloc_new w _)
 exact⟨_,N,he,(Below.refl _ w).alloc (mH _) _,hN,_,rfl,hQ _ tag' _ hst (hrow _ _ _ rfl rfl (mH _) rfl)⟩
theorem aoo{Q:Sl->AH->Prop}(r:Nat)(hg:Row tag I 0 240 ⟨some ⟨gb,0,none⟩,1,1⟩ [.map (some b)])(hm:wy kS tag I c b m)(hnd:(m.map (·.1)).Nodup)(hl:∀ p∈m,p.1.length<=128)(hn:m.length<=4398046511104)
  (hQ:∀ (s:Sl) (tag':Nat->Nat) (I':AH) (ks:List Str),(∀R,qd R ro tag I tag' I')->ks.Perm (m.map (·.1))->ks.Pairwise (· <= ·)->Row tag' I' r 9 s (ks.map Pa.vS)->Q s I'):jB B ro (.func (.func 242) #[] #[.pointer (some ⟨gb,0,none⟩)]) I Q:=by
 refine qc.of_calls fun w hw hsep=>?_
 obtain⟨D,hown,hsz,hperm⟩:=ass (wy.is hm) hw hsep hnd hl hn
 obtain⟨hcell,hlt⟩:=ams hg hw hsep
 have hseq:SeqGives Fence.wide 2 prog 242 #[.pointer (some ⟨gb,0,none⟩)] encStr (fun ss=>ss.Perm (strKeys D)) (Maps.size D) w:=
  AnyZ.keys_gives (ρ:=aiD) {amV with} Fence.wide _ trivial rfl z6 gb b m.length D w hlt hcell hown
 have hsort:=AnyZ.sorted_in akO Fence.wide 5 trivial trivial trivial trivial rfl z6 (Tryz.sorts136 _) (enters_of func195 y0 rfl) 242 #[.pointer (some ⟨gb,0,none⟩)] trivial (enters_of func242 y0 rfl) _ _ (by rw[hsz];simp only[maxLen];omega) (by rw[hsz];omega) _ hseq
 refine(callsIn_wide.1 hsort).mono ?_
 rintro e w' ⟨v,ss,he,hS,hrow,hnil,hb⟩
 have hpair:(ss.mergeSort (fun x y=>decide (x<=y))).Pairwise (· <= ·):=by
  have:=List.pairwise_mergeSort (le:=fun x y:List UInt8=>decide (x<=y)) (fun a b c h1 h2=>by simp at *;exact List.le_trans h1 h2) (fun a b=>by simp;exact List.le_total a b) ss
  simpa using this
 have hpm:(ss.mergeSort (fun x y=>decide (x<=y))).Perm (m.map (·.1)):=(List.mergeSort_perm _ _).trans (hS.trans hperm)
 rcases hrow with⟨hlen,⟨rfl,h0⟩ | ⟨g,cap,cur,rfl,hbase,hgb,r1,r2,r3,r4⟩⟩
 .have h0':ss=[]:=mG h0
  subst h0'
  refine⟨_,fun _=>none,he,hb,agF.none _ _,⟨none,0,0⟩,rfl,?_⟩
  rw[kn]
  exact hQ _ tag I _ (fun _=>qd.refl hsep) hpm hpair (by simpa using Row.nil r 9)
 .obtain⟨N,tag',hN,hst,hrow⟩:=abK (tag:=tag) r hw hsep hbase hgb
  refine⟨_,N,he,hb,hN,⟨some ⟨g,0,none⟩,ss.length,cap⟩,rfl,?_⟩
  refine hQ _ tag' _ _ hst hpm hpair (hrow _ _ _ z7 (by rw[r3,mX]) r1 ?_)
  rw[mX]at r4
  rw[r4];try rfl
theorem ato{m:List (Int×Value)}(hm:wy kI tag I c b m)(hw:aj9 ro I w)(hs:SL.Sep ro I)(hnd:(m.map (·.1)).Nodup)(hl:∀ p∈m,0<=p.1/\p.1<=4611686018427387904)(hn:m.length<=4398046511104):
  ∃D:DataW Unit,w.ownsMap prog 3 RT b m.length D/\Maps.size D=m.length/\(intKeys D).Perm (m.map (·.1)):=by
 obtain⟨es,clock,hb,he,hbn⟩:=hm.obj
 have hwb:=hw b _ (by unfold SL.rd;rw[hs b _ hb];exact hb)
 have hsz:es.size=m.length:=by have:=mi List.length he;simpa using this
 have hkey:∀ (i:Nat) (h1:i<es.toList.length),∃h2:i<m.length,(es.toList[i]).key= .int .i64 m[i].1:=fun i h1=>by
  have h2:i<m.length:=by rw[<-hsz];simpa using h1
  refine⟨h2,?_⟩
  have h:=mi (·[i]?) he
  simp only[mq,mh h1,mh h2,Option.map_some]at h
  exact mi Prod.fst (mQ h)
 have hko:∀ (i:Nat) (h1:i<es.toList.length) (h2:i<m.length),WideElems.rd prog 3 RT es.toList[i]=some (.int .i64 m[i].1,.nil):=fun i h1 h2=>by
  obtain⟨_,hk⟩:=hkey i h1
  have hlen:=hl _ (mO h2)
  unfold WideElems.rd
  rw[hk]
  have:keyOf prog 3 (.int .i64 m[i].1)=some (.int .i64 m[i].1):=by
   unfold keyOf
   rw[u3p]
   show mapKey prog 3 (.int .i64 m[i].1)=_
   unfold mapKey
   rw[u3p]
   show(if _ then _ else _)=_
   rw[me ⟨rfl,by
    have e1:IntKind.i64.min= -9223372036854775808:=by decide
    have e2:IntKind.i64.max=9223372036854775807:=by decide
    show(decide (IntKind.i64.min<=m[i].1) && decide (m[i].1<=IntKind.i64.max))=true
    rw[e1,e2,mv,mg,mg];omega⟩]
  rw[this];try rfl
 refine⟨.map ((es.toList.map (WideElems.rg prog 3 RT)).foldr DataW.insert []),⟨es,clock,hwb,⟨by rw[hsz];simp only[maxLen];omega,⟨hbn.lt,hbn.nd,?_⟩,?_⟩,z6,rfl⟩,?_,?_⟩
 .have:es.toList.map (·.key)=(m.map (·.1)).map fun k=>Value.int .i64 k:=by
   apply LP
   .simp[hsz]
   .intro i h1 h2
    simp only[List.getElem_map]
    obtain⟨_,h⟩:=hkey i (j1 h1)
    exact h
  rw[this]
  refine List.Pairwise.map _ (fun a b hab e=>hab ?_) hnd
  simpa using e
 .intro x hx
  obtain⟨i,hi,rfl⟩:=nv hx
  obtain⟨h2,_⟩:=hkey i hi
  exact⟨_,hko i hi h2⟩
 .show((es.toList.map (WideElems.rg prog 3 RT)).foldr DataW.insert []).length=m.length
  rw[DataW.length_sorted];simp[hsz]
 .show(((es.toList.map (WideElems.rg prog 3 RT)).foldr DataW.insert []).map fun p=>Go.intOf p.1).Perm _
  refine((WideShapes.sorted_perm _).map _).trans ?_
  rw[Lj]
  have:es.toList.map ((fun p:Lit×DataW Unit=>Go.intOf p.1) ∘ WideElems.rg prog 3 RT)=m.map (·.1):=by
   apply LP
   .simp[hsz]
   .intro i h1 h2
    simp only[List.getElem_map,Function.comp]
    have h3:i<es.toList.length:=by simpa using h1
    obtain⟨h4,_⟩:=hkey i h3
    unfold WideElems.rg
    rw[hko i h3 h4];try rfl
  rw[this]
theorem aqU(hQ:∀ gb tag' I',(∀R,qd R ro tag I tag' I')->Row tag' I' 0 252 ⟨some ⟨gb,0,none⟩,1,1⟩ [.map (some M)]->Q (.func (.func 245) #[] #[.pointer (some ⟨gb,0,none⟩)]) I'):
  uN B ro (some M) I Q:=by
 refine qc.of_calls fun w hw hsep=>?_
 refine(callsIn_wide.1 (AnyZI.keys_in anr Fence.wide 5 trivial rfl (some M) w)).mono ?_
 rintro e w' ⟨he,rfl⟩
 obtain⟨N,tag',hN,hst,hrow⟩:=abK (tag:=tag) (w':=w.alloc (.cells #[.map (some M)] 252)) 0 hw hsep (mH w.heap.size) (heap_alloc_new w _)
 exact⟨_,N,he,(Below.refl _ w).alloc (mH _) _,hN,_,rfl,hQ _ tag' _ hst (hrow _ _ _ rfl rfl (mH _) rfl)⟩
theorem aop{m:List (Int×Value)}{Q:Sl->AH->Prop}(r:Nat)(hg:Row tag I 0 252 ⟨some ⟨gb,0,none⟩,1,1⟩ [.map (some b)])(hm:wy kI tag I c b m)(hnd:(m.map (·.1)).Nodup)(hl:∀ p∈m,0<=p.1/\p.1<=4611686018427387904)(hn:m.length<=4398046511104)
  (hQ:∀ (s:Sl) (tag':Nat->Nat) (I':AH) (ks:List Int),(∀R,qd R ro tag I tag' I')->ks.Perm (m.map (·.1))->ks.Pairwise (· <= ·)->Row tag' I' r 3 s (ks.map vI)->Q s I'):ado B ro (.func (.func 245) #[] #[.pointer (some ⟨gb,0,none⟩)]) I Q:=by
 refine qc.of_calls fun w hw hsep=>?_
 obtain⟨D,hown,hsz,hperm⟩:=ato hm hw hsep hnd hl hn
 obtain⟨hcell,hlt⟩:=ams hg hw hsep
 have hseq:SeqGives Fence.wide 2 prog 245 #[.pointer (some ⟨gb,0,none⟩)] encZ (fun ss=>ss.Perm (intKeys D)) (Maps.size D) w:=
  AnyZI.keys_gives (ρ:=aiM) {anr with} Fence.wide _ trivial rfl z6 gb b m.length D w hlt hcell hown
 have hsort:=AnyZI.sorted_in apO Fence.wide 5 trivial trivial trivial trivial rfl z6 (Tryz.sorts200 _) (enters_of func244 y0 rfl) 245 #[.pointer (some ⟨gb,0,none⟩)] trivial (enters_of func245 y0 rfl) _ _ (by rw[hsz];simp only[maxLen];omega) (by rw[hsz];omega) _ hseq
 refine(callsIn_wide.1 hsort).mono ?_
 rintro e w' ⟨v,ss,he,hS,hrow,hnil,hb⟩
 have hpair:(ss.mergeSort (fun x y=>decide (x<=y))).Pairwise (· <= ·):=by
  have:=List.pairwise_mergeSort (le:=fun x y:Int=>decide (x<=y)) (fun a b c h1 h2=>by simp at *;omega) (fun a b=>by simp;omega) ss
  simpa using this
 have hpm:(ss.mergeSort (fun x y=>decide (x<=y))).Perm (m.map (·.1)):=(List.mergeSort_perm _ _).trans (hS.trans hperm)
 rcases hrow with⟨hlen,⟨rfl,h0⟩ | ⟨g,cap,cur,rfl,hbase,hgb,r1,r2,r3,r4⟩⟩
 .have h0':ss=[]:=mG h0
  subst h0'
  refine⟨_,fun _=>none,he,hb,agF.none _ _,⟨none,0,0⟩,rfl,?_⟩
  rw[kn]
  exact hQ _ tag I _ (fun _=>qd.refl hsep) hpm hpair (by simpa using Row.nil r 3)
 .obtain⟨N,tag',hN,hst,hrow⟩:=abK (tag:=tag) r hw hsep hbase hgb
  refine⟨_,N,he,hb,hN,⟨some ⟨g,0,none⟩,ss.length,cap⟩,rfl,?_⟩
  refine hQ _ tag' _ _ hst hpm hpair (hrow _ _ _ z7 (by rw[r3,mX]) r1 ?_)
  rw[mX]at r4
  rw[r4]
end Go.Proofs.YtomdigihapdhnaaGreatDoor.Zt
namespace Go.Proofs.YtomdigihapdhnaaGreatDoor.Zt
open Go SL G Pa Wi
variable{B:World}[Zd B]{ro I I':AH}{tag tag':Nat->Nat}
section
variable{T M b0:Nat}{bs:List Nat}{t:Tbl}
abbrev akF(p:Str×Int):List Value:=[Pa.vS p.1,vI p.2]
end
end Go.Proofs.YtomdigihapdhnaaGreatDoor.Zt
namespace Go.Proofs.YtomdigihapdhnaaGreatDoor.Zt
open Go SL G Pa Wi
variable{B:World}[Zd B]{ro I I':AH}{tag tag':Nat->Nat}
theorem wy.del{κ:Type}[DecidableEq κ]{enc:κ->Value}{r m b:Nat}{l:List (κ×Value)}(h:wy enc tag I r m l)(hr:r≠tag b):wy enc tag (SL.del I b) r m l:=by
 obtain⟨es,c,hb,hx⟩:=h.obj
 refine⟨h.tg,es,c,?_,hx⟩
 unfold SL.del
 rw[mc (fun e=>hr (by rw[<-h.tg,e]))]
 exact hb
section
variable{T M b0:Nat}{bs:List Nat}{t:Tbl}
theorem alb{Q:Sl->AH->Prop}(q:Nat)(h:pw tag I T M bs t)(w:ag4 t)
  (hQ:∀ s tag' I',(∀R,qd R ro tag I tag' I')->Row tag' I' q 9 s ((homesT t).map Pa.vS)->Q s I'):jP B ro (some ⟨T,0,none⟩) I Q:=by
 refine age fun hs=>?_
 unfold uK
 refine⟨_,rfl,some M,h.cell.cell1 hs,?_⟩
 refine aqT (tag:=tag) fun gb tag1 I1 st1 r1=>?_
 have h1:=h.fresh st1
 have hk:=acB t bs h.map.len
 refine aoo (tag:=tag1) q r1 h1.map.map (by rw[hk];exact h.map.keys) (fun p hp=>?_) (by rw[aeW t bs h.map.len];have:=w.len;omega) fun s tag2 I2 ks st2 hp hsrt r2=>?_
 .have:p.1∈(kvP t bs).map (·.1):=my.2 ⟨p,hp,rfl⟩
  rw[hk]at this
  obtain⟨y,hy,e⟩:=my.1 this
  rw[<-e];exact w.names y hy
 .rw[hk]at hp
  have e:ks=homesT t:=ang hp hsrt
  rw[e]at r2
  exact hQ s tag2 I2 (fun R=>(st1 R).trans (st2 R)) r2
theorem aiN{b m:Nat}{cs:List Nat}{home:Str}{h:jf}{Q:Sl->AH->Prop}(q:Nat)(row:Row tag I (rH b) 254 ⟨some ⟨b,0,none⟩,2,2⟩ [vI h.last,.map (some m)])(map:ud kI (aee tag I b home) tag I (rL b) m cs h.live)(hl:h.live.length<=64)(hr:∀ y∈h.live,0<=y.1/\y.1<=4611686018427387904)
  (hQ:∀ s tag' I',(∀R,qd R ro tag I tag' I')->Row tag' I' q 3 s ((numsH h).map vI)->Q s I'):jd B ro (some ⟨b,0,none⟩) I Q:=by
 refine afA fun hs=>?_
 unfold pF
 refine⟨_,rfl,some m,(row.read hs).2.2 _ rfl 1 _ rfl,?_⟩
 refine aqU (tag:=tag) fun gb tag1 I1 st1 r1=>?_
 have hk:=acB h.live cs map.len
 refine aop (tag:=tag1) q r1 (map.map.keep (st1 [])) (by rw[hk];exact map.keys) (fun p hp=>?_) (by rw[aeW h.live cs map.len];omega) fun s tag2 I2 ns st2 hp hsrt r2=>?_
 .have:p.1∈(kvP h.live cs).map (·.1):=my.2 ⟨p,hp,rfl⟩
  rw[hk]at this
  obtain⟨y,hy,e⟩:=my.1 this
  rw[<-e];exact hr y hy
 .rw[hk]at hp
  have e:ns=numsH h:=anh hp hsrt
  rw[e]at r2
  exact hQ s tag2 I2 (fun R=>(st1 R).trans (st2 R)) r2
abbrev CTe:List Nat:=[0,1,20,21,30]
theorem arV{Q:Sl->AH->Prop}(h:pw tag I T M bs t)(w:ag4 t)
  (hQ:∀ s tag' I',qi CTe ro tag I tag' I'->Row tag' I' 6 5 s ((aaF t).map vU)->Q s I'):ua B ro (some ⟨T,0,none⟩) I Q:=by
 refine afF fun hs=>?_
 unfold ug
 refine adc (tag:=tag) (r:=30) fun W tag1 I1 st1 w1=>?_
 have h1:=h.fresh st1
 refine⟨_,rfl,some M,h1.cell.cell1 (st1 []).sep,?_⟩
 refine afm h1.map.map (st1 []).sep ae0 ?_
 refine⟨_,rfl,?_⟩
 rw[aeW t bs h.map.len]
 refine adf (tag:=tag1) (a:=([],false)) [(t.length:Int)] w1 z8 (st1 []).sep z7 fun tag2 I2 st2 w2=>?_
 have h2:=h1.keepS (st2.s (C:=[30,1]) z8)
 refine alb (tag:=tag2) 20 h2 w fun hsl tag3 I3 st3 r3=>?_
 have hln:hsl.len=(homesT t).length:=by rw[r3.len,ml]
 have hml:=ajN t
 have htl:=w.len
 have s3:qi CTe ro tag I tag3 I3:=(wt st1).trans ((st2.s z8).trans (wt st3))
 suffices∀m j tag4 I4,j+m=(homesT t).length->qi CTe ro tag I tag4 I4->Row tag4 I4 20 9 hsl ((homesT t).map Pa.vS)->pw tag4 I4 T M bs t->qP tag4 I4 30 W (((homesT t).take j).foldl (fun a k=>uI a (k,ky t k)) (adS t)).1 (((homesT t).take j).foldl (fun a k=>uI a (k,ky t k)) (adS t)).2->lfpD (zO B ro (some ⟨T,0,none⟩) (some ⟨W,0,none⟩) hsl Q) (j:Int) I4 from
  this _ 0 tag3 I3 (mp _) s3 r3 (h2.fresh st3) (by rw[Lz];exact w2.keep (st3 []))
 intro m
 induction m with
 | zero=>
  intro j tag4 I4 hj s4 r4 h4 w4
  refine lfpD.intro ?_
  unfold zO
  rw[mc z6]
  unfold jg
  have hb:=ahZ w j
  rw[mT z6]at w4 hb
  have hb2:67112475*(homesT t).length<=67112475*1048576:=nM _ z6
  refine ajH (a:=akv t) w4 s4.sep (by unfold akv;omega) (fun hbad=>?_) fun hgood s tag5 I5 st5 r5=>?_
  .refine hQ _ tag4 I4 s4 ?_
   unfold aaF adg
   rw[me hbad]
   exact Row.nil _ _
  .refine hQ s tag5 I5 (s4.trans (wt st5)) ?_
   unfold aaF adg
   rw[mc (by rw[hgood];simp)]
   exact r5
 | succ m ih=>
  intro j tag4 I4 hj s4 r4 h4 w4
  have hjl:j<(homesT t).length:=by omega
  have hs4:=s4.sep
  obtain⟨p,hp,hg⟩:=r4.ptr hs4 y6
  obtain⟨h0,hmem⟩:=ajO (mO hjl)
  have etk:((homesT t).take (j+1)).foldl (fun a k=>uI a (k,ky t k)) (adS t)=uI (((homesT t).take j).foldl (fun a k=>uI a (k,ky t k)) (adS t)) ((homesT t)[j],ky t (homesT t)[j]):=by
   rw[np,mh hjl,List.foldl_append];try rfl
  have hb:=ahZ w j
  have hcell:=hg j (Pa.vS (homesT t)[j]) (by rw[mq,mh hjl];try rfl)
  rw[nU,Ll z6]at hb
  generalize (homesT t)[j]=home at hmem etk hcell
  have hb2:67112475*(j+1)<=67112475*1048576:=nM _ z6
  generalize hA:((homesT t).take j).foldl (fun a k=>uI a (k,ky t k)) (adS t)=A at w4 hb etk
  have hho:ky t home=h0:=by unfold ky;rw[yn w.keys hmem];try rfl
  rw[hho]at etk
  have hnm:home.length<=128:=w.names _ hmem
  have hlv:h0.live.length<=64:=w.live _ hmem
  have hrg:=w.rng _ hmem
  have hrp:=w.reply _ hmem
  refine lfpD.intro ?_
  generalize hY:lfpD (zO B ro (some ⟨T,0,none⟩) (some ⟨W,0,none⟩) hsl Q)=Y0 at ih⊢
  unfold zO
  rw[me z6]
  refine⟨p,hp,z6,z6,S home,by rw[mr];exact hcell,?_⟩
  refine⟨_,rfl,some M,h4.cell.cell1 hs4,?_⟩
  refine aaJ (k:=home) h4.map.map hs4 ae0 (amm u9) aom ?_
  rcases h4.map.look home with⟨g1,_⟩ | ⟨i,b,hh,hb1,hp1,g3,g4,hA4⟩
  .rw[yn w.keys hmem]at g1;cases g1
  rw[g4]
  rw[yn w.keys hmem]at g3
  obtain rfl:=mQ g3
  refine⟨some ⟨b,0,none⟩,rfl,?_⟩
  refine ajL (tag:=tag4) (a:=A) home w4 z8 hs4 z6 fun tag5 I5 st5 w5=>?_
  have k5:qi [30,1] ro tag4 I4 tag5 I5:=st5.s z8
  have l5:=vl A home
  obtain⟨mm,cs,row5,map5⟩:=hA4.keepS k5
  have hs5:=st5.sep
  obtain⟨tb,hob⟩:=row5.tagOf
  have cX:∀ τ i v,[vI h0.last,.map (some mm)][i]?=some v->qb (join ro (SL.one I5 b)) τ ((⟨b,0,none⟩:Addr).add i)=some v:=fun τ i v hv=>by
   have:=row5.lend hs5 (τ:=τ) (i:=i) (v:=v) hv
   rwa [mX]at this
  refine aeL b ?_
  refine⟨_,rfl,h0.last,by simpa using cX _ 0 _ rfl,_,rfl,some mm,cX _ 1 _ rfl,?_⟩
  refine afm (wy.del (b:=b) map5.map (by rw[tb];omega)) hs5.lent ain ?_
  refine⟨_,rfl,?_⟩
  rw[aeW h0.live cs map5.len]
  have w5':=qP.del (b:=b) w5 (by rw[tb];omega) (by rw[tb];omega)
  refine adf (tag:=tag5) (a:=wv A home) [h0.last,(h0.live.length:Int)] w5' z8 hs5.lent (by simp only[mA,mZ];omega) fun tag6 I6 st6 w6=>?_
  intro hdis
  have st6':=qd.back st6 hs5 hdis hob
  have w6':=qP.back (q:=tag5 b) w6 hdis hob
  have k6:qi [30,1] ro tag5 I5 (setTag tag6 b (tag5 b)) (join (SL.one I5 b) I6):=st6'.s z8
  generalize setTag tag6 b (tag5 b)=tag7 at st6' w6' k6
  generalize join (SL.one I5 b) I6=I7 at st6' w6' k6
  have w7:qP tag7 I7 30 W (yP A (home,h0)).1 (yP A (home,h0)).2:=w6'
  have k47:qi [30,1] ro tag4 I4 tag7 I7:=k5.trans k6
  obtain⟨mm',cs',row7,map7⟩:=hA4.keepS k47
  refine aiN (tag:=tag7) 21 row7 map7 hlv hrg fun nsl tag8 I8 st8 r8=>?_
  have hnl:nsl.len=(numsH h0).length:=by rw[r8.len,ml]
  have hnn:=ak1 h0
  have k48:qi CTe ro tag4 I4 tag8 I8:=(k47.mono z8).trans (wt st8)
  suffices∀m' i' tag9 I9,i'+m'=(numsH h0).length->qi CTe ro tag4 I4 tag9 I9->Row tag9 I9 21 3 nsl ((numsH h0).map vI)->Row tag9 I9 20 9 hsl ((homesT t).map Pa.vS)->qP tag9 I9 30 W (((numsH h0).take i').foldl (fun a n=>aal a (yZ h0 n)) (yP A (home,h0))).1 (((numsH h0).take i').foldl (fun a n=>aal a (yZ h0 n)) (yP A (home,h0))).2->lfpD (zK B ro (some ⟨T,0,none⟩) (some ⟨W,0,none⟩) hsl (j:Int) (some ⟨b,0,none⟩) nsl Q Y0) (i':Int) I9 from
   this _ 0 tag8 I8 (mp _) k48 r8 ((r4.keepS k47).keep (st8 [])) (by rw[Lz];exact w7.keep (st8 []))
  intro m'
  induction m' with
  | zero=>
   intro i' tag9 I9 hi' s9 r9 q9 w9
   refine lfpD.intro ?_
   unfold zK
   rw[mc z6]
   unfold xM
   rw[Pa.inc j z6]
   rw[mT z6]at w9
   refine ih (j+1) tag9 I9 z6 (s4.trans s9) q9 (h4.keepS s9) ?_
   rw[etk]
   exact w9
  | succ m' ih'=>
   intro i' tag9 I9 hi' s9 r9 q9 w9
   have hil:i'<(numsH h0).length:=by omega
   have hs9:=s9.sep
   obtain⟨p',hp',hg'⟩:=r9.ptr hs9 y6
   have hcell':=hg' i' (vI (numsH h0)[i']) (by rw[mq,mh hil];try rfl)
   have hnm':(numsH h0)[i']∈h0.live.map (·.1):=by
    have:=mO hil
    unfold numsH ama at this⊢
    exact(List.mergeSort_perm _ _).mem_iff.1 this
   have etn:((numsH h0).take (i'+1)).foldl (fun a n=>aal a (yZ h0 n)) (yP A (home,h0))=aal (((numsH h0).take i').foldl (fun a n=>aal a (yZ h0 n)) (yP A (home,h0))) (yZ h0 (numsH h0)[i']):=by
    rw[np,mh hil,List.foldl_append];try rfl
   have hlb:=adU (a:=A) (p:=(home,h0)) hnm hlv hrp i'
   have hlb2:=adU (a:=A) (p:=(home,h0)) hnm hlv hrp (i'+1)
   simp only at hlb hlb2
   rw[etn]at hlb2
   generalize (numsH h0)[i']=n at hcell' hnm' etn hlb2
   generalize hC:((numsH h0).take i').foldl (fun a n=>aal a (yZ h0 n)) (yP A (home,h0))=C at w9 hlb etn hlb2
   obtain⟨mm9,cs9,row9,map9⟩:=hA4.keepS s9
   refine lfpD.intro ?_
   generalize hZ:lfpD (zK B ro (some ⟨T,0,none⟩) (some ⟨W,0,none⟩) hsl (j:Int) (some ⟨b,0,none⟩) nsl Q Y0)=Z0 at ih'⊢
   unfold zK
   rw[me z6]
   refine⟨p',hp',z6,z6,n,by rw[mr];exact hcell',?_⟩
   refine⟨_,rfl,some mm9,(row9.read hs9).2.2 _ rfl 1 _ rfl,?_⟩
   refine aaJ (k:=n) map9.map hs9 ain (amn u3') asC ?_
   rcases map9.look n with⟨g1,_⟩ | ⟨i2,c,s,hb2',hp2,g3',g4',hS⟩
   .exact mC hnm' (zF.1 g1)
   rw[g4']
   have hso:yZ h0 n=(n,s):=by unfold yZ;rw[g3'];try rfl
   rw[hso]at etn hlb2
   obtain⟨d,rowS,rd⟩:=hS
   have gS:=(rowS.read hs9).2.2 _ rfl
   have hsr:s.reply.length<=1048576:=hrp _ (yI g3')
   refine⟨some ⟨c,0,none⟩,rfl,_,rfl,_,rfl,_,rfl,_,rfl,_,rfl,n,gS 1 _ rfl,s.nonce,gS 2 _ rfl,s.lease,gS 3 _ rfl,s.beats,gS 4 _ rfl,s.req,gS 5 _ rfl,?_⟩
   refine adf (tag:=tag9) (a:=C) [n,s.nonce,s.lease,s.beats,s.req] w9 z8 hs9 (by simp only[mA,mZ];omega) fun taga Ia sta wa=>?_
   have la:=abC [n,s.nonce,s.lease,s.beats,s.req] C
   simp only[mA,mZ]at la
   have ka:qi [30,1] ro tag9 I9 taga Ia:=sta.s z8
   have rowSa:=rowS.keepS ka (by rw[show(58+64*(pr b c+2))%64=58 by omega];decide)
   have rda:=rd.keepS ka
   refine⟨_,rfl,d,(rowSa.read sta.sep).2.2 _ rfl 6 _ rfl,?_⟩
   refine asx (tag:=taga) (a:=[n,s.nonce,s.lease,s.beats,s.req].foldl wB C) s.reply wa z8 sta.sep z6 (fun tag' I' st=>(rda.keep st z8).read st.sep) fun tagb Ib stb wb=>?_
   have kb:qi [30,1] ro tag9 I9 tagb Ib:=ka.trans (stb.s z8)
   rw[Pa.inc i' z6]
   refine ih' (i'+1) tagb Ib z6 (s9.trans (kb.mono z8)) (r9.keepS kb) (q9.keepS kb) ?_
   rw[etn]
   exact wb
end