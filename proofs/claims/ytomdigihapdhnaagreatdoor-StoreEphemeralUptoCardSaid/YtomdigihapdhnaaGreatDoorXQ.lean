import Derived.Test.YtomdigihapdhnaaGreatDoorXP
set_option linter.all false
set_option maxRecDepth 99999
set_option maxHeartbeats 0
open Go.IntKind(i64)
open Go.Proofs.Tryz
namespace Go.Proofs.YtomdigihapdhnaaGreatDoor
namespace Zt
open Go SL G Pa Wi
variable{B:World}{ro I I':AH}{tag tag':Nat->Nat}
variable{Q:Int->Int->Sl->Int->Sl->Int->Int->Int->Int->Sl->Sl->Int->AH->Prop}{C bs:List Nat}{l:List Value}{M T Th Tt W:Nat}{ms s:Sl}
theorem adG:prog.underlying 240=some (.map 9 255):=y1
theorem aeL:prog.underlying 252=some (.map 3 249):=y1
theorem u3':prog.underlying 3=some (.int .i64):=y1
theorem aqo:prog.underlying 55=some (.slice 3):=y1
theorem aqp:qo prog 3 (.int .i64 0) 1 8:=qo.of y1
theorem amk:qo prog 255 (.pointer none) 1 8:=qo.of y1
theorem agM(q:Nat){Q:Sl->AH->Prop}(h:SL.wy ro I s l)(hs:SL.Sep ro I)(hl:l.length<=1048576)(hv:∀ v∈l,qf v=true)(hQ:∀ s' tag' I',(∀R,qd R ro tag I tag' I')->Row tag' I' q 3 s' l->Q s' I'):xq B ro s I Q:=by
 refine agr fun _=>?_
 unfold uP
 by_cases h0:s.a=none
 .rw[mc h0]
  rw[h.2.1 h0]at hQ
  exact hQ _ tag I (fun _=>qd.refl hs) (Row.nil q 3)
 .rw[ma h0]
  refine qh (tag:=tag) q hs fun b tag1 I1 st1 r1=>?_
  have h':SL.wy ro I1 s l:=h.step (st1 [])
  refine abg r1 (st1 []).sep h' aqo aqp rfl hv j0 y0 fun s' tag2 I2 st2 r2=>?_
  exact⟨s',rfl,hQ s' tag2 I2 (fun R=>(st1 R).trans (st2 R (.inl rfl))) r2⟩
theorem arK{Q:Bool->AH->Prop}(h:SL.wy ro I s [vI 0,vI 1,vI 2])(hQ:Q true I):ja B ro s I Q:=by
 refine adE fun _=>?_
 unfold pj
 have hl:(s.len:Int)=3:=by rw[h.1];try rfl
 obtain⟨p,hp⟩:∃ p,s.a=some p:=by
  cases e:s.a with
  | none=>have:=h.2.1 e;cases this
  | some p=>exact⟨p,rfl⟩
 have g0:=h.2.2 p hp 0 _ rfl
 have g1:=h.2.2 p hp 1 _ rfl
 have g2:=h.2.2 p hp 2 _ rfl
 refine lfpD.intro ?_
 generalize hY:lfpD (wa B ro s Q)=Y
 unfold wa
 rw[hl,mc y0]
 refine⟨p,hp,y0,y0,0,g0,?_⟩
 rw[ma y0,ma y0]
 unfold za wA
 rw[ma y0,show i64.wrap (0+1)=1 from rfl,<-hY]
 refine lfpD.intro ?_
 rw[hY]
 unfold wa
 rw[hl,mc y0]
 refine⟨p,hp,y0,y0,1,g1,?_⟩
 rw[ma y0,mc y0]
 refine⟨p,hp,y0,y0,0,g0,?_⟩
 unfold za wA
 rw[ma y0,show i64.wrap (1+1)=2 from rfl,<-hY]
 refine lfpD.intro ?_
 rw[hY]
 unfold wa
 rw[hl,mc y0]
 refine⟨p,hp,y0,y0,2,g2,?_⟩
 rw[ma y0,mc y0]
 refine⟨p,hp,y0,y0,1,g1,?_⟩
 unfold za wA
 rw[ma y0,show i64.wrap (2+1)=3 from rfl,<-hY]
 refine lfpD.intro ?_
 rw[hY]
 unfold wa
 rw[hl,ma y0]
 unfold xN
 rw[hl]
 exact hQ
theorem as8{Q:Int->Bool->Int->AH->Prop}(hc:Row tag I 55 242 ⟨some ⟨T,0,none⟩,1,1⟩ [.map (some M)])(hm:zu kS tag I 119 M [])
  (hQ:∀ tag' I',StepS [0,55,56,57,58] ro tag I tag' I'->Q 1 true 0 I'):jb B ro (some ⟨T,0,none⟩) ⟨#[97]⟩ 5 100 I Q:=by
 refine adF fun hs=>?_
 unfold pn
 refine afM ?_
 rw[show qP (L ⟨#[97]⟩)=true from by decide,ma z8]
 refine aag fun _=>?_
 unfold ya
 show(if¬(((decide ((1:Int)<=5)) && (decide ((5:Int)<=4611686018427387903)))=true)then _ else _)
 rw[ma y0,ma y0]
 refine⟨_,rfl,some M,hc.cell1 hs,?_⟩
 refine zX (k:=[97]) hm hs adG (ajw u9) amk ?_
 refine⟨none,rfl,?_⟩
 rw[mc rfl]
 refine ahn kI (tag:=tag) 57 hs fun m tag1 I1 st1 m1=>?_
 refine qh (tag:=tag1) 56 (st1 []).sep fun H tag2 I2 st2 r2=>?_
 have m2:=m1.keep (st2 [])
 have hs2:=(st2 []).sep
 unfold vE
 refine⟨_,rfl,some m,(r2.read hs2).2.2 _ rfl 1 _ rfl,?_⟩
 refine aho aeL m2 hs2 fun es clock x hb he hbn hro hx=>?_
 have st3:∀ R,qd R ro tag2 I2 (setTag tag2 x 0) (upd I2 x (.mapIter (some m) clock #[] clock)):=fun R=>qd.fresh hs2 hro hx
 refine⟨_,rfl,?_⟩
 refine lfpD.intro ?_
 show awp prog ro (Instr.next (.pointer (some ⟨x,0,none⟩)) false 0) _ _
 refine ad4 (qC _ _ _) ((st3 []).keep m _ hb z8).2 (st3 []).sep hbn (fun _=>?_) (fun e hes _=>?_)
 rotate_left
 .have:es.toList=[]:=by simpa using he
  rw[this]at hes;cases hes
 refine .inl ⟨rfl,?_⟩
 generalize (upd I2 x (.mapIter (some m) clock #[] clock))=I3 at st3⊢
 generalize (setTag tag2 x 0)=tag3 at st3
 have hs3:=(st3 []).sep
 have r3:=r2.keep (st3 [])
 have m3:=m2.keep (st3 [])
 unfold xP
 refine⟨_,rfl,some m,(r3.read hs3).2.2 _ rfl 1 _ rfl,?_⟩
 refine akB m3 hs3 aeL ?_
 refine⟨0,rfl,?_⟩
 rw[ma y0]
 refine⟨_,rfl,0,(r3.read hs3).2.2 _ rfl 0 _ rfl,?_⟩
 unfold vl
 rw[ma y0]
 refine⟨_,rfl,0,(r3.read hs3).2.2 _ rfl 0 _ rfl,_,rfl,?_⟩
 refine r3.stPre [.int .i64 (i64.wrap (0+1))] 0 _ I3 hs3 z8 (by simp[qf]) fun I4 st4 r4=>?_
 have hs4:=st4.sep
 have m4:=m3.keep st4
 refine⟨_,rfl,_,rfl,_,rfl,some m,(r4.read hs4).2.2 _ rfl 1 _ rfl,_,(r4.read hs4).2.2 _ rfl 0 _ rfl,_,(r4.read hs4).2.2 _ rfl 0 _ rfl,?_⟩
 refine qh (tag:=tag3) 58 hs4 fun Z tag5 I5 st5 r5=>?_
 refine abh (k:=i64.wrap (0+1)) (m4.keep (st5 [])) (st5 []).sep aeL (ame u3') fun I6 st6 m6=>?_
 have hc6:Row tag5 I6 55 242 ⟨some ⟨T,0,none⟩,1,1⟩ [.map (some M)]:=(((((hc.keep (st1 [])).keep (st2 [])).keep (st3 [])).keep st4).keep (st5 [])).keep st6
 have hm6:zu kS tag5 I6 119 M []:=(((((hm.keep (st1 [])).keep (st2 [])).keep (st3 [])).keep st4).keep (st5 [])).keep st6
 have r6:=(r4.keep (st5 [])).keep st6
 refine⟨_,rfl,some M,hc6.cell1 st6.sep,?_⟩
 refine abh (k:=[97]) hm6 st6.sep adG (ajw u9) fun I7 st7 m7=>?_
 have r7:=r6.keep st7
 refine⟨_,rfl,_,(r7.read st7.sep).2.2 _ rfl 0 _ rfl,?_⟩
 refine hQ tag5 I7 ?_
 refine(((st1 []).trans (st2 [])).trans (st3 [])).s z8 |>.trans ((st4.s z8).trans (((st5 []).s z8).trans ((st6.s z8).trans (st7.s z8))))
theorem as9{h:xl}{k nonce:Int}{s:yv}(hn:(h.live.map (·.2.nonce)).Nodup)(hm:(k,s)∈h.live)(e:s.nonce=nonce):agJ h nonce=some (k,s):=by
 unfold agJ
 have key:∀ l:List (Int×yv),(l.map (·.2.nonce)).Nodup->(k,s)∈l->l.find? (fun p=>decide (p.2.nonce=nonce))=some (k,s):=by
  intro l
  induction l with
  | nil=>intro _ h;cases h
  | cons p l ih=>
   intro hn hm
   simp only[mF,nl]at hn
   rw[List.find?_cons]
   by_cases c:p.2.nonce=nonce
   .rw[Lc c]
    rcases mq.1 hm with h | h
    .rw[h]
    .exact mu (mC.2 ⟨(k,s),h,by rw[c];exact e⟩) hn.1
   .rw[nX c]
    rcases mq.1 hm with h | h
    .rw[<-h]at c;exact mu e c
    .exact ih hn.2 h
 exact key _ hn hm
abbrev CO:List Nat:=[0,55,56,57,58]
theorem ata{b0:Nat}{t:Tbl}{home:Str}{nonce lease:Int}{Q:Int->Bool->Int->AH->Prop}(h:wF tag I T M bs t)(hi:vK b0 t)(hb0:b0<=33554433)
  (hQ:∀ f tag' I',StepS CO ro tag I tag' I'->aim tag' I' T (vm t home nonce lease).1->Q (vm t home nonce lease).2.1 f (vm t home nonce lease).2.2 I'):jb B ro (some ⟨T,0,none⟩) (S home) nonce lease I Q:=by
 refine adF fun hs=>?_
 unfold pn
 have same:∀ (x:Int×Int),vm t home nonce lease=(t,x)->∀ f,Q x.1 f x.2 I:=fun x e f=>by
  have:=hQ f tag I (StepS.refl hs)
  rw[e]at this
  exact this ⟨M,bs,h⟩
 refine afM ?_
 rw[L_S]
 cases h1:qP home with
 | false=>
  rw[mc z8]
  exact same (0,82) (by unfold vm;rw[mc h1]) false
 | true=>
 rw[ma z8]
 refine aag fun _=>?_
 unfold ya
 show(if¬(okN nonce=true)then _ else _)
 cases h2:okN nonce with
 | false=>
  rw[mc z8]
  exact same (0,10) (by unfold vm;rw[ma (by simp[h1]),mc h2]) false
 | true=>
 rw[ma z8]
 by_cases h3:lease<1\/1048576<lease
 .rw[mc h3]
  exact same (0,153) (by unfold vm;rw[ma (by simp[h1]),ma (by simp[h2]),mc h3]) false
 rw[ma h3]
 have eo:vm t home nonce lease=match agJ (qQ t home) nonce with
   | some p=>(t,p.1,0)
   | none=>if 64<=(qQ t home).live.length\/(qQ t home).last=4611686018427387903 then(t,0,61)
    else(wR t home (alp (qQ t home) nonce lease),(qQ t home).last+1,0):=by
  unfold vm
  rw[ma (by simp[h1]),ma (by simp[h2]),ma h3]
  try rfl
 have hok:=alr hi home
 have key:∀ (H m:Nat) (cs:List Nat) (tag1:Nat->Nat) (I1:AH),StepS CO ro tag I tag1 I1->wF tag1 I1 T M bs t->Row tag1 I1 (rH H) 254 ⟨some ⟨H,0,none⟩,2,2⟩ [vI (qQ t home).last,.map (some m)]->yq kI (aed tag1 I1 H home) tag1 I1 (rL H) m cs (qQ t home).live->
   (∀R tag2 I2 x,ahv H R->qd R ro tag1 I1 tag2 I2->pG tag2 I2 H home x->∀ tag3 I3,qd [119] ro tag2 I2 tag3 I3->zu kS tag3 I3 119 M (wR (kvP t bs) home (afj H))->aim tag3 I3 T (wR t home x))->
   vE B ro (some ⟨T,0,none⟩) (S home) nonce lease Q (some ⟨H,0,none⟩) I1:=by
  intro H m cs tag1 I1 s1 h1 row map fin
  have hs1:=s1.sep
  unfold vE
  refine⟨_,rfl,some m,(row.read hs1).2.2 _ rfl 1 _ rfl,?_⟩
  refine amC (F:=fun p=>yi B ro (some ⟨T,0,none⟩) (S home) nonce lease p (some ⟨H,0,none⟩) Q) (R:=[]) (ty:=0) aeL map.map hs1 z8 z8 (by unfold rL;omega)
   (fun d _ tag2 I2=>qd [0] ro tag1 I1 tag2 I2/\∀ p∈d,∀(i c:Nat) (s:yv),cs[i]?=some c->(qQ t home).live[i]?=some (p.1,s)->s.nonce≠nonce) (fun tag2 I2 st=>⟨st [0],z8⟩) ?_
  rintro x d rest s tag2 I2 Y hp hs2 ⟨a1,a2⟩ hn
  unfold yi
  refine hn _ (fun hr=> .inl ⟨rfl,?_⟩) fun p q va vb tag4 I4 hp4 st4 hm4 he hY=> .inr ⟨va,vb,rfl,he _ ?_⟩
  .-- none has the nonce
   rw[hr,ny]at hp
   have hw:agJ (qQ t home) nonce=none:=by
    unfold agJ
    rw[List.find?_eq_none]
    intro p hpm
    obtain⟨i,hil,e⟩:=mZ hpm
    have hil':i<cs.length:=by rw[map.len];exact hil
    have hpi:(qQ t home).live[i]?=some (p.1,p.2):=by rw[md hil,e]
    have hkv:p.1∈(kvP (qQ t home).live cs).map (·.1):=by rw[abS _ _ map.len];exact mC.2 ⟨p,hpm,rfl⟩
    obtain⟨q,hq,e2⟩:=mC.1 hkv
    have:=a2 q (hp.mem_iff.2 hq) i cs[i] p.2 (md hil') (by rw[e2];exact hpi)
    simpa using this
   rw[hw]at eo
   simp only at eo
   have row2:=row.keep a1
   have map2:zu kI tag2 I2 (rL H) m (kvP (qQ t home).live cs):=map.map.keep a1
   have h2:wF tag2 I2 T M bs t:=h1.keepS (a1.s (C:=[0]) z8)
   have s2:StepS CO ro tag I tag2 I2:=s1.trans (a1.s z8)
   unfold xP
   refine⟨_,rfl,some m,(row2.read hs2).2.2 _ rfl 1 _ rfl,?_⟩
   refine akB map2 hs2 aeL ?_
   rw[alW _ _ map.len]
   refine⟨_,rfl,?_⟩
   have full:(64<=(qQ t home).live.length\/(qQ t home).last=4611686018427387903)->Q 0 false 61 I2:=fun c=>by
    rw[mc c]at eo
    have:=hQ false tag2 I2 s2
    rw[eo]at this
    exact this ⟨M,bs,h2⟩
   by_cases c1:64<=(qQ t home).live.length
   .rw[mc z7]
    unfold vl
    rw[mc rfl]
    exact full (.inl c1)
   rw[ma z7]
   refine⟨_,rfl,_,(row2.read hs2).2.2 _ rfl 0 _ rfl,?_⟩
   unfold vl
   by_cases c2:(qQ t home).last=4611686018427387903
   .rw[mc (j2 c2)]
    exact full (.inr c2)
   rw[ma (j2 c2)]
   rw[ma z7]at eo
   have hla:=hok.last
   have ew:i64.wrap ((qQ t home).last+1)=(qQ t home).last+1:=SL.wd z7 z7
   refine⟨_,rfl,_,(row2.read hs2).2.2 _ rfl 0 _ rfl,_,rfl,?_⟩
   rw[ew]
   refine row2.stPre [vI ((qQ t home).last+1)] 0 _ I2 hs2 z8 (by simp[qf]) fun I4 st4 r4=>?_
   have hs4:=st4.sep
   have map4:=map2.keep st4 (by simp[rH,rL,rS]<;>omega)
   refine⟨_,rfl,_,rfl,_,rfl,some m,(r4.read hs4).2.2 _ rfl 1 _ rfl,_,(r4.read hs4).2.2 _ rfl 0 _ rfl,_,(r4.read hs4).2.2 _ rfl 0 _ rfl,?_⟩
   have k4:qd [0,rH H,rL H] ro tag1 I1 tag2 I4:=(a1.mono z8).trans (st4.mono z8)
   refine agA (tag:=tag2) (fun c=>rS H c) hs4 fun Z tag5 I5 hroZ hZ st5 r5=>?_
   refine abh (k:=(qQ t home).last+1) (map4.keep (st5 [])) (st5 []).sep aeL (ame u3') fun I6 st6 m6=>?_
   have k6:qd [0,rH H,rL H] ro tag1 I1 tag5 I6:=k4.trans ((st5 _).trans (st6.mono z8))
   have r6:=(r4.keep (st5 [])).keep st6 (by simp[rH,rL,rS]<;>omega)
   have hR:ahv H [0,rH H,rL H]:=by
    refine⟨by simp[rH,rL,rS]<;>omega,by simp[rH,rL,rS]<;>omega,by simp[rH,rL,rS]<;>omega,fun x hx e=>?_,fun x hx e=>?_,fun x hx e=>?_⟩
    all_goals
     simp only[mq,nf,or_false]at hx
     rcases hx with rfl | rfl | rfl<;>first | rfl | (exfalso;omega) | (exfalso;simp only[rH,rL]at e;omega)
   have hnk:qy (qQ t home).live ((qQ t home).last+1)=none:=by
    rw[kR]
    intro hmm
    obtain⟨p,hp,e⟩:=mC.1 hmm
    have:=(hok.rng p hp).2
    omega
   have hnc:Z∉cs:=fun hm=>by
    obtain⟨i,hi,e⟩:=mZ hm
    obtain⟨d,a,_⟩:=map.at' i Z _ _ (by rw[md hi,e]) (md (by rw[<-map.len];exact hi))
    obtain⟨_,o,ho⟩:=a.tagOf
    have:=(k4.old Z o ho).2
    rw[hZ]at this
    obtain⟨o',ho'⟩:=this
    cases ho'
   refine⟨_,rfl,some M,(h1.cell.keep k6 (by simp[rH,rL,rS]<;>omega)).cell1 st6.sep,?_⟩
   refine abh (k:=home) (h1.map.map.keep k6 (by simp[rH,rL,rS]<;>omega)) st6.sep adG (ajw u9) fun I7 st7 m7=>?_
   have r7:=r6.keep st7 (by simp[rH,rL,rS]<;>omega)
   refine⟨_,rfl,_,(r7.read st7.sep).2.2 _ rfl 0 _ rfl,?_⟩
   have hh:pG tag5 I6 H home (alp (qQ t home) nonce lease):=by
    refine⟨m,cs++[Z],r6,map.add hnk m6 hnc ⟨⟨none,0,0⟩,(r5.keep st6 (by simp[rH,rL,rS]<;>omega)),Row.nil 6 5⟩ fun i c k' x hc _ hx=>?_⟩
    refine hx.keep k6 ?_ (by simp[rH,rL,rS]<;>omega)
    simp only[mq,nf,or_false,not_or,rH,rL]
    exact⟨z7,z7,z7⟩
   have:=hQ true tag5 I7 (s1.trans ((k6.s (by simp[rH,rL,rS]<;>omega)).trans (st7.s z8)))
   rw[eo]at this
   exact this (fin _ _ _ _ hR k6 hh _ _ st7 m7)
  .-- one session of the house
   have hin:p∈kvP (qQ t home).live cs:=hp4.mem_iff.1 z8
   obtain⟨pk,pv⟩:=p
   obtain⟨i,c,a,b1,b2,rfl⟩:=apk _ _ map.len pk pv hin
   have a4:=a1.trans st4
   obtain⟨dd,hrow,_⟩:=(map.at' i c pk a b1 b2).keep a4 (by simp[rH,rL,rS]<;>omega) z8
   refine⟨pk,some ⟨c,0,none⟩,rfl,_,rfl,a.nonce,(hrow.read st4.sep).2.2 _ rfl 2 _ rfl,?_⟩
   by_cases e:a.nonce=nonce
   .rw[mc e]
    rw[as9 hok.non (mU b2) e]at eo
    have:=hQ false tag4 I4 (s1.trans (a4.s z8))
    rw[eo]at this
    exact this ⟨M,bs,h1.keepS (a4.s (C:=[0]) z8)⟩
   .rw[ma e]
    refine hY _ tag4 I4 (qd.refl st4.sep) ⟨a4,fun p' hp' i' c' s' c1 c2=>?_⟩
    rcases mt.1 hp' with h | h
    .exact a2 p' h i' c' s' c1 c2
    .rw[mo.1 h]at c2
     have:i'=i:=adg map.keys (i:=i') (j:=i) (x:=pk) (by rw[mg,c2];try rfl) (by rw[mg,b2];try rfl)
     subst this
     rw[b2]at c2;cases c2
     exact e
 refine⟨_,rfl,some M,h.cell.cell1 hs,?_⟩
 refine zX (k:=home) h.map.map hs adG (ajw u9) amk ?_
 rcases h.map.look home with⟨g1,g2⟩ | ⟨i,b,x,hb,hp,g3,g4,hA⟩
 .rw[g2]
  refine⟨none,rfl,?_⟩
  rw[mc rfl]
  have eh:qQ t home=⟨0,[]⟩:=by unfold qQ;rw[g1];try rfl
  intro m hrom hm H hroH hH
  have hHm:H≠m:=fun e=>by rw[e,qC]at hH;cases hH
  have hH0:I H=none:=by rw[pJ _ _ hHm]at hH;exact hH
  have st1:∀ R,qd R ro tag I (setTag tag m (rL H)) (upd I m (.map #[] 0)):=fun R=>qd.fresh hs hrom hm
  have m1:zu kI (setTag tag m (rL H)) (upd I m (.map #[] 0)) (rL H) m []:=⟨by simp[setTag],_,_,qC _ _ _,rfl,z8,z8⟩
  have st2:∀ R,qd R ro (setTag tag m (rL H)) (upd I m (.map #[] 0)) (setTag (setTag tag m (rL H)) H (rH H)) (upd (upd I m (.map #[] 0)) H (.cells #[.int .i64 0,.map (some m)] 254)):=fun R=>qd.fresh (st1 []).sep hroH hH
  have r2:Row (setTag (setTag tag m (rL H)) H (rH H)) (upd (upd I m (.map #[] 0)) H (.cells #[.int .i64 0,.map (some m)] 254)) (rH H) 254 ⟨some ⟨H,0,none⟩,2,2⟩ [vI 0,.map (some m)]:=
   .inr ⟨H,_,rfl,by simp[setTag],qC _ _ _,z8,rfl,mK _,fun i hi=>by simp⟩
  generalize (setTag (setTag tag m (rL H)) H (rH H))=tag2 at st2 r2⊢
  generalize (upd (upd I m (.map #[] 0)) H (.cells #[.int .i64 0,.map (some m)] 254))=I2 at st2 r2⊢
  have k2:StepS [] ro tag I tag2 I2:=((st1 []).trans (st2 [])).s z8
  have h2:wF tag2 I2 T M bs t:=h.keepS k2 z8
  have hnb:H∉bs:=fun hm'=>by
   obtain⟨i,hi',e⟩:=mZ hm'
   obtain⟨m',cs',row',_⟩:=h.map.at' i H _ _ (by rw[md hi',e]) (md (by rw[<-h.map.len];exact hi'))
   obtain⟨_,o,ho⟩:=row'.tagOf
   rw[hH0]at ho;cases ho
  refine key H m [] tag2 I2 (k2.mono z8) h2 (by rw[eh];exact r2) (by rw[eh];exact yq.nil (m1.keep (st2 []))) fun R tag3 I3 x' hR st hx tag4 I4 st4 m4=>?_
  refine⟨M,bs++[H],(h2.cell.keep st hR.r55).keep st4,h2.map.add g1 m4 hnb (hx.keepS (st4.s (C:=[55]) z8)) fun i b' k' y hb' _ hy=>?_⟩
  exact(hy.other st hR fun e=>hnb (by rw[<-e];exact mU hb')).keepS (st4.s (C:=[55]) z8)
 .rw[g4]
  refine⟨some ⟨b,0,none⟩,rfl,?_⟩
  rw[ma z8]
  have eh:qQ t home=x:=by unfold qQ;rw[g3];try rfl
  obtain⟨m,cs,row,map⟩:=hA
  rw[<-eh]at row map
  refine key b m cs tag I (StepS.refl hs) h row map fun R tag2 I2 x' hR st hx tag3 I3 st3 m3=>?_
  rw[ajx g4]at m3
  have h2:=h.old st hR hb hp hx
  exact⟨M,bs,h2.cell.keep st3 (by simp[rH,rL,rS]<;>omega),h2.map.mono (by
   have e:kvP (wR t home x') bs=kvP t bs:=by rw[agb x' h.map.keys hp,alX _ _ _ _ _ _ hp]
   rw[e];exact m3) fun j c k' y _ _ hy=>hy.keepS (st3.s (C:=[55]) z8)⟩
abbrev nS:Sl:=⟨none,0,0⟩
theorem qr{p:Addr}(h:SL.wy ro I s l)(hp:s.a=some p):SL.qe ro I p 0 l:=zt 0 fun j v hv=>by rw[ml];exact h.2.2 p hp j v hv
structure agN(tag:Nat->Nat)(I:AH)(W T Tt M:Nat)(ms:Sl)(Th:Nat):Prop where
 own:Row tag I 54 153 ⟨some ⟨W,0,none⟩,5,5⟩ [vI 0,Sl.v ms,ptr T,ptr Tt,ptr Th]
 mem:Row tag I 118 3 ms [vI 0,vI 1,vI 2]
 tree:qV tag I 10 T St.new
 tbl:Row tag I 55 242 ⟨some ⟨Tt,0,none⟩,1,1⟩ [.map (some M)]
 map:zu kS tag I 119 M []
abbrev CN:List Nat:=[0,10,54,55,62]
theorem aoN{Q:Option Addr->Int->AH->Prop}(h:SL.wy ro I s [vI 0,vI 1,vI 2])
  (hQ:∀ W T Tt M ms Th tag' I',StepS CN ro tag I tag' I'->agN tag' I' W T Tt M ms Th->Q (some ⟨W,0,none⟩) 0 I'):acE B ro s I Q:=by
 refine ajz fun hs=>?_
 unfold aeJ
 refine arK h ?_
 rw[ma z8]
 refine agM (tag:=tag) 118 h hs y0 (by simp[qf]) fun ms tag1 I1 st1 r1=>?_
 refine aq3 (tag:=tag1) 10 y0 y0 fun T tag2 I2 st2 t2=>?_
 refine ahA fun hs2=>?_
 unfold ac1
 refine ahn kS (tag:=tag2) 119 hs2 fun M tag3 I3 st3 m3=>?_
 refine qh (tag:=tag3) 55 (st3 []).sep fun Tt tag4 I4 st4 r4=>?_
 refine ajB fun hs4=>?_
 unfold aeK
 refine ahn kSI (tag:=tag4) 126 hs4 fun Mh tag5 I5 st5 m5=>?_
 refine qh (tag:=tag5) 62 (st5 []).sep fun Th tag6 I6 st6 r6=>?_
 refine qh (tag:=tag6) 54 (st6 []).sep fun W tag7 I7 st7 r7=>?_
 have k6:qd [] ro tag4 I4 tag7 I7:=((st5 []).trans (st6 [])).trans (st7 [])
 have k3:qd [] ro tag3 I3 tag7 I7:=(st4 []).trans k6
 have k2:qd [] ro tag2 I2 tag7 I7:=(st3 []).trans k3
 refine hQ W T Tt M ms Th tag7 I7 (((st1 []).s z8).trans ((st2.s z8).trans (k2.s z8))) ⟨r7,?_,t2.keep k2,r4.keep k6,m3.keep k3⟩
 exact(r1.keepC st2).keep k2
theorem agN.keepS(h:agN tag I W T Tt M ms Th)(k:StepS C ro tag I tag' I')(hC:54∉C/\55∉C/\10∉C/\6∉C:=by decide):agN tag' I' W T Tt M ms Th:=
 ⟨h.own.keepS k hC.1,h.mem.keepS k hC.1,h.tree.keepS k hC.2.2.1 hC.2.2.2,h.tbl.keepS k hC.2.1,h.map.keepS k hC.2.1⟩
abbrev CA1:List Nat:=[0,2,3,4,5,10,55,56,57,58]
abbrev akM:List Value:=[.int .i64 0,.int .i64 1,Sl.v nS,.int .i64 0,Sl.v nS,.int .i64 0,.int .i64 0,.int .i64 0,.int .i64 0,Sl.v nS,Sl.v nS,.int .i64 0]
theorem atb:∀ v∈akM,qf v=true:=y0
theorem atc(g:wW ro)(h:agN tag I W T Tt M ms Th)
  (hQ:∀ tag' I',StepS CA1 ro tag I tag' I'->Q 0 1 nS 0 nS 0 0 0 0 nS nS 0 I'):ux B ro (some ⟨W,0,none⟩) 1 ⟨#[97]⟩ 0 0 5 100 0 0 nS ByteArray.empty false 0 nS I Q:=by
 refine aek fun hs=>?_
 unfold uI
 refine qh (tag:=tag) 3 hs fun X tag1 I1 st1 r1=>?_
 refine qh (tag:=tag1) 2 (st1 []).sep fun Y tag2 I2 st2 r2=>?_
 have k2:StepS CA1 ro tag I tag2 I2:=((st1 []).trans (st2 [])).s z8
 have h2:agN tag2 I2 W T Tt M ms Th:=h.keepS (C:=[]) (((st1 []).trans (st2 [])).s z8) z8
 have c2:=r1.keep (st2 [])
 have hs2:=(st2 []).sep
 refine⟨⟨#[97]⟩,(c2.read hs2).2.2 _ rfl 1 _ rfl,y0,_,rfl,some ⟨T,0,none⟩,(h2.own.read hs2).2.2 _ rfl 2 _ rfl,?_⟩
 have hL:L ((⟨#[47]⟩:ByteArray)++⟨#[97]⟩)=[47,97]:=by decide
 obtain⟨MT,bsT,hT⟩:=h2.tree
 refine ahq (r:=10) g y0 y0 y0 hT (fun p n hp=>?_) (fun hp=>?_) (fun ps hp hl tag3 I3 st3=>?_) (fun n hn=>?_)
 .simp only[St.new,List.lookup]at hp
  split at hp
  .cases hp;simp
  .cases hp
 .rw[hL]at hp;exact mu hp y0
 rotate_left
 .rw[hL,show St.new.lookup [47,97]=none by decide]at hn;cases hn
 have h3:=h2.keepS (st3.s (C:=[0]) z8)
 have c3:=c2.keepC st3
 have y3:=r2.keepC st3
 refine qh (tag:=tag3) 5 st3.sep fun Z tag4 I4 st4 r4=>?_
 refine r4.stPre _ 0 _ I4 (st4 []).sep z8 (by simp[qf]) fun I5 st5 r5=>?_
 have k5:qd [5] ro tag3 I3 tag4 I5:=(st4 [5]).trans st5
 have h5:=h3.keepS (k5.s (C:=[5]) z8)
 have c5:=c3.keep k5
 have y5:=y3.keep k5
 have hs5:=st5.sep
 refine⟨⟨#[97]⟩,(c5.read hs5).2.2 _ rfl 1 _ rfl,?_⟩
 refine afM ?_
 refine⟨_,rfl,some ⟨Tt,0,none⟩,(h5.own.read hs5).2.2 _ rfl 3 _ rfl,⟨#[97]⟩,(c5.read hs5).2.2 _ rfl 1 _ rfl,5,(c5.read hs5).2.2 _ rfl 4 _ rfl,100,(c5.read hs5).2.2 _ rfl 5 _ rfl,?_⟩
 refine as8 h5.tbl h5.map fun tag6 I6 st6=>?_
 rw[ma z8,mc ⟨y0,rfl⟩]
 have o6:=h5.own.keepS st6
 have t6:=h5.tree.keepS st6
 refine⟨_,rfl,some ⟨T,0,none⟩,(o6.read st6.sep).2.2 _ rfl 2 _ rfl,?_⟩
 refine ai9 (r:=10) (d:=[]) g y0 y0 y0 t6 ⟨rfl,fun _=>rfl,fun p hp=>by cases hp⟩ y0 fun tag7 I7 st7 t7=>?_
 unfold zE
 have y7:=(y5.keepS st6).keepC st7
 refine y7.stPre akM 0 _ I7 st7.sep y0 atb fun I8 st8 y8=>?_
 have y9:Row tag7 I8 2 _ ⟨some ⟨Y,0,none⟩,12,12⟩ akM:=y8
 refine⟨_,_,_,_,_,_,_,_,_,_,_,_,qr (y9.read st8.sep) rfl,?_⟩
 exact hQ tag7 I8 (k2.trans ((st3.s z8).trans ((k5.s z8).trans ((st6.mono y0).trans ((st7.s z8).trans (st8.s z8))))))
abbrev CB:List Nat:=[0,2,3,4,5,10,12,55,56,57,58]
theorem arL(g:wW ro)(h:agN tag I W T Tt M ms Th)
  (hQ:∀ tag' I',StepS CB ro tag I tag' I'->Q 0 1 nS 0 nS 0 0 0 0 nS nS 0 I'):jN B ro (some ⟨W,0,none⟩) 1 ⟨#[97]⟩ 0 0 5 100 0 0 nS ByteArray.empty false 0 nS I Q:=by
 refine aee fun hs=>?_
 unfold uf
 refine qh (tag:=tag) 4 hs fun X tag1 I1 st1 r1=>?_
 refine qh (tag:=tag1) 12 (st1 []).sep fun Y tag2 I2 st2 r2=>?_
 have k2:qd [] ro tag I tag2 I2:=(st1 []).trans (st2 [])
 have h2:agN tag2 I2 W T Tt M ms Th:=h.keepS (C:=[]) (k2.s z8) z8
 have c2:=r1.keep (st2 [])
 have hs2:=(st2 []).sep
 refine⟨1,(c2.read hs2).2.2 _ rfl 0 _ rfl,?_⟩
 rw[mc rfl]
 refine⟨_,_,_,_,_,_,_,_,_,_,_,_,_,qr (c2.read hs2) rfl,?_⟩
 refine atc g h2 fun tag3 I3 st3=>?_
 have y3:=r2.keepS st3
 refine y3.stPre akM 0 _ I3 st3.sep z8 atb fun I4 st4 y4=>?_
 have y5:Row tag3 I4 12 _ ⟨some ⟨Y,0,none⟩,12,12⟩ akM:=y4
 refine⟨_,_,_,_,_,_,_,_,_,_,_,_,qr (y5.read st4.sep) rfl,?_⟩
 exact hQ tag3 I4 ((k2.s z8).trans ((st3.mono y0).trans (st4.s z8)))
end Zt
namespace SL
open Go
variable{ro I I':AH}{tag tag':Nat->Nat}{L:List Nat}
theorem ajX:join (inR tag L I) (vg tag L I)=I:=by
 funext c;unfold join inR vg
 by_cases e:tag c∈L
 .simp only[e,if_true];cases I c<;>rfl
 .simp[e]
theorem zu.backR{κ:Type}{enc:κ->Value}{tag1:Nat->Nat}{τ:AH}{r b:Nat}{m:List (κ×Value)}(h:zu enc tag1 τ r b m)(hd:qJ (inR tag L I) τ):zu enc (tagB tag tag1 L I) (join (inR tag L I) τ) r b m:=by
 obtain⟨es,clock,hb,x⟩:=h.obj
 have hn:inR tag L I b=none:=by
  cases e:inR tag L I b with
  | none=>rfl
  | some o=>have:=hd b o e;rw[hb]at this;cases this
 exact⟨by rw[aer hn];exact h.tg,es,clock,by unfold join;rw[hn];exact hb,x⟩
end SL
namespace Zt
open Go SL G Pa Wi
variable{B:World}{ro I I':AH}{tag tag':Nat->Nat}
variable{beats req:Int}{Q:Int->AH->Prop}{C L cs:List Nat}{X b b0 c i j m:Nat}{hh:xl}{s:yv}
theorem atd:qo prog 249 (.pointer none) 1 8:=qo.of y1
theorem qq(h:∀ R,qd R ro tag I tag' I'):StepS C ro tag I tag' I':=(h []).s z8
theorem wF.fresh{T M:Nat}{bs:List Nat}{t:Tbl}(h:wF tag I T M bs t)(k:∀ R,qd R ro tag I tag' I'):wF tag' I' T M bs t:=h.keepS (qq (C:=[]) k) z8
section
variable{T M:Nat}{bs:List Nat}{t:Tbl}{home:Str}{n:Int}
theorem aev{Q:Option Addr->Int->AH->Prop}(h:wF tag I T M bs t)
  (hno:∀ e,jG t (home,n)=(e,none)->e≠0->∀ tag' I',(∀R,qd R ro tag I tag' I')->wF tag' I' T M bs t->Q none e I')
  (hit:∀ i b hh m cs j c s tag' I',(∀R,qd R ro tag I tag' I')->wF tag' I' T M bs t->aa0 tag' I' bs t home n i b hh m cs j c s->Q (some ⟨c,0,none⟩) 0 I'):vd B ro (some ⟨T,0,none⟩) (S home) n I Q:=by
 refine ahC fun hs=>?_
 unfold aa5
 refine qh (tag:=tag) 0 hs fun X tag1 I1 st1 r1=>?_
 have h1:=h.fresh st1
 have hs1:=(st1 []).sep
 have g1:=(r1.read hs1).2.2 _ rfl
 refine⟨_,rfl,some M,h1.cell.cell1 hs1,S home,g1 0 _ rfl,?_⟩
 refine zX (k:=home) h1.map.map hs1 adG (ajw u9) amk ?_
 rcases h1.map.look home with⟨a1,a2⟩ | ⟨i,b,hh,hb,hp,a3,a4,m,cs,row,map⟩
 .rw[a2]
  refine⟨none,rfl,?_⟩
  rw[mc rfl]
  unfold zW
  rw[mc rfl]
  exact hno 150 (by unfold jG;rw[a1]) y0 tag1 I1 st1 h1
 .rw[a4]
  refine⟨some ⟨b,0,none⟩,rfl,?_⟩
  rw[ma z8]
  have e150:(n<1\/hh.last<n)->jG t (home,n)=(150,none):=fun c=>by unfold jG;rw[a3];simp only;rw[mc c]
  refine⟨n,g1 1 _ rfl,?_⟩
  by_cases c1:n<1
  .rw[mc c1]
   unfold zW
   rw[mc rfl]
   exact hno 150 (e150 (.inl c1)) y0 tag1 I1 st1 h1
  rw[ma c1]
  have gr:=(row.read hs1).2.2 _ rfl
  refine⟨_,rfl,n,g1 1 _ rfl,hh.last,gr 0 _ rfl,?_⟩
  unfold zW
  by_cases c2:hh.last<n
  .rw[mc (j2 c2)]
   exact hno 150 (e150 (.inr c2)) y0 tag1 I1 st1 h1
  rw[ma (j2 c2)]
  refine⟨_,rfl,some m,gr 1 _ rfl,n,g1 1 _ rfl,?_⟩
  refine zX (k:=n) map.map hs1 aeL (ame u3') atd ?_
  rcases map.look n with⟨k1,k2⟩ | ⟨j,c,s,hc,hq,k3,k4,hA⟩
  .rw[k2]
   refine⟨none,rfl,?_⟩
   rw[mc rfl]
   exact hno 151 (by unfold jG;rw[a3];simp only;rw[ma z7,k1]) y0 tag1 I1 st1 h1
  .rw[k4]
   refine⟨some ⟨c,0,none⟩,rfl,?_⟩
   rw[ma z8]
   refine⟨_,rfl,some m,gr 1 _ rfl,n,g1 1 _ rfl,?_⟩
   refine zX (k:=n) map.map hs1 aeL (ame u3') atd ?_
   rw[k4]
   exact⟨_,rfl,hit i b hh m cs j c s tag1 I1 st1 h1 ⟨hb,hp,row,map,hc,hq,⟨z7,z7⟩⟩⟩
theorem arM{Q:Sl->Bool->Int->AH->Prop}(h:wF tag I T M bs t)(hi:vK b0 t)
  (hQ:∀ s tag' I',(∀R,qd R ro tag I tag' I')->Row tag' I' 6 5 s ((kK t (home,n) req).1.map vU)->Q s (kK t (home,n) req).2.1 (kK t (home,n) req).2.2 I'):aam B ro (some ⟨T,0,none⟩) (S home) n req I Q:=by
 refine aha fun hs=>?_
 unfold aay
 refine qh (tag:=tag) 0 hs fun X tag1 I1 st1 r1=>?_
 have hs1:=(st1 []).sep
 refine⟨S home,n,qr (r1.read hs1) rfl,?_⟩
 refine aev (h.fresh st1) (fun e he hne tag2 I2 st2 _=>?_) fun i b hh m cs j c s tag2 I2 st2 h2 f=>?_
 .rw[mc (j2 hne)]
  have:=hQ ⟨none,0,0⟩ tag2 I2 fun R=>(st1 R).trans (st2 R)
  unfold kK at this
  rw[he]at this
  exact this (Row.nil 6 5)
 .rw[ma z8]
  have k2:∀ R,qd R ro tag I tag2 I2:=fun R=>(st1 R).trans (st2 R)
  have ef:=(f.look h2).2.2
  have hs2:=(st2 []).sep
  refine aag fun _=>?_
  unfold ya
  show(if¬(okN req=true)then _ else _)
  cases h3:okN req with
  | false=>
   rw[mc z8]
   have:=hQ ⟨none,0,0⟩ tag2 I2 k2
   unfold kK at this
   rw[ef]at this
   simp only at this
   rw[mc h3]at this
   exact this (Row.nil 6 5)
  | true=>
  rw[ma z8]
  obtain⟨d,row,rd⟩:=f.sess
  have gs:=(row.read hs2).2.2 _ rfl
  refine⟨_,rfl,s.req,gs 5 _ rfl,?_⟩
  by_cases c1:req=s.req
  .rw[mc c1]
   refine⟨_,rfl,d,gs 6 _ rfl,?_⟩
   have hl:s.reply.length<=1048576:=(afO hi ef).reply
   refine aaS (tag:=tag2) (rd.read hs2) hs2 (by simp[rH,rL,rS]<;>omega) (by simp[qf,vU]) fun s' tag3 I3 st3 r3=>?_
   have:=hQ s' tag3 I3 fun R=>(k2 R).trans (st3 R)
   unfold kK at this
   rw[ef]at this
   simp only at this
   rw[ma (by simp[h3]),mc c1]at this
   exact this r3
  rw[ma c1]
  refine⟨_,rfl,s.req,gs 5 _ rfl,?_⟩
  have:=hQ ⟨none,0,0⟩ tag2 I2 k2
  unfold kK at this
  rw[ef]at this
  simp only at this
  rw[ma (by simp[h3]),ma c1]at this
  by_cases c2:req<s.req
  .rw[mc c2]at this⊢
   exact this (Row.nil 6 5)
  .rw[ma c2]at this⊢
   exact this (Row.nil 6 5)
theorem aux{a3:Sl}{d:Str}(h:wF tag I T M bs t)(hd:SL.wy ro I a3 (d.map vU))(hl:d.length<=140737488355328)
  (hQ:∀ tag' I',StepS [58] ro tag I tag' I'->wF tag' I' T M bs (ad8 t (home,n) req d).1->Q (ad8 t (home,n) req d).2 I'):pY B ro (some ⟨T,0,none⟩) (S home) n req a3 I Q:=by
 refine aiu fun hs=>?_
 unfold abw
 refine qh (tag:=tag) 0 hs fun X tag1 I1 st1 r1=>?_
 have hs1:=(st1 []).sep
 refine⟨S home,n,qr (r1.read hs1) rfl,?_⟩
 refine aev (h.fresh st1) (fun e he hne tag2 I2 st2 h2=>?_) fun i b hh m cs j c s tag2 I2 st2 h2 f=>?_
 .rw[mc (j2 hne)]
  have:=hQ tag2 I2 (qq fun R=>(st1 R).trans (st2 R))
  unfold ad8 at this
  rw[he]at this
  exact this h2
 .rw[ma z8]
  have k2:∀ R,qd R ro tag I tag2 I2:=fun R=>(st1 R).trans (st2 R)
  have ef:=(f.look h2).2.2
  have hs2:=(st2 []).sep
  have q2:=hQ tag2 I2 (qq k2)
  unfold ad8 at q2
  rw[ef]at q2
  simp only at q2
  refine aag fun _=>?_
  unfold ya
  show(if¬(okN req=true)then _ else _)
  cases h3:okN req with
  | false=>
   rw[mc z8]
   rw[mc h3]at q2
   exact q2 h2
  | true=>
  rw[ma z8]
  rw[ma (by simp[h3])]at q2
  obtain⟨ds,row,rd⟩:=f.sess
  have gs:=(row.read hs2).2.2 _ rfl
  refine⟨_,rfl,s.req,gs 5 _ rfl,?_⟩
  by_cases c1:req<=s.req
  .rw[mc c1]at q2⊢
   exact q2 h2
  rw[ma c1]
  have hd2:SL.wy ro I2 a3 (d.map vU):=hd.step (k2 [])
  refine aaS (tag:=tag2) hd2 hs2 (by simp[rH,rL,rS]<;>omega) (by simp[qf,vU]) fun s' tag3 I3 st3 r3=>?_
  have row3:=row.keep (st3 [])
  have hs3:=(st3 []).sep
  refine⟨_,rfl,?_⟩
  refine row3.stAt [.int .i64 req] 5 hs3 z8 (by simp[qf]) fun I4 st4 r4=>?_
  refine⟨_,rfl,?_⟩
  refine Row.stAt [Sl.v s'] 6 r4 st4.sep z8 (by simp[qf,Sl.v]) fun I5 st5 r5=>?_
  have k5:qd [rS b c] ro tag3 I3 tag3 I5:=st4.trans st5
  have h3':=h2.fresh st3
  have f3:aa0 tag3 I3 bs t home n i b hh m cs j c s:=⟨f.hb,f.hp,f.row.keep (st3 []),f.map.mono (f.map.map.keep (st3 [])) fun _ c' k' x _ _ hx=>hx.keep (st3 []),f.hc,f.hq,f.rng⟩
  have h5:=h3'.setS (s':={s with req:=req,reply:=d}) f3 k5 ⟨s',r5,r3.keep k5 (by simp[rH,rL,rS]<;>omega)⟩
  have:=hQ tag3 I5 ((qq fun R=>(k2 R).trans (st3 R)).trans (k5.s (by simp[rH,rL,rS]<;>omega)))
  unfold ad8 at this
  rw[ef]at this
  simp only at this
  rw[ma (by simp[h3]),ma c1]at this
  exact this h5
theorem wF.outR(h:wF tag I T M bs t)(hL:∀ x∈L,x%64∉[55,56,57,58,6]):wF tag (SL.vg tag L I) T M bs t:=by
 have no:∀ x,x%64∈[55,56,57,58,6]->x∉L:=fun x hx hm=>hL x hm hx
 refine⟨h.cell.outR (no 55 y0),h.map.mono (h.map.map.outR (no 119 y0)) fun _ b k' x _ _ hx=>?_⟩
 obtain⟨m,cs,row,map⟩:=hx
 refine⟨m,cs,row.outR (no _ (by rw[show(56+64*(b+2))%64=56 by omega];decide)),map.mono (map.map.outR (no _ (by rw[show(57+64*(b+2))%64=57 by omega];decide))) fun _ c n' s _ _ hx=>?_⟩
 obtain⟨d,r1,r2⟩:=hx
 exact⟨d,r1.outR (no _ (by rw[show(58+64*(pr b c+2))%64=58 by omega];decide)),r2.outR (no 6 y0)⟩
theorem wF.backR{tag1:Nat->Nat}{τ:AH}(h:wF tag1 τ T M bs t)(hd:qJ (inR tag L I) τ):wF (tagB tag tag1 L I) (join (inR tag L I) τ) T M bs t:=by
 refine⟨h.cell.backR hd,h.map.mono (h.map.map.backR hd) fun _ b k' x _ _ hx=>?_⟩
 obtain⟨m,cs,row,map⟩:=hx
 refine⟨m,cs,row.backR hd,map.mono (map.map.backR hd) fun _ c n' s _ _ hx=>?_⟩
 obtain⟨d,r1,r2⟩:=hx
 exact⟨d,r1.backR hd,r2.backR hd⟩
theorem aa0.outR(f:aa0 tag I bs t home n i b hh m cs j c s)(hL:∀ x∈L,x%64∉[55,56,57,58,6]):aa0 tag (SL.vg tag L I) bs t home n i b hh m cs j c s:=by
 have no:∀ x,x%64∈[55,56,57,58,6]->x∉L:=fun x hx hm=>hL x hm hx
 refine⟨f.hb,f.hp,f.row.outR (no _ (by rw[show(56+64*(b+2))%64=56 by omega];decide)),f.map.mono (f.map.map.outR (no _ (by rw[show(57+64*(b+2))%64=57 by omega];decide))) fun _ c' n' s' _ _ hx=>?_,f.hc,f.hq,f.rng⟩
 obtain⟨d,r1,r2⟩:=hx
 exact⟨d,r1.outR (no _ (by rw[show(58+64*(pr b c'+2))%64=58 by omega];decide)),r2.outR (no 6 y0)⟩
theorem alx(hA:wF tag I T M bs t)(fA:aa0 tag I bs t home n i b hh m cs j c s):qy (kvP t bs) home=some (afj b):=by
 rcases hA.map.look home with⟨a1,_⟩ | ⟨i',b',hh',hb,hp,_,a4,_⟩
 .rw[(fA.look hA).1]at a1;cases a1
 .have:i'=i:=adg hA.map.keys (i:=i') (j:=i) (x:=home) (by rw[mg,hp];try rfl) (by rw[mg,fA.hp];try rfl)
  subst this
  rw[fA.hb]at hb;cases hb
  exact a4
theorem arN(f:aa0 tag I bs t home n i b hh m cs j c s):qy (kvP hh.live cs) n=some (afj c):=by
 rcases f.map.look n with⟨a1,_⟩ | ⟨i',c',s',hb,hp,_,a4,_⟩
 .rw[ah1 f.map.keys (mU f.hq)]at a1;cases a1
 .have:i'=j:=adg f.map.keys (i:=i') (j:=j) (x:=n) (by rw[mg,hp];try rfl) (by rw[mg,f.hq];try rfl)
  subst this
  rw[f.hc]at hb;cases hb
  exact a4
theorem apA{Q:AH->Prop}(h:wF tag I T M bs t)(hs:SL.Sep ro I)(f:aa0 tag I bs t home n i b hh m cs j c s)(r1:Row tag I 0 81 ⟨some ⟨X,0,none⟩,2,2⟩ [.string (S home),.int .i64 n])
  (hQ:∀ tag' I',StepS [57] ro tag I tag' I'->wF tag' I' T M bs (afp t (home,n))->Q I'):
  uh I fun ψ I=>
   ∃p17_5:Addr,(some ⟨T,0,none⟩:Option Addr)=some p17_5/\
   ∃(x27_6:Int),qa (join ro ψ) (fun _=>none) ((⟨X,0,none⟩:Addr).add 1)=some (.int .i64 x27_6)/\
   ∃(x19_7:Option Nat),qa (join ro ψ) I p17_5=some (.map x19_7)/\
   ∃(x21_8:ByteArray),qa (join ro ψ) I ⟨X,0,none⟩=some (.string x21_8)/\
   awp prog (join ro ψ) (Instr.lookup 240 (.map x19_7) (.string x21_8) false) (fun v I=>
    (∃(x22_9:Option Addr),v= .pointer x22_9/\
    ∃p23_10:Addr,x22_9=some p23_10/\
    ∃(x25_11:Option Nat),qa (join ro ψ) I (p23_10.add 1)=some (.map x25_11)/\
    awp prog (join ro ψ) (Builtin.delete_ #[252,3] 0 #[.map x25_11,.int .i64 x27_6]) (fun v I=>v= .tuple #[]/\
     (qJ ψ I->(fun I=>Q I) (join ψ I))) I)) I:=by
 refine pi tag [0] ?_
 have hL:∀ x∈[0],x%64∉[55,56,57,58,6]:=by simp
 have hsA:SL.Sep (join ro (SL.inR tag [0] I)) (SL.vg tag [0] I):=hs.lentR
 have hA:=h.outR hL
 have fA:=f.outR hL
 have rX:∀ {i v} τ,([Value.string (S home),.int .i64 n]:List Value)[i]?=some v->qa (join ro (SL.inR tag [0] I)) τ ((⟨X,0,none⟩:Addr).add i)=some v:=fun τ hv=>r1.lendR hs z8 rfl hv
 refine⟨_,rfl,n,rX (i:=1) _ rfl,some M,hA.cell.cell1 hsA,S home,rX (i:=0) _ rfl,?_⟩
 refine zX (k:=home) hA.map.map hsA adG (ajw u9) amk ?_
 rw[alx hA fA]
 refine⟨_,rfl,_,rfl,some m,(fA.row.read hsA).2.2 _ rfl 1 _ rfl,?_⟩
 refine ag3 (k:=n) fA.map.map hsA aeL (ame u3') fun I2 st2 m2=>?_
 refine⟨rfl,fun hd=>?_⟩
 have k2:=(st2.s (C:=[57]) (by simp[rH,rL,rS]<;>omega)).backR hs hd
 exact hQ _ _ k2 ((hA.delS fA st2 m2).backR hd)
theorem arO(h:wF tag I T M bs t)(hQ:∀ tag' I',StepS [57] ro tag I tag' I'->wF tag' I' T M bs (aav t (home,n)).1->Q (aav t (home,n)).2 I'):aan B ro (some ⟨T,0,none⟩) (S home) n I Q:=by
 refine ahb fun hs=>?_
 unfold aaz
 refine qh (tag:=tag) 0 hs fun X tag1 I1 st1 r1=>?_
 have hs1:=(st1 []).sep
 refine⟨S home,n,qr (r1.read hs1) rfl,?_⟩
 refine aev (h.fresh st1) (fun e he hne tag2 I2 st2 h2=>?_) fun i b hh m cs j c s tag2 I2 st2 h2 f=>?_
 .rw[mc (j2 hne)]
  have:=hQ tag2 I2 (qq fun R=>(st1 R).trans (st2 R))
  unfold aav at this
  rw[he]at this
  exact this h2
 .rw[ma z8]
  refine apA (Q:=fun I=>Q 0 I) h2 (st2 []).sep f (r1.keep (st2 [])) fun tag3 I3 st3 h3=>?_
  have:=hQ tag3 I3 ((qq fun R=>(st1 R).trans (st2 R)).trans st3)
  unfold aav at this
  rw[(f.look h2).2.2]at this
  exact this h3
theorem aqq{Q:Bool->AH->Prop}(h:wF tag I T M bs t)(hQ:∀ tag' I',StepS [57] ro tag I tag' I'->wF tag' I' T M bs (ky t (home,n) beats).1->Q (ky t (home,n) beats).2 I'):uO B ro (some ⟨T,0,none⟩) (S home) n beats I Q:=by
 refine agv fun hs=>?_
 unfold uY
 refine qh (tag:=tag) 0 hs fun X tag1 I1 st1 r1=>?_
 have hs1:=(st1 []).sep
 refine⟨S home,n,qr (r1.read hs1) rfl,?_⟩
 refine aev (h.fresh st1) (fun e he hne tag2 I2 st2 h2=>?_) fun i b hh m cs j c s tag2 I2 st2 h2 f=>?_
 .rw[mc (j2 hne)]
  unfold vO
  rw[mc rfl]
  have:=hQ tag2 I2 (qq fun R=>(st1 R).trans (st2 R))
  unfold ky at this
  rw[he]at this
  exact this h2
 .rw[ma z8]
  have hs2:=(st2 []).sep
  obtain⟨ds,row,rd⟩:=f.sess
  refine⟨_,rfl,s.beats,(row.read hs2).2.2 _ rfl 4 _ rfl,?_⟩
  unfold vO
  have ef:=(f.look h2).2.2
  by_cases c1:s.beats=beats
  .rw[ma (by simp[c1])]
   refine apA (Q:=fun I=>Q true I) h2 hs2 f (r1.keep (st2 [])) fun tag3 I3 st3 h3=>?_
   have:=hQ tag3 I3 ((qq fun R=>(st1 R).trans (st2 R)).trans st3)
   unfold ky at this
   rw[ef]at this
   simp only at this
   rw[mc c1]at this
   exact this h3
  .rw[mc (by simp[c1])]
   have:=hQ tag2 I2 (qq fun R=>(st1 R).trans (st2 R))
   unfold ky at this
   rw[ef]at this
   simp only at this
   rw[ma c1]at this
   exact this h2
theorem arP{r:Nat}(h:wF tag I T M bs t)(hi:vK b0 t)(hb0:b0<=33554433)(hr:r%64≠58)(hk:Row tag I r 81 ⟨some ⟨X,0,none⟩,2,2⟩ [.string (S home),.int .i64 n])
  (hQ:∀ tag' I',StepS [58] ro tag I tag' I'->wF tag' I' T M bs (abc t (home,n)).1->Q (abc t (home,n)).2 I'):aap B ro (some ⟨T,0,none⟩) ⟨some ⟨X,0,none⟩,1,1⟩ I Q:=by
 refine ahd fun hs=>?_
 unfold aaB
 refine lfpD.intro ?_
 generalize hY:lfpD (xa B ro (some ⟨T,0,none⟩) ⟨some ⟨X,0,none⟩,1,1⟩ Q)=Y
 unfold xa
 rw[mc z8]
 refine⟨_,rfl,z8,z8,S home,n,?_,?_⟩
 .exact qr (hk.read hs) rfl
 refine kq (tag:=tag) 0 hs rfl (by simp[qf]) fun K tag1 I1 st1 r1=>?_
 refine⟨S home,n,qr (r1.read (st1 []).sep) rfl,?_⟩
 refine aev (h.fresh st1) (fun e he hne tag2 I2 st2 h2=>?_) fun i b hh m cs j c s tag2 I2 st2 h2 f=>?_
 .rw[mc (j2 hne)]
  have:=hQ tag2 I2 (qq fun R=>(st1 R).trans (st2 R))
  unfold abc at this
  rw[he]at this
  exact this h2
 .rw[ma z8]
  have k2:∀ R,qd R ro tag I tag2 I2:=fun R=>(st1 R).trans (st2 R)
  have hk2:=hk.keep (k2 [])
  rw[show i64.wrap (0+1)=1 from rfl,<-hY]
  refine lfpD.intro ?_
  unfold xa
  rw[ma z8]
  unfold yk
  refine lfpD.intro ?_
  generalize hZ:lfpD (xw B ro (some ⟨T,0,none⟩) ⟨some ⟨X,0,none⟩,1,1⟩ Q)=Z
  unfold xw
  rw[mc z8]
  refine⟨_,rfl,z8,z8,S home,n,qr (hk2.read (st2 []).sep) rfl,?_⟩
  refine kq (tag:=tag2) 0 (st2 []).sep rfl (by simp[qf]) fun K2 tag3 I3 st3 r3=>?_
  have k3:∀ R,qd R ro tag I tag3 I3:=fun R=>(k2 R).trans (st3 R)
  have hs3:=(st3 []).sep
  have h3:=h2.fresh st3
  have f3:aa0 tag3 I3 bs t home n i b hh m cs j c s:=⟨f.hb,f.hp,f.row.keep (st3 []),f.map.mono (f.map.map.keep (st3 [])) fun _ c' k' x _ _ hx=>hx.keep (st3 []),f.hc,f.hq,f.rng⟩
  refine pi tag3 [0] ?_
  have hL:∀ x∈[0],x%64∉[55,56,57,58,6]:=by simp
  have hsA:SL.Sep (join ro (SL.inR tag3 [0] I3)) (SL.vg tag3 [0] I3):=hs3.lentR
  have hA:=h3.outR hL
  have fA:=f3.outR hL
  have rX:∀ {i v} τ,([Value.string (S home),.int .i64 n]:List Value)[i]?=some v->qa (join ro (SL.inR tag3 [0] I3)) τ ((⟨K2,0,none⟩:Addr).add i)=some v:=fun τ hv=>r3.lendR hs3 z8 rfl hv
  refine⟨_,rfl,n,rX (i:=1) _ rfl,some M,hA.cell.cell1 hsA,S home,rX (i:=0) _ rfl,?_⟩
  refine zX (k:=home) hA.map.map hsA adG (ajw u9) amk ?_
  rw[alx hA fA]
  refine⟨_,rfl,_,rfl,some m,(fA.row.read hsA).2.2 _ rfl 1 _ rfl,fun hd=>?_⟩
  rw[ajX]
  refine zX (k:=n) f3.map.map hs3 aeL (ame u3') atd ?_
  rw[arN f3]
  obtain⟨ds,row,rd⟩:=f3.sess
  refine⟨_,rfl,_,rfl,s.beats,(row.read hs3).2.2 _ rfl 4 _ rfl,_,rfl,?_⟩
  have hbe:=(afO hi (f.look h2).2.2).beats
  rw[show i64.wrap (s.beats+1)=s.beats+1 from SL.wd z7 z7]
  refine row.stAt [.int .i64 (s.beats+1)] 4 hs3 z8 (by simp[qf]) fun I4 st4 r4=>?_
  rw[show i64.wrap (0+1)=1 from rfl,<-hZ]
  refine lfpD.intro ?_
  unfold xw
  rw[ma z8]
  unfold yj
  have h4:=h3.setS (s':={s with beats:=s.beats+1}) f3 st4 ⟨ds,r4,rd.keep st4 (by simp[rH,rL,rS]<;>omega)⟩
  have:=hQ tag3 I4 ((qq k3).trans (st4.s (by simp[rH,rL,rS]<;>omega)))
  unfold abc at this
  rw[(f.look h2).2.2]at this
  exact this h4
end
end Zt
namespace Zt
open Go SL G Pa Wi
variable{B:World}{ro I I':AH}{tag tag':Nat->Nat}
variable{kind:Int}{ks:List (Str×Int)}{R:List Nat}{b i:Nat}{k:Str×Int}{m:jl}{d:yw}
abbrev rD(b:Nat):Nat:=59+64*(b+2)
abbrev rM(b:Nat):Nat:=60+64*(b+2)
abbrev rE(b:Nat):Nat:=61+64*(b+2)
structure agp(b:Nat)(R:List Nat):Prop where
 r62:62∉R
 r126:126∉R
 r59:∀ x∈R,x%64=59->x=rD b
 r60:∀ x∈R,x%64=60->x=rM b
 r61:∀ x∈R,x%64=61->x=rE b
theorem yx.other{b':Nat}(i:yx tag I b' k d)(st:qd R ro tag I tag' I')(hR:agp b R)(hne:b'≠b):yx tag' I' b' k d:=by
 refine i.keep st (fun hx=>?_) (fun hx=>?_) fun hx=>?_
 .have:=hR.r59 _ hx z7;unfold rD at this;omega
 .have:=hR.r60 _ hx z7;unfold rM at this;omega
 .have:=hR.r61 _ hx z7;unfold rE at this;omega
section
variable{T M:Nat}{bs:List Nat}{h:Hub}
theorem wY.old{d':yw}(hi:wY tag I T M bs h)(st:qd R ro tag I tag' I')(hR:agp b R)(hb:bs[i]?=some b)(hp:h[i]?=some (k,d))(hn:yx tag' I' b k d'):wY tag' I' T M bs (wR h k d'):=
 ⟨hi.cell.keep st hR.r62,hi.map.write hb hp (hi.map.map.keep st hR.r126) hn fun b' k' x hb' _ hA=>hA.other st hR hb'⟩
theorem wY.new{tag2:Nat->Nat}{I2:AH}(hi:wY tag I T M bs h)(hk:qy h k=none)(st:qd R ro tag I tag' I')(hR:agp b R)(hnb:b∉bs)(hn:yx tag' I' b k d)(st2:qd [126] ro tag' I' tag2 I2)(hm:zu kSI tag2 I2 126 M (wR (kvP h bs) k (afj b))):wY tag2 I2 T M (bs++[b]) (wR h k d):=
 ⟨(hi.cell.keep st hR.r62).keep st2,hi.map.add hk hm hnb (hn.keepS (st2.s (C:=[62]) z8)) fun i b' k' x hb' _ hA=>(hA.other st hR fun e=>hnb (by rw[<-e];exact mU hb')).keepS (st2.s (C:=[62]) z8)⟩
theorem wY.gone(hi:wY tag I T M bs h)(st:qd [126] ro tag I tag' I')(hm:zu kSI tag' I' 126 M (ji (kvP h bs) k)):∃ bs',wY tag' I' T M bs' (ji h k):=by
 have kp:∀ b' k' x,yx tag I b' k' x->yx tag' I' b' k' x:=fun b' k' x hx=>hx.keepS (st.s (C:=[62]) z8)
 rcases hi.map.look k with⟨g1,g2⟩ | ⟨i,b,d,hb,hp,g3,g4,hA⟩
 .rw[amD g1]
  rw[amD g2]at hm
  exact⟨bs,hi.cell.keep st,hi.map.mono hm fun i b k' a _ _=>kp b k' a⟩
 .exact⟨bs.eraseIdx i,hi.cell.keep st,hi.map.del hb hp hm kp⟩
end
theorem yx.own(h:yx tag I b k d):∃ o,I b=some o:=by
 obtain⟨m,s,a,_⟩:=h
 exact a.tagOf.2
abbrev mk1(l:List jl):List (jl×Value):=l.map fun k=>(k,vI 1)
theorem aoi(l:List jl)(m:jl):qy (mk1 l) m=if m∈l then some (vI 1)else none:=by
 induction l with
 | nil=>rfl
 | cons x l ih=>
  show(if m=x then some (vI 1)else qy (mk1 l) m)=_
  by_cases c:m=x
  .rw[mc c,mc (by simp[c])]
  .rw[ma c,ih]
   by_cases d:m∈l
   .rw[mc d,mc (by simp[d])]
   .rw[ma d,ma (by simp[c,d])]
theorem auy(l:List jl)(m:jl):ji (mk1 l) m=mk1 (l.erase m):=by
 induction l with
 | nil=>rfl
 | cons x l ih=>
  show(if m=x then mk1 l else(x,vI 1)::ji (mk1 l) m)=_
  by_cases c:m=x
  .rw[mc c,c,List.erase_cons_head]
  .rw[ma c,ih,List.erase_cons_tail (by simpa using fun e=>c e.symm)];try rfl
theorem auz(l:List jl)(m:jl):wR (mk1 l) m (vI 1)=mk1 (if m∈l then l else l++[m]):=by
 induction l with
 | nil=>rfl
 | cons x l ih=>
  show(if m=x then(m,vI 1)::mk1 l else(x,vI 1)::wR (mk1 l) m (vI 1))=_
  by_cases c:m=x
  .rw[mc c,mc (by simp[c]),c];try rfl
  .rw[ma c,ih]
   by_cases d:m∈l
   .rw[mc d,mc (by simp[d])];try rfl
   .rw[ma d,ma (by simp[c,d])];try rfl
def jn(h:Hub)(m:jl)(kind:Int)(ks:List (Str×Int)):Hub:=h.map fun p=>if p.1∈ks then(p.1,afF m kind p.2)else p
theorem aqr(h:Hub)(m:jl)(kind:Int):jn h m kind []=h:=by unfold jn;simp
theorem aqs{h:Hub}(hk:∀ p∈h,p.1∈ks):jn h m kind ks=ud h m kind:=by
 unfold jn ud
 refine List.map_congr_left fun p hp=>?_
 rw[mc (hk p hp)]
theorem aiv{h:Hub}(hp:h[i]?=some (k,d))(hk:k∉ks):(jn h m kind ks)[i]?=some (k,d):=by
 unfold jn
 rw[mg,hp]
 simp[hk]
theorem aqt{h:Hub}(hn:(h.map (·.1)).Nodup)(hp:h[i]?=some (k,d))(hk:k∉ks):wR (jn h m kind ks) k (afF m kind d)=jn h m kind (ks++[k]):=by
 have hn':((jn h m kind ks).map (·.1)).Nodup:=by
  have:(jn h m kind ks).map (·.1)=h.map (·.1):=by
   unfold jn
   rw[nP]
   refine List.map_congr_left fun p _=>?_
   simp only[Function.comp]
   split<;>rfl
  rw[this];exact hn
 rw[agb _ hn' (aiv hp hk)]
 apply nA
 intro j
 rw[nH]
 by_cases c:i=j
 .subst c
  have hil:i<(jn h m kind ks).length:=(List.getElem?_eq_some_iff.1 (aiv hp hk)).1
  rw[mc rfl,mc hil]
  unfold jn
  rw[mg,hp]
  simp
 .rw[ma c]
  unfold jn
  rw[mg,mg]
  cases e:h[j]? with
  | none=>rfl
  | some q=>
   have hq:q.1≠k:=fun e'=>c (adg hn (i:=i) (j:=j) (x:=k) (by rw[mg,hp];try rfl) (by rw[mg,e];simp[e']))
   simp[hq]
theorem aoO{h:Hub}(hn:(h.map (·.1)).Nodup)(hp:h[i]?=some (k,d))(hk:k∉ks)(hm:m∉d.marks):jn h m kind (ks++[k])=jn h m kind ks:=by
 unfold jn
 refine List.map_congr_left fun p hpm=>?_
 by_cases c:p.1=k
 .have:p=(k,d):=by
   obtain⟨j,hj,e⟩:=mZ hpm
   have hj':h[j]?=some p:=by rw[md hj,e]
   have:i=j:=adg hn (i:=i) (j:=j) (x:=k) (by rw[mg,hp];try rfl) (by rw[mg,hj'];simp[c])
   subst this
   rw[hp]at hj';cases hj';rfl
  subst this
  simp only[mt,mo,or_true,if_true]
  rw[ma hk]
  unfold afF
  rw[ma hm]
 .simp[c]
end Zt
namespace SL
open Go
variable{P:Program}{B:World}{ro I I':AH}{tag tag':Nat->Nat}
variable{K:AH->Prop}{l:List (List Value)}{b j m n r w:Nat}{s:Sl}{e:TypeId}
theorem qm.stF(ha:s.a=some ⟨b,0,none⟩):∀ (vs:List Value) (i:Nat) (l:List (List Value)) (y:List Value) (I:AH),qm tag I r e w s l->l[j]?=some y->Sep ro I->i+vs.length<=w->(∀v∈vs,qf v=true)->
  (∀I',qd [r] ro tag I tag I'->qm tag I' r e w s (l.set j (y.take i++vs++y.drop (i+vs.length)))->K I')->stN ⟨b,j*w,none⟩ K vs i I:=by
 intro vs
 induction vs with
 | nil=>
  intro i l y I h hj hs _ _ hK
  refine hK I (qd.refl hs) ?_
  have:l.set j (y.take i++[]++y.drop (i+([]:List Value).length))=l:=by
   have hjl:j<l.length:=(List.getElem?_eq_some_iff.1 hj).1
   rw[ny,nE,Nat.add_zero,List.take_append_drop]
   have:=(List.getElem?_eq_some_iff.1 hj).2
   rw[<-this];exact List.set_getElem_self hjl
  rw[this];exact h
 | cons v vs ih=>
  intro i l y I h hj hs hl hv hK
  simp only[mx]at hl
  have hyl:y.length=w:=h.wide y (mU hj)
  have hjl:j<l.length:=(List.getElem?_eq_some_iff.1 hj).1
  have h1:=qm.st (v:=v) (i:=i) (K:=stN ⟨b,j*w,none⟩ K vs (i+1)) h hs ha hj z7 (hv v z8) fun I1 st1 h1=>?_
  .unfold stN at h1
   have e:(⟨b,j*w+i,none⟩:Addr).add 0=(⟨b,j*w,none⟩:Addr).add i:=by simp[Addr.add]
   rw[e]at h1
   unfold stN
   exact h1
  .refine ih (i+1) (l.set j (y.set i v)) (y.set i v) I1 h1 (by rw[List.getElem?_set_self hjl]) st1.sep z7 (fun u hu=>hv u (by simp[hu])) fun I2 st2 h2=>?_
   refine hK I2 (st1.trans st2) ?_
   have e1:(y.set i v).take (i+1)=y.take i++[v]:=by
    rw[mN,List.take_set_of_le (mK _),List.getElem?_set_self z7];try rfl
   have e2:(y.set i v).drop (i+1+vs.length)=y.drop (i+(v::vs).length):=by
    rw[List.drop_set_of_lt z7];congr 1;simp;omega
   rw[e1,e2,List.set_set]at h2
   simpa using h2
theorem qm.stE{x y:List Value}(h:qm tag I r e w s l)(hs:Sep ro I)(ha:s.a=some ⟨b,0,none⟩)(hj:l[j]?=some y)(hx:x.length=w)(hv:∀ v∈x,qf v=true)
  (hK:∀ I',qd [r] ro tag I tag I'->qm tag I' r e w s (l.set j x)->K I'):stN ((⟨b,0,none⟩:Addr).add (j*w)) K x 0 I:=by
 have hyl:y.length=w:=h.wide y (mU hj)
 have:=qm.stF (K:=K) ha x 0 l y I h hj hs z7 hv fun I' st h'=>hK I' st (by
  rw[Lr,ml,LA z7]at h'
  simpa using h')
 rw[vy,ml];exact this
theorem qm.take(h:qm tag I r e w s l)(hm:m<=l.length):qm tag I r e w ⟨s.a,m,s.cap⟩ (l.take m):=by
 rcases h with⟨rfl,rfl⟩ | ⟨b,cs,ha,ht,hb,hln,hc,hle,hw,hg⟩
 .simp at hm;subst hm;exact .inl ⟨rfl,rfl⟩
 .refine .inr ⟨b,cs,ha,ht,hb,j0,hc,by simp only;omega,fun x hx=>hw x (nV hx),fun i v hv=>?_⟩
  refine hg i v ?_
  have e1:l.flatten=(l.take m).flatten++(l.drop m).flatten:=by rw[<-List.flatten_append,List.take_append_drop]
  rw[e1]
  have hi:i<(l.take m).flatten.length:=(List.getElem?_eq_some_iff.1 hv).1
  rw[mM hi];exact hv
theorem ani{zs:Array Value}:(Builtin.zeroCells zs n).size=n*zs.size/\∀ v∈(Builtin.zeroCells zs n).toList,v∈zs.toList:=by
 constructor
 .simp[Builtin.zeroCells]
 .intro v hv
  simp only[Builtin.zeroCells,Array.mem_toList_iff,Array.mem_map]at hv
  obtain⟨i,hi,rfl⟩:=hv
  have hi':i<n*zs.size:=by simpa using hi
  have h0:0<zs.size:=by
   rcases nc zs.size with h | h
   .rw[h]at hi';omega
   .exact h
  rw[getElem!_pos zs _ (LJ _ h0)]
  simp
theorem aml{r t ty:TypeId}{bytes:Nat}{zv:Value}{Q:Value->AH->Prop}(h:qm tag I r e w s l)(hs:Sep ro I)(ht:P.underlying t=some (.slice e))(hz:qo P e zv w bytes)(hzc:zv.cells.size=w)(hv:∀ v∈zv.cells.toList,qf v=true)(hw0:0<w)
  (hm:m<=l.length) (hQ:∀ I',qd [r] ro tag I tag I'->qm tag I' r e w ⟨s.a,m,s.cap⟩ (l.take m)->Q (.tuple #[]) I'):
  awp P ro (Builtin.clear_ #[t] ty #[Sl.v (⟨wt s.a m s.cap w,s.len - m,s.cap - m⟩:Sl)]) Q I:=by
 have g0:(#[t]:Array TypeId)[0]?=some t:=rfl
 have g1:(#[Value.slice (wt s.a m s.cap w) (s.len - m) (s.cap - m)]:Array Value)[0]?=some (Value.slice (wt s.a m s.cap w) (s.len - m) (s.cap - m)):=rfl
 have hl:=h.len
 unfold Builtin.clear_
 simp only[Sl.v,qx,qN,g0,g1]
 rw[qz ht]
 rcases nc (s.len - m)with h0 | h0
 .have hd:=hQ I (qd.refl hs) (h.take hm)
  rw[h0]
  cases hc:wt s.a m s.cap w with
  | none=>exact hd
  | some a=>exact hd
 .have htk:=h.take hm
  rcases h with⟨rfl,rfl⟩ | ⟨b,cs,ha,htg,hbk,hln,hcp,hle,hw,hg⟩
  .simp at h0
  .have hcut:wt s.a m s.cap w=some ⟨b,m*w,none⟩:=by
    unfold wt
    rw[ma z7,ha]
    simp[vy]
   rw[hcut]
   obtain⟨k,hk⟩:∃ k,s.len - m=k+1:=⟨s.len - m - 1,z7⟩
   rw[hk]
   simp only
   rw[abI hz]
   refine(vQ _ _).2 ?_
   obtain⟨z1,z2⟩:=ani (zs:=zv.cells) (n:=k+1)
   have hbound:m*w+(k+1)*w<=cs.size:=by
    rw[hcp,<-nT]
    exact Nat.mul_le_mul_right _ z7
   refine jU (Builtin.zeroCells zv.cells (k+1)).toList 0 I (afL (Builtin.zeroCells zv.cells (k+1)).toList cs 0 I hbk (by rw[Array.length_toList,z1,hzc];omega) (fun v hvm=>?_) fun cs' c1 c2 c3=>?_)
   .exact hv v (z2 v hvm)
   refine hQ _ (kF hs htg hbk) ?_
   refine .inr ⟨b,cs',ha,htg,qC _ _ _,j0,by rw[c1];exact hcp,j0,fun x hx=>hw x (nV hx),fun i v hi=>?_⟩
   have hil:i<m*w:=by
    have:=(List.getElem?_eq_some_iff.1 hi).1
    rw[uR (w:=w) fun x hx=>hw x (nV hx),Lg,Nat.min_eq_left hm]at this
    exact this
   rw[c2 i z7]
   rcases htk with⟨_,e2⟩ | ⟨b',cs2,ha2,_,hb2,_,_,_,_,hg2⟩
   .rw[e2]at hi;cases hi
   .simp only at ha2
    rw[ha]at ha2;cases ha2
    rw[hbk]at hb2;cases hb2
    exact hg2 i v hi
end SL
namespace Zt
open Go SL G Pa Wi
variable{B:World}{ro I I':AH}{tag tag':Nat->Nat}
variable{Q:AH->Prop}{kind:Int}
theorem ae2:prog.underlying 243=some (.map 81 305):=y1
theorem ajF:prog.underlying 308=some (.map 314 3):=y1
theorem ate:prog.underlying 28=some (.slice 132):=y1
theorem aoj:qo prog 305 (.pointer none) 1 8:=qo.of y1
theorem aiw:SI prog 81:=⟨⟨_,_,mz,y1,rfl,y1,rfl,y0,y0⟩,y1⟩
theorem aly:SI prog 314:=⟨⟨_,_,nC,y1,rfl,y1,rfl,y0,y0⟩,y1⟩
section
variable{T M:Nat}{bs:List Nat}{h:Hub}{k:Str×Int}
theorem wY.fresh(hi:wY tag I T M bs h)(st:∀ R,qd R ro tag I tag' I'):wY tag' I' T M bs h:=hi.keepS (qq (C:=[]) st) z8
abbrev kV(k:Str×Int):List Value:=[.string (S k.1),.int .i64 k.2]
theorem av4(k:Str×Int):∀ v∈kV k,qf v=true:=by simp[qf]
theorem atf{X r:Nat}(hi:wY tag I T M bs h)(hk:Row tag I r 81 ⟨some ⟨X,0,none⟩,2,2⟩ (kV k))(hQ:∀ bs' tag' I',StepS [62] ro tag I tag' I'->wY tag' I' T M bs' (ji h k)->Q I'):ac6 B ro (some ⟨T,0,none⟩) ⟨some ⟨X,0,none⟩,1,1⟩ I Q:=by
 refine akb fun hs=>?_
 unfold adt
 refine lfpD.intro ?_
 generalize hY:lfpD (yZ B ro (some ⟨T,0,none⟩) ⟨some ⟨X,0,none⟩,1,1⟩ Q)=Y
 unfold yZ
 rw[mc z8]
 refine⟨_,rfl,z8,z8,S k.1,k.2,qr (hk.read hs) rfl,?_⟩
 refine kq (tag:=tag) 0 hs rfl (av4 k) fun K tag1 I1 st1 r1=>?_
 have h1:=hi.fresh st1
 have hs1:=(st1 []).sep
 refine⟨_,rfl,some M,h1.cell.cell1 hs1,S k.1,k.2,qr (r1.read hs1) rfl,?_⟩
 refine ag3 (k:=k) h1.map.map hs1 ae2 (aec aiw) fun I2 st2 m2=>⟨rfl,?_⟩
 rw[show i64.wrap (0+1)=1 from rfl,<-hY]
 refine lfpD.intro ?_
 unfold yZ
 rw[ma z8]
 obtain⟨bs',h2⟩:=h1.gone st2 m2
 exact hQ bs' tag1 I2 ((qq st1).trans (st2.s z8)) h2
theorem auA{b m:Nat}{s:Sl}{d:yw}{x:Str}(row:Row tag I (rD b) 310 ⟨some ⟨b,0,none⟩,4,4⟩ [Sl.v s,vI d.acked,vI d.last,.map (some m)])(ev:qm tag I (rE b) 132 3 s (d.events.map evV))(hs:SL.Sep ro I)(hl:d.events.length<=1048576)(h0:0<=d.last)(h1:d.last<=1099511627776)
  (hQ:∀ s' tag' I',qd [rD b,rE b] ro tag I tag' I'->Row tag' I' (rD b) 310 ⟨some ⟨b,0,none⟩,4,4⟩ [Sl.v s',vI d.acked,vI (ama d kind x).last,.map (some m)]->qm tag' I' (rE b) 132 3 s' ((ama d kind x).events.map evV)->Q I'):acq B ro (some ⟨b,0,none⟩) kind (S x) I Q:=by
 refine ajE fun _=>?_
 unfold acA
 have g0:=(row.read hs).2.2 _ rfl
 refine⟨_,rfl,d.last,g0 2 _ rfl,_,rfl,?_⟩
 rw[SL.wd z7 z7]
 refine row.stAt [vI (d.last+1)] 2 hs z8 (by simp[qf]) fun I1 st1 r1=>?_
 have g1:=(r1.read st1.sep).2.2 _ rfl
 refine⟨_,rfl,_,rfl,s,g1 0 _ rfl,d.last+1,g1 2 _ rfl,?_⟩
 refine qh (tag:=tag) 0 st1.sep fun E tag2 I2 st2 r2=>?_
 have hs2:=(st2 []).sep
 have ev2:=(ev.keep st1 (by simp[rD,rM,rE]<;>omega)).keep (st2 [])
 refine xZ (l2:=[evV (d.last+1,kind,x)]) ev2 hs2 (Row.readW1 r2 hs2 rfl y0) ate aqm rfl (by simp[evV,qf]) (by simp[rD,rM,rE]<;>omega) y0 fun s' tag3 I3 st3 r3=>?_
 have st3':=st3 [rE b] (.inr z8)
 have row3:=(Row.keep r1 (st2 [])).keep st3' (by simp[rD,rM,rE]<;>omega)
 refine⟨s',rfl,_,rfl,?_⟩
 refine Row.stPre [Sl.v s'] 0 _ I3 row3 st3'.sep z8 (by simp[qf,Sl.v]) fun I4 st4 r4=>?_
 refine hQ s' tag3 I4 (((st1.mono z8).trans (st2 _)).trans ((st3'.mono z8).trans (st4.mono z8))) r4 ?_
 have:=qm.keep r3 st4 (by simp[rD,rM,rE]<;>omega)
 unfold ama
 simpa using this
theorem akN{b0:Nat}{m:jl}{Q:Int->AH->Prop}(hi:wY tag I T M bs h)(hok:kX b0 h)(hb0:b0<=33554433)
  (hQ:∀ n tag' I',StepS [0,59,60,61] ro tag I tag' I'->wY tag' I' T M bs (ud h m kind)->Q n I'):pL B ro (some ⟨T,0,none⟩) (S m.1) m.2 kind I Q:=by
 refine akd fun hs=>?_
 unfold adv
 refine qh (tag:=tag) 32 hs fun X tag1 I1 st1 r1=>?_
 have hs1:=(st1 []).sep
 have h1:=hi.fresh st1
 refine⟨_,rfl,some M,h1.cell.cell1 hs1,?_⟩
 have inRl:∀ x,x∈(bs.flatMap fun b=>[rD b,rM b,rE b])->∃ b∈bs,x=rD b\/x=rM b\/x=rE b:=fun x hx=>by
  obtain⟨b,hb,hx⟩:=List.mem_flatMap.1 hx
  exact⟨b,hb,j2 hx⟩
 refine amC (F:=fun p=>aaj B ro kind p X Q) (R:=bs.flatMap fun b=>[rD b,rM b,rE b]) (ty:=0) ae2 h1.map.map hs1 (fun hx=>?_) (fun hx=>?_) y0
  (fun d _ tag2 I2=>StepS [0,59,60,61] ro tag1 I1 tag2 I2/\wY tag2 I2 T M bs (jn h m kind (d.map (·.1)))) (fun tag2 I2 st=>⟨qq st,by rw[LN,aqr];exact h1.fresh st⟩) ?_
 .obtain⟨b,_,h⟩:=inRl _ hx;unfold rD rM rE at h;omega
 .obtain⟨b,_,h⟩:=inRl _ hx;unfold rD rM rE at h;omega
 rintro x d rest n tag2 I2 Y hp hs2 ⟨a1,a2⟩ hn
 unfold aaj
 refine hn _ (fun hr=> .inl ⟨rfl,?_⟩) fun p q va vb tag4 I4 hp4 st4 hm4 he hY=> .inr ⟨va,vb,rfl,he _ ?_⟩
 .unfold aai
  rw[hr,ny]at hp
  refine hQ n tag2 I2 ((qq st1).trans a1) ?_
  rw[aqs fun p hp'=>?_]at a2
  .exact a2
  .have:p.1∈(kvP h bs).map (·.1):=by rw[abS _ _ hi.map.len];exact mC.2 ⟨p,hp',rfl⟩
   exact(hp.map (·.1)).mem_iff.2 this
 .obtain⟨pk,pv⟩:=p
  have hin:(pk,pv)∈kvP h bs:=hp4.mem_iff.1 z8
  obtain⟨i,b,de,b1,b2,rfl⟩:=apk _ _ hi.map.len pk pv hin
  have hnd:(((d++(pk,afj b)::q)).map (·.1)).Nodup:=(hp4.map (·.1)).nodup_iff.2 (by rw[abS _ _ hi.map.len];exact hi.map.keys)
  have hnk:pk∉d.map (·.1):=fun hm=>by
   rw[mB,mF,List.nodup_append]at hnd
   exact hnd.2.2 pk hm pk z8 rfl
  have h4:wY tag4 I4 T M bs (jn h m kind (d.map (·.1))):=a2.keepS (st4.s (C:=[0]) z8)
  have hget:=aiv (m:=m) (kind:=kind) b2 hnk
  have s4:StepS [0,59,60,61] ro tag1 I1 tag4 I4:=a1.trans (st4.s z8)
  have hs4:=st4.sep
  have rX:=r1.keepS s4
  have dok:acS b0 pk de:=hok.ok _ (mU b2)
  obtain⟨mm,s,row,ev,mk⟩:=h4.map.at' i b pk de b1 hget
  refine⟨_,_,rfl,_,rfl,some mm,(row.read hs4).2.2 _ rfl 3 _ rfl,S m.1,m.2,qr (rX.read hs4) rfl,?_⟩
  refine zX (k:=m) mk hs4 ajF (aec aly) aqp ?_
  rw[aoi]
  have hin':b∈bs:=mU b1
  by_cases c:m∈de.marks
  .rw[mc c]
   refine⟨1,rfl,?_⟩
   rw[mc y0]
   refine⟨_,rfl,some mm,(row.read hs4).2.2 _ rfl 3 _ rfl,S m.1,m.2,qr (rX.read hs4) rfl,?_⟩
   refine ag3 (k:=m) mk hs4 ajF (aec aly) fun I5 st5 m5=>⟨rfl,?_⟩
   rw[auy]at m5
   have row5:=row.keep st5 (by simp[rD,rM,rE]<;>omega)
   have ev5:=ev.keep st5 (by simp[rD,rM,rE]<;>omega)
   have rX5:=rX.keep st5 (by simp[rD,rM,rE]<;>omega)
   refine⟨_,rfl,S m.1,(rX5.read st5.sep).2.2 _ rfl 0 _ rfl,?_⟩
   have hroom:=dok.room
   have hlast:=dok.last
   refine auA (d:={de with marks:=de.marks.erase m}) row5 ev5 st5.sep (by simp only;omega) hlast.1 (by simp only;omega) fun s' tag6 I6 st6 r6 e6=>?_
   have k6:qd [rD b,rM b,rE b] ro tag4 I4 tag6 I6:=(st5.mono z8).trans (st6.mono z8)
   have hfd:afF m kind de=ama {de with marks:=de.marks.erase m} kind m.1:=by unfold afF;rw[mc c]
   have hR:agp b [rD b,rM b,rE b]:=by
    refine⟨by simp[rD,rM,rE]<;>omega,by simp[rD,rM,rE]<;>omega,fun x hx e=>?_,fun x hx e=>?_,fun x hx e=>?_⟩
    all_goals
     simp only[mq,nf,or_false]at hx
     rcases hx with rfl | rfl | rfl<;>first | rfl | (exfalso;omega) | (exfalso;simp only[rD,rM,rE]at e;omega)
   have h6:=h4.old (d':=afF m kind de) k6 hR b1 hget (by rw[hfd];exact⟨mm,s',r6,e6,m5.keep st6 (by simp[rD,rM,rE]<;>omega)⟩)
   rw[aqt hi.map.keys b2 hnk]at h6
   refine hY _ tag6 I6 (k6.mono fun x hx=>List.mem_flatMap.2 ⟨b,hin',hx⟩) ⟨s4.trans (k6.s (by simp[rD,rM,rE]<;>omega)),?_⟩
   rw[mB];exact h6
  .rw[ma c]
   refine⟨0,rfl,?_⟩
   rw[ma y0]
   refine hY _ tag4 I4 (qd.refl hs4) ⟨s4,?_⟩
   rw[mB,mF,LN,aoO hi.map.keys b2 hnk c]
   exact h4
end
end Zt
namespace Zt
open Go SL G Pa Wi
variable{B:World}{ro I I':AH}{tag tag':Nat->Nat}
section
variable{T M:Nat}{bs:List Nat}{h:Hub}{k:Str×Int}
theorem aqu{h:Hub}{l:List (Int×Str)}{j:Nat}(hj:j<l.length):ue h (l.take (j+1))=ac0 (ue h (l.take j)) l[j]:=by
 unfold ue
 rw[mN,md hj,List.foldl_append];try rfl
abbrev CFi:List Nat:=[0,59,60,61]
theorem aok{b0 q:Nat}{es:Sl}{effs:List (Int×Str)}{Q:Int->AH->Prop}(g:wW ro)(hi:wY tag I T M bs h)(hok:kX b0 h)(hb0:b0<=33554433)(he:qm tag I q 336 2 es (effs.map afo))(hq:q%64∉CFi)(hl:effs.length<=1099511627776)
  (hQ:∀ n tag' I',StepS CFi ro tag I tag' I'->wY tag' I' T M bs (ue h effs)->Q n I'):aaO B ro (some ⟨T,0,none⟩) es I Q:=by
 refine akc fun hs=>?_
 unfold adu
 have hln:es.len=effs.length:=by rw[he.len,mi]
 suffices∀(m j:Nat) (n:Int) (tag2:Nat->Nat) (I2:AH),j+m=effs.length->StepS CFi ro tag I tag2 I2->wY tag2 I2 T M bs (ue h (effs.take j))->lfpD (kk B ro (some ⟨T,0,none⟩) es Q) (n,(j:Int)) I2 from
  this _ 0 0 tag I (ml _) (StepS.refl hs) hi
 intro m
 induction m with
 | zero=>
  intro j n tag2 I2 hj st2 h2
  refine lfpD.intro ?_
  unfold kk
  simp only
  rw[ma z7]
  unfold aah
  rw[mH z7]at h2
  exact hQ n tag2 I2 st2 h2
 | succ m ih=>
  intro j n tag2 I2 hj st2 h2
  have hjl:j<effs.length:=by omega
  obtain⟨p,hp,hc⟩:=((qm.keepS he st2 hq).read st2.sep).at (j:=j) (x:=afo effs[j]) (by rw[mg,md hjl];try rfl)
  have hok2:=ail (effs.take j) hok
  have eft:=aqu (h:=h) hjl
  generalize effs[j]=e at hc eft
  have next:∀ (n':Int) tag3 I3,StepS CFi ro tag2 I2 tag3 I3->wY tag3 I3 T M bs (ac0 (ue h (effs.take j)) e)->xj B ro (some ⟨T,0,none⟩) es (j:Int) Q (lfpD (kk B ro (some ⟨T,0,none⟩) es Q)) n' I3:=fun n' tag3 I3 st3 h3=>by
   unfold xj
   rw[Pa.inc j z7]
   rw[<-eft]at h3
   exact ih (j+1) n' tag3 I3 z7 (st2.trans st3) h3
  refine lfpD.intro ?_
  unfold kk
  simp only
  rw[mc z7]
  refine⟨p,hp,z7,z7,e.1,S e.2,by rw[mr];exact hc,?_⟩
  refine kq (tag:=tag2) 33 st2.sep rfl (by simp[qf]) fun X tag3 I3 st3 r3=>?_
  have hs3:=(st3 []).sep
  have g3:=(r3.read hs3).2.2 _ rfl
  have h3:=h2.fresh st3
  refine⟨S e.2,g3 1 _ rfl,?_⟩
  have skip:∀ c:Bool,c=true->ac0 (ue h (effs.take j)) e=ue h (effs.take j)->∀ x,kN B ro (some ⟨T,0,none⟩) es n X (j:Int) x Q (lfpD (kk B ro (some ⟨T,0,none⟩) es Q)) c I3:=fun c hc e1 x=>by
   unfold kN
   rw[mc hc]
   exact next n tag3 I3 (qq st3) (by rw[e1];exact h3)
  refine aeT g (fun hn=>?_) fun u hu=>?_
  .rw[L_S]at hn
   rw[mc y0]
   unfold xR
   rw[mc rfl]
   exact skip true rfl (by unfold ac0;rw[hn]) _
  rw[L_S]at hu
  rw[ma z8]
  refine⟨e.1,g3 0 _ rfl,?_⟩
  unfold xR
  by_cases c1:e.1<1
  .rw[mc (j2 c1)]
   exact skip true rfl (by unfold ac0;rw[hu];simp only;rw[mc (.inl c1)]) _
  rw[ma (j2 c1)]
  refine⟨e.1,g3 0 _ rfl,?_⟩
  by_cases c2:3<e.1
  .exact skip _ (j2 c2) (by unfold ac0;rw[hu];simp only;rw[mc (.inr c2)]) _
  unfold kN
  rw[ma (j2 c2)]
  refine⟨S e.2,g3 1 _ rfl,e.1,g3 0 _ rfl,?_⟩
  have ef:ac0 (ue h (effs.take j)) e=(if e.1=2 then ud (if e.1≠3 then ud (ud (ue h (effs.take j)) (e.2,1) e.1) (u,2) 4 else ud (ue h (effs.take j)) (e.2,1) e.1) (e.2,2) 4 else(if e.1≠3 then ud (ud (ue h (effs.take j)) (e.2,1) e.1) (u,2) 4 else ud (ue h (effs.take j)) (e.2,1) e.1)):=by
   unfold ac0;rw[hu];simp only;rw[ma z7]
  refine akN (m:=(e.2,1)) h3 hok2 hb0 fun n1 tag4 I4 st4 h4=>?_
  have r4:=r3.keepS st4
  have g4:=(r4.read st4.sep).2.2 _ rfl
  have k4:StepS CFi ro tag2 I2 tag4 I4:=(qq st3).trans st4
  have hok4:kX b0 (ud (ue h (effs.take j)) (e.2,1) e.1):=ado hok2 z7
  refine⟨e.1,g4 0 _ rfl,?_⟩
  have last:∀ (hh:Hub) (n':Int) tag5 I5,kX b0 hh->StepS CFi ro tag2 I2 tag5 I5->wY tag5 I5 T M bs hh->Row tag5 I5 33 336 ⟨some ⟨X,0,none⟩,2,2⟩ [vI e.1,.string (S e.2)]->ac0 (ue h (effs.take j)) e=(if e.1=2 then ud hh (e.2,2) 4 else hh)->xQ B ro (some ⟨T,0,none⟩) es X (j:Int) Q (lfpD (kk B ro (some ⟨T,0,none⟩) es Q)) n' I5:=fun hh n' tag5 I5 ok5 k5 h5 r5 e5=>by
   have g5:=(r5.read k5.sep).2.2 _ rfl
   unfold xQ
   refine⟨e.1,g5 0 _ rfl,?_⟩
   by_cases c3:e.1=2
   .rw[mc c3]at e5⊢
    refine⟨S e.2,g5 1 _ rfl,?_⟩
    refine akN (m:=(e.2,2)) h5 ok5 hb0 fun n2 tag6 I6 st6 h6=>?_
    exact next _ tag6 I6 (k5.trans st6) (by rw[e5];exact h6)
   .rw[ma c3]at e5⊢
    exact next _ tag5 I5 k5 (by rw[e5];exact h5)
  by_cases c4:e.1=3
  .rw[ma (j2 c4)]
   exact last _ _ tag4 I4 hok4 k4 h4 r4 (by rw[ef];simp[c4])
  .rw[mc c4]
   refine akN (m:=(u,2)) h4 hok4 hb0 fun n2 tag5 I5 st5 h5=>?_
   refine last _ _ tag5 I5 (ado hok4 z7) (k4.trans st5) h5 (r4.keepS st5) ?_
   rw[ef,mc c4]
theorem arQ(q:Nat){s:Sl}{l:List (Int×Int×Str)}{Q:Sl->AH->Prop}(hr:SL.jF ro I 3 s (l.map evV))(hs:SL.Sep ro I)(hl:l.length<=1048576)(hQ:∀ s' tag' I',(∀R,qd R ro tag I tag' I')->qm tag' I' q 132 3 s' (l.map evV)->Q s' I'):yQ B ro s I Q:=by
 refine aeS fun _=>?_
 unfold yR
 by_cases h0:s.a=none
 .rw[mc h0]
  have:l=[]:=by have:=hr.2.1 h0;simpa using this
  subst this
  exact hQ _ tag I (fun _=>qd.refl hs) (qm.nil _ _ _)
 .rw[ma h0]
  refine qh (tag:=tag) q hs fun b tag1 I1 st1 r1=>?_
  have h':SL.jF ro I1 3 s (l.map evV):=hr.step (st1 [])
  have rw0:qm tag1 I1 q 132 3 ⟨some ⟨b,0,none⟩,0,0⟩ []:=by
   rcases r1 with⟨e,_⟩ | ⟨b',cs,ha,ht,hb,_,hc,hle,_⟩
   .cases e
   .cases ha
    exact .inr ⟨b,cs,rfl,ht,hb,rfl,(by have h0:cs.size=0:=hc.symm;simpa using h0),mK _,(fun x hx=>by cases hx),fun i v hv=>by simp at hv⟩
  refine xZ (l:=[]) (l2:=l.map evV) rw0 (st1 []).sep h' ate aqm rfl (fun x hx v hv=>?_) j0 y0 fun s' tag2 I2 st2 r2=>?_
  .obtain⟨e,_,rfl⟩:=mC.1 hx
   simp only[evV,mq,nf,or_false]at hv
   rcases hv with rfl | rfl | rfl<;>rfl
  .exact⟨s',rfl,hQ s' tag2 I2 (fun R=>(st1 R).trans (st2 R (.inl rfl))) (j2 r2)⟩
theorem amU{b0:Nat}(q:Nat){Q:Sl->AH->Prop}(hi:wY tag I T M bs h)(hok:kX b0 h)(hQ:∀ s tag' I',(∀R,qd R ro tag I tag' I')->qm tag' I' q 132 3 s ((acR h k).map evV)->Q s I'):jp B ro (some ⟨T,0,none⟩) (S k.1) k.2 I Q:=by
 refine ajC fun hs=>?_
 unfold acy
 refine qh (tag:=tag) 0 hs fun X tag1 I1 st1 r1=>?_
 have hs1:=(st1 []).sep
 have h1:=hi.fresh st1
 refine⟨_,rfl,some M,h1.cell.cell1 hs1,S k.1,k.2,qr (r1.read hs1) rfl,?_⟩
 refine zX (k:=k) h1.map.map hs1 ae2 (aec aiw) aoj ?_
 unfold acR at hQ
 rcases h1.map.look k with⟨a1,a2⟩ | ⟨i,b,d,hb,hp,a3,a4,m,s,row,ev,mk⟩
 .rw[a2]
  refine⟨none,rfl,?_⟩
  rw[ma z8]
  rw[a1]at hQ
  exact hQ _ tag1 I1 st1 (qm.nil _ _ _)
 .rw[a4]
  refine⟨some ⟨b,0,none⟩,rfl,?_⟩
  rw[mc z8]
  rw[a3]at hQ
  refine⟨_,rfl,s,(row.read hs1).2.2 _ rfl 0 _ rfl,?_⟩
  have hr:d.events.length+d.marks.length<=32:=(hok.ok _ (yr a3)).room
  refine arQ (tag:=tag1) q (ev.read hs1) hs1 z7 fun s' tag2 I2 st2 r2=>?_
  exact hQ s' tag2 I2 (fun R=>(st1 R).trans (st2 R)) r2
theorem aqv{Q:Int->Int->AH->Prop}(hi:wY tag I T M bs h)(hQ:∀ a tag' I',(∀R,qd R ro tag I tag' I')->Q a (match qy h k with | some d=>d.last | none=>0) I'):abM B ro (some ⟨T,0,none⟩) (S k.1) k.2 I Q:=by
 refine aiT fun hs=>?_
 unfold ab2
 refine qh (tag:=tag) 0 hs fun X tag1 I1 st1 r1=>?_
 have hs1:=(st1 []).sep
 have h1:=hi.fresh st1
 refine⟨_,rfl,some M,h1.cell.cell1 hs1,S k.1,k.2,qr (r1.read hs1) rfl,?_⟩
 refine zX (k:=k) h1.map.map hs1 ae2 (aec aiw) aoj ?_
 rcases h1.map.look k with⟨a1,a2⟩ | ⟨i,b,d,hb,hp,a3,a4,m,s,row,ev,mk⟩
 .rw[a2]
  refine⟨none,rfl,?_⟩
  rw[ma z8]
  rw[a1]at hQ
  exact hQ 0 tag1 I1 st1
 .rw[a4]
  refine⟨some ⟨b,0,none⟩,rfl,?_⟩
  rw[mc z8]
  rw[a3]at hQ
  have gr:=(row.read hs1).2.2 _ rfl
  exact⟨_,rfl,_,rfl,d.acked,gr 1 _ rfl,d.last,gr 2 _ rfl,hQ _ tag1 I1 st1⟩
theorem aoP{q:Nat}{s:Sl}{l:List (Int×Int×Str)}{f:Int×Int×Str->Bool}{fv:Value}{Q:Sl->AH->Prop}(hr:qm tag I q 132 3 s (l.map evV))(hs:SL.Sep ro I)(hl:l.length<=1048576)
  (hcall:∀ e∈l,∀tag' I',qd [q] ro tag I tag' I'->∀ K:Value->AH->Prop,(∀tag2 I2,(∀R,qd R ro tag' I' tag2 I2)->K (.bool (f e)) I2)->adQ prog B ro fv [.agg #[.int .i64 e.1,.int .i64 e.2.1,.string (S e.2.2)]] I' K)
  (hQ:∀ s' tag' I',qd [q] ro tag I tag' I'->qm tag' I' q 132 3 s' ((l.filter fun e=> !f e).map evV)->Q s' I'):xU B ro s fv I Q:=by
 refine adb fun _=>?_
 unfold xW
 refine adJ fun _=>?_
 unfold jd
 have hln:s.len=l.length:=by rw[hr.len,mi]
 have atE:∀ (cur:List (Int×Int×Str)) (tag1:Nat->Nat) (I1:AH),qm tag1 I1 q 132 3 s (cur.map evV)->SL.Sep ro I1->∀ j e,cur[j]?=some e->∃ b,s.a=some ⟨b,0,none⟩/\SL.qe ro I1 ((⟨b,0,none⟩:Addr).add (j*3)) 0 (evV e):=fun cur tag1 I1 r1 hs1 j e he=>by
  obtain⟨b,ha,_,hg⟩:=r1.get hs1 (j:=j) (x:=evV e) (by rw[mg,he];try rfl)
  refine⟨b,ha,zt 0 fun i v hv=>?_⟩
  rw[ml]
  rw[vy,vy,ml]
  exact hg i v hv
 have second:∀ (m j w:Nat) (cur:List (Int×Int×Str)) (tag1:Nat->Nat) (I1:AH),j+m=l.length->w<=j->cur.length=l.length->cur.take w=(l.take j).filter (fun k=> !f k)->(∀i,j<=i->cur[i]?=l[i]?)->qd [q] ro tag I tag1 I1->qm tag1 I1 q 132 3 s (cur.map evV)->
   lfpD (wN B ro s fv Q) ((w:Int),(j:Int)) I1:=by
  intro m
  induction m with
  | zero=>
   intro j w cur tag1 I1 hj hw hcl htk hrest st1 r1
   refine lfpD.intro ?_
   unfold wN
   simp only
   rw[ma z7]
   unfold vW
   have hcap:=r1.cap
   refine⟨⟨trivial,z7,by simp only[cutHi];omega⟩,?_⟩
   rw[mr]
   refine aml r1 st1.sep ate aqm rfl y0 y0 (by simp[rD,rM,rE]<;>omega) fun I2 st2 r2=>?_
   refine⟨rfl,⟨⟨z7,z7⟩,trivial⟩,?_⟩
   have ec:wt s.a 0 s.cap 3=s.a:=by unfold wt;split;rfl;cases s.a<;>simp[Addr.add]
   rw[ec,Nat.sub_zero,Nat.sub_zero]
   refine hQ _ tag1 I2 (st1.trans st2) ?_
   rw[<-List.map_take,htk,mH z7]at r2
   exact r2
  | succ m ih=>
   intro j w cur tag1 I1 hj hw hcl htk hrest st1 r1
   have hjl:j<l.length:=by omega
   have hjc:cur[j]?=some l[j]:=by rw[hrest j (mK _),md hjl]
   obtain⟨b,ha,hc⟩:=atE cur tag1 I1 r1 st1.sep j _ hjc
   refine lfpD.intro ?_
   unfold wN
   simp only
   rw[mc z7]
   refine⟨_,ha,z7,z7,l[j].1,l[j].2.1,S l[j].2.2,by rw[mr];exact hc,?_⟩
   refine kq (tag:=tag1) 0 st1.sep rfl (by simp[qf]) fun X tag2 I2 st2 x2=>?_
   have hs2:=(st2 []).sep
   refine⟨l[j].1,l[j].2.1,S l[j].2.2,qr (x2.read hs2) rfl,?_⟩
   have r2:=r1.keep (st2 [])
   have k2:=st1.trans (st2 [q])
   refine hcall _ (mG hjl) tag2 I2 k2 _ fun tag3 I3 st3=>⟨f l[j],rfl,?_⟩
   have r3:=qm.keep r2 (st3 [])
   have k3:=k2.trans (st3 [q])
   have x3:=x2.keep (st3 [])
   have etk:(l.take (j+1)).filter (fun k=> !f k)=(l.take j).filter (fun k=> !f k)++if f l[j]then []else [l[j]]:=by
    rw[mN,md hjl,List.filter_append]
    simp only[Option.toList_some,List.filter_cons,List.filter_nil]
    cases f l[j]<;>rfl
   cases hf:f l[j]with
   | true=>
    rw[ma z8]
    unfold wM
    rw[Pa.inc j z7]
    exact ih (j+1) w cur tag3 I3 z7 z7 hcl (by rw[etk,hf];simpa using htk) (fun i hi=>hrest i z7) k3 r3
   | false=>
    rw[mc z8]
    refine⟨l[j].1,l[j].2.1,S l[j].2.2,qr (x3.read (st3 []).sep) rfl,_,ha,z7,z7,?_⟩
    rw[mr]
    have hwc:w<cur.length:=by omega
    refine qm.stE (x:=evV l[j]) r3 (st3 []).sep ha (j:=w) (y:=evV cur[w]) (by rw[mg,md hwc];try rfl) rfl (by simp[evV,qf]) fun I4 st4 r4=>?_
    unfold wM
    rw[Pa.inc j z7,Pa.inc w z7]
    refine ih (j+1) (w+1) (cur.set w l[j]) tag3 I4 z7 z7 (j2 hcl) ?_ (fun i hi=>?_) (k3.trans st4) (by rw[List.map_set];exact r4)
    .rw[etk,hf,mN,List.take_set_of_le (mK _),htk,List.getElem?_set_self z7]
     try rfl
    .rw[List.getElem?_set_ne z7];exact hrest i z7
 suffices∀m j tag1 I1,j+m=l.length->(∀k∈l.take j,f k=false)->qd [q] ro tag I tag1 I1->qm tag1 I1 q 132 3 s (l.map evV)->lfpD (zZ B ro s fv fun x10 I=>if x10=(-1)then Q s I else lfpD (wN B ro s fv Q) (x10,i64.wrap (x10+1)) I) (j:Int) I1 from
  this _ 0 tag I (ml _) z8 (qd.refl hs) hr
 intro m
 induction m with
 | zero=>
  intro j tag1 I1 hj hall st1 r1
  refine lfpD.intro ?_
  unfold zZ
  rw[ma z7]
  unfold kd
  show(if(-1:Int)= -1 then _ else _)
  rw[mc rfl]
  rw[mH z7]at hall
  refine hQ s tag1 I1 st1 ?_
  rw[List.filter_eq_self.2 fun k hk=>by rw[hall k hk];try rfl]
  exact r1
 | succ m ih=>
  intro j tag1 I1 hj hall st1 r1
  have hjl:j<l.length:=by omega
  obtain⟨b,ha,hc⟩:=atE l tag1 I1 r1 st1.sep j l[j] (md hjl)
  refine lfpD.intro ?_
  unfold zZ
  rw[mc z7]
  refine⟨_,ha,z7,z7,l[j].1,l[j].2.1,S l[j].2.2,by rw[mr];exact hc,?_⟩
  refine hcall _ (mG hjl) tag1 I1 st1 _ fun tag3 I3 st3=>⟨f l[j],rfl,?_⟩
  have r3:=qm.keep r1 (st3 [])
  have k3:=st1.trans (st3 [q])
  cases hf:f l[j]with
  | true=>
   rw[mc rfl]
   show(if((j:Int))= -1 then _ else _)
   rw[ma z7,Pa.inc j z7]
   have e1:(l.take j).filter (fun k=> !f k)=l.take j:=List.filter_eq_self.2 fun k hk=>by rw[hall k hk];try rfl
   refine second m (j+1) j l tag3 I3 z7 z7 rfl ?_ (fun _ _=>rfl) k3 r3
   rw[mN,md hjl,List.filter_append,e1]
   simp[hf]
  | false=>
   rw[ma y0,Pa.inc j z7]
   refine ih (j+1) tag3 I3 z7 (fun k hk=>?_) k3 r3
   rw[mN,md hjl]at hk
   rcases mt.1 hk with h | h
   .exact hall k h
   .have h':k=l[j]:=by simpa using h
    rw[h'];exact hf
theorem auB{x:Nat}{e:Int×Int×Str}{n:Int}{K:Value->AH->Prop}(hs:SL.Sep ro I)(hx:qa ro I ⟨x,0,none⟩=some (vI n))(hK:∀ tag2 I2,(∀R,qd R ro tag I tag2 I2)->K (.bool (decide (e.1<=n))) I2):adQ prog B ro (.func (.func 233) #[] #[.pointer (some ⟨x,0,none⟩)]) [.agg #[.int .i64 e.1,.int .i64 e.2.1,.string (S e.2.2)]] I K:=by
 refine⟨233,f233,#[],#[.pointer (some ⟨x,0,none⟩)],rfl,func233,y1,y1,?_⟩
 have h:ad0 B ro e.1 e.2.1 (S e.2.2) ⟨x,0,none⟩ I fun r I=>K (.bool r) I:=by
  refine ahD fun _=>?_
  unfold aa6
  refine qh (tag:=tag) 0 hs fun X tag1 I1 st1 r1=>?_
  refine⟨e.1,(r1.read (st1 []).sep).2.2 _ rfl 0 _ rfl,n,?_,hK tag1 I1 st1⟩
  have hl:=(st1 []).old
  unfold qa rd at hx⊢
  cases hr:ro x with
  | some o=>rw[hr]at hx;exact hx
  | none=>
   rw[hr]at hx
   simp only at hx⊢
   cases ho:I x with
   | none=>rw[ho]at hx;simp[vw]at hx
   | some o=>rw[((st1 []).keep x o ho z8).2,<-ho];exact hx
 exact qc.mono h fun v τ ⟨r,e,q⟩=>e▸q
theorem avk(a n:Int):(if a<n then n else a)=max a n:=by
 show _=if a<=n then n else a
 split<;>split<;>omega
theorem auC{b m:Nat}{s:Sl}{d:yw}{n:Int}{Q:AH->Prop}(row:Row tag I (rD b) 310 ⟨some ⟨b,0,none⟩,4,4⟩ [Sl.v s,vI d.acked,vI d.last,.map (some m)])(ev:qm tag I (rE b) 132 3 s (d.events.map evV))(hs:SL.Sep ro I)(hl:d.events.length<=1048576)
  (hQ:∀ s' tag' I',qd [rD b,rE b] ro tag I tag' I'->Row tag' I' (rD b) 310 ⟨some ⟨b,0,none⟩,4,4⟩ [Sl.v s',vI (asU d n).acked,vI d.last,.map (some m)]->qm tag' I' (rE b) 132 3 s' ((asU d n).events.map evV)->Q I'):aco B ro (some ⟨b,0,none⟩) n I Q:=by
 refine ajD fun _=>?_
 unfold acz
 refine qh (tag:=tag) 35 hs fun X tag1 I1 st1 r1=>?_
 have hs1:=(st1 []).sep
 have row1:=row.keep (st1 [])
 refine⟨_,rfl,d.acked,(row1.read hs1).2.2 _ rfl 1 _ rfl,n,(r1.read hs1).2.2 _ rfl 0 _ rfl,_,rfl,?_⟩
 rw[avk]
 refine row1.stAt [vI (max d.acked n)] 1 hs1 z8 (by simp[qf]) fun I2 st2 row2=>?_
 have x2:=r1.keep st2 (by simp[rD,rM,rE]<;>omega)
 have ev2:=(ev.keep (st1 [])).keep st2 (by simp[rD,rM,rE]<;>omega)
 refine⟨_,rfl,s,(Row.read row2 st2.sep).2.2 _ rfl 0 _ rfl,?_⟩
 refine aoP (f:=fun e=>decide (e.1<=n)) ev2 st2.sep hl (fun e he tag3 I3 st3 K hK=>?_) fun s' tag3 I3 st3 r3=>?_
 .exact auB st3.sep ((x2.keep st3 (by simp[rD,rM,rE]<;>omega)).cell1 st3.sep) hK
 .have row3:=Row.keep row2 st3 (by simp[rD,rM,rE]<;>omega)
  refine⟨_,rfl,?_⟩
  refine Row.stPre [Sl.v s'] 0 _ I3 row3 st3.sep z8 (by simp[qf,Sl.v]) fun I4 st4 r4=>?_
  exact hQ s' tag3 I4 (((st1 _).trans (st2.mono z8)).trans ((st3.mono z8).trans (st4.mono z8))) r4 (qm.keep r3 st4 (by simp[rD,rM,rE]<;>omega))
theorem auD{b0:Nat}{n:Int}{Q:Int->AH->Prop}(hi:wY tag I T M bs h)(hok:kX b0 h)(hQ:∀ tag' I',StepS [59,61] ro tag I tag' I'->wY tag' I' T M bs (aea h k n).1->Q (aea h k n).2 I'):adY B ro (some ⟨T,0,none⟩) (S k.1) k.2 n I Q:=by
 refine akK fun hs=>?_
 unfold aef
 refine qh (tag:=tag) 0 hs fun X tag1 I1 st1 r1=>?_
 refine⟨S k.1,k.2,qr (r1.read (st1 []).sep) rfl,?_⟩
 refine aqv (hi.fresh st1) fun a tag2 I2 st2=>?_
 have k2:∀ R,qd R ro tag I tag2 I2:=fun R=>(st1 R).trans (st2 R)
 have h2:=hi.fresh k2
 have hs2:=(st2 []).sep
 have r2:=r1.keep (st2 [])
 unfold aea at hQ
 rcases h2.map.look k with⟨a1,a2⟩ | ⟨i,b,d,hb,hp,a3,a4,m,s,row,ev,mk⟩
 .rw[a1]at hQ⊢
  simp only at hQ⊢
  have q2:=hQ tag2 I2 (qq k2) h2
  by_cases c:n<0\/0<n
  .rw[mc c]at q2 ⊢;exact q2
  .rw[ma c]at q2⊢
   refine⟨_,rfl,some M,h2.cell.cell1 hs2,S k.1,k.2,qr (r2.read hs2) rfl,?_⟩
   refine zX (k:=k) h2.map.map hs2 ae2 (aec aiw) aoj ?_
   rw[a2]
   refine⟨none,rfl,?_⟩
   rw[ma z8]
   exact q2
 .rw[a3]at hQ⊢
  simp only at hQ⊢
  by_cases c:n<0\/d.last<n
  .rw[mc c]at hQ⊢
   exact hQ tag2 I2 (qq k2) h2
  .rw[ma c]at hQ⊢
   refine⟨_,rfl,some M,h2.cell.cell1 hs2,S k.1,k.2,qr (r2.read hs2) rfl,?_⟩
   refine zX (k:=k) h2.map.map hs2 ae2 (aec aiw) aoj ?_
   rw[a4]
   refine⟨some ⟨b,0,none⟩,rfl,?_⟩
   rw[mc z8]
   refine⟨_,rfl,?_⟩
   have hr:d.events.length+d.marks.length<=32:=(hok.ok _ (yr a3)).room
   refine auC row ev hs2 z7 fun s' tag3 I3 st3 row3 ev3=>?_
   have hR:agp b [rD b,rE b]:=by
    refine⟨by simp[rD,rM,rE]<;>omega,by simp[rD,rM,rE]<;>omega,fun x hx e=>?_,fun x hx e=>?_,fun x hx e=>?_⟩
    all_goals
     simp only[mq,nf,or_false]at hx
     rcases hx with rfl | rfl<;>first | rfl | (exfalso;omega) | (exfalso;simp only[rD,rM,rE]at e;omega)
   unfold pT
   exact hQ tag3 I3 ((qq k2).trans (st3.s (by simp[rD,rM,rE]<;>omega))) (h2.old st3 hR hb hp ⟨m,s',row3,ev3,mk.keep st3 (by simp[rD,rM,rE]<;>omega)⟩)
end