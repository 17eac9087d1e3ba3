import Derived.Test.YtomdigihapdhnaaGreatDoorXR
set_option linter.all false
set_option maxRecDepth 99999
set_option maxHeartbeats 0
open Go.IntKind(i64)
open Go.Proofs.Tryz
namespace Go.Proofs.YtomdigihapdhnaaGreatDoor
namespace Zt
open Go SL G Pa Wi
variable{B:ZB}{ro I I':AH}{tag tag':Nat->Nat}
variable{Q:Int->Int->Sl->Int->Sl->Int->Int->Int->Int->Sl->Sl->Int->AH->Prop}{C bs:List Nat}{M T Th Tt W:Nat}{ms s:Sl}
def aud{h:xL}{k nonce:Int}{s:yf}(hn:(h.live.map (·.2.nonce)).Nodup)(hm:(k,s)∈h.live)(e:s.nonce=nonce):ag6 h nonce=some (k,s):=by
 unfold ag6
 have key:∀ l:List (Int×yf),(l.map (·.2.nonce)).Nodup->(k,s)∈l->l.find? (fun p=>decide (p.2.nonce=nonce))=some (k,s):=by
  intro l
  induction l with
  | nil=>intro _ h;cases h
  | cons p l ih=>
   intro hn hm
   simp only[mF,nv]at hn
   rw[List.find?_cons]
   by_cases c:p.2.nonce=nonce
   .rw[Lk c]
    rcases mp.1 hm with h | h
    .rw[h]
    .exact mt (mN.2 ⟨(k,s),h,by rw[c];exact e⟩) hn.1
   .rw[Lf c]
    rcases mp.1 hm with h | h
    .rw[<-h]at c;exact mt e c
    .exact ih hn.2 h
 exact key _ hn hm
abbrev CO:List Nat:=[0,55,56,57,58]
def aue{b0:Nat}{t:Tbl}{home:Str}{nonce lease:Int}{Q:Int->Bool->Int->AH->Prop}(h:za tag I T M bs t)(hi:vV b0 t)(hb0:b0<=33554433)
  (hQ:∀ f tag' I',StepS CO ro tag I tag' I'->aiV tag' I' T (wX t home nonce lease).1->Q (wX t home nonce lease).2.1 f (wX t home nonce lease).2.2 I'):jq B ro (some ⟨T,0,none⟩) (S home) nonce lease I Q:=by
 refine ad1 fun hs=>?_
 unfold pF
 have same:∀ (x:Int×Int),wX t home nonce lease=(t,x)->∀ f,Q x.1 f x.2 I:=fun x e f=>by
  have:=hQ f tag I (StepS.refl hs)
  rw[e]at this
  exact this ⟨M,bs,h⟩
 refine agf ?_
 rw[L_S]
 cases h1:wb home with
 | false=>
  rw[mc y0]
  exact same (0,82) (by unfold wX;rw[mc h1]) false
 | true=>
 rw[ma y0]
 refine aau fun _=>?_
 unfold yh
 show(if¬(okN nonce=true)then _ else _)
 cases h2:okN nonce with
 | false=>
  rw[mc y0]
  exact same (0,10) (by unfold wX;rw[ma (by simp[h1]),mc h2]) false
 | true=>
 rw[ma y0]
 by_cases h3:lease<1\/1048576<lease
 .rw[mc h3]
  exact same (0,153) (by unfold wX;rw[ma (by simp[h1]),ma (by simp[h2]),mc h3]) false
 rw[ma h3]
 have eo:wX t home nonce lease=match ag6 (qP t home) nonce with
   | some p=>(t,p.1,0)
   | none=>if 64<=(qP t home).live.length\/(qP t home).last=4611686018427387903 then(t,0,61)
    else(wR t home (aow (qP t home) nonce lease),(qP t home).last+1,0):=by
  unfold wX
  rw[ma (by simp[h1]),ma (by simp[h2]),ma h3]
  try rfl
 have hok:=amc hi home
 have key:∀ (H m:Nat) (cs:List Nat) (tag1:Nat->Nat) (I1:AH),StepS CO ro tag I tag1 I1->za tag1 I1 T M bs t->Row tag1 I1 (rH H) 254 ⟨some ⟨H,0,none⟩,2,2⟩ [vI (qP t home).last,.map (some m)]->pc kI (afr tag1 I1 H home) tag1 I1 (rL H) m cs (qP t home).live->
   (∀R tag2 I2 x,ah0 H R->qd R ro tag1 I1 tag2 I2->pT tag2 I2 H home x->∀ tag3 I3,qd [119] ro tag2 I2 tag3 I3->vm kS tag3 I3 119 M (wR (kvP t bs) home (afJ H))->aiV tag3 I3 T (wR t home x))->
   vG B ro (some ⟨T,0,none⟩) (S home) nonce lease Q (some ⟨H,0,none⟩) I1:=by
  intro H m cs tag1 I1 s1 h1 row map fin
  have hs1:=s1.sep
  unfold vG
  refine⟨_,rfl,some m,(row.read hs1).2.2 _ rfl 1 _ rfl,?_⟩
  refine anr (F:=fun p=>yp B ro (some ⟨T,0,none⟩) (S home) nonce lease p (some ⟨H,0,none⟩) Q) (R:=[]) (ty:=0) afb map.map hs1 y0 y0 (by unfold rL;omega)
   (fun d _ tag2 I2=>qd [0] ro tag1 I1 tag2 I2/\∀ p∈d,∀(i c:Nat) (s:yf),cs[i]?=some c->(qP t home).live[i]?=some (p.1,s)->s.nonce≠nonce) (fun tag2 I2 st=>⟨st [0],y0⟩) ?_
  rintro x d rest s tag2 I2 Y hp hs2 ⟨a1,a2⟩ hn
  unfold yp
  refine hn _ (fun hr=> .inl ⟨rfl,?_⟩) fun p q va vb tag4 I4 hp4 st4 hm4 he hY=> .inr ⟨va,vb,rfl,he _ ?_⟩
  .-- none has the nonce
   rw[hr,nk]at hp
   have hw:ag6 (qP t home) nonce=none:=by
    unfold ag6
    rw[List.find?_eq_none]
    intro p hpm
    obtain⟨i,hil,e⟩:=ni hpm
    have hil':i<cs.length:=by rw[map.len];exact hil
    have hpi:(qP t home).live[i]?=some (p.1,p.2):=by rw[md hil,e]
    have hkv:p.1∈(kvP (qP t home).live cs).map (·.1):=by rw[aeO _ _ map.len];exact mN.2 ⟨p,hpm,rfl⟩
    obtain⟨q,hq,e2⟩:=mN.1 hkv
    have:=a2 q (hp.mem_iff.2 hq) i cs[i] p.2 (md hil') (by rw[e2];exact hpi)
    simpa using this
   rw[hw]at eo
   simp only at eo
   have row2:=row.keep a1
   have map2:vm kI tag2 I2 (rL H) m (kvP (qP t home).live cs):=map.map.keep a1
   have h2:za tag2 I2 T M bs t:=h1.keepS (a1.s (C:=[0]) y0)
   have s2:StepS CO ro tag I tag2 I2:=s1.trans (a1.s y0)
   unfold jd
   refine⟨_,rfl,some m,(row2.read hs2).2.2 _ rfl 1 _ rfl,?_⟩
   refine ald map2 hs2 afb ?_
   rw[ava _ _ map.len]
   refine⟨_,rfl,?_⟩
   have full:(64<=(qP t home).live.length\/(qP t home).last=4611686018427387903)->Q 0 false 61 I2:=fun c=>by
    rw[mc c]at eo
    have:=hQ false tag2 I2 s2
    rw[eo]at this
    exact this ⟨M,bs,h2⟩
   by_cases c1:64<=(qP t home).live.length
   .rw[mc z7]
    unfold vp
    rw[mc rfl]
    exact full (.inl c1)
   rw[ma z7]
   refine⟨_,rfl,_,(row2.read hs2).2.2 _ rfl 0 _ rfl,?_⟩
   unfold vp
   by_cases c2:(qP t home).last=4611686018427387903
   .rw[mc (j4 c2)]
    exact full (.inr c2)
   rw[ma (j4 c2)]
   rw[ma z7]at eo
   have hla:=hok.last
   have ew:i64.wrap ((qP t home).last+1)=(qP t home).last+1:=SL.qY z7 z7
   refine⟨_,rfl,_,(row2.read hs2).2.2 _ rfl 0 _ rfl,_,rfl,?_⟩
   rw[ew]
   refine row2.stPre [vI ((qP t home).last+1)] 0 _ I2 hs2 y0 (by simp[qg]) fun I4 st4 r4=>?_
   have hs4:=st4.sep
   have map4:=map2.keep st4 (by simp[rH,rL,rS]<;>omega)
   refine⟨_,rfl,_,rfl,_,rfl,some m,(r4.read hs4).2.2 _ rfl 1 _ rfl,_,(r4.read hs4).2.2 _ rfl 0 _ rfl,_,(r4.read hs4).2.2 _ rfl 0 _ rfl,?_⟩
   have k4:qd [0,rH H,rL H] ro tag1 I1 tag2 I4:=(a1.mono y0).trans (st4.mono y0)
   refine agX (tag:=tag2) (fun c=>rS H c) hs4 fun Z tag5 I5 hroZ hZ st5 r5=>?_
   refine abu (k:=(qP t home).last+1) (map4.keep (st5 [])) (st5 []).sep afb (am4 u3') fun I6 st6 m6=>?_
   have k6:qd [0,rH H,rL H] ro tag1 I1 tag5 I6:=k4.trans ((st5 _).trans (st6.mono y0))
   have r6:=(r4.keep (st5 [])).keep st6 (by simp[rH,rL,rS]<;>omega)
   have hR:ah0 H [0,rH H,rL H]:=by
    refine⟨by simp[rH,rL,rS]<;>omega,by simp[rH,rL,rS]<;>omega,by simp[rH,rL,rS]<;>omega,fun x hx e=>?_,fun x hx e=>?_,fun x hx e=>?_⟩
    all_goals
     simp only[mp,nj,or_false]at hx
     rcases hx with rfl | rfl | rfl<;>first | rfl | (exfalso;omega) | (exfalso;simp only[rH,rL]at e;omega)
   have hnk:qj (qP t home).live ((qP t home).last+1)=none:=by
    rw[xK]
    intro hmm
    obtain⟨p,hp,e⟩:=mN.1 hmm
    have:=(hok.rng p hp).2
    omega
   have hnc:Z∉cs:=fun hm=>by
    obtain⟨i,hi,e⟩:=ni hm
    obtain⟨d,a,_⟩:=map.at' i Z _ _ (by rw[md hi,e]) (md (by rw[<-map.len];exact hi))
    obtain⟨_,o,ho⟩:=a.tagOf
    have:=(k4.old Z o ho).2
    rw[hZ]at this
    obtain⟨o',ho'⟩:=this
    cases ho'
   refine⟨_,rfl,some M,(h1.cell.keep k6 (by simp[rH,rL,rS]<;>omega)).cell1 st6.sep,?_⟩
   refine abu (k:=home) (h1.map.map.keep k6 (by simp[rH,rL,rS]<;>omega)) st6.sep aeY (als u9) fun I7 st7 m7=>?_
   have r7:=r6.keep st7 (by simp[rH,rL,rS]<;>omega)
   refine⟨_,rfl,_,(r7.read st7.sep).2.2 _ rfl 0 _ rfl,?_⟩
   have hh:pT tag5 I6 H home (aow (qP t home) nonce lease):=by
    refine⟨m,cs++[Z],r6,map.add hnk m6 hnc ⟨⟨none,0,0⟩,(r5.keep st6 (by simp[rH,rL,rS]<;>omega)),Row.nil 6 5⟩ fun i c k' x hc _ hx=>?_⟩
    refine hx.keep k6 ?_ (by simp[rH,rL,rS]<;>omega)
    simp only[mp,nj,or_false,not_or,rH,rL]
    exact⟨z7,z7,z7⟩
   have:=hQ true tag5 I7 (s1.trans ((k6.s (by simp[rH,rL,rS]<;>omega)).trans (st7.s y0)))
   rw[eo]at this
   exact this (fin _ _ _ _ hR k6 hh _ _ st7 m7)
  .-- one session of the house
   have hin:p∈kvP (qP t home).live cs:=hp4.mem_iff.1 y0
   obtain⟨pk,pv⟩:=p
   obtain⟨i,c,a,b1,b2,rfl⟩:=ap8 _ _ map.len pk pv hin
   have a4:=a1.trans st4
   obtain⟨dd,hrow,_⟩:=(map.at' i c pk a b1 b2).keep a4 (by simp[rH,rL,rS]<;>omega) y0
   refine⟨pk,some ⟨c,0,none⟩,rfl,_,rfl,a.nonce,(hrow.read st4.sep).2.2 _ rfl 2 _ rfl,?_⟩
   by_cases e:a.nonce=nonce
   .rw[mc e]
    rw[aud hok.non (mW b2) e]at eo
    have:=hQ false tag4 I4 (s1.trans (a4.s y0))
    rw[eo]at this
    exact this ⟨M,bs,h1.keepS (a4.s (C:=[0]) y0)⟩
   .rw[ma e]
    refine hY _ tag4 I4 (qd.refl st4.sep) ⟨a4,fun p' hp' i' c' s' c1 c2=>?_⟩
    rcases mv.1 hp' with h | h
    .exact a2 p' h i' c' s' c1 c2
    .rw[mr.1 h]at c2
     have:i'=i:=adB map.keys (i:=i') (j:=i) (x:=pk) (by rw[mh,c2];try rfl) (by rw[mh,b2];try rfl)
     subst this
     rw[b2]at c2;cases c2
     exact e
 refine⟨_,rfl,some M,h.cell.cell1 hs,?_⟩
 refine vn (k:=home) h.map.map hs aeY (als u9) apf ?_
 rcases h.map.look home with⟨g1,g2⟩ | ⟨i,b,x,hb,hp,g3,g4,hA⟩
 .rw[g2]
  refine⟨none,rfl,?_⟩
  rw[mc rfl]
  have eh:qP t home=⟨0,[]⟩:=by unfold qP;rw[g1];try rfl
  intro m hrom hm H hroH hH
  have hHm:H≠m:=fun e=>by rw[e,qE]at hH;cases hH
  have hH0:I H=none:=by rw[pW _ _ hHm]at hH;exact hH
  have st1:∀ R,qd R ro tag I (setTag tag m (rL H)) (upd I m (.map #[] 0)):=fun R=>qd.fresh hs hrom hm
  have m1:vm kI (setTag tag m (rL H)) (upd I m (.map #[] 0)) (rL H) m []:=⟨by simp[setTag],_,_,qE _ _ _,rfl,y0,y0⟩
  have st2:∀ R,qd R ro (setTag tag m (rL H)) (upd I m (.map #[] 0)) (setTag (setTag tag m (rL H)) H (rH H)) (upd (upd I m (.map #[] 0)) H (.cells #[.int .i64 0,.map (some m)] 254)):=fun R=>qd.fresh (st1 []).sep hroH hH
  have r2:Row (setTag (setTag tag m (rL H)) H (rH H)) (upd (upd I m (.map #[] 0)) H (.cells #[.int .i64 0,.map (some m)] 254)) (rH H) 254 ⟨some ⟨H,0,none⟩,2,2⟩ [vI 0,.map (some m)]:=
   .inr ⟨H,_,rfl,by simp[setTag],qE _ _ _,y0,rfl,mR _,fun i hi=>by simp⟩
  generalize (setTag (setTag tag m (rL H)) H (rH H))=tag2 at st2 r2⊢
  generalize (upd (upd I m (.map #[] 0)) H (.cells #[.int .i64 0,.map (some m)] 254))=I2 at st2 r2⊢
  have k2:StepS [] ro tag I tag2 I2:=((st1 []).trans (st2 [])).s y0
  have h2:za tag2 I2 T M bs t:=h.keepS k2 y0
  have hnb:H∉bs:=fun hm'=>by
   obtain⟨i,hi',e⟩:=ni hm'
   obtain⟨m',cs',row',_⟩:=h.map.at' i H _ _ (by rw[md hi',e]) (md (by rw[<-h.map.len];exact hi'))
   obtain⟨_,o,ho⟩:=row'.tagOf
   rw[hH0]at ho;cases ho
  refine key H m [] tag2 I2 (k2.mono y0) h2 (by rw[eh];exact r2) (by rw[eh];exact pc.nil (m1.keep (st2 []))) fun R tag3 I3 x' hR st hx tag4 I4 st4 m4=>?_
  refine⟨M,bs++[H],(h2.cell.keep st hR.r55).keep st4,h2.map.add g1 m4 hnb (hx.keepS (st4.s (C:=[55]) y0)) fun i b' k' y hb' _ hy=>?_⟩
  exact(hy.other st hR fun e=>hnb (by rw[<-e];exact mW hb')).keepS (st4.s (C:=[55]) y0)
 .rw[g4]
  refine⟨some ⟨b,0,none⟩,rfl,?_⟩
  rw[ma y0]
  have eh:qP t home=x:=by unfold qP;rw[g3];try rfl
  obtain⟨m,cs,row,map⟩:=hA
  rw[<-eh]at row map
  refine key b m cs tag I (StepS.refl hs) h row map fun R tag2 I2 x' hR st hx tag3 I3 st3 m3=>?_
  rw[aj0 g4]at m3
  have h2:=h.old st hR hb hp hx
  exact⟨M,bs,h2.cell.keep st3 (by simp[rH,rL,rS]<;>omega),h2.map.mono (by
   have e:kvP (wR t home x') bs=kvP t bs:=by rw[agz x' h.map.keys hp,amM _ _ _ _ _ _ hp]
   rw[e];exact m3) fun j c k' y _ _ hy=>hy.keepS (st3.s (C:=[55]) y0)⟩
abbrev nS:Sl:=⟨none,0,0⟩
def qz{l:List Value}{p:Addr}(h:SL.qJ ro I s l)(hp:s.a=some p):SL.qe ro I p 0 l:=zx 0 fun j v hv=>by rw[ml];exact h.2.2 p hp j v hv
structure ahc(tag:Nat->Nat)(I:AH)(W T Tt M:Nat)(ms:Sl)(Th:Nat):Prop where
 own:Row tag I 54 153 ⟨some ⟨W,0,none⟩,5,5⟩ [vI 0,Sl.v ms,ptr T,ptr Tt,ptr Th]
 mem:Row tag I 118 3 ms [vI 0,vI 1,vI 2]
 tree:wd tag I 10 T St.new
 tbl:Row tag I 55 242 ⟨some ⟨Tt,0,none⟩,1,1⟩ [.map (some M)]
 map:vm kS tag I 119 M []
abbrev CN:List Nat:=[0,10,54,55,62]
def apN{Q:ZO->Int->AH->Prop}(h:SL.qJ ro I s [vI 0,vI 1,vI 2])
  (hQ:∀ W T Tt M ms Th tag' I',StepS CN ro tag I tag' I'->ahc tag' I' W T Tt M ms Th->Q (some ⟨W,0,none⟩) 0 I'):abs B ro s I Q:=by
 refine aj2 fun hs=>?_
 unfold ae9
 refine asF h ?_
 rw[ma y0]
 refine ahb (tag:=tag) 118 h hs y1 (by simp[qg]) fun ms tag1 I1 st1 r1=>?_
 refine arY (tag:=tag1) 10 y1 y1 fun T tag2 I2 st2 t2=>?_
 refine ah5 fun hs2=>?_
 unfold adq
 refine ahR kS (tag:=tag2) 119 hs2 fun M tag3 I3 st3 m3=>?_
 refine qf (tag:=tag3) 55 (st3 []).sep fun Tt tag4 I4 st4 r4=>?_
 refine aj4 fun hs4=>?_
 unfold afa
 refine ahR kSI (tag:=tag4) 126 hs4 fun Mh tag5 I5 st5 m5=>?_
 refine qf (tag:=tag5) 62 (st5 []).sep fun Th tag6 I6 st6 r6=>?_
 refine qf (tag:=tag6) 54 (st6 []).sep fun W tag7 I7 st7 r7=>?_
 have k6:qd [] ro tag4 I4 tag7 I7:=((st5 []).trans (st6 [])).trans (st7 [])
 have k3:qd [] ro tag3 I3 tag7 I7:=(st4 []).trans k6
 have k2:qd [] ro tag2 I2 tag7 I7:=(st3 []).trans k3
 refine hQ W T Tt M ms Th tag7 I7 (((st1 []).s y0).trans ((st2.s y0).trans (k2.s y0))) ⟨r7,?_,t2.keep k2,r4.keep k6,m3.keep k3⟩
 exact(r1.keepC st2).keep k2
def ahc.keepS(h:ahc tag I W T Tt M ms Th)(k:StepS C ro tag I tag' I')(hC:54∉C/\55∉C/\10∉C/\6∉C:=by decide):ahc tag' I' W T Tt M ms Th:=
 ⟨h.own.keepS k hC.1,h.mem.keepS k hC.1,h.tree.keepS k hC.2.2.1 hC.2.2.2,h.tbl.keepS k hC.2.1,h.map.keepS k hC.2.1⟩
abbrev CA1:List Nat:=[0,2,3,4,5,10,55,56,57,58]
abbrev alz:List Value:=[.int .i64 0,.int .i64 1,Sl.v nS,.int .i64 0,Sl.v nS,.int .i64 0,.int .i64 0,.int .i64 0,.int .i64 0,Sl.v nS,Sl.v nS,.int .i64 0]
def auf:∀ v∈alz,qg v=true:=y1
def aug(g:ze ro)(h:ahc tag I W T Tt M ms Th)
  (hQ:∀ tag' I',StepS CA1 ro tag I tag' I'->Q 0 1 nS 0 nS 0 0 0 0 nS nS 0 I'):uI B ro (some ⟨W,0,none⟩) 1 ⟨#[97]⟩ 0 0 5 100 0 0 nS ByteArray.empty false 0 nS I Q:=by
 refine aeE fun hs=>?_
 unfold aab
 refine qf (tag:=tag) 3 hs fun X tag1 I1 st1 r1=>?_
 refine qf (tag:=tag1) 2 (st1 []).sep fun Y tag2 I2 st2 r2=>?_
 have k2:StepS CA1 ro tag I tag2 I2:=((st1 []).trans (st2 [])).s y0
 have h2:ahc tag2 I2 W T Tt M ms Th:=h.keepS (C:=[]) (((st1 []).trans (st2 [])).s y0) y0
 have c2:=r1.keep (st2 [])
 have hs2:=(st2 []).sep
 refine⟨⟨#[97]⟩,(c2.read hs2).2.2 _ rfl 1 _ rfl,y1,_,rfl,some ⟨T,0,none⟩,(h2.own.read hs2).2.2 _ rfl 2 _ rfl,?_⟩
 have hL:L ((⟨#[47]⟩:ZA)++⟨#[97]⟩)=[47,97]:=by decide
 obtain⟨MT,bsT,hT⟩:=h2.tree
 refine ajP (r:=10) g y1 y1 y1 hT (fun p n hp=>?_) (fun hp=>?_) (fun ps hp hl tag3 I3 st3=>?_) (fun n hn=>?_)
 .simp only[St.new,List.lookup]at hp
  split at hp
  .cases hp;simp
  .cases hp
 .rw[hL]at hp;exact mt hp y1
 rotate_left
 .rw[hL,show St.new.lookup [47,97]=none by decide]at hn;cases hn
 have h3:=h2.keepS (st3.s (C:=[0]) y0)
 have c3:=c2.keepC st3
 have y3:=r2.keepC st3
 refine qf (tag:=tag3) 5 st3.sep fun Z tag4 I4 st4 r4=>?_
 refine r4.stPre _ 0 _ I4 (st4 []).sep y0 (by simp[qg]) fun I5 st5 r5=>?_
 have k5:qd [5] ro tag3 I3 tag4 I5:=(st4 [5]).trans st5
 have h5:=h3.keepS (k5.s (C:=[5]) y0)
 have c5:=c3.keep k5
 have y5:=y3.keep k5
 have hs5:=st5.sep
 refine⟨⟨#[97]⟩,(c5.read hs5).2.2 _ rfl 1 _ rfl,?_⟩
 refine agf ?_
 refine⟨_,rfl,some ⟨Tt,0,none⟩,(h5.own.read hs5).2.2 _ rfl 3 _ rfl,⟨#[97]⟩,(c5.read hs5).2.2 _ rfl 1 _ rfl,5,(c5.read hs5).2.2 _ rfl 4 _ rfl,100,(c5.read hs5).2.2 _ rfl 5 _ rfl,?_⟩
 refine auc h5.tbl h5.map fun tag6 I6 st6=>?_
 rw[ma y0,mc ⟨y1,rfl⟩]
 have o6:=h5.own.keepS st6
 have t6:=h5.tree.keepS st6
 refine⟨_,rfl,some ⟨T,0,none⟩,(o6.read st6.sep).2.2 _ rfl 2 _ rfl,?_⟩
 refine ajH (r:=10) (d:=[]) g y1 y1 y1 t6 ⟨rfl,fun _=>rfl,fun p hp=>by cases hp⟩ y1 fun tag7 I7 st7 t7=>?_
 unfold zz
 have y7:=(y5.keepS st6).keepC st7
 refine y7.stPre alz 0 _ I7 st7.sep y1 auf fun I8 st8 y8=>?_
 have y9:Row tag7 I8 2 _ ⟨some ⟨Y,0,none⟩,12,12⟩ alz:=y8
 refine⟨_,_,_,_,_,_,_,_,_,_,_,_,qz (y9.read st8.sep) rfl,?_⟩
 exact hQ tag7 I8 (k2.trans ((st3.s y0).trans ((k5.s y0).trans ((st6.mono y1).trans ((st7.s y0).trans (st8.s y0))))))
abbrev CB:List Nat:=[0,2,3,4,5,10,12,55,56,57,58]
def asG(g:ze ro)(h:ahc tag I W T Tt M ms Th)
  (hQ:∀ tag' I',StepS CB ro tag I tag' I'->Q 0 1 nS 0 nS 0 0 0 0 nS nS 0 I'):xv B ro (some ⟨W,0,none⟩) 1 ⟨#[97]⟩ 0 0 5 100 0 0 nS ByteArray.empty false 0 nS I Q:=by
 refine aeA fun hs=>?_
 unfold uo
 refine qf (tag:=tag) 4 hs fun X tag1 I1 st1 r1=>?_
 refine qf (tag:=tag1) 12 (st1 []).sep fun Y tag2 I2 st2 r2=>?_
 have k2:qd [] ro tag I tag2 I2:=(st1 []).trans (st2 [])
 have h2:ahc tag2 I2 W T Tt M ms Th:=h.keepS (C:=[]) (k2.s y0) y0
 have c2:=r1.keep (st2 [])
 have hs2:=(st2 []).sep
 refine⟨1,(c2.read hs2).2.2 _ rfl 0 _ rfl,?_⟩
 rw[mc rfl]
 refine⟨_,_,_,_,_,_,_,_,_,_,_,_,_,qz (c2.read hs2) rfl,?_⟩
 refine aug g h2 fun tag3 I3 st3=>?_
 have y3:=r2.keepS st3
 refine y3.stPre alz 0 _ I3 st3.sep y0 auf fun I4 st4 y4=>?_
 have y5:Row tag3 I4 12 _ ⟨some ⟨Y,0,none⟩,12,12⟩ alz:=y4
 refine⟨_,_,_,_,_,_,_,_,_,_,_,_,qz (y5.read st4.sep) rfl,?_⟩
 exact hQ tag3 I4 ((k2.s y0).trans ((st3.mono y1).trans (st4.s y0)))
end Zt
namespace SL
open Go
variable{ro I I':AH}{tag tag':Nat->Nat}{L:List Nat}
def akt:join (inR tag L I) (zE tag L I)=I:=by
 funext c;unfold join inR zE
 by_cases e:tag c∈L
 .simp only[e,if_true];cases I c<;>rfl
 .simp[e]
def vm.backR{κ:Type}{enc:κ->ZC}{tag1:Nat->Nat}{τ:AH}{r b:Nat}{m:List (κ×ZC)}(h:vm enc tag1 τ r b m)(hd:qL (inR tag L I) τ):vm enc (tagB tag tag1 L I) (join (inR tag L I) τ) r b m:=by
 obtain⟨es,clock,hb,x⟩:=h.obj
 have hn:inR tag L I b=none:=by
  cases e:inR tag L I b with
  | none=>rfl
  | some o=>have:=hd b o e;rw[hb]at this;cases this
 exact⟨by rw[aeN hn];exact h.tg,es,clock,by unfold join;rw[hn];exact hb,x⟩
end SL
namespace Zt
open Go SL G Pa Wi
variable{B:ZB}{ro I I':AH}{tag tag':Nat->Nat}
variable{beats req:Int}{Q:Int->AH->Prop}{C L cs:List Nat}{X b b0 c i j m:Nat}{hh:xL}{s:yf}
def auh:qp prog 249 (.pointer none) 1 8:=qp.of j0
def qv(h:∀ R,qd R ro tag I tag' I'):StepS C ro tag I tag' I':=(h []).s y0
def za.fresh{T M:Nat}{bs:List Nat}{t:Tbl}(h:za tag I T M bs t)(k:∀ R,qd R ro tag I tag' I'):za tag' I' T M bs t:=h.keepS (qv (C:=[]) k) y0
section
variable{T M:Nat}{bs:List Nat}{t:Tbl}{home:Str}{n:Int}
def agO{Q:ZO->Int->AH->Prop}(h:za tag I T M bs t)
  (hno:∀ e,xM t (home,n)=(e,none)->e≠0->∀ tag' I',(∀R,qd R ro tag I tag' I')->za tag' I' T M bs t->Q none e I')
  (hit:∀ i b hh m cs j c s tag' I',(∀R,qd R ro tag I tag' I')->za tag' I' T M bs t->aba tag' I' bs t home n i b hh m cs j c s->Q (some ⟨c,0,none⟩) 0 I'):vP B ro (some ⟨T,0,none⟩) (S home) n I Q:=by
 refine ah6 fun hs=>?_
 unfold abf
 refine qf (tag:=tag) 0 hs fun X tag1 I1 st1 r1=>?_
 have h1:=h.fresh st1
 have hs1:=(st1 []).sep
 have g1:=(r1.read hs1).2.2 _ rfl
 refine⟨_,rfl,some M,h1.cell.cell1 hs1,S home,g1 0 _ rfl,?_⟩
 refine vn (k:=home) h1.map.map hs1 aeY (als u9) apf ?_
 rcases h1.map.look home with⟨a1,a2⟩ | ⟨i,b,hh,hb,hp,a3,a4,m,cs,row,map⟩
 .rw[a2]
  refine⟨none,rfl,?_⟩
  rw[mc rfl]
  unfold zQ
  rw[mc rfl]
  exact hno 150 (by unfold xM;rw[a1]) y1 tag1 I1 st1 h1
 .rw[a4]
  refine⟨some ⟨b,0,none⟩,rfl,?_⟩
  rw[ma y0]
  have e150:(n<1\/hh.last<n)->xM t (home,n)=(150,none):=fun c=>by unfold xM;rw[a3];simp only;rw[mc c]
  refine⟨n,g1 1 _ rfl,?_⟩
  by_cases c1:n<1
  .rw[mc c1]
   unfold zQ
   rw[mc rfl]
   exact hno 150 (e150 (.inl c1)) y1 tag1 I1 st1 h1
  rw[ma c1]
  have gr:=(row.read hs1).2.2 _ rfl
  refine⟨_,rfl,n,g1 1 _ rfl,hh.last,gr 0 _ rfl,?_⟩
  unfold zQ
  by_cases c2:hh.last<n
  .rw[mc (j4 c2)]
   exact hno 150 (e150 (.inr c2)) y1 tag1 I1 st1 h1
  rw[ma (j4 c2)]
  refine⟨_,rfl,some m,gr 1 _ rfl,n,g1 1 _ rfl,?_⟩
  refine vn (k:=n) map.map hs1 afb (am4 u3') auh ?_
  rcases map.look n with⟨k1,k2⟩ | ⟨j,c,s,hc,hq,k3,k4,hA⟩
  .rw[k2]
   refine⟨none,rfl,?_⟩
   rw[mc rfl]
   exact hno 151 (by unfold xM;rw[a3];simp only;rw[ma z7,k1]) y1 tag1 I1 st1 h1
  .rw[k4]
   refine⟨some ⟨c,0,none⟩,rfl,?_⟩
   rw[ma y0]
   refine⟨_,rfl,some m,gr 1 _ rfl,n,g1 1 _ rfl,?_⟩
   refine vn (k:=n) map.map hs1 afb (am4 u3') auh ?_
   rw[k4]
   exact⟨_,rfl,hit i b hh m cs j c s tag1 I1 st1 h1 ⟨hb,hp,row,map,hc,hq,⟨z7,z7⟩⟩⟩
def asH{Q:Sl->Bool->Int->AH->Prop}(h:za tag I T M bs t)(hi:vV b0 t)
  (hQ:∀ s tag' I',(∀R,qd R ro tag I tag' I')->Row tag' I' 6 5 s ((zu t (home,n) req).1.map vU)->Q s (zu t (home,n) req).2.1 (zu t (home,n) req).2.2 I'):aaC B ro (some ⟨T,0,none⟩) (S home) n req I Q:=by
 refine ahH fun hs=>?_
 unfold aaR
 refine qf (tag:=tag) 0 hs fun X tag1 I1 st1 r1=>?_
 have hs1:=(st1 []).sep
 refine⟨S home,n,qz (r1.read hs1) rfl,?_⟩
 refine agO (h.fresh st1) (fun e he hne tag2 I2 st2 _=>?_) fun i b hh m cs j c s tag2 I2 st2 h2 f=>?_
 .rw[mc (j4 hne)]
  have:=hQ ⟨none,0,0⟩ tag2 I2 fun R=>(st1 R).trans (st2 R)
  unfold zu at this
  rw[he]at this
  exact this (Row.nil 6 5)
 .rw[ma y0]
  have k2:∀ R,qd R ro tag I tag2 I2:=fun R=>(st1 R).trans (st2 R)
  have ef:=(f.look h2).2.2
  have hs2:=(st2 []).sep
  refine aau fun _=>?_
  unfold yh
  show(if¬(okN req=true)then _ else _)
  cases h3:okN req with
  | false=>
   rw[mc y0]
   have:=hQ ⟨none,0,0⟩ tag2 I2 k2
   unfold zu at this
   rw[ef]at this
   simp only at this
   rw[mc h3]at this
   exact this (Row.nil 6 5)
  | true=>
  rw[ma y0]
  obtain⟨d,row,rd⟩:=f.sess
  have gs:=(row.read hs2).2.2 _ rfl
  refine⟨_,rfl,s.req,gs 5 _ rfl,?_⟩
  by_cases c1:req=s.req
  .rw[mc c1]
   refine⟨_,rfl,d,gs 6 _ rfl,?_⟩
   have hl:s.reply.length<=1048576:=(ahZ hi ef).reply
   refine acg (tag:=tag2) (rd.read hs2) hs2 (by simp[rH,rL,rS]<;>omega) (by simp[qg,vU]) fun s' tag3 I3 st3 r3=>?_
   have:=hQ s' tag3 I3 fun R=>(k2 R).trans (st3 R)
   unfold zu at this
   rw[ef]at this
   simp only at this
   rw[ma (by simp[h3]),mc c1]at this
   exact this r3
  rw[ma c1]
  refine⟨_,rfl,s.req,gs 5 _ rfl,?_⟩
  have:=hQ ⟨none,0,0⟩ tag2 I2 k2
  unfold zu at this
  rw[ef]at this
  simp only at this
  rw[ma (by simp[h3]),ma c1]at this
  by_cases c2:req<s.req
  .rw[mc c2]at this⊢
   exact this (Row.nil 6 5)
  .rw[ma c2]at this⊢
   exact this (Row.nil 6 5)
def avB{a3:Sl}{d:Str}(h:za tag I T M bs t)(hd:SL.qJ ro I a3 (d.map vU))(hl:d.length<=140737488355328)
  (hQ:∀ tag' I',StepS [58] ro tag I tag' I'->za tag' I' T M bs (acV t (home,n) req d).1->Q (acV t (home,n) req d).2 I'):ui B ro (some ⟨T,0,none⟩) (S home) n req a3 I Q:=by
 refine ai2 fun hs=>?_
 unfold abJ
 refine qf (tag:=tag) 0 hs fun X tag1 I1 st1 r1=>?_
 have hs1:=(st1 []).sep
 refine⟨S home,n,qz (r1.read hs1) rfl,?_⟩
 refine agO (h.fresh st1) (fun e he hne tag2 I2 st2 h2=>?_) fun i b hh m cs j c s tag2 I2 st2 h2 f=>?_
 .rw[mc (j4 hne)]
  have:=hQ tag2 I2 (qv fun R=>(st1 R).trans (st2 R))
  unfold acV at this
  rw[he]at this
  exact this h2
 .rw[ma y0]
  have k2:∀ R,qd R ro tag I tag2 I2:=fun R=>(st1 R).trans (st2 R)
  have ef:=(f.look h2).2.2
  have hs2:=(st2 []).sep
  have q2:=hQ tag2 I2 (qv k2)
  unfold acV at q2
  rw[ef]at q2
  simp only at q2
  refine aau fun _=>?_
  unfold yh
  show(if¬(okN req=true)then _ else _)
  cases h3:okN req with
  | false=>
   rw[mc y0]
   rw[mc h3]at q2
   exact q2 h2
  | true=>
  rw[ma y0]
  rw[ma (by simp[h3])]at q2
  obtain⟨ds,row,rd⟩:=f.sess
  have gs:=(row.read hs2).2.2 _ rfl
  refine⟨_,rfl,s.req,gs 5 _ rfl,?_⟩
  by_cases c1:req<=s.req
  .rw[mc c1]at q2⊢
   exact q2 h2
  rw[ma c1]
  have hd2:SL.qJ ro I2 a3 (d.map vU):=hd.step (k2 [])
  refine acg (tag:=tag2) hd2 hs2 (by simp[rH,rL,rS]<;>omega) (by simp[qg,vU]) fun s' tag3 I3 st3 r3=>?_
  have row3:=row.keep (st3 [])
  have hs3:=(st3 []).sep
  refine⟨_,rfl,?_⟩
  refine row3.stAt [.int .i64 req] 5 hs3 y0 (by simp[qg]) fun I4 st4 r4=>?_
  refine⟨_,rfl,?_⟩
  refine Row.stAt [Sl.v s'] 6 r4 st4.sep y0 (by simp[qg,Sl.v]) fun I5 st5 r5=>?_
  have k5:qd [rS b c] ro tag3 I3 tag3 I5:=st4.trans st5
  have h3':=h2.fresh st3
  have f3:aba tag3 I3 bs t home n i b hh m cs j c s:=⟨f.hb,f.hp,f.row.keep (st3 []),f.map.mono (f.map.map.keep (st3 [])) fun _ c' k' x _ _ hx=>hx.keep (st3 []),f.hc,f.hq,f.rng⟩
  have h5:=h3'.setS (s':={s with req:=req,reply:=d}) f3 k5 ⟨s',r5,r3.keep k5 (by simp[rH,rL,rS]<;>omega)⟩
  have:=hQ tag3 I5 ((qv fun R=>(k2 R).trans (st3 R)).trans (k5.s (by simp[rH,rL,rS]<;>omega)))
  unfold acV at this
  rw[ef]at this
  simp only at this
  rw[ma (by simp[h3]),ma c1]at this
  exact this h5
def za.outR(h:za tag I T M bs t)(hL:∀ x∈L,x%64∉[55,56,57,58,6]):za tag (SL.zE tag L I) T M bs t:=by
 have no:∀ x,x%64∈[55,56,57,58,6]->x∉L:=fun x hx hm=>hL x hm hx
 refine⟨h.cell.outR (no 55 y1),h.map.mono (h.map.map.outR (no 119 y1)) fun _ b k' x _ _ hx=>?_⟩
 obtain⟨m,cs,row,map⟩:=hx
 refine⟨m,cs,row.outR (no _ (by rw[show(56+64*(b+2))%64=56 by omega];decide)),map.mono (map.map.outR (no _ (by rw[show(57+64*(b+2))%64=57 by omega];decide))) fun _ c n' s _ _ hx=>?_⟩
 obtain⟨d,r1,r2⟩:=hx
 exact⟨d,r1.outR (no _ (by rw[show(58+64*(pr b c+2))%64=58 by omega];decide)),r2.outR (no 6 y1)⟩
def za.backR{tag1:Nat->Nat}{τ:AH}(h:za tag1 τ T M bs t)(hd:qL (inR tag L I) τ):za (tagB tag tag1 L I) (join (inR tag L I) τ) T M bs t:=by
 refine⟨h.cell.backR hd,h.map.mono (h.map.map.backR hd) fun _ b k' x _ _ hx=>?_⟩
 obtain⟨m,cs,row,map⟩:=hx
 refine⟨m,cs,row.backR hd,map.mono (map.map.backR hd) fun _ c n' s _ _ hx=>?_⟩
 obtain⟨d,r1,r2⟩:=hx
 exact⟨d,r1.backR hd,r2.backR hd⟩
def aba.outR(f:aba tag I bs t home n i b hh m cs j c s)(hL:∀ x∈L,x%64∉[55,56,57,58,6]):aba tag (SL.zE tag L I) bs t home n i b hh m cs j c s:=by
 have no:∀ x,x%64∈[55,56,57,58,6]->x∉L:=fun x hx hm=>hL x hm hx
 refine⟨f.hb,f.hp,f.row.outR (no _ (by rw[show(56+64*(b+2))%64=56 by omega];decide)),f.map.mono (f.map.map.outR (no _ (by rw[show(57+64*(b+2))%64=57 by omega];decide))) fun _ c' n' s' _ _ hx=>?_,f.hc,f.hq,f.rng⟩
 obtain⟨d,r1,r2⟩:=hx
 exact⟨d,r1.outR (no _ (by rw[show(58+64*(pr b c'+2))%64=58 by omega];decide)),r2.outR (no 6 y1)⟩
def amj(hA:za tag I T M bs t)(fA:aba tag I bs t home n i b hh m cs j c s):qj (kvP t bs) home=some (afJ b):=by
 rcases hA.map.look home with⟨a1,_⟩ | ⟨i',b',hh',hb,hp,_,a4,_⟩
 .rw[(fA.look hA).1]at a1;cases a1
 .have:i'=i:=adB hA.map.keys (i:=i') (j:=i) (x:=home) (by rw[mh,hp];try rfl) (by rw[mh,fA.hp];try rfl)
  subst this
  rw[fA.hb]at hb;cases hb
  exact a4
def asI(f:aba tag I bs t home n i b hh m cs j c s):qj (kvP hh.live cs) n=some (afJ c):=by
 rcases f.map.look n with⟨a1,_⟩ | ⟨i',c',s',hb,hp,_,a4,_⟩
 .rw[ale f.map.keys (mW f.hq)]at a1;cases a1
 .have:i'=j:=adB f.map.keys (i:=i') (j:=j) (x:=n) (by rw[mh,hp];try rfl) (by rw[mh,f.hq];try rfl)
  subst this
  rw[f.hc]at hb;cases hb
  exact a4
def aqt{Q:AH->Prop}(h:za tag I T M bs t)(hs:SL.Sep ro I)(f:aba tag I bs t home n i b hh m cs j c s)(r1:Row tag I 0 81 ⟨some ⟨X,0,none⟩,2,2⟩ [.string (S home),.int .i64 n])
  (hQ:∀ tag' I',StepS [57] ro tag I tag' I'->za tag' I' T M bs (adL t (home,n))->Q I'):
  jX I fun ψ I=>
   ∃p17_5:Addr,(some ⟨T,0,none⟩:ZO)=some p17_5/\
   ∃(x27_6:Int),qa (join ro ψ) (fun _=>none) ((⟨X,0,none⟩:Addr).add 1)=some (.int .i64 x27_6)/\
   ∃(x19_7:Option Nat),qa (join ro ψ) I p17_5=some (.map x19_7)/\
   ∃(x21_8:ZA),qa (join ro ψ) I ⟨X,0,none⟩=some (.string x21_8)/\
   awp prog (join ro ψ) (Instr.lookup 240 (.map x19_7) (.string x21_8) false) (fun v I=>
    (∃(x22_9:ZO),v= .pointer x22_9/\
    ∃p23_10:Addr,x22_9=some p23_10/\
    ∃(x25_11:Option Nat),qa (join ro ψ) I (p23_10.add 1)=some (.map x25_11)/\
    awp prog (join ro ψ) (Builtin.delete_ #[252,3] 0 #[.map x25_11,.int .i64 x27_6]) (fun v I=>v= .tuple #[]/\
     (qL ψ I->(fun I=>Q I) (join ψ I))) I)) I:=by
 refine yl tag [0] ?_
 have hL:∀ x∈[0],x%64∉[55,56,57,58,6]:=by simp
 have hsA:SL.Sep (join ro (SL.inR tag [0] I)) (SL.zE tag [0] I):=hs.lentR
 have hA:=h.outR hL
 have fA:=f.outR hL
 have rX:∀ {i v} τ,([Value.string (S home),.int .i64 n]:List Value)[i]?=some v->qa (join ro (SL.inR tag [0] I)) τ ((⟨X,0,none⟩:Addr).add i)=some v:=fun τ hv=>r1.lendR hs y0 rfl hv
 refine⟨_,rfl,n,rX (i:=1) _ rfl,some M,hA.cell.cell1 hsA,S home,rX (i:=0) _ rfl,?_⟩
 refine vn (k:=home) hA.map.map hsA aeY (als u9) apf ?_
 rw[amj hA fA]
 refine⟨_,rfl,_,rfl,some m,(fA.row.read hsA).2.2 _ rfl 1 _ rfl,?_⟩
 refine ahu (k:=n) fA.map.map hsA afb (am4 u3') fun I2 st2 m2=>?_
 refine⟨rfl,fun hd=>?_⟩
 have k2:=(st2.s (C:=[57]) (by simp[rH,rL,rS]<;>omega)).backR hs hd
 exact hQ _ _ k2 ((hA.delS fA st2 m2).backR hd)
def asJ(h:za tag I T M bs t)(hQ:∀ tag' I',StepS [57] ro tag I tag' I'->za tag' I' T M bs (yz t (home,n)).1->Q (yz t (home,n)).2 I'):aaD B ro (some ⟨T,0,none⟩) (S home) n I Q:=by
 refine ahI fun hs=>?_
 unfold aaS
 refine qf (tag:=tag) 0 hs fun X tag1 I1 st1 r1=>?_
 have hs1:=(st1 []).sep
 refine⟨S home,n,qz (r1.read hs1) rfl,?_⟩
 refine agO (h.fresh st1) (fun e he hne tag2 I2 st2 h2=>?_) fun i b hh m cs j c s tag2 I2 st2 h2 f=>?_
 .rw[mc (j4 hne)]
  have:=hQ tag2 I2 (qv fun R=>(st1 R).trans (st2 R))
  unfold yz at this
  rw[he]at this
  exact this h2
 .rw[ma y0]
  refine aqt (Q:=fun I=>Q 0 I) h2 (st2 []).sep f (r1.keep (st2 [])) fun tag3 I3 st3 h3=>?_
  have:=hQ tag3 I3 ((qv fun R=>(st1 R).trans (st2 R)).trans st3)
  unfold yz at this
  rw[(f.look h2).2.2]at this
  exact this h3
def arq{Q:Bool->AH->Prop}(h:za tag I T M bs t)(hQ:∀ tag' I',StepS [57] ro tag I tag' I'->za tag' I' T M bs (vu t (home,n) beats).1->Q (vu t (home,n) beats).2 I'):aag B ro (some ⟨T,0,none⟩) (S home) n beats I Q:=by
 refine agT fun hs=>?_
 unfold aan
 refine qf (tag:=tag) 0 hs fun X tag1 I1 st1 r1=>?_
 have hs1:=(st1 []).sep
 refine⟨S home,n,qz (r1.read hs1) rfl,?_⟩
 refine agO (h.fresh st1) (fun e he hne tag2 I2 st2 h2=>?_) fun i b hh m cs j c s tag2 I2 st2 h2 f=>?_
 .rw[mc (j4 hne)]
  unfold vK
  rw[mc rfl]
  have:=hQ tag2 I2 (qv fun R=>(st1 R).trans (st2 R))
  unfold vu at this
  rw[he]at this
  exact this h2
 .rw[ma y0]
  have hs2:=(st2 []).sep
  obtain⟨ds,row,rd⟩:=f.sess
  refine⟨_,rfl,s.beats,(row.read hs2).2.2 _ rfl 4 _ rfl,?_⟩
  unfold vK
  have ef:=(f.look h2).2.2
  by_cases c1:s.beats=beats
  .rw[ma (by simp[c1])]
   refine aqt (Q:=fun I=>Q true I) h2 hs2 f (r1.keep (st2 [])) fun tag3 I3 st3 h3=>?_
   have:=hQ tag3 I3 ((qv fun R=>(st1 R).trans (st2 R)).trans st3)
   unfold vu at this
   rw[ef]at this
   simp only at this
   rw[mc c1]at this
   exact this h3
  .rw[mc (by simp[c1])]
   have:=hQ tag2 I2 (qv fun R=>(st1 R).trans (st2 R))
   unfold vu at this
   rw[ef]at this
   simp only at this
   rw[ma c1]at this
   exact this h2
def asK{r:Nat}(h:za tag I T M bs t)(hi:vV b0 t)(hb0:b0<=33554433)(hr:r%64≠58)(hk:Row tag I r 81 ⟨some ⟨X,0,none⟩,2,2⟩ [.string (S home),.int .i64 n])
  (hQ:∀ tag' I',StepS [58] ro tag I tag' I'->za tag' I' T M bs (aaL t (home,n)).1->Q (aaL t (home,n)).2 I'):aaE B ro (some ⟨T,0,none⟩) ⟨some ⟨X,0,none⟩,1,1⟩ I Q:=by
 refine ahJ fun hs=>?_
 unfold aaT
 refine lfpD.intro ?_
 generalize hY:lfpD (xf B ro (some ⟨T,0,none⟩) ⟨some ⟨X,0,none⟩,1,1⟩ Q)=Y
 unfold xf
 rw[mc y0]
 refine⟨_,rfl,y0,y0,S home,n,?_,?_⟩
 .exact qz (hk.read hs) rfl
 refine kz (tag:=tag) 0 hs rfl (by simp[qg]) fun K tag1 I1 st1 r1=>?_
 refine⟨S home,n,qz (r1.read (st1 []).sep) rfl,?_⟩
 refine agO (h.fresh st1) (fun e he hne tag2 I2 st2 h2=>?_) fun i b hh m cs j c s tag2 I2 st2 h2 f=>?_
 .rw[mc (j4 hne)]
  have:=hQ tag2 I2 (qv fun R=>(st1 R).trans (st2 R))
  unfold aaL at this
  rw[he]at this
  exact this h2
 .rw[ma y0]
  have k2:∀ R,qd R ro tag I tag2 I2:=fun R=>(st1 R).trans (st2 R)
  have hk2:=hk.keep (k2 [])
  rw[show i64.wrap (0+1)=1 from rfl,<-hY]
  refine lfpD.intro ?_
  unfold xf
  rw[ma y0]
  unfold yr
  refine lfpD.intro ?_
  generalize hZ:lfpD (xI B ro (some ⟨T,0,none⟩) ⟨some ⟨X,0,none⟩,1,1⟩ Q)=Z
  unfold xI
  rw[mc y0]
  refine⟨_,rfl,y0,y0,S home,n,qz (hk2.read (st2 []).sep) rfl,?_⟩
  refine kz (tag:=tag2) 0 (st2 []).sep rfl (by simp[qg]) fun K2 tag3 I3 st3 r3=>?_
  have k3:∀ R,qd R ro tag I tag3 I3:=fun R=>(k2 R).trans (st3 R)
  have hs3:=(st3 []).sep
  have h3:=h2.fresh st3
  have f3:aba tag3 I3 bs t home n i b hh m cs j c s:=⟨f.hb,f.hp,f.row.keep (st3 []),f.map.mono (f.map.map.keep (st3 [])) fun _ c' k' x _ _ hx=>hx.keep (st3 []),f.hc,f.hq,f.rng⟩
  refine yl tag3 [0] ?_
  have hL:∀ x∈[0],x%64∉[55,56,57,58,6]:=by simp
  have hsA:SL.Sep (join ro (SL.inR tag3 [0] I3)) (SL.zE tag3 [0] I3):=hs3.lentR
  have hA:=h3.outR hL
  have fA:=f3.outR hL
  have rX:∀ {i v} τ,([Value.string (S home),.int .i64 n]:List Value)[i]?=some v->qa (join ro (SL.inR tag3 [0] I3)) τ ((⟨K2,0,none⟩:Addr).add i)=some v:=fun τ hv=>r3.lendR hs3 y0 rfl hv
  refine⟨_,rfl,n,rX (i:=1) _ rfl,some M,hA.cell.cell1 hsA,S home,rX (i:=0) _ rfl,?_⟩
  refine vn (k:=home) hA.map.map hsA aeY (als u9) apf ?_
  rw[amj hA fA]
  refine⟨_,rfl,_,rfl,some m,(fA.row.read hsA).2.2 _ rfl 1 _ rfl,fun hd=>?_⟩
  rw[akt]
  refine vn (k:=n) f3.map.map hs3 afb (am4 u3') auh ?_
  rw[asI f3]
  obtain⟨ds,row,rd⟩:=f3.sess
  refine⟨_,rfl,_,rfl,s.beats,(row.read hs3).2.2 _ rfl 4 _ rfl,_,rfl,?_⟩
  have hbe:=(ahZ hi (f.look h2).2.2).beats
  rw[show i64.wrap (s.beats+1)=s.beats+1 from SL.qY z7 z7]
  refine row.stAt [.int .i64 (s.beats+1)] 4 hs3 y0 (by simp[qg]) fun I4 st4 r4=>?_
  rw[show i64.wrap (0+1)=1 from rfl,<-hZ]
  refine lfpD.intro ?_
  unfold xI
  rw[ma y0]
  unfold yq
  have h4:=h3.setS (s':={s with beats:=s.beats+1}) f3 st4 ⟨ds,r4,rd.keep st4 (by simp[rH,rL,rS]<;>omega)⟩
  have:=hQ tag3 I4 ((qv k3).trans (st4.s (by simp[rH,rL,rS]<;>omega)))
  unfold aaL at this
  rw[(f.look h2).2.2]at this
  exact this h4
end
end Zt
namespace Zt
open Go SL G Pa Wi
variable{B:ZB}{ro I I':AH}{tag tag':Nat->Nat}
variable{Q:AH->Prop}{kind:Int}
def afu:prog.underlying 243=some (.map 81 305):=j0
def aj8:prog.underlying 308=some (.map 314 3):=j0
def aui:prog.underlying 28=some (.slice 132):=j0
def apg:qp prog 305 (.pointer none) 1 8:=qp.of j0
def ai3:SI prog 81:=⟨⟨_,_,mH,j0,rfl,j0,rfl,y1,y1⟩,j0⟩
def amk:SI prog 314:=⟨⟨_,_,nL,j0,rfl,j0,rfl,y1,y1⟩,j0⟩
section
variable{T M:Nat}{bs:List Nat}{h:Hub}{k:Str×Int}
def zd.fresh(hi:zd tag I T M bs h)(st:∀ R,qd R ro tag I tag' I'):zd tag' I' T M bs h:=hi.keepS (qv (C:=[]) st) y0
abbrev kV(k:Str×Int):List Value:=[.string (S k.1),.int .i64 k.2]
def axf(k:Str×Int):∀ v∈kV k,qg v=true:=by simp[qg]
def auj{X r:Nat}(hi:zd tag I T M bs h)(hk:Row tag I r 81 ⟨some ⟨X,0,none⟩,2,2⟩ (kV k))(hQ:∀ bs' tag' I',StepS [62] ro tag I tag' I'->zd tag' I' T M bs' (jt h k)->Q I'):adv B ro (some ⟨T,0,none⟩) ⟨some ⟨X,0,none⟩,1,1⟩ I Q:=by
 refine akK fun hs=>?_
 unfold adS
 refine lfpD.intro ?_
 generalize hY:lfpD (pq B ro (some ⟨T,0,none⟩) ⟨some ⟨X,0,none⟩,1,1⟩ Q)=Y
 unfold pq
 rw[mc y0]
 refine⟨_,rfl,y0,y0,S k.1,k.2,qz (hk.read hs) rfl,?_⟩
 refine kz (tag:=tag) 0 hs rfl (axf k) fun K tag1 I1 st1 r1=>?_
 have h1:=hi.fresh st1
 have hs1:=(st1 []).sep
 refine⟨_,rfl,some M,h1.cell.cell1 hs1,S k.1,k.2,qz (r1.read hs1) rfl,?_⟩
 refine ahu (k:=k) h1.map.map hs1 afu (aew ai3) fun I2 st2 m2=>⟨rfl,?_⟩
 rw[show i64.wrap (0+1)=1 from rfl,<-hY]
 refine lfpD.intro ?_
 unfold pq
 rw[ma y0]
 obtain⟨bs',h2⟩:=h1.gone st2 m2
 exact hQ bs' tag1 I2 ((qv st1).trans (st2.s y0)) h2
def avC{b m:Nat}{s:Sl}{d:xR}{x:Str}(row:Row tag I (rD b) 310 ⟨some ⟨b,0,none⟩,4,4⟩ [Sl.v s,vI d.acked,vI d.last,.map (some m)])(ev:ql tag I (rE b) 132 3 s (d.events.map evV))(hs:SL.Sep ro I)(hl:d.events.length<=1048576)(h0:0<=d.last)(h1:d.last<=1099511627776)
  (hQ:∀ s' tag' I',qd [rD b,rE b] ro tag I tag' I'->Row tag' I' (rD b) 310 ⟨some ⟨b,0,none⟩,4,4⟩ [Sl.v s',vI d.acked,vI (am1 d kind x).last,.map (some m)]->ql tag' I' (rE b) 132 3 s' ((am1 d kind x).events.map evV)->Q I'):acN B ro (some ⟨b,0,none⟩) kind (S x) I Q:=by
 refine aj7 fun _=>?_
 unfold acZ
 have g0:=(row.read hs).2.2 _ rfl
 refine⟨_,rfl,d.last,g0 2 _ rfl,_,rfl,?_⟩
 rw[SL.qY z7 z7]
 refine row.stAt [vI (d.last+1)] 2 hs y0 (by simp[qg]) fun I1 st1 r1=>?_
 have g1:=(r1.read st1.sep).2.2 _ rfl
 refine⟨_,rfl,_,rfl,s,g1 0 _ rfl,d.last+1,g1 2 _ rfl,?_⟩
 refine qf (tag:=tag) 0 st1.sep fun E tag2 I2 st2 r2=>?_
 have hs2:=(st2 []).sep
 have ev2:=(ev.keep st1 (by simp[rD,rM,rE]<;>omega)).keep (st2 [])
 refine jn (l2:=[evV (d.last+1,kind,x)]) ev2 hs2 (Row.readW1 r2 hs2 rfl y1) aui ark rfl (by simp[evV,qg]) (by simp[rD,rM,rE]<;>omega) y1 fun s' tag3 I3 st3 r3=>?_
 have st3':=st3 [rE b] (.inr y0)
 have row3:=(Row.keep r1 (st2 [])).keep st3' (by simp[rD,rM,rE]<;>omega)
 refine⟨s',rfl,_,rfl,?_⟩
 refine Row.stPre [Sl.v s'] 0 _ I3 row3 st3'.sep y0 (by simp[qg,Sl.v]) fun I4 st4 r4=>?_
 refine hQ s' tag3 I4 (((st1.mono y0).trans (st2 _)).trans ((st3'.mono y0).trans (st4.mono y0))) r4 ?_
 have:=ql.keep r3 st4 (by simp[rD,rM,rE]<;>omega)
 unfold am1
 simpa using this
def alA{b0:Nat}{m:kN}{Q:Int->AH->Prop}(hi:zd tag I T M bs h)(hok:ku b0 h)(hb0:b0<=33554433)
  (hQ:∀ n tag' I',StepS [0,59,60,61] ro tag I tag' I'->zd tag' I' T M bs (yS h m kind)->Q n I'):pY B ro (some ⟨T,0,none⟩) (S m.1) m.2 kind I Q:=by
 refine akM fun hs=>?_
 unfold adU
 refine qf (tag:=tag) 32 hs fun X tag1 I1 st1 r1=>?_
 have hs1:=(st1 []).sep
 have h1:=hi.fresh st1
 refine⟨_,rfl,some M,h1.cell.cell1 hs1,?_⟩
 have inRl:∀ x,x∈(bs.flatMap fun b=>[rD b,rM b,rE b])->∃ b∈bs,x=rD b\/x=rM b\/x=rE b:=fun x hx=>by
  obtain⟨b,hb,hx⟩:=List.mem_flatMap.1 hx
  exact⟨b,hb,j4 hx⟩
 refine anr (F:=fun p=>aax B ro kind p X Q) (R:=bs.flatMap fun b=>[rD b,rM b,rE b]) (ty:=0) afu h1.map.map hs1 (fun hx=>?_) (fun hx=>?_) y1
  (fun d _ tag2 I2=>StepS [0,59,60,61] ro tag1 I1 tag2 I2/\zd tag2 I2 T M bs (jx h m kind (d.map (·.1)))) (fun tag2 I2 st=>⟨qv st,by rw[Pe,arf];exact h1.fresh st⟩) ?_
 .obtain⟨b,_,h⟩:=inRl _ hx;unfold rD rM rE at h;omega
 .obtain⟨b,_,h⟩:=inRl _ hx;unfold rD rM rE at h;omega
 rintro x d rest n tag2 I2 Y hp hs2 ⟨a1,a2⟩ hn
 unfold aax
 refine hn _ (fun hr=> .inl ⟨rfl,?_⟩) fun p q va vb tag4 I4 hp4 st4 hm4 he hY=> .inr ⟨va,vb,rfl,he _ ?_⟩
 .unfold aaw
  rw[hr,nk]at hp
  refine hQ n tag2 I2 ((qv st1).trans a1) ?_
  rw[arh fun p hp'=>?_]at a2
  .exact a2
  .have:p.1∈(kvP h bs).map (·.1):=by rw[aeO _ _ hi.map.len];exact mN.2 ⟨p,hp',rfl⟩
   exact(hp.map (·.1)).mem_iff.2 this
 .obtain⟨pk,pv⟩:=p
  have hin:(pk,pv)∈kvP h bs:=hp4.mem_iff.1 y0
  obtain⟨i,b,de,b1,b2,rfl⟩:=ap8 _ _ hi.map.len pk pv hin
  have hnd:(((d++(pk,afJ b)::q)).map (·.1)).Nodup:=(hp4.map (·.1)).nodup_iff.2 (by rw[aeO _ _ hi.map.len];exact hi.map.keys)
  have hnk:pk∉d.map (·.1):=fun hm=>by
   rw[my,mF,List.nodup_append]at hnd
   exact hnd.2.2 pk hm pk y0 rfl
  have h4:zd tag4 I4 T M bs (jx h m kind (d.map (·.1))):=a2.keepS (st4.s (C:=[0]) y0)
  have hget:=aiW (m:=m) (kind:=kind) b2 hnk
  have s4:StepS [0,59,60,61] ro tag1 I1 tag4 I4:=a1.trans (st4.s y0)
  have hs4:=st4.sep
  have rX:=r1.keepS s4
  have dok:aaO b0 pk de:=hok.ok _ (mW b2)
  obtain⟨mm,s,row,ev,mk⟩:=h4.map.at' i b pk de b1 hget
  refine⟨_,_,rfl,_,rfl,some mm,(row.read hs4).2.2 _ rfl 3 _ rfl,S m.1,m.2,qz (rX.read hs4) rfl,?_⟩
  refine vn (k:=m) mk hs4 aj8 (aew amk) arp ?_
  rw[ao6]
  have hin':b∈bs:=mW b1
  by_cases c:m∈de.marks
  .rw[mc c]
   refine⟨1,rfl,?_⟩
   rw[mc y1]
   refine⟨_,rfl,some mm,(row.read hs4).2.2 _ rfl 3 _ rfl,S m.1,m.2,qz (rX.read hs4) rfl,?_⟩
   refine ahu (k:=m) mk hs4 aj8 (aew amk) fun I5 st5 m5=>⟨rfl,?_⟩
   rw[avt]at m5
   have row5:=row.keep st5 (by simp[rD,rM,rE]<;>omega)
   have ev5:=ev.keep st5 (by simp[rD,rM,rE]<;>omega)
   have rX5:=rX.keep st5 (by simp[rD,rM,rE]<;>omega)
   refine⟨_,rfl,S m.1,(rX5.read st5.sep).2.2 _ rfl 0 _ rfl,?_⟩
   have hroom:=dok.room
   have hlast:=dok.last
   refine avC (d:={de with marks:=de.marks.erase m}) row5 ev5 st5.sep (by simp only;omega) hlast.1 (by simp only;omega) fun s' tag6 I6 st6 r6 e6=>?_
   have k6:qd [rD b,rM b,rE b] ro tag4 I4 tag6 I6:=(st5.mono y0).trans (st6.mono y0)
   have hfd:uR m kind de=am1 {de with marks:=de.marks.erase m} kind m.1:=by unfold uR;rw[mc c]
   have hR:agI b [rD b,rM b,rE b]:=by
    refine⟨by simp[rD,rM,rE]<;>omega,by simp[rD,rM,rE]<;>omega,fun x hx e=>?_,fun x hx e=>?_,fun x hx e=>?_⟩
    all_goals
     simp only[mp,nj,or_false]at hx
     rcases hx with rfl | rfl | rfl<;>first | rfl | (exfalso;omega) | (exfalso;simp only[rD,rM,rE]at e;omega)
   have h6:=h4.old (d':=uR m kind de) k6 hR b1 hget (by rw[hfd];exact⟨mm,s',r6,e6,m5.keep st6 (by simp[rD,rM,rE]<;>omega)⟩)
   rw[ari hi.map.keys b2 hnk]at h6
   refine hY _ tag6 I6 (k6.mono fun x hx=>List.mem_flatMap.2 ⟨b,hin',hx⟩) ⟨s4.trans (k6.s (by simp[rD,rM,rE]<;>omega)),?_⟩
   rw[my];exact h6
  .rw[ma c]
   refine⟨0,rfl,?_⟩
   rw[ma y1]
   refine hY _ tag4 I4 (qd.refl hs4) ⟨s4,?_⟩
   rw[my,mF,Pe,apJ hi.map.keys b2 hnk c]
   exact h4
end
end Zt
namespace Zt
open Go SL G Pa Wi
variable{B:ZB}{ro I I':AH}{tag tag':Nat->Nat}
variable{n:Int}{l:List (Int×Int×Str)}{b0 j q x:Nat}{es s:Sl}{Q:Sl->AH->Prop}
section
variable{T M:Nat}{bs:List Nat}{h:Hub}{k:Str×Int}
def arr{h:Hub}{l:List (Int×Str)}(hj:j<l.length):yn h (l.take (j+1))=aa8 (yn h (l.take j)) l[j]:=by
 unfold yn
 rw[mK,md hj,List.foldl_append];try rfl
abbrev CFi:List Nat:=[0,59,60,61]
def aph{effs:List (Int×Str)}{Q:Int->AH->Prop}(g:ze ro)(hi:zd tag I T M bs h)(hok:ku b0 h)(hb0:b0<=33554433)(he:ql tag I q 336 2 es (effs.map afO))(hq:q%64∉CFi)(hl:effs.length<=1099511627776)
  (hQ:∀ n tag' I',StepS CFi ro tag I tag' I'->zd tag' I' T M bs (yn h effs)->Q n I'):aa2 B ro (some ⟨T,0,none⟩) es I Q:=by
 refine akL fun hs=>?_
 unfold adT
 have hln:es.len=effs.length:=by rw[he.len,mg]
 suffices∀(m j:Nat) (n:Int) (tag2:Nat->Nat) (I2:AH),j+m=effs.length->StepS CFi ro tag I tag2 I2->zd tag2 I2 T M bs (yn h (effs.take j))->lfpD (kl B ro (some ⟨T,0,none⟩) es Q) (n,(j:Int)) I2 from
  this _ 0 0 tag I (ml _) (StepS.refl hs) hi
 intro m
 induction m with
 | zero=>
  intro j n tag2 I2 hj st2 h2
  refine lfpD.intro ?_
  unfold kl
  simp only
  rw[ma z7]
  unfold aav
  rw[mD z7]at h2
  exact hQ n tag2 I2 st2 h2
 | succ m ih=>
  intro j n tag2 I2 hj st2 h2
  have hjl:j<effs.length:=by omega
  obtain⟨p,hp,hc⟩:=((ql.keepS he st2 hq).read st2.sep).at (j:=j) (x:=afO effs[j]) (by rw[mh,md hjl];try rfl)
  have hok2:=aiS (effs.take j) hok
  have eft:=arr (h:=h) hjl
  generalize effs[j]=e at hc eft
  have next:∀ (n':Int) tag3 I3,StepS CFi ro tag2 I2 tag3 I3->zd tag3 I3 T M bs (aa8 (yn h (effs.take j)) e)->xr B ro (some ⟨T,0,none⟩) es (j:Int) Q (lfpD (kl B ro (some ⟨T,0,none⟩) es Q)) n' I3:=fun n' tag3 I3 st3 h3=>by
   unfold xr
   rw[Pa.inc j z7]
   rw[<-eft]at h3
   exact ih (j+1) n' tag3 I3 z7 (st2.trans st3) h3
  refine lfpD.intro ?_
  unfold kl
  simp only
  rw[mc z7]
  refine⟨p,hp,z7,z7,e.1,S e.2,by rw[mq];exact hc,?_⟩
  refine kz (tag:=tag2) 33 st2.sep rfl (by simp[qg]) fun X tag3 I3 st3 r3=>?_
  have hs3:=(st3 []).sep
  have g3:=(r3.read hs3).2.2 _ rfl
  have h3:=h2.fresh st3
  refine⟨S e.2,g3 1 _ rfl,?_⟩
  have skip:∀ c:Bool,c=true->aa8 (yn h (effs.take j)) e=yn h (effs.take j)->∀ x,kR B ro (some ⟨T,0,none⟩) es n X (j:Int) x Q (lfpD (kl B ro (some ⟨T,0,none⟩) es Q)) c I3:=fun c hc e1 x=>by
   unfold kR
   rw[mc hc]
   exact next n tag3 I3 (qv st3) (by rw[e1];exact h3)
  refine afk g (fun hn=>?_) fun u hu=>?_
  .rw[L_S]at hn
   rw[mc y1]
   unfold jf
   rw[mc rfl]
   exact skip true rfl (by unfold aa8;rw[hn]) _
  rw[L_S]at hu
  rw[ma y0]
  refine⟨e.1,g3 0 _ rfl,?_⟩
  unfold jf
  by_cases c1:e.1<1
  .rw[mc (j4 c1)]
   exact skip true rfl (by unfold aa8;rw[hu];simp only;rw[mc (.inl c1)]) _
  rw[ma (j4 c1)]
  refine⟨e.1,g3 0 _ rfl,?_⟩
  by_cases c2:3<e.1
  .exact skip _ (j4 c2) (by unfold aa8;rw[hu];simp only;rw[mc (.inr c2)]) _
  unfold kR
  rw[ma (j4 c2)]
  refine⟨S e.2,g3 1 _ rfl,e.1,g3 0 _ rfl,?_⟩
  have ef:aa8 (yn h (effs.take j)) e=(if e.1=2 then yS (if e.1≠3 then yS (yS (yn h (effs.take j)) (e.2,1) e.1) (u,2) 4 else yS (yn h (effs.take j)) (e.2,1) e.1) (e.2,2) 4 else(if e.1≠3 then yS (yS (yn h (effs.take j)) (e.2,1) e.1) (u,2) 4 else yS (yn h (effs.take j)) (e.2,1) e.1)):=by
   unfold aa8;rw[hu];simp only;rw[ma z7]
  refine alA (m:=(e.2,1)) h3 hok2 hb0 fun n1 tag4 I4 st4 h4=>?_
  have r4:=r3.keepS st4
  have g4:=(r4.read st4.sep).2.2 _ rfl
  have k4:StepS CFi ro tag2 I2 tag4 I4:=(qv st3).trans st4
  have hok4:ku b0 (yS (yn h (effs.take j)) (e.2,1) e.1):=adM hok2 z7
  refine⟨e.1,g4 0 _ rfl,?_⟩
  have last:∀ (hh:Hub) (n':Int) tag5 I5,ku b0 hh->StepS CFi ro tag2 I2 tag5 I5->zd tag5 I5 T M bs hh->Row tag5 I5 33 336 ⟨some ⟨X,0,none⟩,2,2⟩ [vI e.1,.string (S e.2)]->aa8 (yn h (effs.take j)) e=(if e.1=2 then yS hh (e.2,2) 4 else hh)->je B ro (some ⟨T,0,none⟩) es X (j:Int) Q (lfpD (kl B ro (some ⟨T,0,none⟩) es Q)) n' I5:=fun hh n' tag5 I5 ok5 k5 h5 r5 e5=>by
   have g5:=(r5.read k5.sep).2.2 _ rfl
   unfold je
   refine⟨e.1,g5 0 _ rfl,?_⟩
   by_cases c3:e.1=2
   .rw[mc c3]at e5⊢
    refine⟨S e.2,g5 1 _ rfl,?_⟩
    refine alA (m:=(e.2,2)) h5 ok5 hb0 fun n2 tag6 I6 st6 h6=>?_
    exact next _ tag6 I6 (k5.trans st6) (by rw[e5];exact h6)
   .rw[ma c3]at e5⊢
    exact next _ tag5 I5 k5 (by rw[e5];exact h5)
  by_cases c4:e.1=3
  .rw[ma (j4 c4)]
   exact last _ _ tag4 I4 hok4 k4 h4 r4 (by rw[ef];simp[c4])
  .rw[mc c4]
   refine alA (m:=(u,2)) h4 hok4 hb0 fun n2 tag5 I5 st5 h5=>?_
   refine last _ _ tag5 I5 (adM hok4 z7) (k4.trans st5) h5 (r4.keepS st5) ?_
   rw[ef,mc c4]
def asL(q:Nat)(hr:SL.vt ro I 3 s (l.map evV))(hs:SL.Sep ro I)(hl:l.length<=1048576)(hQ:∀ s' tag' I',(∀R,qd R ro tag I tag' I')->ql tag' I' q 132 3 s' (l.map evV)->Q s' I'):yY B ro s I Q:=by
 refine afj fun _=>?_
 unfold yZ
 by_cases h0:s.a=none
 .rw[mc h0]
  have:l=[]:=by have:=hr.2.1 h0;simpa using this
  subst this
  exact hQ _ tag I (fun _=>qd.refl hs) (ql.nil _ _ _)
 .rw[ma h0]
  refine qf (tag:=tag) q hs fun b tag1 I1 st1 r1=>?_
  have h':SL.vt ro I1 3 s (l.map evV):=hr.step (st1 [])
  have rw0:ql tag1 I1 q 132 3 ⟨some ⟨b,0,none⟩,0,0⟩ []:=by
   rcases r1 with⟨e,_⟩ | ⟨b',cs,ha,ht,hb,_,hc,hle,_⟩
   .cases e
   .cases ha
    exact .inr ⟨b,cs,rfl,ht,hb,rfl,(by have h0:cs.size=0:=hc.symm;simpa using h0),mR _,(fun x hx=>by cases hx),fun i v hv=>by simp at hv⟩
  refine jn (l:=[]) (l2:=l.map evV) rw0 (st1 []).sep h' aui ark rfl (fun x hx v hv=>?_) j2 y1 fun s' tag2 I2 st2 r2=>?_
  .obtain⟨e,_,rfl⟩:=mN.1 hx
   simp only[evV,mp,nj,or_false]at hv
   rcases hv with rfl | rfl | rfl<;>rfl
  .exact⟨s',rfl,hQ s' tag2 I2 (fun R=>(st1 R).trans (st2 R (.inl rfl))) (j4 r2)⟩
def anO(q:Nat)(hi:zd tag I T M bs h)(hok:ku b0 h)(hQ:∀ s tag' I',(∀R,qd R ro tag I tag' I')->ql tag' I' q 132 3 s ((ja h k).map evV)->Q s I'):jz B ro (some ⟨T,0,none⟩) (S k.1) k.2 I Q:=by
 refine aj5 fun hs=>?_
 unfold acX
 refine qf (tag:=tag) 0 hs fun X tag1 I1 st1 r1=>?_
 have hs1:=(st1 []).sep
 have h1:=hi.fresh st1
 refine⟨_,rfl,some M,h1.cell.cell1 hs1,S k.1,k.2,qz (r1.read hs1) rfl,?_⟩
 refine vn (k:=k) h1.map.map hs1 afu (aew ai3) apg ?_
 unfold ja at hQ
 rcases h1.map.look k with⟨a1,a2⟩ | ⟨i,b,d,hb,hp,a3,a4,m,s,row,ev,mk⟩
 .rw[a2]
  refine⟨none,rfl,?_⟩
  rw[ma y0]
  rw[a1]at hQ
  exact hQ _ tag1 I1 st1 (ql.nil _ _ _)
 .rw[a4]
  refine⟨some ⟨b,0,none⟩,rfl,?_⟩
  rw[mc y0]
  rw[a3]at hQ
  refine⟨_,rfl,s,(row.read hs1).2.2 _ rfl 0 _ rfl,?_⟩
  have hr:d.events.length+d.marks.length<=32:=(hok.ok _ (xt a3)).room
  refine asL (tag:=tag1) q (ev.read hs1) hs1 z7 fun s' tag2 I2 st2 r2=>?_
  exact hQ s' tag2 I2 (fun R=>(st1 R).trans (st2 R)) r2
def art{Q:Int->Int->AH->Prop}(hi:zd tag I T M bs h)(hQ:∀ a tag' I',(∀R,qd R ro tag I tag' I')->Q a (match qj h k with | some d=>d.last | none=>0) I'):ab7 B ro (some ⟨T,0,none⟩) (S k.1) k.2 I Q:=by
 refine ajp fun hs=>?_
 unfold acv
 refine qf (tag:=tag) 0 hs fun X tag1 I1 st1 r1=>?_
 have hs1:=(st1 []).sep
 have h1:=hi.fresh st1
 refine⟨_,rfl,some M,h1.cell.cell1 hs1,S k.1,k.2,qz (r1.read hs1) rfl,?_⟩
 refine vn (k:=k) h1.map.map hs1 afu (aew ai3) apg ?_
 rcases h1.map.look k with⟨a1,a2⟩ | ⟨i,b,d,hb,hp,a3,a4,m,s,row,ev,mk⟩
 .rw[a2]
  refine⟨none,rfl,?_⟩
  rw[ma y0]
  rw[a1]at hQ
  exact hQ 0 tag1 I1 st1
 .rw[a4]
  refine⟨some ⟨b,0,none⟩,rfl,?_⟩
  rw[mc y0]
  rw[a3]at hQ
  have gr:=(row.read hs1).2.2 _ rfl
  exact⟨_,rfl,_,rfl,d.acked,gr 1 _ rfl,d.last,gr 2 _ rfl,hQ _ tag1 I1 st1⟩
def apO{f:Int×Int×Str->Bool}{fv:ZC}(hr:ql tag I q 132 3 s (l.map evV))(hs:SL.Sep ro I)(hl:l.length<=1048576)
  (hcall:∀ e∈l,∀tag' I',qd [q] ro tag I tag' I'->∀ K:ZC->AH->Prop,(∀tag2 I2,(∀R,qd R ro tag' I' tag2 I2)->K (.bool (f e)) I2)->aeb prog B ro fv [.agg #[.int .i64 e.1,.int .i64 e.2.1,.string (S e.2.2)]] I' K)
  (hQ:∀ s' tag' I',qd [q] ro tag I tag' I'->ql tag' I' q 132 3 s' ((l.filter fun e=> !f e).map evV)->Q s' I'):ji B ro s fv I Q:=by
 refine adA fun _=>?_
 unfold jk
 refine ad4 fun _=>?_
 unfold js
 have hln:s.len=l.length:=by rw[hr.len,mg]
 have atE:∀ (cur:List (Int×Int×Str)) (tag1:Nat->Nat) (I1:AH),ql tag1 I1 q 132 3 s (cur.map evV)->SL.Sep ro I1->∀ j e,cur[j]?=some e->∃ b,s.a=some ⟨b,0,none⟩/\SL.qe ro I1 ((⟨b,0,none⟩:Addr).add (j*3)) 0 (evV e):=fun cur tag1 I1 r1 hs1 j e he=>by
  obtain⟨b,ha,_,hg⟩:=r1.get hs1 (j:=j) (x:=evV e) (by rw[mh,he];try rfl)
  refine⟨b,ha,zx 0 fun i v hv=>?_⟩
  rw[ml]
  rw[vq,vq,ml]
  exact hg i v hv
 have second:∀ (m j w:Nat) (cur:List (Int×Int×Str)) (tag1:Nat->Nat) (I1:AH),j+m=l.length->w<=j->cur.length=l.length->cur.take w=(l.take j).filter (fun k=> !f k)->(∀i,j<=i->cur[i]?=l[i]?)->qd [q] ro tag I tag1 I1->ql tag1 I1 q 132 3 s (cur.map evV)->
   lfpD (wQ B ro s fv Q) ((w:Int),(j:Int)) I1:=by
  intro m
  induction m with
  | zero=>
   intro j w cur tag1 I1 hj hw hcl htk hrest st1 r1
   refine lfpD.intro ?_
   unfold wQ
   simp only
   rw[ma z7]
   unfold vQ
   have hcap:=r1.cap
   refine⟨⟨trivial,z7,by simp only[cutHi];omega⟩,?_⟩
   rw[mq]
   refine am5 r1 st1.sep aui ark rfl y1 y1 (by simp[rD,rM,rE]<;>omega) fun I2 st2 r2=>?_
   refine⟨rfl,⟨⟨z7,z7⟩,trivial⟩,?_⟩
   have ec:wv s.a 0 s.cap 3=s.a:=by unfold wv;split;rfl;cases s.a<;>simp[Addr.add]
   rw[ec,Nat.sub_zero,Nat.sub_zero]
   refine hQ _ tag1 I2 (st1.trans st2) ?_
   rw[<-List.map_take,htk,mD z7]at r2
   exact r2
  | succ m ih=>
   intro j w cur tag1 I1 hj hw hcl htk hrest st1 r1
   have hjl:j<l.length:=by omega
   have hjc:cur[j]?=some l[j]:=by rw[hrest j (mR _),md hjl]
   obtain⟨b,ha,hc⟩:=atE cur tag1 I1 r1 st1.sep j _ hjc
   refine lfpD.intro ?_
   unfold wQ
   simp only
   rw[mc z7]
   refine⟨_,ha,z7,z7,l[j].1,l[j].2.1,S l[j].2.2,by rw[mq];exact hc,?_⟩
   refine kz (tag:=tag1) 0 st1.sep rfl (by simp[qg]) fun X tag2 I2 st2 x2=>?_
   have hs2:=(st2 []).sep
   refine⟨l[j].1,l[j].2.1,S l[j].2.2,qz (x2.read hs2) rfl,?_⟩
   have r2:=r1.keep (st2 [])
   have k2:=st1.trans (st2 [q])
   refine hcall _ (mJ hjl) tag2 I2 k2 _ fun tag3 I3 st3=>⟨f l[j],rfl,?_⟩
   have r3:=ql.keep r2 (st3 [])
   have k3:=k2.trans (st3 [q])
   have x3:=x2.keep (st3 [])
   have etk:(l.take (j+1)).filter (fun k=> !f k)=(l.take j).filter (fun k=> !f k)++if f l[j]then []else [l[j]]:=by
    rw[mK,md hjl,List.filter_append]
    simp only[Option.toList_some,List.filter_cons,List.filter_nil]
    cases f l[j]<;>rfl
   cases hf:f l[j]with
   | true=>
    rw[ma y0]
    unfold wP
    rw[Pa.inc j z7]
    exact ih (j+1) w cur tag3 I3 z7 z7 hcl (by rw[etk,hf];simpa using htk) (fun i hi=>hrest i z7) k3 r3
   | false=>
    rw[mc y0]
    refine⟨l[j].1,l[j].2.1,S l[j].2.2,qz (x3.read (st3 []).sep) rfl,_,ha,z7,z7,?_⟩
    rw[mq]
    have hwc:w<cur.length:=by omega
    refine ql.stE (x:=evV l[j]) r3 (st3 []).sep ha (j:=w) (y:=evV cur[w]) (by rw[mh,md hwc];try rfl) rfl (by simp[evV,qg]) fun I4 st4 r4=>?_
    unfold wP
    rw[Pa.inc j z7,Pa.inc w z7]
    refine ih (j+1) (w+1) (cur.set w l[j]) tag3 I4 z7 z7 (j4 hcl) ?_ (fun i hi=>?_) (k3.trans st4) (by rw[List.map_set];exact r4)
    .rw[etk,hf,mK,List.take_set_of_le (mR _),htk,List.getElem?_set_self z7]
     try rfl
    .rw[List.getElem?_set_ne z7];exact hrest i z7
 suffices∀m j tag1 I1,j+m=l.length->(∀k∈l.take j,f k=false)->qd [q] ro tag I tag1 I1->ql tag1 I1 q 132 3 s (l.map evV)->lfpD (zU B ro s fv fun x10 I=>if x10=(-1)then Q s I else lfpD (wQ B ro s fv Q) (x10,i64.wrap (x10+1)) I) (j:Int) I1 from
  this _ 0 tag I (ml _) y0 (qd.refl hs) hr
 intro m
 induction m with
 | zero=>
  intro j tag1 I1 hj hall st1 r1
  refine lfpD.intro ?_
  unfold zU
  rw[ma z7]
  unfold kf
  show(if(-1:Int)= -1 then _ else _)
  rw[mc rfl]
  rw[mD z7]at hall
  refine hQ s tag1 I1 st1 ?_
  rw[List.filter_eq_self.2 fun k hk=>by rw[hall k hk];try rfl]
  exact r1
 | succ m ih=>
  intro j tag1 I1 hj hall st1 r1
  have hjl:j<l.length:=by omega
  obtain⟨b,ha,hc⟩:=atE l tag1 I1 r1 st1.sep j l[j] (md hjl)
  refine lfpD.intro ?_
  unfold zU
  rw[mc z7]
  refine⟨_,ha,z7,z7,l[j].1,l[j].2.1,S l[j].2.2,by rw[mq];exact hc,?_⟩
  refine hcall _ (mJ hjl) tag1 I1 st1 _ fun tag3 I3 st3=>⟨f l[j],rfl,?_⟩
  have r3:=ql.keep r1 (st3 [])
  have k3:=st1.trans (st3 [q])
  cases hf:f l[j]with
  | true=>
   rw[mc rfl]
   show(if((j:Int))= -1 then _ else _)
   rw[ma z7,Pa.inc j z7]
   have e1:(l.take j).filter (fun k=> !f k)=l.take j:=List.filter_eq_self.2 fun k hk=>by rw[hall k hk];try rfl
   refine second m (j+1) j l tag3 I3 z7 z7 rfl ?_ (fun _ _=>rfl) k3 r3
   rw[mK,md hjl,List.filter_append,e1]
   simp[hf]
  | false=>
   rw[ma y1,Pa.inc j z7]
   refine ih (j+1) tag3 I3 z7 (fun k hk=>?_) k3 r3
   rw[mK,md hjl]at hk
   rcases mv.1 hk with h | h
   .exact hall k h
   .have h':k=l[j]:=by simpa using h
    rw[h'];exact hf
def avD{e:Int×Int×Str}{K:ZC->AH->Prop}(hs:SL.Sep ro I)(hx:qa ro I ⟨x,0,none⟩=some (vI n))(hK:∀ tag2 I2,(∀R,qd R ro tag I tag2 I2)->K (.bool (decide (e.1<=n))) I2):aeb prog B ro (.func (.func 233) #[] #[.pointer (some ⟨x,0,none⟩)]) [.agg #[.int .i64 e.1,.int .i64 e.2.1,.string (S e.2.2)]] I K:=by
 refine⟨233,f233,#[],#[.pointer (some ⟨x,0,none⟩)],rfl,func233,j0,j0,?_⟩
 have h:aek B ro e.1 e.2.1 (S e.2.2) ⟨x,0,none⟩ I fun r I=>K (.bool r) I:=by
  refine ah7 fun _=>?_
  unfold abg
  refine qf (tag:=tag) 0 hs fun X tag1 I1 st1 r1=>?_
  refine⟨e.1,(r1.read (st1 []).sep).2.2 _ rfl 0 _ rfl,n,?_,hK tag1 I1 st1⟩
  have hl:=(st1 []).old
  unfold qa rd at hx⊢
  cases hr:ro x with
  | some o=>rw[hr]at hx;exact hx
  | none=>
   rw[hr]at hx
   simp only at hx⊢
   cases ho:I x with
   | none=>rw[ho]at hx;simp[zF]at hx
   | some o=>rw[((st1 []).keep x o ho y0).2,<-ho];exact hx
 exact qc.mono h fun v τ ⟨r,e,q⟩=>e▸q
def awt(a n:Int):(if a<n then n else a)=max a n:=by
 show _=if a<=n then n else a
 split<;>split<;>omega
def avE{b m:Nat}{d:xR}{Q:AH->Prop}(row:Row tag I (rD b) 310 ⟨some ⟨b,0,none⟩,4,4⟩ [Sl.v s,vI d.acked,vI d.last,.map (some m)])(ev:ql tag I (rE b) 132 3 s (d.events.map evV))(hs:SL.Sep ro I)(hl:d.events.length<=1048576)
  (hQ:∀ s' tag' I',qd [rD b,rE b] ro tag I tag' I'->Row tag' I' (rD b) 310 ⟨some ⟨b,0,none⟩,4,4⟩ [Sl.v s',vI (atZ d n).acked,vI d.last,.map (some m)]->ql tag' I' (rE b) 132 3 s' ((atZ d n).events.map evV)->Q I'):acL B ro (some ⟨b,0,none⟩) n I Q:=by
 refine aj6 fun _=>?_
 unfold acY
 refine qf (tag:=tag) 35 hs fun X tag1 I1 st1 r1=>?_
 have hs1:=(st1 []).sep
 have row1:=row.keep (st1 [])
 refine⟨_,rfl,d.acked,(row1.read hs1).2.2 _ rfl 1 _ rfl,n,(r1.read hs1).2.2 _ rfl 0 _ rfl,_,rfl,?_⟩
 rw[awt]
 refine row1.stAt [vI (max d.acked n)] 1 hs1 y0 (by simp[qg]) fun I2 st2 row2=>?_
 have x2:=r1.keep st2 (by simp[rD,rM,rE]<;>omega)
 have ev2:=(ev.keep (st1 [])).keep st2 (by simp[rD,rM,rE]<;>omega)
 refine⟨_,rfl,s,(Row.read row2 st2.sep).2.2 _ rfl 0 _ rfl,?_⟩
 refine apO (f:=fun e=>decide (e.1<=n)) ev2 st2.sep hl (fun e he tag3 I3 st3 K hK=>?_) fun s' tag3 I3 st3 r3=>?_
 .exact avD st3.sep ((x2.keep st3 (by simp[rD,rM,rE]<;>omega)).cell1 st3.sep) hK
 .have row3:=Row.keep row2 st3 (by simp[rD,rM,rE]<;>omega)
  refine⟨_,rfl,?_⟩
  refine Row.stPre [Sl.v s'] 0 _ I3 row3 st3.sep y0 (by simp[qg,Sl.v]) fun I4 st4 r4=>?_
  exact hQ s' tag3 I4 (((st1 _).trans (st2.mono y0)).trans ((st3.mono y0).trans (st4.mono y0))) r4 (ql.keep r3 st4 (by simp[rD,rM,rE]<;>omega))
def avF{Q:Int->AH->Prop}(hi:zd tag I T M bs h)(hok:ku b0 h)(hQ:∀ tag' I',StepS [59,61] ro tag I tag' I'->zd tag' I' T M bs (yg h k n).1->Q (yg h k n).2 I'):aei B ro (some ⟨T,0,none⟩) (S k.1) k.2 n I Q:=by
 refine alx fun hs=>?_
 unfold aeB
 refine qf (tag:=tag) 0 hs fun X tag1 I1 st1 r1=>?_
 refine⟨S k.1,k.2,qz (r1.read (st1 []).sep) rfl,?_⟩
 refine art (hi.fresh st1) fun a tag2 I2 st2=>?_
 have k2:∀ R,qd R ro tag I tag2 I2:=fun R=>(st1 R).trans (st2 R)
 have h2:=hi.fresh k2
 have hs2:=(st2 []).sep
 have r2:=r1.keep (st2 [])
 unfold yg at hQ
 rcases h2.map.look k with⟨a1,a2⟩ | ⟨i,b,d,hb,hp,a3,a4,m,s,row,ev,mk⟩
 .rw[a1]at hQ⊢
  simp only at hQ⊢
  have q2:=hQ tag2 I2 (qv k2) h2
  by_cases c:n<0\/0<n
  .rw[mc c]at q2 ⊢;exact q2
  .rw[ma c]at q2⊢
   refine⟨_,rfl,some M,h2.cell.cell1 hs2,S k.1,k.2,qz (r2.read hs2) rfl,?_⟩
   refine vn (k:=k) h2.map.map hs2 afu (aew ai3) apg ?_
   rw[a2]
   refine⟨none,rfl,?_⟩
   rw[ma y0]
   exact q2
 .rw[a3]at hQ⊢
  simp only at hQ⊢
  by_cases c:n<0\/d.last<n
  .rw[mc c]at hQ⊢
   exact hQ tag2 I2 (qv k2) h2
  .rw[ma c]at hQ⊢
   refine⟨_,rfl,some M,h2.cell.cell1 hs2,S k.1,k.2,qz (r2.read hs2) rfl,?_⟩
   refine vn (k:=k) h2.map.map hs2 afu (aew ai3) apg ?_
   rw[a4]
   refine⟨some ⟨b,0,none⟩,rfl,?_⟩
   rw[mc y0]
   refine⟨_,rfl,?_⟩
   have hr:d.events.length+d.marks.length<=32:=(hok.ok _ (xt a3)).room
   refine avE row ev hs2 z7 fun s' tag3 I3 st3 row3 ev3=>?_
   have hR:agI b [rD b,rE b]:=by
    refine⟨by simp[rD,rM,rE]<;>omega,by simp[rD,rM,rE]<;>omega,fun x hx e=>?_,fun x hx e=>?_,fun x hx e=>?_⟩
    all_goals
     simp only[mp,nj,or_false]at hx
     rcases hx with rfl | rfl<;>first | rfl | (exfalso;omega) | (exfalso;simp only[rD,rM,rE]at e;omega)
   unfold uc
   exact hQ tag3 I3 ((qv k2).trans (st3.s (by simp[rD,rM,rE]<;>omega))) (h2.old st3 hR hb hp ⟨m,s',row3,ev3,mk.keep st3 (by simp[rD,rM,rE]<;>omega)⟩)
end
end Zt
namespace Zt
open Go SL G Pa Wi
variable{B:ZB}{ro I I':AH}{tag tag':Nat->Nat}
variable{Q:Int->AH->Prop}{m:kN}
def api{s:ZA}{Q:ZA->Int->AH->Prop}(g:ze ro)(hQ:∀ tag' I',(∀R,qd R ro tag I tag' I')->Q (S ((qq (L s)).getD [])) (if parts (L s)=none then 20 else 0) I')(hs:SL.Sep ro I):pG B ro s I Q:=by
 cases hp:parts (L s)with
 | some ps=>
  have h7:∀ tag1 I1,(∀R,qd R ro T7 I tag1 I1)->Q (S ((qq (L s)).getD [])) 0 I1:=fun tag1 I1 st=>by
   have:=hQ (aeW I tag tag1) I1 (((st []).s (C:=[]) y0).mix y0 tag)
   rw[hp]at this
   exact this
  refine amX (tag:=T7) g hp fun tag' I' st=>h7 tag' I' fun R=>⟨fun b o hb hn=>⟨((st.keep b o hb y0)).1,(st.keep b o hb y0).2⟩,st.old,st.sep⟩
 | none=>
  refine agu fun hs=>?_
  unfold ac6
  refine aiL (tag:=tag) 0 g hs (fun h tag1 I1 st1=>?_) fun ps' h=>by rw[hp]at h;cases h
  rw[mc (by rfl)]
  have:=hQ tag1 I1 fun R=>⟨fun b o hb hn=>st1.keep b o hb y0,st1.old,st1.sep⟩
  unfold qq at this
  rw[hp]at this
  exact this
section
variable{T M:Nat}{bs:List Nat}{h:Hub}{k:Str×Int}
def asM(g:ze ro)(hQ:∀ tag' I',(∀R,qd R ro tag I tag' I')->Q (abo k m) I'):afE B ro (S k.1) k.2 (S m.1) m.2 I Q:=by
 refine ane fun hs=>?_
 unfold afU
 refine qf (tag:=tag) 0 hs fun X tag1 I1 st1 r1=>?_
 refine qf (tag:=tag1) 0 (st1 []).sep fun Y tag2 I2 st2 r2=>?_
 have hs2:=(st2 []).sep
 refine⟨S m.1,(r2.read hs2).2.2 _ rfl 0 _ rfl,?_⟩
 refine api (tag:=tag2) g (fun tag3 I3 st3=>?_) hs2
 rw[L_S]
 have hs3:=(st3 []).sep
 have k3:∀ R,qd R ro tag I tag3 I3:=fun R=>(st1 R).trans ((st2 R).trans (st3 R))
 have g1:=(((r1.keep (st2 [])).keep (st3 [])).read hs3).2.2 _ rfl
 have g2:=((r2.keep (st3 [])).read hs3).2.2 _ rfl
 refine⟨m.2,g2 1 _ rfl,?_⟩
 have hq:=hQ tag3 I3 k3
 unfold abo at hq
 have j14:∀ c:Bool,(if(m.2≠1/\m.2≠2)then(160:Int)else if parts m.1=none then 20 else if(qq m.1).getD []≠k.1\/wb k.1=false\/k.2<1\/4611686018427387903<k.2 then 82 else 0)=(if c=true then 82 else 0)->yT B ro Q c I3:=fun c e=>by
  rw[e]at hq
  unfold yT
  cases c
  .rw[ma y0]at hq ⊢;exact hq
  .rw[mc rfl]at hq ⊢;exact hq
 have rest:(m.2=1\/m.2=2)->yi B ro X (S ((qq m.1).getD [])) (if parts m.1=none then 20 else 0) Q false I3:=fun hm=>by
  have hm':¬ (m.2≠1/\m.2≠2):=by omega
  unfold yi
  rw[ma y0]
  by_cases c1:parts m.1=none
  .rw[mc c1,mc y1]
   rw[ma hm',mc c1]at hq
   exact hq
  rw[ma c1,ma y0]
  refine⟨S k.1,g1 0 _ rfl,?_⟩
  by_cases c2:(qq m.1).getD []=k.1
  .rw[ma (by rw[c2];simp)]
   refine⟨S k.1,g1 0 _ rfl,?_⟩
   refine agf ?_
   rw[L_S]
   unfold yU
   cases c3:wb k.1 with
   | false=>
    rw[mc y0]
    unfold jy
    rw[mc rfl]
    exact j14 true (by rw[ma hm',ma c1,mc (.inr (.inl c3)),mc rfl])
   | true=>
    rw[ma y0]
    refine⟨k.2,g1 1 _ rfl,?_⟩
    unfold jy
    by_cases c4:k.2<1
    .rw[mc (j4 c4)]
     exact j14 true (by rw[ma hm',ma c1,mc (.inr (.inr (.inl c4))),mc rfl])
    rw[ma (j4 c4)]
    refine⟨k.2,g1 1 _ rfl,?_⟩
    refine j14 _ ?_
    rw[ma hm',ma c1]
    by_cases c5:4611686018427387903<k.2
    .rw[mc (.inr (.inr (.inr c5))),mc (j4 c5)]
    .rw[ma (by simp only[not_or];exact⟨j4 c2,by simp[c3],c4,c5⟩),ma (j4 c5)]
  .rw[mc (fun e=>c2 (abL.1 e))]
   unfold yU
   rw[mc rfl]
   unfold jy
   rw[mc rfl]
   exact j14 true (by rw[ma hm',ma c1,mc (.inl c2),mc rfl])
 by_cases d1:m.2=1
 .rw[ma (j4 d1)]
  exact rest (.inl d1)
 .rw[mc d1]
  refine⟨m.2,g2 1 _ rfl,?_⟩
  by_cases d2:m.2=2
  .rw[show(!decide (m.2=2))=false by simp[d2]]
   exact rest (.inr d2)
  .rw[show(!decide (m.2=2))=true by simp[d2]]
   unfold yi
   rw[mc rfl]
   rw[mc ⟨d1,d2⟩]at hq
   exact hq
abbrev CD:List Nat:=[0,59,60,61,62]
def avG{b0:Nat}(g:ze ro)(hi:zd tag I T M bs h)(hok:ku b0 h)(hQ:∀ bs' tag' I',StepS CD ro tag I tag' I'->zd tag' I' T M bs' (xH h k m).1->Q (xH h k m).2 I'):uK B ro (some ⟨T,0,none⟩) (S k.1) k.2 m.2 (S m.1) I Q:=by
 refine aly fun hs=>?_
 unfold aeC
 refine qf (tag:=tag) 36 hs fun X tag1 I1 st1 r1=>?_
 refine kz (tag:=tag1) 37 (st1 []).sep rfl (by simp[qg]) fun Y tag2 I2 st2 r2=>?_
 have hs2:=(st2 []).sep
 have r12:=r1.keep (st2 [])
 refine⟨S k.1,k.2,qz (r12.read hs2) rfl,S m.1,m.2,qz (r2.read hs2) rfl,?_⟩
 refine asM (tag:=tag2) g fun tag3 I3 st3=>?_
 have hs3:=(st3 []).sep
 have k3:∀ R,qd R ro tag I tag3 I3:=fun R=>(st1 R).trans ((st2 R).trans (st3 R))
 have h3:=hi.fresh k3
 have x3:=r12.keep (st3 [])
 have y3:=r2.keep (st3 [])
 unfold xH at hQ
 by_cases c0:abo k m=0
 .rw[ma (j4 c0)]at hQ⊢
  refine⟨_,rfl,some M,h3.cell.cell1 hs3,S k.1,k.2,qz (x3.read hs3) rfl,?_⟩
  refine vn (k:=k) h3.map.map hs3 afu (aew ai3) apg ?_
  have key:∀ (D mm:Nat) (s:Sl) (tag4:Nat->Nat) (I4:AH),StepS CD ro tag I tag4 I4->zd tag4 I4 T M bs h->Row tag4 I4 36 81 ⟨some ⟨X,0,none⟩,2,2⟩ (kV k)->Row tag4 I4 37 314 ⟨some ⟨Y,0,none⟩,2,2⟩ [.string (S m.1),.int .i64 m.2]->
    Row tag4 I4 (rD D) 310 ⟨some ⟨D,0,none⟩,4,4⟩ [Sl.v s,vI (zV h k).acked,vI (zV h k).last,.map (some mm)]->ql tag4 I4 (rE D) 132 3 s ((zV h k).events.map evV)->vm kSI tag4 I4 (rM D) mm (mk1 (zV h k).marks)->
    (∀tag5 I5 d',qd [rM D] ro tag4 I4 tag5 I5->yC tag5 I5 D k d'->∀ tag6 I6,qd [126] ro tag5 I5 tag6 I6->vm kSI tag6 I6 126 M (wR (kvP h bs) k (afJ D))->∃ bs',zd tag6 I6 T M bs' (wR h k d'))->
    jH B ro (some ⟨T,0,none⟩) X Y Q (some ⟨D,0,none⟩) I4:=by
   intro D mm s tag4 I4 s4 h4 x4 y4 row ev mk fin
   have hs4:=s4.sep
   unfold jH
   have gr:=(row.read hs4).2.2 _ rfl
   refine yl tag4 [rD D] ?_
   have hsA:SL.Sep (join ro (SL.inR tag4 [rD D] I4)) (SL.zE tag4 [rD D] I4):=hs4.lentR
   have mkA:=mk.outR (L:=[rD D]) (by simp[rD,rM,rE]<;>omega)
   refine⟨_,rfl,some mm,row.lendR hs4 y0 rfl (i:=3) rfl,S m.1,m.2,?_,?_⟩
   .exact zx 0 fun i v hv=>by rw[akT hs4,ml];exact agK (qz (y4.read hs4) rfl) hv
   refine vn (k:=m) mkA hsA aj8 (aew amk) arp ?_
   rw[ao6]
   have room:=(zV h k).events
   have tail:∀ full:Bool,(full=true↔m∉(zV h k).marks/\32<=(zV h k).marks.length+(zV h k).events.length)->jG B ro (some ⟨T,0,none⟩) X Y (some ⟨D,0,none⟩) Q full I4:=fun full hf=>by
    unfold jG
    by_cases c1:full=true
    .rw[mc c1]
     rw[mc (hf.1 c1)]at hQ
     exact hQ bs tag4 I4 s4 h4
    rw[ma c1]
    rw[ma (fun e=>c1 (hf.2 e))]at hQ
    refine⟨_,rfl,some mm,gr 3 _ rfl,S m.1,m.2,qz (y4.read hs4) rfl,?_⟩
    refine abu (k:=m) mk hs4 aj8 (aew amk) fun I5 st5 m5=>?_
    rw[avu]at m5
    have h5:zd tag4 I5 T M bs h->True:=fun _=>trivial
    refine⟨_,rfl,some M,(h4.cell.keep st5 (by simp[rD,rM,rE]<;>omega)).cell1 st5.sep,S k.1,k.2,qz ((x4.keep st5 (by simp[rD,rM,rE]<;>omega)).read st5.sep) rfl,?_⟩
    refine abu (k:=k) (h4.map.map.keep st5 (by simp[rD,rM,rE]<;>omega)) st5.sep afu (aew ai3) fun I6 st6 m6=>?_
    obtain⟨bs',h6⟩:=fin tag4 I5 (atY (zV h k) m) st5 ⟨mm,s,row.keep st5 (by simp[rD,rM,rE]<;>omega),ev.keep st5 (by simp[rD,rM,rE]<;>omega),m5⟩ tag4 I6 st6 m6
    exact hQ bs' tag4 I6 (s4.trans ((st5.s (by simp[rD,rM,rE]<;>omega)).trans (st6.s y0))) h6
   by_cases c2:m∈(zV h k).marks
   .rw[mc c2]
    refine⟨1,rfl,?_⟩
    rw[ma y1]
    intro hd
    rw[akt]
    exact tail false ⟨(fun e=>by cases e),fun e=>mt c2 e.1⟩
   .rw[ma c2]
    refine⟨0,rfl,?_⟩
    rw[mc rfl]
    refine⟨_,rfl,_,rfl,s,row.lendR hs4 y0 rfl (i:=0) rfl,some mm,row.lendR hs4 y0 rfl (i:=3) rfl,?_⟩
    refine ald mkA hsA aj8 ?_
    refine⟨_,rfl,fun hd=>?_⟩
    rw[akt]
    have e1:(mk1 (zV h k).marks).length=(zV h k).marks.length:=by simp
    have e2:s.len=(zV h k).events.length:=by rw[ev.len,mg]
    have hroom:(zV h k).events.length+(zV h k).marks.length<=32:=by
     unfold zV
     cases e:qj h k with
     | none=>simp
     | some d=>exact(hok.ok _ (xt e)).room
    rw[e1,e2,SL.qY z7 z7]
    refine tail _ ?_
    rw[me]
    exact⟨fun e=>⟨c2,z7⟩,fun e=>by have:=e.2;omega⟩
  rcases h3.map.look k with⟨a1,a2⟩ | ⟨i,b,d,hb,hp,a3,a4,mm,s,row,ev,mk⟩
  .rw[a2]
   refine⟨none,rfl,?_⟩
   rw[mc rfl]
   have ed:zV h k=⟨[],0,0,[]⟩:=by unfold zV;rw[a1];try rfl
   intro mm hrom hm D hroD hD
   have hDm:D≠mm:=fun e=>by rw[e,qE]at hD;cases hD
   have hD0:I3 D=none:=by rw[pW _ _ hDm]at hD;exact hD
   have n1:∀ R,qd R ro tag3 I3 (setTag tag3 mm (rM D)) (upd I3 mm (.map #[] 0)):=fun R=>qd.fresh hs3 hrom hm
   have m1:vm kSI (setTag tag3 mm (rM D)) (upd I3 mm (.map #[] 0)) (rM D) mm []:=⟨by simp[setTag],_,_,qE _ _ _,rfl,y0,y0⟩
   have n2:∀ R,qd R ro (setTag tag3 mm (rM D)) (upd I3 mm (.map #[] 0)) (setTag (setTag tag3 mm (rM D)) D (rD D)) (upd (upd I3 mm (.map #[] 0)) D (.cells #[Sl.v ⟨none,0,0⟩,.int .i64 0,.int .i64 0,.map (some mm)] 310)):=fun R=>qd.fresh (n1 []).sep hroD hD
   have rw2:Row (setTag (setTag tag3 mm (rM D)) D (rD D)) (upd (upd I3 mm (.map #[] 0)) D (.cells #[Sl.v ⟨none,0,0⟩,.int .i64 0,.int .i64 0,.map (some mm)] 310)) (rD D) 310 ⟨some ⟨D,0,none⟩,4,4⟩ [Sl.v ⟨none,0,0⟩,vI 0,vI 0,.map (some mm)]:=
    .inr ⟨D,_,rfl,by simp[setTag],qE _ _ _,y0,rfl,mR _,fun i hi=>by simp⟩
   generalize (setTag (setTag tag3 mm (rM D)) D (rD D))=tag4 at n2 rw2⊢
   generalize (upd (upd I3 mm (.map #[] 0)) D (.cells #[Sl.v ⟨none,0,0⟩,.int .i64 0,.int .i64 0,.map (some mm)] 310))=I4 at n2 rw2⊢
   have k4:∀ R,qd R ro tag3 I3 tag4 I4:=fun R=>(n1 R).trans (n2 R)
   have h4:=h3.fresh k4
   have hnb:D∉bs:=fun hm'=>by
    obtain⟨i,hi',e⟩:=ni hm'
    obtain⟨o,ho⟩:=(h3.map.at' i D _ _ (by rw[md hi',e]) (md (by rw[<-h3.map.len];exact hi'))).own
    rw[hD0]at ho;cases ho
   refine key D mm ⟨none,0,0⟩ tag4 I4 (qv fun R=>(k3 R).trans (k4 R)) h4 (x3.keep (k4 [])) (y3.keep (k4 [])) (by rw[ed];exact rw2) (by rw[ed];exact ql.nil _ _ _) (by rw[ed];exact m1.keep (n2 [])) fun tag5 I5 d' st5 hd5 tag6 I6 st6 m6=>?_
   have hR:agI D [rM D]:=by
    refine⟨by simp[rD,rM,rE]<;>omega,by simp[rD,rM,rE]<;>omega,fun x hx e=>?_,fun x hx e=>mr.1 hx,fun x hx e=>?_⟩
    .rw[mr.1 hx]at e;unfold rM at e;omega
    .rw[mr.1 hx]at e;unfold rM at e;omega
   exact⟨bs++[D],h4.new a1 st5 hR hnb hd5 st6 m6⟩
  .rw[a4]
   refine⟨some ⟨b,0,none⟩,rfl,?_⟩
   rw[ma y0]
   have ed:zV h k=d:=by unfold zV;rw[a3];try rfl
   refine key b mm s tag3 I3 (qv k3) h3 x3 y3 (by rw[ed];exact row) (by rw[ed];exact ev) (by rw[ed];exact mk) fun tag5 I5 d' st5 hd5 tag6 I6 st6 m6=>?_
   have hR:agI b [rM b]:=by
    refine⟨by simp[rD,rM,rE]<;>omega,by simp[rD,rM,rE]<;>omega,fun x hx e=>?_,fun x hx e=>mr.1 hx,fun x hx e=>?_⟩
    .rw[mr.1 hx]at e;unfold rM at e;omega
    .rw[mr.1 hx]at e;unfold rM at e;omega
   have h5:=h3.old st5 hR hb hp hd5
   rw[aj0 a4]at m6
   exact⟨bs,h5.cell.keep st6,h5.map.mono (by
    have e:kvP (wR h k d') bs=kvP h bs:=by rw[agz d' h3.map.keys hp,amM _ _ _ _ _ _ hp]
    rw[e];exact m6) fun j c k' y _ _ hy=>hy.keepS (st6.s (C:=[62]) y0)⟩
 .rw[mc (j4 c0)]at hQ⊢
  exact hQ bs tag3 I3 (qv k3) h3
end
end Zt
namespace Zt
open Go SL Pa Wi
structure aj9(c:wM):Prop where
 home:c.home.length<=1048576
 path:c.path.length<=1048576
 ops:∀ o∈c.ops,o.path.length<=1048576/\o.data.length<=1048576
end Zt
namespace Zt
open Go SL G Pa Wi
variable{B:ZB}{ro I I':AH}{tag tag':Nat->Nat}
structure agP(tag:Nat->Nat)(I:AH)(q m:Nat)(os ms:Sl)(c:wM):Prop where
 ops:abR tag I q os c.ops
 mem:Row tag I m 3 ms (c.members.map vI)
def wM.zero:wM:=⟨0,[],0,0,0,0,0,0,[],[],false,0,[]⟩
end Zt
namespace Zt
open Go SL Pa
def Loc(h:Str)(a b:St):Prop:= ∀k,qq k=some h->a.lookup k=b.lookup k
def Out(h:Str)(a a':St):Prop:= ∀k,qq k≠some h->a'.lookup k=a.lookup k
def alB{q u:Str}(h:qw q=some u):∃ qs,parts q=some qs/\qs≠[]/\parts u=some qs.dropLast:=by
 unfold qw at h
 cases hq:parts q with
 | none=>rw[hq]at h;cases h
 | some qs=>
  rw[hq]at h
  simp only at h
  split at h
  .cases h
  .rename_i hne
   cases h
   exact⟨qs,rfl,hne,qZ.2 ⟨rfl,(qZ.1 hq).2.up⟩⟩
def afv{q u h:Str}(hp:qw q=some u)(hu:qq u=some h):qq q=some h:=by
 obtain⟨qs,h1,h2,h3⟩:=alB hp
 rw[yy h3]at hu
 rw[yy h1]
 match qs,h2 with
 | [x],_=>simp at hu
 | x::y::r,_=>simpa using hu
def aqu{q u h:Str}{qs:List Str}(hq:parts q=some qs)(hh:qs.head?=some h)(hl:qs.length≠1)(hp:qw q=some u):qq u=some h:=by
 obtain⟨qs',h1,h2,h3⟩:=alB hp
 rw[hq]at h1;cases h1
 rw[yy h3]
 match qs,h2 with
 | [x],_=>simp at hl
 | x::y::r,_=>simpa using hh
def ah8{h k p:Str}(hk:qq k≠some h)(hp:qq p=some h):k≠p:=fun e=>hk (by rw[e];exact hp)
def aru{h p d:Str}{a b:St}{o:Int}{seq:Bool}(hu:∀ u,qw p=some u->qq u=some h)(L:Loc h a b):(we a p d o seq).2=(we b p d o seq).2/\Loc h (we a p d o seq).1 (we b p d o seq).1:=by
 unfold we
 cases hp:qw p with
 | none=>exact⟨rfl,L⟩
 | some u=>
  have hhu:=hu u hp
  simp only
  rw[L u hhu]
  split
  .exact⟨rfl,L⟩
  .split
   .exact⟨rfl,L⟩
   .cases hn:b.lookup u with
    | none=>exact⟨rfl,L⟩
    | some n=>
     simp only
     split
     .exact⟨rfl,L⟩
     .split
      .exact⟨rfl,L⟩
      .cases hq:(if seq then pn p n.ctr else some p)with
       | none=>exact⟨rfl,L⟩
       | some q=>
        simp only
        have hpq:qw q=some u:=by
         cases seq with
         | true=>simp at hq;obtain⟨_,_,e⟩:=abm hq;rw[e,hp]
         | false=>simp at hq;rw[<-hq,hp]
        have hhq:=afv hpq hhu
        rw[L q hhq]
        split
        .exact⟨rfl,L⟩
        .refine⟨rfl,fun k hk=>?_⟩
         rw[wu,wu,jv,jv,L k hk]
def aml{h p d:Str}{a:St}{o:Int}{seq:Bool}(hu:∀ u,qw p=some u->qq u=some h):Out h a (we a p d o seq).1:=by
 have R:Out h a a:=fun _ _=>rfl
 unfold we
 cases hp:qw p with
 | none=>exact R
 | some u=>
  have hhu:=hu u hp
  simp only
  split
  .exact R
  .split
   .exact R
   .cases hn:a.lookup u with
    | none=>exact R
    | some n=>
     simp only
     split
     .exact R
     .split
      .exact R
      .cases hq:(if seq then pn p n.ctr else some p)with
       | none=>exact R
       | some q=>
        simp only
        have hpq:qw q=some u:=by
         cases seq with
         | true=>simp at hq;obtain⟨_,_,e⟩:=abm hq;rw[e,hp]
         | false=>simp at hq;rw[<-hq,hp]
        have hhq:=afv hpq hhu
        split
        .exact R
        .intro k hk
         rw[wu,ma (ah8 hk hhu),jv]
         cases a.lookup k with
         | some m=>rfl
         | none=>simp only;rw[ma (ah8 hk hhq)]
def amm{h p:Str}{a b:St}{v:Int}(hka:(a.map (·.1)).Nodup)(hkb:(b.map (·.1)).Nodup)(hp:qq p=some h)(hu:∀ u,qw p=some u->qq u=some h)(L:Loc h a b):(wo a p v).2=(wo b p v).2/\Loc h (wo a p v).1 (wo b p v).1:=by
 unfold wo
 rw[L p hp]
 split
 .exact⟨rfl,L⟩
 .cases hn:b.lookup p with
  | none=>exact⟨rfl,L⟩
  | some n=>
   simp only
   split
   .exact⟨rfl,L⟩
   .split
    .exact⟨rfl,L⟩
    .cases hpp:qw p with
     | none=>exact⟨rfl,L⟩
     | some u=>
      simp only
      refine⟨by trivial,fun k hk=>?_⟩
      rw[uN (by rw[pf];exact hka),uN (by rw[pf];exact hkb),wu,wu,L k hk]
def amn{h p:Str}{a:St}{v:Int}(hka:(a.map (·.1)).Nodup)(hp:qq p=some h)(hu:∀ u,qw p=some u->qq u=some h):Out h a (wo a p v).1:=by
 have R:Out h a a:=fun _ _=>rfl
 unfold wo
 split
 .exact R
 .cases hn:a.lookup p with
  | none=>exact R
  | some n=>
   simp only
   split
   .exact R
   .split
    .exact R
    .cases hpp:qw p with
     | none=>exact R
     | some u=>
      simp only
      intro k hk
      rw[uN (by rw[pf];exact hka),ma (ah8 hk hp),wu,ma (ah8 hk (hu u hpp))]
def auk{h p d:Str}{a b:St}{v:Int}(hp:qq p=some h)(L:Loc h a b):(kn a p d v).2=(kn b p d v).2/\Loc h (kn a p d v).1 (kn b p d v).1:=by
 unfold kn
 rw[L p hp]
 split
 .exact⟨rfl,L⟩
 .split
  .exact⟨rfl,L⟩
  .cases hn:b.lookup p with
   | none=>exact⟨rfl,L⟩
   | some n=>
    simp only
    split
    .exact⟨rfl,L⟩
    .exact⟨rfl,fun k hk=>by rw[wu,wu,L k hk]⟩
def aul{h p d:Str}{a:St}{v:Int}(hp:qq p=some h):Out h a (kn a p d v).1:=by
 have R:Out h a a:=fun _ _=>rfl
 unfold kn
 split
 .exact R
 .split
  .exact R
  .cases hn:a.lookup p with
   | none=>exact R
   | some n=>
    simp only
    split
    .exact R
    .intro k hk
     rw[wu,ma (ah8 hk hp)]
def afc{home:Str}{o:MOp}(h:wT home o=0):qq o.path=some home/\(o.kind<=2->∀ u,qw o.path=some u->qq u=some home):=by
 unfold wT at h
 split at h
 .cases h
 .cases hp:parts o.path with
  | none=>rw[hp]at h;cases h
  | some ps=>
   rw[hp]at h
   simp only at h
   split at h
   .cases h
   .rename_i hc
    simp only[not_or,Ld,not_and]at hc
    refine⟨by rw[yy hp];exact hc.1,fun hk u hu=>aqu hp hc.1 (fun e=>?_) hu⟩
    exact mt hk (by have:=hc.2 e;omega)
def aum{home:Str}{owner:Int}{a b:St}{o:MOp}(hw:wT home o=0)(hka:(a.map (·.1)).Nodup)(hkb:(b.map (·.1)).Nodup)(L:Loc home a b):(vT owner a o).2=(vT owner b o).2/\Loc home (vT owner a o).1 (vT owner b o).1:=by
 obtain⟨h1,h2⟩:=afc hw
 unfold vT
 split
 .obtain⟨e1,e2⟩:=aru (p:=o.path) (d:=o.data) (o:=if o.eph then owner else 0) (seq:=o.seq) (h2 z7) L
  exact⟨by simp only;rw[e1],e2⟩
 .split
  .obtain⟨e1,e2⟩:=amm (v:=o.ver) hka hkb h1 (h2 z7) L
   exact⟨by simp only;rw[e1],e2⟩
  .split
   .obtain⟨e1,e2⟩:=auk (d:=o.data) (v:=o.ver) h1 L
    exact⟨by simp only;rw[e1],e2⟩
   .refine⟨?_,L⟩
    simp only
    unfold afL
    rw[L _ h1]
def aun{home:Str}{owner:Int}{a:St}{o:MOp}(hw:wT home o=0)(hka:(a.map (·.1)).Nodup):Out home a (vT owner a o).1:=by
 obtain⟨h1,h2⟩:=afc hw
 unfold vT
 split
 .exact aml (h2 z7)
 .split
  .exact amn hka h1 (h2 z7)
  .split
   .exact aul h1
   .exact fun _ _=>rfl
def apj{a:St}(h:(a.map (·.1)).Nodup):a.Nodup:=List.Pairwise.of_map (·.1) (fun a b h e=>h (by rw[e])) h
def ai4(h:Str):∀ a:St,(a.map (uw h)).sum=((a.filter fun p=>decide (qq p.1=some h)).map (uw h)).sum
 | []=>rfl
 | p::r=>by
  have ih:=ai4 h r
  by_cases c:qq p.1=some h
  .rw[LD (j4 c)];simp[ih]
  .rw[LE (j4 c)]
   rw[mF,List.sum_cons,ih]
   unfold uw;rw[ma c];simp
def aka{h:Str}{a b:St}(hka:(a.map (·.1)).Nodup)(hkb:(b.map (·.1)).Nodup)(L:Loc h a b):zh a h=zh b h:=by
 have hp:(a.filter fun p=>decide (qq p.1=some h)).Perm (b.filter fun p=>decide (qq p.1=some h)):=by
  refine(LR ((apj hka).filter _) ((apj hkb).filter _)).2 fun p=>?_
  obtain⟨k,n⟩:=p
  simp only[Le,mS]
  constructor
  .rintro⟨h1,h2⟩
   exact⟨(qU hkb).1 (by rw[<-L k h2];exact(qU hka).2 h1),h2⟩
  .rintro⟨h1,h2⟩
   exact⟨(qU hka).1 (by rw[L k h2];exact(qU hkb).2 h1),h2⟩
 unfold zh
 rw[ai4 h a,ai4 h b,aoW (hp.map (uw h)),List.countP_eq_length_filter,List.countP_eq_length_filter,hp.length_eq]
def avH{home:Str}{owner qn qb:Int}{w:ph}{o:MOp}(hk:(w.st.map (·.1)).Nodup):Out home w.st (doE home owner qn qb w o).2.st:=by
 by_cases hc:wT home o=0
 .have:=aun (owner:=owner) hc hk
  unfold doE
  rw[ma (j4 hc)]
  split
  .exact this
  .split
   .exact this
   .exact this
 .unfold doE
  rw[mc hc]
  exact fun _ _=>rfl
def arv{home:Str}{owner qn qb:Int}:∀ {os:List MOp} {i b:Nat} {w v:ph},qQ b w.st->b+os.length<=4398046511103->zt home owner qn qb os i w= .inr v->Out home w.st v.st:=by
 intro os
 induction os with
 | nil=>intro i b w v _ _ h;cases h;exact fun _ _=>rfl
 | cons o os ih=>
  intro i b w v h1 hb h
  simp only[mz]at hb
  unfold zt at h
  split at h
  .cases h
  .have e1:=ih (aeT h1 z7) z7 h
   have e2:=avH (home:=home) (owner:=owner) (qn:=qn) (qb:=qb) (o:=o) h1.inv.keys
   exact fun k hk=>(e1 k hk).trans (e2 k hk)
def af9{a:St}(hk:(a.map (·.1)).Nodup)(k:Str):(srt a).lookup k=a.lookup k:=(ae7 (zZ a).symm hk k).symm
def ai5{home:Str}{owner qn qb:Int}{ops:List MOp}{a:St}{b:Nat}(ha:qQ b a)(hb:b<=4398046511000):Out home a (qR a home owner qn qb ops).st:=by
 unfold qR
 split
 .exact fun _ _=>rfl
 .split
  .exact fun _ _=>rfl
  .cases e:zt home owner qn qb ops 0 ⟨srt a,[],[]⟩with
   | inl x=>exact fun _ _=>rfl
   | inr w=>
    have:=arv (adK ha) z7 e
    exact fun k hk=>(this k hk).trans (af9 ha.inv.keys k)
def ahK{st:St}{ws:List Int}{k:Str}:pS st ws k=true↔∃ n,st.lookup k=some n/\n.own≠0/\n.own∈ws:=by
 unfold pS
 cases st.lookup k with
 | none=>simp
 | some n=>simp
def amo{st:St}{ws:List Int}(hk:(st.map (·.1)).Nodup){k:Str}:k∈kd st ws↔pS st ws k=true:=by
 unfold kd
 rw[List.mem_reverse,Le]
 refine⟨fun h=>h.2,fun h=>⟨?_,h⟩⟩
 obtain⟨n,hn,_⟩:=ahK.1 h
 exact((zZ st).map (·.1)).mem_iff.2 (ag3 hn)
def ak1{st:St}{ws:List Int}(hk:(st.map (·.1)).Nodup):(kd st ws).Pairwise fun a b=>b<a:=by
 unfold kd
 rw[List.pairwise_reverse]
 refine List.Pairwise.filter _ ?_
 rw[LJ]
 exact ahU hk
def amp{st:St}{ws:List Int}:(kd st ws).length<=st.length:=by
 unfold kd
 rw[List.length_reverse]
 refine LA (List.length_filter_le _ _) ?_
 rw[mg,(zZ st).length_eq]
 exact mR _