import Derived.Test.YtomdigihapdhnaaGreatDoorXQ
set_option linter.all false
set_option maxRecDepth 99999
set_option maxHeartbeats 0
open Go.IntKind(i64)
open Go.Proofs.Tryz
namespace Go.Proofs.YtomdigihapdhnaaGreatDoor
namespace Zt
open Go SL G Pa Wi
variable{B:World}{ro I I':AH}{tag tag':Nat->Nat}
variable{Q:Int->Int->Sl->Int->Sl->Int->Int->Int->Int->Sl->Sl->Int->AH->Prop}{C bs:List Nat}{l:List Value}{M T Th Tt W:Nat}{ms s:Sl}
theorem adE:prog.underlying 240=some (.map 9 255):=by kernel_rfl
theorem adT:prog.underlying 252=some (.map 3 249):=by kernel_rfl
theorem u3':prog.underlying 3=some (.int .i64):=by kernel_rfl
theorem atX:prog.underlying 55=some (.slice 3):=by kernel_rfl
theorem aq4:qp prog 3 (.int .i64 0) 1 8:=qp.of (by kernel_rfl)
theorem amN:qp prog 255 (.pointer none) 1 8:=qp.of (by kernel_rfl)
theorem afz(q:Nat){Q:Sl->AH->Prop}(h:SL.zw ro I s l)(hs:SL.Sep ro I)(hl:l.length<=1048576)(hv:∀ v∈l,qh v=true)(hQ:∀ s' tag' I',(∀R,qe R ro tag I tag' I')->Row tag' I' q 3 s' l->Q s' I'):xb B ro s I Q:=by
 refine afk fun _=>?_
 unfold ue
 by_cases h0:s.a=none
 .rw[if_pos h0]
  rw[h.2.1 h0]at hQ
  exact hQ _ tag I (fun _=>qe.refl hs) (Row.nil q 3)
 .rw[if_neg h0]
  refine qj (tag:=tag) q hs fun b tag1 I1 st1 r1=>?_
  have h':SL.zw ro I1 s l:=h.step (st1 [])
  refine abP r1 (st1 []).sep h' atX aq4 rfl hv (by simp;omega) (by decide) fun s' tag2 I2 st2 r2=>?_
  exact⟨s',rfl,hQ s' tag2 I2 (fun R=>(st1 R).trans (st2 R (.inl rfl))) r2⟩
theorem apJ{Q:Bool->AH->Prop}(h:SL.zw ro I s [vI 0,vI 1,vI 2])(hQ:Q true I):xJ B ro s I Q:=by
 refine acT fun _=>?_
 unfold yA
 have hl:(s.len:Int)=3:=by rw[h.1];try rfl
 obtain⟨p,hp⟩:∃ p,s.a=some p:=by
  cases e:s.a with
  | none=>have:=h.2.1 e;cases this
  | some p=>exact⟨p,rfl⟩
 have g0:=h.2.2 p hp 0 _ rfl
 have g1:=h.2.2 p hp 1 _ rfl
 have g2:=h.2.2 p hp 2 _ rfl
 refine lfpD.intro ?_
 generalize hY:lfpD (wh B ro s Q)=Y
 unfold wh
 rw[hl,if_pos (by decide)]
 refine⟨p,hp,by decide,by decide,0,g0,?_⟩
 rw[if_neg (by decide),if_neg (by decide)]
 unfold zo wy
 rw[if_neg (by decide),show i64.wrap (0+1)=1 from rfl,<-hY]
 refine lfpD.intro ?_
 rw[hY]
 unfold wh
 rw[hl,if_pos (by decide)]
 refine⟨p,hp,by decide,by decide,1,g1,?_⟩
 rw[if_neg (by decide),if_pos (by decide)]
 refine⟨p,hp,by decide,by decide,0,g0,?_⟩
 unfold zo wy
 rw[if_neg (by decide),show i64.wrap (1+1)=2 from rfl,<-hY]
 refine lfpD.intro ?_
 rw[hY]
 unfold wh
 rw[hl,if_pos (by decide)]
 refine⟨p,hp,by decide,by decide,2,g2,?_⟩
 rw[if_neg (by decide),if_pos (by decide)]
 refine⟨p,hp,by decide,by decide,1,g1,?_⟩
 unfold zo wy
 rw[if_neg (by decide),show i64.wrap (2+1)=3 from rfl,<-hY]
 refine lfpD.intro ?_
 rw[hY]
 unfold wh
 rw[hl,if_neg (by decide)]
 unfold xv
 rw[hl]
 exact hQ
theorem aq5{Q:Int->Bool->Int->AH->Prop}(hc:Row tag I 55 242 ⟨some ⟨T,0,none⟩,1,1⟩ [.map (some M)])(hm:zY kS tag I 119 M [])
  (hQ:∀ tag' I',StepS [0,55,56,57,58] ro tag I tag' I'->Q 1 true 0 I'):xK B ro (some ⟨T,0,none⟩) ⟨#[97]⟩ 5 100 I Q:=by
 refine acU fun hs=>?_
 unfold yB
 refine aeQ ?_
 rw[show we (L ⟨#[97]⟩)=true from by decide,if_neg (by simp)]
 refine us fun _=>?_
 unfold jA
 show(if¬(((decide ((1:Int)<=5)) && (decide ((5:Int)<=4611686018427387903)))=true)then _ else _)
 rw[if_neg (by decide),if_neg (by decide)]
 refine⟨_,rfl,some M,hc.cell1 hs,?_⟩
 refine zZ (k:=[97]) hm hs adE (ajt u9) amN ?_
 refine⟨none,rfl,?_⟩
 rw[if_pos rfl]
 refine af8 kI (tag:=tag) 57 hs fun m tag1 I1 st1 m1=>?_
 refine qj (tag:=tag1) 56 (st1 []).sep fun H tag2 I2 st2 r2=>?_
 have m2:=m1.keep (st2 [])
 have hs2:=(st2 []).sep
 unfold vu
 refine⟨_,rfl,some m,(r2.read hs2).2.2 _ rfl 1 _ rfl,?_⟩
 refine af9 adT m2 hs2 fun es clock x hb he hbn hro hx=>?_
 have st3:∀ R,qe R ro tag2 I2 (setTag tag2 x 0) (upd I2 x (.mapIter (some m) clock #[] clock)):=fun R=>qe.fresh hs2 hro hx
 refine⟨_,rfl,?_⟩
 refine lfpD.intro ?_
 show awp prog ro (Instr.next (.pointer (some ⟨x,0,none⟩)) false 0) _ _
 refine adc (qE _ _ _) ((st3 []).keep m _ hb (by simp)).2 (st3 []).sep hbn (fun _=>?_) (fun e hes _=>?_)
 rotate_left
 .have:es.toList=[]:=by simpa using he
  rw[this]at hes;cases hes
 refine .inl ⟨rfl,?_⟩
 generalize (upd I2 x (.mapIter (some m) clock #[] clock))=I3 at st3⊢
 generalize (setTag tag2 x 0)=tag3 at st3
 have hs3:=(st3 []).sep
 have r3:=r2.keep (st3 [])
 have m3:=m2.keep (st3 [])
 unfold xw
 refine⟨_,rfl,some m,(r3.read hs3).2.2 _ rfl 1 _ rfl,?_⟩
 refine ajk m3 hs3 adT ?_
 refine⟨0,rfl,?_⟩
 rw[if_neg (by decide)]
 refine⟨_,rfl,0,(r3.read hs3).2.2 _ rfl 0 _ rfl,?_⟩
 unfold vd
 rw[if_neg (by decide)]
 refine⟨_,rfl,0,(r3.read hs3).2.2 _ rfl 0 _ rfl,_,rfl,?_⟩
 refine r3.stPre [.int .i64 (i64.wrap (0+1))] 0 _ I3 hs3 (by simp) (by simp[qh]) fun I4 st4 r4=>?_
 have hs4:=st4.sep
 have m4:=m3.keep st4
 refine⟨_,rfl,_,rfl,_,rfl,some m,(r4.read hs4).2.2 _ rfl 1 _ rfl,_,(r4.read hs4).2.2 _ rfl 0 _ rfl,_,(r4.read hs4).2.2 _ rfl 0 _ rfl,?_⟩
 refine qj (tag:=tag3) 58 hs4 fun Z tag5 I5 st5 r5=>?_
 refine aau (k:=i64.wrap (0+1)) (m4.keep (st5 [])) (st5 []).sep adT (akS u3') fun I6 st6 m6=>?_
 have hc6:Row tag5 I6 55 242 ⟨some ⟨T,0,none⟩,1,1⟩ [.map (some M)]:=(((((hc.keep (st1 [])).keep (st2 [])).keep (st3 [])).keep st4).keep (st5 [])).keep st6
 have hm6:zY kS tag5 I6 119 M []:=(((((hm.keep (st1 [])).keep (st2 [])).keep (st3 [])).keep st4).keep (st5 [])).keep st6
 have r6:=(r4.keep (st5 [])).keep st6
 refine⟨_,rfl,some M,hc6.cell1 st6.sep,?_⟩
 refine aau (k:=[97]) hm6 st6.sep adE (ajt u9) fun I7 st7 m7=>?_
 have r7:=r6.keep st7
 refine⟨_,rfl,_,(r7.read st7.sep).2.2 _ rfl 0 _ rfl,?_⟩
 refine hQ tag5 I7 ?_
 refine(((st1 []).trans (st2 [])).trans (st3 [])).s (by simp) |>.trans ((st4.s (by simp)).trans (((st5 []).s (by simp)).trans ((st6.s (by simp)).trans (st7.s (by simp)))))
theorem aq6{h:kW}{k nonce:Int}{s:jQ}(hn:(h.live.map (·.2.nonce)).Nodup)(hm:(k,s)∈h.live)(e:s.nonce=nonce):adQ h nonce=some (k,s):=by
 unfold adQ
 have key:∀ l:List (Int×jQ),(l.map (·.2.nonce)).Nodup->(k,s)∈l->l.find? (fun p=>decide (p.2.nonce=nonce))=some (k,s):=by
  intro l
  induction l with
  | nil=>intro _ h;cases h
  | cons p l ih=>
   intro hn hm
   simp only[List.map_cons,List.nodup_cons]at hn
   rw[List.find?_cons]
   by_cases c:p.2.nonce=nonce
   .rw[decide_eq_true c]
    rcases List.mem_cons.1 hm with h | h
    .rw[h]
    .exact absurd (List.mem_map.2 ⟨(k,s),h,by rw[c];exact e⟩) hn.1
   .rw[decide_eq_false c]
    rcases List.mem_cons.1 hm with h | h
    .rw[<-h]at c;exact absurd e c
    .exact ih hn.2 h
 exact key _ hn hm
abbrev CO:List Nat:=[0,55,56,57,58]
theorem aq7{b0:Nat}{t:Tbl}{home:Str}{nonce lease:Int}{Q:Int->Bool->Int->AH->Prop}(h:wZ tag I T M bs t)(hi:kg b0 t)(hb0:b0<=33554433)
  (hQ:∀ f tag' I',StepS CO ro tag I tag' I'->ahd tag' I' T (vm t home nonce lease).1->Q (vm t home nonce lease).2.1 f (vm t home nonce lease).2.2 I'):xK B ro (some ⟨T,0,none⟩) (S home) nonce lease I Q:=by
 refine acU fun hs=>?_
 unfold yB
 have same:∀ (x:Int×Int),vm t home nonce lease=(t,x)->∀ f,Q x.1 f x.2 I:=fun x e f=>by
  have:=hQ f tag I (StepS.refl hs)
  rw[e]at this
  exact this ⟨M,bs,h⟩
 refine aeQ ?_
 rw[L_S]
 cases h1:we home with
 | false=>
  rw[if_pos (by simp)]
  exact same (0,82) (by unfold vm;rw[if_pos h1]) false
 | true=>
 rw[if_neg (by simp)]
 refine us fun _=>?_
 unfold jA
 show(if¬(okN nonce=true)then _ else _)
 cases h2:okN nonce with
 | false=>
  rw[if_pos (by simp)]
  exact same (0,10) (by unfold vm;rw[if_neg (by simp[h1]),if_pos h2]) false
 | true=>
 rw[if_neg (by simp)]
 by_cases h3:lease<1\/1048576<lease
 .rw[if_pos h3]
  exact same (0,153) (by unfold vm;rw[if_neg (by simp[h1]),if_neg (by simp[h2]),if_pos h3]) false
 rw[if_neg h3]
 have eo:vm t home nonce lease=match adQ (qJ t home) nonce with
   | some p=>(t,p.1,0)
   | none=>if 64<=(qJ t home).live.length\/(qJ t home).last=4611686018427387903 then(t,0,61)
    else(wD t home (aeJ (qJ t home) nonce lease),(qJ t home).last+1,0):=by
  unfold vm
  rw[if_neg (by simp[h1]),if_neg (by simp[h2]),if_neg h3]
  try rfl
 have hok:=aha hi home
 have key:∀ (H m:Nat) (cs:List Nat) (tag1:Nat->Nat) (I1:AH),StepS CO ro tag I tag1 I1->wZ tag1 I1 T M bs t->Row tag1 I1 (rH H) 254 ⟨some ⟨H,0,none⟩,2,2⟩ [vI (qJ t home).last,.map (some m)]->ym kI (aea tag1 I1 H home) tag1 I1 (rL H) m cs (qJ t home).live->
   (∀R tag2 I2 x,agl H R->qe R ro tag1 I1 tag2 I2->yN tag2 I2 H home x->∀ tag3 I3,qe [119] ro tag2 I2 tag3 I3->zY kS tag3 I3 119 M (wD (kvP t bs) home (aeo H))->ahd tag3 I3 T (wD t home x))->
   vu B ro (some ⟨T,0,none⟩) (S home) nonce lease Q (some ⟨H,0,none⟩) I1:=by
  intro H m cs tag1 I1 s1 h1 row map fin
  have hs1:=s1.sep
  unfold vu
  refine⟨_,rfl,some m,(row.read hs1).2.2 _ rfl 1 _ rfl,?_⟩
  refine alb (F:=fun p=>jH B ro (some ⟨T,0,none⟩) (S home) nonce lease p (some ⟨H,0,none⟩) Q) (R:=[]) (ty:=0) adT map.map hs1 (by simp) (by simp) (by unfold rL;omega)
   (fun d _ tag2 I2=>qe [0] ro tag1 I1 tag2 I2/\∀ p∈d,∀(i c:Nat) (s:jQ),cs[i]?=some c->(qJ t home).live[i]?=some (p.1,s)->s.nonce≠nonce) (fun tag2 I2 st=>⟨st [0],by simp⟩) ?_
  rintro x d rest s tag2 I2 Y hp hs2 ⟨a1,a2⟩ hn
  unfold jH
  refine hn _ (fun hr=> .inl ⟨rfl,?_⟩) fun p q va vb tag4 I4 hp4 st4 hm4 he hY=> .inr ⟨va,vb,rfl,he _ ?_⟩
  .-- none has the nonce
   rw[hr,List.append_nil]at hp
   have hw:adQ (qJ t home) nonce=none:=by
    unfold adQ
    rw[List.find?_eq_none]
    intro p hpm
    obtain⟨i,hil,e⟩:=List.getElem_of_mem hpm
    have hil':i<cs.length:=by rw[map.len];exact hil
    have hpi:(qJ t home).live[i]?=some (p.1,p.2):=by rw[List.getElem?_eq_getElem hil,e]
    have hkv:p.1∈(kvP (qJ t home).live cs).map (·.1):=by rw[adx _ _ map.len];exact List.mem_map.2 ⟨p,hpm,rfl⟩
    obtain⟨q,hq,e2⟩:=List.mem_map.1 hkv
    have:=a2 q (hp.mem_iff.2 hq) i cs[i] p.2 (List.getElem?_eq_getElem hil') (by rw[e2];exact hpi)
    simpa using this
   rw[hw]at eo
   simp only at eo
   have row2:=row.keep a1
   have map2:zY kI tag2 I2 (rL H) m (kvP (qJ t home).live cs):=map.map.keep a1
   have h2:wZ tag2 I2 T M bs t:=h1.keepS (a1.s (C:=[0]) (by simp))
   have s2:StepS CO ro tag I tag2 I2:=s1.trans (a1.s (by simp))
   unfold xw
   refine⟨_,rfl,some m,(row2.read hs2).2.2 _ rfl 1 _ rfl,?_⟩
   refine ajk map2 hs2 adT ?_
   rw[ar1 _ _ map.len]
   refine⟨_,rfl,?_⟩
   have full:(64<=(qJ t home).live.length\/(qJ t home).last=4611686018427387903)->Q 0 false 61 I2:=fun c=>by
    rw[if_pos c]at eo
    have:=hQ false tag2 I2 s2
    rw[eo]at this
    exact this ⟨M,bs,h2⟩
   by_cases c1:64<=(qJ t home).live.length
   .rw[if_pos (by omega)]
    unfold vd
    rw[if_pos rfl]
    exact full (.inl c1)
   rw[if_neg (by omega)]
   refine⟨_,rfl,_,(row2.read hs2).2.2 _ rfl 0 _ rfl,?_⟩
   unfold vd
   by_cases c2:(qJ t home).last=4611686018427387903
   .rw[if_pos (by simpa using c2)]
    exact full (.inr c2)
   rw[if_neg (by simpa using c2)]
   rw[if_neg (by omega)]at eo
   have hla:=hok.last
   have ew:i64.wrap ((qJ t home).last+1)=(qJ t home).last+1:=SL.wb (by omega) (by omega)
   refine⟨_,rfl,_,(row2.read hs2).2.2 _ rfl 0 _ rfl,_,rfl,?_⟩
   rw[ew]
   refine row2.stPre [vI ((qJ t home).last+1)] 0 _ I2 hs2 (by simp) (by simp[qh]) fun I4 st4 r4=>?_
   have hs4:=st4.sep
   have map4:=map2.keep st4 (by simp[rH,rL,rS]<;>omega)
   refine⟨_,rfl,_,rfl,_,rfl,some m,(r4.read hs4).2.2 _ rfl 1 _ rfl,_,(r4.read hs4).2.2 _ rfl 0 _ rfl,_,(r4.read hs4).2.2 _ rfl 0 _ rfl,?_⟩
   have k4:qe [0,rH H,rL H] ro tag1 I1 tag2 I4:=(a1.mono (by simp)).trans (st4.mono (by simp))
   refine afr (tag:=tag2) (fun c=>rS H c) hs4 fun Z tag5 I5 hroZ hZ st5 r5=>?_
   refine aau (k:=(qJ t home).last+1) (map4.keep (st5 [])) (st5 []).sep adT (akS u3') fun I6 st6 m6=>?_
   have k6:qe [0,rH H,rL H] ro tag1 I1 tag5 I6:=k4.trans ((st5 _).trans (st6.mono (by simp)))
   have r6:=(r4.keep (st5 [])).keep st6 (by simp[rH,rL,rS]<;>omega)
   have hR:agl H [0,rH H,rL H]:=by
    refine⟨by simp[rH,rL,rS]<;>omega,by simp[rH,rL,rS]<;>omega,by simp[rH,rL,rS]<;>omega,fun x hx e=>?_,fun x hx e=>?_,fun x hx e=>?_⟩
    all_goals
     simp only[List.mem_cons,List.not_mem_nil,or_false]at hx
     rcases hx with rfl | rfl | rfl<;>first | rfl | (exfalso;omega) | (exfalso;simp only[rH,rL]at e;omega)
   have hnk:qI (qJ t home).live ((qJ t home).last+1)=none:=by
    rw[xi]
    intro hmm
    obtain⟨p,hp,e⟩:=List.mem_map.1 hmm
    have:=(hok.rng p hp).2
    omega
   have hnc:Z∉cs:=fun hm=>by
    obtain⟨i,hi,e⟩:=List.getElem_of_mem hm
    obtain⟨d,a,_⟩:=map.at' i Z _ _ (by rw[List.getElem?_eq_getElem hi,e]) (List.getElem?_eq_getElem (by rw[<-map.len];exact hi))
    obtain⟨_,o,ho⟩:=a.tagOf
    have:=(k4.old Z o ho).2
    rw[hZ]at this
    obtain⟨o',ho'⟩:=this
    cases ho'
   refine⟨_,rfl,some M,(h1.cell.keep k6 (by simp[rH,rL,rS]<;>omega)).cell1 st6.sep,?_⟩
   refine aau (k:=home) (h1.map.map.keep k6 (by simp[rH,rL,rS]<;>omega)) st6.sep adE (ajt u9) fun I7 st7 m7=>?_
   have r7:=r6.keep st7 (by simp[rH,rL,rS]<;>omega)
   refine⟨_,rfl,_,(r7.read st7.sep).2.2 _ rfl 0 _ rfl,?_⟩
   have hh:yN tag5 I6 H home (aeJ (qJ t home) nonce lease):=by
    refine⟨m,cs++[Z],r6,map.add hnk m6 hnc ⟨⟨none,0,0⟩,(r5.keep st6 (by simp[rH,rL,rS]<;>omega)),Row.nil 6 5⟩ fun i c k' x hc _ hx=>?_⟩
    refine hx.keep k6 ?_ (by simp[rH,rL,rS]<;>omega)
    simp only[List.mem_cons,List.not_mem_nil,or_false,not_or,rH,rL]
    exact⟨by omega,by omega,by omega⟩
   have:=hQ true tag5 I7 (s1.trans ((k6.s (by simp[rH,rL,rS]<;>omega)).trans (st7.s (by simp))))
   rw[eo]at this
   exact this (fin _ _ _ _ hR k6 hh _ _ st7 m7)
  .-- one session of the house
   have hin:p∈kvP (qJ t home).live cs:=hp4.mem_iff.1 (by simp)
   obtain⟨pk,pv⟩:=p
   obtain⟨i,c,a,b1,b2,rfl⟩:=anx _ _ map.len pk pv hin
   have a4:=a1.trans st4
   obtain⟨dd,hrow,_⟩:=(map.at' i c pk a b1 b2).keep a4 (by simp[rH,rL,rS]<;>omega) (by simp)
   refine⟨pk,some ⟨c,0,none⟩,rfl,_,rfl,a.nonce,(hrow.read st4.sep).2.2 _ rfl 2 _ rfl,?_⟩
   by_cases e:a.nonce=nonce
   .rw[if_pos e]
    rw[aq6 hok.non (List.mem_of_getElem? b2) e]at eo
    have:=hQ false tag4 I4 (s1.trans (a4.s (by simp)))
    rw[eo]at this
    exact this ⟨M,bs,h1.keepS (a4.s (C:=[0]) (by simp))⟩
   .rw[if_neg e]
    refine hY _ tag4 I4 (qe.refl st4.sep) ⟨a4,fun p' hp' i' c' s' c1 c2=>?_⟩
    rcases List.mem_append.1 hp' with h | h
    .exact a2 p' h i' c' s' c1 c2
    .rw[List.mem_singleton.1 h]at c2
     have:i'=i:=acu map.keys (i:=i') (j:=i) (x:=pk) (by rw[List.getElem?_map,c2];try rfl) (by rw[List.getElem?_map,b2];try rfl)
     subst this
     rw[b2]at c2;cases c2
     exact e
 refine⟨_,rfl,some M,h.cell.cell1 hs,?_⟩
 refine zZ (k:=home) h.map.map hs adE (ajt u9) amN ?_
 rcases h.map.look home with⟨g1,g2⟩ | ⟨i,b,x,hb,hp,g3,g4,hA⟩
 .rw[g2]
  refine⟨none,rfl,?_⟩
  rw[if_pos rfl]
  have eh:qJ t home=⟨0,[]⟩:=by unfold qJ;rw[g1];try rfl
  intro m hrom hm H hroH hH
  have hHm:H≠m:=fun e=>by rw[e,qE]at hH;cases hH
  have hH0:I H=none:=by rw[yS _ _ hHm]at hH;exact hH
  have st1:∀ R,qe R ro tag I (setTag tag m (rL H)) (upd I m (.map #[] 0)):=fun R=>qe.fresh hs hrom hm
  have m1:zY kI (setTag tag m (rL H)) (upd I m (.map #[] 0)) (rL H) m []:=⟨by simp[setTag],_,_,qE _ _ _,rfl,by simp,by simp⟩
  have st2:∀ R,qe R ro (setTag tag m (rL H)) (upd I m (.map #[] 0)) (setTag (setTag tag m (rL H)) H (rH H)) (upd (upd I m (.map #[] 0)) H (.cells #[.int .i64 0,.map (some m)] 254)):=fun R=>qe.fresh (st1 []).sep hroH hH
  have r2:Row (setTag (setTag tag m (rL H)) H (rH H)) (upd (upd I m (.map #[] 0)) H (.cells #[.int .i64 0,.map (some m)] 254)) (rH H) 254 ⟨some ⟨H,0,none⟩,2,2⟩ [vI 0,.map (some m)]:=
   .inr ⟨H,_,rfl,by simp[setTag],qE _ _ _,by simp,rfl,Nat.le_refl _,fun i hi=>by simp⟩
  generalize (setTag (setTag tag m (rL H)) H (rH H))=tag2 at st2 r2⊢
  generalize (upd (upd I m (.map #[] 0)) H (.cells #[.int .i64 0,.map (some m)] 254))=I2 at st2 r2⊢
  have k2:StepS [] ro tag I tag2 I2:=((st1 []).trans (st2 [])).s (by simp)
  have h2:wZ tag2 I2 T M bs t:=h.keepS k2 (by simp)
  have hnb:H∉bs:=fun hm'=>by
   obtain⟨i,hi',e⟩:=List.getElem_of_mem hm'
   obtain⟨m',cs',row',_⟩:=h.map.at' i H _ _ (by rw[List.getElem?_eq_getElem hi',e]) (List.getElem?_eq_getElem (by rw[<-h.map.len];exact hi'))
   obtain⟨_,o,ho⟩:=row'.tagOf
   rw[hH0]at ho;cases ho
  refine key H m [] tag2 I2 (k2.mono (by simp)) h2 (by rw[eh];exact r2) (by rw[eh];exact ym.nil (m1.keep (st2 []))) fun R tag3 I3 x' hR st hx tag4 I4 st4 m4=>?_
  refine⟨M,bs++[H],(h2.cell.keep st hR.r55).keep st4,h2.map.add g1 m4 hnb (hx.keepS (st4.s (C:=[55]) (by simp))) fun i b' k' y hb' _ hy=>?_⟩
  exact(hy.other st hR fun e=>hnb (by rw[<-e];exact List.mem_of_getElem? hb')).keepS (st4.s (C:=[55]) (by simp))
 .rw[g4]
  refine⟨some ⟨b,0,none⟩,rfl,?_⟩
  rw[if_neg (by simp)]
  have eh:qJ t home=x:=by unfold qJ;rw[g3];try rfl
  obtain⟨m,cs,row,map⟩:=hA
  rw[<-eh]at row map
  refine key b m cs tag I (StepS.refl hs) h row map fun R tag2 I2 x' hR st hx tag3 I3 st3 m3=>?_
  rw[aih g4]at m3
  have h2:=h.old st hR hb hp hx
  exact⟨M,bs,h2.cell.keep st3 (by simp[rH,rL,rS]<;>omega),h2.map.mono (by
   have e:kvP (wD t home x') bs=kvP t bs:=by rw[ae7 x' h.map.keys hp,akz _ _ _ _ _ _ hp]
   rw[e];exact m3) fun j c k' y _ _ hy=>hy.keepS (st3.s (C:=[55]) (by simp))⟩
abbrev nS:Sl:=⟨none,0,0⟩
theorem qz{p:Addr}(h:SL.zw ro I s l)(hp:s.a=some p):SL.qg ro I p 0 l:=zu 0 fun j v hv=>by rw[Nat.zero_add];exact h.2.2 p hp j v hv
structure afA(tag:Nat->Nat)(I:AH)(W T Tt M:Nat)(ms:Sl)(Th:Nat):Prop where
 own:Row tag I 54 153 ⟨some ⟨W,0,none⟩,5,5⟩ [vI 0,Sl.v ms,ptr T,ptr Tt,ptr Th]
 mem:Row tag I 118 3 ms [vI 0,vI 1,vI 2]
 tree:wa tag I 10 T St.new
 tbl:Row tag I 55 242 ⟨some ⟨Tt,0,none⟩,1,1⟩ [.map (some M)]
 map:zY kS tag I 119 M []
abbrev CN:List Nat:=[0,10,54,55,62]
theorem anh{Q:Option Addr->Int->AH->Prop}(h:SL.zw ro I s [vI 0,vI 1,vI 2])
  (hQ:∀ W T Tt M ms Th tag' I',StepS CN ro tag I tag' I'->afA tag' I' W T Tt M ms Th->Q (some ⟨W,0,none⟩) 0 I'):abQ B ro s I Q:=by
 refine aij fun hs=>?_
 unfold adR
 refine apJ h ?_
 rw[if_neg (by simp)]
 refine afz (tag:=tag) 118 h hs (by decide) (by simp[qh]) fun ms tag1 I1 st1 r1=>?_
 refine ao7 (tag:=tag1) 10 (by decide) (by decide) fun T tag2 I2 st2 t2=>?_
 refine agq fun hs2=>?_
 unfold ach
 refine af8 kS (tag:=tag2) 119 hs2 fun M tag3 I3 st3 m3=>?_
 refine qj (tag:=tag3) 55 (st3 []).sep fun Tt tag4 I4 st4 r4=>?_
 refine ail fun hs4=>?_
 unfold adS
 refine af8 kSI (tag:=tag4) 126 hs4 fun Mh tag5 I5 st5 m5=>?_
 refine qj (tag:=tag5) 62 (st5 []).sep fun Th tag6 I6 st6 r6=>?_
 refine qj (tag:=tag6) 54 (st6 []).sep fun W tag7 I7 st7 r7=>?_
 have k6:qe [] ro tag4 I4 tag7 I7:=((st5 []).trans (st6 [])).trans (st7 [])
 have k3:qe [] ro tag3 I3 tag7 I7:=(st4 []).trans k6
 have k2:qe [] ro tag2 I2 tag7 I7:=(st3 []).trans k3
 refine hQ W T Tt M ms Th tag7 I7 (((st1 []).s (by simp)).trans ((st2.s (by simp)).trans (k2.s (by simp)))) ⟨r7,?_,t2.keep k2,r4.keep k6,m3.keep k3⟩
 exact(r1.keepC st2).keep k2
theorem afA.keepS(h:afA tag I W T Tt M ms Th)(k:StepS C ro tag I tag' I')(hC:54∉C/\55∉C/\10∉C/\6∉C:=by decide):afA tag' I' W T Tt M ms Th:=
 ⟨h.own.keepS k hC.1,h.mem.keepS k hC.1,h.tree.keepS k hC.2.2.1 hC.2.2.2,h.tbl.keepS k hC.2.1,h.map.keepS k hC.2.1⟩
abbrev CA1:List Nat:=[0,2,3,4,5,10,55,56,57,58]
abbrev ajx:List Value:=[.int .i64 0,.int .i64 1,Sl.v nS,.int .i64 0,Sl.v nS,.int .i64 0,.int .i64 0,.int .i64 0,.int .i64 0,Sl.v nS,Sl.v nS,.int .i64 0]
theorem aq8:∀ v∈ajx,qh v=true:=by decide
theorem aq9(g:wV ro)(h:afA tag I W T Tt M ms Th)
  (hQ:∀ tag' I',StepS CA1 ro tag I tag' I'->Q 0 1 nS 0 nS 0 0 0 0 nS nS 0 I'):pN B ro (some ⟨W,0,none⟩) 1 ⟨#[97]⟩ 0 0 5 100 0 0 nS ByteArray.empty false 0 nS I Q:=by
 refine ads fun hs=>?_
 unfold pZ
 refine qj (tag:=tag) 3 hs fun X tag1 I1 st1 r1=>?_
 refine qj (tag:=tag1) 2 (st1 []).sep fun Y tag2 I2 st2 r2=>?_
 have k2:StepS CA1 ro tag I tag2 I2:=((st1 []).trans (st2 [])).s (by simp)
 have h2:afA tag2 I2 W T Tt M ms Th:=h.keepS (C:=[]) (((st1 []).trans (st2 [])).s (by simp)) (by simp)
 have c2:=r1.keep (st2 [])
 have hs2:=(st2 []).sep
 refine⟨⟨#[97]⟩,(c2.read hs2).2.2 _ rfl 1 _ rfl,by decide,_,rfl,some ⟨T,0,none⟩,(h2.own.read hs2).2.2 _ rfl 2 _ rfl,?_⟩
 have hL:L ((⟨#[47]⟩:ByteArray)++⟨#[97]⟩)=[47,97]:=by decide
 obtain⟨MT,bsT,hT⟩:=h2.tree
 refine agb (r:=10) g (by decide) (by decide) (by decide) hT (fun p n hp=>?_) (fun hp=>?_) (fun ps hp hl tag3 I3 st3=>?_) (fun n hn=>?_)
 .simp only[St.new,List.lookup]at hp
  split at hp
  .cases hp;simp
  .cases hp
 .rw[hL]at hp;exact absurd hp (by decide)
 rotate_left
 .rw[hL,show St.new.lookup [47,97]=none by decide]at hn;cases hn
 have h3:=h2.keepS (st3.s (C:=[0]) (by simp))
 have c3:=c2.keepC st3
 have y3:=r2.keepC st3
 refine qj (tag:=tag3) 5 st3.sep fun Z tag4 I4 st4 r4=>?_
 refine r4.stPre _ 0 _ I4 (st4 []).sep (by simp) (by simp[qh]) fun I5 st5 r5=>?_
 have k5:qe [5] ro tag3 I3 tag4 I5:=(st4 [5]).trans st5
 have h5:=h3.keepS (k5.s (C:=[5]) (by simp))
 have c5:=c3.keep k5
 have y5:=y3.keep k5
 have hs5:=st5.sep
 refine⟨⟨#[97]⟩,(c5.read hs5).2.2 _ rfl 1 _ rfl,?_⟩
 refine aeQ ?_
 refine⟨_,rfl,some ⟨Tt,0,none⟩,(h5.own.read hs5).2.2 _ rfl 3 _ rfl,⟨#[97]⟩,(c5.read hs5).2.2 _ rfl 1 _ rfl,5,(c5.read hs5).2.2 _ rfl 4 _ rfl,100,(c5.read hs5).2.2 _ rfl 5 _ rfl,?_⟩
 refine aq5 h5.tbl h5.map fun tag6 I6 st6=>?_
 rw[if_neg (by simp),if_pos ⟨by decide,rfl⟩]
 have o6:=h5.own.keepS st6
 have t6:=h5.tree.keepS st6
 refine⟨_,rfl,some ⟨T,0,none⟩,(o6.read st6.sep).2.2 _ rfl 2 _ rfl,?_⟩
 refine ahU (r:=10) (d:=[]) g (by decide) (by decide) (by decide) t6 ⟨rfl,fun _=>rfl,fun p hp=>by cases hp⟩ (by decide) fun tag7 I7 st7 t7=>?_
 unfold zx
 have y7:=(y5.keepS st6).keepC st7
 refine y7.stPre ajx 0 _ I7 st7.sep (by decide) aq8 fun I8 st8 y8=>?_
 have y9:Row tag7 I8 2 _ ⟨some ⟨Y,0,none⟩,12,12⟩ ajx:=y8
 refine⟨_,_,_,_,_,_,_,_,_,_,_,_,qz (y9.read st8.sep) rfl,?_⟩
 exact hQ tag7 I8 (k2.trans ((st3.s (by simp)).trans ((k5.s (by simp)).trans ((st6.mono (by decide)).trans ((st7.s (by simp)).trans (st8.s (by simp)))))))
abbrev CB:List Nat:=[0,2,3,4,5,10,12,55,56,57,58]
theorem apK(g:wV ro)(h:afA tag I W T Tt M ms Th)
  (hQ:∀ tag' I',StepS CB ro tag I tag' I'->Q 0 1 nS 0 nS 0 0 0 0 nS nS 0 I'):kX B ro (some ⟨W,0,none⟩) 1 ⟨#[97]⟩ 0 0 5 100 0 0 nS ByteArray.empty false 0 nS I Q:=by
 refine ado fun hs=>?_
 unfold py
 refine qj (tag:=tag) 4 hs fun X tag1 I1 st1 r1=>?_
 refine qj (tag:=tag1) 12 (st1 []).sep fun Y tag2 I2 st2 r2=>?_
 have k2:qe [] ro tag I tag2 I2:=(st1 []).trans (st2 [])
 have h2:afA tag2 I2 W T Tt M ms Th:=h.keepS (C:=[]) (k2.s (by simp)) (by simp)
 have c2:=r1.keep (st2 [])
 have hs2:=(st2 []).sep
 refine⟨1,(c2.read hs2).2.2 _ rfl 0 _ rfl,?_⟩
 rw[if_pos rfl]
 refine⟨_,_,_,_,_,_,_,_,_,_,_,_,_,qz (c2.read hs2) rfl,?_⟩
 refine aq9 g h2 fun tag3 I3 st3=>?_
 have y3:=r2.keepS st3
 refine y3.stPre ajx 0 _ I3 st3.sep (by simp) aq8 fun I4 st4 y4=>?_
 have y5:Row tag3 I4 12 _ ⟨some ⟨Y,0,none⟩,12,12⟩ ajx:=y4
 refine⟨_,_,_,_,_,_,_,_,_,_,_,_,qz (y5.read st4.sep) rfl,?_⟩
 exact hQ tag3 I4 ((k2.s (by simp)).trans ((st3.mono (by decide)).trans (st4.s (by simp))))
end Zt
namespace SL
open Go
variable{ro I I':AH}{tag tag':Nat->Nat}{L:List Nat}
theorem aiG:join (inR tag L I) (zJ tag L I)=I:=by
 funext c;unfold join inR zJ
 by_cases e:tag c∈L
 .simp only[e,if_true];cases I c<;>rfl
 .simp[e]
theorem zY.backR{κ:Type}{enc:κ->Value}{tag1:Nat->Nat}{τ:AH}{r b:Nat}{m:List (κ×Value)}(h:zY enc tag1 τ r b m)(hd:qP (inR tag L I) τ):zY enc (tagB tag tag1 L I) (join (inR tag L I) τ) r b m:=by
 obtain⟨es,clock,hb,x⟩:=h.obj
 have hn:inR tag L I b=none:=by
  cases e:inR tag L I b with
  | none=>rfl
  | some o=>have:=hd b o e;rw[hb]at this;cases this
 exact⟨by rw[adw hn];exact h.tg,es,clock,by unfold join;rw[hn];exact hb,x⟩
end SL
namespace Zt
open Go SL G Pa Wi
variable{B:World}{ro I I':AH}{tag tag':Nat->Nat}
variable{beats req:Int}{Q:Int->AH->Prop}{C L cs:List Nat}{X b b0 c i j m:Nat}{s:jQ}{hh:kW}
theorem ara:qp prog 249 (.pointer none) 1 8:=qp.of (by kernel_rfl)
theorem qv(h:∀ R,qe R ro tag I tag' I'):StepS C ro tag I tag' I':=(h []).s (by simp)
theorem wZ.fresh{T M:Nat}{bs:List Nat}{t:Tbl}(h:wZ tag I T M bs t)(k:∀ R,qe R ro tag I tag' I'):wZ tag' I' T M bs t:=h.keepS (qv (C:=[]) k) (by simp)
section
variable{T M:Nat}{bs:List Nat}{t:Tbl}{home:Str}{n:Int}
theorem afj{Q:Option Addr->Int->AH->Prop}(h:wZ tag I T M bs t)
  (hno:∀ e,jj t (home,n)=(e,none)->e≠0->∀ tag' I',(∀R,qe R ro tag I tag' I')->wZ tag' I' T M bs t->Q none e I')
  (hit:∀ i b hh m cs j c s tag' I',(∀R,qe R ro tag I tag' I')->wZ tag' I' T M bs t->aaf tag' I' bs t home n i b hh m cs j c s->Q (some ⟨c,0,none⟩) 0 I'):vC B ro (some ⟨T,0,none⟩) (S home) n I Q:=by
 refine agr fun hs=>?_
 unfold aaj
 refine qj (tag:=tag) 0 hs fun X tag1 I1 st1 r1=>?_
 have h1:=h.fresh st1
 have hs1:=(st1 []).sep
 have g1:=(r1.read hs1).2.2 _ rfl
 refine⟨_,rfl,some M,h1.cell.cell1 hs1,S home,g1 0 _ rfl,?_⟩
 refine zZ (k:=home) h1.map.map hs1 adE (ajt u9) amN ?_
 rcases h1.map.look home with⟨a1,a2⟩ | ⟨i,b,hh,hb,hp,a3,a4,m,cs,row,map⟩
 .rw[a2]
  refine⟨none,rfl,?_⟩
  rw[if_pos rfl]
  unfold zI
  rw[if_pos rfl]
  exact hno 150 (by unfold jj;rw[a1]) (by decide) tag1 I1 st1 h1
 .rw[a4]
  refine⟨some ⟨b,0,none⟩,rfl,?_⟩
  rw[if_neg (by simp)]
  have e150:(n<1\/hh.last<n)->jj t (home,n)=(150,none):=fun c=>by unfold jj;rw[a3];simp only;rw[if_pos c]
  refine⟨n,g1 1 _ rfl,?_⟩
  by_cases c1:n<1
  .rw[if_pos c1]
   unfold zI
   rw[if_pos rfl]
   exact hno 150 (e150 (.inl c1)) (by decide) tag1 I1 st1 h1
  rw[if_neg c1]
  have gr:=(row.read hs1).2.2 _ rfl
  refine⟨_,rfl,n,g1 1 _ rfl,hh.last,gr 0 _ rfl,?_⟩
  unfold zI
  by_cases c2:hh.last<n
  .rw[if_pos (by simpa using c2)]
   exact hno 150 (e150 (.inr c2)) (by decide) tag1 I1 st1 h1
  rw[if_neg (by simpa using c2)]
  refine⟨_,rfl,some m,gr 1 _ rfl,n,g1 1 _ rfl,?_⟩
  refine zZ (k:=n) map.map hs1 adT (akS u3') ara ?_
  rcases map.look n with⟨k1,k2⟩ | ⟨j,c,s,hc,hq,k3,k4,hA⟩
  .rw[k2]
   refine⟨none,rfl,?_⟩
   rw[if_pos rfl]
   exact hno 151 (by unfold jj;rw[a3];simp only;rw[if_neg (by omega),k1]) (by decide) tag1 I1 st1 h1
  .rw[k4]
   refine⟨some ⟨c,0,none⟩,rfl,?_⟩
   rw[if_neg (by simp)]
   refine⟨_,rfl,some m,gr 1 _ rfl,n,g1 1 _ rfl,?_⟩
   refine zZ (k:=n) map.map hs1 adT (akS u3') ara ?_
   rw[k4]
   exact⟨_,rfl,hit i b hh m cs j c s tag1 I1 st1 h1 ⟨hb,hp,row,map,hc,hq,⟨by omega,by omega⟩⟩⟩
theorem apL{Q:Sl->Bool->Int->AH->Prop}(h:wZ tag I T M bs t)(hi:kg b0 t)
  (hQ:∀ s tag' I',(∀R,qe R ro tag I tag' I')->Row tag' I' 6 5 s ((kk t (home,n) req).1.map vU)->Q s (kk t (home,n) req).2.1 (kk t (home,n) req).2.2 I'):uy B ro (some ⟨T,0,none⟩) (S home) n req I Q:=by
 refine afY fun hs=>?_
 unfold uK
 refine qj (tag:=tag) 0 hs fun X tag1 I1 st1 r1=>?_
 have hs1:=(st1 []).sep
 refine⟨S home,n,qz (r1.read hs1) rfl,?_⟩
 refine afj (h.fresh st1) (fun e he hne tag2 I2 st2 _=>?_) fun i b hh m cs j c s tag2 I2 st2 h2 f=>?_
 .rw[if_pos (by simpa using hne)]
  have:=hQ ⟨none,0,0⟩ tag2 I2 fun R=>(st1 R).trans (st2 R)
  unfold kk at this
  rw[he]at this
  exact this (Row.nil 6 5)
 .rw[if_neg (by simp)]
  have k2:∀ R,qe R ro tag I tag2 I2:=fun R=>(st1 R).trans (st2 R)
  have ef:=(f.look h2).2.2
  have hs2:=(st2 []).sep
  refine us fun _=>?_
  unfold jA
  show(if¬(okN req=true)then _ else _)
  cases h3:okN req with
  | false=>
   rw[if_pos (by simp)]
   have:=hQ ⟨none,0,0⟩ tag2 I2 k2
   unfold kk at this
   rw[ef]at this
   simp only at this
   rw[if_pos h3]at this
   exact this (Row.nil 6 5)
  | true=>
  rw[if_neg (by simp)]
  obtain⟨d,row,rd⟩:=f.sess
  have gs:=(row.read hs2).2.2 _ rfl
  refine⟨_,rfl,s.req,gs 5 _ rfl,?_⟩
  by_cases c1:req=s.req
  .rw[if_pos c1]
   refine⟨_,rfl,d,gs 6 _ rfl,?_⟩
   have hl:s.reply.length<=1048576:=(agj hi ef).reply
   refine aba (tag:=tag2) (rd.read hs2) hs2 (by simp[rH,rL,rS]<;>omega) (by simp[qh,vU]) fun s' tag3 I3 st3 r3=>?_
   have:=hQ s' tag3 I3 fun R=>(k2 R).trans (st3 R)
   unfold kk at this
   rw[ef]at this
   simp only at this
   rw[if_neg (by simp[h3]),if_pos c1]at this
   exact this r3
  rw[if_neg c1]
  refine⟨_,rfl,s.req,gs 5 _ rfl,?_⟩
  have:=hQ ⟨none,0,0⟩ tag2 I2 k2
  unfold kk at this
  rw[ef]at this
  simp only at this
  rw[if_neg (by simp[h3]),if_neg c1]at this
  by_cases c2:req<s.req
  .rw[if_pos c2]at this⊢
   exact this (Row.nil 6 5)
  .rw[if_neg c2]at this⊢
   exact this (Row.nil 6 5)
theorem asq{a3:Sl}{d:Str}(h:wZ tag I T M bs t)(hd:SL.zw ro I a3 (d.map vU))(hl:d.length<=140737488355328)
  (hQ:∀ tag' I',StepS [58] ro tag I tag' I'->wZ tag' I' T M bs (adj t (home,n) req d).1->Q (adj t (home,n) req d).2 I'):pj B ro (some ⟨T,0,none⟩) (S home) n req a3 I Q:=by
 refine ahl fun hs=>?_
 unfold aaJ
 refine qj (tag:=tag) 0 hs fun X tag1 I1 st1 r1=>?_
 have hs1:=(st1 []).sep
 refine⟨S home,n,qz (r1.read hs1) rfl,?_⟩
 refine afj (h.fresh st1) (fun e he hne tag2 I2 st2 h2=>?_) fun i b hh m cs j c s tag2 I2 st2 h2 f=>?_
 .rw[if_pos (by simpa using hne)]
  have:=hQ tag2 I2 (qv fun R=>(st1 R).trans (st2 R))
  unfold adj at this
  rw[he]at this
  exact this h2
 .rw[if_neg (by simp)]
  have k2:∀ R,qe R ro tag I tag2 I2:=fun R=>(st1 R).trans (st2 R)
  have ef:=(f.look h2).2.2
  have hs2:=(st2 []).sep
  have q2:=hQ tag2 I2 (qv k2)
  unfold adj at q2
  rw[ef]at q2
  simp only at q2
  refine us fun _=>?_
  unfold jA
  show(if¬(okN req=true)then _ else _)
  cases h3:okN req with
  | false=>
   rw[if_pos (by simp)]
   rw[if_pos h3]at q2
   exact q2 h2
  | true=>
  rw[if_neg (by simp)]
  rw[if_neg (by simp[h3])]at q2
  obtain⟨ds,row,rd⟩:=f.sess
  have gs:=(row.read hs2).2.2 _ rfl
  refine⟨_,rfl,s.req,gs 5 _ rfl,?_⟩
  by_cases c1:req<=s.req
  .rw[if_pos c1]at q2⊢
   exact q2 h2
  rw[if_neg c1]
  have hd2:SL.zw ro I2 a3 (d.map vU):=hd.step (k2 [])
  refine aba (tag:=tag2) hd2 hs2 (by simp[rH,rL,rS]<;>omega) (by simp[qh,vU]) fun s' tag3 I3 st3 r3=>?_
  have row3:=row.keep (st3 [])
  have hs3:=(st3 []).sep
  refine⟨_,rfl,?_⟩
  refine row3.stAt [.int .i64 req] 5 hs3 (by simp) (by simp[qh]) fun I4 st4 r4=>?_
  refine⟨_,rfl,?_⟩
  refine Row.stAt [Sl.v s'] 6 r4 st4.sep (by simp) (by simp[qh,Sl.v]) fun I5 st5 r5=>?_
  have k5:qe [rS b c] ro tag3 I3 tag3 I5:=st4.trans st5
  have h3':=h2.fresh st3
  have f3:aaf tag3 I3 bs t home n i b hh m cs j c s:=⟨f.hb,f.hp,f.row.keep (st3 []),f.map.mono (f.map.map.keep (st3 [])) fun _ c' k' x _ _ hx=>hx.keep (st3 []),f.hc,f.hq,f.rng⟩
  have h5:=h3'.setS (s':={s with req:=req,reply:=d}) f3 k5 ⟨s',r5,r3.keep k5 (by simp[rH,rL,rS]<;>omega)⟩
  have:=hQ tag3 I5 ((qv fun R=>(k2 R).trans (st3 R)).trans (k5.s (by simp[rH,rL,rS]<;>omega)))
  unfold adj at this
  rw[ef]at this
  simp only at this
  rw[if_neg (by simp[h3]),if_neg c1]at this
  exact this h5
theorem wZ.outR(h:wZ tag I T M bs t)(hL:∀ x∈L,x%64∉[55,56,57,58,6]):wZ tag (SL.zJ tag L I) T M bs t:=by
 have no:∀ x,x%64∈[55,56,57,58,6]->x∉L:=fun x hx hm=>hL x hm hx
 refine⟨h.cell.outR (no 55 (by decide)),h.map.mono (h.map.map.outR (no 119 (by decide))) fun _ b k' x _ _ hx=>?_⟩
 obtain⟨m,cs,row,map⟩:=hx
 refine⟨m,cs,row.outR (no _ (by rw[show(56+64*(b+2))%64=56 by omega];decide)),map.mono (map.map.outR (no _ (by rw[show(57+64*(b+2))%64=57 by omega];decide))) fun _ c n' s _ _ hx=>?_⟩
 obtain⟨d,r1,r2⟩:=hx
 exact⟨d,r1.outR (no _ (by rw[show(58+64*(pr b c+2))%64=58 by omega];decide)),r2.outR (no 6 (by decide))⟩
theorem wZ.backR{tag1:Nat->Nat}{τ:AH}(h:wZ tag1 τ T M bs t)(hd:qP (inR tag L I) τ):wZ (tagB tag tag1 L I) (join (inR tag L I) τ) T M bs t:=by
 refine⟨h.cell.backR hd,h.map.mono (h.map.map.backR hd) fun _ b k' x _ _ hx=>?_⟩
 obtain⟨m,cs,row,map⟩:=hx
 refine⟨m,cs,row.backR hd,map.mono (map.map.backR hd) fun _ c n' s _ _ hx=>?_⟩
 obtain⟨d,r1,r2⟩:=hx
 exact⟨d,r1.backR hd,r2.backR hd⟩
theorem aaf.outR(f:aaf tag I bs t home n i b hh m cs j c s)(hL:∀ x∈L,x%64∉[55,56,57,58,6]):aaf tag (SL.zJ tag L I) bs t home n i b hh m cs j c s:=by
 have no:∀ x,x%64∈[55,56,57,58,6]->x∉L:=fun x hx hm=>hL x hm hx
 refine⟨f.hb,f.hp,f.row.outR (no _ (by rw[show(56+64*(b+2))%64=56 by omega];decide)),f.map.mono (f.map.map.outR (no _ (by rw[show(57+64*(b+2))%64=57 by omega];decide))) fun _ c' n' s' _ _ hx=>?_,f.hc,f.hq,f.rng⟩
 obtain⟨d,r1,r2⟩:=hx
 exact⟨d,r1.outR (no _ (by rw[show(58+64*(pr b c'+2))%64=58 by omega];decide)),r2.outR (no 6 (by decide))⟩
theorem akf(hA:wZ tag I T M bs t)(fA:aaf tag I bs t home n i b hh m cs j c s):qI (kvP t bs) home=some (aeo b):=by
 rcases hA.map.look home with⟨a1,_⟩ | ⟨i',b',hh',hb,hp,_,a4,_⟩
 .rw[(fA.look hA).1]at a1;cases a1
 .have:i'=i:=acu hA.map.keys (i:=i') (j:=i) (x:=home) (by rw[List.getElem?_map,hp];try rfl) (by rw[List.getElem?_map,fA.hp];try rfl)
  subst this
  rw[fA.hb]at hb;cases hb
  exact a4
theorem apM(f:aaf tag I bs t home n i b hh m cs j c s):qI (kvP hh.live cs) n=some (aeo c):=by
 rcases f.map.look n with⟨a1,_⟩ | ⟨i',c',s',hb,hp,_,a4,_⟩
 .rw[ajl f.map.keys (List.mem_of_getElem? f.hq)]at a1;cases a1
 .have:i'=j:=acu f.map.keys (i:=i') (j:=j) (x:=n) (by rw[List.getElem?_map,hp];try rfl) (by rw[List.getElem?_map,f.hq];try rfl)
  subst this
  rw[f.hc]at hb;cases hb
  exact a4
theorem anQ{Q:AH->Prop}(h:wZ tag I T M bs t)(hs:SL.Sep ro I)(f:aaf tag I bs t home n i b hh m cs j c s)(r1:Row tag I 0 81 ⟨some ⟨X,0,none⟩,2,2⟩ [.string (S home),.int .i64 n])
  (hQ:∀ tag' I',StepS [57] ro tag I tag' I'->wZ tag' I' T M bs (afV t (home,n))->Q I'):
  yP I fun ψ I=>
   ∃p17_5:Addr,(some ⟨T,0,none⟩:Option Addr)=some p17_5/\
   ∃(x27_6:Int),qa (join ro ψ) (fun _=>none) ((⟨X,0,none⟩:Addr).add 1)=some (.int .i64 x27_6)/\
   ∃(x19_7:Option Nat),qa (join ro ψ) I p17_5=some (.map x19_7)/\
   ∃(x21_8:ByteArray),qa (join ro ψ) I ⟨X,0,none⟩=some (.string x21_8)/\
   awp prog (join ro ψ) (Instr.lookup 240 (.map x19_7) (.string x21_8) false) (fun v I=>
    (∃(x22_9:Option Addr),v= .pointer x22_9/\
    ∃p23_10:Addr,x22_9=some p23_10/\
    ∃(x25_11:Option Nat),qa (join ro ψ) I (p23_10.add 1)=some (.map x25_11)/\
    awp prog (join ro ψ) (Builtin.delete_ #[252,3] 0 #[.map x25_11,.int .i64 x27_6]) (fun v I=>v= .tuple #[]/\
     (qP ψ I->(fun I=>Q I) (join ψ I))) I)) I:=by
 refine jF tag [0] ?_
 have hL:∀ x∈[0],x%64∉[55,56,57,58,6]:=by simp
 have hsA:SL.Sep (join ro (SL.inR tag [0] I)) (SL.zJ tag [0] I):=hs.lentR
 have hA:=h.outR hL
 have fA:=f.outR hL
 have rX:∀ {i v} τ,([Value.string (S home),.int .i64 n]:List Value)[i]?=some v->qa (join ro (SL.inR tag [0] I)) τ ((⟨X,0,none⟩:Addr).add i)=some v:=fun τ hv=>r1.lendR hs (by simp) rfl hv
 refine⟨_,rfl,n,rX (i:=1) _ rfl,some M,hA.cell.cell1 hsA,S home,rX (i:=0) _ rfl,?_⟩
 refine zZ (k:=home) hA.map.map hsA adE (ajt u9) amN ?_
 rw[akf hA fA]
 refine⟨_,rfl,_,rfl,some m,(fA.row.read hsA).2.2 _ rfl 1 _ rfl,?_⟩
 refine afO (k:=n) fA.map.map hsA adT (akS u3') fun I2 st2 m2=>?_
 refine⟨rfl,fun hd=>?_⟩
 have k2:=(st2.s (C:=[57]) (by simp[rH,rL,rS]<;>omega)).backR hs hd
 exact hQ _ _ k2 ((hA.delS fA st2 m2).backR hd)
theorem apN(h:wZ tag I T M bs t)(hQ:∀ tag' I',StepS [57] ro tag I tag' I'->wZ tag' I' T M bs (aaq t (home,n)).1->Q (aaq t (home,n)).2 I'):uz B ro (some ⟨T,0,none⟩) (S home) n I Q:=by
 refine afZ fun hs=>?_
 unfold uL
 refine qj (tag:=tag) 0 hs fun X tag1 I1 st1 r1=>?_
 have hs1:=(st1 []).sep
 refine⟨S home,n,qz (r1.read hs1) rfl,?_⟩
 refine afj (h.fresh st1) (fun e he hne tag2 I2 st2 h2=>?_) fun i b hh m cs j c s tag2 I2 st2 h2 f=>?_
 .rw[if_pos (by simpa using hne)]
  have:=hQ tag2 I2 (qv fun R=>(st1 R).trans (st2 R))
  unfold aaq at this
  rw[he]at this
  exact this h2
 .rw[if_neg (by simp)]
  refine anQ (Q:=fun I=>Q 0 I) h2 (st2 []).sep f (r1.keep (st2 [])) fun tag3 I3 st3 h3=>?_
  have:=hQ tag3 I3 ((qv fun R=>(st1 R).trans (st2 R)).trans st3)
  unfold aaq at this
  rw[(f.look h2).2.2]at this
  exact this h3
theorem aoC{Q:Bool->AH->Prop}(h:wZ tag I T M bs t)(hQ:∀ tag' I',StepS [57] ro tag I tag' I'->wZ tag' I' T M bs (kw t (home,n) beats).1->Q (kw t (home,n) beats).2 I'):ud B ro (some ⟨T,0,none⟩) (S home) n beats I Q:=by
 refine afn fun hs=>?_
 unfold um
 refine qj (tag:=tag) 0 hs fun X tag1 I1 st1 r1=>?_
 have hs1:=(st1 []).sep
 refine⟨S home,n,qz (r1.read hs1) rfl,?_⟩
 refine afj (h.fresh st1) (fun e he hne tag2 I2 st2 h2=>?_) fun i b hh m cs j c s tag2 I2 st2 h2 f=>?_
 .rw[if_pos (by simpa using hne)]
  unfold vz
  rw[if_pos rfl]
  have:=hQ tag2 I2 (qv fun R=>(st1 R).trans (st2 R))
  unfold kw at this
  rw[he]at this
  exact this h2
 .rw[if_neg (by simp)]
  have hs2:=(st2 []).sep
  obtain⟨ds,row,rd⟩:=f.sess
  refine⟨_,rfl,s.beats,(row.read hs2).2.2 _ rfl 4 _ rfl,?_⟩
  unfold vz
  have ef:=(f.look h2).2.2
  by_cases c1:s.beats=beats
  .rw[if_neg (by simp[c1])]
   refine anQ (Q:=fun I=>Q true I) h2 hs2 f (r1.keep (st2 [])) fun tag3 I3 st3 h3=>?_
   have:=hQ tag3 I3 ((qv fun R=>(st1 R).trans (st2 R)).trans st3)
   unfold kw at this
   rw[ef]at this
   simp only at this
   rw[if_pos c1]at this
   exact this h3
  .rw[if_pos (by simp[c1])]
   have:=hQ tag2 I2 (qv fun R=>(st1 R).trans (st2 R))
   unfold kw at this
   rw[ef]at this
   simp only at this
   rw[if_neg c1]at this
   exact this h2
theorem apO{r:Nat}(h:wZ tag I T M bs t)(hi:kg b0 t)(hb0:b0<=33554433)(hr:r%64≠58)(hk:Row tag I r 81 ⟨some ⟨X,0,none⟩,2,2⟩ [.string (S home),.int .i64 n])
  (hQ:∀ tag' I',StepS [58] ro tag I tag' I'->wZ tag' I' T M bs (ab4 t (home,n)).1->Q (ab4 t (home,n)).2 I'):uA B ro (some ⟨T,0,none⟩) ⟨some ⟨X,0,none⟩,1,1⟩ I Q:=by
 refine af0 fun hs=>?_
 unfold uM
 refine lfpD.intro ?_
 generalize hY:lfpD (kJ B ro (some ⟨T,0,none⟩) ⟨some ⟨X,0,none⟩,1,1⟩ Q)=Y
 unfold kJ
 rw[if_pos (by simp)]
 refine⟨_,rfl,by simp,by simp,S home,n,?_,?_⟩
 .exact qz (hk.read hs) rfl
 refine xh (tag:=tag) 0 hs rfl (by simp[qh]) fun K tag1 I1 st1 r1=>?_
 refine⟨S home,n,qz (r1.read (st1 []).sep) rfl,?_⟩
 refine afj (h.fresh st1) (fun e he hne tag2 I2 st2 h2=>?_) fun i b hh m cs j c s tag2 I2 st2 h2 f=>?_
 .rw[if_pos (by simpa using hne)]
  have:=hQ tag2 I2 (qv fun R=>(st1 R).trans (st2 R))
  unfold ab4 at this
  rw[he]at this
  exact this h2
 .rw[if_neg (by simp)]
  have k2:∀ R,qe R ro tag I tag2 I2:=fun R=>(st1 R).trans (st2 R)
  have hk2:=hk.keep (k2 [])
  rw[show i64.wrap (0+1)=1 from rfl,<-hY]
  refine lfpD.intro ?_
  unfold kJ
  rw[if_neg (by simp)]
  unfold jJ
  refine lfpD.intro ?_
  generalize hZ:lfpD (xg B ro (some ⟨T,0,none⟩) ⟨some ⟨X,0,none⟩,1,1⟩ Q)=Z
  unfold xg
  rw[if_pos (by simp)]
  refine⟨_,rfl,by simp,by simp,S home,n,qz (hk2.read (st2 []).sep) rfl,?_⟩
  refine xh (tag:=tag2) 0 (st2 []).sep rfl (by simp[qh]) fun K2 tag3 I3 st3 r3=>?_
  have k3:∀ R,qe R ro tag I tag3 I3:=fun R=>(k2 R).trans (st3 R)
  have hs3:=(st3 []).sep
  have h3:=h2.fresh st3
  have f3:aaf tag3 I3 bs t home n i b hh m cs j c s:=⟨f.hb,f.hp,f.row.keep (st3 []),f.map.mono (f.map.map.keep (st3 [])) fun _ c' k' x _ _ hx=>hx.keep (st3 []),f.hc,f.hq,f.rng⟩
  refine jF tag3 [0] ?_
  have hL:∀ x∈[0],x%64∉[55,56,57,58,6]:=by simp
  have hsA:SL.Sep (join ro (SL.inR tag3 [0] I3)) (SL.zJ tag3 [0] I3):=hs3.lentR
  have hA:=h3.outR hL
  have fA:=f3.outR hL
  have rX:∀ {i v} τ,([Value.string (S home),.int .i64 n]:List Value)[i]?=some v->qa (join ro (SL.inR tag3 [0] I3)) τ ((⟨K2,0,none⟩:Addr).add i)=some v:=fun τ hv=>r3.lendR hs3 (by simp) rfl hv
  refine⟨_,rfl,n,rX (i:=1) _ rfl,some M,hA.cell.cell1 hsA,S home,rX (i:=0) _ rfl,?_⟩
  refine zZ (k:=home) hA.map.map hsA adE (ajt u9) amN ?_
  rw[akf hA fA]
  refine⟨_,rfl,_,rfl,some m,(fA.row.read hsA).2.2 _ rfl 1 _ rfl,fun hd=>?_⟩
  rw[aiG]
  refine zZ (k:=n) f3.map.map hs3 adT (akS u3') ara ?_
  rw[apM f3]
  obtain⟨ds,row,rd⟩:=f3.sess
  refine⟨_,rfl,_,rfl,s.beats,(row.read hs3).2.2 _ rfl 4 _ rfl,_,rfl,?_⟩
  have hbe:=(agj hi (f.look h2).2.2).beats
  rw[show i64.wrap (s.beats+1)=s.beats+1 from SL.wb (by omega) (by omega)]
  refine row.stAt [.int .i64 (s.beats+1)] 4 hs3 (by simp) (by simp[qh]) fun I4 st4 r4=>?_
  rw[show i64.wrap (0+1)=1 from rfl,<-hZ]
  refine lfpD.intro ?_
  unfold xg
  rw[if_neg (by simp)]
  unfold jI
  have h4:=h3.setS (s':={s with beats:=s.beats+1}) f3 st4 ⟨ds,r4,rd.keep st4 (by simp[rH,rL,rS]<;>omega)⟩
  have:=hQ tag3 I4 ((qv k3).trans (st4.s (by simp[rH,rL,rS]<;>omega)))
  unfold ab4 at this
  rw[(f.look h2).2.2]at this
  exact this h4
end
end Zt
namespace Zt
open Go SL G Pa Wi
variable{B:World}{ro I I':AH}{tag tag':Nat->Nat}
variable{Q:AH->Prop}{kind:Int}
theorem aeb:prog.underlying 243=some (.map 81 305):=by kernel_rfl
theorem aip:prog.underlying 308=some (.map 314 3):=by kernel_rfl
theorem arb:prog.underlying 28=some (.slice 132):=by kernel_rfl
theorem amO:qp prog 305 (.pointer none) 1 8:=qp.of (by kernel_rfl)
theorem ahm:SI prog 81:=⟨⟨_,_,underlying81,by kernel_rfl,rfl,by kernel_rfl,rfl,by decide,by decide⟩,by kernel_rfl⟩
theorem akg:SI prog 314:=⟨⟨_,_,underlying314,by kernel_rfl,rfl,by kernel_rfl,rfl,by decide,by decide⟩,by kernel_rfl⟩
section
variable{T M:Nat}{bs:List Nat}{h:Hub}{k:Str×Int}
theorem za.fresh(hi:za tag I T M bs h)(st:∀ R,qe R ro tag I tag' I'):za tag' I' T M bs h:=hi.keepS (qv (C:=[]) st) (by simp)
abbrev kV(k:Str×Int):List Value:=[.string (S k.1),.int .i64 k.2]
theorem atY(k:Str×Int):∀ v∈kV k,qh v=true:=by simp[qh]
theorem arc{X r:Nat}(hi:za tag I T M bs h)(hk:Row tag I r 81 ⟨some ⟨X,0,none⟩,2,2⟩ (kV k))(hQ:∀ bs' tag' I',StepS [62] ro tag I tag' I'->za tag' I' T M bs' (jN h k)->Q I'):aco B ro (some ⟨T,0,none⟩) ⟨some ⟨X,0,none⟩,1,1⟩ I Q:=by
 refine aiT fun hs=>?_
 unfold acI
 refine lfpD.intro ?_
 generalize hY:lfpD (yt B ro (some ⟨T,0,none⟩) ⟨some ⟨X,0,none⟩,1,1⟩ Q)=Y
 unfold yt
 rw[if_pos (by simp)]
 refine⟨_,rfl,by simp,by simp,S k.1,k.2,qz (hk.read hs) rfl,?_⟩
 refine xh (tag:=tag) 0 hs rfl (atY k) fun K tag1 I1 st1 r1=>?_
 have h1:=hi.fresh st1
 have hs1:=(st1 []).sep
 refine⟨_,rfl,some M,h1.cell.cell1 hs1,S k.1,k.2,qz (r1.read hs1) rfl,?_⟩
 refine afO (k:=k) h1.map.map hs1 aeb (adn ahm) fun I2 st2 m2=>⟨rfl,?_⟩
 rw[show i64.wrap (0+1)=1 from rfl,<-hY]
 refine lfpD.intro ?_
 unfold yt
 rw[if_neg (by simp)]
 obtain⟨bs',h2⟩:=h1.gone st2 m2
 exact hQ bs' tag1 I2 ((qv st1).trans (st2.s (by simp))) h2
theorem asr{b m:Nat}{s:Sl}{d:jR}{x:Str}(row:Row tag I (rD b) 310 ⟨some ⟨b,0,none⟩,4,4⟩ [Sl.v s,vI d.acked,vI d.last,.map (some m)])(ev:qq tag I (rE b) 132 3 s (d.events.map evV))(hs:SL.Sep ro I)(hl:d.events.length<=1048576)(h0:0<=d.last)(h1:d.last<=1099511627776)
  (hQ:∀ s' tag' I',qe [rD b,rE b] ro tag I tag' I'->Row tag' I' (rD b) 310 ⟨some ⟨b,0,none⟩,4,4⟩ [Sl.v s',vI d.acked,vI (akO d kind x).last,.map (some m)]->qq tag' I' (rE b) 132 3 s' ((akO d kind x).events.map evV)->Q I'):abB B ro (some ⟨b,0,none⟩) kind (S x) I Q:=by
 refine aio fun _=>?_
 unfold abM
 have g0:=(row.read hs).2.2 _ rfl
 refine⟨_,rfl,d.last,g0 2 _ rfl,_,rfl,?_⟩
 rw[SL.wb (by omega) (by omega)]
 refine row.stAt [vI (d.last+1)] 2 hs (by simp) (by simp[qh]) fun I1 st1 r1=>?_
 have g1:=(r1.read st1.sep).2.2 _ rfl
 refine⟨_,rfl,_,rfl,s,g1 0 _ rfl,d.last+1,g1 2 _ rfl,?_⟩
 refine qj (tag:=tag) 0 st1.sep fun E tag2 I2 st2 r2=>?_
 have hs2:=(st2 []).sep
 have ev2:=(ev.keep st1 (by simp[rD,rM,rE]<;>omega)).keep (st2 [])
 refine uh (l2:=[evV (d.last+1,kind,x)]) ev2 hs2 (Row.readW1 r2 hs2 rfl (by decide)) arb aoA rfl (by simp[evV,qh]) (by simp[rD,rM,rE]<;>omega) (by decide) fun s' tag3 I3 st3 r3=>?_
 have st3':=st3 [rE b] (.inr (by simp))
 have row3:=(Row.keep r1 (st2 [])).keep st3' (by simp[rD,rM,rE]<;>omega)
 refine⟨s',rfl,_,rfl,?_⟩
 refine Row.stPre [Sl.v s'] 0 _ I3 row3 st3'.sep (by simp) (by simp[qh,Sl.v]) fun I4 st4 r4=>?_
 refine hQ s' tag3 I4 (((st1.mono (by simp)).trans (st2 _)).trans ((st3'.mono (by simp)).trans (st4.mono (by simp)))) r4 ?_
 have:=qq.keep r3 st4 (by simp[rD,rM,rE]<;>omega)
 unfold akO
 simpa using this
theorem ajy{b0:Nat}{m:xP}{Q:Int->AH->Prop}(hi:za tag I T M bs h)(hok:kx b0 h)(hb0:b0<=33554433)
  (hQ:∀ n tag' I',StepS [0,59,60,61] ro tag I tag' I'->za tag' I' T M bs (px h m kind)->Q n I'):yU B ro (some ⟨T,0,none⟩) (S m.1) m.2 kind I Q:=by
 refine aiV fun hs=>?_
 unfold acK
 refine qj (tag:=tag) 32 hs fun X tag1 I1 st1 r1=>?_
 have hs1:=(st1 []).sep
 have h1:=hi.fresh st1
 refine⟨_,rfl,some M,h1.cell.cell1 hs1,?_⟩
 have inRl:∀ x,x∈(bs.flatMap fun b=>[rD b,rM b,rE b])->∃ b∈bs,x=rD b\/x=rM b\/x=rE b:=fun x hx=>by
  obtain⟨b,hb,hx⟩:=List.mem_flatMap.1 hx
  exact⟨b,hb,by simpa using hx⟩
 refine alb (F:=fun p=>uv B ro kind p X Q) (R:=bs.flatMap fun b=>[rD b,rM b,rE b]) (ty:=0) aeb h1.map.map hs1 (fun hx=>?_) (fun hx=>?_) (by decide)
  (fun d _ tag2 I2=>StepS [0,59,60,61] ro tag1 I1 tag2 I2/\za tag2 I2 T M bs (xQ h m kind (d.map (·.1)))) (fun tag2 I2 st=>⟨qv st,by rw[List.map_nil,aox];exact h1.fresh st⟩) ?_
 .obtain⟨b,_,h⟩:=inRl _ hx;unfold rD rM rE at h;omega
 .obtain⟨b,_,h⟩:=inRl _ hx;unfold rD rM rE at h;omega
 rintro x d rest n tag2 I2 Y hp hs2 ⟨a1,a2⟩ hn
 unfold uv
 refine hn _ (fun hr=> .inl ⟨rfl,?_⟩) fun p q va vb tag4 I4 hp4 st4 hm4 he hY=> .inr ⟨va,vb,rfl,he _ ?_⟩
 .unfold uu
  rw[hr,List.append_nil]at hp
  refine hQ n tag2 I2 ((qv st1).trans a1) ?_
  rw[aoy fun p hp'=>?_]at a2
  .exact a2
  .have:p.1∈(kvP h bs).map (·.1):=by rw[adx _ _ hi.map.len];exact List.mem_map.2 ⟨p,hp',rfl⟩
   exact(hp.map (·.1)).mem_iff.2 this
 .obtain⟨pk,pv⟩:=p
  have hin:(pk,pv)∈kvP h bs:=hp4.mem_iff.1 (by simp)
  obtain⟨i,b,de,b1,b2,rfl⟩:=anx _ _ hi.map.len pk pv hin
  have hnd:(((d++(pk,aeo b)::q)).map (·.1)).Nodup:=(hp4.map (·.1)).nodup_iff.2 (by rw[adx _ _ hi.map.len];exact hi.map.keys)
  have hnk:pk∉d.map (·.1):=fun hm=>by
   rw[List.map_append,List.map_cons,List.nodup_append]at hnd
   exact hnd.2.2 pk hm pk (by simp) rfl
  have h4:za tag4 I4 T M bs (xQ h m kind (d.map (·.1))):=a2.keepS (st4.s (C:=[0]) (by simp))
  have hget:=ahe (m:=m) (kind:=kind) b2 hnk
  have s4:StepS [0,59,60,61] ro tag1 I1 tag4 I4:=a1.trans (st4.s (by simp))
  have hs4:=st4.sep
  have rX:=r1.keepS s4
  have dok:ab6 b0 pk de:=hok.ok _ (List.mem_of_getElem? b2)
  obtain⟨mm,s,row,ev,mk⟩:=h4.map.at' i b pk de b1 hget
  refine⟨_,_,rfl,_,rfl,some mm,(row.read hs4).2.2 _ rfl 3 _ rfl,S m.1,m.2,qz (rX.read hs4) rfl,?_⟩
  refine zZ (k:=m) mk hs4 aip (adn akg) aq4 ?_
  rw[amF]
  have hin':b∈bs:=List.mem_of_getElem? b1
  by_cases c:m∈de.marks
  .rw[if_pos c]
   refine⟨1,rfl,?_⟩
   rw[if_pos (by decide)]
   refine⟨_,rfl,some mm,(row.read hs4).2.2 _ rfl 3 _ rfl,S m.1,m.2,qz (rX.read hs4) rfl,?_⟩
   refine afO (k:=m) mk hs4 aip (adn akg) fun I5 st5 m5=>⟨rfl,?_⟩
   rw[asj]at m5
   have row5:=row.keep st5 (by simp[rD,rM,rE]<;>omega)
   have ev5:=ev.keep st5 (by simp[rD,rM,rE]<;>omega)
   have rX5:=rX.keep st5 (by simp[rD,rM,rE]<;>omega)
   refine⟨_,rfl,S m.1,(rX5.read st5.sep).2.2 _ rfl 0 _ rfl,?_⟩
   have hroom:=dok.room
   have hlast:=dok.last
   refine asr (d:={de with marks:=de.marks.erase m}) row5 ev5 st5.sep (by simp only;omega) hlast.1 (by simp only;omega) fun s' tag6 I6 st6 r6 e6=>?_
   have k6:qe [rD b,rM b,rE b] ro tag4 I4 tag6 I6:=(st5.mono (by simp)).trans (st6.mono (by simp))
   have hfd:aeK m kind de=akO {de with marks:=de.marks.erase m} kind m.1:=by unfold aeK;rw[if_pos c]
   have hR:afh b [rD b,rM b,rE b]:=by
    refine⟨by simp[rD,rM,rE]<;>omega,by simp[rD,rM,rE]<;>omega,fun x hx e=>?_,fun x hx e=>?_,fun x hx e=>?_⟩
    all_goals
     simp only[List.mem_cons,List.not_mem_nil,or_false]at hx
     rcases hx with rfl | rfl | rfl<;>first | rfl | (exfalso;omega) | (exfalso;simp only[rD,rM,rE]at e;omega)
   have h6:=h4.old (d':=aeK m kind de) k6 hR b1 hget (by rw[hfd];exact⟨mm,s',r6,e6,m5.keep st6 (by simp[rD,rM,rE]<;>omega)⟩)
   rw[aoz hi.map.keys b2 hnk]at h6
   refine hY _ tag6 I6 (k6.mono fun x hx=>List.mem_flatMap.2 ⟨b,hin',hx⟩) ⟨s4.trans (k6.s (by simp[rD,rM,rE]<;>omega)),?_⟩
   rw[List.map_append];exact h6
  .rw[if_neg c]
   refine⟨0,rfl,?_⟩
   rw[if_neg (by decide)]
   refine hY _ tag4 I4 (qe.refl hs4) ⟨s4,?_⟩
   rw[List.map_append,List.map_cons,List.map_nil,anb hi.map.keys b2 hnk c]
   exact h4
end
end Zt
namespace Zt
open Go SL G Pa Wi
variable{B:World}{ro I I':AH}{tag tag':Nat->Nat}
variable{n:Int}{l:List (Int×Int×Str)}{b0 j q x:Nat}{es s:Sl}{Q:Sl->AH->Prop}
section
variable{T M:Nat}{bs:List Nat}{h:Hub}{k:Str×Int}
theorem aoD{h:Hub}{l:List (Int×Str)}(hj:j<l.length):ye h (l.take (j+1))=aad (ye h (l.take j)) l[j]:=by
 unfold ye
 rw[List.take_add_one,List.getElem?_eq_getElem hj,List.foldl_append];try rfl
abbrev CFi:List Nat:=[0,59,60,61]
theorem amP{effs:List (Int×Str)}{Q:Int->AH->Prop}(g:wV ro)(hi:za tag I T M bs h)(hok:kx b0 h)(hb0:b0<=33554433)(he:qq tag I q 336 2 es (effs.map aes))(hq:q%64∉CFi)(hl:effs.length<=1099511627776)
  (hQ:∀ n tag' I',StepS CFi ro tag I tag' I'->za tag' I' T M bs (ye h effs)->Q n I'):uV B ro (some ⟨T,0,none⟩) es I Q:=by
 refine aiU fun hs=>?_
 unfold acJ
 have hln:es.len=effs.length:=by rw[he.len,List.length_map]
 suffices∀(m j:Nat) (n:Int) (tag2:Nat->Nat) (I2:AH),j+m=effs.length->StepS CFi ro tag I tag2 I2->za tag2 I2 T M bs (ye h (effs.take j))->lfpD (vQ B ro (some ⟨T,0,none⟩) es Q) (n,(j:Int)) I2 from
  this _ 0 0 tag I (Nat.zero_add _) (StepS.refl hs) hi
 intro m
 induction m with
 | zero=>
  intro j n tag2 I2 hj st2 h2
  refine lfpD.intro ?_
  unfold vQ
  simp only
  rw[if_neg (by omega)]
  unfold ut
  rw[List.take_of_length_le (by omega)]at h2
  exact hQ n tag2 I2 st2 h2
 | succ m ih=>
  intro j n tag2 I2 hj st2 h2
  have hjl:j<effs.length:=by omega
  obtain⟨p,hp,hc⟩:=((qq.keepS he st2 hq).read st2.sep).at (j:=j) (x:=aes effs[j]) (by rw[List.getElem?_map,List.getElem?_eq_getElem hjl];try rfl)
  have hok2:=ahc (effs.take j) hok
  have eft:=aoD (h:=h) hjl
  generalize effs[j]=e at hc eft
  have next:∀ (n':Int) tag3 I3,StepS CFi ro tag2 I2 tag3 I3->za tag3 I3 T M bs (aad (ye h (effs.take j)) e)->kT B ro (some ⟨T,0,none⟩) es (j:Int) Q (lfpD (vQ B ro (some ⟨T,0,none⟩) es Q)) n' I3:=fun n' tag3 I3 st3 h3=>by
   unfold kT
   rw[Pa.inc j (by omega)]
   rw[<-eft]at h3
   exact ih (j+1) n' tag3 I3 (by omega) (st2.trans st3) h3
  refine lfpD.intro ?_
  unfold vQ
  simp only
  rw[if_pos (by omega)]
  refine⟨p,hp,by omega,by omega,e.1,S e.2,by rw[Int.toNat_natCast];exact hc,?_⟩
  refine xh (tag:=tag2) 33 st2.sep rfl (by simp[qh]) fun X tag3 I3 st3 r3=>?_
  have hs3:=(st3 []).sep
  have g3:=(r3.read hs3).2.2 _ rfl
  have h3:=h2.fresh st3
  refine⟨S e.2,g3 1 _ rfl,?_⟩
  have skip:∀ c:Bool,c=true->aad (ye h (effs.take j)) e=ye h (effs.take j)->∀ x,km B ro (some ⟨T,0,none⟩) es n X (j:Int) x Q (lfpD (vQ B ro (some ⟨T,0,none⟩) es Q)) c I3:=fun c hc e1 x=>by
   unfold km
   rw[if_pos hc]
   exact next n tag3 I3 (qv st3) (by rw[e1];exact h3)
  refine ad3 g (fun hn=>?_) fun u hu=>?_
  .rw[L_S]at hn
   rw[if_pos (by decide)]
   unfold xy
   rw[if_pos rfl]
   exact skip true rfl (by unfold aad;rw[hn]) _
  rw[L_S]at hu
  rw[if_neg (by simp)]
  refine⟨e.1,g3 0 _ rfl,?_⟩
  unfold xy
  by_cases c1:e.1<1
  .rw[if_pos (by simpa using c1)]
   exact skip true rfl (by unfold aad;rw[hu];simp only;rw[if_pos (.inl c1)]) _
  rw[if_neg (by simpa using c1)]
  refine⟨e.1,g3 0 _ rfl,?_⟩
  by_cases c2:3<e.1
  .exact skip _ (by simpa using c2) (by unfold aad;rw[hu];simp only;rw[if_pos (.inr c2)]) _
  unfold km
  rw[if_neg (by simpa using c2)]
  refine⟨S e.2,g3 1 _ rfl,e.1,g3 0 _ rfl,?_⟩
  have ef:aad (ye h (effs.take j)) e=(if e.1=2 then px (if e.1≠3 then px (px (ye h (effs.take j)) (e.2,1) e.1) (u,2) 4 else px (ye h (effs.take j)) (e.2,1) e.1) (e.2,2) 4 else(if e.1≠3 then px (px (ye h (effs.take j)) (e.2,1) e.1) (u,2) 4 else px (ye h (effs.take j)) (e.2,1) e.1)):=by
   unfold aad;rw[hu];simp only;rw[if_neg (by omega)]
  refine ajy (m:=(e.2,1)) h3 hok2 hb0 fun n1 tag4 I4 st4 h4=>?_
  have r4:=r3.keepS st4
  have g4:=(r4.read st4.sep).2.2 _ rfl
  have k4:StepS CFi ro tag2 I2 tag4 I4:=(qv st3).trans st4
  have hok4:kx b0 (px (ye h (effs.take j)) (e.2,1) e.1):=acD hok2 (by omega)
  refine⟨e.1,g4 0 _ rfl,?_⟩
  have last:∀ (hh:Hub) (n':Int) tag5 I5,kx b0 hh->StepS CFi ro tag2 I2 tag5 I5->za tag5 I5 T M bs hh->Row tag5 I5 33 336 ⟨some ⟨X,0,none⟩,2,2⟩ [vI e.1,.string (S e.2)]->aad (ye h (effs.take j)) e=(if e.1=2 then px hh (e.2,2) 4 else hh)->xx B ro (some ⟨T,0,none⟩) es X (j:Int) Q (lfpD (vQ B ro (some ⟨T,0,none⟩) es Q)) n' I5:=fun hh n' tag5 I5 ok5 k5 h5 r5 e5=>by
   have g5:=(r5.read k5.sep).2.2 _ rfl
   unfold xx
   refine⟨e.1,g5 0 _ rfl,?_⟩
   by_cases c3:e.1=2
   .rw[if_pos c3]at e5⊢
    refine⟨S e.2,g5 1 _ rfl,?_⟩
    refine ajy (m:=(e.2,2)) h5 ok5 hb0 fun n2 tag6 I6 st6 h6=>?_
    exact next _ tag6 I6 (k5.trans st6) (by rw[e5];exact h6)
   .rw[if_neg c3]at e5⊢
    exact next _ tag5 I5 k5 (by rw[e5];exact h5)
  by_cases c4:e.1=3
  .rw[if_neg (by simpa using c4)]
   exact last _ _ tag4 I4 hok4 k4 h4 r4 (by rw[ef];simp[c4])
  .rw[if_pos c4]
   refine ajy (m:=(u,2)) h4 hok4 hb0 fun n2 tag5 I5 st5 h5=>?_
   refine last _ _ tag5 I5 (acD hok4 (by omega)) (k4.trans st5) h5 (r4.keepS st5) ?_
   rw[ef,if_pos c4]
theorem apP(q:Nat)(hr:SL.jE ro I 3 s (l.map evV))(hs:SL.Sep ro I)(hl:l.length<=1048576)(hQ:∀ s' tag' I',(∀R,qe R ro tag I tag' I')->qq tag' I' q 132 3 s' (l.map evV)->Q s' I'):yk B ro s I Q:=by
 refine ad2 fun _=>?_
 unfold yl
 by_cases h0:s.a=none
 .rw[if_pos h0]
  have:l=[]:=by have:=hr.2.1 h0;simpa using this
  subst this
  exact hQ _ tag I (fun _=>qe.refl hs) (qq.nil _ _ _)
 .rw[if_neg h0]
  refine qj (tag:=tag) q hs fun b tag1 I1 st1 r1=>?_
  have h':SL.jE ro I1 3 s (l.map evV):=hr.step (st1 [])
  have rw0:qq tag1 I1 q 132 3 ⟨some ⟨b,0,none⟩,0,0⟩ []:=by
   rcases r1 with⟨e,_⟩ | ⟨b',cs,ha,ht,hb,_,hc,hle,_⟩
   .cases e
   .cases ha
    exact .inr ⟨b,cs,rfl,ht,hb,rfl,(by have h0:cs.size=0:=hc.symm;simpa using h0),Nat.le_refl _,(fun x hx=>by cases hx),fun i v hv=>by simp at hv⟩
  refine uh (l:=[]) (l2:=l.map evV) rw0 (st1 []).sep h' arb aoA rfl (fun x hx v hv=>?_) (by simp;omega) (by decide) fun s' tag2 I2 st2 r2=>?_
  .obtain⟨e,_,rfl⟩:=List.mem_map.1 hx
   simp only[evV,List.mem_cons,List.not_mem_nil,or_false]at hv
   rcases hv with rfl | rfl | rfl<;>rfl
  .exact⟨s',rfl,hQ s' tag2 I2 (fun R=>(st1 R).trans (st2 R (.inl rfl))) (by simpa using r2)⟩
theorem alw(q:Nat)(hi:za tag I T M bs h)(hok:kx b0 h)(hQ:∀ s tag' I',(∀R,qe R ro tag I tag' I')->qq tag' I' q 132 3 s ((ab5 h k).map evV)->Q s I'):xT B ro (some ⟨T,0,none⟩) (S k.1) k.2 I Q:=by
 refine aim fun hs=>?_
 unfold abK
 refine qj (tag:=tag) 0 hs fun X tag1 I1 st1 r1=>?_
 have hs1:=(st1 []).sep
 have h1:=hi.fresh st1
 refine⟨_,rfl,some M,h1.cell.cell1 hs1,S k.1,k.2,qz (r1.read hs1) rfl,?_⟩
 refine zZ (k:=k) h1.map.map hs1 aeb (adn ahm) amO ?_
 unfold ab5 at hQ
 rcases h1.map.look k with⟨a1,a2⟩ | ⟨i,b,d,hb,hp,a3,a4,m,s,row,ev,mk⟩
 .rw[a2]
  refine⟨none,rfl,?_⟩
  rw[if_neg (by simp)]
  rw[a1]at hQ
  exact hQ _ tag1 I1 st1 (qq.nil _ _ _)
 .rw[a4]
  refine⟨some ⟨b,0,none⟩,rfl,?_⟩
  rw[if_pos (by simp)]
  rw[a3]at hQ
  refine⟨_,rfl,s,(row.read hs1).2.2 _ rfl 0 _ rfl,?_⟩
  have hr:d.events.length+d.marks.length<=32:=(hok.ok _ (pS a3)).room
  refine apP (tag:=tag1) q (ev.read hs1) hs1 (by omega) fun s' tag2 I2 st2 r2=>?_
  exact hQ s' tag2 I2 (fun R=>(st1 R).trans (st2 R)) r2
theorem aoE{Q:Int->Int->AH->Prop}(hi:za tag I T M bs h)(hQ:∀ a tag' I',(∀R,qe R ro tag I tag' I')->Q a (match qI h k with | some d=>d.last | none=>0) I'):aa2 B ro (some ⟨T,0,none⟩) (S k.1) k.2 I Q:=by
 refine ahF fun hs=>?_
 unfold abl
 refine qj (tag:=tag) 0 hs fun X tag1 I1 st1 r1=>?_
 have hs1:=(st1 []).sep
 have h1:=hi.fresh st1
 refine⟨_,rfl,some M,h1.cell.cell1 hs1,S k.1,k.2,qz (r1.read hs1) rfl,?_⟩
 refine zZ (k:=k) h1.map.map hs1 aeb (adn ahm) amO ?_
 rcases h1.map.look k with⟨a1,a2⟩ | ⟨i,b,d,hb,hp,a3,a4,m,s,row,ev,mk⟩
 .rw[a2]
  refine⟨none,rfl,?_⟩
  rw[if_neg (by simp)]
  rw[a1]at hQ
  exact hQ 0 tag1 I1 st1
 .rw[a4]
  refine⟨some ⟨b,0,none⟩,rfl,?_⟩
  rw[if_pos (by simp)]
  rw[a3]at hQ
  have gr:=(row.read hs1).2.2 _ rfl
  exact⟨_,rfl,_,rfl,d.acked,gr 1 _ rfl,d.last,gr 2 _ rfl,hQ _ tag1 I1 st1⟩
theorem ani{f:Int×Int×Str->Bool}{fv:Value}(hr:qq tag I q 132 3 s (l.map evV))(hs:SL.Sep ro I)(hl:l.length<=1048576)
  (hcall:∀ e∈l,∀tag' I',qe [q] ro tag I tag' I'->∀ K:Value->AH->Prop,(∀tag2 I2,(∀R,qe R ro tag' I' tag2 I2)->K (.bool (f e)) I2)->ac0 prog B ro fv [.agg #[.int .i64 e.1,.int .i64 e.2.1,.string (S e.2.2)]] I' K)
  (hQ:∀ s' tag' I',qe [q] ro tag I tag' I'->qq tag' I' q 132 3 s' ((l.filter fun e=> !f e).map evV)->Q s' I'):xA B ro s fv I Q:=by
 refine act fun _=>?_
 unfold xD
 refine acW fun _=>?_
 unfold xM
 have hln:s.len=l.length:=by rw[hr.len,List.length_map]
 have atE:∀ (cur:List (Int×Int×Str)) (tag1:Nat->Nat) (I1:AH),qq tag1 I1 q 132 3 s (cur.map evV)->SL.Sep ro I1->∀ j e,cur[j]?=some e->∃ b,s.a=some ⟨b,0,none⟩/\SL.qg ro I1 ((⟨b,0,none⟩:Addr).add (j*3)) 0 (evV e):=fun cur tag1 I1 r1 hs1 j e he=>by
  obtain⟨b,ha,_,hg⟩:=r1.get hs1 (j:=j) (x:=evV e) (by rw[List.getElem?_map,he];try rfl)
  refine⟨b,ha,zu 0 fun i v hv=>?_⟩
  rw[Nat.zero_add]
  rw[vn,vn,Nat.zero_add]
  exact hg i v hv
 have second:∀ (m j w:Nat) (cur:List (Int×Int×Str)) (tag1:Nat->Nat) (I1:AH),j+m=l.length->w<=j->cur.length=l.length->cur.take w=(l.take j).filter (fun k=> !f k)->(∀i,j<=i->cur[i]?=l[i]?)->qe [q] ro tag I tag1 I1->qq tag1 I1 q 132 3 s (cur.map evV)->
   lfpD (wR B ro s fv Q) ((w:Int),(j:Int)) I1:=by
  intro m
  induction m with
  | zero=>
   intro j w cur tag1 I1 hj hw hcl htk hrest st1 r1
   refine lfpD.intro ?_
   unfold wR
   simp only
   rw[if_neg (by omega)]
   unfold vD
   have hcap:=r1.cap
   refine⟨⟨trivial,by omega,by simp only[cutHi];omega⟩,?_⟩
   rw[Int.toNat_natCast]
   refine akT r1 st1.sep arb aoA rfl (by decide) (by decide) (by simp[rD,rM,rE]<;>omega) fun I2 st2 r2=>?_
   refine⟨rfl,⟨⟨by omega,by omega⟩,trivial⟩,?_⟩
   have ec:wu s.a 0 s.cap 3=s.a:=by unfold wu;split;rfl;cases s.a<;>simp[Addr.add]
   rw[ec,Nat.sub_zero,Nat.sub_zero]
   refine hQ _ tag1 I2 (st1.trans st2) ?_
   rw[<-List.map_take,htk,List.take_of_length_le (by omega)]at r2
   exact r2
  | succ m ih=>
   intro j w cur tag1 I1 hj hw hcl htk hrest st1 r1
   have hjl:j<l.length:=by omega
   have hjc:cur[j]?=some l[j]:=by rw[hrest j (Nat.le_refl _),List.getElem?_eq_getElem hjl]
   obtain⟨b,ha,hc⟩:=atE cur tag1 I1 r1 st1.sep j _ hjc
   refine lfpD.intro ?_
   unfold wR
   simp only
   rw[if_pos (by omega)]
   refine⟨_,ha,by omega,by omega,l[j].1,l[j].2.1,S l[j].2.2,by rw[Int.toNat_natCast];exact hc,?_⟩
   refine xh (tag:=tag1) 0 st1.sep rfl (by simp[qh]) fun X tag2 I2 st2 x2=>?_
   have hs2:=(st2 []).sep
   refine⟨l[j].1,l[j].2.1,S l[j].2.2,qz (x2.read hs2) rfl,?_⟩
   have r2:=r1.keep (st2 [])
   have k2:=st1.trans (st2 [q])
   refine hcall _ (List.getElem_mem hjl) tag2 I2 k2 _ fun tag3 I3 st3=>⟨f l[j],rfl,?_⟩
   have r3:=qq.keep r2 (st3 [])
   have k3:=k2.trans (st3 [q])
   have x3:=x2.keep (st3 [])
   have etk:(l.take (j+1)).filter (fun k=> !f k)=(l.take j).filter (fun k=> !f k)++if f l[j]then []else [l[j]]:=by
    rw[List.take_add_one,List.getElem?_eq_getElem hjl,List.filter_append]
    simp only[Option.toList_some,List.filter_cons,List.filter_nil]
    cases f l[j]<;>rfl
   cases hf:f l[j]with
   | true=>
    rw[if_neg (by simp)]
    unfold wQ
    rw[Pa.inc j (by omega)]
    exact ih (j+1) w cur tag3 I3 (by omega) (by omega) hcl (by rw[etk,hf];simpa using htk) (fun i hi=>hrest i (by omega)) k3 r3
   | false=>
    rw[if_pos (by simp)]
    refine⟨l[j].1,l[j].2.1,S l[j].2.2,qz (x3.read (st3 []).sep) rfl,_,ha,by omega,by omega,?_⟩
    rw[Int.toNat_natCast]
    have hwc:w<cur.length:=by omega
    refine qq.stE (x:=evV l[j]) r3 (st3 []).sep ha (j:=w) (y:=evV cur[w]) (by rw[List.getElem?_map,List.getElem?_eq_getElem hwc];try rfl) rfl (by simp[evV,qh]) fun I4 st4 r4=>?_
    unfold wQ
    rw[Pa.inc j (by omega),Pa.inc w (by omega)]
    refine ih (j+1) (w+1) (cur.set w l[j]) tag3 I4 (by omega) (by omega) (by simpa using hcl) ?_ (fun i hi=>?_) (k3.trans st4) (by rw[List.map_set];exact r4)
    .rw[etk,hf,List.take_add_one,List.take_set_of_le (Nat.le_refl _),htk,List.getElem?_set_self (by omega)]
     try rfl
    .rw[List.getElem?_set_ne (by omega)];exact hrest i (by omega)
 suffices∀m j tag1 I1,j+m=l.length->(∀k∈l.take j,f k=false)->qe [q] ro tag I tag1 I1->qq tag1 I1 q 132 3 s (l.map evV)->lfpD (zM B ro s fv fun x10 I=>if x10=(-1)then Q s I else lfpD (wR B ro s fv Q) (x10,i64.wrap (x10+1)) I) (j:Int) I1 from
  this _ 0 tag I (Nat.zero_add _) (by simp) (qe.refl hs) hr
 intro m
 induction m with
 | zero=>
  intro j tag1 I1 hj hall st1 r1
  refine lfpD.intro ?_
  unfold zM
  rw[if_neg (by omega)]
  unfold vK
  show(if(-1:Int)= -1 then _ else _)
  rw[if_pos rfl]
  rw[List.take_of_length_le (by omega)]at hall
  refine hQ s tag1 I1 st1 ?_
  rw[List.filter_eq_self.2 fun k hk=>by rw[hall k hk];try rfl]
  exact r1
 | succ m ih=>
  intro j tag1 I1 hj hall st1 r1
  have hjl:j<l.length:=by omega
  obtain⟨b,ha,hc⟩:=atE l tag1 I1 r1 st1.sep j l[j] (List.getElem?_eq_getElem hjl)
  refine lfpD.intro ?_
  unfold zM
  rw[if_pos (by omega)]
  refine⟨_,ha,by omega,by omega,l[j].1,l[j].2.1,S l[j].2.2,by rw[Int.toNat_natCast];exact hc,?_⟩
  refine hcall _ (List.getElem_mem hjl) tag1 I1 st1 _ fun tag3 I3 st3=>⟨f l[j],rfl,?_⟩
  have r3:=qq.keep r1 (st3 [])
  have k3:=st1.trans (st3 [q])
  cases hf:f l[j]with
  | true=>
   rw[if_pos rfl]
   show(if((j:Int))= -1 then _ else _)
   rw[if_neg (by omega),Pa.inc j (by omega)]
   have e1:(l.take j).filter (fun k=> !f k)=l.take j:=List.filter_eq_self.2 fun k hk=>by rw[hall k hk];try rfl
   refine second m (j+1) j l tag3 I3 (by omega) (by omega) rfl ?_ (fun _ _=>rfl) k3 r3
   rw[List.take_add_one,List.getElem?_eq_getElem hjl,List.filter_append,e1]
   simp[hf]
  | false=>
   rw[if_neg (by decide),Pa.inc j (by omega)]
   refine ih (j+1) tag3 I3 (by omega) (fun k hk=>?_) k3 r3
   rw[List.take_add_one,List.getElem?_eq_getElem hjl]at hk
   rcases List.mem_append.1 hk with h | h
   .exact hall k h
   .have h':k=l[j]:=by simpa using h
    rw[h'];exact hf
theorem ass{e:Int×Int×Str}{K:Value->AH->Prop}(hs:SL.Sep ro I)(hx:qa ro I ⟨x,0,none⟩=some (vI n))(hK:∀ tag2 I2,(∀R,qe R ro tag I tag2 I2)->K (.bool (decide (e.1<=n))) I2):ac0 prog B ro (.func (.func 233) #[] #[.pointer (some ⟨x,0,none⟩)]) [.agg #[.int .i64 e.1,.int .i64 e.2.1,.string (S e.2.2)]] I K:=by
 refine⟨233,f233,#[],#[.pointer (some ⟨x,0,none⟩)],rfl,func233,by kernel_rfl,by kernel_rfl,?_⟩
 have h:ac9 B ro e.1 e.2.1 (S e.2.2) ⟨x,0,none⟩ I fun r I=>K (.bool r) I:=by
  refine ags fun _=>?_
  unfold aak
  refine qj (tag:=tag) 0 hs fun X tag1 I1 st1 r1=>?_
  refine⟨e.1,(r1.read (st1 []).sep).2.2 _ rfl 0 _ rfl,n,?_,hK tag1 I1 st1⟩
  have hl:=(st1 []).old
  unfold qa rd at hx⊢
  cases hr:ro x with
  | some o=>rw[hr]at hx;exact hx
  | none=>
   rw[hr]at hx
   simp only at hx⊢
   cases ho:I x with
   | none=>rw[ho]at hx;simp[vy]at hx
   | some o=>rw[((st1 []).keep x o ho (by simp)).2,<-ho];exact hx
 exact qc.mono h fun v τ ⟨r,e,q⟩=>e▸q
theorem atb(a n:Int):(if a<n then n else a)=max a n:=by
 show _=if a<=n then n else a
 split<;>split<;>omega
theorem ast{b m:Nat}{d:jR}{Q:AH->Prop}(row:Row tag I (rD b) 310 ⟨some ⟨b,0,none⟩,4,4⟩ [Sl.v s,vI d.acked,vI d.last,.map (some m)])(ev:qq tag I (rE b) 132 3 s (d.events.map evV))(hs:SL.Sep ro I)(hl:d.events.length<=1048576)
  (hQ:∀ s' tag' I',qe [rD b,rE b] ro tag I tag' I'->Row tag' I' (rD b) 310 ⟨some ⟨b,0,none⟩,4,4⟩ [Sl.v s',vI (aqS d n).acked,vI d.last,.map (some m)]->qq tag' I' (rE b) 132 3 s' ((aqS d n).events.map evV)->Q I'):abz B ro (some ⟨b,0,none⟩) n I Q:=by
 refine ain fun _=>?_
 unfold abL
 refine qj (tag:=tag) 35 hs fun X tag1 I1 st1 r1=>?_
 have hs1:=(st1 []).sep
 have row1:=row.keep (st1 [])
 refine⟨_,rfl,d.acked,(row1.read hs1).2.2 _ rfl 1 _ rfl,n,(r1.read hs1).2.2 _ rfl 0 _ rfl,_,rfl,?_⟩
 rw[atb]
 refine row1.stAt [vI (max d.acked n)] 1 hs1 (by simp) (by simp[qh]) fun I2 st2 row2=>?_
 have x2:=r1.keep st2 (by simp[rD,rM,rE]<;>omega)
 have ev2:=(ev.keep (st1 [])).keep st2 (by simp[rD,rM,rE]<;>omega)
 refine⟨_,rfl,s,(Row.read row2 st2.sep).2.2 _ rfl 0 _ rfl,?_⟩
 refine ani (f:=fun e=>decide (e.1<=n)) ev2 st2.sep hl (fun e he tag3 I3 st3 K hK=>?_) fun s' tag3 I3 st3 r3=>?_
 .exact ass st3.sep ((x2.keep st3 (by simp[rD,rM,rE]<;>omega)).cell1 st3.sep) hK
 .have row3:=Row.keep row2 st3 (by simp[rD,rM,rE]<;>omega)
  refine⟨_,rfl,?_⟩
  refine Row.stPre [Sl.v s'] 0 _ I3 row3 st3.sep (by simp) (by simp[qh,Sl.v]) fun I4 st4 r4=>?_
  exact hQ s' tag3 I4 (((st1 _).trans (st2.mono (by simp))).trans ((st3.mono (by simp)).trans (st4.mono (by simp)))) r4 (qq.keep r3 st4 (by simp[rD,rM,rE]<;>omega))
theorem asu{Q:Int->AH->Prop}(hi:za tag I T M bs h)(hok:kx b0 h)(hQ:∀ tag' I',StepS [59,61] ro tag I tag' I'->za tag' I' T M bs (afd h k n).1->Q (afd h k n).2 I'):ac7 B ro (some ⟨T,0,none⟩) (S k.1) k.2 n I Q:=by
 refine ajv fun hs=>?_
 unfold adp
 refine qj (tag:=tag) 0 hs fun X tag1 I1 st1 r1=>?_
 refine⟨S k.1,k.2,qz (r1.read (st1 []).sep) rfl,?_⟩
 refine aoE (hi.fresh st1) fun a tag2 I2 st2=>?_
 have k2:∀ R,qe R ro tag I tag2 I2:=fun R=>(st1 R).trans (st2 R)
 have h2:=hi.fresh k2
 have hs2:=(st2 []).sep
 have r2:=r1.keep (st2 [])
 unfold afd at hQ
 rcases h2.map.look k with⟨a1,a2⟩ | ⟨i,b,d,hb,hp,a3,a4,m,s,row,ev,mk⟩
 .rw[a1]at hQ⊢
  simp only at hQ⊢
  have q2:=hQ tag2 I2 (qv k2) h2
  by_cases c:n<0\/0<n
  .rw[if_pos c]at q2 ⊢;exact q2
  .rw[if_neg c]at q2⊢
   refine⟨_,rfl,some M,h2.cell.cell1 hs2,S k.1,k.2,qz (r2.read hs2) rfl,?_⟩
   refine zZ (k:=k) h2.map.map hs2 aeb (adn ahm) amO ?_
   rw[a2]
   refine⟨none,rfl,?_⟩
   rw[if_neg (by simp)]
   exact q2
 .rw[a3]at hQ⊢
  simp only at hQ⊢
  by_cases c:n<0\/d.last<n
  .rw[if_pos c]at hQ⊢
   exact hQ tag2 I2 (qv k2) h2
  .rw[if_neg c]at hQ⊢
   refine⟨_,rfl,some M,h2.cell.cell1 hs2,S k.1,k.2,qz (r2.read hs2) rfl,?_⟩
   refine zZ (k:=k) h2.map.map hs2 aeb (adn ahm) amO ?_
   rw[a4]
   refine⟨some ⟨b,0,none⟩,rfl,?_⟩
   rw[if_pos (by simp)]
   refine⟨_,rfl,?_⟩
   have hr:d.events.length+d.marks.length<=32:=(hok.ok _ (pS a3)).room
   refine ast row ev hs2 (by omega) fun s' tag3 I3 st3 row3 ev3=>?_
   have hR:afh b [rD b,rE b]:=by
    refine⟨by simp[rD,rM,rE]<;>omega,by simp[rD,rM,rE]<;>omega,fun x hx e=>?_,fun x hx e=>?_,fun x hx e=>?_⟩
    all_goals
     simp only[List.mem_cons,List.not_mem_nil,or_false]at hx
     rcases hx with rfl | rfl<;>first | rfl | (exfalso;omega) | (exfalso;simp only[rD,rM,rE]at e;omega)
   unfold pf
   exact hQ tag3 I3 ((qv k2).trans (st3.s (by simp[rD,rM,rE]<;>omega))) (h2.old st3 hR hb hp ⟨m,s',row3,ev3,mk.keep st3 (by simp[rD,rM,rE]<;>omega)⟩)
end
end Zt
namespace Zt
open Go SL G Pa Wi
variable{B:World}{ro I I':AH}{tag tag':Nat->Nat}
variable{Q:Int->AH->Prop}{m:xP}
theorem amQ{s:ByteArray}{Q:ByteArray->Int->AH->Prop}(g:wV ro)(hQ:∀ tag' I',(∀R,qe R ro tag I tag' I')->Q (S ((qK (L s)).getD [])) (if parts (L s)=none then 20 else 0) I')(hs:SL.Sep ro I):yD B ro s I Q:=by
 cases hp:parts (L s)with
 | some ps=>
  have h7:∀ tag1 I1,(∀R,qe R ro T7 I tag1 I1)->Q (S ((qK (L s)).getD [])) 0 I1:=fun tag1 I1 st=>by
   have:=hQ (aoB I tag tag1) I1 (((st []).s (C:=[]) (by simp)).mix (by simp) tag)
   rw[hp]at this
   exact this
  refine akK (tag:=T7) g hp fun tag' I' st=>h7 tag' I' fun R=>⟨fun b o hb hn=>⟨((st.keep b o hb (by simp))).1,(st.keep b o hb (by simp)).2⟩,st.old,st.sep⟩
 | none=>
  refine ae2 fun hs=>?_
  unfold abW
  refine ag4 (tag:=tag) 0 g hs (fun h tag1 I1 st1=>?_) fun ps' h=>by rw[hp]at h;cases h
  rw[if_pos (by rfl)]
  have:=hQ tag1 I1 fun R=>⟨fun b o hb hn=>st1.keep b o hb (by simp),st1.old,st1.sep⟩
  unfold qK at this
  rw[hp]at this
  exact this
section
variable{T M:Nat}{bs:List Nat}{h:Hub}{k:Str×Int}
theorem apQ(g:wV ro)(hQ:∀ tag' I',(∀R,qe R ro tag I tag' I')->Q (adk k m) I'):aej B ro (S k.1) k.2 (S m.1) m.2 I Q:=by
 refine akY fun hs=>?_
 unfold aex
 refine qj (tag:=tag) 0 hs fun X tag1 I1 st1 r1=>?_
 refine qj (tag:=tag1) 0 (st1 []).sep fun Y tag2 I2 st2 r2=>?_
 have hs2:=(st2 []).sep
 refine⟨S m.1,(r2.read hs2).2.2 _ rfl 0 _ rfl,?_⟩
 refine amQ (tag:=tag2) g (fun tag3 I3 st3=>?_) hs2
 rw[L_S]
 have hs3:=(st3 []).sep
 have k3:∀ R,qe R ro tag I tag3 I3:=fun R=>(st1 R).trans ((st2 R).trans (st3 R))
 have g1:=(((r1.keep (st2 [])).keep (st3 [])).read hs3).2.2 _ rfl
 have g2:=((r2.keep (st3 [])).read hs3).2.2 _ rfl
 refine⟨m.2,g2 1 _ rfl,?_⟩
 have hq:=hQ tag3 I3 k3
 unfold adk at hq
 have j14:∀ c:Bool,(if(m.2≠1/\m.2≠2)then(160:Int)else if parts m.1=none then 20 else if(qK m.1).getD []≠k.1\/we k.1=false\/k.2<1\/4611686018427387903<k.2 then 82 else 0)=(if c=true then 82 else 0)->yf B ro Q c I3:=fun c e=>by
  rw[e]at hq
  unfold yf
  cases c
  .rw[if_neg (by simp)]at hq ⊢;exact hq
  .rw[if_pos rfl]at hq ⊢;exact hq
 have rest:(m.2=1\/m.2=2)->jB B ro X (S ((qK m.1).getD [])) (if parts m.1=none then 20 else 0) Q false I3:=fun hm=>by
  have hm':¬ (m.2≠1/\m.2≠2):=by omega
  unfold jB
  rw[if_neg (by simp)]
  by_cases c1:parts m.1=none
  .rw[if_pos c1,if_pos (by decide)]
   rw[if_neg hm',if_pos c1]at hq
   exact hq
  rw[if_neg c1,if_neg (by simp)]
  refine⟨S k.1,g1 0 _ rfl,?_⟩
  by_cases c2:(qK m.1).getD []=k.1
  .rw[if_neg (by rw[c2];simp)]
   refine⟨S k.1,g1 0 _ rfl,?_⟩
   refine aeQ ?_
   rw[L_S]
   unfold yg
   cases c3:we k.1 with
   | false=>
    rw[if_pos (by simp)]
    unfold xR
    rw[if_pos rfl]
    exact j14 true (by rw[if_neg hm',if_neg c1,if_pos (.inr (.inl c3)),if_pos rfl])
   | true=>
    rw[if_neg (by simp)]
    refine⟨k.2,g1 1 _ rfl,?_⟩
    unfold xR
    by_cases c4:k.2<1
    .rw[if_pos (by simpa using c4)]
     exact j14 true (by rw[if_neg hm',if_neg c1,if_pos (.inr (.inr (.inl c4))),if_pos rfl])
    rw[if_neg (by simpa using c4)]
    refine⟨k.2,g1 1 _ rfl,?_⟩
    refine j14 _ ?_
    rw[if_neg hm',if_neg c1]
    by_cases c5:4611686018427387903<k.2
    .rw[if_pos (.inr (.inr (.inr c5))),if_pos (by simpa using c5)]
    .rw[if_neg (by simp only[not_or];exact⟨by simpa using c2,by simp[c3],c4,c5⟩),if_neg (by simpa using c5)]
  .rw[if_pos (fun e=>c2 (ab9.1 e))]
   unfold yg
   rw[if_pos rfl]
   unfold xR
   rw[if_pos rfl]
   exact j14 true (by rw[if_neg hm',if_neg c1,if_pos (.inl c2),if_pos rfl])
 by_cases d1:m.2=1
 .rw[if_neg (by simpa using d1)]
  exact rest (.inl d1)
 .rw[if_pos d1]
  refine⟨m.2,g2 1 _ rfl,?_⟩
  by_cases d2:m.2=2
  .rw[show(!decide (m.2=2))=false by simp[d2]]
   exact rest (.inr d2)
  .rw[show(!decide (m.2=2))=true by simp[d2]]
   unfold jB
   rw[if_pos rfl]
   rw[if_pos ⟨d1,d2⟩]at hq
   exact hq
abbrev CD:List Nat:=[0,59,60,61,62]
theorem asv{b0:Nat}(g:wV ro)(hi:za tag I T M bs h)(hok:kx b0 h)(hQ:∀ bs' tag' I',StepS CD ro tag I tag' I'->za tag' I' T M bs' (pE h k m).1->Q (pE h k m).2 I'):pP B ro (some ⟨T,0,none⟩) (S k.1) k.2 m.2 (S m.1) I Q:=by
 refine ajw fun hs=>?_
 unfold adq
 refine qj (tag:=tag) 36 hs fun X tag1 I1 st1 r1=>?_
 refine xh (tag:=tag1) 37 (st1 []).sep rfl (by simp[qh]) fun Y tag2 I2 st2 r2=>?_
 have hs2:=(st2 []).sep
 have r12:=r1.keep (st2 [])
 refine⟨S k.1,k.2,qz (r12.read hs2) rfl,S m.1,m.2,qz (r2.read hs2) rfl,?_⟩
 refine apQ (tag:=tag2) g fun tag3 I3 st3=>?_
 have hs3:=(st3 []).sep
 have k3:∀ R,qe R ro tag I tag3 I3:=fun R=>(st1 R).trans ((st2 R).trans (st3 R))
 have h3:=hi.fresh k3
 have x3:=r12.keep (st3 [])
 have y3:=r2.keep (st3 [])
 unfold pE at hQ
 by_cases c0:adk k m=0
 .rw[if_neg (by simpa using c0)]at hQ⊢
  refine⟨_,rfl,some M,h3.cell.cell1 hs3,S k.1,k.2,qz (x3.read hs3) rfl,?_⟩
  refine zZ (k:=k) h3.map.map hs3 aeb (adn ahm) amO ?_
  have key:∀ (D mm:Nat) (s:Sl) (tag4:Nat->Nat) (I4:AH),StepS CD ro tag I tag4 I4->za tag4 I4 T M bs h->Row tag4 I4 36 81 ⟨some ⟨X,0,none⟩,2,2⟩ (kV k)->Row tag4 I4 37 314 ⟨some ⟨Y,0,none⟩,2,2⟩ [.string (S m.1),.int .i64 m.2]->
    Row tag4 I4 (rD D) 310 ⟨some ⟨D,0,none⟩,4,4⟩ [Sl.v s,vI (vt h k).acked,vI (vt h k).last,.map (some mm)]->qq tag4 I4 (rE D) 132 3 s ((vt h k).events.map evV)->zY kSI tag4 I4 (rM D) mm (mk1 (vt h k).marks)->
    (∀tag5 I5 d',qe [rM D] ro tag4 I4 tag5 I5->jS tag5 I5 D k d'->∀ tag6 I6,qe [126] ro tag5 I5 tag6 I6->zY kSI tag6 I6 126 M (wD (kvP h bs) k (aeo D))->∃ bs',za tag6 I6 T M bs' (wD h k d'))->
    jb B ro (some ⟨T,0,none⟩) X Y Q (some ⟨D,0,none⟩) I4:=by
   intro D mm s tag4 I4 s4 h4 x4 y4 row ev mk fin
   have hs4:=s4.sep
   unfold jb
   have gr:=(row.read hs4).2.2 _ rfl
   refine jF tag4 [rD D] ?_
   have hsA:SL.Sep (join ro (SL.inR tag4 [rD D] I4)) (SL.zJ tag4 [rD D] I4):=hs4.lentR
   have mkA:=mk.outR (L:=[rD D]) (by simp[rD,rM,rE]<;>omega)
   refine⟨_,rfl,some mm,row.lendR hs4 (by simp) rfl (i:=3) rfl,S m.1,m.2,?_,?_⟩
   .exact zu 0 fun i v hv=>by rw[ai1 hs4,Nat.zero_add];exact amM (qz (y4.read hs4) rfl) hv
   refine zZ (k:=m) mkA hsA aip (adn akg) aq4 ?_
   rw[amF]
   have room:=(vt h k).events
   have tail:∀ full:Bool,(full=true↔m∉(vt h k).marks/\32<=(vt h k).marks.length+(vt h k).events.length)->ja B ro (some ⟨T,0,none⟩) X Y (some ⟨D,0,none⟩) Q full I4:=fun full hf=>by
    unfold ja
    by_cases c1:full=true
    .rw[if_pos c1]
     rw[if_pos (hf.1 c1)]at hQ
     exact hQ bs tag4 I4 s4 h4
    rw[if_neg c1]
    rw[if_neg (fun e=>c1 (hf.2 e))]at hQ
    refine⟨_,rfl,some mm,gr 3 _ rfl,S m.1,m.2,qz (y4.read hs4) rfl,?_⟩
    refine aau (k:=m) mk hs4 aip (adn akg) fun I5 st5 m5=>?_
    rw[ask]at m5
    have h5:za tag4 I5 T M bs h->True:=fun _=>trivial
    refine⟨_,rfl,some M,(h4.cell.keep st5 (by simp[rD,rM,rE]<;>omega)).cell1 st5.sep,S k.1,k.2,qz ((x4.keep st5 (by simp[rD,rM,rE]<;>omega)).read st5.sep) rfl,?_⟩
    refine aau (k:=k) (h4.map.map.keep st5 (by simp[rD,rM,rE]<;>omega)) st5.sep aeb (adn ahm) fun I6 st6 m6=>?_
    obtain⟨bs',h6⟩:=fin tag4 I5 (aqR (vt h k) m) st5 ⟨mm,s,row.keep st5 (by simp[rD,rM,rE]<;>omega),ev.keep st5 (by simp[rD,rM,rE]<;>omega),m5⟩ tag4 I6 st6 m6
    exact hQ bs' tag4 I6 (s4.trans ((st5.s (by simp[rD,rM,rE]<;>omega)).trans (st6.s (by simp)))) h6
   by_cases c2:m∈(vt h k).marks
   .rw[if_pos c2]
    refine⟨1,rfl,?_⟩
    rw[if_neg (by decide)]
    intro hd
    rw[aiG]
    exact tail false ⟨(fun e=>by cases e),fun e=>absurd c2 e.1⟩
   .rw[if_neg c2]
    refine⟨0,rfl,?_⟩
    rw[if_pos rfl]
    refine⟨_,rfl,_,rfl,s,row.lendR hs4 (by simp) rfl (i:=0) rfl,some mm,row.lendR hs4 (by simp) rfl (i:=3) rfl,?_⟩
    refine ajk mkA hsA aip ?_
    refine⟨_,rfl,fun hd=>?_⟩
    rw[aiG]
    have e1:(mk1 (vt h k).marks).length=(vt h k).marks.length:=by simp
    have e2:s.len=(vt h k).events.length:=by rw[ev.len,List.length_map]
    have hroom:(vt h k).events.length+(vt h k).marks.length<=32:=by
     unfold vt
     cases e:qI h k with
     | none=>simp
     | some d=>exact(hok.ok _ (pS e)).room
    rw[e1,e2,SL.wb (by omega) (by omega)]
    refine tail _ ?_
    rw[decide_eq_true_iff]
    exact⟨fun e=>⟨c2,by omega⟩,fun e=>by have:=e.2;omega⟩
  rcases h3.map.look k with⟨a1,a2⟩ | ⟨i,b,d,hb,hp,a3,a4,mm,s,row,ev,mk⟩
  .rw[a2]
   refine⟨none,rfl,?_⟩
   rw[if_pos rfl]
   have ed:vt h k=⟨[],0,0,[]⟩:=by unfold vt;rw[a1];try rfl
   intro mm hrom hm D hroD hD
   have hDm:D≠mm:=fun e=>by rw[e,qE]at hD;cases hD
   have hD0:I3 D=none:=by rw[yS _ _ hDm]at hD;exact hD
   have n1:∀ R,qe R ro tag3 I3 (setTag tag3 mm (rM D)) (upd I3 mm (.map #[] 0)):=fun R=>qe.fresh hs3 hrom hm
   have m1:zY kSI (setTag tag3 mm (rM D)) (upd I3 mm (.map #[] 0)) (rM D) mm []:=⟨by simp[setTag],_,_,qE _ _ _,rfl,by simp,by simp⟩
   have n2:∀ R,qe R ro (setTag tag3 mm (rM D)) (upd I3 mm (.map #[] 0)) (setTag (setTag tag3 mm (rM D)) D (rD D)) (upd (upd I3 mm (.map #[] 0)) D (.cells #[Sl.v ⟨none,0,0⟩,.int .i64 0,.int .i64 0,.map (some mm)] 310)):=fun R=>qe.fresh (n1 []).sep hroD hD
   have rw2:Row (setTag (setTag tag3 mm (rM D)) D (rD D)) (upd (upd I3 mm (.map #[] 0)) D (.cells #[Sl.v ⟨none,0,0⟩,.int .i64 0,.int .i64 0,.map (some mm)] 310)) (rD D) 310 ⟨some ⟨D,0,none⟩,4,4⟩ [Sl.v ⟨none,0,0⟩,vI 0,vI 0,.map (some mm)]:=
    .inr ⟨D,_,rfl,by simp[setTag],qE _ _ _,by simp,rfl,Nat.le_refl _,fun i hi=>by simp⟩
   generalize (setTag (setTag tag3 mm (rM D)) D (rD D))=tag4 at n2 rw2⊢
   generalize (upd (upd I3 mm (.map #[] 0)) D (.cells #[Sl.v ⟨none,0,0⟩,.int .i64 0,.int .i64 0,.map (some mm)] 310))=I4 at n2 rw2⊢
   have k4:∀ R,qe R ro tag3 I3 tag4 I4:=fun R=>(n1 R).trans (n2 R)
   have h4:=h3.fresh k4
   have hnb:D∉bs:=fun hm'=>by
    obtain⟨i,hi',e⟩:=List.getElem_of_mem hm'
    obtain⟨o,ho⟩:=(h3.map.at' i D _ _ (by rw[List.getElem?_eq_getElem hi',e]) (List.getElem?_eq_getElem (by rw[<-h3.map.len];exact hi'))).own
    rw[hD0]at ho;cases ho
   refine key D mm ⟨none,0,0⟩ tag4 I4 (qv fun R=>(k3 R).trans (k4 R)) h4 (x3.keep (k4 [])) (y3.keep (k4 [])) (by rw[ed];exact rw2) (by rw[ed];exact qq.nil _ _ _) (by rw[ed];exact m1.keep (n2 [])) fun tag5 I5 d' st5 hd5 tag6 I6 st6 m6=>?_
   have hR:afh D [rM D]:=by
    refine⟨by simp[rD,rM,rE]<;>omega,by simp[rD,rM,rE]<;>omega,fun x hx e=>?_,fun x hx e=>List.mem_singleton.1 hx,fun x hx e=>?_⟩
    .rw[List.mem_singleton.1 hx]at e;unfold rM at e;omega
    .rw[List.mem_singleton.1 hx]at e;unfold rM at e;omega
   exact⟨bs++[D],h4.new a1 st5 hR hnb hd5 st6 m6⟩
  .rw[a4]
   refine⟨some ⟨b,0,none⟩,rfl,?_⟩
   rw[if_neg (by simp)]
   have ed:vt h k=d:=by unfold vt;rw[a3];try rfl
   refine key b mm s tag3 I3 (qv k3) h3 x3 y3 (by rw[ed];exact row) (by rw[ed];exact ev) (by rw[ed];exact mk) fun tag5 I5 d' st5 hd5 tag6 I6 st6 m6=>?_
   have hR:afh b [rM b]:=by
    refine⟨by simp[rD,rM,rE]<;>omega,by simp[rD,rM,rE]<;>omega,fun x hx e=>?_,fun x hx e=>List.mem_singleton.1 hx,fun x hx e=>?_⟩
    .rw[List.mem_singleton.1 hx]at e;unfold rM at e;omega
    .rw[List.mem_singleton.1 hx]at e;unfold rM at e;omega
   have h5:=h3.old st5 hR hb hp hd5
   rw[aih a4]at m6
   exact⟨bs,h5.cell.keep st6,h5.map.mono (by
    have e:kvP (wD h k d') bs=kvP h bs:=by rw[ae7 d' h3.map.keys hp,akz _ _ _ _ _ _ hp]
    rw[e];exact m6) fun j c k' y _ _ hy=>hy.keepS (st6.s (C:=[62]) (by simp))⟩
 .rw[if_pos (by simpa using c0)]at hQ⊢
  exact hQ bs tag3 I3 (qv k3) h3
end
end Zt
namespace Zt
open Go SL Pa Wi
structure agt(c:vY):Prop where
 home:c.home.length<=1048576
 path:c.path.length<=1048576
 ops:∀ o∈c.ops,o.path.length<=1048576/\o.data.length<=1048576
end Zt
namespace Zt
open Go SL G Pa Wi
variable{B:World}{ro I I':AH}{tag tag':Nat->Nat}
structure aec(tag:Nat->Nat)(I:AH)(q m:Nat)(os ms:Sl)(c:vY):Prop where
 ops:adh tag I q os c.ops
 mem:Row tag I m 3 ms (c.members.map vI)