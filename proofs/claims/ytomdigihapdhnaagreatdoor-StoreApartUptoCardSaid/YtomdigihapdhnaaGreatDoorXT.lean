import Derived.Test.YtomdigihapdhnaaGreatDoorXS
set_option linter.all false
set_option maxRecDepth 99999
set_option maxHeartbeats 0
open Go.IntKind(i64)
namespace Go.Proofs.YtomdigihapdhnaaGreatDoor
namespace SL
open Go
variable{P:Program}{B:ZB}{ro I I':AH}{tag tag':Nat->Nat}{L:List Nat}
variable{τ:AH}{l:List (List Value)}{r w:Nat}{tag1:Nat->Nat}{s:Sl}{e:TypeId}
def ql.outR(h:ql tag I r e w s l)(hr:r∉L):ql tag (SL.zE tag L I) r e w s l:=by
 rcases h with h | ⟨c,cs,ha,ht,hs,hx⟩
 .exact .inl h
 .refine .inr ⟨c,cs,ha,ht,?_,hx⟩
  unfold SL.zE;rw[ma (by rw[ht];exact hr)];exact hs
def ql.backR(h:ql tag1 τ r e w s l)(hd:qL (inR tag L I) τ):ql (tagB tag tag1 L I) (join (inR tag L I) τ) r e w s l:=by
 rcases h with h | ⟨c,cs,ha,ht,hs,hx⟩
 .exact .inl h
 .have hn:inR tag L I c=none:=by
   cases e:inR tag L I c with
   | none=>rfl
   | some o=>have:=hd c o e;rw[hs]at this;cases this
  exact .inr ⟨c,cs,ha,by rw[aeN hn];exact ht,by unfold join;rw[hn];exact hs,hx⟩
def Row.againR{l:List Value}(h:Row tag I r e s l)(hr:r∈L):Row (tagB tag tag1 L I) (join (inR tag L I) τ) r e s l:=by
 rcases h with h | ⟨c,cs,ha,ht,hs,hx⟩
 .exact .inl h
 .have hn:inR tag L I c=some (.cells cs e):=by unfold inR;rw[mc (by rw[ht];exact hr)];exact hs
  exact .inr ⟨c,cs,ha,by rw[amL hn];exact ht,by unfold join;rw[hn],hx⟩
end SL
namespace Zt
open Go SL G Pa Wi
variable{B:ZB}{ro I I':AH}{tag tag':Nat->Nat}{L:List Nat}
variable{τ:AH}{h hb:Hub}{C bs:List Nat}{l:List Value}{M T Th Tt W b r:Nat}{tag1:Nat->Nat}{a2 ms ms0 os:Sl}{st:St}{s:Sto}{k:Str×Int}{c:wM}
def wd.outR(h:wd tag I r T st)(hL:∀ x∈L,x%64≠r%64/\x%64≠6):wd tag (SL.zE tag L I) r T st:=by
 obtain⟨M,bs,h⟩:=h
 have no:∀ x,x%64=r%64->x∉L:=fun x hx hm=>(hL x hm).1 hx
 refine⟨M,bs,h.keys,h.len,h.nd,h.cell.outR (no _ rfl),h.map.outR (no _ z7),fun i b p hb hp=>?_⟩
 obtain⟨s,a,e⟩:=h.nodes i b p hb hp
 exact⟨s,a.outR (no _ z7),e.outR fun hm=>(hL 6 hm).2 rfl⟩
def wd.backR(h:wd tag1 τ r T st)(hd:qL (inR tag L I) τ):wd (tagB tag tag1 L I) (join (inR tag L I) τ) r T st:=by
 obtain⟨M,bs,h⟩:=h
 refine⟨M,bs,h.keys,h.len,h.nd,h.cell.backR hd,h.map.backR hd,fun i b p hb hp=>?_⟩
 obtain⟨s,a,e⟩:=h.nodes i b p hb hp
 exact⟨s,a.backR hd,e.backR hd⟩
def zd.outR(hi:zd tag I T M bs h)(hL:∀ x∈L,x%64∉[59,60,61,62]):zd tag (SL.zE tag L I) T M bs h:=by
 have no:∀ x,x%64∈[59,60,61,62]->x∉L:=fun x hx hm=>hL x hm hx
 refine⟨hi.cell.outR (no 62 y1),hi.map.mono (hi.map.map.outR (no 126 y1)) fun _ b k d _ _ hx=>?_⟩
 obtain⟨m,s,row,ev,mk⟩:=hx
 exact⟨m,s,row.outR (no _ (by rw[show(59+64*(b+2))%64=59 by omega];decide)),ev.outR (no _ (by rw[show(61+64*(b+2))%64=61 by omega];decide)),mk.outR (no _ (by rw[show(60+64*(b+2))%64=60 by omega];decide))⟩
def zd.backR(hi:zd tag1 τ T M bs h)(hd:qL (inR tag L I) τ):zd (tagB tag tag1 L I) (join (inR tag L I) τ) T M bs h:=by
 refine⟨hi.cell.backR hd,hi.map.mono (hi.map.map.backR hd) fun _ b k d _ _ hx=>?_⟩
 obtain⟨m,s,row,ev,mk⟩:=hx
 exact⟨m,s,row.backR hd,ev.backR hd,mk.backR hd⟩
abbrev RQ:=Int->Int->Sl->Int->Sl->Int->Int->Int->Int->Sl->Sl->Int->AH->Prop
abbrev adV(x:Rep)(rs ds ns es:Sl):List Value:=[.int .i64 x.code,.int .i64 x.session,Sl.v rs,.int .i64 x.bad,Sl.v ds,.int .i64 x.ver,.int .i64 x.ctr,.int .i64 x.own,.int .i64 x.kids,Sl.v ns,Sl.v es,.int .i64 x.epoch]
abbrev aeD(Q:RQ)(x:Rep)(rs ds ns es:Sl)(I:AH):Prop:=Q x.code x.session rs x.bad ds x.ver x.ctr x.own x.kids ns es x.epoch I
abbrev ai6(c:wM)(os ms:Sl):List Value:=[.int .i64 c.kind,.string (S c.home),.int .i64 c.session,.int .i64 c.req,.int .i64 c.nonce,.int .i64 c.lease,.int .i64 c.beats,.int .i64 c.ack,Sl.v os,.string (S c.path),.bool c.watch,.int .i64 c.epoch,Sl.v ms]
def ah9(x:Rep)(rs ds ns es:Sl):∀ v∈adV x rs ds ns es,qg v=true:=by simp[qg,Sl.v]
abbrev anf(ro:AH)(R:Nat)(Q:RQ):AH->Prop:=fun I=> ∃(a b:Int) (c:Sl) (d:Int) (e:Sl) (f g h i:Int) (j k:Sl) (m:Int),SL.qe ro I ⟨R,0,none⟩ 0 [.int .i64 a,.int .i64 b,Sl.v c,.int .i64 d,Sl.v e,.int .i64 f,.int .i64 g,.int .i64 h,.int .i64 i,Sl.v j,Sl.v k,.int .i64 m]/\Q a b c d e f g h i j k m I
abbrev alC(ro:AH)(R:Nat)(Q:RQ):RQ:=fun a b c d e f g h i j k m I=>stN ⟨R,0,none⟩ (anf ro R Q) [.int .i64 a,.int .i64 b,Sl.v c,.int .i64 d,Sl.v e,.int .i64 f,.int .i64 g,.int .i64 h,.int .i64 i,Sl.v j,Sl.v k,.int .i64 m] 0 I
def ud{R:Nat}{Q:RQ}(x:Rep)(rs ds ns es:Sl)(hr:Row tag I r 30 ⟨some ⟨R,0,none⟩,12,12⟩ l)(hl:l.length=12)(hs:SL.Sep ro I)(hQ:∀ I',qd [r] ro tag I tag I'->aeD Q x rs ds ns es I'):
  stN ⟨R,0,none⟩ (anf ro R Q) (adV x rs ds ns es) 0 I:=by
 refine hr.stPre (adV x rs ds ns es) 0 _ I hs (by simp[hl]) (ah9 _ _ _ _ _) fun I1 st1 r1=>?_
 have e:l.take 0++adV x rs ds ns es++l.drop (0+(adV x rs ds ns es).length)=adV x rs ds ns es:=by
  rw[Lm,nF,LI (by simp[hl]),nk]
 rw[e]at r1
 exact⟨_,_,_,_,_,_,_,_,_,_,_,_,qz (r1.read st1.sep) rfl,hQ I1 st1⟩
def aia{Q:ZA->Int->AH->Prop}(hQ:∀ tag' I',(∀R,qd R ro tag I tag' I')->Q (S c.home) c.session I'):vO B ro c.kind (S c.home) c.session c.req c.nonce c.lease c.beats c.ack os (S c.path) c.watch c.epoch ms I Q:=by
 refine akI fun hs=>?_
 unfold adQ
 refine qf (tag:=tag) 0 hs fun X tag1 I1 st1 r1=>?_
 have g0:=fun τ t (st:∀ R,qd R ro tag1 I1 t τ)=>((r1.keep (st [])).read (st []).sep).2.2 _ rfl
 intro Y hroY hY
 have st2:∀ R,qd R ro tag1 I1 (setTag tag1 Y 0) (upd I1 Y (.cells #[.string ByteArray.empty,.int .i64 0] 81)):=fun R=>qd.fresh (st1 []).sep hroY hY
 refine⟨S c.home,g0 _ _ st2 1 _ rfl,c.session,g0 _ _ st2 2 _ rfl,?_⟩
 have:=kz (ro:=ro) (tag:=tag1) (I:=I1) (e:=81) (cs:= #[.string ByteArray.empty,.int .i64 0]) (vs:=[.string (S c.home),.int .i64 c.session]) (K:=fun y I=> ∃(a:ZA) (b:Int),SL.qe ro I ⟨y,0,none⟩ 0 [.string a,.int .i64 b]/\Q a b I) 0 (st1 []).sep rfl (by simp[qg]) fun y tag3 I3 st3 r3=>⟨S c.home,c.session,qz (r3.read (st3 []).sep) rfl,hQ tag3 I3 fun R=>(st1 R).trans (st3 R)⟩
 exact this Y hroY hY
def acw{e:Int}{Q:RQ}(hQ:∀ tag' I',(∀R,qd R ro tag I tag' I')->aeD Q (wN e) nS nS nS nS I'):wJ B ro e I Q:=by
 refine ana fun hs=>?_
 unfold afS
 refine kz (tag:=tag) 0 hs rfl (ah9 (wN e) nS nS nS nS) fun X tag1 I1 st1 r1=>?_
 exact⟨_,_,_,_,_,_,_,_,_,_,_,_,qz (r1.read (st1 []).sep) rfl,hQ tag1 I1 st1⟩
def auo{Q:Int->Int->AH->Prop}(hQ:∀ tag' I',(∀R,qd R ro tag I tag' I')->Q 64 8192 I'):afD B ro I Q:=by
 refine anb fun hs=>?_
 unfold afT
 refine kz (tag:=tag) 0 hs rfl (by simp[qg]) fun X tag1 I1 st1 r1=>?_
 exact⟨_,_,qz (r1.read (st1 []).sep) rfl,hQ tag1 I1 st1⟩
def au1{Q:Int->AH->Prop}(g:ze ro)(hQ:∀ tag' I',(∀R,qd R ro tag I tag' I')->Q (atE c) I'):af2 B ro c.kind (S c.home) c.session c.req c.nonce c.lease c.beats c.ack os (S c.path) c.watch c.epoch ms I Q:=by
 refine apM fun hs=>?_
 unfold ai1
 refine qf (tag:=tag) 0 hs fun X tag1 I1 st1 r1=>?_
 have hs1:=(st1 []).sep
 refine⟨S c.path,(r1.read hs1).2.2 _ rfl 9 _ rfl,?_⟩
 refine api (tag:=tag1) g (fun tag2 I2 st2=>?_) hs1
 rw[L_S]
 have hq:=hQ tag2 I2 fun R=>(st1 R).trans (st2 R)
 unfold atE at hq
 by_cases h1:parts c.path=none
 .rw[mc h1]at hq⊢
  rw[ma y1]
  unfold abv
  rw[ma y0]
  exact hq
 .rw[ma h1]at hq⊢
  rw[mc rfl]
  refine⟨S c.home,((r1.keep (st2 [])).read (st2 []).sep).2.2 _ rfl 1 _ rfl,?_⟩
  unfold abv
  by_cases h2:(qq c.path).getD []=c.home
  .rw[ma (by simp[h2])]at hq
   rw[ma (by simp[h2])]
   exact hq
  .rw[mc h2]at hq
   rw[mc (by simpa using fun e=>h2 (abL.1 e))]
   exact hq
structure wI(tag:Nat->Nat)(I:AH)(W T Tt Th:Nat)(ms:Sl)(s:Sto):Prop where
 own:Row tag I 54 153 ⟨some ⟨W,0,none⟩,5,5⟩ [vI s.epoch,Sl.v ms,ptr T,ptr Tt,ptr Th]
 mem:Row tag I 118 3 ms (s.members.map vI)
 tree:wd tag I 10 T s.tree
 tbl:aiV tag I Tt s.tbl
 hub:akp tag I Th s.hub
def wI.at(h:wI tag I W T Tt Th ms s):uV tag I W s:=⟨T,Tt,Th,ms,h.own,h.mem,h.tree,h.tbl,h.hub⟩
def uV.in(h:uV tag I W s):∃ T Tt Th ms,wI tag I W T Tt Th ms s:=by
 obtain⟨T,Tt,Th,ms,a,b,c,d,e⟩:=h
 exact⟨T,Tt,Th,ms,a,b,c,d,e⟩
abbrev DSt:List Nat:=[6,10,54,55,56,57,58,59,60,61,62]
def wI.keepS(h:wI tag I W T Tt Th ms s)(k:StepS C ro tag I tag' I')(hC:∀ x∈DSt,x∉C:=by decide):wI tag' I' W T Tt Th ms s:=
 ⟨h.own.keepS k (hC 54 y1),h.mem.keepS k (hC 54 y1),h.tree.keepS k (hC 10 y1) (hC 6 y1),h.tbl.keepS k ⟨hC 55 y1,hC 56 y1,hC 57 y1,hC 58 y1,hC 6 y1⟩,h.hub.keepS k ⟨hC 62 y1,hC 59 y1,hC 60 y1,hC 61 y1⟩⟩
def wI.fresh(h:wI tag I W T Tt Th ms s)(k:∀ R,qd R ro tag I tag' I'):wI tag' I' W T Tt Th ms s:=h.keepS (qv (C:=[]) k) y0
def asN{q q2 rw:Nat}{home:Str}{ws:List Int}{Q:Sl->AH->Prop}(g:ze ro)(hr:r<64)(hr0:r≠0)(hr6:r≠6)(hq:q<64)(hq2:q2<64)(hqs:q∉[0,6,r])(hq2s:q2∉[0,6,r,q])
  (h:wd tag I r T st) (hi:qQ b st) (hb:b<=1073741824) (hw:Row tag I rw 3 a2 (ws.map vI)) (hrw:rw%64≠r/\rw%64≠6) (hwl:ws.length<=4611686018427387903) (hs:SL.Sep ro I)
  (hQ:∀ es tag' I',StepS [0,r,q,q2] ro tag I tag' I'->wd tag' I' r T (xe st home ws).1->ql tag' I' (q2+256) 336 2 es ((xe st home ws).2.map alm)->Q es I'):
  abj B ro (some ⟨T,0,none⟩) (S home) a2 I Q:=by
 have hL:∀ x∈[rw],x%64≠r%64/\x%64≠6:=fun x hx=>by rw[mr.1 hx,nN hr];exact hrw
 have base:abj B (join ro (SL.inR tag [rw] I)) (some ⟨T,0,none⟩) (S home) a2 (SL.zE tag [rw] I) fun es τ=>qL (SL.inR tag [rw] I) τ->Q es (join (SL.inR tag [rw] I) τ):=by
  refine atX (tag:=tag) (b:=b) (q:=q) (q2:=q2) (adZ g) hr hr0 hr6 hq hq2 hqs hq2s (h.outR hL) hi hb ?_ hwl fun es tag1 τ st1 h1 h2 hd=>?_
  .refine⟨(hw.read hs).1,(hw.read hs).2.1,fun p hp i v hv=>hw.lendR hs y0 hp hv⟩
  .exact hQ es _ _ (st1.backR hs hd) (h1.backR hd) (h2.backR hd)
 have hd:qL (SL.inR tag [rw] I) (SL.zE tag [rw] I):=fun c o hc=>by
  obtain⟨h1,_⟩:=aoJ hc
  unfold SL.zE;rw[mc h1]
 have:=qc.lend base hd
 rw[akt]at this
 exact qc.mono this fun v I' ⟨τ,ht,hdj,r0,hv,q'⟩=>by subst ht;exact⟨r0,hv,q' hdj⟩
abbrev CC:List Nat:=[0,10,20,21,52,53,59,60,61,62]
def avI(l:List Str):(l.map alm)=(l.map fun p=>((2:Int),p)).map afO:=by rw[Lh];try rfl
def apk{Q:AH->Prop}(g:ze ro)(h:wI tag I W T Tt Th ms s)(i:wU b s)(hb:b<=33554433)
  (hQ:∀ tag' I',StepS CC ro tag I tag' I'->wI tag' I' W T Tt Th ms (acp s k)->Q I'):uh B ro (some ⟨W,0,none⟩) (S k.1) k.2 I Q:=by
 refine ai0 fun hs=>?_
 unfold abI
 refine qf (tag:=tag) 52 hs fun X tag1 I1 st1 r1=>?_
 have hs1:=(st1 []).sep
 have h1:=h.fresh st1
 refine⟨_,rfl,some ⟨Th,0,none⟩,(h1.own.read hs1).2.2 _ rfl 4 _ rfl,S k.1,k.2,qz (r1.read hs1) rfl,?_⟩
 refine qf (tag:=tag1) 53 hs1 fun Y tag2 I2 st2 r2=>?_
 have h2:=h1.fresh st2
 obtain⟨M,bs,hub⟩:=h2.hub
 refine auj hub r2 fun bs' tag3 I3 st3 hub3=>?_
 have hs3:=st3.sep
 have r3:=(r1.keep (st2 [])).keepS st3
 have o3:=h2.own.keepS st3
 have t3:=h2.tree.keepS st3
 have L2:∀ x∈[54,52],x%64≠10%64/\x%64≠6:=by decide
 refine yl tag3 [54,52] ?_
 have hsA:SL.Sep (join ro (SL.inR tag3 [54,52] I3)) (SL.zE tag3 [54,52] I3):=hs3.lentR
 have tA:=t3.outR L2
 have hubA:=hub3.outR (L:=[54,52]) y1
 refine⟨_,rfl,some ⟨Th,0,none⟩,o3.lendR hs3 y0 rfl (i:=4) rfl,_,rfl,some ⟨T,0,none⟩,o3.lendR hs3 y0 rfl (i:=2) rfl,S k.1,r3.lendR hs3 y0 rfl (i:=0) rfl,k.2,r3.lendR hs3 y0 rfl (i:=1) rfl,?_⟩
 refine qf (tag:=tag3) 53 hsA fun Z tag4 I4 st4 r4=>?_
 have t4:=tA.keep (st4 [])
 have hub4:=hub3.outR (L:=[54,52]) y1 |>.fresh st4
 refine asN (b:=20*b) (q:=20) (q2:=21) (ws:=[k.2]) (rw:=53) (adZ g) y1 y1 y1 y1 y1 y1 y1 t4 i.tree z7 r4 y1 y0 (st4 []).sep fun es tag5 I5 st5 t5 e5=>?_
 have hub5:=hub4.keepS st5
 rw[avI]at e5
 have hln:(xe s.tree k.1 [k.2]).2.length<=1099511627776:=by
  have:=(ama (home:=k.1) (kd s.tree [k.2]) (a:=(s.tree,[])) i.tree (by
   have:=amp (st:=s.tree) (ws:=[k.2]);have:=i.tree.len;omega)).2
  have h2:=amp (st:=s.tree) (ws:=[k.2])
  have h3:=i.tree.len
  unfold xe
  simp only[nH,ml]at this
  omega
 refine aph (b0:=b) (adZ g) hub5 (alp i.hub) hb e5 y1 (j4 hln) fun n tag6 I6 st6 hub6=>?_
 intro hd
 have k46:StepS CC (join ro (SL.inR tag3 [54,52] I3)) tag3 (SL.zE tag3 [54,52] I3) tag6 I6:=(qv st4).trans ((st5.mono y1).trans (st6.mono y1))
 have kA:=k46.backR hs3 hd
 have k2:StepS CC ro tag I tag3 I3:=(qv fun R=>(st1 R).trans (st2 R)).trans (st3.mono y1)
 have kB:=k2.trans kA
 refine hQ _ _ kB ⟨o3.againR y0,?_,?_,?_,M,bs',hub6.backR hd⟩
 .exact(h2.mem.keepS st3).keepS kA
 .exact(t5.keepS st6).backR hd
 .exact(h2.tbl.keepS st3).keepS kA
def Row.lendAll{e:TypeId}{n c:Nat}(h:Row tag I r e ⟨some ⟨b,0,none⟩,n,c⟩ l)(hs:SL.Sep ro I)(hr:r∈L):SL.qe (join ro (SL.inR tag L I)) τ ⟨b,0,none⟩ 0 l:=
 zx 0 fun i v hv=>by rw[ml];exact h.lendR hs hr rfl hv
def wI.hubSet(h:wI tag I W T Tt Th ms s)(k:StepS C ro tag I tag' I')(hC:∀ x∈[6,10,54,55,56,57,58],x∉C)(hh:akp tag' I' Th hb):wI tag' I' W T Tt Th ms {s with hub:=hb}:=
 ⟨h.own.keepS k (hC 54 y1),h.mem.keepS k (hC 54 y1),h.tree.keepS k (hC 10 y1) (hC 6 y1),h.tbl.keepS k ⟨hC 55 y1,hC 56 y1,hC 57 y1,hC 58 y1,hC 6 y1⟩,hh⟩
def apl{m:kN}(e:¬ (xH h k m).2=0):xH h k m=(h,(xH h k m).2):=by
 unfold xH at e⊢
 split
 .rfl
 .rename_i c
  rw[ma c]at e
  split
  .rfl
  .rename_i d;rw[ma d]at e;exact mt rfl e
abbrev CGe:List Nat:=[0,47,59,60,61,62]
def apm{X:Nat}{kind:Int}{K:Int->AH->Prop}(g:ze ro)(hs:SL.Sep ro I)(h:wI tag I W T Tt Th ms0 s)(i:wU b s)(x:Row tag I 46 57 ⟨some ⟨X,0,none⟩,13,13⟩ (ai6 c os ms))
  (hK:∀ tag' I',StepS CD ro tag I tag' I'->wI tag' I' W T Tt Th ms0 {s with hub:=(xH s.hub c.key (c.path,kind)).1}->Row tag' I' 46 57 ⟨some ⟨X,0,none⟩,13,13⟩ (ai6 c os ms)->K (xH s.hub c.key (c.path,kind)).2 I'):
  jX I fun ψ I=>
   ∃p19_18:Addr,(some ⟨W,0,none⟩:ZO)=some p19_18/\
   ∃(x21_19:ZO),qa (join ro ψ) (fun _=>none) (p19_18.add 4)=some (.pointer x21_19)/\
   ∃(x25_20:ZA),qa (join ro ψ) (fun _=>none) ((⟨X,0,none⟩:Addr).add 9)=some (.string x25_20)/\
   ∃(a:Int) (b:ZA) (c d e f g h:Int) (i:Sl) (j:ZA) (k:Bool) (l:Int) (m:Sl),SL.qe (join ro ψ) I ⟨X,0,none⟩ 0 [.int .i64 a,.string b,.int .i64 c,.int .i64 d,.int .i64 e,.int .i64 f,.int .i64 g,.int .i64 h,Sl.v i,.string j,.bool k,.int .i64 l,Sl.v m]/\
   vO B (join ro ψ) a b c d e f g h i j k l m I fun x23_22a x23_22b I=>
   uK B (join ro ψ) x21_19 x23_22a x23_22b kind x25_20 I fun x26_23 I=>
   (qL ψ I->(fun I=>K x26_23 I) (join ψ I)):=by
 refine yl tag [54,46] ?_
 have hsA:SL.Sep (join ro (SL.inR tag [54,46] I)) (SL.zE tag [54,46] I):=hs.lentR
 obtain⟨M,bs,hub⟩:=h.hub
 have hubA:=hub.outR (L:=[54,46]) y1
 refine⟨_,rfl,some ⟨Th,0,none⟩,h.own.lendR hs y0 rfl (i:=4) rfl,S c.path,x.lendR hs y0 rfl (i:=9) rfl,_,_,_,_,_,_,_,_,_,_,_,_,_,Row.lendAll x hs y0,?_⟩
 refine aia (tag:=tag) fun tag1 I1 st1=>?_
 refine avG (k:=c.key) (m:=(c.path,kind)) (adZ g) (hubA.fresh st1) i.hub fun bs' tag2 I2 st2 hub2=>?_
 intro hd
 have kA:StepS CD ro tag I _ _:=((qv st1).trans st2).backR hs hd
 refine hK _ _ kA ?_ (x.againR y0)
 have:=h.hubSet kA y1 ⟨M,bs',hub2.backR hd⟩
 exact⟨h.own.againR y0,this.mem,this.tree,this.tbl,this.hub⟩
def avJ{Q:RQ}(g:ze ro)(h:wI tag I W T Tt Th ms0 s)(i:wU b s)
  (hQ:∀ ds tag' I',StepS CGe ro tag I tag' I'->wI tag' I' W T Tt Th ms0 (acq s c).1->Row tag' I' 6 5 ds ((acq s c).2.data.map vU)->aeD Q (acq s c).2 nS ds nS nS I'):
  acM B ro (some ⟨W,0,none⟩) c.kind (S c.home) c.session c.req c.nonce c.lease c.beats c.ack os (S c.path) c.watch c.epoch ms I Q:=by
 refine aj3 fun hs=>?_
 unfold acW
 refine qf (tag:=tag) 46 hs fun X tag1 I1 st1 r1=>?_
 refine qf (tag:=tag1) 47 (st1 []).sep fun R tag2 I2 st2 r2=>?_
 have x2:=r1.keep (st2 [])
 refine⟨_,_,_,_,_,_,_,_,_,_,_,_,_,qz (x2.read (st2 []).sep) rfl,?_⟩
 refine au1 (tag:=tag2) g fun tag3 I3 st3=>?_
 have hs3:=(st3 []).sep
 have k3:∀ R,qd R ro tag I tag3 I3:=fun R=>(st1 R).trans ((st2 R).trans (st3 R))
 have h3:=h.fresh k3
 have x3:=x2.keep (st3 [])
 have y3:=r2.keep (st3 [])
 unfold acq at hQ
 by_cases h0:atE c=0
 .rw[ma (j4 h0)]
  rw[ma (j4 h0)]at hQ
  have tail:∀ (hb:Hub) tag4 I4,StepS CD ro tag3 I3 tag4 I4->wI tag4 I4 W T Tt Th ms0 {s with hub:=hb}->Row tag4 I4 46 57 ⟨some ⟨X,0,none⟩,13,13⟩ (ai6 c os ms)->
    (∀ds tag' I',StepS CGe ro tag I tag' I'->wI tag' I' W T Tt Th ms0 {s with hub:=hb}->Row tag' I' 6 5 ds ((match s.tree.lookup c.path with | none=>wN 70 | some n=>{Rep.zero with data:=n.data,ver:=n.ver,ctr:=n.ctr,own:=n.own,kids:=n.kids}).data.map vU)->aeD Q (match s.tree.lookup c.path with | none=>wN 70 | some n=>{Rep.zero with data:=n.data,ver:=n.ver,ctr:=n.ctr,own:=n.own,kids:=n.kids}) nS ds nS nS I')->
    kQ B ro (some ⟨W,0,none⟩) X R Q I4:=fun hb tag4 I4 st4 h4 x4 q4=>by
   have hs4:=st4.sep
   have y4:=y3.keepS st4
   have k4:StepS CGe ro tag I tag4 I4:=(qv k3).trans (st4.mono y1)
   unfold kQ
   refine⟨_,rfl,some ⟨T,0,none⟩,(h4.own.read hs4).2.2 _ rfl 2 _ rfl,S c.path,(x4.read hs4).2.2 _ rfl 9 _ rfl,?_⟩
   obtain⟨MT,bsT,hT⟩:=h4.tree
   have fin:∀ (x:Rep) ds tag5 I5,zK 0 ro tag4 I4 tag5 I5->Row tag5 I5 6 5 ds (x.data.map vU)->x=(match s.tree.lookup c.path with | none=>wN 70 | some n=>{Rep.zero with data:=n.data,ver:=n.ver,ctr:=n.ctr,own:=n.own,kids:=n.kids})->x.session=0->x.bad=0->x.epoch=0->
     nw ro I5 (.cells #[.int .i64 0,.int .i64 0,.int .i64 0,.int .i64 0] 26) fun x8_14 I=>
     stN ⟨x8_14,0,none⟩ (fun I=>
      ∃(x44_15a:Int) (x44_15b:Int) (x44_15c:Int) (x44_15d:Int),SL.qe ro I ⟨x8_14,0,none⟩ 0 [.int .i64 x44_15a,.int .i64 x44_15b,.int .i64 x44_15c,.int .i64 x44_15d]/\
      stN ⟨R,0,none⟩ (anf ro R Q) [.int .i64 x.code,.int .i64 0,Sl.v (⟨none,0,0⟩:Sl),.int .i64 0,Sl.v ds,.int .i64 x44_15a,.int .i64 x44_15b,.int .i64 x44_15c,.int .i64 x44_15d,Sl.v (⟨none,0,0⟩:Sl),Sl.v (⟨none,0,0⟩:Sl),.int .i64 0] 0 I) [.int .i64 x.ver,.int .i64 x.ctr,.int .i64 x.own,.int .i64 x.kids] 0 I:=fun x ds tag5 I5 st5 rd e z1 z2 z3=>by
    refine kz (tag:=tag5) 0 st5.sep rfl (by simp[qg]) fun Z tag6 I6 st6 r6=>?_
    refine⟨x.ver,x.ctr,x.own,x.kids,qz (r6.read (st6 []).sep) rfl,?_⟩
    have y6:=(y4.keepC st5).keep (st6 [])
    have:=ud (Q:=Q) x nS ds nS nS y6 rfl (st6 []).sep fun I7 st7=>?_
    .unfold adV at this;rw[z1,z2,z3]at this;exact this
    .have k7:StepS CGe ro tag I tag6 I7:=k4.trans ((st5.s y0).trans ((qv st6).trans (st7.s y0)))
     have k47:StepS [0,47] ro tag4 I4 tag6 I7:=(st5.s y0).trans ((qv st6).trans (st7.s y0))
     rw[e]
     refine q4 ds tag6 I7 k7 (h4.keepS k47) ?_
     rw[<-e]
     exact((rd.keep (st6 [])).keep st7)
   refine ajP (r:=10) g y1 y1 y1 hT (fun p n hp=>am3 i.tree hp) (fun hp=>?_) (fun ps hp hl tag5 I5 st5=>?_) (fun n hn ds tag5 I5 st5 rd=>?_)
   .rw[L_S]at hp
    unfold atE at h0
    rw[mc hp]at h0;cases h0
   .rw[L_S]at hl
    exact fin (wN 70) nS tag5 I5 st5 (Row.nil 6 5) (by rw[hl]) rfl rfl rfl
   .rw[L_S]at hn
    exact fin {Rep.zero with data:=n.data,ver:=n.ver,ctr:=n.ctr,own:=n.own,kids:=n.kids} ds tag5 I5 st5 rd (by rw[hn]) rfl rfl rfl
  refine⟨c.watch,(x3.read hs3).2.2 _ rfl 10 _ rfl,?_⟩
  cases hw:c.watch with
  | false=>
   rw[ma y0]
   rw[ma (by simp[hw])]at hQ
   simp only[hw,Bool.false_eq_true,if_false]at hQ
   exact tail s.hub tag3 I3 (StepS.refl hs3) h3 x3 hQ
  | true=>
   rw[mc rfl]
   refine apm (kind:=1) (K:=fun v I=>if¬(v=0)then wJ B ro v I (alC ro R Q)else kQ B ro (some ⟨W,0,none⟩) X R Q I) g hs3 h3 i x3 fun tag4 I4 st4 h4 x4=>?_
   by_cases e:(xH s.hub c.key (c.path,1)).2=0
   .rw[ma (j4 e)]
    rw[ma (by simp[hw,e])]at hQ
    simp only[hw,if_true]at hQ
    exact tail _ tag4 I4 st4 h4 x4 hQ
   .rw[mc e]
    rw[mc ⟨hw,e⟩]at hQ
    refine acw (tag:=tag4) fun tag5 I5 st5=>?_
    have y5:=(y3.keepS st4).keep (st5 [])
    refine ud (Q:=Q) (wN (xH s.hub c.key (c.path,1)).2) nS nS nS nS y5 rfl (st5 []).sep fun I6 st6=>?_
    have k6:StepS CGe ro tag I tag5 I6:=(qv k3).trans ((st4.mono y1).trans ((qv st5).trans (st6.s y0)))
    have hh:xH s.hub c.key (c.path,1)=(s.hub,(xH s.hub c.key (c.path,1)).2):=apl e
    have h4':wI tag4 I4 W T Tt Th ms0 s:=by
     have:=h4
     rw[hh]at this
     exact this
    exact hQ nS tag5 I6 k6 ((h4'.fresh st5).keepS (st6.s (C:=[47]) y0)) (Row.nil 6 5)
 .rw[mc (j4 h0)]
  rw[mc (j4 h0)]at hQ
  refine acw (tag:=tag3) fun tag4 I4 st4=>?_
  have y4:=y3.keep (st4 [])
  refine ud (Q:=Q) (wN (atE c)) nS nS nS nS y4 rfl (st4 []).sep fun I5 st5=>?_
  exact hQ nS tag4 I5 ((qv fun R=>(k3 R).trans (st4 R)).trans (st5.s y0)) ((h3.fresh st4).keepS (st5.s (C:=[47]) y0)) (Row.nil 6 5)
abbrev CLi:List Nat:=[0,42,47,59,60,61,62]
def aup{Q:RQ}(g:ze ro)(h:wI tag I W T Tt Th ms0 s)(i:wU b s)(hb:b<=33554433)
  (hQ:∀ ns tag' I',StepS CLi ro tag I tag' I'->wI tag' I' W T Tt Th ms0 (uS s c).1->Row tag' I' 42 9 ns ((uS s c).2.names.map Pa.vS)->aeD Q (uS s c).2 nS nS ns nS I'):
  ab8 B ro (some ⟨W,0,none⟩) c.kind (S c.home) c.session c.req c.nonce c.lease c.beats c.ack os (S c.path) c.watch c.epoch ms I Q:=by
 refine ajo fun hs=>?_
 unfold acu
 refine qf (tag:=tag) 46 hs fun X tag1 I1 st1 r1=>?_
 refine qf (tag:=tag1) 47 (st1 []).sep fun R tag2 I2 st2 r2=>?_
 have x2:=r1.keep (st2 [])
 refine⟨_,_,_,_,_,_,_,_,_,_,_,_,_,qz (x2.read (st2 []).sep) rfl,?_⟩
 refine au1 (tag:=tag2) g fun tag3 I3 st3=>?_
 have hs3:=(st3 []).sep
 have k3:∀ R,qd R ro tag I tag3 I3:=fun R=>(st1 R).trans ((st2 R).trans (st3 R))
 have h3:=h.fresh k3
 have x3:=x2.keep (st3 [])
 have y3:=r2.keep (st3 [])
 unfold uS at hQ
 have flt:∀ (e:Int) tag4 I4,StepS CLi ro tag I tag4 I4->wI tag4 I4 W T Tt Th ms0 s->Row tag4 I4 47 30 ⟨some ⟨R,0,none⟩,12,12⟩ (adV Rep.zero nS nS nS nS)->(∀ns tag' I',StepS CLi ro tag I tag' I'->wI tag' I' W T Tt Th ms0 s->Row tag' I' 42 9 ns ([]:List Value)->aeD Q (wN e) nS nS ns nS I')->wJ B ro e I4 (alC ro R Q):=fun e tag4 I4 k4 h4 y4 q=>by
  refine acw (tag:=tag4) fun tag5 I5 st5=>?_
  have y5:=y4.keep (st5 [])
  refine ud (Q:=Q) (wN e) nS nS nS nS y5 rfl (st5 []).sep fun I6 st6=>?_
  exact q nS tag5 I6 (k4.trans ((qv st5).trans (st6.s y0))) ((h4.fresh st5).keepS (st6.s (C:=[47]) y0)) (Row.nil _ _)
 by_cases h0:atE c=0
 .rw[ma (j4 h0)]
  rw[ma (j4 h0)]at hQ
  have hp0:parts c.path≠none:=fun e=>by unfold atE at h0;rw[mc e]at h0;cases h0
  refine⟨_,rfl,some ⟨T,0,none⟩,(h3.own.read hs3).2.2 _ rfl 2 _ rfl,S c.path,(x3.read hs3).2.2 _ rfl 9 _ rfl,?_⟩
  obtain⟨MT,bsT,hT⟩:=h3.tree
  have hlen:=i.tree.len
  have fin:∀ (x:Rep) (s':Sto) (ns:Sl) tag5 I5,StepS CLi ro tag I tag5 I5->wI tag5 I5 W T Tt Th ms0 s'->Row tag5 I5 47 30 ⟨some ⟨R,0,none⟩,12,12⟩ (adV Rep.zero nS nS nS nS)->Row tag5 I5 42 9 ns (x.names.map Pa.vS)->
    (∀ns tag' I',StepS CLi ro tag I tag' I'->wI tag' I' W T Tt Th ms0 s'->Row tag' I' 42 9 ns (x.names.map Pa.vS)->aeD Q x nS nS ns nS I')->stN ⟨R,0,none⟩ (anf ro R Q) (adV x nS nS ns nS) 0 I5:=fun x s' ns tag5 I5 k5 h5 y5 n5 q=>by
   refine ud (Q:=Q) x nS nS ns nS y5 rfl k5.sep fun I6 st6=>?_
   exact q ns tag5 I6 (k5.trans (st6.s y0)) (h5.keepS (st6.s (C:=[47]) y0)) (n5.keep st6)
  refine apx (q:=42) g y1 y1 y1 hT (fun p hp=>i.tree.inv.path p.1 p.2 ((qU i.tree.inv.keys).2 hp)) z7 (fun hp=>?_) (fun ps hp hl=>?_) fun n hn ns tag4 I4 ks st4 hpm hsr rn=>?_
  .rw[L_S]at hp;exact mt hp hp0
  .rw[L_S]at hl
   rw[hl]at hQ
   rw[ma y1]
   unfold xa
   rw[ma y0]
   unfold vk
   exact fin (wN 70) s nS tag3 I3 (qv k3) h3 y3 (Row.nil _ _) hQ
  .rw[L_S]at hn rn
   rw[hn]at hQ
   simp only at hQ
   rw[aiD i.tree.inv.keys hpm hsr]at rn
   have rn:Row tag4 I4 42 9 ns ((af5 s.tree c.path).map Pa.vS):=rn
   have hs4:=st4.sep
   have k4:StepS CLi ro tag I tag4 I4:=(qv k3).trans (st4.s y0)
   have s4:StepS [42] ro tag3 I3 tag4 I4:=st4.s y0
   have h4:=h3.keepS s4
   have x4:=x3.keepS s4
   have y4:=y3.keepS s4
   rw[mc rfl]
   refine⟨c.watch,(x4.read hs4).2.2 _ rfl 10 _ rfl,?_⟩
   unfold xa
   cases hw:c.watch with
   | false=>
    rw[ma y0]
    rw[ma (by simp[hw])]at hQ
    simp only[hw,Bool.false_eq_true,if_false]at hQ
    unfold vk
    exact fin {Rep.zero with names:=af5 s.tree c.path} s ns tag4 I4 k4 h4 y4 rn hQ
   | true=>
    rw[mc rfl]
    refine apm (kind:=2) (K:=fun v I=>if¬(v=0)then wJ B ro v I (alC ro R Q)else vk B ro R ns 0 Q I) g hs4 h4 i x4 fun tag5 I5 st5 h5 x5=>?_
    have k5:=k4.trans (st5.mono y1)
    have y5:=y4.keepS st5
    by_cases e:(xH s.hub c.key (c.path,2)).2=0
    .rw[ma (j4 e)]
     rw[ma (by simp[hw,e])]at hQ
     simp only[hw,if_true]at hQ
     unfold vk
     exact fin {Rep.zero with names:=af5 s.tree c.path} _ ns tag5 I5 k5 h5 y5 (rn.keepS st5) hQ
    .rw[mc e]
     rw[mc ⟨hw,e⟩]at hQ
     rw[apl e]at h5
     exact flt _ tag5 I5 k5 h5 y5 hQ
 .rw[mc (j4 h0)]
  rw[mc (j4 h0)]at hQ
  exact flt (atE c) tag3 I3 (qv k3) h3 y3 hQ
def amq{l:List Int}:∀ (b:Option Int),amb l b=true↔∀ j (hj:j<l.length),0<=l[j]/\l[j]<=31/\(∀x,(if j=0 then b else l[j - 1]?)=some x->x<l[j]):=by
 induction l with
 | nil=>intro b;exact⟨fun _ j hj=>by simp at hj,fun _=>rfl⟩
 | cons m l ih=>
  intro b
  unfold amb
  simp only[mu,mS]
  rw[ih (some m)]
  constructor
  .rintro⟨⟨⟨h1,h2⟩,h3⟩,h4⟩ j hj
   cases j with
   | zero=>
    refine⟨h1,h2,fun x hx=>?_⟩
    simp only[if_true]at hx
    rw[hx]at h3
    simpa using h3
   | succ j=>
    have hj':j<l.length:=by simpa using hj
    obtain⟨a,b',c⟩:=h4 j hj'
    refine⟨a,b',fun x hx=>c x ?_⟩
    cases j with
    | zero=>simpa using hx
    | succ j=>simpa using hx
  .intro h
   refine⟨⟨⟨(h 0 y0).1,(h 0 y0).2.1⟩,?_⟩,fun j hj=>?_⟩
   .cases b with
    | none=>rfl
    | some x=>
     have:=(h 0 y0).2.2 x y0
     rw[me];exact this
   .obtain⟨a,b',c⟩:=h (j+1) (j4 hj)
    refine⟨a,b',fun x hx=>c x ?_⟩
    cases j with
    | zero=>simpa using hx
    | succ j=>simpa using hx
def aqv{s:Sl}{l:List Int}{Q:Bool->AH->Prop}(h:SL.qJ ro I s (l.map vI))(hl:l.length<=1048576)(hQ:Q (aa9 l) I):jp B ro s I Q:=by
 refine ad0 fun _=>?_
 unfold pE
 have hln:s.len=l.length:=by rw[h.1,mg]
 suffices∀m j,j+m=l.length->(∀k (hk:k<l.length),k<j->0<=l[k]/\l[k]<=31/\(∀x,(if k=0 then none else l[k - 1]?)=some x->x<l[k]))->lfpD (wh B ro s Q) (j:Int) I from
  this _ 0 (ml _) (fun k _ hk=>by omega)
 intro m
 induction m with
 | zero=>
  intro j hj hall
  refine lfpD.intro ?_
  unfold wh
  rw[ma z7]
  unfold jc
  have e:aa9 l=(decide (1<=(s.len:Int)) && decide ((s.len:Int)<=7)):=by
   unfold aa9
   rw[(amq none).2 fun k hk=>hall k hk z7,Bool.true_and,show decide (1<=(s.len:Int))=decide (1<=l.length)from Pn.2 z7,show decide ((s.len:Int)<=7)=decide (l.length<=7)from Pn.2 z7]
  rw[<-e];exact hQ
 | succ m ih=>
  intro j hj hall
  have hjl:j<l.length:=by omega
  obtain⟨p,hp⟩:∃ p,s.a=some p:=by
   cases e:s.a with
   | none=>have:=h.2.1 e;simp at this;rw[this]at hjl;simp at hjl
   | some p=>exact⟨p,rfl⟩
  have gj:=h.2.2 p hp j (vI l[j]) (by rw[mh,md hjl];try rfl)
  have bad:∀ {c:Bool},c=true->¬ (0<=l[j]/\l[j]<=31/\(∀x,(if j=0 then none else l[j - 1]?)=some x->x<l[j]))->wz B ro s (j:Int) Q (lfpD (wh B ro s Q)) c I:=fun hc hn=>by
   unfold wz
   rw[mc hc]
   have:aa9 l=false:=by
    unfold aa9
    have:amb l none=false:=by
     rw[<-nV]
     intro e
     exact hn ((amq none).1 e j hjl)
    rw[this];try rfl
   rw[this]at hQ;exact hQ
  have good:∀ {c:Bool},c=false->(0<=l[j]/\l[j]<=31/\(∀x,(if j=0 then none else l[j - 1]?)=some x->x<l[j]))->wz B ro s (j:Int) Q (lfpD (wh B ro s Q)) c I:=fun hc hg=>by
   unfold wz
   rw[ma (by simp[hc]),Pa.inc j z7]
   refine ih (j+1) z7 fun k hk hkj=>?_
   rcases mM k j with h | h
   .exact hall k hk h
   .have:k=j:=by omega
    subst this;exact hg
  refine lfpD.intro ?_
  unfold wh
  rw[mc z7]
  refine⟨p,hp,z7,z7,l[j],by rw[mq,mV];exact gj,?_⟩
  by_cases c1:l[j]<0\/31<l[j]
  .rw[mc c1]
   exact bad rfl fun hn=>by omega
  rw[ma c1]
  by_cases c2:0<j
  .rw[mc z7]
   have ew:i64.wrap ((j:Int) - 1)=((j - 1:Nat):Int):=by rw[SL.qY z7 z7];omega
   rw[ew]
   have hj1:j - 1<l.length:=by omega
   have gj1:=h.2.2 p hp (j - 1) (vI l[j - 1]) (by rw[mh,md hj1];try rfl)
   refine⟨p,hp,z7,z7,l[j - 1],by rw[mq,mV];exact gj1,?_⟩
   unfold zo
   by_cases c3:l[j]<=l[j - 1]
   .exact bad (j4 c3) fun hn=>by
     have:=hn.2.2 l[j - 1] (by rw[ma z7,md hj1]);omega
   .refine good (j4 c3) ⟨z7,z7,fun x hx=>?_⟩
    rw[ma z7,md hj1]at hx
    cases hx;omega
  .rw[ma z7]
   unfold zo
   exact good rfl ⟨z7,z7,fun x hx=>by rw[mc z7]at hx;cases hx⟩
abbrev CRc:List Nat:=[0,51,54]
def arw{Q:RQ}(h:wI tag I W T Tt Th ms0 s)(i:wU b s)(hb:b<=33554433)(hm:Row tag I 28 3 ms (c.members.map vI))(hl:c.members.length<=1048576)
  (hQ:∀ ms' tag' I',StepS CRc ro tag I tag' I'->wI tag' I' W T Tt Th ms' (aaM s c).1->aeD Q (aaM s c).2 nS nS nS nS I'):
  aa0 B ro (some ⟨W,0,none⟩) c.kind (S c.home) c.session c.req c.nonce c.lease c.beats c.ack os (S c.path) c.watch c.epoch ms I Q:=by
 refine ah3 fun hs=>?_
 unfold abd
 refine qf (tag:=tag) 50 hs fun X tag1 I1 st1 r1=>?_
 refine qf (tag:=tag1) 51 (st1 []).sep fun R tag2 I2 st2 r2=>?_
 have hs2:=(st2 []).sep
 have k2:∀ R,qd R ro tag I tag2 I2:=fun R=>(st1 R).trans (st2 R)
 have x2:=r1.keep (st2 [])
 have h2:=h.fresh k2
 have m2:=hm.keep (k2 [])
 refine⟨ms,(x2.read hs2).2.2 _ rfl 12 _ rfl,?_⟩
 refine aqv (m2.read hs2) hl ?_
 unfold aaM at hQ
 have flt:∀ (e:Int),(∀ms' tag' I',StepS CRc ro tag I tag' I'->wI tag' I' W T Tt Th ms' s->aeD Q (wN e) nS nS nS nS I')->wJ B ro e I2 (alC ro R Q):=fun e q=>by
  refine acw (tag:=tag2) fun tag5 I5 st5=>?_
  have y5:=r2.keep (st5 [])
  refine ud (Q:=Q) (wN e) nS nS nS nS y5 rfl (st5 []).sep fun I6 st6=>?_
  exact q ms0 tag5 I6 ((qv k2).trans ((qv st5).trans (st6.s y0))) ((h2.fresh st5).keepS (st6.s (C:=[51]) y0))
 cases h1:aa9 c.members with
 | false=>
  rw[mc y0]
  rw[mc h1]at hQ
  exact flt 190 hQ
 | true=>
 rw[ma y0]
 rw[ma (by simp[h1])]at hQ
 refine⟨_,rfl,c.epoch,(x2.read hs2).2.2 _ rfl 11 _ rfl,s.epoch,(h2.own.read hs2).2.2 _ rfl 0 _ rfl,?_⟩
 by_cases h3:c.epoch=s.epoch
 .rw[ma (j4 h3)]
  rw[ma (j4 h3)]at hQ
  refine yl tag2 [54] ?_
  have hsA:SL.Sep (join ro (SL.inR tag2 [54] I2)) (SL.zE tag2 [54] I2):=hs2.lentR
  refine⟨_,rfl,s.epoch,h2.own.lendR hs2 y0 rfl (i:=0) rfl,ms,((x2.outR (L:=[54]) y1).read hsA).2.2 _ rfl 12 _ rfl,?_⟩
  refine ahb (tag:=tag2) 118 ((m2.read hs2).lentR hs2) hsA (j4 hl) (by simp[qg]) fun ms' tag3 I3 st3 r3=>⟨_,rfl,fun hd=>?_⟩
  have kA:StepS [] ro tag2 I2 _ _:=(qv st3).backR hs2 hd
  have o3:=h2.own.againR (L:=[54]) (tag1:=tag3) (τ:=I3) y0
  have r3':=r3.backR (I:=I2) (tag:=tag2) (L:=[54]) hd
  have h3:=h2.keepS kA y0
  generalize (join (SL.inR tag2 [54] I2) I3)=I4 at kA o3 r3' h3⊢
  generalize (tagB tag2 tag3 [54] I2)=tag4 at kA o3 r3' h3
  have hep:=i.ep
  rw[show i64.wrap (s.epoch+1)=s.epoch+1 from SL.qY z7 z7]
  refine o3.stPre [vI (s.epoch+1)] 0 _ I4 kA.sep y0 (by simp[qg]) fun I5 st5 o5=>?_
  refine⟨_,rfl,?_⟩
  refine Row.stAt [Sl.v ms'] 1 o5 st5.sep y0 (by simp[qg,Sl.v]) fun I6 st6 o6=>?_
  have k46:qd [54] ro tag4 I4 tag4 I6:=st5.trans st6
  have o6':Row tag4 I6 54 153 ⟨some ⟨W,0,none⟩,5,5⟩ [vI (s.epoch+1),Sl.v ms',ptr T,ptr Tt,ptr Th]:=o6
  refine⟨_,rfl,s.epoch+1,(o6'.read st6.sep).2.2 _ rfl 0 _ rfl,?_⟩
  have y6:=((r2.keepS kA y0).keep k46)
  refine ud (Q:=Q) {Rep.zero with epoch:=s.epoch+1} nS nS nS nS y6 rfl st6.sep fun I7 st7=>?_
  have k47:qd [51,54] ro tag4 I4 tag4 I7:=(k46.mono y0).trans (st7.mono y0)
  have h7:StepS CRc ro tag I tag4 I7:=(qv k2).trans ((kA.mono y0).trans (k47.s y0))
  refine hQ ms' tag4 I7 h7 ⟨o6'.keep st7,r3'.keep k47,?_,?_,?_⟩
  .exact h3.tree.keepS (k47.s (C:=[51,54]) y0)
  .exact h3.tbl.keepS (k47.s (C:=[51,54]) y0)
  .exact h3.hub.keepS (k47.s (C:=[51,54]) y0)
 .rw[mc h3]
  rw[mc h3]at hQ
  exact flt 191 hQ
end Zt
namespace Zt
open Go SL G Pa Wi
variable{B:ZB}{ro I I':AH}{tag tag':Nat->Nat}
def abR.outR{L:List Nat}{q:Nat}{s:Sl}{ops:List MOp}(h:abR tag I q s ops)(hq:q∉L)(h6:6∉L):abR tag (SL.zE tag L I) q s ops:=by
 obtain⟨ds,h1,h2,h3⟩:=h
 exact⟨ds,h1,ql.outR h2 hq,fun i o d ho hd=>aak.outR (h3 i o d ho hd) h6⟩
def agP.keepS{C:List Nat}{os ms:Sl}{c:wM}(h:agP tag I 24 28 os ms c)(k:StepS C ro tag I tag' I')(hC:24∉C/\28∉C/\6∉C:=by decide):agP tag' I' 24 28 os ms c:=⟨abR.keepS h.ops k hC.1 hC.2.2,h.mem.keepS k hC.2.1⟩
def avK{home:Str}{owner qn qb:Int}{ops:List MOp}{st:St}:(qR st home owner qn qb ops).eff.length<=16:=by
 have key:∀ (os:List MOp) (i:Nat) (w v:ph),zt home owner qn qb os i w= .inr v->v.eff.length<=w.eff.length+os.length:=by
  intro os
  induction os with
  | nil=>intro i w v h;cases h;simp
  | cons o os ih=>
   intro i w v h
   unfold zt at h
   split at h
   .cases h
   .have:=ih _ _ _ h
    have h2:=(aql (home:=home) (owner:=owner) (qn:=qn) (qb:=qb) (w:=w) (o:=o)).2
    simp only[mz]
    omega
 unfold qR
 split
 .simp
 .split
  .simp
  .cases e:zt home owner qn qb ops 0 ⟨srt st,[],[]⟩with
   | inl x=>simp[adf]
   | inr w=>
    have:=key _ _ _ _ e
    simp only[adf]
    simp at this
    omega
def anP{s:Sto}{c:wM}:(acq s c).2.results=[]/\(acq s c).2.names=[]/\(acq s c).2.events=[]:=by
 unfold acq
 split
 .exact⟨rfl,rfl,rfl⟩
 .split
  .exact⟨rfl,rfl,rfl⟩
  .simp only
   split<;>exact⟨rfl,rfl,rfl⟩
def amr{s:Sto}{c:wM}:(uS s c).2.results=[]/\(uS s c).2.data=[]/\(uS s c).2.events=[]:=by
 unfold uS
 split
 .exact⟨rfl,rfl,rfl⟩
 .split
  .exact⟨rfl,rfl,rfl⟩
  .split<;>exact⟨rfl,rfl,rfl⟩
abbrev CDo:List Nat:=[0,1,2,3,4,5,10,12,13,14,15,17,18,19,20,21,25,26,27,30,31,42,45,47,57,58,59,60,61,62]
def awu{b W T Tt Th:Nat}{ms0 os ms:Sl}{s:Sto}{c:wM}{Q:RQ}(g:ze ro)(h:wI tag I W T Tt Th ms0 s)(i:wU b s)(hb:b<=33554432)(hc:agP tag I 24 28 os ms c)(hsm:aj9 c)
  (hQ:∀ rs ds ns tag' I',StepS CDo ro tag I tag' I'->wI tag' I' W T Tt Th ms0 (doS s c).1->ql tag' I' 14 128 2 rs ((doS s c).2.results.map xQ)->Row tag' I' 6 5 ds ((doS s c).2.data.map vU)->Row tag' I' 42 9 ns ((doS s c).2.names.map Pa.vS)->aeD Q (doS s c).2 rs ds ns nS I'):
  adw B ro (some ⟨W,0,none⟩) c.kind (S c.home) c.session c.req c.nonce c.lease c.beats c.ack os (S c.path) c.watch c.epoch ms I Q:=by
 refine akJ fun hs=>?_
 unfold adR
 refine qf (tag:=tag) 44 hs fun X tag1 I1 st1 r1=>?_
 refine qf (tag:=tag1) 45 (st1 []).sep fun R tag2 I2 st2 r2=>?_
 have hs2:=(st2 []).sep
 have k2:∀ R,qd R ro tag I tag2 I2:=fun R=>(st1 R).trans (st2 R)
 have x2:=r1.keep (st2 [])
 have h2:=h.fresh k2
 have c2:=hc.keepS (qv (C:=[]) k2) y0
 refine⟨c.kind,(x2.read hs2).2.2 _ rfl 0 _ rfl,?_⟩
 unfold doS at hQ
 have zero:∀ (s':Sto) tag3 I3,StepS CDo ro tag I tag3 I3->wI tag3 I3 W T Tt Th ms0 s'->Row tag3 I3 45 30 ⟨some ⟨R,0,none⟩,12,12⟩ (adV Rep.zero nS nS nS nS)->
   (∀rs ds ns tag' I',StepS CDo ro tag I tag' I'->wI tag' I' W T Tt Th ms0 s'->ql tag' I' 14 128 2 rs (Rep.zero.results.map xQ)->Row tag' I' 6 5 ds (Rep.zero.data.map vU)->Row tag' I' 42 9 ns (Rep.zero.names.map Pa.vS)->aeD Q Rep.zero rs ds ns nS I')->jF B ro R Q I3:=fun s' tag3 I3 k3 h3 y3 q=>by
  unfold jF
  refine ud (Q:=Q) Rep.zero nS nS nS nS y3 rfl k3.sep fun I4 st4=>?_
  exact q nS nS nS tag3 I4 (k3.trans (st4.s y0)) (h3.keepS (st4.s (C:=[45]) y0)) (ql.nil _ _ _) (Row.nil _ _) (Row.nil _ _)
 by_cases k1:c.kind=2
 .rw[mc k1]at hQ⊢
  refine yl tag2 [54,44] ?_
  have hsA:SL.Sep (join ro (SL.inR tag2 [54,44] I2)) (SL.zE tag2 [54,44] I2):=hs2.lentR
  obtain⟨M,bs,tbl⟩:=h2.tbl
  have tA:=tbl.outR (L:=[54,44]) y1
  refine⟨_,rfl,some ⟨Tt,0,none⟩,h2.own.lendR hs2 y0 rfl (i:=3) rfl,_,_,_,_,_,_,_,_,_,_,_,_,_,Row.lendAll x2 hs2 y0,?_⟩
  refine aia (tag:=tag2) fun tag3 I3 st3=>?_
  refine qf (tag:=tag3) 53 (st3 []).sep fun Y tag4 I4 st4 r4=>?_
  refine asK (b0:=b) (home:=c.home) (n:=c.session) ((tA.fresh st3).fresh st4) i.tbl z7 y1 r4 fun tag5 I5 st5 tbl5=>?_
  intro hd
  have kA:StepS [58] ro tag2 I2 _ _:=((qv fun R=>(st3 R).trans (st4 R)).trans st5).backR hs2 hd
  refine zero {s with tbl:=(aaL s.tbl c.key).1} _ _ ((qv k2).trans (kA.mono y1)) ⟨h2.own.againR y0,h2.mem.keepS kA,h2.tree.keepS kA,⟨M,bs,tbl5.backR hd⟩,h2.hub.keepS kA⟩ (r2.keepS kA) hQ
 rw[ma k1]at hQ⊢
 by_cases k5:c.kind=5
 .rw[mc k5]at hQ⊢
  unfold aeu at hQ
  simp only at hQ
  refine yl tag2 [54,44] ?_
  have hsA:SL.Sep (join ro (SL.inR tag2 [54,44] I2)) (SL.zE tag2 [54,44] I2):=hs2.lentR
  have tA:=h2.tree.outR (L:=[54,44]) y1
  have oA:=abR.outR (L:=[54,44]) c2.ops y1 y1
  refine⟨_,rfl,some ⟨T,0,none⟩,h2.own.lendR hs2 y0 rfl (i:=2) rfl,S c.home,x2.lendR hs2 y0 rfl (i:=1) rfl,c.session,x2.lendR hs2 y0 rfl (i:=2) rfl,os,x2.lendR hs2 y0 rfl (i:=8) rfl,?_⟩
  refine auo (tag:=tag2) fun tag3 I3 st3=>?_
  have hh:=hsm.home
  refine atT (b:=20*b) (q:=24) (adZ g) y1 y1 y1 y1 y1 y1 (tA.keep (st3 [])) i.tree z7 (abR.keepS oA (qv (C:=[]) st3) y0 y0) (fun o ho=>by have:=(hsm.ops o ho).2;omega) z7 fun rs es tag4 I4 st4 t4 rr4 re4=>?_
  refine kz (tag:=tag4) (vs:=[Sl.v rs,Sl.v es,.int .i64 (qR s.tree c.home c.session 64 8192 c.ops).bad]) 43 st4.sep rfl (by simp[qg,Sl.v]) fun Y tag5 I5 st5 y5=>?_
  intro hd
  have kA0:StepS (10::DA) (join ro (SL.inR tag2 [54,44] I2)) tag2 (SL.zE tag2 [54,44] I2) tag5 I5:=(qv st3).trans (st4.trans (qv st5))
  have kA:=kA0.backR hs2 hd
  have o6:=h2.own.againR (L:=[54,44]) (tag1:=tag5) (τ:=I5) y0
  have t6:=(t4.keep (st5 [])).backR (I:=I2) (tag:=tag2) (L:=[54,44]) hd
  have rr6:=ql.backR (I:=I2) (tag:=tag2) (L:=[54,44]) (ql.keep rr4 (st5 [])) hd
  have re6:=ql.backR (I:=I2) (tag:=tag2) (L:=[54,44]) (ql.keep re4 (st5 [])) hd
  have y6:=y5.backR (I:=I2) (tag:=tag2) (L:=[54,44]) hd
  have m6:=h2.mem.keepS kA
  have tb6:=h2.tbl.keepS kA
  obtain⟨M,bs,hub6⟩:=h2.hub.keepS kA
  have z6:=r2.keepS kA
  generalize (join (SL.inR tag2 [54,44] I2) I5)=I6 at kA o6 t6 rr6 re6 y6 m6 tb6 hub6 z6⊢
  generalize (tagB tag2 tag5 [54,44] I2)=tag6 at kA o6 t6 rr6 re6 y6 m6 tb6 hub6 z6
  have hs6:=kA.sep
  refine⟨_,rfl,some ⟨Th,0,none⟩,(o6.read hs6).2.2 _ rfl 4 _ rfl,es,(y6.read hs6).2.2 _ rfl 1 _ rfl,?_⟩
  have hel:(qR s.tree c.home c.session 64 8192 c.ops).eff.length<=16:=avK
  refine aph (b0:=b) g hub6 i.hub z7 re6 y1 z7 fun n tag7 I7 st7 hub7=>?_
  have y7:=y6.keepS st7
  have gy:=(y7.read st7.sep).2.2 _ rfl
  refine⟨rs,gy 0 _ rfl,_,gy 2 _ rfl,?_⟩
  refine ud (Q:=Q) {Rep.zero with code:=(qR s.tree c.home c.session 64 8192 c.ops).err,results:=(qR s.tree c.home c.session 64 8192 c.ops).res,bad:=(qR s.tree c.home c.session 64 8192 c.ops).bad} rs nS nS nS (z6.keepS st7) rfl st7.sep fun I8 st8=>?_
  have k68:StepS [0,45,59,60,61] ro tag6 I6 tag7 I8:=(st7.mono y1).trans (st8.s y0)
  refine hQ rs nS nS tag7 I8 ((qv k2).trans ((kA.mono y1).trans (k68.mono y1))) ⟨o6.keepS k68,m6.keepS k68,t6.keepS k68,tb6.keepS k68,⟨M,bs,hub7.keepS (st8.s (C:=[45]) y0)⟩⟩ (ql.keepS rr6 k68) (Row.nil _ _) (Row.nil _ _)
 rw[ma k5]at hQ⊢
 by_cases k6:c.kind=6
 .rw[mc k6]at hQ⊢
  refine⟨_,_,_,_,_,_,_,_,_,_,_,_,_,qz (x2.read hs2) rfl,?_⟩
  refine avJ g h2 i fun ds tag3 I3 st3 h3 d3=>?_
  obtain⟨e1,e2,e3⟩:=anP (s:=s) (c:=c)
  refine ud (Q:=Q) (acq s c).2 nS ds nS nS (r2.keepS st3) rfl st3.sep fun I4 st4=>?_
  exact hQ nS ds nS tag3 I4 ((qv k2).trans ((st3.mono y1).trans (st4.s y0))) (h3.keepS (st4.s (C:=[45]) y0)) (by rw[e1];exact ql.nil _ _ _) (d3.keep st4) (by rw[e2];exact Row.nil _ _)
 rw[ma k6]at hQ⊢
 by_cases k7:c.kind=7
 .rw[mc k7]at hQ⊢
  refine⟨_,_,_,_,_,_,_,_,_,_,_,_,_,qz (x2.read hs2) rfl,?_⟩
  refine aup g h2 i z7 fun ns tag3 I3 st3 h3 n3=>?_
  obtain⟨e1,e2,e3⟩:=amr (s:=s) (c:=c)
  refine ud (Q:=Q) (uS s c).2 nS nS ns nS (r2.keepS st3) rfl st3.sep fun I4 st4=>?_
  exact hQ nS nS ns tag3 I4 ((qv k2).trans ((st3.mono y1).trans (st4.s y0))) (h3.keepS (st4.s (C:=[45]) y0)) (by rw[e1];exact ql.nil _ _ _) (by rw[e2];exact Row.nil _ _) (n3.keep st4)
 rw[ma k7]at hQ⊢
 exact zero s tag2 I2 (qv k2) h2 r2 hQ
def auq{t:Tbl}{home:Str}{nonce lease:Int}(h:(wX t home nonce lease).2.2=0):wb home=true:=by
 unfold wX at h
 split at h
 .cases h
 .rename_i hn;simpa using hn
def asO{t:Tbl}{home:Str}{nonce lease:Int}(h:¬ (wX t home nonce lease).2.2=0):(wX t home nonce lease).1=t:=by
 unfold wX at h⊢
 by_cases c1:wb home=false
 .rw[mc c1]
 rw[ma c1]at h⊢
 by_cases c2:okN nonce=false
 .rw[mc c2]
 rw[ma c2]at h⊢
 by_cases c3:lease<1\/1048576<lease
 .rw[mc c3]
 rw[ma c3]at h⊢
 cases hw:ag6 (qP t home) nonce with
 | some p=>rfl
 | none=>
  rw[hw]at h
  simp only at h⊢
  by_cases c5:64<=(qP t home).live.length\/(qP t home).last=4611686018427387903
  .rw[mc c5]
  .rw[ma c5]at h;exact mt rfl h
def aur{home:Str}(hn:wb home=true):parts (47::home)=some [home]:=by
 have hl:=ab9 hn
 exact qZ.2 ⟨by simp[mk],⟨y0,fun y hy=>by rw[mr.1 hy];exact hn,by simp[mk];omega⟩⟩
def ams(home:Str):L ((⟨#[47]⟩:ZA)++S home)=47::home:=by
 rw[show((⟨#[47]⟩:ZA))=S [47]from rfl,ail,L_S];try rfl
abbrev COp:List Nat:=[0,10,49,55,56,57,58]
def aus{b W T Tt Th:Nat}{ms0 os ms:Sl}{s:Sto}{c:wM}{Q:RQ}(g:ze ro)(h:wI tag I W T Tt Th ms0 s)(i:wU b s)(hb:b<=33554432)(hsm:aj9 c)
  (hQ:∀ tag' I',StepS COp ro tag I tag' I'->wI tag' I' W T Tt Th ms0 (abS s c).1->aeD Q (abS s c).2 nS nS nS nS I'):
  uI B ro (some ⟨W,0,none⟩) c.kind (S c.home) c.session c.req c.nonce c.lease c.beats c.ack os (S c.path) c.watch c.epoch ms I Q:=by
 refine aeE fun hs=>?_
 unfold aab
 refine qf (tag:=tag) 48 hs fun X tag1 I1 st1 r1=>?_
 refine qf (tag:=tag1) 49 (st1 []).sep fun R tag2 I2 st2 r2=>?_
 have hs2:=(st2 []).sep
 have k2:∀ R,qd R ro tag I tag2 I2:=fun R=>(st1 R).trans (st2 R)
 have x2:=r1.keep (st2 [])
 have h2:=h.fresh k2
 have hh:=hsm.home
 refine⟨S c.home,(x2.read hs2).2.2 _ rfl 1 _ rfl,by rw[ahO];show 1+_<=_;omega,_,rfl,some ⟨T,0,none⟩,(h2.own.read hs2).2.2 _ rfl 2 _ rfl,?_⟩
 obtain⟨MT,bsT,hT⟩:=h2.tree
 have main:∀ (dS:Sl) (v1 v2 v3 v4 e:Int) tag3 I3,zK 0 ro tag2 I2 tag3 I3->(wb c.home=true->(e=70↔(s.tree.lookup (47::c.home)).isNone=true))->
   nw ro I3 (.cells #[.int .i64 0,.int .i64 0,.int .i64 0,.int .i64 0] 26) fun x7_9 I=>
   stN ⟨x7_9,0,none⟩ (fun I=>
    ∃(x26_10:ZA),qa ro I ((⟨X,0,none⟩:Addr).add 1)=some (.string x26_10)/\
    pH B ro x26_10 I fun x27_11 I=>
    ∃p34_12:Addr,(some ⟨W,0,none⟩:ZO)=some p34_12/\
    ∃(x36_13:ZO),qa ro I (p34_12.add 3)=some (.pointer x36_13)/\
    ∃(x38_14:ZA),qa ro I ((⟨X,0,none⟩:Addr).add 1)=some (.string x38_14)/\
    ∃(x40_15:Int),qa ro I ((⟨X,0,none⟩:Addr).add 4)=some (.int .i64 x40_15)/\
    ∃(x42_16:Int),qa ro I ((⟨X,0,none⟩:Addr).add 5)=some (.int .i64 x42_16)/\
    jq B ro x36_13 x38_14 x40_15 x42_16 I fun x43_17 x43_18 x43_19 I=>
    if¬(x43_19=0)then
     wJ B ro x43_19 I (alC ro R Q)
    else
    if(x27_11=true)/\(e=70)then
     ∃p53_24:Addr,(some ⟨W,0,none⟩:ZO)=some p53_24/\
     ∃(x55_25:ZO),qa ro I (p53_24.add 2)=some (.pointer x55_25)/\
     jS B ro x55_25 ((⟨#[47]⟩:ZA)++S c.home) (⟨none,0,0⟩:Sl) 0 false I fun x57_26 x57_27 I=>
     zz B ro R x43_17 Q I
    else
    zz B ro R x43_17 Q I) [.int .i64 v1,.int .i64 v2,.int .i64 v3,.int .i64 v4] 0 I:=fun dS v1 v2 v3 v4 e tag3 I3 st3 he=>by
  refine kz (tag:=tag3) 0 st3.sep rfl (by simp[qg]) fun Y tag4 I4 st4 y4=>?_
  have hs4:=(st4 []).sep
  have k34:StepS [0] ro tag2 I2 tag4 I4:=(st3.s y0).trans (qv st4)
  have x4:=x2.keepS k34
  have h4:=h2.keepS k34
  have z4:=r2.keepS k34
  have gx:=(x4.read hs4).2.2 _ rfl
  refine⟨S c.home,gx 1 _ rfl,?_⟩
  refine agf ?_
  rw[L_S]
  obtain⟨M,bs,tbl⟩:=h4.tbl
  refine⟨_,rfl,some ⟨Tt,0,none⟩,(h4.own.read hs4).2.2 _ rfl 3 _ rfl,S c.home,gx 1 _ rfl,c.nonce,gx 4 _ rfl,c.lease,gx 5 _ rfl,?_⟩
  refine aue tbl i.tbl z7 fun f tag5 I5 st5 tbl5=>?_
  have h5:wI tag5 I5 W T Tt Th ms0 {s with tbl:=(wX s.tbl c.home c.nonce c.lease).1}:=⟨h4.own.keepS st5,h4.mem.keepS st5,h4.tree.keepS st5,tbl5,h4.hub.keepS st5⟩
  have z5:=z4.keepS st5
  have k5:StepS COp ro tag I tag5 I5:=(qv k2).trans ((k34.mono y1).trans (st5.mono y1))
  unfold abS at hQ
  by_cases c0:(wX s.tbl c.home c.nonce c.lease).2.2=0
  .rw[ma (j4 c0)]
   rw[ma (j4 c0)]at hQ
   have hn:=auq c0
   have fin:∀ (st':St) tag6 I6,StepS COp ro tag I tag6 I6->wI tag6 I6 W T Tt Th ms0 {s with tbl:=(wX s.tbl c.home c.nonce c.lease).1,tree:=st'}->Row tag6 I6 49 30 ⟨some ⟨R,0,none⟩,12,12⟩ (adV Rep.zero nS nS nS nS)->
     st'=(if wb c.home=true/\(s.tree.lookup (47::c.home)).isNone=true then(we s.tree (47::c.home) [] 0 false).1 else s.tree)->zz B ro R (wX s.tbl c.home c.nonce c.lease).2.1 Q I6:=fun st' tag6 I6 k6 h6 z6 e6=>by
    subst e6
    unfold zz
    refine ud (Q:=Q) {Rep.zero with session:=(wX s.tbl c.home c.nonce c.lease).2.1} nS nS nS nS z6 rfl k6.sep fun I7 st7=>?_
    exact hQ tag6 I7 (k6.trans (st7.s y0)) (h6.keepS (st7.s (C:=[49]) y0))
   by_cases c1:e=70
   .rw[mc ⟨hn,c1⟩]
    refine⟨_,rfl,some ⟨T,0,none⟩,(h5.own.read st5.sep).2.2 _ rfl 2 _ rfl,?_⟩
    refine ajH (r:=10) (d:=[]) g y1 y1 y1 h5.tree ⟨rfl,fun _=>rfl,fun p hp=>by cases hp⟩ y1 fun tag6 I6 st6 t6=>?_
    rw[ams]at t6
    refine fin (we s.tree (47::c.home) [] 0 false).1 tag6 I6 (k5.trans (st6.s y0)) ⟨h5.own.keepC st6,h5.mem.keepC st6,t6,?_,?_⟩ (z5.keepC st6) (by rw[mc ⟨hn,(he hn).1 c1⟩])
    .exact h5.tbl.keepS (st6.s (C:=[10]) y0)
    .exact h5.hub.keepS (st6.s (C:=[10]) y0)
   .rw[ma (fun x=>c1 x.2)]
    exact fin s.tree tag5 I5 k5 h5 z5 (by rw[ma (fun x=>c1 ((he hn).2 x.2))])
  .rw[mc c0]
   rw[mc c0]at hQ
   refine acw (tag:=tag5) fun tag6 I6 st6=>?_
   refine ud (Q:=Q) (wN (wX s.tbl c.home c.nonce c.lease).2.2) nS nS nS nS (z5.keep (st6 [])) rfl (st6 []).sep fun I7 st7=>?_
   have h5':wI tag5 I5 W T Tt Th ms0 s:=by
    have:=h5
    rw[asO c0]at this
    exact this
   exact hQ tag6 I7 (k5.trans ((qv st6).trans (st7.s y0))) ((h5'.fresh st6).keepS (st7.s (C:=[49]) y0))
 refine ajP (r:=10) g y1 y1 y1 hT (fun p n hp=>am3 i.tree hp) (fun hp tag3 I3 st3=>?_) (fun ps hp hl tag3 I3 st3=>?_) (fun n hn ds tag3 I3 st3 rd=>?_)
 .rw[ams]at hp
  exact main nS 0 0 0 0 20 tag3 I3 st3 fun hn=>by
   have:parts (47::c.home)=some [c.home]:=aur hn
   rw[this]at hp;cases hp
 .rw[ams]at hl
  exact main nS 0 0 0 0 70 tag3 I3 st3 fun hn=>⟨fun _=>by rw[hl];try rfl,fun _=>rfl⟩
 .rw[ams]at hn
  exact main ds n.ver n.ctr n.own n.kids 0 tag3 I3 st3 fun _=>⟨(fun h=>by cases h),fun h=>by rw[hn]at h;cases h⟩
def ag7.sm20{x:Rep}(h:ag7 x):uv x:=⟨by have:=h.data;omega,fun y hy=>by have:=h.res y hy;omega,fun y hy=>by have:=h.names y hy;omega,fun y hy=>by have:=h.evs y hy;omega⟩
def aut{b:Nat}{s:Sto}{c:wM}(i:wU b s)(hb:b<=33554432):(doS s c).2.events=[]/\ -1<=(doS s c).2.bad:=by
 unfold doS
 split
 .exact⟨rfl,show(-1:Int)<=0 by decide⟩
 split
 .unfold aeu
  exact⟨rfl,(aiU (home:=c.home) (owner:=c.session) (qn:=64) (qb:=8192) (ops:=c.ops) i.tree z7).2.2.1⟩
 split
 .refine⟨anP.2.2,?_⟩
  unfold acq
  split
  .show(-1:Int)<=0;decide
  .split
   .show(-1:Int)<=0;decide
   .simp only
    split<;>(show(-1:Int)<=0;decide)
 split
 .refine⟨amr.2.2,?_⟩
  unfold uS
  split
  .show(-1:Int)<=0;decide
  .split
   .show(-1:Int)<=0;decide
   .split<;>(show(-1:Int)<=0;decide)
 .exact⟨rfl,show(-1:Int)<=0 by decide⟩
structure ue(tag:Nat->Nat)(I:AH)(rs ds ns es:Sl)(x:Rep):Prop where
 res:∃ r∈[14,50],ql tag I r 128 2 rs (x.results.map xQ)
 data:Row tag I 6 5 ds (x.data.map vU)
 names:∃ r∈[42,51],Row tag I r 9 ns (x.names.map Pa.vS)
 evs:∃ r∈[9,52],ql tag I r 132 3 es (x.events.map abH)
def ue.d{rs ds ns es:Sl}{x:Rep}(h:ue tag I rs ds ns es x)(hs:SL.Sep ro I):abb ro I rs ds ns es x:=by
 obtain⟨⟨_,_,a⟩,b,⟨_,_,c⟩,⟨_,_,d⟩⟩:=h
 exact⟨a.read hs,b.read hs,c.read hs,d.read hs⟩
def ue.keepS{C:List Nat}{rs ds ns es:Sl}{x:Rep}(h:ue tag I rs ds ns es x)(k:StepS C ro tag I tag' I')(hC:∀ y∈[6,9,14,42,50,51,52],y∉C:=by decide):ue tag' I' rs ds ns es x:=by
 obtain⟨⟨r1,e1,a⟩,b,⟨r2,e2,c⟩,⟨r3,e3,d⟩⟩:=h
 refine⟨⟨r1,e1,ql.keepS a k ?_⟩,b.keepS k (hC 6 y1),⟨r2,e2,c.keepS k ?_⟩,⟨r3,e3,ql.keepS d k ?_⟩⟩
 .simp only[mp,nj,or_false]at e1
  rcases e1 with rfl | rfl
  .exact hC 14 y1
  .exact hC 50 y1
 .simp only[mp,nj,or_false]at e2
  rcases e2 with rfl | rfl
  .exact hC 42 y1
  .exact hC 51 y1
 .simp only[mp,nj,or_false]at e3
  rcases e3 with rfl | rfl
  .exact hC 9 y1
  .exact hC 52 y1
def ue.zero(x:Rep)(h1:x.results=[])(h2:x.data=[])(h3:x.names=[])(h4:x.events=[]):ue tag I nS nS nS nS x:=by
 refine⟨⟨14,y0,?_⟩,?_,⟨42,y0,?_⟩,⟨9,y0,?_⟩⟩
 .rw[h1];exact ql.nil _ _ _
 .rw[h2];exact Row.nil _ _
 .rw[h3];exact Row.nil _ _
 .rw[h4];exact ql.nil _ _ _
def ue.fault(e:Int):ue tag I nS nS nS nS (wN e):=ue.zero _ rfl rfl rfl rfl
def asP{b:Nat}{t:Tbl}{k:Str×Int}{req:Int}(i:vV b t):(zu t k req).1.length<=1048576:=by
 unfold zu
 rcases pK t k with⟨s,e⟩ | ⟨x,_,e⟩
 .rw[e]
  simp only
  split
  .simp
  .split
   .exact(ahZ i e).reply
   .split<;>simp
 .rw[e];simp
abbrev CWi:List Nat:=[0,1,2,3,4,5,8,10,12,13,14,15,17,18,19,20,21,25,26,27,30,31,41,42,45,47,50,51,52,53,57,58,59,60,61,62]
def arx{b W T Tt Th:Nat}{ms0 os ms:Sl}{s:Sto}{c:wM}{Q:RQ}(g:ze ro)(h:wI tag I W T Tt Th ms0 s)(i:wU b s)(hb:b<=33554432)(hc:agP tag I 24 28 os ms c)(hsm:aj9 c)
  (hQ:∀ rs ds ns es tag' I',StepS CWi ro tag I tag' I'->wI tag' I' W T Tt Th ms0 (aaN s c).1->ue tag' I' rs ds ns es (aaN s c).2->aeD Q (aaN s c).2 rs ds ns es I'):
  aa1 B ro (some ⟨W,0,none⟩) c.kind (S c.home) c.session c.req c.nonce c.lease c.beats c.ack os (S c.path) c.watch c.epoch ms I Q:=by
 refine ah4 fun hs=>?_
 unfold abe
 refine qf (tag:=tag) 40 hs fun X tag1 I1 st1 r1=>?_
 refine qf (tag:=tag1) 41 (st1 []).sep fun R tag2 I2 st2 r2=>?_
 have x2:=r1.keep (st2 [])
 refine⟨_,_,_,_,_,_,_,_,_,_,_,_,_,qz (x2.read (st2 []).sep) rfl,?_⟩
 refine aia (tag:=tag2) fun tag3 I3 st3=>?_
 refine kz (tag:=tag3) 34 (st3 []).sep rfl (by simp[qg]) fun K tag4 I4 st4 r4=>?_
 have k4:∀ R,qd R ro tag I tag4 I4:=fun R=>(st1 R).trans ((st2 R).trans ((st3 R).trans (st4 R)))
 have hs4:=(st4 []).sep
 have x4:=(x2.keep (st3 [])).keep (st4 [])
 have y4:=(r2.keep (st3 [])).keep (st4 [])
 have h4:=h.fresh k4
 have c4:=hc.keepS (qv (C:=[]) k4) y0
 obtain⟨M,bs,tbl4⟩:=h4.tbl
 refine⟨_,rfl,some ⟨Tt,0,none⟩,(h4.own.read hs4).2.2 _ rfl 3 _ rfl,S c.home,c.session,qz (r4.read hs4) rfl,c.req,(x4.read hs4).2.2 _ rfl 3 _ rfl,?_⟩
 refine asH (b0:=b) tbl4 i.tbl fun sl tag5 I5 st5 rb=>?_
 have k5:∀ R,qd R ro tag I tag5 I5:=fun R=>(k4 R).trans (st5 R)
 have hs5:=(st5 []).sep
 have h5:=h4.fresh st5
 have x5:=x4.keep (st5 [])
 have y5:=y4.keep (st5 [])
 have r5:=r4.keep (st5 [])
 have c5:=c4.keepS (qv (C:=[]) st5) y0
 have hbl:=asP (k:=(c.home,c.session)) (req:=c.req) i.tbl
 obtain⟨s1,hs1⟩:∃ s1:Sto,s1={s with hub:=(yg s.hub (c.home,c.session) c.ack).1}:=⟨_,rfl⟩
 have hW:aaN s c=if(zu s.tbl (c.home,c.session) c.req).2.2≠0 then(s,wN (zu s.tbl (c.home,c.session) c.req).2.2)
   else if(zu s.tbl (c.home,c.session) c.req).2.1=true then(s,{(uT (zu s.tbl (c.home,c.session) c.req).1).getD Rep.zero with events:=ja s.hub (c.home,c.session)})
   else if c.kind=3 then(acp {s1 with tbl:=(yz s1.tbl (c.home,c.session)).1} (c.home,c.session),Rep.zero)
   else({(doS s1 c).1 with tbl:=(acV (doS s1 c).1.tbl (c.home,c.session) c.req ((vF (doS s1 c).2).getD [])).1},{(doS s1 c).2 with events:=ja (doS s1 c).1.hub (c.home,c.session)}):=by subst hs1;rfl
 rw[hW]at hQ
 by_cases e1:(zu s.tbl (c.home,c.session) c.req).2.2=0
 rotate_left
 .rw[mc e1]
  rw[mc e1]at hQ
  refine acw (tag:=tag5) fun tag6 I6 st6=>?_
  refine ud (Q:=Q) (wN (zu s.tbl (c.home,c.session) c.req).2.2) nS nS nS nS (y5.keep (st6 [])) rfl (st6 []).sep fun I7 st7=>?_
  exact hQ nS nS nS nS tag6 I7 ((qv k5).trans ((qv st6).trans (st7.s y0))) ((h5.fresh st6).keepS (st7.s (C:=[41]) y0)) (ue.fault _)
 rw[ma (j4 e1)]
 rw[ma (j4 e1)]at hQ
 by_cases e2:(zu s.tbl (c.home,c.session) c.req).2.1=true
 .rw[mc e2]
  rw[mc e2]at hQ
  have fin:∀ (x:Rep) (rs ds ns es:Sl) tag6 I6,StepS [0,2,3,31,50,51,52] ro tag5 I5 tag6 I6->akr tag6 I6 50 rs ds ns es x->x=(uT (zu s.tbl (c.home,c.session) c.req).1).getD Rep.zero->
    nw ro I6 (.cells #[.int .i64 0,.int .i64 0,Sl.v nS,.int .i64 0,Sl.v nS,.int .i64 0,.int .i64 0,.int .i64 0,.int .i64 0,Sl.v nS,Sl.v nS,.int .i64 0] 30) fun x9_17 I=>
    stN ⟨x9_17,0,none⟩ (fun I=>
     ∃p39_18:Addr,(some ⟨W,0,none⟩:ZO)=some p39_18/\
     ∃(x41_19:ZO),qa ro I (p39_18.add 4)=some (.pointer x41_19)/\
     ∃(x42_20a:ZA) (x42_20b:Int),SL.qe ro I ⟨K,0,none⟩ 0 [.string x42_20a,.int .i64 x42_20b]/\
     jz B ro x41_19 x42_20a x42_20b I fun x43_21 I=>
     stN ((⟨x9_17,0,none⟩:Addr).add 10) (anf ro x9_17 (alC ro R Q)) [Sl.v x43_21] 0 I) (adV x rs ds ns es) 0 I:=fun x rs ds ns es tag6 I6 st6 at6 ex=>by
   refine kz (tag:=tag6) 8 st6.sep rfl (ah9 x rs ds ns es) fun Y tag7 I7 st7 y7=>?_
   have k57:StepS [0,2,3,31,50,51,52] ro tag5 I5 tag7 I7:=st6.trans (qv st7)
   have hs7:=k57.sep
   have h7:=h5.keepS k57
   obtain⟨Mh,bh,hub7⟩:=h7.hub
   refine⟨_,rfl,some ⟨Th,0,none⟩,(h7.own.read hs7).2.2 _ rfl 4 _ rfl,S c.home,c.session,qz ((r5.keepS k57).read hs7) rfl,?_⟩
   refine anO (k:=c.key) (b0:=b) 9 hub7 i.hub fun es' tag8 I8 st8 ev8=>?_
   have y8:=y7.keep (st8 [])
   refine Row.stAt [Sl.v es'] 10 y8 (st8 []).sep y0 (by simp[qg,Sl.v]) fun I9 st9 y9=>?_
   have y9':Row tag8 I9 8 30 ⟨some ⟨Y,0,none⟩,12,12⟩ (adV {x with events:=ja s.hub c.key} rs ds ns es'):=y9
   refine⟨_,_,_,_,_,_,_,_,_,_,_,_,qz (y9'.read st9.sep) rfl,?_⟩
   have k59:StepS [0,2,3,8,31,50,51,52] ro tag5 I5 tag8 I9:=(k57.mono y1).trans ((qv st8).trans (st9.s y0))
   refine ud (Q:=Q) {x with events:=ja s.hub c.key} rs ds ns es' (y5.keepS k59) rfl st9.sep fun I10 st10=>?_
   have ka:StepS [0,2,3,8,31,41,50,51,52] ro tag5 I5 tag8 I10:=(k59.mono y1).trans (st10.s y0)
   subst ex
   refine hQ rs ds ns es' tag8 I10 ((qv k5).trans (ka.mono y1)) (h5.keepS ka) ?_
   have at10:=((at6.keepS (qv (C:=[]) fun R=>(st7 R).trans (st8 R)) y0 y0 y0 y0).keepS (st9.s (C:=[8]) y0)).keepS (st10.s (C:=[41]) y0)
   exact⟨⟨50,y0,at10.res⟩,at10.data,⟨51,y0,at10.names⟩,⟨9,y0,(ql.keep ev8 st9).keep st10⟩⟩
  refine apL (tag:=tag5) (q:=50) y1 y1 y1 (rb.read hs5) z7 (fun hn tag6 I6 st6=>?_) fun x hx rs ds ns es tag6 I6 st6 at6=>?_
  .exact fin Rep.zero nS nS nS nS tag6 I6 st6 ⟨ql.nil _ _ _,Row.nil _ _,Row.nil _ _,ql.nil _ _ _⟩ (by rw[hn];try rfl)
  .exact fin x rs ds ns es tag6 I6 st6 at6 (by rw[hx];try rfl)
 rw[ma e2]
 rw[ma e2]at hQ
 obtain⟨Mh,bh,hub5⟩:=h5.hub
 refine⟨_,rfl,some ⟨Th,0,none⟩,(h5.own.read hs5).2.2 _ rfl 4 _ rfl,S c.home,c.session,qz (r5.read hs5) rfl,c.ack,(x5.read hs5).2.2 _ rfl 7 _ rfl,?_⟩
 refine avF (k:=c.key) (b0:=b) hub5 i.hub fun tag6 I6 st6 hub6=>?_
 have hs6:=st6.sep
 have h6:wI tag6 I6 W T Tt Th ms0 s1:=by rw[hs1];exact h5.hubSet st6 y1 ⟨Mh,bh,hub6⟩
 have x6:=x5.keepS st6
 have y6:=y5.keepS st6
 have r6:=r5.keepS st6
 have c6:=c5.keepS st6
 have k6:StepS CWi ro tag I tag6 I6:=(qv k5).trans (st6.mono y1)
 have i1:wU b s1:=by rw[hs1];exact⟨i.tree,i.tbl,uB i.hub,i.ep,i.mem⟩
 refine⟨c.kind,(x6.read hs6).2.2 _ rfl 0 _ rfl,?_⟩
 by_cases e3:c.kind=3
 .rw[mc e3]
  rw[mc e3]at hQ
  obtain⟨M6,bs6,tbl6⟩:=h6.tbl
  refine⟨_,rfl,some ⟨Tt,0,none⟩,(h6.own.read hs6).2.2 _ rfl 3 _ rfl,S c.home,c.session,qz (r6.read hs6) rfl,?_⟩
  refine asJ tbl6 fun tag7 I7 st7 tbl7=>?_
  have h7:wI tag7 I7 W T Tt Th ms0 {s1 with tbl:=(yz s1.tbl (c.home,c.session)).1}:=⟨h6.own.keepS st7,h6.mem.keepS st7,h6.tree.keepS st7,⟨M6,bs6,tbl7⟩,h6.hub.keepS st7⟩
  refine⟨S c.home,c.session,qz ((r6.keepS st7).read st7.sep) rfl,?_⟩
  have i7:wU (b+1) ({s1 with tbl:=(yz s1.tbl (c.home,c.session)).1}:Sto):=⟨i1.tree.mono z7,(acH i1.tbl).mono z7,i1.hub.mono z7,by have:=i1.ep;simp only;omega,i1.mem⟩
  refine apk (k:=(c.home,c.session)) g h7 i7 z7 fun tag8 I8 st8 h8=>?_
  refine ud (Q:=Q) Rep.zero nS nS nS nS ((y6.keepS st7).keepS st8) rfl st8.sep fun I9 st9=>?_
  exact hQ nS nS nS nS tag8 I9 (k6.trans ((st7.mono y1).trans ((st8.mono y1).trans (st9.s y0)))) (h8.keepS (st9.s (C:=[41]) y0)) (ue.zero _ rfl rfl rfl rfl)
 .rw[ma e3]
  rw[ma e3]at hQ
  refine⟨_,_,_,_,_,_,_,_,_,_,_,_,_,qz (x6.read hs6) rfl,?_⟩
  refine awu (b:=b) g h6 i1 hb c6 hsm fun rs ds ns tag7 I7 st7 h7 rr7 rd7 rn7=>?_
  have i7:wU (b+1) (doS s1 c).1:=akn i1 hb
  obtain⟨ev7,bad7⟩:=aut (c:=c) i1 hb
  have tiny:=alr (c:=c) i1 hb
  have k7:StepS CWi ro tag I tag7 I7:=k6.trans (st7.mono y1)
  have x7:=x6.keepS st7
  have y7:=y6.keepS st7
  have r7:=r6.keepS st7
  generalize hd:doS s1 c=d at h7 rr7 rd7 rn7 i7 ev7 bad7 tiny hQ
  obtain⟨s2,x⟩:=d
  have bad7: -1<=x.bad:=bad7
  have tiny:ag7 x:=tiny
  refine kz (tag:=tag7) 8 st7.sep rfl (ah9 x rs ds ns nS) fun Y tag8 I8 st8 y8=>?_
  have hs8:=(st8 []).sep
  have h8:=h7.fresh st8
  refine⟨_,_,_,_,_,_,_,_,_,_,_,_,qz (y8.read hs8) rfl,?_⟩
  have rr8:=ql.keep rr7 (st8 [])
  have rd8:=rd7.keep (st8 [])
  have rn8:=rn7.keep (st8 [])
  have repd:∀ tag' I',StepS CR ro tag8 I8 tag' I'->abb ro I' rs ds ns nS x:=fun tag' I' st=>by
   refine⟨(ql.keepS rr8 st).read st.sep,(rd8.keepS st).read st.sep,(rn8.keepS st).read st.sep,?_⟩
   rw[ev7];exact⟨rfl,fun _=>rfl,(fun x h=>by cases h),fun p hp=>by cases hp⟩
  have fin:∀ (sb:Sl) (er:Int) tag9 I9,StepS CR ro tag8 I8 tag9 I9->Row tag9 I9 6 5 sb (((vF x).getD []).map vU)->
    ∃p76_42:Addr,(some ⟨W,0,none⟩:ZO)=some p76_42/\
    ∃(x78_43:ZO),qa ro I9 (p76_42.add 3)=some (.pointer x78_43)/\
    ∃(x79_44a:ZA) (x79_44b:Int),SL.qe ro I9 ⟨K,0,none⟩ 0 [.string x79_44a,.int .i64 x79_44b]/\
    ∃(x81_45:Int),qa ro I9 ((⟨X,0,none⟩:Addr).add 3)=some (.int .i64 x81_45)/\
    ui B ro x78_43 x79_44a x79_44b x81_45 sb I9 fun x83_46 I=>
    ∃p85_47:Addr,(some ⟨W,0,none⟩:ZO)=some p85_47/\
    ∃(x87_48:ZO),qa ro I (p85_47.add 4)=some (.pointer x87_48)/\
    ∃(x88_49a:ZA) (x88_49b:Int),SL.qe ro I ⟨K,0,none⟩ 0 [.string x88_49a,.int .i64 x88_49b]/\
    jz B ro x87_48 x88_49a x88_49b I fun x89_50 I=>
    stN ((⟨Y,0,none⟩:Addr).add 10) (anf ro Y (alC ro R Q)) [Sl.v x89_50] 0 I:=fun sb er tag9 I9 st9 rb9=>by
   have hs9:=st9.sep
   have h9:=h8.keepS st9
   have K9:=(r7.keep (st8 [])).keepS st9
   have X9:=(x7.keep (st8 [])).keepS st9
   obtain⟨M9,bs9,tbl9⟩:=h9.tbl
   refine⟨_,rfl,some ⟨Tt,0,none⟩,(h9.own.read hs9).2.2 _ rfl 3 _ rfl,S c.home,c.session,qz (K9.read hs9) rfl,c.req,(X9.read hs9).2.2 _ rfl 3 _ rfl,?_⟩
   refine avB (d:=(vF x).getD []) tbl9 (rb9.read hs9) (by have:=aqp tiny;omega) fun tag10 I10 st10 tbl10=>?_
   have hs10:=st10.sep
   have h10:wI tag10 I10 W T Tt Th ms0 {s2 with tbl:=(acV s2.tbl (c.home,c.session) c.req ((vF x).getD [])).1}:=⟨h9.own.keepS st10,h9.mem.keepS st10,h9.tree.keepS st10,⟨M9,bs9,tbl10⟩,h9.hub.keepS st10⟩
   obtain⟨Mh,bh,hub10⟩:=h10.hub
   refine⟨_,rfl,some ⟨Th,0,none⟩,(h10.own.read hs10).2.2 _ rfl 4 _ rfl,S c.home,c.session,qz ((K9.keepS st10).read hs10) rfl,?_⟩
   refine anO (k:=c.key) (b0:=b+1) 9 hub10 i7.hub fun es' tag11 I11 st11 ev11=>?_
   have k811:StepS [0,1,2,30,58] ro tag8 I8 tag11 I11:=(st9.mono y1).trans ((st10.mono y1).trans (qv st11))
   have y11:=y8.keepS k811
   refine Row.stAt [Sl.v es'] 10 y11 k811.sep y0 (by simp[qg,Sl.v]) fun I12 st12 y12=>?_
   have y12':Row tag11 I12 8 30 ⟨some ⟨Y,0,none⟩,12,12⟩ (adV {x with events:=ja s2.hub c.key} rs ds ns es'):=y12
   refine⟨_,_,_,_,_,_,_,_,_,_,_,_,qz (y12'.read st12.sep) rfl,?_⟩
   have k812:StepS [0,1,2,8,30,58] ro tag8 I8 tag11 I12:=(k811.mono y1).trans (st12.s y0)
   refine ud (Q:=Q) {x with events:=ja s2.hub c.key} rs ds ns es' ((y7.keep (st8 [])).keepS k812) rfl st12.sep fun I13 st13=>?_
   have k813:StepS [0,1,2,8,30,41,58] ro tag8 I8 tag11 I13:=(k812.mono y1).trans (st13.s y0)
   refine hQ rs ds ns es' tag11 I13 (k7.trans ((qv st8).trans (k813.mono y1))) ?_ ?_
   .exact(h10.fresh st11).keepS ((st12.s (C:=[8,41]) y0).trans (st13.s y0))
   .exact⟨⟨14,y0,ql.keepS rr8 k813⟩,rd8.keepS k813,⟨42,y0,rn8.keepS k813⟩,⟨9,y0,(ql.keep ev11 st12).keep st13⟩⟩
  refine apK (tag:=tag8) repd tiny.sm20 z7 (fun hn tag9 I9 st9=>?_) fun bb hbb sb tag9 I9 st9 rb9=>?_
  .exact fin nS 170 tag9 I9 st9 (by rw[hn];exact Row.nil _ _)
  .exact fin sb 0 tag9 I9 st9 (by rw[hbb];exact rb9)
def asQ{t:Tbl}{k:Str×Int}{n:Int}(e:¬ (vu t k n).2=true):(vu t k n).1=t:=by
 unfold vu at e⊢
 split
 .rename_i s hs
  rw[hs]at e
  simp only at e
  split
  .rename_i c;rw[mc c]at e;exact mt rfl e
  .rfl
 .rfl
abbrev CAp:List Nat:=[0,1,2,3,4,5,8,10,12,13,14,15,17,18,19,20,21,25,26,27,30,31,39,41,42,45,47,49,50,51,52,53,54,55,56,57,58,59,60,61,62]
def anQ{b W:Nat}{os ms:Sl}{s:Sto}{c:wM}{Q:RQ}(g:ze ro)(h:uV tag I W s)(i:wU b s)(hb:b<=33554432)(hc:agP tag I 24 28 os ms c)(hsm:aj9 c)(hml:c.members.length<=1048576)
  (hQ:∀ rs ds ns es tag' I',StepS CAp ro tag I tag' I'->uV tag' I' W (vj s c).1->ue tag' I' rs ds ns es (vj s c).2->aeD Q (vj s c).2 rs ds ns es I'):
  xv B ro (some ⟨W,0,none⟩) c.kind (S c.home) c.session c.req c.nonce c.lease c.beats c.ack os (S c.path) c.watch c.epoch ms I Q:=by
 obtain⟨T,Tt,Th,ms0,h⟩:=h.in
 refine aeA fun hs=>?_
 unfold uo
 refine qf (tag:=tag) 38 hs fun X tag1 I1 st1 r1=>?_
 refine qf (tag:=tag1) 39 (st1 []).sep fun R tag2 I2 st2 y2=>?_
 have k2:∀ R,qd R ro tag I tag2 I2:=fun R=>(st1 R).trans (st2 R)
 have hs2:=(st2 []).sep
 have x2:=r1.keep (st2 [])
 have h2:=h.fresh k2
 have c2:=hc.keepS (qv (C:=[]) k2) y0
 unfold vj at hQ
 refine⟨c.kind,(x2.read hs2).2.2 _ rfl 0 _ rfl,?_⟩
 by_cases e1:c.kind=1
 .rw[mc e1]at hQ⊢
  refine⟨_,_,_,_,_,_,_,_,_,_,_,_,_,qz (x2.read hs2) rfl,?_⟩
  refine aus (b:=b) g h2 i hb hsm fun tag3 I3 st3 h3=>?_
  refine ud (Q:=Q) (abS s c).2 nS nS nS nS (y2.keepS st3) rfl st3.sep fun I4 st4=>?_
  refine hQ nS nS nS nS tag3 I4 ((qv k2).trans ((st3.mono y1).trans (st4.s y0))) (h3.keepS (st4.s (C:=[39]) y0)).at ?_
  unfold abS
  split<;>exact ue.zero _ rfl rfl rfl rfl
 rw[ma e1]at hQ⊢
 by_cases e4:c.kind=4
 .rw[mc e4]at hQ⊢
  refine yl tag2 [54,38] ?_
  have hsA:SL.Sep (join ro (SL.inR tag2 [54,38] I2)) (SL.zE tag2 [54,38] I2):=hs2.lentR
  obtain⟨M,bs,tbl⟩:=h2.tbl
  have tA:=tbl.outR (L:=[54,38]) y1
  refine⟨_,rfl,some ⟨Tt,0,none⟩,h2.own.lendR hs2 y0 rfl (i:=3) rfl,c.beats,x2.lendR hs2 y0 rfl (i:=6) rfl,_,_,_,_,_,_,_,_,_,_,_,_,_,Row.lendAll x2 hs2 y0,?_⟩
  refine aia (tag:=tag2) fun tag3 I3 st3=>?_
  refine arq (tA.fresh st3) fun tag4 I4 st4 tbl4=>?_
  intro hd
  have kA:StepS [57] ro tag2 I2 _ _:=((qv st3).trans st4).backR hs2 hd
  have h5:wI (tagB tag2 tag4 [54,38] I2) (join (SL.inR tag2 [54,38] I2) I4) W T Tt Th ms0 {s with tbl:=(vu s.tbl c.key c.beats).1}:=⟨h2.own.againR y0,h2.mem.keepS kA,h2.tree.keepS kA,⟨M,bs,tbl4.backR hd⟩,h2.hub.keepS kA⟩
  have x5:=x2.againR (L:=[54,38]) (tag1:=tag4) (τ:=I4) y0
  have y5:=y2.keepS kA
  generalize (join (SL.inR tag2 [54,38] I2) I4)=I5 at kA h5 x5 y5⊢
  generalize (tagB tag2 tag4 [54,38] I2)=tag5 at kA h5 x5 y5
  by_cases e5:(vu s.tbl c.key c.beats).2=true
  .rw[mc e5]at hQ
   rw[ma (by rw[show(vu s.tbl (c.home,c.session) c.beats).2=true from e5];simp)]
   refine⟨_,_,_,_,_,_,_,_,_,_,_,_,_,qz (x5.read kA.sep) rfl,?_⟩
   refine aia (tag:=tag5) fun tag6 I6 st6=>?_
   have i5:wU (b+1) ({s with tbl:=(vu s.tbl c.key c.beats).1}:Sto):=⟨i.tree.mono z7,(ae8 i.tbl).mono z7,i.hub.mono z7,by have:=i.ep;simp only;omega,i.mem⟩
   refine apk (k:=c.key) g (h5.fresh st6) i5 z7 fun tag7 I7 st7 h7=>?_
   refine ud (Q:=Q) Rep.zero nS nS nS nS ((y5.keep (st6 [])).keepS st7) rfl st7.sep fun I8 st8=>?_
   exact hQ nS nS nS nS tag7 I8 ((qv k2).trans ((kA.mono y1).trans ((qv st6).trans ((st7.mono y1).trans (st8.s y0))))) (h7.keepS (st8.s (C:=[39]) y0)).at (ue.zero _ rfl rfl rfl rfl)
  .rw[ma e5]at hQ
   rw[mc (show¬(vu s.tbl (c.home,c.session) c.beats).2=true from e5)]
   refine acw (tag:=tag5) fun tag6 I6 st6=>?_
   refine ud (Q:=Q) (wN 150) nS nS nS nS (y5.keep (st6 [])) rfl (st6 []).sep fun I7 st7=>?_
   have h5':wI tag5 I5 W T Tt Th ms0 s:=by
    have:=h5
    rw[asQ e5]at this
    exact this
   exact hQ nS nS nS nS tag6 I7 ((qv k2).trans ((kA.mono y1).trans ((qv st6).trans (st7.s y0)))) ((h5'.fresh st6).keepS (st7.s (C:=[39]) y0)).at (ue.fault _)
 rw[ma e4]at hQ⊢
 by_cases e8:c.kind=8
 .rw[mc e8]at hQ⊢
  refine⟨_,_,_,_,_,_,_,_,_,_,_,_,_,qz (x2.read hs2) rfl,?_⟩
  refine arw (b:=b) h2 i z7 c2.mem hml fun ms' tag3 I3 st3 h3=>?_
  refine ud (Q:=Q) (aaM s c).2 nS nS nS nS (y2.keepS st3) rfl st3.sep fun I4 st4=>?_
  refine hQ nS nS nS nS tag3 I4 ((qv k2).trans ((st3.mono y1).trans (st4.s y0))) (h3.keepS (st4.s (C:=[39]) y0)).at ?_
  unfold aaM
  split
  .exact ue.fault _
  .split
   .exact ue.fault _
   .exact ue.zero _ rfl rfl rfl rfl
 rw[ma e8]at hQ⊢
 have yes:(2<=c.kind/\c.kind<=7)->∀ d:Bool,d=true->wy B ro (some ⟨W,0,none⟩) X R Q d I2:=fun hk d hd=>by
  rw[mc hk]at hQ
  unfold wy
  rw[mc hd]
  refine⟨_,_,_,_,_,_,_,_,_,_,_,_,_,qz (x2.read hs2) rfl,?_⟩
  refine arx (b:=b) g h2 i hb c2 hsm fun rs ds ns es tag3 I3 st3 h3 d3=>?_
  refine ud (Q:=Q) (aaN s c).2 rs ds ns es (y2.keepS st3) rfl st3.sep fun I4 st4=>?_
  exact hQ rs ds ns es tag3 I4 ((qv k2).trans ((st3.mono y1).trans (st4.s y0))) (h3.keepS (st4.s (C:=[39]) y0)).at (d3.keepS (st4.s (C:=[39]) y0))
 have no:¬ (2<=c.kind/\c.kind<=7)->∀ d:Bool,d=false->wy B ro (some ⟨W,0,none⟩) X R Q d I2:=fun hk d hd=>by
  rw[ma hk]at hQ
  unfold wy
  rw[ma (by simp[hd])]
  refine acw (tag:=tag2) fun tag6 I6 st6=>?_
  refine ud (Q:=Q) (wN 170) nS nS nS nS (y2.keep (st6 [])) rfl (st6 []).sep fun I7 st7=>?_
  exact hQ nS nS nS nS tag6 I7 ((qv k2).trans ((qv st6).trans (st7.s y0))) ((h2.fresh st6).keepS (st7.s (C:=[39]) y0)).at (ue.fault _)
 by_cases f2:c.kind=2
 .rw[mc f2];exact yes z7 _ (by simp[f2])
 rw[ma f2]
 by_cases f3:c.kind=3
 .rw[mc f3];exact yes z7 _ (by simp[f3])
 rw[ma f3]
 by_cases f5:c.kind=5
 .rw[mc f5];exact yes z7 _ (by simp[f5])
 rw[ma f5]
 by_cases f6:c.kind=6
 .rw[mc f6];exact yes z7 _ (by simp[f6])
 rw[ma f6]
 by_cases f7:c.kind=7
 .exact yes z7 _ (by simp[f7])
 .exact no z7 _ (by simp[f7])
abbrev CK:List Nat:=[0,2,3,4,5,8,10,12,13,14,54,55,56,57,58,62]
def ary{Q:Bool->AH->Prop}(g:ze ro)(hQ:∀ tag' I',(∀R,qd R ro tag I tag' I')->Q true I'):afz B ro I Q:=by
 refine am9 fun hs=>?_
 unfold afR
 refine qf (tag:=T7) 8 hs fun X tag1 I1 st1 r1=>?_
 refine apN (tag:=tag1) (r1.read (st1 []).sep) fun W T Tt M ms Th tag2 I2 st2 h2=>?_
 rw[ma y0]
 refine asG g h2 fun tag3 I3 st3=>?_
 have o3:=h2.own.keepS st3
 have m3:=h2.mem.keepS st3
 refine qf (tag:=tag3) 13 st3.sep fun Z tag4 I4 st4 r4=>?_
 refine r4.stPre alz 0 _ I4 (st4 []).sep y0 auf fun I5 st5 r5=>?_
 have y5:Row tag4 I5 13 _ ⟨some ⟨Z,0,none⟩,12,12⟩ alz:=r5
 have k5:qd [13] ro tag3 I3 tag4 I5:=(st4 [13]).trans st5
 have o5:=o3.keep k5
 have m5:=m3.keep k5
 have hs5:=st5.sep
 refine⟨0,(y5.read hs5).2.2 _ rfl 0 _ rfl,?_⟩
 rw[mc rfl]
 refine⟨1,(y5.read hs5).2.2 _ rfl 1 _ rfl,?_⟩
 unfold aaQ
 rw[mc y1]
 refine⟨_,rfl,?_⟩
 refine ah2 fun _=>?_
 unfold abc
 refine⟨_,rfl,0,(o5.read hs5).2.2 _ rfl 0 _ rfl,?_⟩
 show pU B ro (some ⟨W,0,none⟩) Q (decide ((0:Int)=0)) I5
 unfold pU
 rw[mc y1]
 refine⟨_,rfl,?_⟩
 refine agS fun _=>?_
 unfold aam
 refine⟨_,rfl,ms,(o5.read hs5).2.2 _ rfl 1 _ rfl,?_⟩
 refine ahb (tag:=tag4) 14 (m5.read hs5) hs5 y1 (by simp[qg]) fun s tag6 I6 st6 r6=>?_
 unfold aaa
 have hl:s.len=3:=(r6.read (st6 []).sep).1
 show Q (decide ((s.len:Int)=3)) I6
 rw[hl]
 have st:StepS CK ro T7 I tag6 I6:=((st1 []).s y0).trans ((st2.mono y1).trans ((st3.mono y1).trans ((k5.s y0).trans ((st6 []).s y0))))
 exact hQ _ I6 (st.mix y1 tag)