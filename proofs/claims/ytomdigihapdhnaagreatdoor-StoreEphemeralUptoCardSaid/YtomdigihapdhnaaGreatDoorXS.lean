import Derived.Test.YtomdigihapdhnaaGreatDoorXR
set_option linter.all false
set_option maxRecDepth 99999
set_option maxHeartbeats 0
open Go.IntKind(i64)
open Go.Proofs.Tryz
namespace Go.Proofs.YtomdigihapdhnaaGreatDoor
namespace Zt
open Go SL G Pa Wi
variable{B:World}{ro I I':AH}{tag tag':Nat->Nat}{L:List Nat}
variable{h hb:Hub}{l:List Int}{T Th Tt W b r:Nat}{Q:RQ}{ms ms0 os:Sl}{s:Sto}{c:zD}
theorem Row.lendAll{e:TypeId}{n c:Nat}{l:List Value}{τ:AH}(h:Row tag I r e ⟨some ⟨b,0,none⟩,n,c⟩ l)(hs:SL.Sep ro I)(hr:r∈L):SL.qe (join ro (SL.inR tag L I)) τ ⟨b,0,none⟩ 0 l:=
 zt 0 fun i v hv=>by rw[ml];exact h.lendR hs hr rfl hv
theorem wI.hubSet{C:List Nat}(h:wI tag I W T Tt Th ms s)(k:StepS C ro tag I tag' I')(hC:∀ x∈[6,10,54,55,56,57,58],x∉C)(hh:ajU tag' I' Th hb):wI tag' I' W T Tt Th ms {s with hub:=hb}:=
 ⟨h.own.keepS k (hC 54 y0),h.mem.keepS k (hC 54 y0),h.tree.keepS k (hC 10 y0) (hC 6 y0),h.tbl.keepS k ⟨hC 55 y0,hC 56 y0,hC 57 y0,hC 58 y0,hC 6 y0⟩,hh⟩
theorem aoq{k:Str×Int}{m:jl}(e:¬ (un h k m).2=0):un h k m=(h,(un h k m).2):=by
 unfold un at e⊢
 split
 .rfl
 .rename_i c
  rw[ma c]at e
  split
  .rfl
  .rename_i d;rw[ma d]at e;exact mu rfl e
abbrev CGe:List Nat:=[0,47,59,60,61,62]
theorem aor{X:Nat}{kind:Int}{K:Int->AH->Prop}(g:wW ro)(hs:SL.Sep ro I)(h:wI tag I W T Tt Th ms0 s)(i:vq b s)(x:Row tag I 46 57 ⟨some ⟨X,0,none⟩,13,13⟩ (aiz c os ms))
  (hK:∀ tag' I',StepS CD ro tag I tag' I'->wI tag' I' W T Tt Th ms0 {s with hub:=(un s.hub c.key (c.path,kind)).1}->Row tag' I' 46 57 ⟨some ⟨X,0,none⟩,13,13⟩ (aiz c os ms)->K (un s.hub c.key (c.path,kind)).2 I'):
  uh I fun ψ I=>
   ∃p19_18:Addr,(some ⟨W,0,none⟩:Option Addr)=some p19_18/\
   ∃(x21_19:Option Addr),qa (join ro ψ) (fun _=>none) (p19_18.add 4)=some (.pointer x21_19)/\
   ∃(x25_20:ByteArray),qa (join ro ψ) (fun _=>none) ((⟨X,0,none⟩:Addr).add 9)=some (.string x25_20)/\
   ∃(a:Int) (b:ByteArray) (c d e f g h:Int) (i:Sl) (j:ByteArray) (k:Bool) (l:Int) (m:Sl),SL.qe (join ro ψ) I ⟨X,0,none⟩ 0 [.int .i64 a,.string b,.int .i64 c,.int .i64 d,.int .i64 e,.int .i64 f,.int .i64 g,.int .i64 h,Sl.v i,.string j,.bool k,.int .i64 l,Sl.v m]/\
   vT B (join ro ψ) a b c d e f g h i j k l m I fun x23_22a x23_22b I=>
   uz B (join ro ψ) x21_19 x23_22a x23_22b kind x25_20 I fun x26_23 I=>
   (qJ ψ I->(fun I=>K x26_23 I) (join ψ I)):=by
 refine pi tag [54,46] ?_
 have hsA:SL.Sep (join ro (SL.inR tag [54,46] I)) (SL.vg tag [54,46] I):=hs.lentR
 obtain⟨M,bs,hub⟩:=h.hub
 have hubA:=hub.outR (L:=[54,46]) y0
 refine⟨_,rfl,some ⟨Th,0,none⟩,h.own.lendR hs z8 rfl (i:=4) rfl,S c.path,x.lendR hs z8 rfl (i:=9) rfl,_,_,_,_,_,_,_,_,_,_,_,_,_,Row.lendAll x hs z8,?_⟩
 refine ahF (tag:=tag) fun tag1 I1 st1=>?_
 refine auE (k:=c.key) (m:=(c.path,kind)) (aeW g) (hubA.fresh st1) i.hub fun bs' tag2 I2 st2 hub2=>?_
 intro hd
 have kA:StepS CD ro tag I _ _:=((qq st1).trans st2).backR hs hd
 refine hK _ _ kA ?_ (x.againR z8)
 have:=h.hubSet kA y0 ⟨M,bs',hub2.backR hd⟩
 exact⟨h.own.againR z8,this.mem,this.tree,this.tbl,this.hub⟩
theorem auN(g:wW ro)(h:wI tag I W T Tt Th ms0 s)(i:vq b s)
  (hQ:∀ ds tag' I',StepS CGe ro tag I tag' I'->wI tag' I' W T Tt Th ms0 (adn s c).1->Row tag' I' 6 5 ds ((adn s c).2.data.map vU)->aeh Q (adn s c).2 nS ds nS nS I'):
  acp B ro (some ⟨W,0,none⟩) c.kind (S c.home) c.session c.req c.nonce c.lease c.beats c.ack os (S c.path) c.watch c.epoch ms I Q:=by
 refine ajA fun hs=>?_
 unfold acx
 refine qh (tag:=tag) 46 hs fun X tag1 I1 st1 r1=>?_
 refine qh (tag:=tag1) 47 (st1 []).sep fun R tag2 I2 st2 r2=>?_
 have x2:=r1.keep (st2 [])
 refine⟨_,_,_,_,_,_,_,_,_,_,_,_,_,qr (x2.read (st2 []).sep) rfl,?_⟩
 refine atY (tag:=tag2) g fun tag3 I3 st3=>?_
 have hs3:=(st3 []).sep
 have k3:∀ R,qd R ro tag I tag3 I3:=fun R=>(st1 R).trans ((st2 R).trans (st3 R))
 have h3:=h.fresh k3
 have x3:=x2.keep (st3 [])
 have y3:=r2.keep (st3 [])
 unfold adn at hQ
 by_cases h0:atE c=0
 .rw[ma (j2 h0)]
  rw[ma (j2 h0)]at hQ
  have tail:∀ (hb:Hub) tag4 I4,StepS CD ro tag3 I3 tag4 I4->wI tag4 I4 W T Tt Th ms0 {s with hub:=hb}->Row tag4 I4 46 57 ⟨some ⟨X,0,none⟩,13,13⟩ (aiz c os ms)->
    (∀ds tag' I',StepS CGe ro tag I tag' I'->wI tag' I' W T Tt Th ms0 {s with hub:=hb}->Row tag' I' 6 5 ds ((match s.tree.lookup c.path with | none=>wZ 70 | some n=>{Rep.zero with data:=n.data,ver:=n.ver,ctr:=n.ctr,own:=n.own,kids:=n.kids}).data.map vU)->aeh Q (match s.tree.lookup c.path with | none=>wZ 70 | some n=>{Rep.zero with data:=n.data,ver:=n.ver,ctr:=n.ctr,own:=n.own,kids:=n.kids}) nS ds nS nS I')->
    kM B ro (some ⟨W,0,none⟩) X R Q I4:=fun hb tag4 I4 st4 h4 x4 q4=>by
   have hs4:=st4.sep
   have y4:=y3.keepS st4
   have k4:StepS CGe ro tag I tag4 I4:=(qq k3).trans (st4.mono y0)
   unfold kM
   refine⟨_,rfl,some ⟨T,0,none⟩,(h4.own.read hs4).2.2 _ rfl 2 _ rfl,S c.path,(x4.read hs4).2.2 _ rfl 9 _ rfl,?_⟩
   obtain⟨MT,bsT,hT⟩:=h4.tree
   have fin:∀ (x:Rep) ds tag5 I5,zU 0 ro tag4 I4 tag5 I5->Row tag5 I5 6 5 ds (x.data.map vU)->x=(match s.tree.lookup c.path with | none=>wZ 70 | some n=>{Rep.zero with data:=n.data,ver:=n.ver,ctr:=n.ctr,own:=n.own,kids:=n.kids})->x.session=0->x.bad=0->x.epoch=0->
     nw ro I5 (.cells #[.int .i64 0,.int .i64 0,.int .i64 0,.int .i64 0] 26) fun x8_14 I=>
     stN ⟨x8_14,0,none⟩ (fun I=>
      ∃(x44_15a:Int) (x44_15b:Int) (x44_15c:Int) (x44_15d:Int),SL.qe ro I ⟨x8_14,0,none⟩ 0 [.int .i64 x44_15a,.int .i64 x44_15b,.int .i64 x44_15c,.int .i64 x44_15d]/\
      stN ⟨R,0,none⟩ (amm ro R Q) [.int .i64 x.code,.int .i64 0,Sl.v (⟨none,0,0⟩:Sl),.int .i64 0,Sl.v ds,.int .i64 x44_15a,.int .i64 x44_15b,.int .i64 x44_15c,.int .i64 x44_15d,Sl.v (⟨none,0,0⟩:Sl),Sl.v (⟨none,0,0⟩:Sl),.int .i64 0] 0 I) [.int .i64 x.ver,.int .i64 x.ctr,.int .i64 x.own,.int .i64 x.kids] 0 I:=fun x ds tag5 I5 st5 rd e z1 z2 z3=>by
    refine kq (tag:=tag5) 0 st5.sep rfl (by simp[qf]) fun Z tag6 I6 st6 r6=>?_
    refine⟨x.ver,x.ctr,x.own,x.kids,qr (r6.read (st6 []).sep) rfl,?_⟩
    have y6:=(y4.keepC st5).keep (st6 [])
    have:=pU (Q:=Q) x nS ds nS nS y6 rfl (st6 []).sep fun I7 st7=>?_
    .unfold adw at this;rw[z1,z2,z3]at this;exact this
    .have k7:StepS CGe ro tag I tag6 I7:=k4.trans ((st5.s z8).trans ((qq st6).trans (st7.s z8)))
     have k47:StepS [0,47] ro tag4 I4 tag6 I7:=(st5.s z8).trans ((qq st6).trans (st7.s z8))
     rw[e]
     refine q4 ds tag6 I7 k7 (h4.keepS k47) ?_
     rw[<-e]
     exact((rd.keep (st6 [])).keep st7)
   refine ahq (r:=10) g y0 y0 y0 hT (fun p n hp=>amc i.tree hp) (fun hp=>?_) (fun ps hp hl tag5 I5 st5=>?_) (fun n hn ds tag5 I5 st5 rd=>?_)
   .rw[L_S]at hp
    unfold atE at h0
    rw[mc hp]at h0;cases h0
   .rw[L_S]at hl
    exact fin (wZ 70) nS tag5 I5 st5 (Row.nil 6 5) (by rw[hl]) rfl rfl rfl
   .rw[L_S]at hn
    exact fin {Rep.zero with data:=n.data,ver:=n.ver,ctr:=n.ctr,own:=n.own,kids:=n.kids} ds tag5 I5 st5 rd (by rw[hn]) rfl rfl rfl
  refine⟨c.watch,(x3.read hs3).2.2 _ rfl 10 _ rfl,?_⟩
  cases hw:c.watch with
  | false=>
   rw[ma z8]
   rw[ma (by simp[hw])]at hQ
   simp only[hw,Bool.false_eq_true,if_false]at hQ
   exact tail s.hub tag3 I3 (StepS.refl hs3) h3 x3 hQ
  | true=>
   rw[mc rfl]
   refine aor (kind:=1) (K:=fun v I=>if¬(v=0)then wJ B ro v I (akP ro R Q)else kM B ro (some ⟨W,0,none⟩) X R Q I) g hs3 h3 i x3 fun tag4 I4 st4 h4 x4=>?_
   by_cases e:(un s.hub c.key (c.path,1)).2=0
   .rw[ma (j2 e)]
    rw[ma (by simp[hw,e])]at hQ
    simp only[hw,if_true]at hQ
    exact tail _ tag4 I4 st4 h4 x4 hQ
   .rw[mc e]
    rw[mc ⟨hw,e⟩]at hQ
    refine ab3 (tag:=tag4) fun tag5 I5 st5=>?_
    have y5:=(y3.keepS st4).keep (st5 [])
    refine pU (Q:=Q) (wZ (un s.hub c.key (c.path,1)).2) nS nS nS nS y5 rfl (st5 []).sep fun I6 st6=>?_
    have k6:StepS CGe ro tag I tag5 I6:=(qq k3).trans ((st4.mono y0).trans ((qq st5).trans (st6.s z8)))
    have hh:un s.hub c.key (c.path,1)=(s.hub,(un s.hub c.key (c.path,1)).2):=aoq e
    have h4':wI tag4 I4 W T Tt Th ms0 s:=by
     have:=h4
     rw[hh]at this
     exact this
    exact hQ nS tag5 I6 k6 ((h4'.fresh st5).keepS (st6.s (C:=[47]) z8)) (Row.nil 6 5)
 .rw[mc (j2 h0)]
  rw[mc (j2 h0)]at hQ
  refine ab3 (tag:=tag3) fun tag4 I4 st4=>?_
  have y4:=y3.keep (st4 [])
  refine pU (Q:=Q) (wZ (atE c)) nS nS nS nS y4 rfl (st4 []).sep fun I5 st5=>?_
  exact hQ nS tag4 I5 ((qq fun R=>(k3 R).trans (st4 R)).trans (st5.s z8)) ((h3.fresh st4).keepS (st5.s (C:=[47]) z8)) (Row.nil 6 5)
abbrev CLi:List Nat:=[0,42,47,59,60,61,62]
theorem atw(g:wW ro)(h:wI tag I W T Tt Th ms0 s)(i:vq b s)(hb:b<=33554433)
  (hQ:∀ ns tag' I',StepS CLi ro tag I tag' I'->wI tag' I' W T Tt Th ms0 (aaZ s c).1->Row tag' I' 42 9 ns ((aaZ s c).2.names.map Pa.vS)->aeh Q (aaZ s c).2 nS nS ns nS I'):
  abN B ro (some ⟨W,0,none⟩) c.kind (S c.home) c.session c.req c.nonce c.lease c.beats c.ack os (S c.path) c.watch c.epoch ms I Q:=by
 refine aiS fun hs=>?_
 unfold ab1
 refine qh (tag:=tag) 46 hs fun X tag1 I1 st1 r1=>?_
 refine qh (tag:=tag1) 47 (st1 []).sep fun R tag2 I2 st2 r2=>?_
 have x2:=r1.keep (st2 [])
 refine⟨_,_,_,_,_,_,_,_,_,_,_,_,_,qr (x2.read (st2 []).sep) rfl,?_⟩
 refine atY (tag:=tag2) g fun tag3 I3 st3=>?_
 have hs3:=(st3 []).sep
 have k3:∀ R,qd R ro tag I tag3 I3:=fun R=>(st1 R).trans ((st2 R).trans (st3 R))
 have h3:=h.fresh k3
 have x3:=x2.keep (st3 [])
 have y3:=r2.keep (st3 [])
 unfold aaZ at hQ
 have flt:∀ (e:Int) tag4 I4,StepS CLi ro tag I tag4 I4->wI tag4 I4 W T Tt Th ms0 s->Row tag4 I4 47 30 ⟨some ⟨R,0,none⟩,12,12⟩ (adw Rep.zero nS nS nS nS)->(∀ns tag' I',StepS CLi ro tag I tag' I'->wI tag' I' W T Tt Th ms0 s->Row tag' I' 42 9 ns ([]:List Value)->aeh Q (wZ e) nS nS ns nS I')->wJ B ro e I4 (akP ro R Q):=fun e tag4 I4 k4 h4 y4 q=>by
  refine ab3 (tag:=tag4) fun tag5 I5 st5=>?_
  have y5:=y4.keep (st5 [])
  refine pU (Q:=Q) (wZ e) nS nS nS nS y5 rfl (st5 []).sep fun I6 st6=>?_
  exact q nS tag5 I6 (k4.trans ((qq st5).trans (st6.s z8))) ((h4.fresh st5).keepS (st6.s (C:=[47]) z8)) (Row.nil _ _)
 by_cases h0:atE c=0
 .rw[ma (j2 h0)]
  rw[ma (j2 h0)]at hQ
  have hp0:parts c.path≠none:=fun e=>by unfold atE at h0;rw[mc e]at h0;cases h0
  refine⟨_,rfl,some ⟨T,0,none⟩,(h3.own.read hs3).2.2 _ rfl 2 _ rfl,S c.path,(x3.read hs3).2.2 _ rfl 9 _ rfl,?_⟩
  obtain⟨MT,bsT,hT⟩:=h3.tree
  have hlen:=i.tree.len
  have fin:∀ (x:Rep) (s':Sto) (ns:Sl) tag5 I5,StepS CLi ro tag I tag5 I5->wI tag5 I5 W T Tt Th ms0 s'->Row tag5 I5 47 30 ⟨some ⟨R,0,none⟩,12,12⟩ (adw Rep.zero nS nS nS nS)->Row tag5 I5 42 9 ns (x.names.map Pa.vS)->
    (∀ns tag' I',StepS CLi ro tag I tag' I'->wI tag' I' W T Tt Th ms0 s'->Row tag' I' 42 9 ns (x.names.map Pa.vS)->aeh Q x nS nS ns nS I')->stN ⟨R,0,none⟩ (amm ro R Q) (adw x nS nS ns nS) 0 I5:=fun x s' ns tag5 I5 k5 h5 y5 n5 q=>by
   refine pU (Q:=Q) x nS nS ns nS y5 rfl k5.sep fun I6 st6=>?_
   exact q ns tag5 I6 (k5.trans (st6.s z8)) (h5.keepS (st6.s (C:=[47]) z8)) (n5.keep st6)
  refine aox (q:=42) g y0 y0 y0 hT (fun p hp=>i.tree.inv.path p.1 p.2 ((qO i.tree.inv.keys).2 hp)) z7 (fun hp=>?_) (fun ps hp hl=>?_) fun n hn ns tag4 I4 ks st4 hpm hsr rn=>?_
  .rw[L_S]at hp;exact mu hp hp0
  .rw[L_S]at hl
   rw[hl]at hQ
   rw[ma y0]
   unfold kY
   rw[ma z8]
   unfold vj
   exact fin (wZ 70) s nS tag3 I3 (qq k3) h3 y3 (Row.nil _ _) hQ
  .rw[L_S]at hn rn
   rw[hn]at hQ
   simp only at hQ
   rw[ah4 i.tree.inv.keys hpm hsr]at rn
   have rn:Row tag4 I4 42 9 ns ((anA s.tree c.path).map Pa.vS):=rn
   have hs4:=st4.sep
   have k4:StepS CLi ro tag I tag4 I4:=(qq k3).trans (st4.s z8)
   have s4:StepS [42] ro tag3 I3 tag4 I4:=st4.s z8
   have h4:=h3.keepS s4
   have x4:=x3.keepS s4
   have y4:=y3.keepS s4
   rw[mc rfl]
   refine⟨c.watch,(x4.read hs4).2.2 _ rfl 10 _ rfl,?_⟩
   unfold kY
   cases hw:c.watch with
   | false=>
    rw[ma z8]
    rw[ma (by simp[hw])]at hQ
    simp only[hw,Bool.false_eq_true,if_false]at hQ
    unfold vj
    exact fin {Rep.zero with names:=anA s.tree c.path} s ns tag4 I4 k4 h4 y4 rn hQ
   | true=>
    rw[mc rfl]
    refine aor (kind:=2) (K:=fun v I=>if¬(v=0)then wJ B ro v I (akP ro R Q)else vj B ro R ns 0 Q I) g hs4 h4 i x4 fun tag5 I5 st5 h5 x5=>?_
    have k5:=k4.trans (st5.mono y0)
    have y5:=y4.keepS st5
    by_cases e:(un s.hub c.key (c.path,2)).2=0
    .rw[ma (j2 e)]
     rw[ma (by simp[hw,e])]at hQ
     simp only[hw,if_true]at hQ
     unfold vj
     exact fin {Rep.zero with names:=anA s.tree c.path} _ ns tag5 I5 k5 h5 y5 (rn.keepS st5) hQ
    .rw[mc e]
     rw[mc ⟨hw,e⟩]at hQ
     rw[aoq e]at h5
     exact flt _ tag5 I5 k5 h5 y5 hQ
 .rw[mc (j2 h0)]
  rw[mc (j2 h0)]at hQ
  exact flt (atE c) tag3 I3 (qq k3) h3 y3 hQ
theorem alH:∀ (b:Option Int),alq l b=true↔∀ j (hj:j<l.length),0<=l[j]/\l[j]<=31/\(∀x,(if j=0 then b else l[j - 1]?)=some x->x<l[j]):=by
 induction l with
 | nil=>intro b;exact⟨fun _ j hj=>by simp at hj,fun _=>rfl⟩
 | cons m l ih=>
  intro b
  unfold alq
  simp only[mw,mP]
  rw[ih (some m)]
  constructor
  .rintro⟨⟨⟨h1,h2⟩,h3⟩,h4⟩ j hj
   cases j with
   | zero=>
    refine⟨h1,h2,fun x hx=>?_⟩
    simp only[if_true]at hx
    rw[hx]at h3
    simpa using h3
   | succ j=>
    have hj':j<l.length:=by simpa using hj
    obtain⟨a,b',c⟩:=h4 j hj'
    refine⟨a,b',fun x hx=>c x ?_⟩
    cases j with
    | zero=>simpa using hx
    | succ j=>simpa using hx
  .intro h
   refine⟨⟨⟨(h 0 z8).1,(h 0 z8).2.1⟩,?_⟩,fun j hj=>?_⟩
   .cases b with
    | none=>rfl
    | some x=>
     have:=(h 0 z8).2.2 x z8
     rw[me];exact this
   .obtain⟨a,b',c⟩:=h (j+1) (j2 hj)
    refine⟨a,b',fun x hx=>c x ?_⟩
    cases j with
    | zero=>simpa using hx
    | succ j=>simpa using hx
theorem apB{s:Sl}{Q:Bool->AH->Prop}(h:SL.wy ro I s (l.map vI))(hl:l.length<=1048576)(hQ:Q (aaY l) I):ja B ro s I Q:=by
 refine adE fun _=>?_
 unfold pj
 have hln:s.len=l.length:=by rw[h.1,mi]
 suffices∀m j,j+m=l.length->(∀k (hk:k<l.length),k<j->0<=l[k]/\l[k]<=31/\(∀x,(if k=0 then none else l[k - 1]?)=some x->x<l[k]))->lfpD (wa B ro s Q) (j:Int) I from
  this _ 0 (ml _) (fun k _ hk=>by omega)
 intro m
 induction m with
 | zero=>
  intro j hj hall
  refine lfpD.intro ?_
  unfold wa
  rw[ma z7]
  unfold xN
  have e:aaY l=(decide (1<=(s.len:Int)) && decide ((s.len:Int)<=7)):=by
   unfold aaY
   rw[(alH none).2 fun k hk=>hall k hk z7,Bool.true_and,show decide (1<=(s.len:Int))=decide (1<=l.length)from LU.2 z7,show decide ((s.len:Int)<=7)=decide (l.length<=7)from LU.2 z7]
  rw[<-e];exact hQ
 | succ m ih=>
  intro j hj hall
  have hjl:j<l.length:=by omega
  obtain⟨p,hp⟩:∃ p,s.a=some p:=by
   cases e:s.a with
   | none=>have:=h.2.1 e;simp at this;rw[this]at hjl;simp at hjl
   | some p=>exact⟨p,rfl⟩
  have gj:=h.2.2 p hp j (vI l[j]) (by rw[mg,md hjl];try rfl)
  have bad:∀ {c:Bool},c=true->¬ (0<=l[j]/\l[j]<=31/\(∀x,(if j=0 then none else l[j - 1]?)=some x->x<l[j]))->wA B ro s (j:Int) Q (lfpD (wa B ro s Q)) c I:=fun hc hn=>by
   unfold wA
   rw[mc hc]
   have:aaY l=false:=by
    unfold aaY
    have:alq l none=false:=by
     rw[<-nM]
     intro e
     exact hn ((alH none).1 e j hjl)
    rw[this];try rfl
   rw[this]at hQ;exact hQ
  have good:∀ {c:Bool},c=false->(0<=l[j]/\l[j]<=31/\(∀x,(if j=0 then none else l[j - 1]?)=some x->x<l[j]))->wA B ro s (j:Int) Q (lfpD (wa B ro s Q)) c I:=fun hc hg=>by
   unfold wA
   rw[ma (by simp[hc]),Pa.inc j z7]
   refine ih (j+1) z7 fun k hk hkj=>?_
   rcases mL k j with h | h
   .exact hall k hk h
   .have:k=j:=by omega
    subst this;exact hg
  refine lfpD.intro ?_
  unfold wa
  rw[mc z7]
  refine⟨p,hp,z7,z7,l[j],by rw[mr,mV];exact gj,?_⟩
  by_cases c1:l[j]<0\/31<l[j]
  .rw[mc c1]
   exact bad rfl fun hn=>by omega
  rw[ma c1]
  by_cases c2:0<j
  .rw[mc z7]
   have ew:i64.wrap ((j:Int) - 1)=((j - 1:Nat):Int):=by rw[SL.wd z7 z7];omega
   rw[ew]
   have hj1:j - 1<l.length:=by omega
   have gj1:=h.2.2 p hp (j - 1) (vI l[j - 1]) (by rw[mg,md hj1];try rfl)
   refine⟨p,hp,z7,z7,l[j - 1],by rw[mr,mV];exact gj1,?_⟩
   unfold za
   by_cases c3:l[j]<=l[j - 1]
   .exact bad (j2 c3) fun hn=>by
     have:=hn.2.2 l[j - 1] (by rw[ma z7,md hj1]);omega
   .refine good (j2 c3) ⟨z7,z7,fun x hx=>?_⟩
    rw[ma z7,md hj1]at hx
    cases hx;omega
  .rw[ma z7]
   unfold za
   exact good rfl ⟨z7,z7,fun x hx=>by rw[mc z7]at hx;cases hx⟩
abbrev CRc:List Nat:=[0,51,54]
theorem aqK(h:wI tag I W T Tt Th ms0 s)(i:vq b s)(hb:b<=33554433)(hm:Row tag I 28 3 ms (c.members.map vI))(hl:c.members.length<=1048576)
  (hQ:∀ ms' tag' I',StepS CRc ro tag I tag' I'->wI tag' I' W T Tt Th ms' (acj s c).1->aeh Q (acj s c).2 nS nS nS nS I'):
  aaL B ro (some ⟨W,0,none⟩) c.kind (S c.home) c.session c.req c.nonce c.lease c.beats c.ack os (S c.path) c.watch c.epoch ms I Q:=by
 refine ahy fun hs=>?_
 unfold aa2
 refine qh (tag:=tag) 50 hs fun X tag1 I1 st1 r1=>?_
 refine qh (tag:=tag1) 51 (st1 []).sep fun R tag2 I2 st2 r2=>?_
 have hs2:=(st2 []).sep
 have k2:∀ R,qd R ro tag I tag2 I2:=fun R=>(st1 R).trans (st2 R)
 have x2:=r1.keep (st2 [])
 have h2:=h.fresh k2
 have m2:=hm.keep (k2 [])
 refine⟨ms,(x2.read hs2).2.2 _ rfl 12 _ rfl,?_⟩
 refine apB (m2.read hs2) hl ?_
 unfold acj at hQ
 have flt:∀ (e:Int),(∀ms' tag' I',StepS CRc ro tag I tag' I'->wI tag' I' W T Tt Th ms' s->aeh Q (wZ e) nS nS nS nS I')->wJ B ro e I2 (akP ro R Q):=fun e q=>by
  refine ab3 (tag:=tag2) fun tag5 I5 st5=>?_
  have y5:=r2.keep (st5 [])
  refine pU (Q:=Q) (wZ e) nS nS nS nS y5 rfl (st5 []).sep fun I6 st6=>?_
  exact q ms0 tag5 I6 ((qq k2).trans ((qq st5).trans (st6.s z8))) ((h2.fresh st5).keepS (st6.s (C:=[51]) z8))
 cases h1:aaY c.members with
 | false=>
  rw[mc z8]
  rw[mc h1]at hQ
  exact flt 190 hQ
 | true=>
 rw[ma z8]
 rw[ma (by simp[h1])]at hQ
 refine⟨_,rfl,c.epoch,(x2.read hs2).2.2 _ rfl 11 _ rfl,s.epoch,(h2.own.read hs2).2.2 _ rfl 0 _ rfl,?_⟩
 by_cases h3:c.epoch=s.epoch
 .rw[ma (j2 h3)]
  rw[ma (j2 h3)]at hQ
  refine pi tag2 [54] ?_
  have hsA:SL.Sep (join ro (SL.inR tag2 [54] I2)) (SL.vg tag2 [54] I2):=hs2.lentR
  refine⟨_,rfl,s.epoch,h2.own.lendR hs2 z8 rfl (i:=0) rfl,ms,((x2.outR (L:=[54]) y0).read hsA).2.2 _ rfl 12 _ rfl,?_⟩
  refine agM (tag:=tag2) 118 ((m2.read hs2).lentR hs2) hsA (j2 hl) (by simp[qf]) fun ms' tag3 I3 st3 r3=>⟨_,rfl,fun hd=>?_⟩
  have kA:StepS [] ro tag2 I2 _ _:=(qq st3).backR hs2 hd
  have o3:=h2.own.againR (L:=[54]) (tag1:=tag3) (τ:=I3) z8
  have r3':=r3.backR (I:=I2) (tag:=tag2) (L:=[54]) hd
  have h3:=h2.keepS kA z8
  generalize (join (SL.inR tag2 [54] I2) I3)=I4 at kA o3 r3' h3⊢
  generalize (tagB tag2 tag3 [54] I2)=tag4 at kA o3 r3' h3
  have hep:=i.ep
  rw[show i64.wrap (s.epoch+1)=s.epoch+1 from SL.wd z7 z7]
  refine o3.stPre [vI (s.epoch+1)] 0 _ I4 kA.sep z8 (by simp[qf]) fun I5 st5 o5=>?_
  refine⟨_,rfl,?_⟩
  refine Row.stAt [Sl.v ms'] 1 o5 st5.sep z8 (by simp[qf,Sl.v]) fun I6 st6 o6=>?_
  have k46:qd [54] ro tag4 I4 tag4 I6:=st5.trans st6
  have o6':Row tag4 I6 54 153 ⟨some ⟨W,0,none⟩,5,5⟩ [vI (s.epoch+1),Sl.v ms',ptr T,ptr Tt,ptr Th]:=o6
  refine⟨_,rfl,s.epoch+1,(o6'.read st6.sep).2.2 _ rfl 0 _ rfl,?_⟩
  have y6:=((r2.keepS kA z8).keep k46)
  refine pU (Q:=Q) {Rep.zero with epoch:=s.epoch+1} nS nS nS nS y6 rfl st6.sep fun I7 st7=>?_
  have k47:qd [51,54] ro tag4 I4 tag4 I7:=(k46.mono z8).trans (st7.mono z8)
  have h7:StepS CRc ro tag I tag4 I7:=(qq k2).trans ((kA.mono z8).trans (k47.s z8))
  refine hQ ms' tag4 I7 h7 ⟨o6'.keep st7,r3'.keep k47,?_,?_,?_⟩
  .exact h3.tree.keepS (k47.s (C:=[51,54]) z8)
  .exact h3.tbl.keepS (k47.s (C:=[51,54]) z8)
  .exact h3.hub.keepS (k47.s (C:=[51,54]) z8)
 .rw[mc h3]
  rw[mc h3]at hQ
  exact flt 191 hQ
end Zt
namespace Zt
open Go SL G Pa Wi
variable{B:World}{ro I I':AH}{tag tag':Nat->Nat}
variable{lease n nonce req:Int}{ops:List MOp}{C L:List Nat}{T Th Tt W b q:Nat}{Q:RQ}{x:Rep}{ms ms0 os:Sl}{s:Sto}{home:Str}{k:Str×Int}{t:Tbl}{c:zD}
theorem abC.outR{s:Sl}(h:abC tag I q s ops)(hq:q∉L)(h6:6∉L):abC tag (SL.vg tag L I) q s ops:=by
 obtain⟨ds,h1,h2,h3⟩:=h
 exact⟨ds,h1,qm.outR h2 hq,fun i o d ho hd=>uV.outR (h3 i o d ho hd) h6⟩
theorem agq.keepS(h:agq tag I 24 28 os ms c)(k:StepS C ro tag I tag' I')(hC:24∉C/\28∉C/\6∉C:=by decide):agq tag' I' 24 28 os ms c:=⟨abC.keepS h.ops k hC.1 hC.2.2,h.mem.keepS k hC.2.1⟩
theorem auO{owner qn qb:Int}{st:St}:(qZ st home owner qn qb ops).eff.length<=16:=by
 have key:∀ (os:List MOp) (i:Nat) (w v:um),vp home owner qn qb os i w= .inr v->v.eff.length<=w.eff.length+os.length:=by
  intro os
  induction os with
  | nil=>intro i w v h;cases h;simp
  | cons o os ih=>
   intro i w v h
   unfold vp at h
   split at h
   .cases h
   .have:=ih _ _ _ h
    have h2:=(apu (home:=home) (owner:=owner) (qn:=qn) (qb:=qb) (w:=w) (o:=o)).2
    simp only[mx]
    omega
 unfold qZ
 split
 .simp
 .split
  .simp
  .cases e:vp home owner qn qb ops 0 ⟨srt st,[],[]⟩with
   | inl x=>simp[acQ]
   | inr w=>
    have:=key _ _ _ _ e
    simp only[acQ]
    simp at this
    omega
theorem am2:(adn s c).2.results=[]/\(adn s c).2.names=[]/\(adn s c).2.events=[]:=by
 unfold adn
 split
 .exact⟨rfl,rfl,rfl⟩
 .split
  .exact⟨rfl,rfl,rfl⟩
  .simp only
   split<;>exact⟨rfl,rfl,rfl⟩
theorem alI:(aaZ s c).2.results=[]/\(aaZ s c).2.data=[]/\(aaZ s c).2.events=[]:=by
 unfold aaZ
 split
 .exact⟨rfl,rfl,rfl⟩
 .split
  .exact⟨rfl,rfl,rfl⟩
  .split<;>exact⟨rfl,rfl,rfl⟩
abbrev CDo:List Nat:=[0,1,2,3,4,5,10,12,13,14,15,17,18,19,20,21,25,26,27,30,31,42,45,47,57,58,59,60,61,62]
theorem avo(g:wW ro)(h:wI tag I W T Tt Th ms0 s)(i:vq b s)(hb:b<=33554432)(hc:agq tag I 24 28 os ms c)(hsm:ajG c)
  (hQ:∀ rs ds ns tag' I',StepS CDo ro tag I tag' I'->wI tag' I' W T Tt Th ms0 (doS s c).1->qm tag' I' 14 128 2 rs ((doS s c).2.results.map uT)->Row tag' I' 6 5 ds ((doS s c).2.data.map vU)->Row tag' I' 42 9 ns ((doS s c).2.names.map Pa.vS)->aeh Q (doS s c).2 rs ds ns nS I'):
  ac7 B ro (some ⟨W,0,none⟩) c.kind (S c.home) c.session c.req c.nonce c.lease c.beats c.ack os (S c.path) c.watch c.epoch ms I Q:=by
 refine aka fun hs=>?_
 unfold ads
 refine qh (tag:=tag) 44 hs fun X tag1 I1 st1 r1=>?_
 refine qh (tag:=tag1) 45 (st1 []).sep fun R tag2 I2 st2 r2=>?_
 have hs2:=(st2 []).sep
 have k2:∀ R,qd R ro tag I tag2 I2:=fun R=>(st1 R).trans (st2 R)
 have x2:=r1.keep (st2 [])
 have h2:=h.fresh k2
 have c2:=hc.keepS (qq (C:=[]) k2) z8
 refine⟨c.kind,(x2.read hs2).2.2 _ rfl 0 _ rfl,?_⟩
 unfold doS at hQ
 have zero:∀ (s':Sto) tag3 I3,StepS CDo ro tag I tag3 I3->wI tag3 I3 W T Tt Th ms0 s'->Row tag3 I3 45 30 ⟨some ⟨R,0,none⟩,12,12⟩ (adw Rep.zero nS nS nS nS)->
   (∀rs ds ns tag' I',StepS CDo ro tag I tag' I'->wI tag' I' W T Tt Th ms0 s'->qm tag' I' 14 128 2 rs (Rep.zero.results.map uT)->Row tag' I' 6 5 ds (Rep.zero.data.map vU)->Row tag' I' 42 9 ns (Rep.zero.names.map Pa.vS)->aeh Q Rep.zero rs ds ns nS I')->jv B ro R Q I3:=fun s' tag3 I3 k3 h3 y3 q=>by
  unfold jv
  refine pU (Q:=Q) Rep.zero nS nS nS nS y3 rfl k3.sep fun I4 st4=>?_
  exact q nS nS nS tag3 I4 (k3.trans (st4.s z8)) (h3.keepS (st4.s (C:=[45]) z8)) (qm.nil _ _ _) (Row.nil _ _) (Row.nil _ _)
 by_cases k1:c.kind=2
 .rw[mc k1]at hQ⊢
  refine pi tag2 [54,44] ?_
  have hsA:SL.Sep (join ro (SL.inR tag2 [54,44] I2)) (SL.vg tag2 [54,44] I2):=hs2.lentR
  obtain⟨M,bs,tbl⟩:=h2.tbl
  have tA:=tbl.outR (L:=[54,44]) y0
  refine⟨_,rfl,some ⟨Tt,0,none⟩,h2.own.lendR hs2 z8 rfl (i:=3) rfl,_,_,_,_,_,_,_,_,_,_,_,_,_,Row.lendAll x2 hs2 z8,?_⟩
  refine ahF (tag:=tag2) fun tag3 I3 st3=>?_
  refine qh (tag:=tag3) 53 (st3 []).sep fun Y tag4 I4 st4 r4=>?_
  refine arP (b0:=b) (home:=c.home) (n:=c.session) ((tA.fresh st3).fresh st4) i.tbl z7 y0 r4 fun tag5 I5 st5 tbl5=>?_
  intro hd
  have kA:StepS [58] ro tag2 I2 _ _:=((qq fun R=>(st3 R).trans (st4 R)).trans st5).backR hs2 hd
  refine zero {s with tbl:=(abc s.tbl c.key).1} _ _ ((qq k2).trans (kA.mono y0)) ⟨h2.own.againR z8,h2.mem.keepS kA,h2.tree.keepS kA,⟨M,bs,tbl5.backR hd⟩,h2.hub.keepS kA⟩ (r2.keepS kA) hQ
 rw[ma k1]at hQ⊢
 by_cases k5:c.kind=5
 .rw[mc k5]at hQ⊢
  unfold agk at hQ
  simp only at hQ
  refine pi tag2 [54,44] ?_
  have hsA:SL.Sep (join ro (SL.inR tag2 [54,44] I2)) (SL.vg tag2 [54,44] I2):=hs2.lentR
  have tA:=h2.tree.outR (L:=[54,44]) y0
  have oA:=abC.outR (L:=[54,44]) c2.ops y0 y0
  refine⟨_,rfl,some ⟨T,0,none⟩,h2.own.lendR hs2 z8 rfl (i:=2) rfl,S c.home,x2.lendR hs2 z8 rfl (i:=1) rfl,c.session,x2.lendR hs2 z8 rfl (i:=2) rfl,os,x2.lendR hs2 z8 rfl (i:=8) rfl,?_⟩
  refine ati (tag:=tag2) fun tag3 I3 st3=>?_
  have hh:=hsm.home
  refine asN (b:=20*b) (q:=24) (aeW g) y0 y0 y0 y0 y0 y0 (tA.keep (st3 [])) i.tree z7 (abC.keepS oA (qq (C:=[]) st3) z8 z8) (fun o ho=>by have:=(hsm.ops o ho).2;omega) z7 fun rs es tag4 I4 st4 t4 rr4 re4=>?_
  refine kq (tag:=tag4) (vs:=[Sl.v rs,Sl.v es,.int .i64 (qZ s.tree c.home c.session 64 8192 c.ops).bad]) 43 st4.sep rfl (by simp[qf,Sl.v]) fun Y tag5 I5 st5 y5=>?_
  intro hd
  have kA0:StepS (10::DA) (join ro (SL.inR tag2 [54,44] I2)) tag2 (SL.vg tag2 [54,44] I2) tag5 I5:=(qq st3).trans (st4.trans (qq st5))
  have kA:=kA0.backR hs2 hd
  have o6:=h2.own.againR (L:=[54,44]) (tag1:=tag5) (τ:=I5) z8
  have t6:=(t4.keep (st5 [])).backR (I:=I2) (tag:=tag2) (L:=[54,44]) hd
  have rr6:=qm.backR (I:=I2) (tag:=tag2) (L:=[54,44]) (qm.keep rr4 (st5 [])) hd
  have re6:=qm.backR (I:=I2) (tag:=tag2) (L:=[54,44]) (qm.keep re4 (st5 [])) hd
  have y6:=y5.backR (I:=I2) (tag:=tag2) (L:=[54,44]) hd
  have m6:=h2.mem.keepS kA
  have tb6:=h2.tbl.keepS kA
  obtain⟨M,bs,hub6⟩:=h2.hub.keepS kA
  have z6:=r2.keepS kA
  generalize (join (SL.inR tag2 [54,44] I2) I5)=I6 at kA o6 t6 rr6 re6 y6 m6 tb6 hub6 z6⊢
  generalize (tagB tag2 tag5 [54,44] I2)=tag6 at kA o6 t6 rr6 re6 y6 m6 tb6 hub6 z6
  have hs6:=kA.sep
  refine⟨_,rfl,some ⟨Th,0,none⟩,(o6.read hs6).2.2 _ rfl 4 _ rfl,es,(y6.read hs6).2.2 _ rfl 1 _ rfl,?_⟩
  have hel:(qZ s.tree c.home c.session 64 8192 c.ops).eff.length<=16:=auO
  refine aok (b0:=b) g hub6 i.hub z7 re6 y0 z7 fun n tag7 I7 st7 hub7=>?_
  have y7:=y6.keepS st7
  have gy:=(y7.read st7.sep).2.2 _ rfl
  refine⟨rs,gy 0 _ rfl,_,gy 2 _ rfl,?_⟩
  refine pU (Q:=Q) {Rep.zero with code:=(qZ s.tree c.home c.session 64 8192 c.ops).err,results:=(qZ s.tree c.home c.session 64 8192 c.ops).res,bad:=(qZ s.tree c.home c.session 64 8192 c.ops).bad} rs nS nS nS (z6.keepS st7) rfl st7.sep fun I8 st8=>?_
  have k68:StepS [0,45,59,60,61] ro tag6 I6 tag7 I8:=(st7.mono y0).trans (st8.s z8)
  refine hQ rs nS nS tag7 I8 ((qq k2).trans ((kA.mono y0).trans (k68.mono y0))) ⟨o6.keepS k68,m6.keepS k68,t6.keepS k68,tb6.keepS k68,⟨M,bs,hub7.keepS (st8.s (C:=[45]) z8)⟩⟩ (qm.keepS rr6 k68) (Row.nil _ _) (Row.nil _ _)
 rw[ma k5]at hQ⊢
 by_cases k6:c.kind=6
 .rw[mc k6]at hQ⊢
  refine⟨_,_,_,_,_,_,_,_,_,_,_,_,_,qr (x2.read hs2) rfl,?_⟩
  refine auN g h2 i fun ds tag3 I3 st3 h3 d3=>?_
  obtain⟨e1,e2,e3⟩:=am2 (s:=s) (c:=c)
  refine pU (Q:=Q) (adn s c).2 nS ds nS nS (r2.keepS st3) rfl st3.sep fun I4 st4=>?_
  exact hQ nS ds nS tag3 I4 ((qq k2).trans ((st3.mono y0).trans (st4.s z8))) (h3.keepS (st4.s (C:=[45]) z8)) (by rw[e1];exact qm.nil _ _ _) (d3.keep st4) (by rw[e2];exact Row.nil _ _)
 rw[ma k6]at hQ⊢
 by_cases k7:c.kind=7
 .rw[mc k7]at hQ⊢
  refine⟨_,_,_,_,_,_,_,_,_,_,_,_,_,qr (x2.read hs2) rfl,?_⟩
  refine atw g h2 i z7 fun ns tag3 I3 st3 h3 n3=>?_
  obtain⟨e1,e2,e3⟩:=alI (s:=s) (c:=c)
  refine pU (Q:=Q) (aaZ s c).2 nS nS ns nS (r2.keepS st3) rfl st3.sep fun I4 st4=>?_
  exact hQ nS nS ns tag3 I4 ((qq k2).trans ((st3.mono y0).trans (st4.s z8))) (h3.keepS (st4.s (C:=[45]) z8)) (by rw[e1];exact qm.nil _ _ _) (by rw[e2];exact Row.nil _ _) (n3.keep st4)
 rw[ma k7]at hQ⊢
 exact zero s tag2 I2 (qq k2) h2 r2 hQ
theorem atx(h:(vm t home nonce lease).2.2=0):qP home=true:=by
 unfold vm at h
 split at h
 .cases h
 .rename_i hn;simpa using hn
theorem ar0(h:¬ (vm t home nonce lease).2.2=0):(vm t home nonce lease).1=t:=by
 unfold vm at h⊢
 by_cases c1:qP home=false
 .rw[mc c1]
 rw[ma c1]at h⊢
 by_cases c2:okN nonce=false
 .rw[mc c2]
 rw[ma c2]at h⊢
 by_cases c3:lease<1\/1048576<lease
 .rw[mc c3]
 rw[ma c3]at h⊢
 cases hw:agJ (qQ t home) nonce with
 | some p=>rfl
 | none=>
  rw[hw]at h
  simp only at h⊢
  by_cases c5:64<=(qQ t home).live.length\/(qQ t home).last=4611686018427387903
  .rw[mc c5]
  .rw[ma c5]at h;exact mu rfl h
theorem aty(hn:qP home=true):parts (47::home)=some [home]:=by
 have hl:=aaQ hn
 exact qW.2 ⟨by simp[mk],⟨z8,fun y hy=>by rw[mo.1 hy];exact hn,by simp[mk];omega⟩⟩
theorem alJ(home:Str):SL.L ((⟨#[47]⟩:ByteArray)++S home)=47::home:=by
 rw[show((⟨#[47]⟩:ByteArray))=S [47]from rfl,ahO,L_S];try rfl
abbrev COp:List Nat:=[0,10,49,55,56,57,58]
theorem atz(g:wW ro)(h:wI tag I W T Tt Th ms0 s)(i:vq b s)(hb:b<=33554432)(hsm:ajG c)
  (hQ:∀ tag' I',StepS COp ro tag I tag' I'->wI tag' I' W T Tt Th ms0 (aci s c).1->aeh Q (aci s c).2 nS nS nS nS I'):
  ux B ro (some ⟨W,0,none⟩) c.kind (S c.home) c.session c.req c.nonce c.lease c.beats c.ack os (S c.path) c.watch c.epoch ms I Q:=by
 refine aek fun hs=>?_
 unfold uI
 refine qh (tag:=tag) 48 hs fun X tag1 I1 st1 r1=>?_
 refine qh (tag:=tag1) 49 (st1 []).sep fun R tag2 I2 st2 r2=>?_
 have hs2:=(st2 []).sep
 have k2:∀ R,qd R ro tag I tag2 I2:=fun R=>(st1 R).trans (st2 R)
 have x2:=r1.keep (st2 [])
 have h2:=h.fresh k2
 have hh:=hsm.home
 refine⟨S c.home,(x2.read hs2).2.2 _ rfl 1 _ rfl,by rw[ahl];show 1+_<=_;omega,_,rfl,some ⟨T,0,none⟩,(h2.own.read hs2).2.2 _ rfl 2 _ rfl,?_⟩
 obtain⟨MT,bsT,hT⟩:=h2.tree
 have main:∀ (dS:Sl) (v1 v2 v3 v4 e:Int) tag3 I3,zU 0 ro tag2 I2 tag3 I3->(qP c.home=true->(e=70↔(s.tree.lookup (47::c.home)).isNone=true))->
   nw ro I3 (.cells #[.int .i64 0,.int .i64 0,.int .i64 0,.int .i64 0] 26) fun x7_9 I=>
   stN ⟨x7_9,0,none⟩ (fun I=>
    ∃(x26_10:ByteArray),qa ro I ((⟨X,0,none⟩:Addr).add 1)=some (.string x26_10)/\
    pq B ro x26_10 I fun x27_11 I=>
    ∃p34_12:Addr,(some ⟨W,0,none⟩:Option Addr)=some p34_12/\
    ∃(x36_13:Option Addr),qa ro I (p34_12.add 3)=some (.pointer x36_13)/\
    ∃(x38_14:ByteArray),qa ro I ((⟨X,0,none⟩:Addr).add 1)=some (.string x38_14)/\
    ∃(x40_15:Int),qa ro I ((⟨X,0,none⟩:Addr).add 4)=some (.int .i64 x40_15)/\
    ∃(x42_16:Int),qa ro I ((⟨X,0,none⟩:Addr).add 5)=some (.int .i64 x42_16)/\
    jb B ro x36_13 x38_14 x40_15 x42_16 I fun x43_17 x43_18 x43_19 I=>
    if¬(x43_19=0)then
     wJ B ro x43_19 I (akP ro R Q)
    else
    if(x27_11=true)/\(e=70)then
     ∃p53_24:Addr,(some ⟨W,0,none⟩:Option Addr)=some p53_24/\
     ∃(x55_25:Option Addr),qa ro I (p53_24.add 2)=some (.pointer x55_25)/\
     jP B ro x55_25 ((⟨#[47]⟩:ByteArray)++S c.home) (⟨none,0,0⟩:Sl) 0 false I fun x57_26 x57_27 I=>
     zE B ro R x43_17 Q I
    else
    zE B ro R x43_17 Q I) [.int .i64 v1,.int .i64 v2,.int .i64 v3,.int .i64 v4] 0 I:=fun dS v1 v2 v3 v4 e tag3 I3 st3 he=>by
  refine kq (tag:=tag3) 0 st3.sep rfl (by simp[qf]) fun Y tag4 I4 st4 y4=>?_
  have hs4:=(st4 []).sep
  have k34:StepS [0] ro tag2 I2 tag4 I4:=(st3.s z8).trans (qq st4)
  have x4:=x2.keepS k34
  have h4:=h2.keepS k34
  have z4:=r2.keepS k34
  have gx:=(x4.read hs4).2.2 _ rfl
  refine⟨S c.home,gx 1 _ rfl,?_⟩
  refine afM ?_
  rw[L_S]
  obtain⟨M,bs,tbl⟩:=h4.tbl
  refine⟨_,rfl,some ⟨Tt,0,none⟩,(h4.own.read hs4).2.2 _ rfl 3 _ rfl,S c.home,gx 1 _ rfl,c.nonce,gx 4 _ rfl,c.lease,gx 5 _ rfl,?_⟩
  refine ata tbl i.tbl z7 fun f tag5 I5 st5 tbl5=>?_
  have h5:wI tag5 I5 W T Tt Th ms0 {s with tbl:=(vm s.tbl c.home c.nonce c.lease).1}:=⟨h4.own.keepS st5,h4.mem.keepS st5,h4.tree.keepS st5,tbl5,h4.hub.keepS st5⟩
  have z5:=z4.keepS st5
  have k5:StepS COp ro tag I tag5 I5:=(qq k2).trans ((k34.mono y0).trans (st5.mono y0))
  unfold aci at hQ
  by_cases c0:(vm s.tbl c.home c.nonce c.lease).2.2=0
  .rw[ma (j2 c0)]
   rw[ma (j2 c0)]at hQ
   have hn:=atx c0
   have fin:∀ (st':St) tag6 I6,StepS COp ro tag I tag6 I6->wI tag6 I6 W T Tt Th ms0 {s with tbl:=(vm s.tbl c.home c.nonce c.lease).1,tree:=st'}->Row tag6 I6 49 30 ⟨some ⟨R,0,none⟩,12,12⟩ (adw Rep.zero nS nS nS nS)->
     st'=(if qP c.home=true/\(s.tree.lookup (47::c.home)).isNone=true then(wo s.tree (47::c.home) [] 0 false).1 else s.tree)->zE B ro R (vm s.tbl c.home c.nonce c.lease).2.1 Q I6:=fun st' tag6 I6 k6 h6 z6 e6=>by
    subst e6
    unfold zE
    refine pU (Q:=Q) {Rep.zero with session:=(vm s.tbl c.home c.nonce c.lease).2.1} nS nS nS nS z6 rfl k6.sep fun I7 st7=>?_
    exact hQ tag6 I7 (k6.trans (st7.s z8)) (h6.keepS (st7.s (C:=[49]) z8))
   by_cases c1:e=70
   .rw[mc ⟨hn,c1⟩]
    refine⟨_,rfl,some ⟨T,0,none⟩,(h5.own.read st5.sep).2.2 _ rfl 2 _ rfl,?_⟩
    refine ai9 (r:=10) (d:=[]) g y0 y0 y0 h5.tree ⟨rfl,fun _=>rfl,fun p hp=>by cases hp⟩ y0 fun tag6 I6 st6 t6=>?_
    rw[alJ]at t6
    refine fin (wo s.tree (47::c.home) [] 0 false).1 tag6 I6 (k5.trans (st6.s z8)) ⟨h5.own.keepC st6,h5.mem.keepC st6,t6,?_,?_⟩ (z5.keepC st6) (by rw[mc ⟨hn,(he hn).1 c1⟩])
    .exact h5.tbl.keepS (st6.s (C:=[10]) z8)
    .exact h5.hub.keepS (st6.s (C:=[10]) z8)
   .rw[ma (fun x=>c1 x.2)]
    exact fin s.tree tag5 I5 k5 h5 z5 (by rw[ma (fun x=>c1 ((he hn).2 x.2))])
  .rw[mc c0]
   rw[mc c0]at hQ
   refine ab3 (tag:=tag5) fun tag6 I6 st6=>?_
   refine pU (Q:=Q) (wZ (vm s.tbl c.home c.nonce c.lease).2.2) nS nS nS nS (z5.keep (st6 [])) rfl (st6 []).sep fun I7 st7=>?_
   have h5':wI tag5 I5 W T Tt Th ms0 s:=by
    have:=h5
    rw[ar0 c0]at this
    exact this
   exact hQ tag6 I7 (k5.trans ((qq st6).trans (st7.s z8))) ((h5'.fresh st6).keepS (st7.s (C:=[49]) z8))
 refine ahq (r:=10) g y0 y0 y0 hT (fun p n hp=>amc i.tree hp) (fun hp tag3 I3 st3=>?_) (fun ps hp hl tag3 I3 st3=>?_) (fun n hn ds tag3 I3 st3 rd=>?_)
 .rw[alJ]at hp
  exact main nS 0 0 0 0 20 tag3 I3 st3 fun hn=>by
   have:parts (47::c.home)=some [c.home]:=aty hn
   rw[this]at hp;cases hp
 .rw[alJ]at hl
  exact main nS 0 0 0 0 70 tag3 I3 st3 fun hn=>⟨fun _=>by rw[hl];try rfl,fun _=>rfl⟩
 .rw[alJ]at hn
  exact main ds n.ver n.ctr n.own n.kids 0 tag3 I3 st3 fun _=>⟨(fun h=>by cases h),fun h=>by rw[hn]at h;cases h⟩
theorem agK.sm20(h:agK x):ain x:=⟨by have:=h.data;omega,fun y hy=>by have:=h.res y hy;omega,fun y hy=>by have:=h.names y hy;omega,fun y hy=>by have:=h.evs y hy;omega⟩
theorem atA(i:vq b s)(hb:b<=33554432):(doS s c).2.events=[]/\ -1<=(doS s c).2.bad:=by
 unfold doS
 split
 .exact⟨rfl,show(-1:Int)<=0 by decide⟩
 split
 .unfold agk
  exact⟨rfl,(alt (home:=c.home) (owner:=c.session) (qn:=64) (qb:=8192) (ops:=c.ops) i.tree z7).2.2.1⟩
 split
 .refine⟨am2.2.2,?_⟩
  unfold adn
  split
  .show(-1:Int)<=0;decide
  .split
   .show(-1:Int)<=0;decide
   .simp only
    split<;>(show(-1:Int)<=0;decide)
 split
 .refine⟨alI.2.2,?_⟩
  unfold aaZ
  split
  .show(-1:Int)<=0;decide
  .split
   .show(-1:Int)<=0;decide
   .split<;>(show(-1:Int)<=0;decide)
 .exact⟨rfl,show(-1:Int)<=0 by decide⟩
structure aa7(tag:Nat->Nat)(I:AH)(rs ds ns es:Sl)(x:Rep):Prop where
 res:∃ r∈[14,50],qm tag I r 128 2 rs (x.results.map uT)
 data:Row tag I 6 5 ds (x.data.map vU)
 names:∃ r∈[42,51],Row tag I r 9 ns (x.names.map Pa.vS)
 evs:∃ r∈[9,52],qm tag I r 132 3 es (x.events.map aiq)
theorem aa7.keepS{rs ds ns es:Sl}(h:aa7 tag I rs ds ns es x)(k:StepS C ro tag I tag' I')(hC:∀ y∈[6,9,14,42,50,51,52],y∉C:=by decide):aa7 tag' I' rs ds ns es x:=by
 obtain⟨⟨r1,e1,a⟩,b,⟨r2,e2,c⟩,⟨r3,e3,d⟩⟩:=h
 refine⟨⟨r1,e1,qm.keepS a k ?_⟩,b.keepS k (hC 6 y0),⟨r2,e2,c.keepS k ?_⟩,⟨r3,e3,qm.keepS d k ?_⟩⟩
 .simp only[mq,nf,or_false]at e1
  rcases e1 with rfl | rfl
  .exact hC 14 y0
  .exact hC 50 y0
 .simp only[mq,nf,or_false]at e2
  rcases e2 with rfl | rfl
  .exact hC 42 y0
  .exact hC 51 y0
 .simp only[mq,nf,or_false]at e3
  rcases e3 with rfl | rfl
  .exact hC 9 y0
  .exact hC 52 y0
theorem aa7.zero(x:Rep)(h1:x.results=[])(h2:x.data=[])(h3:x.names=[])(h4:x.events=[]):aa7 tag I nS nS nS nS x:=by
 refine⟨⟨14,z8,?_⟩,?_,⟨42,z8,?_⟩,⟨9,z8,?_⟩⟩
 .rw[h1];exact qm.nil _ _ _
 .rw[h2];exact Row.nil _ _
 .rw[h3];exact Row.nil _ _
 .rw[h4];exact qm.nil _ _ _
theorem aa7.fault(e:Int):aa7 tag I nS nS nS nS (wZ e):=aa7.zero _ rfl rfl rfl rfl
theorem ar1(i:vK b t):(kK t k req).1.length<=1048576:=by
 unfold kK
 rcases abi t k with⟨s,e⟩ | ⟨x,_,e⟩
 .rw[e]
  simp only
  split
  .simp
  .split
   .exact(afO i e).reply
   .split<;>simp
 .rw[e];simp
abbrev CWi:List Nat:=[0,1,2,3,4,5,8,10,12,13,14,15,17,18,19,20,21,25,26,27,30,31,41,42,45,47,50,51,52,53,57,58,59,60,61,62]
theorem aqL(g:wW ro)(h:wI tag I W T Tt Th ms0 s)(i:vq b s)(hb:b<=33554432)(hc:agq tag I 24 28 os ms c)(hsm:ajG c)
  (hQ:∀ rs ds ns es tag' I',StepS CWi ro tag I tag' I'->wI tag' I' W T Tt Th ms0 (acl s c).1->aa7 tag' I' rs ds ns es (acl s c).2->aeh Q (acl s c).2 rs ds ns es I'):
  aaM B ro (some ⟨W,0,none⟩) c.kind (S c.home) c.session c.req c.nonce c.lease c.beats c.ack os (S c.path) c.watch c.epoch ms I Q:=by
 refine ahz fun hs=>?_
 unfold aa3
 refine qh (tag:=tag) 40 hs fun X tag1 I1 st1 r1=>?_
 refine qh (tag:=tag1) 41 (st1 []).sep fun R tag2 I2 st2 r2=>?_
 have x2:=r1.keep (st2 [])
 refine⟨_,_,_,_,_,_,_,_,_,_,_,_,_,qr (x2.read (st2 []).sep) rfl,?_⟩
 refine ahF (tag:=tag2) fun tag3 I3 st3=>?_
 refine kq (tag:=tag3) 34 (st3 []).sep rfl (by simp[qf]) fun K tag4 I4 st4 r4=>?_
 have k4:∀ R,qd R ro tag I tag4 I4:=fun R=>(st1 R).trans ((st2 R).trans ((st3 R).trans (st4 R)))
 have hs4:=(st4 []).sep
 have x4:=(x2.keep (st3 [])).keep (st4 [])
 have y4:=(r2.keep (st3 [])).keep (st4 [])
 have h4:=h.fresh k4
 have c4:=hc.keepS (qq (C:=[]) k4) z8
 obtain⟨M,bs,tbl4⟩:=h4.tbl
 refine⟨_,rfl,some ⟨Tt,0,none⟩,(h4.own.read hs4).2.2 _ rfl 3 _ rfl,S c.home,c.session,qr (r4.read hs4) rfl,c.req,(x4.read hs4).2.2 _ rfl 3 _ rfl,?_⟩
 refine arM (b0:=b) tbl4 i.tbl fun sl tag5 I5 st5 rb=>?_
 have k5:∀ R,qd R ro tag I tag5 I5:=fun R=>(k4 R).trans (st5 R)
 have hs5:=(st5 []).sep
 have h5:=h4.fresh st5
 have x5:=x4.keep (st5 [])
 have y5:=y4.keep (st5 [])
 have r5:=r4.keep (st5 [])
 have c5:=c4.keepS (qq (C:=[]) st5) z8
 have hbl:=ar1 (k:=(c.home,c.session)) (req:=c.req) i.tbl
 obtain⟨s1,hs1⟩:∃ s1:Sto,s1={s with hub:=(aea s.hub (c.home,c.session) c.ack).1}:=⟨_,rfl⟩
 have hW:acl s c=if(kK s.tbl (c.home,c.session) c.req).2.2≠0 then(s,wZ (kK s.tbl (c.home,c.session) c.req).2.2)
   else if(kK s.tbl (c.home,c.session) c.req).2.1=true then(s,{(agl (kK s.tbl (c.home,c.session) c.req).1).getD Rep.zero with events:=acR s.hub (c.home,c.session)})
   else if c.kind=3 then(aeZ {s1 with tbl:=(aav s1.tbl (c.home,c.session)).1} (c.home,c.session),Rep.zero)
   else({(doS s1 c).1 with tbl:=(ad8 (doS s1 c).1.tbl (c.home,c.session) c.req ((abd (doS s1 c).2).getD [])).1},{(doS s1 c).2 with events:=acR (doS s1 c).1.hub (c.home,c.session)}):=by subst hs1;rfl
 rw[hW]at hQ
 by_cases e1:(kK s.tbl (c.home,c.session) c.req).2.2=0
 rotate_left
 .rw[mc e1]
  rw[mc e1]at hQ
  refine ab3 (tag:=tag5) fun tag6 I6 st6=>?_
  refine pU (Q:=Q) (wZ (kK s.tbl (c.home,c.session) c.req).2.2) nS nS nS nS (y5.keep (st6 [])) rfl (st6 []).sep fun I7 st7=>?_
  exact hQ nS nS nS nS tag6 I7 ((qq k5).trans ((qq st6).trans (st7.s z8))) ((h5.fresh st6).keepS (st7.s (C:=[41]) z8)) (aa7.fault _)
 rw[ma (j2 e1)]
 rw[ma (j2 e1)]at hQ
 by_cases e2:(kK s.tbl (c.home,c.session) c.req).2.1=true
 .rw[mc e2]
  rw[mc e2]at hQ
  have fin:∀ (x:Rep) (rs ds ns es:Sl) tag6 I6,StepS [0,2,3,31,50,51,52] ro tag5 I5 tag6 I6->ajW tag6 I6 50 rs ds ns es x->x=(agl (kK s.tbl (c.home,c.session) c.req).1).getD Rep.zero->
    nw ro I6 (.cells #[.int .i64 0,.int .i64 0,Sl.v nS,.int .i64 0,Sl.v nS,.int .i64 0,.int .i64 0,.int .i64 0,.int .i64 0,Sl.v nS,Sl.v nS,.int .i64 0] 30) fun x9_17 I=>
    stN ⟨x9_17,0,none⟩ (fun I=>
     ∃p39_18:Addr,(some ⟨W,0,none⟩:Option Addr)=some p39_18/\
     ∃(x41_19:Option Addr),qa ro I (p39_18.add 4)=some (.pointer x41_19)/\
     ∃(x42_20a:ByteArray) (x42_20b:Int),SL.qe ro I ⟨K,0,none⟩ 0 [.string x42_20a,.int .i64 x42_20b]/\
     jp B ro x41_19 x42_20a x42_20b I fun x43_21 I=>
     stN ((⟨x9_17,0,none⟩:Addr).add 10) (amm ro x9_17 (akP ro R Q)) [Sl.v x43_21] 0 I) (adw x rs ds ns es) 0 I:=fun x rs ds ns es tag6 I6 st6 at6 ex=>by
   refine kq (tag:=tag6) 8 st6.sep rfl (ajY x rs ds ns es) fun Y tag7 I7 st7 y7=>?_
   have k57:StepS [0,2,3,31,50,51,52] ro tag5 I5 tag7 I7:=st6.trans (qq st7)
   have hs7:=k57.sep
   have h7:=h5.keepS k57
   obtain⟨Mh,bh,hub7⟩:=h7.hub
   refine⟨_,rfl,some ⟨Th,0,none⟩,(h7.own.read hs7).2.2 _ rfl 4 _ rfl,S c.home,c.session,qr ((r5.keepS k57).read hs7) rfl,?_⟩
   refine amU (k:=c.key) (b0:=b) 9 hub7 i.hub fun es' tag8 I8 st8 ev8=>?_
   have y8:=y7.keep (st8 [])
   refine Row.stAt [Sl.v es'] 10 y8 (st8 []).sep z8 (by simp[qf,Sl.v]) fun I9 st9 y9=>?_
   have y9':Row tag8 I9 8 30 ⟨some ⟨Y,0,none⟩,12,12⟩ (adw {x with events:=acR s.hub c.key} rs ds ns es'):=y9
   refine⟨_,_,_,_,_,_,_,_,_,_,_,_,qr (y9'.read st9.sep) rfl,?_⟩
   have k59:StepS [0,2,3,8,31,50,51,52] ro tag5 I5 tag8 I9:=(k57.mono y0).trans ((qq st8).trans (st9.s z8))
   refine pU (Q:=Q) {x with events:=acR s.hub c.key} rs ds ns es' (y5.keepS k59) rfl st9.sep fun I10 st10=>?_
   have ka:StepS [0,2,3,8,31,41,50,51,52] ro tag5 I5 tag8 I10:=(k59.mono y0).trans (st10.s z8)
   subst ex
   refine hQ rs ds ns es' tag8 I10 ((qq k5).trans (ka.mono y0)) (h5.keepS ka) ?_
   have at10:=((at6.keepS (qq (C:=[]) fun R=>(st7 R).trans (st8 R)) z8 z8 z8 z8).keepS (st9.s (C:=[8]) z8)).keepS (st10.s (C:=[41]) z8)
   exact⟨⟨50,z8,at10.res⟩,at10.data,⟨51,z8,at10.names⟩,⟨9,z8,(qm.keep ev8 st9).keep st10⟩⟩
  refine aoL (tag:=tag5) (q:=50) y0 y0 y0 (rb.read hs5) z7 (fun hn tag6 I6 st6=>?_) fun x hx rs ds ns es tag6 I6 st6 at6=>?_
  .exact fin Rep.zero nS nS nS nS tag6 I6 st6 ⟨qm.nil _ _ _,Row.nil _ _,Row.nil _ _,qm.nil _ _ _⟩ (by rw[hn];try rfl)
  .exact fin x rs ds ns es tag6 I6 st6 at6 (by rw[hx];try rfl)
 rw[ma e2]
 rw[ma e2]at hQ
 obtain⟨Mh,bh,hub5⟩:=h5.hub
 refine⟨_,rfl,some ⟨Th,0,none⟩,(h5.own.read hs5).2.2 _ rfl 4 _ rfl,S c.home,c.session,qr (r5.read hs5) rfl,c.ack,(x5.read hs5).2.2 _ rfl 7 _ rfl,?_⟩
 refine auD (k:=c.key) (b0:=b) hub5 i.hub fun tag6 I6 st6 hub6=>?_
 have hs6:=st6.sep
 have h6:wI tag6 I6 W T Tt Th ms0 s1:=by rw[hs1];exact h5.hubSet st6 y0 ⟨Mh,bh,hub6⟩
 have x6:=x5.keepS st6
 have y6:=y5.keepS st6
 have r6:=r5.keepS st6
 have c6:=c5.keepS st6
 have k6:StepS CWi ro tag I tag6 I6:=(qq k5).trans (st6.mono y0)
 have i1:vq b s1:=by rw[hs1];exact⟨i.tree,i.tbl,aet i.hub,i.ep,i.mem⟩
 refine⟨c.kind,(x6.read hs6).2.2 _ rfl 0 _ rfl,?_⟩
 by_cases e3:c.kind=3
 .rw[mc e3]
  rw[mc e3]at hQ
  obtain⟨M6,bs6,tbl6⟩:=h6.tbl
  refine⟨_,rfl,some ⟨Tt,0,none⟩,(h6.own.read hs6).2.2 _ rfl 3 _ rfl,S c.home,c.session,qr (r6.read hs6) rfl,?_⟩
  refine arO tbl6 fun tag7 I7 st7 tbl7=>?_
  have h7:wI tag7 I7 W T Tt Th ms0 {s1 with tbl:=(aav s1.tbl (c.home,c.session)).1}:=⟨h6.own.keepS st7,h6.mem.keepS st7,h6.tree.keepS st7,⟨M6,bs6,tbl7⟩,h6.hub.keepS st7⟩
  refine⟨S c.home,c.session,qr ((r6.keepS st7).read st7.sep) rfl,?_⟩
  have i7:vq (b+1) ({s1 with tbl:=(aav s1.tbl (c.home,c.session)).1}:Sto):=⟨i1.tree.mono z7,(aik i1.tbl).mono z7,i1.hub.mono z7,by have:=i1.ep;simp only;omega,i1.mem⟩
  refine aoo (k:=(c.home,c.session)) g h7 i7 z7 fun tag8 I8 st8 h8=>?_
  refine pU (Q:=Q) Rep.zero nS nS nS nS ((y6.keepS st7).keepS st8) rfl st8.sep fun I9 st9=>?_
  exact hQ nS nS nS nS tag8 I9 (k6.trans ((st7.mono y0).trans ((st8.mono y0).trans (st9.s z8)))) (h8.keepS (st9.s (C:=[41]) z8)) (aa7.zero _ rfl rfl rfl rfl)
 .rw[ma e3]
  rw[ma e3]at hQ
  refine⟨_,_,_,_,_,_,_,_,_,_,_,_,_,qr (x6.read hs6) rfl,?_⟩
  refine avo (b:=b) g h6 i1 hb c6 hsm fun rs ds ns tag7 I7 st7 h7 rr7 rd7 rn7=>?_
  have i7:vq (b+1) (doS s1 c).1:=amd i1 hb
  obtain⟨ev7,bad7⟩:=atA (c:=c) i1 hb
  have tiny:=an8 (c:=c) i1 hb
  have k7:StepS CWi ro tag I tag7 I7:=k6.trans (st7.mono y0)
  have x7:=x6.keepS st7
  have y7:=y6.keepS st7
  have r7:=r6.keepS st7
  generalize hd:doS s1 c=d at h7 rr7 rd7 rn7 i7 ev7 bad7 tiny hQ
  obtain⟨s2,x⟩:=d
  have bad7: -1<=x.bad:=bad7
  have tiny:agK x:=tiny
  refine kq (tag:=tag7) 8 st7.sep rfl (ajY x rs ds ns nS) fun Y tag8 I8 st8 y8=>?_
  have hs8:=(st8 []).sep
  have h8:=h7.fresh st8
  refine⟨_,_,_,_,_,_,_,_,_,_,_,_,qr (y8.read hs8) rfl,?_⟩
  have rr8:=qm.keep rr7 (st8 [])
  have rd8:=rd7.keep (st8 [])
  have rn8:=rn7.keep (st8 [])
  have repd:∀ tag' I',StepS CR ro tag8 I8 tag' I'->avj ro I' rs ds ns nS x:=fun tag' I' st=>by
   refine⟨(qm.keepS rr8 st).read st.sep,(rd8.keepS st).read st.sep,(rn8.keepS st).read st.sep,?_⟩
   rw[ev7];exact⟨rfl,fun _=>rfl,(fun x h=>by cases h),fun p hp=>by cases hp⟩
  have fin:∀ (sb:Sl) (er:Int) tag9 I9,StepS CR ro tag8 I8 tag9 I9->Row tag9 I9 6 5 sb (((abd x).getD []).map vU)->
    ∃p76_42:Addr,(some ⟨W,0,none⟩:Option Addr)=some p76_42/\
    ∃(x78_43:Option Addr),qa ro I9 (p76_42.add 3)=some (.pointer x78_43)/\
    ∃(x79_44a:ByteArray) (x79_44b:Int),SL.qe ro I9 ⟨K,0,none⟩ 0 [.string x79_44a,.int .i64 x79_44b]/\
    ∃(x81_45:Int),qa ro I9 ((⟨X,0,none⟩:Addr).add 3)=some (.int .i64 x81_45)/\
    pY B ro x78_43 x79_44a x79_44b x81_45 sb I9 fun x83_46 I=>
    ∃p85_47:Addr,(some ⟨W,0,none⟩:Option Addr)=some p85_47/\
    ∃(x87_48:Option Addr),qa ro I (p85_47.add 4)=some (.pointer x87_48)/\
    ∃(x88_49a:ByteArray) (x88_49b:Int),SL.qe ro I ⟨K,0,none⟩ 0 [.string x88_49a,.int .i64 x88_49b]/\
    jp B ro x87_48 x88_49a x88_49b I fun x89_50 I=>
    stN ((⟨Y,0,none⟩:Addr).add 10) (amm ro Y (akP ro R Q)) [Sl.v x89_50] 0 I:=fun sb er tag9 I9 st9 rb9=>by
   have hs9:=st9.sep
   have h9:=h8.keepS st9
   have K9:=(r7.keep (st8 [])).keepS st9
   have X9:=(x7.keep (st8 [])).keepS st9
   obtain⟨M9,bs9,tbl9⟩:=h9.tbl
   refine⟨_,rfl,some ⟨Tt,0,none⟩,(h9.own.read hs9).2.2 _ rfl 3 _ rfl,S c.home,c.session,qr (K9.read hs9) rfl,c.req,(X9.read hs9).2.2 _ rfl 3 _ rfl,?_⟩
   refine aux (d:=(abd x).getD []) tbl9 (rb9.read hs9) (by have:=apw tiny;omega) fun tag10 I10 st10 tbl10=>?_
   have hs10:=st10.sep
   have h10:wI tag10 I10 W T Tt Th ms0 {s2 with tbl:=(ad8 s2.tbl (c.home,c.session) c.req ((abd x).getD [])).1}:=⟨h9.own.keepS st10,h9.mem.keepS st10,h9.tree.keepS st10,⟨M9,bs9,tbl10⟩,h9.hub.keepS st10⟩
   obtain⟨Mh,bh,hub10⟩:=h10.hub
   refine⟨_,rfl,some ⟨Th,0,none⟩,(h10.own.read hs10).2.2 _ rfl 4 _ rfl,S c.home,c.session,qr ((K9.keepS st10).read hs10) rfl,?_⟩
   refine amU (k:=c.key) (b0:=b+1) 9 hub10 i7.hub fun es' tag11 I11 st11 ev11=>?_
   have k811:StepS [0,1,2,30,58] ro tag8 I8 tag11 I11:=(st9.mono y0).trans ((st10.mono y0).trans (qq st11))
   have y11:=y8.keepS k811
   refine Row.stAt [Sl.v es'] 10 y11 k811.sep z8 (by simp[qf,Sl.v]) fun I12 st12 y12=>?_
   have y12':Row tag11 I12 8 30 ⟨some ⟨Y,0,none⟩,12,12⟩ (adw {x with events:=acR s2.hub c.key} rs ds ns es'):=y12
   refine⟨_,_,_,_,_,_,_,_,_,_,_,_,qr (y12'.read st12.sep) rfl,?_⟩
   have k812:StepS [0,1,2,8,30,58] ro tag8 I8 tag11 I12:=(k811.mono y0).trans (st12.s z8)
   refine pU (Q:=Q) {x with events:=acR s2.hub c.key} rs ds ns es' ((y7.keep (st8 [])).keepS k812) rfl st12.sep fun I13 st13=>?_
   have k813:StepS [0,1,2,8,30,41,58] ro tag8 I8 tag11 I13:=(k812.mono y0).trans (st13.s z8)
   refine hQ rs ds ns es' tag11 I13 (k7.trans ((qq st8).trans (k813.mono y0))) ?_ ?_
   .exact(h10.fresh st11).keepS ((st12.s (C:=[8,41]) z8).trans (st13.s z8))
   .exact⟨⟨14,z8,qm.keepS rr8 k813⟩,rd8.keepS k813,⟨42,z8,rn8.keepS k813⟩,⟨9,z8,(qm.keep ev11 st12).keep st13⟩⟩
  refine aoK (tag:=tag8) repd tiny.sm20 z7 (fun hn tag9 I9 st9=>?_) fun bb hbb sb tag9 I9 st9 rb9=>?_
  .exact fin nS 170 tag9 I9 st9 (by rw[hn];exact Row.nil _ _)
  .exact fin sb 0 tag9 I9 st9 (by rw[hbb];exact rb9)
theorem ar2(e:¬ (ky t k n).2=true):(ky t k n).1=t:=by
 unfold ky at e⊢
 split
 .rename_i s hs
  rw[hs]at e
  simp only at e
  split
  .rename_i c;rw[mc c]at e;exact mu rfl e
  .rfl
 .rfl
abbrev CAp:List Nat:=[0,1,2,3,4,5,8,10,12,13,14,15,17,18,19,20,21,25,26,27,30,31,39,41,42,45,47,49,50,51,52,53,54,55,56,57,58,59,60,61,62]
theorem ar3(g:wW ro)(h:abD tag I W s)(i:vq b s)(hb:b<=33554432)(hc:agq tag I 24 28 os ms c)(hsm:ajG c)(hml:c.members.length<=1048576)
  (hQ:∀ rs ds ns es tag' I',StepS CAp ro tag I tag' I'->abD tag' I' W (pS s c).1->aa7 tag' I' rs ds ns es (pS s c).2->aeh Q (pS s c).2 rs ds ns es I'):
  jN B ro (some ⟨W,0,none⟩) c.kind (S c.home) c.session c.req c.nonce c.lease c.beats c.ack os (S c.path) c.watch c.epoch ms I Q:=by
 obtain⟨T,Tt,Th,ms0,h⟩:=h.in
 refine aee fun hs=>?_
 unfold uf
 refine qh (tag:=tag) 38 hs fun X tag1 I1 st1 r1=>?_
 refine qh (tag:=tag1) 39 (st1 []).sep fun R tag2 I2 st2 y2=>?_
 have k2:∀ R,qd R ro tag I tag2 I2:=fun R=>(st1 R).trans (st2 R)
 have hs2:=(st2 []).sep
 have x2:=r1.keep (st2 [])
 have h2:=h.fresh k2
 have c2:=hc.keepS (qq (C:=[]) k2) z8
 unfold pS at hQ
 refine⟨c.kind,(x2.read hs2).2.2 _ rfl 0 _ rfl,?_⟩
 by_cases e1:c.kind=1
 .rw[mc e1]at hQ⊢
  refine⟨_,_,_,_,_,_,_,_,_,_,_,_,_,qr (x2.read hs2) rfl,?_⟩
  refine atz (b:=b) g h2 i hb hsm fun tag3 I3 st3 h3=>?_
  refine pU (Q:=Q) (aci s c).2 nS nS nS nS (y2.keepS st3) rfl st3.sep fun I4 st4=>?_
  refine hQ nS nS nS nS tag3 I4 ((qq k2).trans ((st3.mono y0).trans (st4.s z8))) (h3.keepS (st4.s (C:=[39]) z8)).at ?_
  unfold aci
  split<;>exact aa7.zero _ rfl rfl rfl rfl
 rw[ma e1]at hQ⊢
 by_cases e4:c.kind=4
 .rw[mc e4]at hQ⊢
  refine pi tag2 [54,38] ?_
  have hsA:SL.Sep (join ro (SL.inR tag2 [54,38] I2)) (SL.vg tag2 [54,38] I2):=hs2.lentR
  obtain⟨M,bs,tbl⟩:=h2.tbl
  have tA:=tbl.outR (L:=[54,38]) y0
  refine⟨_,rfl,some ⟨Tt,0,none⟩,h2.own.lendR hs2 z8 rfl (i:=3) rfl,c.beats,x2.lendR hs2 z8 rfl (i:=6) rfl,_,_,_,_,_,_,_,_,_,_,_,_,_,Row.lendAll x2 hs2 z8,?_⟩
  refine ahF (tag:=tag2) fun tag3 I3 st3=>?_
  refine aqq (tA.fresh st3) fun tag4 I4 st4 tbl4=>?_
  intro hd
  have kA:StepS [57] ro tag2 I2 _ _:=((qq st3).trans st4).backR hs2 hd
  have h5:wI (tagB tag2 tag4 [54,38] I2) (join (SL.inR tag2 [54,38] I2) I4) W T Tt Th ms0 {s with tbl:=(ky s.tbl c.key c.beats).1}:=⟨h2.own.againR z8,h2.mem.keepS kA,h2.tree.keepS kA,⟨M,bs,tbl4.backR hd⟩,h2.hub.keepS kA⟩
  have x5:=x2.againR (L:=[54,38]) (tag1:=tag4) (τ:=I4) z8
  have y5:=y2.keepS kA
  generalize (join (SL.inR tag2 [54,38] I2) I4)=I5 at kA h5 x5 y5⊢
  generalize (tagB tag2 tag4 [54,38] I2)=tag5 at kA h5 x5 y5
  by_cases e5:(ky s.tbl c.key c.beats).2=true
  .rw[mc e5]at hQ
   rw[ma (by rw[show(ky s.tbl (c.home,c.session) c.beats).2=true from e5];simp)]
   refine⟨_,_,_,_,_,_,_,_,_,_,_,_,_,qr (x5.read kA.sep) rfl,?_⟩
   refine ahF (tag:=tag5) fun tag6 I6 st6=>?_
   have i5:vq (b+1) ({s with tbl:=(ky s.tbl c.key c.beats).1}:Sto):=⟨i.tree.mono z7,(ag8 i.tbl).mono z7,i.hub.mono z7,by have:=i.ep;simp only;omega,i.mem⟩
   refine aoo (k:=c.key) g (h5.fresh st6) i5 z7 fun tag7 I7 st7 h7=>?_
   refine pU (Q:=Q) Rep.zero nS nS nS nS ((y5.keep (st6 [])).keepS st7) rfl st7.sep fun I8 st8=>?_
   exact hQ nS nS nS nS tag7 I8 ((qq k2).trans ((kA.mono y0).trans ((qq st6).trans ((st7.mono y0).trans (st8.s z8))))) (h7.keepS (st8.s (C:=[39]) z8)).at (aa7.zero _ rfl rfl rfl rfl)
  .rw[ma e5]at hQ
   rw[mc (show¬(ky s.tbl (c.home,c.session) c.beats).2=true from e5)]
   refine ab3 (tag:=tag5) fun tag6 I6 st6=>?_
   refine pU (Q:=Q) (wZ 150) nS nS nS nS (y5.keep (st6 [])) rfl (st6 []).sep fun I7 st7=>?_
   have h5':wI tag5 I5 W T Tt Th ms0 s:=by
    have:=h5
    rw[ar2 e5]at this
    exact this
   exact hQ nS nS nS nS tag6 I7 ((qq k2).trans ((kA.mono y0).trans ((qq st6).trans (st7.s z8)))) ((h5'.fresh st6).keepS (st7.s (C:=[39]) z8)).at (aa7.fault _)
 rw[ma e4]at hQ⊢
 by_cases e8:c.kind=8
 .rw[mc e8]at hQ⊢
  refine⟨_,_,_,_,_,_,_,_,_,_,_,_,_,qr (x2.read hs2) rfl,?_⟩
  refine aqK (b:=b) h2 i z7 c2.mem hml fun ms' tag3 I3 st3 h3=>?_
  refine pU (Q:=Q) (acj s c).2 nS nS nS nS (y2.keepS st3) rfl st3.sep fun I4 st4=>?_
  refine hQ nS nS nS nS tag3 I4 ((qq k2).trans ((st3.mono y0).trans (st4.s z8))) (h3.keepS (st4.s (C:=[39]) z8)).at ?_
  unfold acj
  split
  .exact aa7.fault _
  .split
   .exact aa7.fault _
   .exact aa7.zero _ rfl rfl rfl rfl
 rw[ma e8]at hQ⊢
 have yes:(2<=c.kind/\c.kind<=7)->∀ d:Bool,d=true->wz B ro (some ⟨W,0,none⟩) X R Q d I2:=fun hk d hd=>by
  rw[mc hk]at hQ
  unfold wz
  rw[mc hd]
  refine⟨_,_,_,_,_,_,_,_,_,_,_,_,_,qr (x2.read hs2) rfl,?_⟩
  refine aqL (b:=b) g h2 i hb c2 hsm fun rs ds ns es tag3 I3 st3 h3 d3=>?_
  refine pU (Q:=Q) (acl s c).2 rs ds ns es (y2.keepS st3) rfl st3.sep fun I4 st4=>?_
  exact hQ rs ds ns es tag3 I4 ((qq k2).trans ((st3.mono y0).trans (st4.s z8))) (h3.keepS (st4.s (C:=[39]) z8)).at (d3.keepS (st4.s (C:=[39]) z8))
 have no:¬ (2<=c.kind/\c.kind<=7)->∀ d:Bool,d=false->wz B ro (some ⟨W,0,none⟩) X R Q d I2:=fun hk d hd=>by
  rw[ma hk]at hQ
  unfold wz
  rw[ma (by simp[hd])]
  refine ab3 (tag:=tag2) fun tag6 I6 st6=>?_
  refine pU (Q:=Q) (wZ 170) nS nS nS nS (y2.keep (st6 [])) rfl (st6 []).sep fun I7 st7=>?_
  exact hQ nS nS nS nS tag6 I7 ((qq k2).trans ((qq st6).trans (st7.s z8))) ((h2.fresh st6).keepS (st7.s (C:=[39]) z8)).at (aa7.fault _)
 by_cases f2:c.kind=2
 .rw[mc f2];exact yes z7 _ (by simp[f2])
 rw[ma f2]
 by_cases f3:c.kind=3
 .rw[mc f3];exact yes z7 _ (by simp[f3])
 rw[ma f3]
 by_cases f5:c.kind=5
 .rw[mc f5];exact yes z7 _ (by simp[f5])
 rw[ma f5]
 by_cases f6:c.kind=6
 .rw[mc f6];exact yes z7 _ (by simp[f6])
 rw[ma f6]
 by_cases f7:c.kind=7
 .exact yes z7 _ (by simp[f7])
 .exact no z7 _ (by simp[f7])
abbrev CK:List Nat:=[0,2,3,4,5,8,10,12,13,14,54,55,56,57,58,62]
theorem aqM{Q:Bool->AH->Prop}(g:wW ro)(hQ:∀ tag' I',(∀R,qd R ro tag I tag' I')->Q true I'):ae7 B ro I Q:=by
 refine amg fun hs=>?_
 unfold afr
 refine qh (tag:=T7) 8 hs fun X tag1 I1 st1 r1=>?_
 refine aoN (tag:=tag1) (r1.read (st1 []).sep) fun W T Tt M ms Th tag2 I2 st2 h2=>?_
 rw[ma z8]
 refine arL g h2 fun tag3 I3 st3=>?_
 have o3:=h2.own.keepS st3
 have m3:=h2.mem.keepS st3
 refine qh (tag:=tag3) 13 st3.sep fun Z tag4 I4 st4 r4=>?_
 refine r4.stPre akM 0 _ I4 (st4 []).sep z8 atb fun I5 st5 r5=>?_
 have y5:Row tag4 I5 13 _ ⟨some ⟨Z,0,none⟩,12,12⟩ akM:=r5
 have k5:qd [13] ro tag3 I3 tag4 I5:=(st4 [13]).trans st5
 have o5:=o3.keep k5
 have m5:=m3.keep k5
 have hs5:=st5.sep
 refine⟨0,(y5.read hs5).2.2 _ rfl 0 _ rfl,?_⟩
 rw[mc rfl]
 refine⟨1,(y5.read hs5).2.2 _ rfl 1 _ rfl,?_⟩
 unfold aax
 rw[mc y0]
 refine⟨_,rfl,?_⟩
 refine ahx fun _=>?_
 unfold aa1
 refine⟨_,rfl,0,(o5.read hs5).2.2 _ rfl 0 _ rfl,?_⟩
 show pH B ro (some ⟨W,0,none⟩) Q (decide ((0:Int)=0)) I5
 unfold pH
 rw[mc y0]
 refine⟨_,rfl,?_⟩
 refine agu fun _=>?_
 unfold uX
 refine⟨_,rfl,ms,(o5.read hs5).2.2 _ rfl 1 _ rfl,?_⟩
 refine agM (tag:=tag4) 14 (m5.read hs5) hs5 y0 (by simp[qf]) fun s tag6 I6 st6 r6=>?_
 unfold uH
 have hl:s.len=3:=(r6.read (st6 []).sep).1
 show Q (decide ((s.len:Int)=3)) I6
 rw[hl]
 have st:StepS CK ro T7 I tag6 I6:=((st1 []).s z8).trans ((st2.mono y0).trans ((st3.mono y0).trans ((k5.s z8).trans ((st6 []).s z8))))
 exact hQ _ I6 (st.mix y0 tag)
end Zt
namespace G
open Go SL
variable{B:World}{ro I:AH}
def abE(B:World)(ro:AH)(u0 u1:Nat)(Q:Int->ByteArray->Int->Int->Int->Int->Int->Int->Sl->ByteArray->Bool->Int->Sl->AH->Prop)(u2:Sl)(I:AH):=
 ∃u3,qa ro I ((⟨u0,0,none⟩:Addr).add 12)=some (Sl.v u3)/\
 ac5 B ro u3 I fun u4 I=>
 stN ((⟨u0,0,none⟩:Addr).add 8) (fun I=>
 stN ((⟨u0,0,none⟩:Addr).add 12) (fun I=>
  ∃u5 u6 u7 u8 u9 u10 u11 u12 u13 u14 u15 u16 u17,qe ro I ⟨u0,0,none⟩ 0 [.int .i64 u5,.string u6,.int .i64 u7,.int .i64 u8,.int .i64 u9,.int .i64 u10,.int .i64 u11,.int .i64 u12,Sl.v u13,.string u14,.bool u15,.int .i64 u16,Sl.v u17]/\
  stN ⟨u1,0,none⟩ (fun I=>
  ∃u18 u19 u20 u21 u22 u23 u24 u25 u26 u27 u28 u29 u30,qe ro I ⟨u1,0,none⟩ 0 [.int .i64 u18,.string u19,.int .i64 u20,.int .i64 u21,.int .i64 u22,.int .i64 u23,.int .i64 u24,.int .i64 u25,Sl.v u26,.string u27,.bool u28,.int .i64 u29,Sl.v u30]/\
  Q u18 u19 u20 u21 u22 u23 u24 u25 u26 u27 u28 u29 u30 I) [.int .i64 u5,.string u6,.int .i64 u7,.int .i64 u8,.int .i64 u9,.int .i64 u10,.int .i64 u11,.int .i64 u12,Sl.v u13,.string u14,.bool u15,.int .i64 u16,Sl.v u17] 0 I) [Sl.v u4] 0 I) [Sl.v u2] 0 I
def pV(B:World)(ro:AH)(u0 u1:Nat)(u2:Sl)(Q:Int->ByteArray->Int->Int->Int->Int->Int->Int->Sl->ByteArray->Bool->Int->Sl->AH->Prop):(Sl×Int)->AH->((Sl×Int)->AH->Prop)->Prop:=fun⟨u3,u4⟩ I Y10=>
 if u4<(u2.len:Int)then
 ∃p5,u2.a=some p5/\(0:Int)<=u4/\u4<(u2.len:Int)/\
 ∃u6 u7 u8 u9 u10 u11,qe ro I (p5.add (Int.toNat u4*6)) 0 [.int .i64 u6,.string u7,Sl.v u8,.int .i64 u9,.bool u10,.bool u11]/\
 nw ro I (.cells #[.int .i64 0,.string ByteArray.empty,Sl.v (⟨none,0,0⟩:Sl),.int .i64 0,.bool false,.bool false] 72) fun u12 I=>
 stN ⟨u12,0,none⟩ (fun I=>
  ∃u13,qa ro I ((⟨u12,0,none⟩:Addr).add 2)=some (Sl.v u13)/\
  adV B ro u13 I fun u14 I=>
  stN ((⟨u12,0,none⟩:Addr).add 2) (fun I=>
  ∃u15 u16 u17 u18 u19 u20,qe ro I ⟨u12,0,none⟩ 0 [.int .i64 u15,.string u16,Sl.v u17,.int .i64 u18,.bool u19,.bool u20]/\
  nw ro I (.cells #[.int .i64 u15,.string u16,Sl.v u17,.int .i64 u18,.bool u19,.bool u20] 72) fun u21 I=>
  awp prog ro (Builtin.append_ #[54,54] 54 #[Sl.v u3,Sl.v (⟨some ⟨u21,0,none⟩,1,1⟩:Sl)]) (fun v I=> ∃(u22:Sl),v=Sl.v u22/\
   Y10 (u22,i64.wrap (u4+1)) I) I) [Sl.v u14] 0 I) [.int .i64 u6,.string u7,Sl.v u8,.int .i64 u9,.bool u10,.bool u11] 0 I
 else
 abE B ro u0 u1 Q u3 I
def aex(B:World)(ro:AH)(a0_0:Int)(a0_1:ByteArray)(a0_2 a0_3 a0_4 a0_5 a0_6 a0_7:Int)(a0_8:Sl)(a0_9:ByteArray)(a0_10:Bool)(a0_11:Int)(a0_12:Sl)(I:AH)(Q:Int->ByteArray->Int->Int->Int->Int->Int->Int->Sl->ByteArray->Bool->Int->Sl->AH->Prop):=
 nw ro I (.cells #[.int .i64 a0_0,.string a0_1,.int .i64 a0_2,.int .i64 a0_3,.int .i64 a0_4,.int .i64 a0_5,.int .i64 a0_6,.int .i64 a0_7,Sl.v a0_8,.string a0_9,.bool a0_10,.int .i64 a0_11,Sl.v a0_12] 57) fun u0 I=>
 nw ro I (.cells #[.int .i64 0,.string ByteArray.empty,.int .i64 0,.int .i64 0,.int .i64 0,.int .i64 0,.int .i64 0,.int .i64 0,Sl.v (⟨none,0,0⟩:Sl),.string ByteArray.empty,.bool false,.int .i64 0,Sl.v (⟨none,0,0⟩:Sl)] 57) fun u1 I=>
 ∃u2,qa ro I ((⟨u0,0,none⟩:Addr).add 8)=some (Sl.v u2)/\
 lfpD (pV B ro u0 u1 u2 Q) ((⟨none,0,0⟩:Sl),0) I
theorem alK{a0_0 a0_1 a0_2 a0_3 a0_4 a0_5 a0_6 a0_7 a0_8 a0_9 a0_10 a0_11 a0_12 Q}(h:Sep ro I->aex B ro a0_0 a0_1 a0_2 a0_3 a0_4 a0_5 a0_6 a0_7 a0_8 a0_9 a0_10 a0_11 a0_12 I Q):aeo B ro a0_0 a0_1 a0_2 a0_3 a0_4 a0_5 a0_6 a0_7 a0_8 a0_9 a0_10 a0_11 a0_12 I Q:=by
 refine zb h func23 ntmps23 fun h=>?_;unfold aex at h;refine zw ?_;refine zA (wB rfl rfl) h fun u0 h=>?_;refine zAp (qM rfl pc) h fun u1 h=>?_;refine AW.seqJ (fun fr I=> ∃(u2:Sl),ql [(1,.pointer (some ⟨u0,0,none⟩)),(2,.pointer (some ⟨u1,0,none⟩)),(3,Sl.v u2)] fr/\abE B ro u0 u1 Q u2 I) ?_ ?_
 .rintro fr I ⟨u2,hl,h⟩;refine AW.weaken ?_ hl (HLe.refl _)
  unfold abE at h;refine zf my agV ?_;refine zL mR h fun u3 h=>?_;refine zc func76 h ?_;rintro v I ⟨u4,rfl,h⟩;refine zf my anG ?_;refine zs anG h fun I h=>?_;refine zf my agV ?_;refine zsp agV h fun I h=>?_;obtain⟨u5,u6,u7,u8,u9,u10,u11,u12,u13,u14,u15,u16,u17,hc,h⟩:=h
  refine zl (wg rfl my rfl pc rfl hc ?_)
  refine zsp pc h fun I h=>?_;obtain⟨u18,u19,u20,u21,u22,u23,u24,u25,u26,u27,u28,u29,u30,hc0,h⟩:=h
  exact xT results23 (wh (vM rfl my rfl pc hc0) vL) ⟨_,_,_,_,_,_,_,_,_,_,_,_,_,rfl,h⟩
 refine zf my anG ?_;refine zL Lh h fun u31 h=>?_;refine zm (qA rfl rfl Lh rfl rfl) ?_;refine zw ?_;refine qi.loop (fr':=[(1,.pointer (some ⟨u0,0,none⟩)),(2,.pointer (some ⟨u1,0,none⟩)),(7,Sl.v u31),(8,.int .i64 (u31.len:Int)),(3,Sl.v (⟨none,0,0⟩:Sl)),(9,.int .i64 0)]) ?_ FL
 refine h (fun⟨u32,u33⟩ I=>qi _ _ _ _ _ _ [(1,.pointer (some ⟨u0,0,none⟩)),(2,.pointer (some ⟨u1,0,none⟩)),(7,Sl.v u31),(8,.int .i64 (u31.len:Int)),(3,Sl.v u32),(9,.int .i64 u33)] I) ?_
 rintro⟨u32,u33⟩ I Y10 hY10 h
 show AW _ _ _ _ _ _ _ _
 unfold pV at h;dsimp only at h;refine zw ?_;refine AW.seq ?_;refine zi h (fun h=>?_) fun h=>?_
 rotate_left
 .refine AW.exit ?_;refine zw ?_;refine qT ?_
  refine zw ?_;exact⟨_,FL,h⟩
 refine zw ?_;refine AW.seq ?_;refine zw ?_;obtain⟨p34,ha,h0,h1,h⟩:=h
 refine zm (zP rfl Lh aen (ixL rfl ha) rfl h0 h1) ?_;obtain⟨u35,u36,u37,u38,u39,u40,hc,h⟩:=h
 refine zl (wg rfl mX rfl aen rfl hc ?_)
 refine zA (qM rfl aen) h fun u41 h=>?_;refine zs aen h fun I h=>?_;refine zf mX wu ?_;refine zL mp h fun u42 h=>?_;refine zc func16 h ?_;rintro v I ⟨u43,rfl,h⟩;refine zf mX wu ?_;refine zsp wu h fun I h=>?_;obtain⟨u44,u45,u46,u47,u48,u49,hc,h⟩:=h
 refine zl (wg rfl mX rfl aen rfl hc ?_)
 refine zA (zo (vs:=[(0,.agg #[.int .i64 u44,.string u45,Sl.v u46,.int .i64 u47,.bool u48,.bool u49])]) (cs:= #[.int .i64 u44,.string u45,Sl.v u46,.int .i64 u47,.bool u48,.bool u49]) rfl Lh aen y0 rfl rfl) h fun u50 h=>?_;refine zl (kP (s:=Builtin.append_ #[54,54] 54 #[Sl.v u32,Sl.v (⟨some ⟨u50,0,none⟩,1,1⟩:Sl)]) rfl rfl (fun _=>rfl) (qj _ h ?_))
 rintro v I ⟨u51,rfl,h⟩;refine zw ?_;refine qi.head (fr':=[(1,.pointer (some ⟨u0,0,none⟩)),(2,.pointer (some ⟨u1,0,none⟩)),(7,Sl.v u31),(8,.int .i64 (u31.len:Int)),(3,Sl.v u51),(9,.int .i64 (i64.wrap (u33+1)))]) ?_ FL
 exact hY10 _ _ h
end G
namespace Zt
open Go SL G Pa Wi
variable{B:World}{ro I I':AH}{tag tag':Nat->Nat}
variable{l ws:List Int}{C R:List Nat}{W q:Nat}{s:Sto}
theorem ar4{s:Sl}{Q:Option Addr->Int->AH->Prop}(h:SL.wy ro I s (l.map vI))(hl:l.length<=1048576)(hr:aaY l=true)
  (hQ:∀ W tag' I',StepS CN ro tag I tag' I'->abD tag' I' W (Sto.new l)->Q (some ⟨W,0,none⟩) 0 I'):acE B ro s I Q:=by
 refine ajz fun hs=>?_
 unfold aeJ
 refine apB h hl ?_
 rw[hr,ma z8]
 refine agM (tag:=tag) 118 h hs (j2 hl) (by simp[qf]) fun ms tag1 I1 st1 r1=>?_
 refine aq3 (tag:=tag1) 10 y0 y0 fun T tag2 I2 st2 t2=>?_
 refine ahA fun hs2=>?_
 unfold ac1
 refine ahn kS (tag:=tag2) 119 hs2 fun M tag3 I3 st3 m3=>?_
 refine qh (tag:=tag3) 55 (st3 []).sep fun Tt tag4 I4 st4 r4=>?_
 refine ajB fun hs4=>?_
 unfold aeK
 refine ahn kSI (tag:=tag4) 126 hs4 fun Mh tag5 I5 st5 m5=>?_
 refine qh (tag:=tag5) 62 (st5 []).sep fun Th tag6 I6 st6 r6=>?_
 refine qh (tag:=tag6) 54 (st6 []).sep fun W tag7 I7 st7 r7=>?_
 have k6:qd [] ro tag4 I4 tag7 I7:=((st5 []).trans (st6 [])).trans (st7 [])
 have k3:qd [] ro tag3 I3 tag7 I7:=(st4 []).trans k6
 have k2:qd [] ro tag2 I2 tag7 I7:=(st3 []).trans k3
 have k5:qd [] ro tag5 I5 tag7 I7:=(st6 []).trans (st7 [])
 refine hQ W tag7 I7 (((st1 []).s z8).trans ((st2.s z8).trans (k2.s z8))) ⟨T,Tt,Th,ms,r7,?_,t2.keep k2,⟨M,[],r4.keep k6,yq.nil (m3.keep k3)⟩,⟨Mh,[],r6.keep (st7 []),yq.nil (m5.keep k5)⟩⟩
 exact(r1.keepC st2).keep k2
theorem ao0{a0:Sl}{Q:Sl->AH->Prop}(q:Nat)(h:SL.wy ro I a0 (ws.map vI))(hl:ws.length<=1073741824)
  (hQ:∀ s tag' I',qd [q] ro tag I tag' I'->Row tag' I' q 3 s (ws.map vI)->Q s I'):ac5 B ro a0 I Q:=by
 refine aj4 fun hs=>?_
 unfold adh
 have hln:a0.len=ws.length:=by rw[h.1,mi]
 rw[hln]
 refine⟨⟨z7,z7,z7,z7⟩,?_⟩
 rw[mr]
 intro b hro hb
 have st1:∀ R,qd R ro tag I (setTag tag b q) (upd I b (.cells (aaG (.int .i64 0) (ws.length*1)) 3)):=fun R=>qd.fresh hs hro hb
 have r1:Row (setTag tag b q) (upd I b (.cells (aaG (.int .i64 0) (ws.length*1)) 3)) q 3 ⟨some ⟨b,0,none⟩,ws.length,ws.length⟩ (List.replicate ws.length (vI 0)):=by
  refine .inr ⟨b,_,rfl,by simp[setTag],qC _ _ _,z8,by rw[ak9];simp,mK _,fun i hi=>?_⟩
  simp at hi
  rw[amu _ rfl _ _ z7,Lv,mc hi]
 have h1:SL.wy ro _ a0 (ws.map vI):=h.step (st1 [])
 have:=aja (P:=prog) (ro:=ro) (t:=55) (t2:=55) (ty:=3) (m:=0) (l2:=ws.map vI) (Q:=fun v I=> ∃(x9_2:Int),v= .int .i64 x9_2/\Q ⟨some ⟨b,0,none⟩,ws.length,ws.length⟩ I) r1 (st1 []).sep y1 aqp (wy.src h1) z8 (by simp[qf]) (fun I2 st2 r2=>?_)
 .rw[pu]at this
  exact this
 .rw[Lr,nx]at r2
  exact⟨_,rfl,hQ _ (setTag tag b q) I2 ((st1 [q]).trans st2) r2⟩
abbrev av5:List Value:=[.int .i64 0,.string ByteArray.empty,.int .i64 0,.int .i64 0,.int .i64 0,.int .i64 0,.int .i64 0,.int .i64 0,Sl.v (⟨none,0,0⟩:Sl),.string ByteArray.empty,.bool false,.int .i64 0,Sl.v (⟨none,0,0⟩:Sl)]
theorem apC(c:zD)(os ms:Sl):∀ v∈aiz c os ms,qf v=true:=by simp[qf,Sl.v]
abbrev C17:List Nat:=[0,11,16,22,24,28]
structure atZ(ro:AH)(os ms:Sl)(c:zD):Prop where
 ops:aqc ro os c.ops
 mem:SL.wy ro (fun _=>none) ms (c.members.map vI)
theorem afJ{s:Sl}{ops:List MOp}(h:abC tag I q s ops)(k:qd R ro tag I tag' I')(hq:q∉R)(h6:6∉R):abC tag' I' q s ops:=by
 obtain⟨ds,h1,h2,h3⟩:=h
 exact⟨ds,h1,qm.keep h2 k hq,fun i o d ho hd=>(h3 i o d ho hd).keep k h6⟩
theorem ao1{os ms:Sl}{c:zD}{Q:Int->ByteArray->Int->Int->Int->Int->Int->Int->Sl->ByteArray->Bool->Int->Sl->AH->Prop}(h:atZ ro os ms c)(hl:c.ops.length<=2199023255488)(hml:c.members.length<=1048576)
  (hQ:∀ os' ms' tag' I',StepS C17 ro tag I tag' I'->agq tag' I' 24 28 os' ms' c->Q c.kind (S c.home) c.session c.req c.nonce c.lease c.beats c.ack os' (S c.path) c.watch c.epoch ms' I'):
  aeo B ro c.kind (S c.home) c.session c.req c.nonce c.lease c.beats c.ack os (S c.path) c.watch c.epoch ms I Q:=by
 refine alK fun hsep=>?_
 unfold aex
 refine qh (tag:=tag) 11 hsep fun X tag1 I1 st1 r1=>?_
 refine qh (tag:=tag1) 16 (st1 []).sep fun Y tag2 I2 st2 r2=>?_
 have x2:=r1.keep (st2 [])
 refine⟨os,(x2.read (st2 []).sep).2.2 _ rfl 8 _ rfl,?_⟩
 have hln:=h.ops.1
 suffices∀m j s tag3 I3,j+m=c.ops.length->StepS C17 ro tag I tag3 I3->Row tag3 I3 11 57 ⟨some ⟨X,0,none⟩,13,13⟩ (aiz c os ms)->Row tag3 I3 16 57 ⟨some ⟨Y,0,none⟩,13,13⟩ av5->abC tag3 I3 24 s (c.ops.take j)->lfpD (pV B ro X Y os Q) (s,(j:Int)) I3 from
  this _ 0 ⟨none,0,0⟩ tag2 I2 (ml _) (((st1 []).trans (st2 [])).s z8) x2 r2 ⟨[],rfl,qm.nil _ _ _,fun i o d h=>by cases h⟩
 intro m
 induction m with
 | zero=>
  intro j s tag3 I3 hj st3 x3 y3 h3
  refine lfpD.intro ?_
  unfold pV
  simp only
  rw[ma z7]
  unfold abE
  rw[mH z7]at h3
  refine⟨ms,(x3.read st3.sep).2.2 _ rfl 12 _ rfl,?_⟩
  refine ao0 (tag:=tag3) 28 h.mem.keep z7 fun ms' tag4 I4 st4 m4=>?_
  have x4:=x3.keep st4
  have y4:=y3.keep st4
  have o4:=afJ h3 st4 z8 z8
  refine x4.stAt [Sl.v s] 8 st4.sep z8 (by simp[qf,Sl.v]) fun I5 st5 x5=>?_
  refine x5.stAt [Sl.v ms'] 12 st5.sep z8 (by simp[qf,Sl.v]) fun I6 st6 x6=>?_
  have x7:Row tag4 I6 11 57 ⟨some ⟨X,0,none⟩,13,13⟩ (aiz c s ms'):=x6
  have k6:qd [11] ro tag4 I4 tag4 I6:=st5.trans st6
  refine⟨_,_,_,_,_,_,_,_,_,_,_,_,_,qr (x7.read st6.sep) rfl,?_⟩
  refine(y4.keep k6).stPre (aiz c s ms') 0 _ I6 st6.sep z8 (apC _ _ _) fun I7 st7 y7=>?_
  have y8:Row tag4 I7 16 57 ⟨some ⟨Y,0,none⟩,13,13⟩ (aiz c s ms'):=y7
  refine⟨_,_,_,_,_,_,_,_,_,_,_,_,_,qr (y8.read st7.sep) rfl,?_⟩
  exact hQ s ms' tag4 I7 (st3.trans ((st4.s z8).trans ((k6.s z8).trans (st7.s z8)))) ⟨afJ (afJ o4 k6 z8 z8) st7 z8 z8,(m4.keep k6).keep st7⟩
 | succ m ih=>
  intro j s tag3 I3 hj st3 x3 y3 h3
  have hjl:j<c.ops.length:=by omega
  obtain⟨q,ds,hq,hc,hrd,hdl⟩:=(h.ops.m I3).2 j c.ops[j] (md hjl)
  refine lfpD.intro ?_
  unfold pV
  simp only
  rw[mc z7]
  refine⟨q,hq,z7,z7,c.ops[j].kind,S c.ops[j].path,ds,c.ops[j].ver,c.ops[j].eph,c.ops[j].seq,by rw[mr];exact hc,?_⟩
  refine kq (tag:=tag3) 22 st3.sep rfl (by simp[qf,Sl.v]) fun x tag4 I4 st4 r4=>?_
  refine⟨ds,(r4.read (st4 []).sep).2.2 _ rfl 2 _ rfl,?_⟩
  refine asO (tag:=tag4) 6 hrd.keep (st4 []).sep j0 (by simp[qf]) fun s' tag5 I5 st5 r5=>?_
  refine(r4.keep (st5 [])).st (i:=2) (st5 []).sep rfl z8 rfl fun I6 st6 r6=>?_
  refine⟨c.ops[j].kind,S c.ops[j].path,s',c.ops[j].ver,c.ops[j].eph,c.ops[j].seq,Row.cellsAt r6 st6.sep,?_⟩
  refine qh (tag:=tag5) 0 st6.sep fun y tag7 I7 st7 r7=>?_
  have k37:qd [22] ro tag3 I3 tag7 I7:=((st4 _).trans (st5 _)).trans (st6.trans (st7 _))
  obtain⟨dd,d1,d2,d3⟩:=afJ h3 k37 z8 z8
  have hlz:(List.zipWith opV (c.ops.take j) dd).length=j:=by rw[List.length_zipWith,d1,Nat.min_self,Lg];omega
  refine xZ (l2:=[opV c.ops[j] s']) d2 (st7 []).sep (Row.readW1 r7 (st7 []).sep rfl y0) (t:=54) y1 aen rfl (by simp[opV,qf,Sl.v]) (by rw[hlz];simp;omega) y0 fun sn tag8 I8 st8 r8=>?_
  have st8':=st8 [24] (.inr z8)
  refine⟨sn,rfl,?_⟩
  rw[Pa.inc j z7]
  refine ih (j+1) sn tag8 I8 z7 (st3.trans ((k37.s z8).trans (st8'.s z8))) ((x3.keep k37).keep st8') ((y3.keep k37).keep st8') ?_
  have etk:c.ops.take (j+1)=c.ops.take j++[c.ops[j]]:=by rw[mN,md hjl];try rfl
  rw[etk]
  refine⟨dd++[s'],by rw[mW,mW,d1];try rfl,?_,fun i o d ho hd=>?_⟩
  .rw[List.zipWith_append d1.symm];exact r8
  .rcases mL i (c.ops.take j).length with h | h
   .rw[mM h]at ho
    rw[mM z7]at hd
    exact(d3 i o d ho hd).keep st8'
   .rw[mQ h]at ho
    rw[mQ z7,d1]at hd
    cases hz:i - (c.ops.take j).length with
    | zero=>
     rw[hz]at ho hd
     cases ho;cases hd
     exact(((r5.keep st6).keep (st7 [])).keep st8').held
    | succ k=>rw[hz]at ho;cases ho
theorem abD.keepS(h:abD tag I W s)(k:StepS C ro tag I tag' I')(hC:∀ x∈DSt,x∉C:=by decide):abD tag' I' W s:=by
 obtain⟨T,Tt,Th,ms,h⟩:=h.in
 exact(h.keepS k hC).at
abbrev CTr:List Nat:=[0,1,12,30,31]
theorem atB{b:Nat}{Q:Option Addr->AH->Prop}(g:wW ro)(h:abD tag I W s)(i:vq b s)(hb:b<=33554432)
  (hQ:∀ U tag' I',StepS CTr ro tag I tag' I'->qV tag' I' 12 U (srt s.tree)->Q (some ⟨U,0,none⟩) I'):abK B ro (some ⟨W,0,none⟩) I Q:=by
 obtain⟨T,Tt,Th,ms,h⟩:=h.in
 refine aiR fun hs=>?_
 unfold ab0
 refine⟨_,rfl,some ⟨T,0,none⟩,(h.own.read hs).2.2 _ rfl 2 _ rfl,?_⟩
 obtain⟨M,bs,hA⟩:=h.tree
 have hlen:=i.tree.len
 refine amK y0 y0 y0 y0 y0 hA i.tree.inv.small z7 fun se tag1 I1 st1 r1=>?_
 have hel:=anY i.tree z7
 have hdec:=anU (i.tree.inv3 z7) z7
 refine amL (tag:=tag1) (r:=12) g y0 y0 y0 y0 (r1.read st1.sep) z7 (fun hn=>by rw[hdec]at hn;cases hn) fun st' hst' U tag2 I2 st2 h2=>?_
 rw[hdec]at hst'
 obtain rfl:=mA hst'
 exact hQ U tag2 I2 ((st1.s z8).trans (st2.mono y0)) h2
theorem atC:vq 0 (Sto.new [0]):=⟨asG,⟨by simp[Sto.new],(fun p h=>by cases h),by simp[Sto.new]⟩,⟨by simp[Sto.new],(fun p h=>by cases h),by simp[Sto.new]⟩,⟨by simp[Sto.new],by simp[Sto.new]⟩,by simp[Sto.new]⟩
theorem akR{k:Str}{n:Nd}(h:St.new.lookup k=some n):k=[47]/\n=⟨0,0,0,0,[]⟩:=by
 unfold St.new at h
 rw[mY]at h
 by_cases c:k=[47]
 .subst c;simp at h;exact⟨rfl,h.symm⟩
 .have:(k == [47])=false:=by simpa using c
  rw[this]at h;cases h
theorem aqN:yl 0 (Sto.new [0]):=by
 refine⟨avm,(fun p h=>by cases h),fun k n x hn hp=>?_,fun n hn=>?_⟩
 .obtain⟨_,rfl⟩:=akR hn;rfl
 .obtain⟨_,rfl⟩:=akR hn;simp
structure aos(ro:AH)(y:zD×Sl×Sl):Prop where
 r:atZ ro y.2.1 y.2.2 y.1
 small:ajG y.1
 ops:y.1.ops.length<=1048576
 mem:y.1.members.length<=1048576
abbrev aqO(y:zD×Sl×Sl):List Value:=aiz y.1 y.2.1 y.2.2
end Zt
namespace SL
open Go
def zJ(n:Nat)(P:Program)(W:World)(H:Type)(enc:TypeId×Value->H)(t:TypeId)(cs:List Value):Prop:= ∃fuel d ps,DataW.trod enc P W 0 (fun _=>true) true fuel t cs=some (d,ps)/\(d.weights P t).all (· <=reachBytes)=true/\Rows.uptoBulk d<=n
variable{n:Nat}{P:Program}{W:World}{H:Type}{enc:TypeId×Value->H}
theorem zJ.arg{t:TypeId}{cs:List Value}(h:zJ n P W H enc t cs):Arg P W H enc t cs:=by
 obtain⟨f,d,ps,h1,h2,_⟩:=h
 exact⟨f,d,ps,h1,h2⟩
theorem zJ.slice{t e:TypeId}{a:Option Addr}{len cap:Nat}(ht:P.underlying t=some (.slice e))(h:zJ n P W H enc t [.slice a len cap]):
  (a=none/\len=0/\cap=0)\/∃ x,a=some x/\len<=cap/\len<=n/\∀ j,j<len->∃ cs,cs.length=P.cellsOf e/\(∀i,i<P.cellsOf e->W.cell? ((x.add (j*P.cellsOf e)).add i)=cs[i]?)/\zJ n P W H enc e cs:=by
 obtain⟨fuel,d,ps,hf,hw,hb⟩:=h
 rcases Go.Deep.open_slice ht hf with⟨hcs,_⟩ | ⟨x,l,c,m,k,D,Pl,hcs,_,hl,_,hm,hx,hel⟩
 .simp at hcs;exact .inl hcs
 .simp at hcs
  obtain⟨rfl,rfl,rfl⟩:=hcs
  simp only[Prod.mk.injEq]at hx
  rw[hx.1]at hw hb
  rw[DataW.weights,ht]at hw
  simp only[Rows.uptoBulk]at hb
  simp only[List.all_cons,List.all_append,mw,mP,mi,List.length_range]at hw
  refine .inr ⟨x,rfl,hl,?_,fun j hj=>?_⟩
  .have:=aot ((List.range len).map D)
   simp at this
   omega
  .obtain⟨cs,h1,h2⟩:=hel j (by simp at hm;omega)
   obtain⟨_,h3,h4⟩:=World.cells?_some h1
   have:=agU (l:=(List.range len).map D) (i:=j) (d:=D j) (by rw[mg,List.getElem?_range hj];try rfl)
   exact⟨cs,h3,h4,k,D j,Pl j,h2,alO (mC.2 ⟨j,List.mem_range.2 hj,rfl⟩) hw.2.1,z7⟩
theorem zJ.struct{t:TypeId}{fs:Array Field}{cs:List Value}(ht:P.underlying t=some (.struct fs))(h:zJ n P W H enc t cs):
  cs.length=P.cellsOf t/\∀ (i:Nat) (f:Field),fs.toList[i]?=some f->zJ n P W H enc f.type ((cs.drop f.offset).take (P.cellsOf f.type)):=by
 obtain⟨fuel,d,ps,hf,hw,hb⟩:=h
 cases fuel with
 | zero=>cases hf
 | succ m=>
  unfold DataW.trod at hf
  rw[ht]at hf
  simp only at hf
  split at hf
  .rename_i hl
   refine⟨hl,fun i f hi=>?_⟩
   obtain⟨r,hr,hd⟩:=nj.1 hf
   have h1:=mapM_some_get hr i f hi
   have h2:=mapM_some_length hr
   have hil:i<fs.toList.length:=by
    rcases mL i fs.toList.length with h' | h'
    .exact h'
    .rw[mI h']at hi;cases hi
   rw[md z7]at h1
   simp only[Prod.mk.injEq]at hd
   rw[<-hd.1]at hb
   simp only[Rows.uptoBulk]at hb
   rw[<-hd.1,DataW.weights,ht]at hw
   have:=agU (l:=r.map (·.1)) (i:=i) (d:=r[i].1) (by rw[mg,md z7];try rfl)
   refine⟨m,r[i].1,r[i].2,h1,agB (ts:=fs.toList.map (·.type)) (i:=i) (by rw[mg,hi];try rfl) (by rw[mg,md z7];try rfl) hw,z7⟩
  .cases hf
theorem zJ.field{t t':TypeId}{o:Nat}{L:List (TypeId×Nat)}{cs:List Value}(hu:∃ fs,P.underlying t=some (.struct fs)/\fs.toList.map (fun f:Field=>(f.type,f.offset))=L)(h:zJ n P W H enc t cs)(i:Nat)(hi:L[i]?=some (t',o)):zJ n P W H enc t' ((cs.drop o).take (P.cellsOf t')):=by
 obtain⟨fs,hu,hfs⟩:=hu
 rw[<-hfs,mg]at hi
 obtain⟨f,hf,e⟩:=nj.1 hi
 have:=(h.struct hu).2 i f hf
 simp only[Prod.mk.injEq]at e
 rwa [e.1,e.2]at this
theorem zJ.i64{t:TypeId}{u:Value}(ht:P.underlying t=some (.int .i64))(h:zJ n P W H enc t [u]):∃ x:Int,u= .int .i64 x/\ -9223372036854775808<=x:=by
 obtain⟨fuel,d,ps,hf,_⟩:=h
 obtain⟨x,h,h2,_⟩:=asf ht hf
 exact⟨x,h,h2⟩
theorem zJ.text{t:TypeId}{u:Value}(ht:P.underlying t=some .string)(h:zJ n P W H enc t [u]):∃ s:ByteArray,u= .string s/\s.size<=n:=by
 obtain⟨s,rfl,_⟩:=Arg.str ht h.arg
 refine⟨s,rfl,?_⟩
 obtain⟨fuel,d,ps,hf,_,hb⟩:=h
 cases fuel with
 | zero=>cases hf
 | succ m=>
  unfold DataW.trod at hf
  rw[ht]at hf
  simp at hf
  obtain⟨_,rfl,_⟩:=hf
  simp only[Rows.uptoBulk]at hb
  simp at hb
  omega
theorem zJ.isSlice{t e:TypeId}{v:Value}(ht:P.underlying t=some (.slice e))(h:zJ n P W H enc t [v]):∃ s:Sl,v=Sl.v s:=by
 obtain⟨fuel,d,ps,hf,_⟩:=h
 rcases Go.Deep.open_slice ht hf with⟨e,_⟩ | ⟨x,l,c,_,_,_,_,e,_⟩
 .simp at e;exact⟨⟨none,0,0⟩,e⟩
 .simp at e;exact⟨⟨some x,l,c⟩,e⟩
theorem zJ.rows{α:Type}[Inhabited α]{t e:TypeId}{w:Nat}{s:Sl}{V:α->List Value}{G:α->Prop}(ht:P.underlying t=some (.slice e))(hw:P.cellsOf e=w)(hV:∀ y,(V y).length=w)(hd:∀ cs,zJ n P W H enc e cs->cs.length=w->∃ y,cs=V y/\G y)(h:zJ n P W H enc t [Sl.v s]):
  ∃l:List α,l.length<=n/\jF (all W) (fun _=>none) w s (l.map V)/\(∀y∈l,G y)/\s.len<=s.cap:=by
 obtain⟨a,len,cap⟩:=s
 rcases zJ.slice ht h with⟨rfl,rfl,rfl⟩ | ⟨x,rfl,hl,hb,hel⟩
 .exact⟨[],z8,⟨rfl,fun _=>rfl,(fun _ h=>by cases h),fun p h=>by cases h⟩,(fun _ h=>by cases h),mK _⟩
 .rw[hw]at hel
  have key:∀ j:Nat,∃y:α,j<len->(∀i,i<w->W.cell? ((x.add (j*w)).add i)=(V y)[i]?)/\G y:=fun j=>by
   by_cases hj:j<len
   .obtain⟨cs,h1,h2,h3⟩:=hel j hj
    obtain⟨y,rfl,hy⟩:=hd cs h3 h1
    exact⟨y,fun _=>⟨h2,hy⟩⟩
   .exact⟨default,fun h=>mu h hj⟩
  obtain⟨f,hf⟩:=Classical.axiomOfChoice key
  have hlen:((List.range len).map f).length=len:=by simp
  refine⟨(List.range len).map f,by rw[hlen];exact hb,⟨z8,(fun h=>by cases h),?_,fun p hp i v hv=>?_⟩,fun y hy=>?_,hl⟩
  .intro z hz
   obtain⟨y,_,rfl⟩:=mC.1 hz
   exact hV y
  .cases hp
   have hwid:∀ z∈((List.range len).map f).map V,z.length=w:=fun z hz=>by
    obtain⟨y,_,rfl⟩:=mC.1 hz
    exact hV y
   have hfl:=uR hwid
   rw[mi,hlen]at hfl
   have hi:i<len*w:=by
    rcases mL i (len*w)with h | h
    .exact h
    .rw[mI z7]at hv;cases hv
   have hw0:0<w:=by
    rcases nc w with h | h
    .rw[h]at hi;simp at hi
    .exact h
   have hdm:=Nat.div_add_mod i w
   have hj:i / w<len:=Nat.div_lt_of_lt_mul (by rw[Lu];exact hi)
   have hm:=LJ i hw0
   have he:(((List.range len).map f).map V)[i / w]?=some (V (f (i / w))):=by
    rw[mg,mg,List.getElem?_range hj];try rfl
   have hg:=akz hwid he hm
   rw[Lu]at hdm
   rw[hdm,hv]at hg
   have:=(hf _ hj).1 _ hm
   rw[aeu,hdm,<-hg]at this
   exact asd _ this
  .obtain⟨j,hj,rfl⟩:=mC.1 hy
   exact(hf j (List.mem_range.1 hj)).2
theorem atD{α:Type}(f:α->Value)(l:List α):(l.map fun y=>[f y]).flatten=l.map f:=by
 induction l with
 | nil=>rfl
 | cons a l ih=>rw[mF,LB,ih];try rfl
theorem jF.one{s:Sl}{α:Type}{f:α->Value}{l:List α}{ro I:AH}(h:jF ro I 1 s (l.map fun y=>[f y])):wy ro I s (l.map f):=by
 refine⟨by rw[h.1];simp,fun hn=>?_,fun p hp i v hv=>h.2.2.2 p hp i v (by rw[atD];exact hv)⟩
 have:=h.2.1 hn
 simpa using this