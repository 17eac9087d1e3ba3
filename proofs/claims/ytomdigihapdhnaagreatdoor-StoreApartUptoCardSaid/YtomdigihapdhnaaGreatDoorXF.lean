import Derived.Test.YtomdigihapdhnaaGreatDoorXE
set_option linter.all false
set_option maxRecDepth 99999
set_option maxHeartbeats 0
open Go.IntKind(i64)
open Go.Proofs.Tryz
namespace Go.Proofs.YtomdigihapdhnaaGreatDoor
namespace SL
open Go
variable{P:Program}{B:ZB}{ro I I':AH}{tag tag':Nat->Nat}
variable{I'' τ:AH}{a p:Addr}{m:KV}{C R:List Nat}{l:List Value}{b c i n r:Nat}{tag'' tag1:Nat->Nat}{o:Obj}{e t ty:TypeId}{Q:ZC->AH->Prop}
def ap6{s:Sl}(ht:P.underlying t=some (.slice e))(h:Q (.int .i64 (s.cap:Int)) I):awp P ro (Builtin.cap_ #[t] ty #[Sl.v s]) Q I:=by
 have g0:(#[t]:Array TypeId)[0]?=some t:=rfl
 have g1:(#[Value.slice s.a s.len s.cap]:Array Value)[0]?=some (Value.slice s.a s.len s.cap):=rfl
 unfold Builtin.cap_
 simp only[Sl.v,qy,qS,g0,g1]
 rw[qx ht]
 exact h
structure Src(P:Program)(ro I:AH)(x:ZC)(l:List Value):Prop where
 len:∀ {β:Type} (f:Nat->Sem β) (Q:β->AH->Prop),awp P ro (f l.length) Q I->awp P ro (Sem.bind (Builtin.lenOf x) f) Q I
 cells:∀ {β:Type} (f:Array Value->Sem β) (Q:β->AH->Prop),awp P ro (f l.toArray) Q I->awp P ro (Sem.bind (Builtin.firstCells 1 l.length x) f) Q I
def qJ.src{s:Sl}(h:qJ ro I s l):Src P ro I (Sl.v s) l:=by
 refine⟨fun f Q hf=>?_,fun f Q hf=>?_⟩
 .rw[<-h.1]at hf;exact hf
 .unfold Sl.v
  cases hsa:s.a with
  | none=>
   rw[h.2.1 hsa]at hf⊢
   exact hf
  | some p=>
   rw[show Sem.bind (Builtin.firstCells 1 l.length (.slice (some p) s.len s.cap)) f=(loadCells p (l.length*1)) >>= f from rfl,vL,mV]
   exact jI l 0 #[] (zx 0 fun j v hj=>by rw[ml];exact h.2.2 p hsa j v hj) (j4 hf)
def ap7(b:ZA):Src P ro I (.string b) ((L b).map fun c=> .int .u8 c.toNat):=by
 refine⟨fun f Q hf=>?_,fun f Q hf=>?_⟩
 .rw[mg,kF]at hf;exact hf
 .rw[mg,kF]
  show awp P ro (f ((b.extract 0 b.size).data.map fun c=> .int .u8 c.toNat)) Q I
  rw[show b.extract 0 b.size=b from by rw[awJ,mD (by rw[kF];exact mR _)];exact S_L b]
  have e:((L b).map fun c=>Value.int .u8 c.toNat).toArray=b.data.map fun c=> .int .u8 c.toNat:=by unfold L;rw[<-Array.toList_map]
  rw[<-e];exact hf
def ajF{r t2:TypeId}{s:Sl}{l2:List Value}{m bytes:Nat}{x zv:ZC}(h:Row tag I r e s l)(hs:Sep ro I)(ht:P.underlying t=some (.slice e))(hz:qp P e zv 1 bytes)
  (hx:Src P ro I x l2) (hm:m+l2.length=l.length) (hv:∀ v∈l2,qg v=true) (hQ:∀ I',qd [r] ro tag I tag I'->Row tag I' r e s (l.take m++l2)->Q (.int .i64 (l2.length:Int)) I'):
  awp P ro (Builtin.copy_ #[t,t2] ty #[Sl.v (⟨wv s.a m s.cap 1,s.len - m,s.cap - m⟩:Sl),x]) Q I:=by
 have g0:(#[t,t2]:Array TypeId)[0]?=some t:=rfl
 have g1:(#[Value.slice (wv s.a m s.cap 1) (s.len - m) (s.cap - m),x]:Array Value)[0]?=some (Value.slice (wv s.a m s.cap 1) (s.len - m) (s.cap - m)):=rfl
 have g2:(#[Value.slice (wv s.a m s.cap 1) (s.len - m) (s.cap - m),x]:Array Value)[1]?=some x:=rfl
 have hl:=h.len
 unfold Builtin.copy_
 simp only[Sl.v,qy,qS,g0,g1,g2]
 rw[qx ht]
 simp only[]
 refine hx.len _ _ ?_
 rw[aeH hz]
 rw[show Nat.min l2.length (s.len - m)=l2.length from Nat.min_eq_left z7]
 refine hx.cells _ _ ?_
 have done:l2=[]->Q (.int .i64 (l2.length:Int)) I:=fun e0=>hQ I (qd.refl hs) (by
  rw[e0,nk,mD (by rw[e0]at hm;simp at hm;omega)];exact h)
 rcases h with⟨rfl,rfl⟩ | ⟨b,cs,ha,htg,hbk,hln,hcp,hle,hg⟩
 .have h0:l2=[]:=nb (by simp only[nH]at hm;omega)
  rw[show wv none m 0 1=none from by unfold wv;split<;>rfl]
  exact done h0
 .by_cases h0:l2=[]
  .unfold wv
   have:=done h0
   subst h0
   split
   .exact this
   .exact this
  .have hpos:=nI.2 h0
   unfold wv
   rw[ma z7,ha]
   simp only[Option.map_some,mV,vq,ml]
   show awp P ro (storeCells ⟨b,m,none⟩ l2 >>= fun _=>Sem.pure (goInt l2.length)) Q I
   rw[vL]
   refine jY l2 0 I (age l2 cs 0 I hbk z7 hv fun cs' c1 c2 c3=>?_)
   refine hQ _ (kJ hs htg hbk) (.inr ⟨b,cs',ha,htg,qE _ _ _,j2,by rw[c1];exact hcp,hle,fun i hi=>?_⟩)
   simp at hi
   rcases mM i m with hh | hh
   .rw[c2 i z7,mQ j2,Lj,mc hh];exact hg i z7
   .have e1:(l.take m).length=m:=by simp;omega
    rw[mU z7,e1]
    have:=c3 (i - m) _ (md z7)
    rw[md z7,<-this]
    congr 1;omega
def Row.more{s:Sl}(h:Row tag I r e s l)(hn:l.length+n<=s.cap):∃ xs:List Value,xs.length=n/\Row tag I r e ⟨s.a,l.length+n,s.cap⟩ (l++xs):=by
 rcases h with⟨rfl,rfl⟩ | ⟨b,cs,ha,htg,hbk,hln,hcp,hle,hg⟩
 .have:n=0:=by simpa using hn
  subst this
  exact⟨[],rfl,.inl ⟨rfl,rfl⟩⟩
 .refine⟨(cs.toList.drop l.length).take n,j2,.inr ⟨b,cs,ha,htg,hbk,j2,hcp,hn,fun i hi=>?_⟩⟩
  rcases mM i l.length with h1 | h1
  .rw[mQ h1];exact hg i h1
  .simp at hi
   rw[mU h1,Lj,mc z7,List.getElem?_drop]
   simp only[Array.getElem?_toList]
   congr 1;omega
def Row.capAt{s:Sl}(h:Row tag I r e s l):l.length<=s.cap:=by
 rcases h with⟨rfl,rfl⟩ | ⟨b,cs,ha,htg,hbk,hln,hcp,hle,hg⟩
 .simp
 .omega
def pI(a:ZO)(c s:Nat):wv a 0 c s=a:=by
 unfold wv;split
 .rfl
 .cases a<;>simp[Pk,ak7]
def StepS(C:List Nat)(ro:AH)(tag:Nat->Nat)(I:AH)(tag':Nat->Nat)(I':AH):Prop:= ∃R:List Nat,(∀x∈R,x%64∈C)/\qd R ro tag I tag' I'
def qd.s(h:qd R ro tag I tag' I')(hR:∀ x∈R,x%64∈C):StepS C ro tag I tag' I':=⟨R,hR,h⟩
def zK.s(h:zK c ro tag I tag' I')(hc:c∈C):StepS C ro tag I tag' I':=by
 obtain⟨R,h1,h2⟩:=h
 exact⟨R,fun x hx=>by rw[h1 x hx];exact hc,h2⟩
def StepS.sep(h:StepS C ro tag I tag' I'):Sep ro I':=by obtain⟨_,_,h⟩:=h;exact h.sep
def StepS.refl(h:Sep ro I):StepS C ro tag I tag I:=⟨[],y0,qd.refl h⟩
def StepS.trans(h:StepS C ro tag I tag' I')(k:StepS C ro tag' I' tag'' I''):StepS C ro tag I tag'' I'':=by
 obtain⟨R,h1,h2⟩:=h
 obtain⟨R',k1,k2⟩:=k
 refine⟨R++R',fun x hx=>?_,(h2.mono fun r hr=>by simp[hr]).trans (k2.mono fun r hr=>by simp[hr])⟩
 rcases mv.1 hx with h | h
 .exact h1 x h
 .exact k1 x h
def StepS.mono{D:List Nat}(h:StepS C ro tag I tag' I')(hd:∀ c∈C,c∈D):StepS D ro tag I tag' I':=by
 obtain⟨R,h1,h2⟩:=h
 exact⟨R,fun x hx=>hd _ (h1 x hx),h2⟩
def Row.keepS{s:Sl}(h:Row tag I r e s l)(k:StepS C ro tag I tag' I')(hr:r%64∉C:=by decide):Row tag' I' r e s l:=by
 obtain⟨R,h1,h2⟩:=k
 exact h.keep h2 fun m=>hr (h1 _ m)
def StepS.back(h:StepS C (join ro (one I b)) tag (del I b) tag' τ)(hs:Sep ro I)(hd:qL (one I b) τ)(hb:∃ o,I b=some o):StepS C ro tag I (setTag tag' b (tag b)) (join (one I b) τ):=by
 obtain⟨R,h1,h2⟩:=h
 exact⟨R,h1,h2.back hs hd hb⟩
def inR(tag:Nat->Nat)(L:List Nat)(I:AH):AH:=fun c=>if tag c∈L then I c else none
def zE(tag:Nat->Nat)(L:List Nat)(I:AH):AH:=fun c=>if tag c∈L then none else I c
def tagB(tag tag1:Nat->Nat)(L:List Nat)(I:AH):Nat->Nat:=fun c=>if(inR tag L I c).isSome then tag c else tag1 c
variable{L:List Nat}
def yl(tag:Nat->Nat)(L:List Nat){K:AH->AH->Prop}(h:K (inR tag L I) (zE tag L I)):jX I K:=by
 refine⟨_,_,fun c o hc=>?_,?_,h⟩
 .unfold inR at hc;unfold zE
  split at hc
  .rename_i e;rw[mc e]
  .cases hc
 .funext c;unfold join inR zE
  by_cases e:tag c∈L
  .simp only[e,if_true];cases I c<;>rfl
  .simp[e]
def atu(b:Nat)(hs:Sep ro I):rd (join ro (inR tag L I)) (zE tag L I) b=rd ro I b:=by
 unfold rd join inR zE
 cases h:ro b with
 | some o=>rfl
 | none=>
  simp only
  by_cases e:tag b∈L
  .simp only[e,if_true];cases I b<;>rfl
  .simp[e]
def Sep.lentR(hs:Sep ro I):Sep (join ro (inR tag L I)) (zE tag L I):=by
 intro c o hc
 unfold zE at hc
 split at hc
 .cases hc
 .rename_i e
  unfold join inR
  rw[hs c o hc];simp[e]
def Row.outR{s:Sl}(h:Row tag I r e s l)(hr:r∉L):Row tag (SL.zE tag L I) r e s l:=by
 rcases h with h | ⟨c,cs,ha,ht,hs,hx⟩
 .exact .inl h
 .refine .inr ⟨c,cs,ha,ht,?_,hx⟩
  unfold SL.zE;rw[ma (by rw[ht];exact hr)];exact hs
def zW.outR(h:zW tag I r b m)(hr:r∉L):zW tag (SL.zE tag L I) r b m:=by
 obtain⟨es,clock,hb,x⟩:=h.obj
 exact⟨h.tg,es,clock,by unfold SL.zE;rw[ma (by rw[h.tg];exact hr)];exact hb,x⟩
def akT(hs:Sep ro I):qa (join ro (inR tag L I)) (zE tag L I) a=qa ro I a:=by
 unfold qa;rw[atu _ hs]
def Row.lendR{s:Sl}{v:ZC}(h:Row tag I r e s l)(hs:Sep ro I)(hr:r∈L)(hp:s.a=some p)(hv:l[i]?=some v):qa (join ro (inR tag L I)) τ (p.add i)=some v:=by
 rcases h with⟨e,_⟩ | ⟨c,cs,ha,ht,hb,hln,hc,hle,hg⟩
 .rw[e]at hp;cases hp
 .rw[ha]at hp;cases hp
  have hi:i<l.length:=by
   rcases mM i l.length with h | h
   .exact h
   .rw[mG h]at hv;cases hv
  rw[vq,ml]
  have:join ro (inR tag L I) c=some (.cells cs e):=by unfold join inR;rw[hs c _ hb];simp[ht,hr,hb]
  unfold qa rd
  simp only[this,zF]
  rw[<-hv,<-hg i hi];try rfl
def qJ.lentR{s:Sl}(h:qJ ro I s l)(hs:Sep ro I):qJ (join ro (inR tag L I)) (SL.zE tag L I) s l:=
 ⟨h.1,h.2.1,fun p hp i v hv=>by rw[akT hs];exact h.2.2 p hp i v hv⟩
def aoJ(h:inR tag L I c=some o):tag c∈L/\I c=some o:=by
 unfold inR at h
 split at h
 .exact⟨by assumption,h⟩
 .cases h
def aeN(h:inR tag L I c=none):tagB tag tag1 L I c=tag1 c:=by unfold tagB;rw[h];try rfl
def amL(h:inR tag L I c=some o):tagB tag tag1 L I c=tag c:=by unfold tagB;rw[h];try rfl
def Row.backR{s:Sl}(h:Row tag1 τ r e s l)(hd:qL (inR tag L I) τ):Row (tagB tag tag1 L I) (join (inR tag L I) τ) r e s l:=by
 rcases h with h | ⟨c,cs,ha,ht,hs,hx⟩
 .exact .inl h
 .have hn:inR tag L I c=none:=by
   cases e:inR tag L I c with
   | none=>rfl
   | some o=>have:=hd c o e;rw[hs]at this;cases this
  exact .inr ⟨c,cs,ha,by rw[aeN hn];exact ht,by unfold join;rw[hn];exact hs,hx⟩
def zW.backR(h:zW tag1 τ r b m)(hd:qL (inR tag L I) τ):zW (tagB tag tag1 L I) (join (inR tag L I) τ) r b m:=by
 obtain⟨es,clock,hb,x⟩:=h.obj
 have hn:inR tag L I b=none:=by
  cases e:inR tag L I b with
  | none=>rfl
  | some o=>have:=hd b o e;rw[hb]at this;cases this
 exact⟨by rw[aeN hn];exact h.tg,es,clock,by unfold join;rw[hn];exact hb,x⟩
def qd.backR(h:qd R (join ro (inR tag L I)) tag (zE tag L I) tag1 τ)(hs:Sep ro I)(hd:qL (inR tag L I) τ):qd R ro tag I (tagB tag tag1 L I) (join (inR tag L I) τ):=by
 have split':∀ c o,I c=some o->inR tag L I c=some o\/(inR tag L I c=none/\zE tag L I c=some o):=fun c o hc=>by
  unfold inR zE
  by_cases e:tag c∈L
  .left;rw[mc e];exact hc
  .right;rw[ma e,ma e];exact⟨rfl,hc⟩
 refine⟨fun c o hc hn=>?_,fun c o hc=>?_,fun c o hc=>?_⟩
 .rcases split' c o hc with h1 | ⟨h1,h2⟩
  .exact⟨amL h1,by unfold join;rw[h1]⟩
  .obtain⟨t1,t2⟩:=h.keep c o h2 hn
   exact⟨by rw[aeN h1];exact t1,by unfold join;rw[h1];exact t2⟩
 .rcases split' c o hc with h1 | ⟨h1,h2⟩
  .exact⟨amL h1,o,by unfold join;rw[h1]⟩
  .obtain⟨t1,o',t2⟩:=h.old c o h2
   exact⟨by rw[aeN h1];exact t1,o',by unfold join;rw[h1];exact t2⟩
 .rcases abV hc with h1 | ⟨h1,h2⟩
  .exact hs c o (aoJ h1).2
  .exact(uD (h.sep c o h2)).1
def StepS.backR(h:StepS C (join ro (inR tag L I)) tag (zE tag L I) tag1 τ)(hs:Sep ro I)(hd:qL (inR tag L I) τ):StepS C ro tag I (tagB tag tag1 L I) (join (inR tag L I) τ):=by
 obtain⟨R,h1,h2⟩:=h
 exact⟨R,h1,h2.backR hs hd⟩
end SL
namespace SL
open Go
variable{P:Program}{B:ZB}{ro I I':AH}{tag tag':Nat->Nat}{κ:Type}[DecidableEq κ]{enc:κ->ZC}
variable{C L R:List Nat}{M b bt n r:Nat}{et kt t ty:TypeId}{v zv:ZC}{K:ZC->AH->Prop}
section
variable{α:Type}
def wR:List (κ×α)->κ->α->List (κ×α)
 | [],k,v=>[(k,v)]
 | (k',v')::r,k,v=>if k=k' then(k,v)::r else(k',v')::wR r k v
def jt:List (κ×α)->κ->List (κ×α)
 | [],_=>[]
 | (k',v')::r,k=>if k=k' then r else(k',v')::jt r k
def qj:List (κ×α)->κ->Option α
 | [],_=>none
 | (k',v')::r,k=>if k=k' then some v' else qj r k
end
def ae5(enc:κ->ZC)(p:κ×ZC):ZC×ZC:=(enc p.1,p.2)
def adm(k:κ):List (κ×ZC)->Nat->Option (Nat×ZC)
 | [],_=>none
 | p::m,i=>if k=p.1 then some (i,p.2)else adm k m (i+1)
structure alc(P:Program)(kt:TypeId)(enc:κ->ZC):Prop where
 check:∀ {ro I:AH} {β:Type} {em:Bool} {k:κ} {f:Unit->Sem β} {K:β->AH->Prop},awp P ro (f ()) K I->awp P ro (Sem.bind (Instr.checkKey em 10000 kt (enc k)) f) K I
 find:∀ {ro I:AH} {β:Type} {k:κ} {l:List MapEntry} {m:List (κ×ZC)} {f:Option (Nat×ZC)->Sem β} {K:β->AH->Prop},l.map aae=m.map (ae5 enc)->awp P ro (f (adm k m 0)) K I->awp P ro (Sem.bind (Instr.findKey kt (enc k) l) f) K I
 stays:∀ k,Instr.keyThatStays (enc k) (enc k)=Sem.pure (enc k)
structure vm(enc:κ->ZC)(tag:Nat->Nat)(I:AH)(r b:Nat)(m:List (κ×ZC)):Prop where
 tg:tag b=r
 obj:∃ es clock,I b=some (.map es clock)/\es.toList.map aae=m.map (ae5 enc)/\amE es clock
def vm.keep{m:List (κ×ZC)}(h:vm enc tag I r b m)(k:qd R ro tag I tag' I')(hr:r∉R:=by simp):vm enc tag' I' r b m:=by
 obtain⟨es,c,hb,hx⟩:=h.obj
 obtain⟨t,e⟩:=k.keep b _ hb (by rw[h.tg];exact hr)
 exact⟨t.trans h.tg,es,c,e,hx⟩
def vm.keepS{m:List (κ×ZC)}(h:vm enc tag I r b m)(k:StepS C ro tag I tag' I')(hr:r%64∉C:=by decide):vm enc tag' I' r b m:=by
 obtain⟨R,h1,h2⟩:=k
 exact h.keep h2 fun m=>hr (h1 _ m)
def aiv(k:κ):∀ (m:List (κ×ZC)) (i:Nat),
  (qj m k=none/\jt m k=m/\(∀v,wR m k v=m++[(k,v)])/\adm k m i=none)\/
  ∃j v,j<m.length/\qj m k=some v/\adm k m i=some (i+j,v)/\m[j]?=some (k,v)/\(∀v',wR m k v'=m.set j (k,v'))/\jt m k=m.eraseIdx j:=by
 intro m
 induction m with
 | nil=>intro i;exact .inl ⟨rfl,rfl,fun _=>rfl,rfl⟩
 | cons p m ih=>
  intro i
  obtain⟨pk,pv⟩:=p
  by_cases c:k=pk
  .subst c
   exact .inr ⟨0,pv,y0,by simp[qj],by simp[adm],rfl,fun v'=>by simp[wR],by simp[jt]⟩
  .rcases ih (i+1)with⟨a,b,d,f⟩ | ⟨j,v,hj,a,f,g,q,w⟩
   .exact .inl ⟨by simp[qj,c,a],by simp[jt,c,b],fun v=>by simp[wR,c,d],by simp[adm,c,f]⟩
   .exact .inr ⟨j+1,v,j2,by simp[qj,c,a],by simp[adm,c];rw[f];congr 2;omega,j4 g,fun v'=>by simp[wR,c,q],by simp[jt,c,w]⟩
def aoK{m:List (κ×ZC)}{k:κ}{ok:Bool}(hm:vm enc tag I r b m)(hs:Sep ro I)(ht:P.underlying t=some (.map kt et))(hk:alc P kt enc)(hz:qp P et zv n bt)
  (hK:K (if ok then .tuple #[(qj m k).getD zv,.bool (qj m k).isSome]else(qj m k).getD zv) I):awp P ro (Instr.lookup t (.map (some b)) (enc k) ok) K I:=by
 obtain⟨es,clock,hb,he,hbn⟩:=hm.obj
 unfold Instr.lookup
 simp only[qy]
 rw[qx ht]
 simp only[bind_assoc']
 refine⟨.map es clock,by unfold rd;rw[hs b _ hb];exact hb,rfl,?_⟩
 refine hk.check ?_
 refine hk.find he ?_
 rcases aiv k m 0 with⟨a,_,_,f⟩ | ⟨j,v,hj,a,f,_⟩
 .rw[f]
  simp only[bind_assoc']
  rw[ab0 hz]
  rw[a]at hK
  exact hK
 .rw[f]
  rw[a]at hK
  exact hK
def vn{m:List (κ×ZC)}{k:κ}(hm:vm enc tag I r b m)(hs:Sep ro I)(ht:P.underlying t=some (.map kt et))(hk:alc P kt enc)(hz:qp P et zv n bt)
  (hK:K ((qj m k).getD zv) I):awp P ro (Instr.lookup t (.map (some b)) (enc k) false) K I:=aoK hm hs ht hk hz hK
def abu{m:List (κ×ZC)}{k:κ}{K:Unit->AH->Prop}(hm:vm enc tag I r b m)(hs:Sep ro I)(ht:P.underlying t=some (.map kt et))(hk:alc P kt enc)
  (hK:∀ I',qd [r] ro tag I tag I'->vm enc tag I' r b (wR m k v)->K () I'):awp P ro (Instr.mapUpdate t (.map (some b)) (enc k) v) K I:=by
 obtain⟨es,clock,hb,he,hbn⟩:=hm.obj
 have hsz:es.toList.length=m.length:=by have:=mj List.length he;simpa using this
 unfold Instr.mapUpdate
 simp only[qy]
 rw[qx ht]
 refine⟨.map es clock,by unfold rd;rw[hs b _ hb];exact hb,rfl,?_⟩
 refine hk.check ?_
 refine hk.find he ?_
 rcases aiv k m 0 with⟨a,_,d,f⟩ | ⟨j,u,hj,a,f,g,q,_⟩
 .rw[f]
  refine⟨.map es clock,hb,rfl,?_⟩
  refine hK _ (kJ hs hm.tg hb) ⟨hm.tg,_,_,qE _ _ _,?_,?_,?_⟩
  .rw[d v,Array.toList_push,my,my,he];try rfl
  .intro e he'
   rw[Array.toList_push]at he'
   rcases mv.1 he' with h | h
   .have:=hbn.lt e h;omega
   .rw[mr]at h;rw[h];exact Nat.lt_succ_self _
  .rw[Array.toList_push,my,List.nodup_append]
   refine⟨hbn.nd,y0,?_⟩
   intro x hx y hy
   obtain⟨e,he',rfl⟩:=mN.1 hx
   have:=hbn.lt e he'
   simp at hy;omega
 .rw[f]
  have hjl:j<es.toList.length:=by omega
  have hje:j<es.size:=by simpa using hjl
  have hkey:es[j].key=enc k:=by
   have h1:(es.toList.map aae)[j]?=(m.map (ae5 enc))[j]?:=by rw[he]
   rw[mh,mh,g,md hjl]at h1
   have:=mB h1
   exact mj Prod.fst this
  have hst:(((es[0+j]?).map (·.key)).getD (enc k))=enc k:=by
   rw[ml,Array.getElem?_eq_getElem hje]
   exact hkey
  simp only
  rw[hst,hk.stays k]
  refine⟨.map es clock,hb,rfl,?_⟩
  have hml:(es.modify (0+j) fun e=>{e with key:=enc k,val:=v}).toList=es.toList.modify j fun e=>{e with key:=enc k,val:=v}:=by
   rw[ml];exact Array.toList_modify ..
  refine hK _ (kJ hs hm.tg hb) ⟨hm.tg,_,_,qE _ _ _,?_,?_,?_⟩
  .rw[hml,q v]
   apply nJ
   intro i
   rw[mh,mh,List.getElem?_modify,nP]
   have hi:(es.toList.map aae)[i]?=(m.map (ae5 enc))[i]?:=by rw[he]
   rw[mh,mh]at hi
   by_cases c:j=i
   .subst c
    rw[mc rfl,mc hj,md hjl]
    simp[aae,ae5]
   .rw[ma c]
    simp only[c,if_false]
    cases h:es.toList[i]? with
    | none=>rw[h]at hi;simpa using hi
    | some e=>rw[h]at hi;simpa using hi
  .intro e he'
   rw[hml]at he'
   obtain⟨i,hi,rfl⟩:=ni he'
   rw[List.getElem_modify]
   rw[List.length_modify]at hi
   split
   .have:=hbn.lt _ (mJ hi)
    exact this
   .have:=hbn.lt _ (mJ hi)
    exact this
  .rw[hml]
   have:(es.toList.modify j fun e=>{e with key:=enc k,val:=v}).map (·.born)=es.toList.map (·.born):=by
    apply nJ
    intro i
    rw[mh,mh,List.getElem?_modify]
    by_cases c:j=i
    .subst c;rw[md hjl];simp
    .simp[c]
   rw[this];exact hbn.nd
def ahu{u:TypeId}{m:List (κ×ZC)}{k:κ}(hm:vm enc tag I r b m)(hs:Sep ro I)(ht:P.underlying t=some (.map kt et))(hk:alc P kt enc)
  (hK:∀ I',qd [r] ro tag I tag I'->vm enc tag I' r b (jt m k)->K (.tuple #[]) I'):awp P ro (Builtin.delete_ #[t,u] ty #[.map (some b),enc k]) K I:=by
 obtain⟨es,clock,hb,he,hbn⟩:=hm.obj
 have hsz:es.toList.length=m.length:=by have:=mj List.length he;simpa using this
 unfold Builtin.delete_
 simp only[qy]
 show awp P ro (Sem.bind (underlying t) _) K I
 rw[qx ht]
 show awp P ro (Sem.bind (getObj b) _) K I
 refine⟨.map es clock,by unfold rd;rw[hs b _ hb];exact hb,rfl,?_⟩
 refine hk.check ?_
 refine hk.find he ?_
 rcases aiv k m 0 with⟨a,d,_,f⟩ | ⟨j,u,hj,a,f,g,_,w⟩
 .rw[f]
  refine⟨.map es clock,hb,rfl,?_⟩
  refine hK _ (kJ hs hm.tg hb) ⟨hm.tg,_,_,qE _ _ _,?_,hbn⟩
  rw[d];exact he
 .rw[f]
  refine⟨.map es clock,hb,rfl,?_⟩
  have hjl:j<es.toList.length:=by omega
  have hje:j<es.size:=by simpa using hjl
  have hel:(es.eraseIdxIfInBounds (0+j)).toList=es.toList.eraseIdx j:=by
   rw[ml]
   simp[Array.eraseIdxIfInBounds,hje]
  refine hK _ (kJ hs hm.tg hb) ⟨hm.tg,_,_,qE _ _ _,?_,?_,?_⟩
  .rw[hel,w,map_eraseIdx',map_eraseIdx',he]
  .intro e he'
   rw[hel]at he'
   exact hbn.lt e ((List.eraseIdx_sublist ..).subset he')
  .rw[hel]
   exact List.Nodup.sublist ((List.eraseIdx_sublist ..).map _) hbn.nd
where
 map_eraseIdx' {α β:Type} {f:α->β}:∀ {l:List α} {j:Nat},(l.eraseIdx j).map f=(l.map f).eraseIdx j:=fun{l} {j}=>by
  induction l generalizing j with
  | nil=>simp
  | cons x l ih=>cases j<;>simp[ih]
def ahR(enc:κ->ZC)(r:Nat){K:Nat->AH->Prop}(hs:Sep ro I)(hK:∀ b tag' I',(∀R,qd R ro tag I tag' I')->vm enc tag' I' r b []->K b I'):nw ro I (.map #[] 0) K:=by
 intro b hro hb
 exact hK b (setTag tag b r) _ (fun R=>qd.fresh hs hro hb) ⟨by simp[setTag],_,_,qE _ _ _,rfl,y0,y0⟩
def ald{m:List (κ×ZC)}(hm:vm enc tag I r b m)(hs:Sep ro I)(ht:P.underlying t=some (.map kt et))(hK:K (.int .i64 (m.length:Nat)) I):awp P ro (Builtin.len_ #[t] ty #[.map (some b)]) K I:=by
 obtain⟨es,clock,hb,he,hbn⟩:=hm.obj
 unfold Builtin.len_
 simp only[qy]
 show awp P ro (Sem.bind (underlying t) _) K I
 rw[qx ht]
 refine⟨.map es clock,by unfold rd;rw[hs b _ hb];exact hb,rfl,?_⟩
 have hsz:es.size=m.length:=by have:=mj List.length he;simpa using this
 show K (.int .i64 (es.size:Nat)) I
 rw[hsz];exact hK
def vm.outR{m:List (κ×ZC)}(h:vm enc tag I r b m)(hr:r∉L):vm enc tag (SL.zE tag L I) r b m:=by
 obtain⟨es,clock,hb,x⟩:=h.obj
 exact⟨h.tg,es,clock,by unfold SL.zE;rw[ma (by rw[h.tg];exact hr)];exact hb,x⟩
def ahS{m:List (κ×ZC)}(ht:P.underlying t=some (.map kt et))(hm:vm enc tag I r M m)(hs:Sep ro I)
  (hK:∀ (es:Array MapEntry) (clock x:Nat),I M=some (.map es clock)->es.toList.map aae=m.map (ae5 enc)->amE es clock->ro x=none->I x=none->K (.pointer (some ⟨x,0,none⟩)) (upd I x (.mapIter (some M) clock #[] clock))):
  awp P ro (Instr.range t (.map (some M))) K I:=by
 obtain⟨es,clock,hb,he,hbn⟩:=hm.obj
 unfold Instr.range
 simp only[qy]
 rw[qx ht]
 refine⟨.map es clock,by unfold rd;rw[hs M _ hb];exact hb,rfl,?_⟩
 intro x hro hx
 exact hK es clock x hb he hbn hro hx
def anr{T:Type}{F:Addr->T->AH->(T->AH->Prop)->Prop}{m:List (κ×ZC)}{s0:T}(ht:P.underlying t=some (.map kt et))(hm:vm enc tag I r M m)(hs:Sep ro I)(hR:r∉R)(h0:0∉R)(hr0:r≠0)
  (J:List (κ×ZC)->T->(Nat->Nat)->AH->Prop) (h:∀ tag' I',(∀R,qd R ro tag I tag' I')->J [] s0 tag' I')
  (hround:∀ (x:Addr) d rest s tag I (Y:T->AH->Prop),(d++rest).Perm m->SL.Sep ro I->J d s tag I->
   (∀K:ZC->AH->Prop,(rest=[]->K (.tuple #[.bool false]) I)->
    (∀p q a b tag' I',(d++p::q).Perm m->qd [0] ro tag I tag' I'->vm enc tag' I' r M m->
     (∀K':ZC->AH->Prop,K' (.tuple #[enc p.1,p.2]) I'->awp P ro (Instr.entry (.pointer (some x))) K' I')->
     (∀s' tag2 I2,qd R ro tag' I' tag2 I2->J (d++[p]) s' tag2 I2->Y s' I2)->K (.tuple #[.bool true,a,b]) I')->
    awp P ro (Instr.next (.pointer (some x)) false ty) K I)->F x s I Y):
  awp P ro (Instr.range t (.map (some M))) (fun v I=> ∃p:Addr,v= .pointer (some p)/\lfpD (F p) s0 I) I:=by
 refine ahS ht hm hs fun es clock x hM hes hbn hro hx=>?_
 refine⟨_,rfl,?_⟩
 have hxM:x≠M:=fun e=>by rw[e,hM]at hx;cases hx
 have zips:∀ {l:List MapEntry} {m:List (κ×ZC)},l.map aae=m.map (ae5 enc)->∃ z:List (MapEntry×(κ×ZC)),z.map Prod.fst=l/\z.map Prod.snd=m/\∀ y∈z,aae y.1=ae5 enc y.2:=by
  intro l
  induction l with
  | nil=>intro m h;cases m with
   | nil=>exact⟨[],rfl,rfl,fun y h=>by cases h⟩
   | cons p m=>cases h
  | cons e l ih=>
   intro m h
   cases m with
   | nil=>cases h
   | cons p m=>
    simp only[mF,List.cons.injEq]at h
    obtain⟨z,z1,z2,z3⟩:=ih h.2
    refine⟨(e,p)::z,by rw[mF,z1],by rw[mF,z2],fun y hy=>?_⟩
    rcases mp.1 hy with rfl | hy
    .exact h.1
    .exact z3 y hy
 obtain⟨z,z1,z2,z3⟩:=zips hes
 suffices∀(n:Nat) (D rest:List (MapEntry×(κ×ZC))) (seen:Array Nat) (s:T) (tag1:Nat->Nat) (I1:AH),rest.length=n->(D++rest).Perm z->(∀e∈D,seen.contains e.1.born=true)->(∀e∈rest,seen.contains e.1.born=false)->
   SL.Sep ro I1->tag1 x=0->I1 x=some (.mapIter (some M) clock seen clock)->tag1 M=r->I1 M=some (.map es clock)->J (D.map Prod.snd) s tag1 I1->lfpD (F ⟨x,0,none⟩) s I1 from by
  have st1:∀ R,qd R ro tag I (setTag tag x 0) (upd I x (.mapIter (some M) clock #[] clock)):=fun R=>qd.fresh hs hro hx
  exact this z.length [] z #[] s0 _ _ rfl y0 (fun e h=>by cases h) (fun e _=>by simp) (st1 []).sep (by simp[setTag]) (qE _ _ _) (by simp[setTag,hxM.symm];exact hm.tg) (by rw[pW _ _ hxM.symm];exact hM) (h _ _ st1)
 intro n
 induction n with
 | zero=>
  intro D rest seen s tag1 I1 hn hp hD hrest hs1 htx hit htm hmp hA
  obtain rfl:=List.length_eq_zero_iff.1 hn
  have hp':=hp.map Prod.snd
  rw[z2,my]at hp'
  refine lfpD.intro (hround ⟨x,0,none⟩ _ _ s tag1 I1 _ hp' hs1 hA fun K hend hstep=>?_)
  refine aen hit hmp hs1 hbn (fun hall=>hend rfl) fun e he hne=>?_
  rw[nk]at hp
  rw[<-z1]at he
  obtain⟨y,hy,rfl⟩:=mN.1 he
  have:=hD y (hp.mem_iff.2 hy);rw[hne]at this;cases this
 | succ n ih=>
  intro D rest seen s tag1 I1 hn hp hD hrest hs1 htx hit htm hmp hA
  have hp':=hp.map Prod.snd
  rw[z2,my]at hp'
  refine lfpD.intro (hround ⟨x,0,none⟩ _ _ s tag1 I1 _ hp' hs1 hA fun K hend hstep=>?_)
  refine aen hit hmp hs1 hbn (fun hall=>?_) fun e he hne=>?_
  .exfalso
   cases rest with
   | nil=>simp at hn
   | cons y rest=>
    have hyz:y∈z:=hp.mem_iff.1 y0
    have h1:=hall y.1 (by rw[<-z1];exact mN.2 ⟨y,hyz,rfl⟩)
    have h2:=hrest y y0
    rw[h1]at h2;cases h2
  .have st2:qd [0] ro tag1 I1 tag1 (upd I1 x (.mapIter (some M) clock (seen.push e.born) clock)):=kJ hs1 htx hit
   have hmp2:upd I1 x (.mapIter (some M) clock (seen.push e.born) clock) M=some (.map es clock):=by rw[pW _ _ hxM.symm];exact hmp
   have he':=he
   rw[<-z1]at he'
   obtain⟨y,hyz,hye⟩:=mN.1 he'
   have hin:y∈rest:=by
    rcases mv.1 (hp.mem_iff.2 hyz)with h | h
    .have:=hD y h;rw[hye,hne]at this;cases this
    .exact h
   obtain⟨a,b,rfl⟩:=List.append_of_mem hin
   have hp2:(D++y::(a++b)).Perm z:=(List.Perm.append_left D List.perm_middle.symm).trans hp
   have hy3:=z3 y hyz
   rw[hye]at hy3
   have hk1:e.key=enc y.2.1:=mj Prod.fst hy3
   have hv1:e.val=y.2.2:=mj Prod.snd hy3
   have hnd:((D++y::(a++b)).map (·.1.born)).Nodup:=by
    have h1:(D++y::(a++b)).map (·.1.born)=((D++y::(a++b)).map Prod.fst).map (·.born):=by rw[Lh];try rfl
    rw[h1]
    have h2:=hp2.map Prod.fst
    rw[z1]at h2
    exact(h2.map _).nodup_iff.2 hbn.nd
   refine hstep y.2 ((a++b).map Prod.snd) _ _ tag1 _ ?_ st2 ⟨htm,es,clock,hmp2,hes,hbn⟩ (fun K' hK'=>?_) fun s' tag2 I2 st3 hJ2=>?_
   .have:=hp2.map Prod.snd
    rw[z2]at this
    simpa using this
   .refine ajd (qE _ _ _) hmp2 st2.sep hbn he ?_
    rw[hk1,hv1];exact hK'
   .have e1:=st3.keep x _ (qE _ _ _) (by rw[htx];exact h0)
    have e2:=st3.keep M _ hmp2 (by rw[htm];exact hR)
    refine ih (D++[y]) (a++b) (seen.push e.born) s' tag2 I2 (by simp at hn ⊢;omega) (j4 hp2) (fun w hw=>?_) (fun w hw=>?_) st3.sep (e1.1.trans htx) e1.2 (e2.1.trans htm) e2.2 (j4 hJ2)
    .rcases mv.1 hw with h | h
     .have:=hD w h;simp at this ⊢;exact .inl this
     .rw[mr.1 h,hye];simp
    .have h1:seen.contains w.1.born=false:=hrest w (by simp at hw ⊢;rcases hw with h | h<;>simp[h])
     have h2:w.1.born≠e.born:=by
      rw[my,mF,List.nodup_append]at hnd
      have:=(nv.1 hnd.2.1).1
      intro hh
      exact this (by rw[hye,<-hh];exact mN.2 ⟨w,hw,rfl⟩)
     rw[<-nV]at h1⊢
     simp at h1⊢
     exact⟨h1,h2⟩
end SL
namespace SL
open Go
variable{P:Program}{B:ZB}{ro I I':AH}{tag tag':Nat->Nat}{κ α:Type}[DecidableEq κ]{enc:κ->ZC}
variable{b i:Nat}
abbrev afJ(b:Nat):ZC:= .pointer (some ⟨b,0,none⟩)
def kvP:List (κ×α)->List Nat->List (κ×ZC)
 | (k,_)::m,b::bs=>(k,afJ b)::kvP m bs
 | _,_=>[]
structure pc(enc:κ->ZC)(At:Nat->κ->α->Prop)(tag:Nat->Nat)(I:AH)(r M:Nat)(bs:List Nat)(m:List (κ×α)):Prop where
 keys:(m.map (·.1)).Nodup
 len:bs.length=m.length
 nd:bs.Nodup
 map:vm enc tag I r M (kvP m bs)
 at':∀ (i b:Nat) (k:κ) (a:α),bs[i]?=some b->m[i]?=some (k,a)->At b k a
def ava:∀ (m:List (κ×α)) (bs:List Nat),bs.length=m.length->(kvP m bs).length=m.length:=by
 intro m
 induction m with
 | nil=>intro bs h;cases bs<;>rfl
 | cons p m ih=>
  intro bs h
  cases bs with
  | nil=>simp at h
  | cons b bs=>obtain⟨k,a⟩:=p;unfold kvP;simp[ih bs (j4 h)]
def ap8:∀ (m:List (κ×α)) (bs:List Nat),bs.length=m.length->∀ (k:κ) (v:ZC),(k,v)∈kvP m bs->∃ (i b:Nat) (a:α),bs[i]?=some b/\m[i]?=some (k,a)/\v=afJ b:=by
 intro m
 induction m with
 | nil=>intro bs h k v hm;cases bs<;>cases hm
 | cons p m ih=>
  intro bs h k v hm
  cases bs with
  | nil=>simp at h
  | cons b bs=>
   obtain⟨pk,pa⟩:=p
   unfold kvP at hm
   rcases mp.1 hm with e | hm
   .cases e;exact⟨0,b,pa,rfl,rfl,rfl⟩
   .obtain⟨i,b',a,h1,h2,h3⟩:=ih bs (j4 h) k v hm
    exact⟨i+1,b',a,j4 h1,j4 h2,h3⟩
def atv:∀ (m:List (κ×α)) (bs:List Nat) (k:κ),bs.length=m.length->
  (qj m k=none/\qj (kvP m bs) k=none)\/∃ (i b:Nat) (a:α),bs[i]?=some b/\m[i]?=some (k,a)/\qj m k=some a/\qj (kvP m bs) k=some (afJ b):=by
 intro m
 induction m with
 | nil=>intro bs k h;exact .inl ⟨rfl,by cases bs<;>rfl⟩
 | cons p m ih=>
  intro bs k h
  cases bs with
  | nil=>simp at h
  | cons b bs=>
   obtain⟨pk,pa⟩:=p
   unfold kvP qj
   by_cases c:k=pk
   .subst c
    exact .inr ⟨0,b,pa,rfl,rfl,y0,y0⟩
   .rw[ma c,ma c]
    rcases ih bs k (by simpa using h)with h' | ⟨i,b',a,h1,h2,h3,h4⟩
    .exact .inl h'
    .exact .inr ⟨i+1,b',a,j4 h1,j4 h2,h3,h4⟩
def xt:∀ {m:List (κ×α)} {k:κ} {a:α},qj m k=some a->(k,a)∈m:=by
 intro m
 induction m with
 | nil=>intro k a h;cases h
 | cons p m ih=>
  intro k a h
  obtain⟨pk,pa⟩:=p
  unfold qj at h
  split at h
  .rename_i e;subst e;cases h;simp
  .exact List.mem_cons_of_mem _ (ih h)
def xK:∀ {m:List (κ×α)} {k:κ},qj m k=none↔k∉m.map (·.1):=by
 intro m
 induction m with
 | nil=>intro k;simp[qj]
 | cons p m ih=>
  intro k
  obtain⟨pk,pa⟩:=p
  unfold qj
  by_cases c:k=pk
  .simp[c]
  .rw[ma c,ih];simp[c]
def ale:∀ {m:List (κ×α)} {k:κ} {a:α},(m.map (·.1)).Nodup->(k,a)∈m->qj m k=some a:=by
 intro m
 induction m with
 | nil=>intro k a _ h;cases h
 | cons p m ih=>
  intro k a hn h
  obtain⟨pk,pa⟩:=p
  simp only[mF,nv]at hn
  unfold qj
  rcases mp.1 h with e | h
  .cases e;simp
  .have:k≠pk:=fun e=>hn.1 (by rw[<-e];exact mN.2 ⟨_,h,rfl⟩)
   rw[ma this];exact ih hn.2 h
def agz:∀ {m:List (κ×α)} {i:Nat} {k:κ} {a:α} (a':α),(m.map (·.1)).Nodup->m[i]?=some (k,a)->wR m k a'=m.set i (k,a'):=by
 intro m
 induction m with
 | nil=>intro i k a a' _ h;cases h
 | cons p m ih=>
  intro i k a a' hn h
  obtain⟨pk,pa⟩:=p
  simp only[mF,nv]at hn
  unfold wR
  cases i with
  | zero=>cases h;simp
  | succ i=>
   have hm:m[i]?=some (k,a):=by simpa using h
   have:k≠pk:=fun e=>hn.1 (by rw[<-e];exact mN.2 ⟨_,mW hm,rfl⟩)
   rw[ma this,ih a' hn.2 hm];try rfl
def alf:∀ {m:List (κ×α)} {k:κ} (a:α),qj m k=none->wR m k a=m++[(k,a)]:=by
 intro m
 induction m with
 | nil=>intro k a _;rfl
 | cons p m ih=>
  intro k a h
  obtain⟨pk,pa⟩:=p
  unfold qj at h
  unfold wR
  split at h
  .cases h
  .rename_i c
   rw[ma c,ih a h];try rfl
def alZ:∀ {m:List (κ×α)} {i:Nat} {k:κ} {a:α},(m.map (·.1)).Nodup->m[i]?=some (k,a)->jt m k=m.eraseIdx i:=by
 intro m
 induction m with
 | nil=>intro i k a _ h;cases h
 | cons p m ih=>
  intro i k a hn h
  obtain⟨pk,pa⟩:=p
  simp only[mF,nv]at hn
  unfold jt
  cases i with
  | zero=>cases h;simp
  | succ i=>
   have hm:m[i]?=some (k,a):=by simpa using h
   have:k≠pk:=fun e=>hn.1 (by rw[<-e];exact mN.2 ⟨_,mW hm,rfl⟩)
   rw[ma this,ih hn.2 hm];try rfl
def ans:∀ {m:List (κ×α)} {k:κ},qj m k=none->jt m k=m:=by
 intro m
 induction m with
 | nil=>intro k _;rfl
 | cons p m ih=>
  intro k h
  obtain⟨pk,pa⟩:=p
  unfold qj at h
  unfold jt
  split at h
  .cases h
  .rename_i c
   rw[ma c,ih h]
def amM:∀ (m:List (κ×α)) (bs:List Nat) (i:Nat) (k:κ) (a a':α),m[i]?=some (k,a)->kvP (m.set i (k,a')) bs=kvP m bs:=by
 intro m
 induction m with
 | nil=>intro bs i k a a' h;cases h
 | cons p m ih=>
  intro bs i k a a' h
  cases bs with
  | nil=>cases i<;>simp[kvP]
  | cons b bs=>
   cases i with
   | zero=>cases h;rfl
   | succ i=>simp only[List.set_cons_succ];unfold kvP;rw[ih bs i k a a' (j4 h)]
def avb:∀ (m:List (κ×α)) (bs:List Nat) (k:κ) (a:α) (b:Nat),bs.length=m.length->kvP (m++[(k,a)]) (bs++[b])=kvP m bs++[(k,afJ b)]:=by
 intro m
 induction m with
 | nil=>intro bs k a b h;have:bs=[]:=nb h;subst this;rfl
 | cons p m ih=>
  intro bs k a b h
  cases bs with
  | nil=>simp at h
  | cons c bs=>
   obtain⟨pk,pa⟩:=p
   simp only[ng]
   unfold kvP
   rw[ih bs k a b (j4 h)];try rfl
def arT:∀ (m:List (κ×α)) (bs:List Nat) (i:Nat),bs.length=m.length->kvP (m.eraseIdx i) (bs.eraseIdx i)=(kvP m bs).eraseIdx i:=by
 intro m
 induction m with
 | nil=>intro bs i h;have:bs=[]:=nb h;subst this;simp[kvP]
 | cons p m ih=>
  intro bs i h
  cases bs with
  | nil=>simp at h
  | cons c bs=>
   obtain⟨pk,pa⟩:=p
   cases i with
   | zero=>simp[kvP]
   | succ i=>simp only[List.eraseIdx_cons_succ];unfold kvP;rw[ih bs i (j4 h)];simp
def aeO:∀ (m:List (κ×α)) (bs:List Nat),bs.length=m.length->(kvP m bs).map (·.1)=m.map (·.1):=by
 intro m
 induction m with
 | nil=>intro bs h;cases bs<;>rfl
 | cons p m ih=>
  intro bs h
  cases bs with
  | nil=>simp at h
  | cons c bs=>obtain⟨pk,pa⟩:=p;unfold kvP;simp[ih bs (j4 h)]
def adB{β:Type}{l:List β}(hn:l.Nodup){j:Nat}{x:β}(hi:l[i]?=some x)(hj:l[j]?=some x):i=j:=by
 have hil:i<l.length:=(List.getElem?_eq_some_iff.1 hi).1
 have hjl:j<l.length:=(List.getElem?_eq_some_iff.1 hj).1
 rw[md hil]at hi
 rw[md hjl]at hj
 exact(List.getElem_inj hn).1 (by rw[mB hi,mB hj])
variable{At At':Nat->κ->α->Prop}{r M:Nat}{bs:List Nat}{m:List (κ×α)}
def pc.nil(h:vm enc tag I r M []):pc enc At tag I r M [] ([]:List (κ×α)):=⟨y0,rfl,y0,h,fun i b k a hb=>by cases hb⟩
def pc.mono(h:pc enc At tag I r M bs m)(hm:vm enc tag' I' r M (kvP m bs))(ha:∀ (i b:Nat) (k:κ) (a:α),bs[i]?=some b->m[i]?=some (k,a)->At b k a->At' b k a):pc enc At' tag' I' r M bs m:=
 ⟨h.keys,h.len,h.nd,hm,fun i b k a hb hp=>ha i b k a hb hp (h.at' i b k a hb hp)⟩
def pc.look(h:pc enc At tag I r M bs m)(k:κ):(qj m k=none/\qj (kvP m bs) k=none)\/∃ (i b:Nat) (a:α),bs[i]?=some b/\m[i]?=some (k,a)/\qj m k=some a/\qj (kvP m bs) k=some (afJ b)/\At b k a:=by
 rcases atv m bs k h.len with h' | ⟨i,b,a,h1,h2,h3,h4⟩
 .exact .inl h'
 .exact .inr ⟨i,b,a,h1,h2,h3,h4,h.at' i b k a h1 h2⟩
def pc.write{k:κ}{a a':α}(h:pc enc At tag I r M bs m)(hb:bs[i]?=some b)(hp:m[i]?=some (k,a))(hm:vm enc tag' I' r M (kvP m bs))(hn:At' b k a')(ho:∀ b' k' x,b'≠b->k'≠k->At b' k' x->At' b' k' x):pc enc At' tag' I' r M bs (wR m k a'):=by
 rw[agz a' h.keys hp]
 have hil:i<m.length:=(List.getElem?_eq_some_iff.1 hp).1
 refine⟨?_,j4 h.len,h.nd,by rw[amM _ _ _ _ _ _ hp];exact hm,fun j c k' x hc hx=>?_⟩
 .have:(m.set i (k,a')).map (·.1)=m.map (·.1):=by
   apply nJ
   intro j
   rw[List.map_set,nP,mh]
   by_cases e:i=j
   .subst e;rw[hp];simp[hil]
   .rw[ma e]
  rw[this];exact h.keys
 .rw[nP]at hx
  by_cases e:i=j
  .subst e
   rw[hb]at hc;cases hc
   rw[mc rfl,mc hil]at hx
   cases hx;exact hn
  .rw[ma e]at hx
   refine ho c k' x (fun e'=>e (adB h.nd hb (by rw[<-e'];exact hc))) (fun e'=>e ?_) (h.at' j c k' x hc hx)
   refine adB h.keys (i:=i) (j:=j) (x:=k) ?_ ?_
   .rw[mh,hp];try rfl
   .rw[mh,hx,<-e'];try rfl
def pc.add{k:κ}{a:α}(h:pc enc At tag I r M bs m)(hk:qj m k=none)(hm:vm enc tag' I' r M (wR (kvP m bs) k (afJ b)))(hnb:b∉bs)(hn:At' b k a)(ho:∀ (i b':Nat) k' x,bs[i]?=some b'->m[i]?=some (k',x)->At b' k' x->At' b' k' x):pc enc At' tag' I' r M (bs++[b]) (wR m k a):=by
 have hk2:qj (kvP m bs) k=none:=by rw[xK,aeO _ _ h.len,<-xK];exact hk
 rw[alf _ hk2]at hm
 rw[alf a hk]
 refine⟨?_,by simp[h.len],?_,by rw[avb _ _ _ _ _ h.len];exact hm,fun i c k' x hc hx=>?_⟩
 .rw[my,List.nodup_append]
  refine⟨h.keys,y0,?_⟩
  intro x hx y hy e
  simp at hy
  rw[xK]at hk
  exact hk (by rw[<-hy,<-e];exact hx)
 .rw[List.nodup_append]
  refine⟨h.nd,y0,?_⟩
  intro x hx y hy e
  simp at hy
  exact hnb (by rw[<-hy,<-e];exact hx)
 .rcases mM i bs.length with hi | hi
  .rw[mQ hi]at hc
   rw[mQ (by rw[<-h.len];exact hi)]at hx
   exact ho i c k' x hc hx (h.at' i c k' x hc hx)
  .rw[mU hi]at hc
   rw[mU (by rw[<-h.len];exact hi),<-h.len]at hx
   cases hd:i - bs.length with
   | zero=>rw[hd]at hc hx;cases hc;cases hx;exact hn
   | succ j=>rw[hd]at hc;cases hc
def pc.del{k:κ}{a:α}(h:pc enc At tag I r M bs m)(hb:bs[i]?=some b)(hp:m[i]?=some (k,a))(hm:vm enc tag' I' r M (jt (kvP m bs) k))(ho:∀ b' k' x,At b' k' x->At' b' k' x):pc enc At' tag' I' r M (bs.eraseIdx i) (jt m k):=by
 have hnk:((kvP m bs).map (·.1)).Nodup:=by rw[aeO _ _ h.len];exact h.keys
 have hil:i<m.length:=(List.getElem?_eq_some_iff.1 hp).1
 have hkv:∃ v,(kvP m bs)[i]?=some (k,v):=by
  have e:=aeO m bs h.len
  have h1:((kvP m bs).map (·.1))[i]?=(m.map (·.1))[i]?:=by rw[e]
  rw[mh,mh,hp]at h1
  cases hq:(kvP m bs)[i]? with
  | none=>rw[hq]at h1;cases h1
  | some q=>obtain⟨q1,q2⟩:=q;rw[hq]at h1;cases h1;exact⟨q2,rfl⟩
 obtain⟨v,hkv⟩:=hkv
 rw[alZ hnk hkv]at hm
 rw[alZ h.keys hp]
 refine⟨?_,?_,List.Nodup.sublist (List.eraseIdx_sublist ..) h.nd,by rw[arT _ _ _ h.len];exact hm,fun j c k' x hc hx=>?_⟩
 .exact List.Nodup.sublist ((List.eraseIdx_sublist ..).map _) h.keys
 .rw[List.length_eraseIdx,List.length_eraseIdx,h.len]
 .rw[List.getElem?_eraseIdx]at hc hx
  split at hc
  .rename_i hj;rw[mc hj]at hx;exact ho _ _ _ (h.at' j c k' x hc hx)
  .rename_i hj;rw[ma hj]at hx;exact ho _ _ _ (h.at' (j+1) c k' x hc hx)
end SL
namespace Pa
open Go SL G Go.RowKit
variable{B:ZB}{ro I I':AH}{tag tag':Nat->Nat}
def t25:prog.underlying 27=some (.slice 9):=j0
def aq0{ps:List Str}(h:aht ps):ps.length<4611686018427387904/\(mk ps).length<4611686018427387904:=by
 have:=h.n;have:=h.len;omega
def atw(a r:Str):cut (a++47::r)=cut a++cut r:=by
 induction a with
 | nil=>rw[nF];conv=>lhs;unfold cut
        rw[mc rfl];try rfl
 | cons c a ih=>
  rw[ng]
  conv=>lhs;unfold cut
  conv=>rhs;arg 1;unfold cut
  by_cases h:c=47
  .rw[mc h,mc h,ih];try rfl
  .rw[ma h,ma h,ih]
   cases hc:cut a with
   | nil=>exact mt hc (aoG a)
   | cons x xs=>rfl
def arU{ps qs:List Str}(hp:aht ps)(hq:aht qs)(hn:ps≠[]):(mk qs=mk ps\/(mk ps++[47]) <+: mk qs)↔ps <+: qs:=by
 have hcp:cut ((mk ps).drop 1)=ps:=by unfold mk;rw[ma hn];exact ajC ps hn fun x hx=>adY (hp.ok x hx)
 constructor
 .rintro(h | ⟨r,h⟩)
  .rw[arQ hq hp h];exact List.prefix_refl _
  .have hqn:qs≠[]:=by
    intro e
    subst e
    have h1:=mj List.length h
    have h2:=alW ps
    simp[mk]at h1
    simp only[mk]at h2
    omega
   have hcq:cut ((mk qs).drop 1)=qs:=by unfold mk;rw[ma hqn];exact ajC qs hqn fun x hx=>adY (hq.ok x hx)
   have e:(mk qs).drop 1=(mk ps).drop 1++47::r:=by
    rw[<-h,nl,List.drop_append_of_le_length (alW ps)];try rfl
   rw[e,atw,hcp]at hcq
   exact⟨_,hcq⟩
 .rintro⟨t,rfl⟩
  cases t with
  | nil=>left;rw[nk]
  | cons x t=>
   right
   have e:mk (ps++x::t)=mk ps++[47]++(x++t.flatMap (fun x=>47::x)):=by
    unfold mk
    rw[ma y0,ma hn,List.flatMap_append,nE];simp
   exact⟨_,e.symm⟩
def aeo(p q:Str):Option Bool:=match parts p,parts q with | some ps,some qs=>some (ps.isPrefixOf qs) | _,_=>none
def atx{p q:ZA}{Q:Bool->Int->AH->Prop}(g:ze ro)(hnone:aeo (L p) (L q)=none->Q false 20 I)(hsome:∀ b,aeo (L p) (L q)=some b->Q b 0 I):agq B ro p q I Q:=by
 refine an0 fun hs=>?_
 unfold agw
 refine aaj g ?_
 by_cases h1:chk (L p)=0
 .rw[ma (j4 h1)]
  obtain⟨ps,hps⟩:=vE.1 h1
  refine aaj g ?_
  unfold uy
  by_cases h2:chk (L q)=0
  .rw[ma (j4 h2)]
   obtain⟨qs,hqs⟩:=vE.1 h2
   obtain⟨hpl,hpg⟩:=qZ.1 hps
   obtain⟨hql,hqg⟩:=qZ.1 hqs
   have hu:aeo (L p) (L q)=some (ps.isPrefixOf qs):=by unfold aeo;rw[hps,hqs]
   have hres:=hsome _ hu
   unfold abk
   by_cases h3:p=⟨#[47]⟩\/q=p
   .rw[mc h3]
    have:ps.isPrefixOf qs=true:=by
     rw[List.isPrefixOf_iff_prefix]
     rcases h3 with h | h
     .have:ps=[]:=(anq hpg).1 (by rw[<-hpl,h];try rfl)
      rw[this];exact List.nil_prefix
     .have:ps=qs:=by rw[h,hps]at hqs;exact mB hqs
      rw[this];exact List.prefix_refl _
    rw[this]at hres;exact hres
   .rw[ma h3]
    have hn:ps≠[]:=fun e=>h3 (.inl (uG (by rw[hpl,e];try rfl)))
    have h128:=hpg.len
    have hsz:p.size=(mk ps).length:=by rw[<-kF,hpl]
    refine⟨by show p.size+1<=_;omega,?_⟩
    refine ajD ?_
    have e:(L (p++(⟨#[47]⟩:ZA))).isPrefixOf (L q)=ps.isPrefixOf qs:=by
     rw[aoC,hpl,hql,Bool.eq_iff_iff,List.isPrefixOf_iff_prefix,List.isPrefixOf_iff_prefix,<-arU hpg hqg hn]
     constructor
     .intro h;exact .inr h
     .rintro(h | h)
      .exact mt (.inr (uG (by rw[hpl,hql,h]))) h3
      .exact h
    rw[e];exact hres
  .rw[mc (j4 h2)]
   refine hnone ?_
   unfold aeo
   cases h:parts (L q)with
   | none=>cases parts (L p)<;>rfl
   | some qs=>exact mt (vE.2 ⟨qs,h⟩) h2
 .rw[mc (j4 h1)]
  unfold uy
  rw[mc rfl]
  refine hnone ?_
  unfold aeo
  cases h:parts (L p)with
  | none=>rfl
  | some qs=>exact mt (vE.2 ⟨qs,h⟩) h1
def aeP:Nat->Nat->Str
 | 0,_=>[]
 | k+1,n=>aeP k (n / 10)++[UInt8.ofNat (48+n%10)]
def arV(k:Nat):aeP k 0=List.replicate k 48:=by
 induction k with
 | zero=>rfl
 | succ k ih=>rw[aeP,Nat.zero_div,ih,List.replicate_succ'];try rfl
def aty:∀ (k n:Nat),n<10 ^ (k+1)->(Lib.decDigits n).length<=k+1/\List.replicate (k+1 - (Lib.decDigits n).length) 48++Lib.decDigits n=aeP (k+1) n:=by
 intro k
 induction k with
 | zero=>
  intro n h
  have h:n<10:=by simpa using h
  rw[Lib.decDigits,dif_pos h]
  refine⟨y0,?_⟩
  simp[aeP,nN h]
 | succ k ih=>
  intro n h
  by_cases h10:n<10
  .rw[Lib.decDigits,dif_pos h10]
   refine⟨y0,?_⟩
   rw[aeP,Nat.div_eq_of_lt h10,arV,nN h10];simp
  .rw[Lib.decDigits,dif_neg h10]
   obtain⟨h1,h2⟩:=ih (n / 10) (by rw[Nat.div_lt_iff_lt_mul z7];rw[Nat.pow_succ]at h;exact h)
   refine⟨j2,?_⟩
   rw[aeP,<-h2]
   simp only[mA,mz,nH,<-nl]
   rw[show k+1+1 - ((Lib.decDigits (n / 10)).length+(0+1))=k+1 - (Lib.decDigits (n / 10)).length by omega]
def aoL(k n:Nat):(aeP k n).length=k:=by
 induction k generalizing n with
 | zero=>rfl
 | succ k ih=>rw[aeP,mA,ih];try rfl
def apw(c:UInt8)(k:Nat):Lib.repeatL [c] k=List.replicate k c:=by
 induction k with
 | zero=>rfl
 | succ k ih=>rw[Lib.repeatL,ih];try rfl
def avc{n:Nat}{Q:ZA->AH->Prop}(g:ze ro)(hn:n<9223372036854775808)(hQ:Q (S (Lib.decDigits n)) I):ahQ B ro (n:Int) I Q:=by
 refine qc.of_calls fun w hw hsep=>?_
 refine(Tryz.strconv_Itoa (n:Int) z7 z7 w (g.tab w (ap5 hw))).mono ?_
 rintro e w' ⟨he,k,os,rfl⟩
 have hb:Below w.heap.size w (Go.Sort.grow (w.drewN k) os):=⟨rfl,rfl,rfl,by simp[Go.Sort.grow,World.drewN],fun b hb=>by
  simp only[Go.Sort.grow,World.drewN]
  rw[Array.getElem?_append_left hb]⟩
 refine⟨_,fun _=>none,he,hb,ak9.none _ _,S (Lib.decDigits n),?_,?_⟩
 .rw[Lib.itoa_nonneg];try rfl
 .rw[abK];exact hQ
def arW{k:Nat}{Q:ZA->AH->Prop}(hk:k<=100)(hQ:Q (S (List.replicate k 48)) I):agr B ro (⟨#[48]⟩:ZA) (k:Int) I Q:=by
 refine qc.of_calls fun w hw hsep=>?_
 refine(Tryz.strings_Repeat (⟨#[48]⟩:ZA) k w z7 (by show 1*k<=_;omega)).mono ?_
 rintro e w' ⟨he,hb⟩
 refine⟨_,fun _=>none,he,hb,ak9.none _ _,S (List.replicate k 48),?_,?_⟩
 .rw[show(⟨#[48]⟩:ZA).data.toList=[48]from rfl,apw];try rfl
 .rw[abK];exact hQ
def ua(n:Int):Str:=aeP 10 n.toNat
def pn(l:Str)(n:Int):Option Str:=
 match parts l with
 | some ps=>if ps=[]\/n<0\/9999999999<n then none else if(parts (l++ua n)).isSome then some (l++ua n)else none
 | none=>none
def arX{p:ZA}{n:Int}{Q:ZA->Int->AH->Prop}(g:ze ro)(hnone:pn (L p) n=none->Q (⟨#[]⟩:ZA) 20 I)(hsome:∀ u,pn (L p) n=some u->Q (S u) 0 I):afC B ro p n I Q:=by
 refine amJ fun hs=>?_
 unfold afI
 by_cases h1:(p=⟨#[47]⟩\/n<0)\/9999999999<n
 .rw[mc h1]
  unfold pP
  rw[mc rfl]
  refine hnone ?_
  unfold pn
  cases h:parts (L p)with
  | none=>rfl
  | some ps=>
   obtain⟨hl,hg⟩:=qZ.1 h
   refine mc ?_
   rcases h1 with(h1 | h1) | h1
   .exact .inl ((anq hg).1 (by rw[<-hl,h1];try rfl))
   .exact .inr (.inl h1)
   .exact .inr (.inr h1)
 .rw[ma h1]
  have hp1:p≠⟨#[47]⟩:=fun h=>h1 (.inl (.inl h))
  obtain⟨m,rfl⟩:∃ m:Nat,n=m:=⟨n.toNat,z7⟩
  refine aaj g ?_
  unfold pP
  by_cases h2:chk (L p)=0
  .rw[ma (j4 h2)]
   obtain⟨ps,hps⟩:=vE.1 h2
   obtain⟨hl,hg⟩:=qZ.1 hps
   have hn:ps≠[]:=fun e=>hp1 (uG (by rw[hl,e];try rfl))
   refine avc g z7 ?_
   obtain⟨hd1,hd2⟩:=aty 9 m (by show m<10000000000;omega)
   have e1:i64.wrap (10 - ((S (Lib.decDigits m)).size:Int))=((9+1 - (Lib.decDigits m).length:Nat):Int):=by
    rw[ahO,SL.qY z7 z7];omega
   rw[e1]
   refine arW z7 ?_
   have hsz:p.size=(mk ps).length:=by rw[<-kF,hl]
   have h128:=hg.len
   rw[ail,hd2]
   refine⟨by simp only[ahO,List.length_replicate];omega,by rw[ahO,aoL];omega,?_⟩
   have e2:p++S (aeP (9+1) m)=S (L p++ua m):=by
    conv=>lhs;rw[<-S_L p]
    rw[ail];try rfl
   rw[e2]
   refine aaj g ?_
   rw[L_S]
   have hsuf:pn (L p) (m:Int)=if(parts (L p++ua m)).isSome then some (L p++ua m)else none:=by
    unfold pn;rw[hps];simp only;rw[ma fun h=>h.elim hn z7]
   by_cases h3:chk (L p++ua m)=0
   .rw[ma (j4 h3)]
    obtain⟨qs,hqs⟩:=vE.1 h3
    refine hsome _ ?_
    rw[hsuf,hqs];try rfl
   .rw[mc (j4 h3)]
    have e3:parts (L p++ua m)=none:=by
     cases h:parts (L p++ua m)with
     | none=>rfl
     | some qs=>exact mt (vE.2 ⟨qs,h⟩) h3
    have:chk (L p++ua m)=20:=by unfold chk;rw[e3];try rfl
    rw[this]
    refine hnone ?_
    rw[hsuf,e3];try rfl
  .rw[mc (j4 h2)]
   refine hnone ?_
   unfold pn
   cases h:parts (L p)with
   | none=>rfl
   | some ps=>exact mt (vE.2 ⟨ps,h⟩) h2