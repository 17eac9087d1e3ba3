import Derived.Test.YtomdigihapdhnaaGreatDoorXD
set_option linter.all false
set_option maxRecDepth 99999
set_option maxHeartbeats 0
open Go.IntKind(i64)
open Go.Proofs.Tryz
namespace Go.Proofs.YtomdigihapdhnaaGreatDoor
namespace SL
open Go
variable{P:Program}{B:World}{ro I I':AH}{tag tag':Nat->Nat}
theorem ahh{t e ty:TypeId}{s:Sl}{Q:Value->AH->Prop}(ht:P.underlying t=some (.slice e))(h:Q (.int .i64 (s.cap:Int)) I):awp P ro (Builtin.cap_ #[t] ty #[Sl.v s]) Q I:=by
 have g0:(#[t]:Array TypeId)[0]?=some t:=rfl
 have g1:(#[Value.slice s.a s.len s.cap]:Array Value)[0]?=some (Value.slice s.a s.len s.cap):=rfl
 unfold Builtin.cap_
 simp only[Sl.v,qw,qN,g0,g1]
 rw[qu ht]
 exact h
structure Src(P:Program)(ro I:AH)(x:Value)(l:List Value):Prop where
 len:∀ {β:Type} (f:Nat->Sem β) (Q:β->AH->Prop),awp P ro (f l.length) Q I->awp P ro (Sem.bind (Builtin.lenOf x) f) Q I
 cells:∀ {β:Type} (f:Array Value->Sem β) (Q:β->AH->Prop),awp P ro (f l.toArray) Q I->awp P ro (Sem.bind (Builtin.firstCells 1 l.length x) f) Q I
theorem qy.src{s:Sl}{l:List Value}(h:qy ro I s l):Src P ro I (Sl.v s) l:=by
 refine⟨fun f Q hf=>?_,fun f Q hf=>?_⟩
 .rw[<-h.1]at hf;exact hf
 .unfold Sl.v
  cases hsa:s.a with
  | none=>
   rw[h.2.1 hsa]at hf⊢
   exact hf
  | some p=>
   rw[show Sem.bind (Builtin.firstCells 1 l.length (.slice (some p) s.len s.cap)) f=(loadCells p (l.length*1)) >>= f from rfl,vf,Nat.mul_one]
   exact vH l 0 #[] (wr 0 fun j v hj=>by rw[Nat.zero_add];exact h.2.2 p hsa j v hj) (by simpa using hf)
theorem ahi(b:ByteArray):Src P ro I (.string b) ((L b).map fun c=> .int .u8 c.toNat):=by
 refine⟨fun f Q hf=>?_,fun f Q hf=>?_⟩
 .rw[List.length_map,zu]at hf;exact hf
 .rw[List.length_map,zu]
  show awp P ro (f ((b.extract 0 b.size).data.map fun c=> .int .u8 c.toNat)) Q I
  rw[show b.extract 0 b.size=b from by rw[ak7,List.take_of_length_le (by rw[zu];exact Nat.le_refl _)];exact S_L b]
  have e:((L b).map fun c=>Value.int .u8 c.toNat).toArray=b.data.map fun c=> .int .u8 c.toNat:=by unfold L;rw[<-Array.toList_map]
  rw[<-e];exact hf
theorem adw{r e t t2 ty:TypeId}{s:Sl}{l l2:List Value}{m bytes:Nat}{x zv:Value}{Q:Value->AH->Prop}(h:Row tag I r e s l)(hs:Sep ro I)(ht:P.underlying t=some (.slice e))(hz:qp P e zv 1 bytes)
  (hx:Src P ro I x l2) (hm:m+l2.length=l.length) (hv:∀ v∈l2,qg v=true) (hQ:∀ I',qf [r] ro tag I tag I'->Row tag I' r e s (l.take m++l2)->Q (.int .i64 (l2.length:Int)) I'):
  awp P ro (Builtin.copy_ #[t,t2] ty #[Sl.v (⟨wy s.a m s.cap 1,s.len - m,s.cap - m⟩:Sl),x]) Q I:=by
 have g0:(#[t,t2]:Array TypeId)[0]?=some t:=rfl
 have g1:(#[Value.slice (wy s.a m s.cap 1) (s.len - m) (s.cap - m),x]:Array Value)[0]?=some (Value.slice (wy s.a m s.cap 1) (s.len - m) (s.cap - m)):=rfl
 have g2:(#[Value.slice (wy s.a m s.cap 1) (s.len - m) (s.cap - m),x]:Array Value)[1]?=some x:=rfl
 have hl:=h.len
 unfold Builtin.copy_
 simp only[Sl.v,qw,qN,g0,g1,g2]
 rw[qu ht]
 simp only[]
 refine hx.len _ _ ?_
 rw[aaw hz]
 rw[show Nat.min l2.length (s.len - m)=l2.length from Nat.min_eq_left (by omega)]
 refine hx.cells _ _ ?_
 have done:l2=[]->Q (.int .i64 (l2.length:Int)) I:=fun e0=>hQ I (qf.refl hs) (by
  rw[e0,List.append_nil,List.take_of_length_le (by rw[e0]at hm;simp at hm;omega)];exact h)
 rcases h with⟨rfl,rfl⟩ | ⟨b,cs,ha,htg,hbk,hln,hcp,hle,hg⟩
 .have h0:l2=[]:=List.eq_nil_of_length_eq_zero (by simp only[List.length_nil]at hm;omega)
  rw[show wy none m 0 1=none from by unfold wy;split<;>rfl]
  exact done h0
 .by_cases h0:l2=[]
  .unfold wy
   have:=done h0
   subst h0
   split
   .exact this
   .exact this
  .have hpos:=List.length_pos_iff.2 h0
   unfold wy
   rw[if_neg (by omega),ha]
   simp only[Option.map_some,Nat.mul_one,wN,Nat.zero_add]
   show awp P ro (storeCells ⟨b,m,none⟩ l2 >>= fun _=>Sem.pure (goInt l2.length)) Q I
   rw[vf]
   refine jO l2 0 I (adU l2 cs 0 I hbk (by omega) hv fun cs' c1 c2 c3=>?_)
   refine hQ _ (pq hs htg hbk) (.inr ⟨b,cs',ha,htg,we _ _ _,by simp;omega,by rw[c1];exact hcp,hle,fun i hi=>?_⟩)
   simp at hi
   rcases Nat.lt_or_ge i m with hh | hh
   .rw[c2 i (by omega),List.getElem?_append_left (by simp;omega),List.getElem?_take,if_pos hh];exact hg i (by omega)
   .have e1:(l.take m).length=m:=by simp;omega
    rw[List.getElem?_append_right (by omega),e1]
    have:=c3 (i - m) _ (List.getElem?_eq_getElem (by omega))
    rw[List.getElem?_eq_getElem (by omega),<-this]
    congr 1;omega
theorem Row.more{r:Nat}{e:TypeId}{s:Sl}{l:List Value}(h:Row tag I r e s l){n:Nat}(hn:l.length+n<=s.cap):∃ xs:List Value,xs.length=n/\Row tag I r e ⟨s.a,l.length+n,s.cap⟩ (l++xs):=by
 rcases h with⟨rfl,rfl⟩ | ⟨b,cs,ha,htg,hbk,hln,hcp,hle,hg⟩
 .have:n=0:=by simpa using hn
  subst this
  exact⟨[],rfl,.inl ⟨rfl,rfl⟩⟩
 .refine⟨(cs.toList.drop l.length).take n,by simp;omega,.inr ⟨b,cs,ha,htg,hbk,by simp;omega,hcp,hn,fun i hi=>?_⟩⟩
  rcases Nat.lt_or_ge i l.length with h1 | h1
  .rw[List.getElem?_append_left h1];exact hg i h1
  .simp at hi
   rw[List.getElem?_append_right h1,List.getElem?_take,if_pos (by omega),List.getElem?_drop]
   simp only[Array.getElem?_toList]
   congr 1;omega
theorem Row.capAt{r:Nat}{e:TypeId}{s:Sl}{l:List Value}(h:Row tag I r e s l):l.length<=s.cap:=by
 rcases h with⟨rfl,rfl⟩ | ⟨b,cs,ha,htg,hbk,hln,hcp,hle,hg⟩
 .simp
 .omega
theorem jt(a:Option Addr)(c s:Nat):wy a 0 c s=a:=by
 unfold wy;split
 .rfl
 .cases a<;>simp[Nat.zero_mul,yk]
def qd(C:List Nat)(ro:AH)(tag:Nat->Nat)(I:AH)(tag':Nat->Nat)(I':AH):Prop:= ∃R:List Nat,(∀x∈R,x%64∈C)/\qf R ro tag I tag' I'
theorem qf.s{C R:List Nat}(h:qf R ro tag I tag' I')(hR:∀ x∈R,x%64∈C):qd C ro tag I tag' I':=⟨R,hR,h⟩
theorem ky.s{C:List Nat}{c:Nat}(h:ky c ro tag I tag' I')(hc:c∈C):qd C ro tag I tag' I':=by
 obtain⟨R,h1,h2⟩:=h
 exact⟨R,fun x hx=>by rw[h1 x hx];exact hc,h2⟩
theorem qd.sep{C:List Nat}(h:qd C ro tag I tag' I'):Sep ro I':=by obtain⟨_,_,h⟩:=h;exact h.sep
theorem qd.refl{C:List Nat}(h:Sep ro I):qd C ro tag I tag I:=⟨[],by simp,qf.refl h⟩
theorem qd.trans{C:List Nat}{tag'':Nat->Nat}{I'':AH}(h:qd C ro tag I tag' I')(k:qd C ro tag' I' tag'' I''):qd C ro tag I tag'' I'':=by
 obtain⟨R,h1,h2⟩:=h
 obtain⟨R',k1,k2⟩:=k
 refine⟨R++R',fun x hx=>?_,(h2.mono fun r hr=>by simp[hr]).trans (k2.mono fun r hr=>by simp[hr])⟩
 rcases List.mem_append.1 hx with h | h
 .exact h1 x h
 .exact k1 x h
theorem qd.mono{C D:List Nat}(h:qd C ro tag I tag' I')(hd:∀ c∈C,c∈D):qd D ro tag I tag' I':=by
 obtain⟨R,h1,h2⟩:=h
 exact⟨R,fun x hx=>hd _ (h1 x hx),h2⟩
theorem Row.keepS{C:List Nat}{r:Nat}{e:TypeId}{s:Sl}{l:List Value}(h:Row tag I r e s l)(k:qd C ro tag I tag' I')(hr:r%64∉C:=by decide):Row tag' I' r e s l:=by
 obtain⟨R,h1,h2⟩:=k
 exact h.keep h2 fun m=>hr (h1 _ m)
theorem qd.back{C:List Nat}{b:Nat}{τ:AH}(h:qd C (join ro (one I b)) tag (del I b) tag' τ)(hs:Sep ro I)(hd:qz (one I b) τ)(hb:∃ o,I b=some o):qd C ro tag I (setTag tag' b (tag b)) (join (one I b) τ):=by
 obtain⟨R,h1,h2⟩:=h
 exact⟨R,h1,h2.back hs hd hb⟩
def inR(tag:Nat->Nat)(L:List Nat)(I:AH):AH:=fun c=>if tag c∈L then I c else none
def vt(tag:Nat->Nat)(L:List Nat)(I:AH):AH:=fun c=>if tag c∈L then none else I c
def tagB(tag tag1:Nat->Nat)(L:List Nat)(I:AH):Nat->Nat:=fun c=>if(inR tag L I c).isSome then tag c else tag1 c
variable{L:List Nat}
theorem abf(tag:Nat->Nat)(L:List Nat){K:AH->AH->Prop}(h:K (inR tag L I) (vt tag L I)):pn I K:=by
 refine⟨_,_,fun c o hc=>?_,?_,h⟩
 .unfold inR at hc;unfold vt
  split at hc
  .rename_i e;rw[if_pos e]
  .cases hc
 .funext c;unfold join inR vt
  by_cases e:tag c∈L
  .simp only[e,if_true];cases I c<;>rfl
  .simp[e]
theorem Sep.lentR(hs:Sep ro I):Sep (join ro (inR tag L I)) (vt tag L I):=by
 intro c o hc
 unfold vt at hc
 split at hc
 .cases hc
 .rename_i e
  unfold join inR
  rw[hs c o hc];simp[e]
theorem Row.outR{r:Nat}{e:TypeId}{s:Sl}{l:List Value}(h:Row tag I r e s l)(hr:r∉L):Row tag (SL.vt tag L I) r e s l:=by
 rcases h with h | ⟨c,cs,ha,ht,hs,hx⟩
 .exact .inl h
 .refine .inr ⟨c,cs,ha,ht,?_,hx⟩
  unfold SL.vt;rw[if_neg (by rw[ht];exact hr)];exact hs
theorem Row.lendR{r:Nat}{e:TypeId}{s:Sl}{l:List Value}{p:Addr}{τ:AH}{i:Nat}{v:Value}(h:Row tag I r e s l)(hs:Sep ro I)(hr:r∈L)(hp:s.a=some p)(hv:l[i]?=some v):qa (join ro (inR tag L I)) τ (p.add i)=some v:=by
 rcases h with⟨e,_⟩ | ⟨c,cs,ha,ht,hb,hln,hc,hle,hg⟩
 .rw[e]at hp;cases hp
 .rw[ha]at hp;cases hp
  have hi:i<l.length:=by
   rcases Nat.lt_or_ge i l.length with h | h
   .exact h
   .rw[List.getElem?_eq_none h]at hv;cases hv
  rw[wN,Nat.zero_add]
  have:join ro (inR tag L I) c=some (.cells cs e):=by unfold join inR;rw[hs c _ hb];simp[ht,hr,hb]
  unfold qa rd
  simp only[this,wM]
  rw[<-hv,<-hg i hi];rfl
theorem aje{c:Nat}{o:Obj}(h:inR tag L I c=some o):tag c∈L/\I c=some o:=by
 unfold inR at h
 split at h
 .exact⟨by assumption,h⟩
 .cases h
theorem abA{tag1:Nat->Nat}{c:Nat}(h:inR tag L I c=none):tagB tag tag1 L I c=tag1 c:=by unfold tagB;rw[h];rfl
theorem afe{tag1:Nat->Nat}{c:Nat}{o:Obj}(h:inR tag L I c=some o):tagB tag tag1 L I c=tag c:=by unfold tagB;rw[h];rfl
theorem Row.backR{tag1:Nat->Nat}{τ:AH}{r:Nat}{e:TypeId}{s:Sl}{l:List Value}(h:Row tag1 τ r e s l)(hd:qz (inR tag L I) τ):Row (tagB tag tag1 L I) (join (inR tag L I) τ) r e s l:=by
 rcases h with h | ⟨c,cs,ha,ht,hs,hx⟩
 .exact .inl h
 .have hn:inR tag L I c=none:=by
   cases e:inR tag L I c with
   | none=>rfl
   | some o=>have:=hd c o e;rw[hs]at this;cases this
  exact .inr ⟨c,cs,ha,by rw[abA hn];exact ht,by unfold join;rw[hn];exact hs,hx⟩
theorem qf.backR{tag1:Nat->Nat}{R:List Nat}{τ:AH}(h:qf R (join ro (inR tag L I)) tag (vt tag L I) tag1 τ)(hs:Sep ro I)(hd:qz (inR tag L I) τ):qf R ro tag I (tagB tag tag1 L I) (join (inR tag L I) τ):=by
 have split':∀ c o,I c=some o->inR tag L I c=some o\/(inR tag L I c=none/\vt tag L I c=some o):=fun c o hc=>by
  unfold inR vt
  by_cases e:tag c∈L
  .left;rw[if_pos e];exact hc
  .right;rw[if_neg e,if_neg e];exact⟨rfl,hc⟩
 refine⟨fun c o hc hn=>?_,fun c o hc=>?_,fun c o hc=>?_⟩
 .rcases split' c o hc with h1 | ⟨h1,h2⟩
  .exact⟨afe h1,by unfold join;rw[h1]⟩
  .obtain⟨t1,t2⟩:=h.keep c o h2 hn
   exact⟨by rw[abA h1];exact t1,by unfold join;rw[h1];exact t2⟩
 .rcases split' c o hc with h1 | ⟨h1,h2⟩
  .exact⟨afe h1,o,by unfold join;rw[h1]⟩
  .obtain⟨t1,o',t2⟩:=h.old c o h2
   exact⟨by rw[abA h1];exact t1,o',by unfold join;rw[h1];exact t2⟩
 .rcases pi hc with h1 | ⟨h1,h2⟩
  .exact hs c o (aje h1).2
  .exact(jq (h.sep c o h2)).1
theorem qd.backR{tag1:Nat->Nat}{C:List Nat}{τ:AH}(h:qd C (join ro (inR tag L I)) tag (vt tag L I) tag1 τ)(hs:Sep ro I)(hd:qz (inR tag L I) τ):qd C ro tag I (tagB tag tag1 L I) (join (inR tag L I) τ):=by
 obtain⟨R,h1,h2⟩:=h
 exact⟨R,h1,h2.backR hs hd⟩
end SL
namespace SL
open Go
variable{P:Program}{B:World}{ro I I':AH}{tag tag':Nat->Nat}{κ:Type}[DecidableEq κ]{enc:κ->Value}
section
variable{α:Type}
def aeo:List (κ×α)->κ->α->List (κ×α)
 | [],k,v=>[(k,v)]
 | (k',v')::r,k,v=>if k=k' then(k,v)::r else(k',v')::aeo r k v
def aff:List (κ×α)->κ->List (κ×α)
 | [],_=>[]
 | (k',v')::r,k=>if k=k' then r else(k',v')::aff r k
def aaL:List (κ×α)->κ->Option α
 | [],_=>none
 | (k',v')::r,k=>if k=k' then some v' else aaL r k
end
def acT(enc:κ->Value)(p:κ×Value):Value×Value:=(enc p.1,p.2)
def abg(k:κ):List (κ×Value)->Nat->Option (Nat×Value)
 | [],_=>none
 | p::m,i=>if k=p.1 then some (i,p.2)else abg k m (i+1)
structure agv(P:Program)(kt:TypeId)(enc:κ->Value):Prop where
 check:∀ {ro I:AH} {β:Type} {em:Bool} {k:κ} {f:Unit->Sem β} {K:β->AH->Prop},awp P ro (f ()) K I->awp P ro (Sem.bind (Instr.checkKey em 10000 kt (enc k)) f) K I
 find:∀ {ro I:AH} {β:Type} {k:κ} {l:List MapEntry} {m:List (κ×Value)} {f:Option (Nat×Value)->Sem β} {K:β->AH->Prop},l.map aaX=m.map (acT enc)->awp P ro (f (abg k m 0)) K I->awp P ro (Sem.bind (Instr.findKey kt (enc k) l) f) K I
 stays:∀ k,Instr.keyThatStays (enc k) (enc k)=Sem.pure (enc k)
structure px(enc:κ->Value)(tag:Nat->Nat)(I:AH)(r b:Nat)(m:List (κ×Value)):Prop where
 tg:tag b=r
 obj:∃ es clock,I b=some (.map es clock)/\es.toList.map aaX=m.map (acT enc)/\ahY es clock
theorem px.keep{R:List Nat}{r b:Nat}{m:List (κ×Value)}(h:px enc tag I r b m)(k:qf R ro tag I tag' I')(hr:r∉R:=by simp):px enc tag' I' r b m:=by
 obtain⟨es,c,hb,hx⟩:=h.obj
 obtain⟨t,e⟩:=k.keep b _ hb (by rw[h.tg];exact hr)
 exact⟨t.trans h.tg,es,c,e,hx⟩
theorem px.keepS{C:List Nat}{r b:Nat}{m:List (κ×Value)}(h:px enc tag I r b m)(k:qd C ro tag I tag' I')(hr:r%64∉C:=by decide):px enc tag' I' r b m:=by
 obtain⟨R,h1,h2⟩:=k
 exact h.keep h2 fun m=>hr (h1 _ m)
theorem aeT(k:κ):∀ (m:List (κ×Value)) (i:Nat),
  (aaL m k=none/\aff m k=m/\(∀v,aeo m k v=m++[(k,v)])/\abg k m i=none)\/
  ∃j v,j<m.length/\aaL m k=some v/\abg k m i=some (i+j,v)/\m[j]?=some (k,v)/\(∀v',aeo m k v'=m.set j (k,v'))/\aff m k=m.eraseIdx j:=by
 intro m
 induction m with
 | nil=>intro i;exact .inl ⟨rfl,rfl,fun _=>rfl,rfl⟩
 | cons p m ih=>
  intro i
  obtain⟨pk,pv⟩:=p
  by_cases c:k=pk
  .subst c
   exact .inr ⟨0,pv,by simp,by simp[aaL],by simp[abg],rfl,fun v'=>by simp[aeo],by simp[aff]⟩
  .rcases ih (i+1)with⟨a,b,d,f⟩ | ⟨j,v,hj,a,f,g,q,w⟩
   .exact .inl ⟨by simp[aaL,c,a],by simp[aff,c,b],fun v=>by simp[aeo,c,d],by simp[abg,c,f]⟩
   .exact .inr ⟨j+1,v,by simp;omega,by simp[aaL,c,a],by simp[abg,c];rw[f];congr 2;omega,by simpa using g,fun v'=>by simp[aeo,c,q],by simp[aff,c,w]⟩
theorem agw{t kt et:TypeId}{zv:Value}{n bt r b:Nat}{m:List (κ×Value)}{k:κ}{ok:Bool}{K:Value->AH->Prop}(hm:px enc tag I r b m)(hs:Sep ro I)(ht:P.underlying t=some (.map kt et))(hk:agv P kt enc)(hz:qp P et zv n bt)
  (hK:K (if ok then .tuple #[(aaL m k).getD zv,.bool (aaL m k).isSome]else(aaL m k).getD zv) I):awp P ro (Instr.lookup t (.map (some b)) (enc k) ok) K I:=by
 obtain⟨es,clock,hb,he,hbn⟩:=hm.obj
 unfold Instr.lookup
 simp only[qw]
 rw[qu ht]
 simp only[bind_assoc']
 refine⟨.map es clock,by unfold rd;rw[hs b _ hb];exact hb,rfl,?_⟩
 refine hk.check ?_
 refine hk.find he ?_
 rcases aeT k m 0 with⟨a,_,_,f⟩ | ⟨j,v,hj,a,f,_⟩
 .rw[f]
  simp only[bind_assoc']
  rw[aav hz]
  rw[a]at hK
  exact hK
 .rw[f]
  rw[a]at hK
  exact hK
theorem agV{t kt et:TypeId}{zv:Value}{n bt r b:Nat}{m:List (κ×Value)}{k:κ}{K:Value->AH->Prop}(hm:px enc tag I r b m)(hs:Sep ro I)(ht:P.underlying t=some (.map kt et))(hk:agv P kt enc)(hz:qp P et zv n bt)
  (hK:K ((aaL m k).getD zv) I):awp P ro (Instr.lookup t (.map (some b)) (enc k) false) K I:=agw hm hs ht hk hz hK
theorem aee{t kt et:TypeId}{r b:Nat}{m:List (κ×Value)}{k:κ}{v:Value}{K:Unit->AH->Prop}(hm:px enc tag I r b m)(hs:Sep ro I)(ht:P.underlying t=some (.map kt et))(hk:agv P kt enc)
  (hK:∀ I',qf [r] ro tag I tag I'->px enc tag I' r b (aeo m k v)->K () I'):awp P ro (Instr.mapUpdate t (.map (some b)) (enc k) v) K I:=by
 obtain⟨es,clock,hb,he,hbn⟩:=hm.obj
 have hsz:es.toList.length=m.length:=by have:=congrArg List.length he;simpa using this
 unfold Instr.mapUpdate
 simp only[qw]
 rw[qu ht]
 refine⟨.map es clock,by unfold rd;rw[hs b _ hb];exact hb,rfl,?_⟩
 refine hk.check ?_
 refine hk.find he ?_
 rcases aeT k m 0 with⟨a,_,d,f⟩ | ⟨j,u,hj,a,f,g,q,_⟩
 .rw[f]
  refine⟨.map es clock,hb,rfl,?_⟩
  refine hK _ (pq hs hm.tg hb) ⟨hm.tg,_,_,we _ _ _,?_,?_,?_⟩
  .rw[d v,Array.toList_push,List.map_append,List.map_append,he];rfl
  .intro e he'
   rw[Array.toList_push]at he'
   rcases List.mem_append.1 he' with h | h
   .have:=hbn.lt e h;omega
   .rw[List.mem_singleton]at h;rw[h];exact Nat.lt_succ_self _
  .rw[Array.toList_push,List.map_append,List.nodup_append]
   refine⟨hbn.nd,by simp,?_⟩
   intro x hx y hy
   obtain⟨e,he',rfl⟩:=List.mem_map.1 hx
   have:=hbn.lt e he'
   simp at hy;omega
 .rw[f]
  have hjl:j<es.toList.length:=by omega
  have hje:j<es.size:=by simpa using hjl
  have hkey:es[j].key=enc k:=by
   have h1:(es.toList.map aaX)[j]?=(m.map (acT enc))[j]?:=by rw[he]
   rw[List.getElem?_map,List.getElem?_map,g,List.getElem?_eq_getElem hjl]at h1
   have:=Option.some.inj h1
   exact congrArg Prod.fst this
  have hst:(((es[0+j]?).map (·.key)).getD (enc k))=enc k:=by
   rw[Nat.zero_add,Array.getElem?_eq_getElem hje]
   exact hkey
  simp only
  rw[hst,hk.stays k]
  refine⟨.map es clock,hb,rfl,?_⟩
  have hml:(es.modify (0+j) fun e=>{e with key:=enc k,val:=v}).toList=es.toList.modify j fun e=>{e with key:=enc k,val:=v}:=by
   rw[Nat.zero_add];exact Array.toList_modify ..
  refine hK _ (pq hs hm.tg hb) ⟨hm.tg,_,_,we _ _ _,?_,?_,?_⟩
  .rw[hml,q v]
   apply List.ext_getElem?
   intro i
   rw[List.getElem?_map,List.getElem?_map,List.getElem?_modify,List.getElem?_set]
   have hi:(es.toList.map aaX)[i]?=(m.map (acT enc))[i]?:=by rw[he]
   rw[List.getElem?_map,List.getElem?_map]at hi
   by_cases c:j=i
   .subst c
    rw[if_pos rfl,if_pos hj,List.getElem?_eq_getElem hjl]
    simp[aaX,acT]
   .rw[if_neg c]
    simp only[c,if_false]
    cases h:es.toList[i]? with
    | none=>rw[h]at hi;simpa using hi
    | some e=>rw[h]at hi;simpa using hi
  .intro e he'
   rw[hml]at he'
   obtain⟨i,hi,rfl⟩:=List.getElem_of_mem he'
   rw[List.getElem_modify]
   rw[List.length_modify]at hi
   split
   .have:=hbn.lt _ (List.getElem_mem hi)
    exact this
   .have:=hbn.lt _ (List.getElem_mem hi)
    exact this
  .rw[hml]
   have:(es.toList.modify j fun e=>{e with key:=enc k,val:=v}).map (·.born)=es.toList.map (·.born):=by
    apply List.ext_getElem?
    intro i
    rw[List.getElem?_map,List.getElem?_map,List.getElem?_modify]
    by_cases c:j=i
    .subst c;rw[List.getElem?_eq_getElem hjl];simp
    .simp[c]
   rw[this];exact hbn.nd
theorem afg(enc:κ->Value)(r:Nat){K:Nat->AH->Prop}(hs:Sep ro I)(hK:∀ b tag' I',(∀R,qf R ro tag I tag' I')->px enc tag' I' r b []->K b I'):nw ro I (.map #[] 0) K:=by
 intro b hro hb
 exact hK b (setTag tag b r) _ (fun R=>qf.fresh hs hro hb) ⟨by simp[setTag],_,_,we _ _ _,rfl,by simp,by simp⟩
theorem ajf{t kt et ty:TypeId}{r b:Nat}{m:List (κ×Value)}{K:Value->AH->Prop}(hm:px enc tag I r b m)(hs:Sep ro I)(ht:P.underlying t=some (.map kt et))(hK:K (.int .i64 (m.length:Nat)) I):awp P ro (Builtin.len_ #[t] ty #[.map (some b)]) K I:=by
 obtain⟨es,clock,hb,he,hbn⟩:=hm.obj
 unfold Builtin.len_
 simp only[qw]
 show awp P ro (Sem.bind (underlying t) _) K I
 rw[qu ht]
 refine⟨.map es clock,by unfold rd;rw[hs b _ hb];exact hb,rfl,?_⟩
 have hsz:es.size=m.length:=by have:=congrArg List.length he;simpa using this
 show K (.int .i64 (es.size:Nat)) I
 rw[hsz];exact hK
theorem afh{t kt et:TypeId}{r M:Nat}{m:List (κ×Value)}{K:Value->AH->Prop}(ht:P.underlying t=some (.map kt et))(hm:px enc tag I r M m)(hs:Sep ro I)
  (hK:∀ (es:Array MapEntry) (clock x:Nat),I M=some (.map es clock)->es.toList.map aaX=m.map (acT enc)->ahY es clock->ro x=none->I x=none->K (.pointer (some ⟨x,0,none⟩)) (upd I x (.mapIter (some M) clock #[] clock))):
  awp P ro (Instr.range t (.map (some M))) K I:=by
 obtain⟨es,clock,hb,he,hbn⟩:=hm.obj
 unfold Instr.range
 simp only[qw]
 rw[qu ht]
 refine⟨.map es clock,by unfold rd;rw[hs M _ hb];exact hb,rfl,?_⟩
 intro x hro hx
 exact hK es clock x hb he hbn hro hx
end SL
namespace Pa
open Go SL G Go.RowKit
variable{B:World}{ro I I':AH}{tag tag':Nat->Nat}
theorem alt(s:ByteArray)(i:Nat)(h:i<s.size):s[i]?=some ((L s)[i]'(by rw[zu];exact h)):=by
 conv=>lhs;rw[<-S_L s]
 rw[ajR,List.getElem?_eq_getElem]
theorem ahj(c:UInt8):okc c=true↔(((97<=(c.toNat:Int)/\(c.toNat:Int)<=122)\/(48<=(c.toNat:Int)/\(c.toNat:Int)<=57))\/(c.toNat:Int)=46)\/(c.toNat:Int)=95\/(c.toNat:Int)=45:=by
 simp[okc];omega
theorem ajg{s:ByteArray}{Q:Bool->AH->Prop}(hQ:Q (wU (L s)) I):abq B ro s I Q:=by
 refine afU fun hs=>?_
 unfold abz
 by_cases g:((((s.size:Int)<1)\/(32<(s.size:Int)))\/s=⟨#[46]⟩)\/s=⟨#[46,46]⟩
 .rw[if_pos g]
  have:wU (L s)=false:=by
   rw[Bool.eq_false_iff]
   intro h
   unfold wU at h
   simp only[Bool.and_eq_true,decide_eq_true_eq,bne_iff_ne]at h
   obtain⟨⟨⟨⟨h1,h2⟩,h3⟩,h4⟩,_⟩:=h
   rw[zu]at h1 h2
   rcases g with((g | g) | g) | g
   .omega
   .omega
   .rw[g]at h3;exact h3 rfl
   .rw[g]at h4;exact h4 rfl
  rw[this]at hQ;exact hQ
 .rw[if_neg g]
  have hall:wU (L s)=(L s).all okc:=by
   unfold wU
   have e1:1<=(L s).length:=by rw[zu];omega
   have e2:(L s).length<=32:=by rw[zu];omega
   have e3:L s≠[46]:=fun h=>g (.inl (.inr (uK h)))
   have e4:L s≠[46,46]:=fun h=>g (.inr (uK h))
   simp[e1,e2,e3,e4]
  rw[hall]at hQ
  have h32:s.size<=32:=by omega
  suffices∀m j,j+m=s.size->(∀i,i<j->∀ c,(L s)[i]?=some c->okc c=true)->lfpD (jn B ro s Q) (j:Int) I from
   this s.size 0 (Nat.zero_add _) (fun i h=>absurd h (Nat.not_lt_zero _))
  intro m
  induction m with
  | zero=>
   intro j hj hk
   refine lfpD.intro ?_
   unfold jn
   rw[if_neg (by omega)]
   have:(L s).all okc=true:=by
    rw[List.all_eq_true]
    intro c hc
    obtain⟨i,hi,e⟩:=List.getElem_of_mem hc
    exact hk i (by rw[zu]at hi;omega) c (by rw[List.getElem?_eq_getElem hi,e])
   rw[this]at hQ;exact hQ
  | succ m ih=>
   intro j hj hk
   have hjl:j<(L s).length:=by rw[zu];omega
   refine lfpD.intro ?_
   unfold jn
   rw[if_pos (by omega)]
   refine⟨(L s)[j],by omega,by rw[Int.toNat_natCast];exact alt s j (by omega),?_⟩
   have key:∀ x:Bool,(((x=true\/((L s)[j].toNat:Int)=46)\/((L s)[j].toNat:Int)=95)\/((L s)[j].toNat:Int)=45↔okc (L s)[j]=true)->jm B ro s j (L s)[j] Q (lfpD (jn B ro s Q)) x I:=by
    intro x hx
    unfold jm
    by_cases c:okc (L s)[j]=true
    .rw[if_neg (fun h=>h (hx.2 c)),inc j (by omega)]
     refine ih (j+1) (by omega) fun i hi c' hc'=>?_
     rcases Nat.lt_or_ge i j with h | h
     .exact hk i h c' hc'
     .have:i=j:=by omega
      subst this
      rw[List.getElem?_eq_getElem hjl]at hc'
      cases hc';exact c
    .rw[if_pos (fun h=>c (hx.1 h))]
     have:(L s).all okc=false:=by
      rw[Bool.eq_false_iff,ne_eq,List.all_eq_true]
      exact fun h=>c (h _ (List.getElem_mem hjl))
     rw[this]at hQ;exact hQ
   by_cases b1:(97:Int)<=((L s)[j].toNat:Int)/\((L s)[j].toNat:Int)<=122
   .rw[if_pos b1]
    exact key _ (by rw[ahj];simp;omega)
   .rw[if_neg b1]
    exact key _ (by rw[ahj];simp;omega)
def abB:Nat->Nat->Str
 | 0,_=>[]
 | k+1,n=>abB k (n / 10)++[UInt8.ofNat (48+n%10)]
theorem aiy(k:Nat):abB k 0=List.replicate k 48:=by
 induction k with
 | zero=>rfl
 | succ k ih=>rw[abB,Nat.zero_div,ih,List.replicate_succ'];rfl
theorem ajh:∀ (k n:Nat),n<10 ^ (k+1)->(Lib.decDigits n).length<=k+1/\List.replicate (k+1 - (Lib.decDigits n).length) 48++Lib.decDigits n=abB (k+1) n:=by
 intro k
 induction k with
 | zero=>
  intro n h
  have h:n<10:=by simpa using h
  rw[Lib.decDigits,dif_pos h]
  refine⟨by simp,?_⟩
  simp[abB,Nat.mod_eq_of_lt h]
 | succ k ih=>
  intro n h
  by_cases h10:n<10
  .rw[Lib.decDigits,dif_pos h10]
   refine⟨by simp,?_⟩
   rw[abB,Nat.div_eq_of_lt h10,aiy,Nat.mod_eq_of_lt h10];simp
  .rw[Lib.decDigits,dif_neg h10]
   obtain⟨h1,h2⟩:=ih (n / 10) (by rw[Nat.div_lt_iff_lt_mul (by omega)];rw[Nat.pow_succ]at h;exact h)
   refine⟨by simp;omega,?_⟩
   rw[abB,<-h2]
   simp only[List.length_append,List.length_cons,List.length_nil,<-List.append_assoc]
   rw[show k+1+1 - ((Lib.decDigits (n / 10)).length+(0+1))=k+1 - (Lib.decDigits (n / 10)).length by omega]
theorem aji(k n:Nat):(abB k n).length=k:=by
 induction k generalizing n with
 | zero=>rfl
 | succ k ih=>rw[abB,List.length_append,ih];rfl
theorem agW(c:UInt8)(k:Nat):Lib.repeatL [c] k=List.replicate k c:=by
 induction k with
 | zero=>rfl
 | succ k ih=>rw[Lib.repeatL,ih];rfl
theorem aj9{n:Nat}{Q:ByteArray->AH->Prop}(g:yT ro)(hn:n<9223372036854775808)(hQ:Q (S (Lib.decDigits n)) I):acw B ro (n:Int) I Q:=by
 refine qb.of_calls fun w hw hsep=>?_
 refine(Tryz.strconv_Itoa (n:Int) (by omega) (by omega) w (g.tab w (ahg hw))).mono ?_
 rintro e w' ⟨he,k,os,rfl⟩
 have hb:Below w.heap.size w (Go.Sort.grow (w.drewN k) os):=⟨rfl,rfl,rfl,by simp[Go.Sort.grow,World.drewN],fun b hb=>by
  simp only[Go.Sort.grow,World.drewN]
  rw[Array.getElem?_append_left hb]⟩
 refine⟨_,fun _=>none,he,hb,ae4.none _ _,S (Lib.decDigits n),?_,?_⟩
 .rw[Lib.itoa_nonneg];rfl
 .rw[pc];exact hQ
theorem aiz{k:Nat}{Q:ByteArray->AH->Prop}(hk:k<=100)(hQ:Q (S (List.replicate k 48)) I):abt B ro (⟨#[48]⟩:ByteArray) (k:Int) I Q:=by
 refine qb.of_calls fun w hw hsep=>?_
 refine(Tryz.strings_Repeat (⟨#[48]⟩:ByteArray) k w (by omega) (by show 1*k<=_;omega)).mono ?_
 rintro e w' ⟨he,hb⟩
 refine⟨_,fun _=>none,he,hb,ae4.none _ _,S (List.replicate k 48),?_,?_⟩
 .rw[show(⟨#[48]⟩:ByteArray).data.toList=[48]from rfl,agW];rfl
 .rw[pc];exact hQ
def uW(n:Int):Str:=abB 10 n.toNat
def uX(l:Str)(n:Int):Option Str:=
 match parts l with
 | some ps=>if ps=[]\/n<0\/9999999999<n then none else if(parts (l++uW n)).isSome then some (l++uW n)else none
 | none=>none
theorem aiA{p:ByteArray}{n:Int}{Q:ByteArray->Int->AH->Prop}(g:yT ro)(hnone:uX (L p) n=none->Q (⟨#[]⟩:ByteArray) 20 I)(hsome:∀ u,uX (L p) n=some u->Q (S u) 0 I):aa2 B ro p n I Q:=by
 refine afb fun hs=>?_
 unfold aa5
 by_cases h1:(p=⟨#[47]⟩\/n<0)\/9999999999<n
 .rw[if_pos h1]
  unfold xM
  rw[if_pos rfl]
  refine hnone ?_
  unfold uX
  cases h:parts (L p)with
  | none=>rfl
  | some ps=>
   obtain⟨hl,hg⟩:=adu.1 h
   refine if_pos ?_
   rcases h1 with(h1 | h1) | h1
   .exact .inl ((aiw hg).1 (by rw[<-hl,h1];rfl))
   .exact .inr (.inl h1)
   .exact .inr (.inr h1)
 .rw[if_neg h1]
  have hp1:p≠⟨#[47]⟩:=fun h=>h1 (.inl (.inl h))
  obtain⟨m,rfl⟩:∃ m:Nat,n=m:=⟨n.toNat,by omega⟩
  refine acS g ?_
  unfold xM
  by_cases h2:chk (L p)=0
  .rw[if_neg (by simpa using h2)]
   obtain⟨ps,hps⟩:=pw.1 h2
   obtain⟨hl,hg⟩:=adu.1 hps
   have hn:ps≠[]:=fun e=>hp1 (uK (by rw[hl,e];rfl))
   refine aj9 g (by omega) ?_
   obtain⟨hd1,hd2⟩:=ajh 9 m (by show m<10000000000;omega)
   have e1:i64.wrap (10 - ((S (Lib.decDigits m)).size:Int))=((9+1 - (Lib.decDigits m).length:Nat):Int):=by
    rw[aeP,SL.qW (by omega) (by omega)];omega
   rw[e1]
   refine aiz (by omega) ?_
   have hsz:p.size=(mk ps).length:=by rw[<-zu,hl]
   have h128:=hg.len
   rw[agn,hd2]
   refine⟨by simp only[aeP,List.length_replicate];omega,by rw[aeP,aji];omega,?_⟩
   have e2:p++S (abB (9+1) m)=S (L p++uW m):=by
    conv=>lhs;rw[<-S_L p]
    rw[agn];rfl
   rw[e2]
   refine acS g ?_
   rw[L_S]
   have hsuf:uX (L p) (m:Int)=if(parts (L p++uW m)).isSome then some (L p++uW m)else none:=by
    unfold uX;rw[hps];simp only;rw[if_neg fun h=>h.elim hn (by omega)]
   by_cases h3:chk (L p++uW m)=0
   .rw[if_neg (by simpa using h3)]
    obtain⟨qs,hqs⟩:=pw.1 h3
    refine hsome _ ?_
    rw[hsuf,hqs];rfl
   .rw[if_pos (by simpa using h3)]
    have e3:parts (L p++uW m)=none:=by
     cases h:parts (L p++uW m)with
     | none=>rfl
     | some qs=>exact absurd (pw.2 ⟨qs,h⟩) h3
    have:chk (L p++uW m)=20:=by unfold chk;rw[e3];rfl
    rw[this]
    refine hnone ?_
    rw[hsuf,e3];rfl
  .rw[if_pos (by simpa using h2)]
   refine hnone ?_
   unfold uX
   cases h:parts (L p)with
   | none=>rfl
   | some ps=>exact absurd (pw.2 ⟨ps,h⟩) h2
end Pa
namespace G
open Go SL
variable{B:World}{ro I:AH}
def ux(B:World)(ro:AH)(a0:Option Addr)(a1:ByteArray)(I:AH)(Q:Sl->Int->Int->Int->Int->Int->AH->Prop):=
 nw ro I (.cells #[.int .i64 0,.int .i64 0,.int .i64 0,.int .i64 0] 26) fun u0 I=>
 pU B ro a0 a1 I fun u1 u2 I=>
 if¬(u2=0)then
 stN ⟨u0,0,none⟩ (fun I=>
  ∃u3 u4 u5 u6,qj ro I ⟨u0,0,none⟩ 0 [.int .i64 u3,.int .i64 u4,.int .i64 u5,.int .i64 u6]/\
  Q (⟨none,0,0⟩:Sl) u3 u4 u5 u6 u2 I) [.int .i64 0,.int .i64 0,.int .i64 0,.int .i64 0] 0 I
 else
 pn I fun U I=>
 ∃p7,u1=some p7/\
 ∃p8,u1=some p8/\
 ∃u9 u10 u11 u12,qj (join ro U) (fun _=>none) p8 0 [.int .i64 u9,.int .i64 u10,.int .i64 u11,.int .i64 u12]/\
 ∃u13,qa (join ro U) I (p7.add 4)=some (Sl.v u13)/\
 kO B (join ro U) u13 I fun u14 I=>
 stN ⟨u0,0,none⟩ (fun I=>
  (qz U I->(fun I=>
  ∃u15 u16 u17 u18,qj ro I ⟨u0,0,none⟩ 0 [.int .i64 u15,.int .i64 u16,.int .i64 u17,.int .i64 u18]/\
  Q u14 u15 u16 u17 u18 0 I) (join U I))) [.int .i64 u9,.int .i64 u10,.int .i64 u11,.int .i64 u12] 0 I
theorem ad0{a0:Option Addr}{a1:ByteArray}{Q:Sl->Int->Int->Int->Int->Int->AH->Prop}(h:Sep ro I->ux B ro a0 a1 I Q):uu B ro a0 a1 I Q:=by
 refine zb h func25 ntmps25 fun h=>?_;unfold ux at h;refine z3 ?_;refine zp ?_;refine zA (wH rfl jS) h fun u0 h=>?_;refine zp ?_;refine z4 ?_;iterate 2 refine zp ?_
 refine zc func79 h ?_;rintro v I ⟨u1,u2,rfl,h⟩;iterate 5 refine zp ?_
 refine z2 (AW.seq (z3 ?_))
 iterate 2 refine zp ?_
 refine z2 ?_;refine AW.iff rfl (qt decide_eq_true_iff) h (fun h=>?_) (fun h=>?_)
 .refine z3 ?_;refine zm (wV (vs:=[]) (cs:= #[.int .i64 0,.int .i64 0,.int .i64 0,.int .i64 0]) rfl underlying26 jS akB rfl rfl) ?_;iterate 2 refine zp ?_
  refine zs jS h fun I h=>?_;refine zp ?_;refine z2 ?_;refine AW.ret ?_;refine qi ?_;obtain⟨u3,u4,u5,u6,hc1,h⟩:=h
  exact bRM results25 (wS (aaW rfl) (wS (jR rfl underlying26 rfl jS hc1) (wS (aaW rfl) jQ))) ⟨_,_,_,_,_,_,rfl,h⟩
 refine AW.skip ?_;refine qc (AW.seq ?_);refine AW.drawnL (fun i=>([0,0,0,3,2,0,0,0,0,0,2,0]:List Nat).getD i 2) [] [0,1,2,5,6,7,8,3,4,9,10,11] mixed h (by decide+kernel) ?_
 clear h
 intro U I h
 refine zq ?_;obtain⟨p7,hc,h⟩:=h
 refine Dp rfl rfl rfl rfl (wD rfl (by rw[<-hc];rfl)) ?_
 refine zg underlying168 qV ?_;refine zq ?_;obtain⟨p8,hc,h⟩:=h
 refine Dp rfl rfl rfl rfl (wD rfl (by rw[<-hc];rfl)) ?_
 refine zg underlying168 jS ?_;obtain⟨u9,u10,u11,u12,hc,h⟩:=h
 refine Dp rfl rfl rfl rfl (acL rfl underlying26 rfl jS rfl hc) ?_
 obtain⟨u13,hc,h⟩:=h
 refine Dr rfl rfl rfl rfl (vb rfl underlying24 rfl rfl hc) ?_
 refine Dg rfl rfl rfl rfl (qF rfl func80 rfl rfl rfl (qb.mono h ?_))
 rintro v I ⟨u14,rfl,h⟩;refine zq ?_;refine Dg rfl rfl rfl rfl (aej rfl jS rfl rfl rfl rfl (us h fun I h=>?_))
 refine zq ?_;refine⟨_,wg.refl _,fun hdj=>?_⟩
 replace h:=h hdj
 refine qc ?_;refine AW.ret ?_;obtain⟨u15,u16,u17,u18,hc1,h⟩:=h
 exact bRM results25 (wS (aaW rfl) (wS (jR rfl underlying26 rfl jS hc1) (wS (aaW rfl) jQ))) ⟨_,_,_,_,_,_,rfl,h⟩
def acf(B:World)(ro I:AH)(Q:Option Addr->AH->Prop):Prop:=
 nw ro I (.map #[] 0) fun u0 I=>
 nw ro I (.cells #[.int .i64 0,.int .i64 0,.int .i64 0,.int .i64 0,Sl.v (⟨none,0,0⟩:Sl)] 168) fun u1 I=>
 awp prog ro (Instr.mapUpdate 237 (.map (some u0)) (.string (⟨#[47]⟩:ByteArray)) (.pointer (some ⟨u1,0,none⟩))) (fun _ I=>
 nw ro I (.cells #[.map (some u0)] 239) fun u2 I=>
 Q (some ⟨u2,0,none⟩) I) I
theorem agx{Q:Option Addr->AH->Prop}(h:Sep ro I->acf B ro I Q):ab8 B ro I Q:=by
 refine zb h func66 ntmps66 fun h=>?_;unfold acf at h;refine z3 ?_;refine zp ?_;refine z4 ?_;refine zA (aeL rfl) h fun u0 h=>?_;refine zm (wV (vs:=[]) (cs:= #[.int .i64 0,.int .i64 0,.int .i64 0,.int .i64 0,Sl.v (⟨none,0,0⟩:Sl)]) rfl underlying168 ajT ajV rfl rfl) ?_;refine zA (vq rfl rfl) h fun u1 h=>?_;refine zl (af7 (.inr rfl) rfl rfl rfl (qv _ h ?_))
 rintro _ I h
 refine zp ?_;refine zm (wV (vs:=[(0,.map (some u0))]) (cs:= #[.map (some u0)]) rfl underlying239 ald aln rfl rfl) ?_;refine zA (vq rfl rfl) h fun u2 h=>?_;refine zp ?_;refine z2 ?_;refine AW.ret ?_;exact bR1 results66 rfl ⟨_,rfl,h⟩
def pV(B:World)(ro:AH)(a0:Option Addr)(a1:ByteArray)(I:AH)(Q:Option Addr->Int->AH->Prop):=
 xT B ro a1 I fun u0 I=>
 if¬(u0=0)then
 Q none u0 I
 else
 ∃p1,a0=some p1/\
 ∃u2,qa ro I p1=some (.map u2)/\
 awp prog ro (Instr.lookup 237 (.map u2) (.string a1) false) (fun v I=>
 (∃(u3:Option Addr),v= .pointer u3/\
  if u3=none then
  Q none 70 I
  else
  Q u3 0 I)) I
theorem adx{a0:Option Addr}{a1:ByteArray}{Q:Option Addr->Int->AH->Prop}(h:Sep ro I->pV B ro a0 a1 I Q):pU B ro a0 a1 I Q:=by
 refine zb h func79 ntmps79 fun h=>?_;unfold pV at h;refine z3 ?_;iterate 2 refine zp ?_
 refine z2 (AW.seq (z3 ?_))
 refine zp ?_;refine zc func82 h ?_;rintro v I ⟨u0,rfl,h⟩;refine zp ?_;refine z4 ?_;iterate 2 refine zp ?_
 refine z2 ?_;refine AW.iff rfl (qt decide_eq_true_iff) h (fun h=>?_) (fun h=>?_)
 .refine z3 ?_;iterate 3 refine zp ?_
  refine z2 ?_;refine AW.ret ?_;refine qi ?_;exact bR2 results79 rfl rfl ⟨_,_,rfl,h⟩
 refine AW.skip ?_;refine qc (z3 ?_);refine zp ?_;refine zN h fun p1 h=>?_;refine zf underlying239 aeR ?_;refine zL underlying237 h fun u2 h=>?_;refine zp ?_;refine zl (af6 rfl rfl rfl (qv _ h ?_))
 rintro v I ⟨u3,rfl,h⟩;refine zp ?_;refine z2 (AW.seq (z3 ?_))
 refine zp ?_;refine zm (af5 rfl underlying164 rfl rfl) ?_;refine z2 ?_;refine AW.iff rfl jr h (fun h=>?_) (fun h=>?_)
 .refine z3 ?_;iterate 2 refine zp ?_
  refine z2 ?_;refine AW.ret ?_;refine qi ?_;exact bR2 results79 rfl rfl ⟨_,_,rfl,h⟩
 refine AW.skip ?_;refine qc (z3 ?_);iterate 3 refine zp ?_
 refine z2 ?_;refine AW.ret ?_;exact bR2 results79 rfl rfl ⟨_,_,rfl,h⟩
def zx(B:World)(ro:AH)(a0:Option Addr)(a2:Sl)(a3:Int)(u0:Option Addr)(Q:ByteArray->Int->AH->Prop)(u1:ByteArray)(I:AH):=
 ∃p2,a0=some p2/\
 ∃u3,qa ro I p2=some (.map u3)/\
 awp prog ro (Instr.lookup 237 (.map u3) (.string u1) false) (fun v I=>
 (∃(u4:Option Addr),v= .pointer u4/\
  if¬(u4=none)then
  Q (⟨#[]⟩:ByteArray) 71 I
  else
  pn I fun U I=>
  ∃p5,a0=some p5/\
  ∃u6,qa (join ro U) (fun _=>none) p5=some (.map u6)/\
  kO B (join ro U) a2 I fun u7 I=>
  nw (join ro U) I (.cells #[.int .i64 0,.int .i64 0,.int .i64 a3,.int .i64 0,Sl.v u7] 168) fun u8 I=>
  awp prog (join ro U) (Instr.mapUpdate 237 (.map u6) (.string u1) (.pointer (some ⟨u8,0,none⟩))) (fun _ I=>
   (qz U I->(fun I=>
   ∃p9,u0=some p9/\
   ∃u10,qa ro I (p9.add 1)=some (.int .i64 u10)/\
   ∃p11,u0=some p11/\
   stN (p11.add 1) (fun I=>
    ∃p12,u0=some p12/\
    ∃u13,qa ro I (p12.add 3)=some (.int .i64 u13)/\
    ∃p14,u0=some p14/\
    stN (p14.add 3) (fun I=>
    Q u1 0 I) [.int .i64 (i64.wrap (u13+1))] 0 I) [.int .i64 (i64.wrap (u10+1))] 0 I) (join U I))) I)) I
def yU(B:World)(ro:AH)(a0:Option Addr)(a1:ByteArray)(a2:Sl)(a3:Int)(a4:Bool)(I:AH)(Q:ByteArray->Int->AH->Prop):=
 aa1 B ro a1 I fun u0 u1 I=>
 if¬(u1=0)then
 Q (⟨#[]⟩:ByteArray) u1 I
 else
 if 256<(a2.len:Int)then
 Q (⟨#[]⟩:ByteArray) 75 I
 else
 if(a3<0)\/(4611686018427387903<a3)then
 Q (⟨#[]⟩:ByteArray) 10 I
 else
 ∃p2,a0=some p2/\
 ∃u3,qa ro I p2=some (.map u3)/\
 awp prog ro (Instr.lookup 237 (.map u3) (.string u0) false) (fun v I=>
 (∃(u4:Option Addr),v= .pointer u4/\
  if u4=none then
  Q (⟨#[]⟩:ByteArray) 70 I
  else
  ∃p5,u4=some p5/\
  ∃u6,qa ro I (p5.add 2)=some (.int .i64 u6)/\
  if¬(u6=0)then
  Q (⟨#[]⟩:ByteArray) 74 I
  else
  ∃p7,u4=some p7/\
  ∃u8,qa ro I (p7.add 1)=some (.int .i64 u8)/\
  if 9999999999<u8 then
  Q (⟨#[]⟩:ByteArray) 76 I
  else
  if a4=true then
  ∃p9,u4=some p9/\
  ∃u10,qa ro I (p9.add 1)=some (.int .i64 u10)/\
  aa2 B ro a1 u10 I fun u11 u12 I=>
  if¬(u12=0)then
   Q (⟨#[]⟩:ByteArray) u12 I
  else
  zx B ro a0 a2 a3 u4 Q u11 I
  else
  zx B ro a0 a2 a3 u4 Q a1 I)) I
theorem acU{a0:Option Addr}{a1:ByteArray}{a2:Sl}{a3:Int}{a4:Bool}{Q:ByteArray->Int->AH->Prop}(h:Sep ro I->yU B ro a0 a1 a2 a3 a4 I Q):yQ B ro a0 a1 a2 a3 a4 I Q:=by
 refine zb h func122 ntmps122 fun h=>?_;unfold yU at h;refine z3 ?_;iterate 2 refine zp ?_
 refine z4 ?_;refine zp ?_;refine zc func179 h ?_;rintro v I ⟨u0,u1,rfl,h⟩;iterate 5 refine zp ?_
 refine z2 (AW.seq (AW.block (z3 ?_)))
 iterate 3 refine zp ?_
 refine z2 ?_;refine AW.iff rfl (qt decide_eq_true_iff) h (fun h=>?_) (fun h=>?_)
 .refine z3 ?_;iterate 3 refine zp ?_
  refine z2 ?_;refine AW.ret ?_;refine qQ (qi ?_);exact bR2 results122 rfl rfl ⟨_,_,rfl,h⟩
 refine z3 ?_;refine zp ?_;refine zm (qJ rfl rfl underlying24 rfl rfl) ?_;iterate 2 refine zp ?_
 refine z2 ?_;refine zi h (fun h=>?_) fun h=>?_
 .refine z3 ?_;iterate 2 refine zp ?_
  refine z2 ?_;refine AW.ret ?_;refine qQ (qi ?_);exact bR2 results122 rfl rfl ⟨_,_,rfl,h⟩
 refine z3 ?_;iterate 3 refine zp ?_
 refine qX 3 (decide (a3<0)) [(0,.pointer a0),(1,.string a1),(2,Sl.v a2),(3,.int .i64 a3),(4,.bool a4),(12,.string u0),(34,.bool ((decide (a3<0)) || (decide (4611686018427387903<a3))))] ?_ ?_ ?_
 .intro e2 hk2
  iterate 2 refine zn e2 ?_
  refine zk e2 ?_;exact hk2 _ (Fe e2)
 .intro e2 hk2
  refine zy e2 ?_;refine zy e2 ?_;refine zk e2 ?_;exact hk2 _ (Fe e2)
 intro fr hl
 refine Lfr hl ?_
 refine zp ?_;refine z2 ?_;refine AW.iff rfl (wt decide_eq_true_iff decide_eq_true_iff) h (fun h=>?_) (fun h=>?_)
 .refine z3 ?_;iterate 2 refine zp ?_
  refine z2 ?_;refine AW.ret ?_;refine qQ (qi ?_);exact bR2 results122 rfl rfl ⟨_,_,rfl,h⟩
 refine AW.skip ?_;refine wq (qc (z3 ?_));refine zp ?_;refine zN h fun p2 h=>?_;refine zf underlying239 aeR ?_;refine zL underlying237 h fun u3 h=>?_;refine zp ?_;refine zl (af6 rfl rfl rfl (qv _ h ?_))
 rintro v I ⟨u4,rfl,h⟩;refine zp ?_;refine z2 (AW.seq (AW.block (z3 ?_)))
 refine zp ?_;refine zm (af5 rfl underlying164 rfl rfl) ?_;refine zp ?_;refine z2 ?_;refine AW.iff rfl jr h (fun h=>?_) (fun h=>?_)
 .refine z3 ?_;iterate 2 refine zp ?_
  refine z2 ?_;refine AW.ret ?_;refine qQ (qi ?_);exact bR2 results122 rfl rfl ⟨_,_,rfl,h⟩
 refine z3 ?_;refine zp ?_;refine zN h fun p5 h=>?_;refine zf underlying168 jS ?_;refine zf underlying26 ty3 ?_;refine zL underlying3 h fun u6 h=>?_;iterate 2 refine zp ?_
 refine z2 ?_;refine AW.iff rfl (qt decide_eq_true_iff) h (fun h=>?_) (fun h=>?_)
 .refine z3 ?_;iterate 2 refine zp ?_
  refine z2 ?_;refine AW.ret ?_;refine qQ (qi ?_);exact bR2 results122 rfl rfl ⟨_,_,rfl,h⟩
 refine z3 ?_;refine zp ?_;refine zN h fun p7 h=>?_;refine zf underlying168 jS ?_;refine zf underlying26 ty3 ?_;refine zL underlying3 h fun u8 h=>?_;iterate 2 refine zp ?_
 refine z2 ?_;refine zi h (fun h=>?_) fun h=>?_
 .refine z3 ?_;iterate 2 refine zp ?_
  refine z2 ?_;refine AW.ret ?_;refine qQ (qi ?_);exact bR2 results122 rfl rfl ⟨_,_,rfl,h⟩
 refine AW.skip ?_;refine wq (qc ?_);refine AW.seqJ (fun fr I=> ∃(u9:ByteArray),qk [(0,.pointer a0),(2,Sl.v a2),(3,.int .i64 a3),(14,.pointer u4),(1,.string u9)] fr/\zx B ro a0 a2 a3 u4 Q u9 I) ?_ ?_
 rotate_left
 .refine z3 ?_;refine zp ?_;refine z2 ?_;refine zj h (fun h=>?_) fun h=>?_
  rotate_left
  .refine AW.skip ?_;refine qc ?_;exact⟨_,FL,h⟩
  refine z3 ?_;iterate 2 refine zp ?_
  refine zN h fun p10 h=>?_;refine zf underlying168 jS ?_;refine zf underlying26 ty3 ?_;refine zL underlying3 h fun u11 h=>?_;refine zc func180 h ?_;rintro v I ⟨u12,u13,rfl,h⟩;iterate 5 refine zp ?_
  refine z4 ?_;iterate 2 refine zp ?_
  refine z2 ?_;refine AW.iff rfl (qt decide_eq_true_iff) h (fun h=>?_) (fun h=>?_)
  rotate_left
  .refine AW.skip ?_;refine qc ?_;exact⟨_,FL,h⟩
  refine z3 ?_;iterate 3 refine zp ?_
  refine z2 ?_;refine AW.ret ?_;refine qi ?_;exact bR2 results122 rfl rfl ⟨_,_,rfl,h⟩
 rintro fr I ⟨u9,hl,h⟩;refine AW.weaken ?_ hl (HLe.refl _)
 unfold zx at h;refine AW.seq (z3 ?_);refine zp ?_;refine zN h fun p14 h=>?_;refine zf underlying239 aeR ?_;refine zL underlying237 h fun u15 h=>?_;refine zp ?_;refine zl (af6 rfl rfl rfl (qv _ h ?_))
 rintro v I ⟨u16,rfl,h⟩;refine zm (ak4 rfl underlying164 rfl rfl) ?_;refine z2 ?_;refine AW.iff rfl (qt jr) h (fun h=>?_) (fun h=>?_)
 .refine z3 ?_;iterate 2 refine zp ?_
  refine z2 ?_;refine AW.ret ?_;refine qi ?_;exact bR2 results122 rfl rfl ⟨_,_,rfl,h⟩
 refine AW.skip ?_;refine qc (AW.seq ?_);refine AW.drawnL (fun i=>([0,0,0,0,0,0,0,0,2,0,1,2]:List Nat).getD i 2) [] [0,1,2,3,4,5,6,7,8,9,10,11] mixed h (by decide+kernel) ?_
 clear h
 intro U I h
 refine zq ?_;obtain⟨p17,hc,h⟩:=h
 refine Dp rfl rfl rfl rfl (wD rfl (by rw[<-hc];rfl)) ?_
 refine zg underlying239 aeR ?_;obtain⟨u18,hc,h⟩:=h
 refine Dp rfl rfl rfl rfl (zS rfl underlying237 rfl rfl hc) ?_
 iterate 2 refine zq ?_
 refine Dp rfl rfl rfl rfl (wV (vs:=[(2,.int .i64 a3)]) (cs:= #[.int .i64 0,.int .i64 0,.int .i64 a3,.int .i64 0]) rfl underlying26 jS akB rfl rfl) ?_
 refine zq ?_;refine Dg rfl rfl rfl rfl (qF rfl func80 rfl rfl rfl (qb.mono h ?_))
 rintro v I ⟨u19,rfl,h⟩;refine Dp rfl rfl rfl rfl (wV (vs:=[(0,.agg #[.int .i64 0,.int .i64 0,.int .i64 a3,.int .i64 0]),(1,Sl.v u19)]) (cs:= #[.int .i64 0,.int .i64 0,.int .i64 a3,.int .i64 0,Sl.v u19]) rfl underlying168 ajT ajV rfl rfl) ?_
 refine Da rfl rfl rfl rfl (vq rfl rfl) fun u20 g1 g2=>?_
 replace h:=h u20 g1 g2
 refine Dg rfl rfl rfl rfl (af7 (.inl rfl) rfl rfl rfl (qv _ h ?_))
 rintro _ I h
 refine⟨_,wg.refl _,fun hdj=>?_⟩
 replace h:=h hdj
 refine qc (z3 ?_);refine zp ?_;refine zN h fun p21 h=>?_;refine zf underlying168 jS ?_;refine zf underlying26 ty3 ?_;refine zL underlying3 h fun u22 h=>?_;refine zp ?_;refine zN h fun p23 h=>?_;refine zf underlying168 jS ?_;refine zf underlying26 ty3 ?_;refine zs ty3 h fun I h=>?_;refine z4 ?_;refine zp ?_;refine zN h fun p24 h=>?_;refine zf underlying168 jS ?_;refine zf underlying26 ty3 ?_
 refine zL underlying3 h fun u25 h=>?_;refine zp ?_;refine zN h fun p26 h=>?_;refine zf underlying168 jS ?_;refine zf underlying26 ty3 ?_;refine zs ty3 h fun I h=>?_;refine z4 ?_;iterate 3 refine zp ?_
 refine z2 ?_;refine AW.ret ?_;exact bR2 results122 rfl rfl ⟨_,_,rfl,h⟩
end G
namespace Zt
open Go SL G Pa
variable{B:World}{ro I I':AH}{tag tag':Nat->Nat}
structure Nd where
 ver:Int
 ctr:Int
 own:Int
 kids:Int
 data:Str
abbrev St:=List (Str×Nd)
abbrev vI(x:Int):Value:= .int .i64 x
abbrev vU(c:UInt8):Value:= .int .u8 c.toNat
abbrev ptr(b:Nat):Value:= .pointer (some ⟨b,0,none⟩)
def abC(tag:Nat->Nat)(I:AH)(r b:Nat)(n:Nd):Prop:=
 ∃s:Sl,Row tag I (r+64*(b+2)) 168 ⟨some ⟨b,0,none⟩,5,5⟩ [vI n.ver,vI n.ctr,vI n.own,vI n.kids,Sl.v s]/\Row tag I 6 5 s (n.data.map vU)
def kv:St->List Nat->KV
 | (p,_)::st,b::bs=>(p,ptr b)::kv st bs
 | _,_=>[]
structure yJ(tag:Nat->Nat)(I:AH)(r T M:Nat)(bs:List Nat)(st:St):Prop where
 keys:(st.map (·.1)).Nodup
 len:bs.length=st.length
 nd:bs.Nodup
 cell:Row tag I r 239 ⟨some ⟨T,0,none⟩,1,1⟩ [.map (some M)]
 map:yo tag I (r+64) M (kv st bs)
 nodes:∀ (i b:Nat) (p:Str×Nd),bs[i]?=some b->st[i]?=some p->abC tag I r b p.2
def uh(tag:Nat->Nat)(I:AH)(r T:Nat)(st:St):Prop:= ∃M bs,yJ tag I r T M bs st
theorem abC.keep{R:List Nat}{r b:Nat}{n:Nd}(h:abC tag I r b n)(k:qf R ro tag I tag' I')(h1:r+64*(b+2)∉R:=by simp)(h2:6∉R:=by simp):abC tag' I' r b n:=by
 obtain⟨s,a,c⟩:=h
 exact⟨s,a.keep k h1,c.keep k h2⟩
theorem yJ.keep{R:List Nat}{r T M:Nat}{bs:List Nat}{st:St}(h:yJ tag I r T M bs st)(k:qf R ro tag I tag' I')(hR:∀ x∈R,x%64≠r%64/\x≠6:=by simp):yJ tag' I' r T M bs st:=
 ⟨h.keys,h.len,h.nd,h.cell.keep k fun m=>(hR _ m).1 rfl,h.map.keep k fun m=>(hR _ m).1 (by omega),fun i b p hb hp=>(h.nodes i b p hb hp).keep k (fun m=>(hR _ m).1 (by omega)) fun m=>(hR _ m).2 rfl⟩
theorem uh.keep{R:List Nat}{r T:Nat}{st:St}(h:uh tag I r T st)(k:qf R ro tag I tag' I')(hR:∀ x∈R,x%64≠r%64/\x≠6:=by simp):uh tag' I' r T st:=by
 obtain⟨M,bs,h⟩:=h
 exact⟨M,bs,h.keep k hR⟩
theorem ady:∀ (st:St) (bs:List Nat) (u:Str),bs.length=st.length->
  (st.lookup u=none/\(kv st bs).lookup u=none)\/∃ (i b:Nat) (n:Nd),bs[i]?=some b/\st[i]?=some (u,n)/\st.lookup u=some n/\(kv st bs).lookup u=some (ptr b):=by
 intro st
 induction st with
 | nil=>intro bs u h;exact .inl ⟨rfl,by cases bs<;>rfl⟩
 | cons p st ih=>
  intro bs u h
  cases bs with
  | nil=>simp at h
  | cons b bs=>
   obtain⟨p,n⟩:=p
   simp only[List.length_cons,Nat.add_right_cancel_iff]at h
   unfold kv
   rw[List.lookup_cons,List.lookup_cons]
   by_cases c:u=p
   .subst c
    rw[show(u == u)=true by simp]
    exact .inr ⟨0,b,n,rfl,rfl,rfl,rfl⟩
   .rw[show(u == p)=false by simpa using c]
    rcases ih bs u h with h' | ⟨i,b',n',h1,h2,h3,h4⟩
    .exact .inl h'
    .exact .inr ⟨i+1,b',n',by simpa using h1,by simpa using h2,h3,h4⟩
def ah4(st:St)(u:Str)(f:Nd->Nd):St:=st.map fun p=>if p.1=u then(p.1,f p.2)else p
theorem ajj{st:St}(hk:(st.map (·.1)).Nodup){i:Nat}{u:Str}{n:Nd}(h:st[i]?=some (u,n))(f:Nd->Nd):ah4 st u f=st.set i (u,f n):=by
 unfold ah4
 apply List.ext_getElem?
 intro j
 rw[List.getElem?_map,List.getElem?_set]
 have hil:i<st.length:=by
  rcases Nat.lt_or_ge i st.length with h' | h'
  .exact h'
  .rw[List.getElem?_eq_none h']at h;cases h
 by_cases c:i=j
 .subst c;rw[if_pos rfl,if_pos hil,h];simp
 .rw[if_neg c]
  cases e:st[j]? with
  | none=>rfl
  | some p=>
   have hne:p.1≠u:=by
    intro hp
    apply c
    have hjl:j<st.length:=by
     rcases Nat.lt_or_ge j st.length with h' | h'
     .exact h'
     .rw[List.getElem?_eq_none h']at e;cases e
    refine(List.getElem_inj (h₀:=by simpa using hil) (h₁:=by simpa using hjl) hk).1 ?_
    rw[List.getElem?_eq_getElem hil]at h
    rw[List.getElem?_eq_getElem hjl]at e
    simp only[List.getElem_map]
    rw[Option.some.inj h,Option.some.inj e,hp]
   simp[hne]
theorem akH:∀ (st:St) (bs:List Nat) (i:Nat) (u:Str) (n n':Nd),st[i]?=some (u,n)->kv (st.set i (u,n')) bs=kv st bs:=by
 intro st
 induction st with
 | nil=>intro bs i u n n' h;cases h
 | cons p st ih=>
  intro bs i u n n' h
  cases bs with
  | nil=>cases i<;>simp[kv]
  | cons b bs=>
   cases i with
   | zero=>cases h;rfl
   | succ i=>simp only[List.set_cons_succ];unfold kv;rw[ih bs i u n n' (by simpa using h)]
theorem ajk{st:St}{i:Nat}{u:Str}{n n':Nd}(h:st[i]?=some (u,n)):(st.set i (u,n')).map (·.1)=st.map (·.1):=by
 rw[List.map_set]
 apply List.ext_getElem?
 intro j
 rw[List.getElem?_set,List.getElem?_map]
 by_cases c:i=j
 .subst c;rw[h];simp
  rcases Nat.lt_or_ge i st.length with h' | h'
  .exact h'
  .rw[List.getElem?_eq_none h']at h;cases h
 .rw[if_neg c]
theorem aka{α:Type}{l:List α}(hn:l.Nodup){i j:Nat}{x:α}(hi:l[i]?=some x)(hj:l[j]?=some x):i=j:=by
 have hil:i<l.length:=by
  rcases Nat.lt_or_ge i l.length with h' | h'
  .exact h'
  .rw[List.getElem?_eq_none h']at hi;cases hi
 have hjl:j<l.length:=by
  rcases Nat.lt_or_ge j l.length with h' | h'
  .exact h'
  .rw[List.getElem?_eq_none h']at hj;cases hj
 rw[List.getElem?_eq_getElem hil]at hi
 rw[List.getElem?_eq_getElem hjl]at hj
 exact(List.getElem_inj hn).1 (by rw[Option.some.inj hi,Option.some.inj hj])
theorem yJ.write{r T i b M:Nat}{st:St}{bs:List Nat}{u:Str}{n n':Nd}(h:yJ tag I r T M bs st)(hr:r<64)(hr6:r≠6)(hb:bs[i]?=some b)(hp:st[i]?=some (u,n))(k:qf [r+64*(b+2)] ro tag I tag' I')(hnew:abC tag' I' r b n'):yJ tag' I' r T M bs (st.set i (u,n')):=by
 refine⟨by rw[ajk hp];exact h.keys,by simpa using h.len,h.nd,h.cell.keep k,?_,fun j c p hc hp'=>?_⟩
 .rw[akH _ _ _ _ _ _ hp];exact h.map.keep k (by simp;omega)
 .rw[List.getElem?_set]at hp'
  by_cases e:i=j
  .subst e
   rw[hb]at hc;cases hc
   rw[if_pos rfl]at hp'
   split at hp'
   .cases hp';exact hnew
   .cases hp'
  .rw[if_neg e]at hp'
   refine(h.nodes j c p hc hp').keep k ?_ ?_
   .simp
    intro h'
    have:b=c:=by omega
    subst this
    exact e (aka h.nd hb hc)
   .simp;omega
theorem u126:prog.underlying 237=some (.map 9 164):=by kernel_rfl
theorem u9:prog.underlying 9=some .string:=by kernel_rfl
theorem u30:prog.underlying 24=some (.slice 5):=by kernel_rfl
theorem ah5:qp prog 164 (.pointer none) 1 8:=qp.of (by kernel_rfl)
theorem abD{s:Sl}{l:List Value}{Q:Sl->AH->Prop}(h:SL.qy ro I s l)(hs:SL.Sep ro I)(hl:l.length<=140737488355328)(hv:∀ v∈l,qg v=true)(hQ:∀ s' tag' I',(∀R,qf R ro tag I tag' I')->Row tag' I' 6 5 s' l->Q s' I'):kO B ro s I Q:=by
 refine ae9 fun _=>?_
 unfold aa3
 by_cases h0:s.a=none
 .rw[if_pos h0]
  rw[h.2.1 h0]at hQ
  exact hQ _ tag I (fun _=>qf.refl hs) (Row.nil 6 5)
 .rw[if_neg h0]
  refine ql (tag:=tag) 6 hs fun b tag1 I1 st1 r1=>?_
  have h':SL.qy ro I1 s l:=h.step (st1 [])
  refine xJ r1 (st1 []).sep h' u30 ty5 rfl hv (by simp;omega) (by decide) fun s' tag2 I2 st2 r2=>?_
  exact⟨s',rfl,hQ s' tag2 I2 (fun R=>(st1 R).trans (st2 R (.inl rfl))) r2⟩
def St.new:St:=[([47],⟨0,0,0,0,[]⟩)]
theorem akI{Q:Option Addr->AH->Prop}(r:Nat)(hr:r<64)(hr6:r≠6)(hQ:∀ T tag' I',ky r ro tag I tag' I'->uh tag' I' r T St.new->Q (some ⟨T,0,none⟩) I'):ab8 B ro I Q:=by
 refine agx fun hs=>?_
 unfold acf
 refine akz (tag:=tag) (r+64) hs fun M tag1 I1 st1 m1=>?_
 refine afB (tag:=tag1) (fun b=>r+64*(b+2)) (st1 []).sep fun b tag2 I2 _ _ st2 r2=>?_
 have m2:=m1.keep (st2 [])
 refine acv (k:=[47]) m2 (st2 []).sep u126 u9 fun I3 st3 m3=>?_
 have r3:=r2.keep st3 (by simp;omega)
 refine ql (tag:=tag2) r st3.sep fun T tag4 I4 st4 r4=>?_
 have st:ky r ro tag I tag4 I4:=((st1 []).c (by simp)).trans (((st2 []).c (by simp)).trans ((st3.c (by simp;omega)).trans ((st4 []).c (by simp))))
 refine hQ T tag4 I4 st ⟨M,[b],by simp[St.new],rfl,by simp,r4,m3.keep (st4 []),fun i c p hc hp=>?_⟩
 rcases i with _ | i
 .cases hc;cases hp
  exact⟨⟨none,0,0⟩,r3.keep (st4 []),Row.nil 6 5⟩
 .cases hc
theorem akb{r T M:Nat}{bs:List Nat}{st:St}{p:ByteArray}{Q:Option Addr->Int->AH->Prop}(g:yT ro)(h:yJ tag I r T M bs st)(hs:SL.Sep ro I)(hbad:parts (L p)=none->Q none 20 I)
  (hmiss:∀ ps,parts (L p)=some ps->st.lookup (L p)=none->Q none 70 I) (hhit:∀ (ps:List Str) (i b:Nat) (n:Nd),parts (L p)=some ps->bs[i]?=some b->st[i]?=some (L p,n)->st.lookup (L p)=some n->Q (some ⟨b,0,none⟩) 0 I):
  pU B ro (some ⟨T,0,none⟩) p I Q:=by
 refine adx fun _=>?_
 unfold pV
 refine acS g ?_
 by_cases h1:Pa.chk (L p)=0
 .rw[if_neg (by simpa using h1)]
  obtain⟨ps,hps⟩:=pw.1 h1
  refine⟨_,rfl,_,Row.cell1 h.cell hs,?_⟩
  rw[<-S_L p]
  refine aax h.map hs u126 u9 ah5 ?_
  rcases ady st bs (L p) h.len with⟨a,e⟩ | ⟨i,b,n,a1,a2,a3,e⟩
  .rw[e]
   exact⟨none,rfl,by rw[if_pos rfl];exact hmiss ps hps a⟩
  .rw[e]
   exact⟨some ⟨b,0,none⟩,rfl,by rw[if_neg (by simp)];exact hhit ps i b n hps a1 a2 a3⟩
 .rw[if_pos (by simpa using h1)]
  have e:parts (L p)=none:=by
   cases h:parts (L p)with
   | none=>rfl
   | some ps=>exact absurd (pw.2 ⟨ps,h⟩) h1
  have:Pa.chk (L p)=20:=by unfold Pa.chk;rw[e];rfl
  rw[this];exact hbad e
def ah6(n:Nd):Nd:={n with ctr:=i64.wrap (n.ctr+1),kids:=i64.wrap (n.kids+1)}
def yK(st:St)(p data:Str)(o:Int)(seq:Bool):St×Str×Int:=
 match acx p with
 | none=>(st,[],20)
 | some u=>
  if 256<data.length then(st,[],75)
  else if o<0\/4611686018427387903<o then(st,[],10)
  else match st.lookup u with
   | none=>(st,[],70)
   | some n=>
    if n.own≠0 then(st,[],74)
    else if 9999999999<n.ctr then(st,[],76)
    else match(if seq then uX p n.ctr else some p)with
     | none=>(st,[],20)
     | some q=>if(st.lookup q).isSome then(st,[],71)else(ah4 (st++[(q,⟨0,0,o,0,data⟩)]) u ah6,q,0)
theorem akJ:∀ (st:St) (bs:List Nat) (q:Str) (n:Nd) (b:Nat),bs.length=st.length->kv (st++[(q,n)]) (bs++[b])=kv st bs++[(q,ptr b)]:=by
 intro st
 induction st with
 | nil=>intro bs q n b h;have:bs=[]:=List.eq_nil_of_length_eq_zero h;subst this;rfl
 | cons p st ih=>
  intro bs q n b h
  cases bs with
  | nil=>simp at h
  | cons c bs=>
   obtain⟨p,m⟩:=p
   simp only[List.cons_append]
   unfold kv
   rw[ih bs q n b (by simpa using h)];rfl
theorem akc:∀ (st:St) (bs:List Nat) (q:Str) (b:Nat),bs.length=st.length->st.lookup q=none->ab4 (kv st bs) q (ptr b)=kv st bs++[(q,ptr b)]:=by
 intro st
 induction st with
 | nil=>intro bs q b h _;cases bs<;>rfl
 | cons p st ih=>
  intro bs q b h hl
  cases bs with
  | nil=>simp at h
  | cons c bs=>
   obtain⟨p,m⟩:=p
   rw[List.lookup_cons]at hl
   by_cases e:q=p
   .subst e;simp at hl
   .rw[show(q == p)=false by simpa using e]at hl
    unfold kv ab4
    rw[if_neg e,ih bs q b (by simpa using h) hl];rfl
theorem agX{st:St}{q:Str}(h:st.lookup q=none):q∉st.map (·.1):=by
 intro hm
 obtain⟨p,hp,e⟩:=List.mem_map.1 hm
 rw[List.lookup_eq_none_iff]at h
 have:=h p hp
 simp at this
 exact this e.symm
theorem yJ.add{r T M b:Nat}{bs:List Nat}{st:St}{q:Str}{n:Nd}{tag2:Nat->Nat}{I2:AH}(h:yJ tag I r T M bs st)(hr:r<64)(hr6:r≠6)(hq:st.lookup q=none)(hb:I b=none)(k:qf [r+64] ro tag I tag2 I2)(hnew:abC tag2 I2 r b n)(hm:yo tag2 I2 (r+64) M (ab4 (kv st bs) q (ptr b))):yJ tag2 I2 r T M (bs++[b]) (st++[(q,n)]):=by
 have hnb:b∉bs:=fun hm'=>by
  obtain⟨i,hi,e⟩:=List.getElem_of_mem hm'
  have hb':bs[i]?=some b:=by rw[List.getElem?_eq_getElem hi,e]
  have hil:i<st.length:=by rw[<-h.len];exact hi
  obtain⟨s,hn,_⟩:=h.nodes i b _ hb' (List.getElem?_eq_getElem hil)
  obtain⟨_,o,ho⟩:=hn.tagOf
  rw[hb]at ho;cases ho
 refine⟨?_,by simp[h.len],?_,h.cell.keep k,?_,fun i c p hc hp=>?_⟩
 .rw[List.map_append,List.nodup_append]
  refine⟨h.keys,by simp,?_⟩
  intro x hx y hy
  simp at hy
  intro e
  exact agX hq (by rw[<-hy,<-e];exact hx)
 .rw[List.nodup_append]
  refine⟨h.nd,by simp,?_⟩
  intro x hx y hy
  simp at hy
  intro e
  exact hnb (by rw[<-hy,<-e];exact hx)
 .rw[akJ _ _ _ _ _ h.len,<-akc _ _ _ _ h.len hq];exact hm
 .rcases Nat.lt_or_ge i bs.length with hi | hi
  .rw[List.getElem?_append_left hi]at hc
   rw[List.getElem?_append_left (by rw[<-h.len];exact hi)]at hp
   exact(h.nodes i c p hc hp).keep k (by simp;omega) (by simp)
  .rw[List.getElem?_append_right hi]at hc
   rw[List.getElem?_append_right (by rw[<-h.len];exact hi),<-h.len]at hp
   cases hd:i - bs.length with
   | zero=>
    rw[hd]at hc hp
    cases hc;cases hp
    exact hnew
   | succ j=>rw[hd]at hc;cases hc
theorem akd{q:Str}{n:Nd}(st:St){i:Nat}{u:Str}{m:Nd}(h:st[i]?=some (u,m)):(st++[(q,n)])[i]?=some (u,m):=by
 have hil:i<st.length:=by
  rcases Nat.lt_or_ge i st.length with h' | h'
  .exact h'
  .rw[List.getElem?_eq_none h']at h;cases h
 rw[List.getElem?_append_left hil];exact h
theorem ake{bs:List Nat}{c i b:Nat}(h:bs[i]?=some b):(bs++[c])[i]?=some b:=by
 have hil:i<bs.length:=by
  rcases Nat.lt_or_ge i bs.length with h' | h'
  .exact h'
  .rw[List.getElem?_eq_none h']at h;cases h
 rw[List.getElem?_append_left hil];exact h
theorem aiB{r T:Nat}{st:St}{p:ByteArray}{s:Sl}{d:Str}{o:Int}{seq:Bool}{Q:ByteArray->Int->AH->Prop}(g:yT ro)(hr:r<64)(hr6:r≠6)(hr0:r≠0)(h:uh tag I r T st)(hd:SL.qy ro I s (d.map vU))(hdl:d.length<4611686018427387904)
  (hQ:∀ tag' I',ky r ro tag I tag' I'->uh tag' I' r T (yK st (L p) d o seq).1->Q (S (yK st (L p) d o seq).2.1) (yK st (L p) d o seq).2.2 I'):yQ B ro (some ⟨T,0,none⟩) p s o seq I Q:=by
 refine acU fun hs=>?_
 unfold yU
 have hsl:s.len=d.length:=by rw[hd.1,List.length_map]
 have same:∀ e:Int,yK st (L p) d o seq=(st,[],e)->Q (⟨#[]⟩:ByteArray) e I:=fun e he=>by
  have:=hQ tag I (ky.refl hs) (by rw[he];exact h)
  rw[he]at this;exact this
 refine aix g (fun hp=>?_) (fun u hu=>?_)
 .rw[if_pos (by decide)]
  exact same 20 (by unfold yK;rw[hp])
 .rw[if_neg (by decide)]
  by_cases h1:256<(s.len:Int)
  .rw[if_pos h1]
   exact same 75 (by unfold yK;rw[hu];simp only;rw[if_pos (by omega)])
  .rw[if_neg h1]
   have h1':¬ 256<d.length:=by omega
   by_cases h2:o<0\/4611686018427387903<o
   .rw[if_pos h2]
    exact same 10 (by unfold yK;rw[hu];simp only;rw[if_neg h1',if_pos h2])
   .rw[if_neg h2]
    obtain⟨M,bs,hA⟩:=h
    refine⟨_,rfl,_,Row.cell1 hA.cell hs,?_⟩
    refine aax hA.map hs u126 u9 ah5 ?_
    rcases ady st bs u hA.len with⟨a,e⟩ | ⟨i,b,n,a1,a2,a3,e⟩
    .rw[e]
     refine⟨none,rfl,?_⟩
     rw[if_pos rfl]
     exact same 70 (by unfold yK;rw[hu];simp only;rw[if_neg h1',if_neg h2,a])
    .rw[e]
     refine⟨some ⟨b,0,none⟩,rfl,?_⟩
     rw[if_neg (by simp)]
     obtain⟨ds,hn,hdat⟩:=hA.nodes i b _ a1 a2
     obtain⟨q,hq,hg⟩:=hn.ptr hs (by simp)
     cases hq
     refine⟨_,rfl,n.own,hg 2 _ rfl,?_⟩
     by_cases h3:n.own=0
     .rw[if_neg (by simp[h3])]
      refine⟨_,rfl,n.ctr,hg 1 _ rfl,?_⟩
      by_cases h4:9999999999<n.ctr
      .rw[if_pos h4]
       exact same 76 (by unfold yK;rw[hu];simp only;rw[if_neg h1',if_neg h2,a3];simp only;rw[if_neg (by simp[h3]),if_pos h4])
      .rw[if_neg h4]
       have hcr:yK st (L p) d o seq=match(if seq then uX (L p) n.ctr else some (L p))with
         | none=>(st,[],20)
         | some q=>if(st.lookup q).isSome then(st,[],71)else(ah4 (st++[(q,⟨0,0,o,0,d⟩)]) u ah6,q,0):=by
        unfold yK;rw[hu];simp only;rw[if_neg h1',if_neg h2,a3];simp only;rw[if_neg (by simp[h3]),if_neg h4];try rfl
       have main:∀ q:Str,(if seq then uX (L p) n.ctr else some (L p))=some q->zx B ro (some ⟨T,0,none⟩) s o (some ⟨b,0,none⟩) Q (S q) I:=by
        intro q hq
        rw[hq]at hcr
        simp only at hcr
        unfold zx
        refine⟨_,rfl,_,Row.cell1 hA.cell hs,?_⟩
        refine aax hA.map hs u126 u9 ah5 ?_
        rcases ady st bs q hA.len with⟨c,e2⟩ | ⟨i2,b2,n2,c1,c2,c3,e2⟩
        .rw[e2]
         refine⟨none,rfl,?_⟩
         rw[if_neg (by simp)]
         rw[c]at hcr
         simp only[Option.isSome_none,Bool.false_eq_true,if_false]at hcr
         refine pO T ?_
         obtain⟨hT0,hTo⟩:=hA.cell.tagOf
         have hs1:SL.Sep (join ro (SL.one I T)) (SL.del I T):=hs.lent
         refine⟨_,rfl,some M,hA.cell.lend hs (i:=0) rfl,?_⟩
         refine abD (tag:=tag) (hd.lent T) hs1 (by simp;omega) (by simp[qg]) fun s' tag1 I1 st1 r1=>?_
         refine afB (tag:=tag1) (fun b=>r+64*(b+2)) (st1 []).sep fun c' tag2 I2 hro2 hc2 st2 r2=>?_
         have hM1:=((hA.map.del (by rw[hT0];omega)).keep (st1 [])).keep (st2 [])
         refine acv hM1 (st2 []).sep u126 u9 fun I3 st3 m3=>?_
         intro hdj
         have stA:qf [r+64] (join ro (SL.one I T)) tag (SL.del I T) tag2 I3:=(st1 _).trans ((st2 _).trans st3)
         have stB:=stA.back hs hdj hTo
         have m4:=m3.back (r':=tag T) hdj hTo
         have hnode:abC (setTag tag2 T (tag T)) (join (SL.one I T) I3) r c' ⟨0,0,o,0,d⟩:=
          ⟨s',(r2.keep st3 (by simp;omega)).back hdj hTo,((r1.keep (st2 [])).keep st3).back hdj hTo⟩
         have hfree:I c'=none:=by
          cases hcc:I c' with
          | none=>rfl
          | some x=>
           have hne:c'≠T:=fun e=>by
            have:=(jq hro2).2
            unfold SL.one at this
            rw[if_pos e,hcc]at this;cases this
           obtain⟨_,x',hx'⟩:=(st1 []).old c' x (by unfold SL.del;rw[if_neg hne];exact hcc)
           rw[hc2]at hx';cases hx'
         have hA2:=hA.add (n:=⟨0,0,o,0,d⟩) hr hr6 c hfree stB hnode m4
         have b1:=ake (c:=c') a1
         have b2:=akd (q:=q) (n:=⟨0,0,o,0,d⟩) st a2
         generalize setTag tag2 T (tag T)=tagx at*
         generalize join (SL.one I T) I3=Ix at*
         have hsx:=stB.sep
         obtain⟨d1,hn1,hd1⟩:=hA2.nodes i b _ b1 b2
         obtain⟨q1,hq1,hg1⟩:=hn1.ptr hsx (by simp)
         cases hq1
         refine⟨_,rfl,n.ctr,hg1 1 _ rfl,_,rfl,?_⟩
         refine hn1.st (i:=1) hsx rfl (by simp) rfl fun I4 st4 r4=>?_
         have hA3:=hA2.write (n':={n with ctr:=i64.wrap (n.ctr+1)}) hr hr6 b1 b2 st4 ⟨d1,r4,hd1.keep st4 (by simp;omega)⟩
         have b3:((st++[(q,(⟨0,0,o,0,d⟩:Nd))]).set i (u,{n with ctr:=i64.wrap (n.ctr+1)}))[i]?=some (u,{n with ctr:=i64.wrap (n.ctr+1)}):=by
          rw[List.getElem?_set,if_pos rfl,if_pos]
          rcases Nat.lt_or_ge i (st++[(q,(⟨0,0,o,0,d⟩:Nd))]).length with h' | h'
          .exact h'
          .rw[List.getElem?_eq_none h']at b2;cases b2
         obtain⟨q2,hq2,hg2⟩:=r4.ptr st4.sep (by simp)
         cases hq2
         refine⟨_,rfl,n.kids,hg2 3 _ rfl,_,rfl,?_⟩
         refine r4.st (i:=3) st4.sep rfl (by simp) rfl fun I5 st5 r5=>?_
         have hA4:=hA3.write (n':=ah6 n) hr hr6 b1 b3 st5 ⟨d1,r5,(hd1.keep st4 (by simp;omega)).keep st5 (by simp;omega)⟩
         rw[List.set_set]at hA4
         rw[<-ajj hA2.keys b2 ah6]at hA4
         have hres:=hQ tagx I5 ((stB.c (by simp;omega)).trans ((st4.c (by simp;omega)).trans (st5.c (by simp;omega)))) (by rw[hcr];exact⟨M,_,hA4⟩)
         rw[hcr]at hres
         exact hres
        .rw[e2]
         refine⟨some ⟨b2,0,none⟩,rfl,?_⟩
         rw[if_pos (by simp)]
         refine same 71 ?_
         rw[hcr,c3];rfl
       by_cases h5:seq=true
       .rw[if_pos h5]
        refine⟨_,rfl,n.ctr,hg 1 _ rfl,?_⟩
        refine aiA g (fun hnone=>?_) (fun q hq=>?_)
        .rw[if_pos (by decide)]
         refine same 20 ?_
         rw[hcr,if_pos h5,hnone]
        .rw[if_neg (by decide)]
         exact main q (by rw[if_pos h5];exact hq)
       .rw[if_neg h5]
        have:=main (L p) (by rw[if_neg h5])
        rw[S_L]at this;exact this
     .rw[if_pos (by simp[h3])]
      exact same 74 (by unfold yK;rw[hu];simp only;rw[if_neg h1',if_neg h2,a3];simp only;rw[if_pos (by simp[h3])])
end Zt
namespace Wi
open Go SL
def qC(n:Nat):Str:=if n<128 then [UInt8.ofNat n]else UInt8.ofNat (n%128+128)::qC (n / 128)
termination_by n
decreasing_by omega
def val:Str->Nat
 | []=>0
 | c::r=>c.toNat%128+128*val r
def jW:Nat->Str->Option Nat
 | 0,_=>none
 | _+1,[]=>none
 | k+1,c::r=>if c.toNat<128 then some 0 else(jW k r).map (· +1)
def num(l:Str):Nat×Nat×Int:=
 match jW 9 l with
 | none=>(0,0,if l.length<9 then 12 else 13)
 | some k=>if(0<k/\l[k]?=some 0)\/4611686018427387904<=val (l.take (k+1))then(0,0,13)else(val (l.take (k+1)),k+1,0)
theorem ah7(c:UInt8):c.toNat<256:=c.toNat_lt
theorem uq(n:Nat)(h:n<256):(UInt8.ofNat n).toNat=n:=by simp;omega
theorem agd{c d:UInt8}(h:c.toNat=d.toNat):c=d:=UInt8.toNat_inj.1 h
theorem abU:∀ (m:Nat) (l:Str) (k:Nat),jW m l=some k->k<m/\k<l.length/\(∀i c,i<k->l[i]?=some c->128<=c.toNat)/\∃ c,l[k]?=some c/\c.toNat<128:=by
 intro m
 induction m with
 | zero=>intro l k h;cases h
 | succ m ih=>
  intro l k h
  cases l with
  | nil=>cases h
  | cons c r=>
   unfold jW at h
   split at h
   .rename_i hc
    cases h
    exact⟨by omega,by simp,fun i c hi=>by omega,c,rfl,hc⟩
   .rename_i hc
    obtain⟨k',hk',rfl⟩:=Option.map_eq_some_iff.1 h
    obtain⟨h1,h2,h3,h4⟩:=ih r k' hk'
    refine⟨by omega,by simp;omega,fun i d hi hd=>?_,by simpa using h4⟩
    rcases i with _ | i
    .cases hd;omega
    .exact h3 i d (by omega) (by simpa using hd)
theorem ahk:∀ (m:Nat) (l:Str) (k:Nat) (d:UInt8),k<m->(∀i c,i<k->l[i]?=some c->128<=c.toNat)->l[k]?=some d->d.toNat<128->jW m l=some k:=by
 intro m
 induction m with
 | zero=>intro l k d h;omega
 | succ m ih=>
  intro l k d hk hall hd hsm
  cases l with
  | nil=>cases hd
  | cons c r=>
   unfold jW
   rcases k with _ | k
   .cases hd;rw[if_pos hsm]
   .rw[if_neg (by have:=hall 0 c (by omega) rfl;omega),ih r k d (by omega) (fun i e hi he=>hall (i+1) e (by omega) (by simpa using he)) (by simpa using hd) hsm];rfl
theorem uY:∀ (m:Nat) (l:Str),(∀i c,i<m->l[i]?=some c->128<=c.toNat)->jW m l=none:=by
 intro m l h
 cases e:jW m l with
 | none=>rfl
 | some k=>
  obtain⟨h1,_,_,c,hc,h4⟩:=abU m l k e
  have:=h k c h1 hc
  omega
theorem acV:∀ (l:Str) (k:Nat),val (l.take k)<128 ^ k:=by
 intro l
 induction l with
 | nil=>intro k;simp[val];exact Nat.pow_pos (by decide)
 | cons c r ih=>
  intro k
  cases k with
  | zero=>simp[val]
  | succ k=>
   have:=ih k
   simp only[List.take_succ_cons,val]
   have:=Nat.mod_lt c.toNat (show 0<128 by decide)
   rw[Nat.pow_succ]
   omega
theorem aep(l:Str)(c:UInt8):val (l++[c])=val l+128 ^ l.length*(c.toNat%128):=by
 induction l with
 | nil=>simp[val]
 | cons d l ih=>simp only[List.cons_append,val,ih,List.length_cons,Nat.pow_succ];rw[Nat.mul_add,<-Nat.mul_assoc,Nat.mul_comm 128 (128 ^ l.length)];omega
theorem ajl:∀ (m:Nat) (l:Str) (k:Nat),jW m l=some k->(k=0\/l[k]?≠some 0)->qC (val (l.take (k+1)))=l.take (k+1)/\(0<k->0<val (l.take (k+1))):=by
 intro m
 induction m with
 | zero=>intro l k h;cases h
 | succ m ih=>
  intro l k h hz
  cases l with
  | nil=>cases h
  | cons c r=>
   unfold jW at h
   split at h
   .rename_i hc
    cases h
    refine⟨?_,fun h=>by omega⟩
    simp only[List.take_succ_cons,List.take_zero,val,Nat.mul_zero,Nat.add_zero,Nat.mod_eq_of_lt hc]
    unfold qC
    rw[if_pos hc]
    simp
   .rename_i hc
    obtain⟨k',hk',rfl⟩:=Option.map_eq_some_iff.1 h
    have hne:(k'=0\/r[k']?≠some 0)/\r[k']?≠some 0:=by
     rcases hz with h0 | h0
     .omega
     .have:r[k']?≠some 0:=by simpa using h0
      exact⟨.inr this,this⟩
    obtain⟨h1,h2⟩:=ih r k' hk' hne.1
    obtain⟨_,h3,_,d,hd,hd'⟩:=abU m r k' hk'
    have hpos:0<val (r.take (k'+1)):=by
     rcases Nat.eq_zero_or_pos k' with h0 | h0
     .subst h0
      cases r with
      | nil=>cases hd
      | cons e r=>
       cases hd
       simp only[List.take_succ_cons,List.take_zero,val,Nat.mul_zero,Nat.add_zero,Nat.mod_eq_of_lt hd']
       rcases Nat.eq_zero_or_pos d.toNat with h5 | h5
       .exact absurd (by rw[show d=0 from agd h5];rfl) hne.2
       .exact h5
     .exact h2 h0
    have hc256:=ah7 c
    refine⟨?_,fun _=>?_⟩
    .simp only[List.take_succ_cons,val]
     unfold qC
     rw[if_neg (by omega),show(c.toNat%128+128*val (List.take (k'+1) r)) / 128=val (List.take (k'+1) r) by omega,h1]
     congr 1
     refine agd ?_
     rw[uq _ (by omega)];omega
    .simp only[List.take_succ_cons,val];omega
theorem akf(n:Nat):qC n≠[]:=by unfold qC;split<;>simp
theorem acW:∀ (m n:Nat),n<128 ^ (m+1)->1<=(qC n).length/\(qC n).length<=m+1:=by
 intro m
 induction m with
 | zero=>intro n h;unfold qC;rw[if_pos (by simpa using h)];simp
 | succ m ih=>
  intro n h
  unfold qC
  split
  .simp
  .have:=ih (n / 128) (by rw[Nat.pow_succ]at h;exact Nat.div_lt_of_lt_mul (by rw[Nat.mul_comm];exact h))
   simp;omega
theorem aiC:∀ (m n:Nat) (r:Str),n<128 ^ (m+1)->∃ k,jW (m+1) (qC n++r)=some k/\(qC n).length=k+1/\val (qC n)=n/\(0<k->(qC n)[k]?≠some 0)/\(0<n\/k=0):=by
 intro m
 induction m with
 | zero=>
  intro n r h
  have h:n<128:=by simpa using h
  unfold qC
  rw[if_pos h]
  refine⟨0,?_,rfl,?_,fun h=>by omega,.inr rfl⟩
  .unfold jW;rw[List.cons_append];simp only;rw[uq _ (by omega),if_pos h]
  .simp only[val];rw[uq _ (by omega)];omega
 | succ m ih=>
  intro n r h
  by_cases hn:n<128
  .unfold qC
   rw[if_pos hn]
   refine⟨0,?_,rfl,?_,fun h=>by omega,.inr rfl⟩
   .unfold jW;rw[List.cons_append];simp only;rw[uq _ (by omega),if_pos hn]
   .simp only[val];rw[uq _ (by omega)];omega
  .obtain⟨k,h1,h2,h3,h4,h5⟩:=ih (n / 128) r (by rw[Nat.pow_succ]at h;exact Nat.div_lt_of_lt_mul (by rw[Nat.mul_comm];exact h))
   rw[qC,if_neg hn]
   refine⟨k+1,?_,by simp[h2],?_,fun _=>?_,.inl (by omega)⟩
   .rw[List.cons_append]
    unfold jW
    rw[uq _ (by omega),if_neg (by omega),h1];rfl
   .simp only[val];rw[h3,uq _ (by omega)];omega
   .rw[List.getElem?_cons_succ]
    rcases Nat.eq_zero_or_pos k with h0 | h0
    .subst h0
     have hlt:n / 128<128\/¬ n / 128<128:=by omega
     rcases hlt with hlt | hlt
     .rw[qC,if_pos hlt]
      simp only[List.getElem?_cons_zero]
      intro e
      have:=congrArg UInt8.toNat (Option.some.inj e)
      rw[uq _ (by omega)]at this
      simp at this;omega
     .rw[qC,if_neg hlt]at h2
      have:=List.length_pos_iff.2 (akf (n / 128 / 128))
      rw[List.length_cons]at h2;omega
    .exact h4 h0
theorem akg{n:Nat}(h:n<4611686018427387904)(r:Str):num (qC n++r)=(n,(qC n).length,0):=by
 obtain⟨k,h1,h2,h3,h4,_⟩:=aiC 8 n r (by omega)
 unfold num
 rw[h1]
 have e1:(qC n++r).take (k+1)=qC n:=by rw[<-h2];simp
 have e2:(qC n++r)[k]?=(qC n)[k]?:=List.getElem?_append_left (by omega)
 simp only[e1,e2,h3]
 rw[if_neg,h2]
 rintro(⟨h5,h6⟩ | h5)
 .exact h4 h5 h6
 .omega
theorem afi{l:Str}{n e:Nat}(h:num l=(n,e,0)):n<4611686018427387904/\0<e/\e<=l.length/\l.take e=qC n:=by
 unfold num at h
 cases hs:jW 9 l with
 | none=>
  rw[hs]at h
  simp only[Prod.mk.injEq]at h
  have:=h.2.2
  split at this<;>omega
 | some k=>
  rw[hs]at h
  simp only at h
  split at h
  .simp at h
  .rename_i hb
   simp only[not_or]at hb
   simp only[Prod.mk.injEq]at h
   obtain⟨rfl,rfl,_⟩:=h
   obtain⟨_,h2,_,_⟩:=abU 9 l k hs
   refine⟨by omega,by omega,by omega,((ajl 9 l k hs ?_).1).symm⟩
   rcases Nat.eq_zero_or_pos k with h0 | h0
   .exact .inl h0
   .exact .inr fun h=>hb.1 ⟨h0,h⟩
theorem aiD{l:Str}{n e:Nat}(h:num l=(n,e,0)):l=qC n++l.drop e:=by
 rw[<-(afi h).2.2.2,List.take_append_drop]
theorem afj{l:Str}(h:(num l).2.2≠0):(num l).1=0/\(num l).2.1=0/\((num l).2.2=12\/(num l).2.2=13):=by
 unfold num at h⊢
 cases hs:jW 9 l with
 | none=>simp only;refine⟨by simp,by simp,?_⟩;split<;>simp
 | some k=>
  rw[hs]at h
  simp only at h⊢
  split
  .simp
  .rename_i hb;rw[if_neg hb]at h;simp at h
theorem agy(l:Str):(num l).2.1<=l.length/\(num l).1<4611686018427387904:=by
 by_cases h:(num l).2.2=0
 .obtain⟨h1,_,h3,_⟩:=afi (l:=l) (n:=(num l).1) (e:=(num l).2.1) (by rw[<-h])
  exact⟨h3,h1⟩
 .obtain⟨h1,h2,_⟩:=afj h
  rw[h1,h2];exact⟨Nat.zero_le _,by decide⟩
def qK(x:Int):Bool:=decide (0<=x) && decide (x<=4611686018427387903)
structure Rd where
 rest:Str
 err:Int
def wT(d:Str):Str:=qC d.length++d
def qo(r:Rd):Nat×Rd:=if r.err≠0 then(0,r)else((num r.rest).1,⟨r.rest.drop (num r.rest).2.1,(num r.rest).2.2⟩)
def qO(r:Rd):Str×Rd:=
 if(qo r).2.err≠0 then([],(qo r).2)
 else if(qo r).2.rest.length<(qo r).1 then([],⟨r.rest,12⟩)
 else((qo r).2.rest.take (qo r).1,⟨(qo r).2.rest.drop (qo r).1,0⟩)
theorem zT{n:Nat}(h:n<4611686018427387904)(r:Str):qo ⟨qC n++r,0⟩=(n,⟨r,0⟩):=by
 unfold qo
 simp only[ne_eq,not_true_eq_false,if_false,akg h,List.drop_left]
theorem aaS{d:Str}(h:d.length<4611686018427387904)(r:Str):qO ⟨wT d++r,0⟩=(d,⟨r,0⟩):=by
 unfold qO wT
 rw[List.append_assoc,zT h]
 simp
theorem aeq{r:Rd}(h:r.err≠0):qo r=(0,r):=by unfold qo;rw[if_pos h]
theorem ajm{r:Rd}(h:(qo r).2.err=0):r.err=0:=Classical.byContradiction fun hn=>hn (by rw[aeq hn]at h;exact h)
theorem ah8{r:Rd}(h:(qo r).2.err=0):(qo r).1<4611686018427387904/\r.rest=qC (qo r).1++(qo r).2.rest:=by
 have h0:=ajm h
 unfold qo at h⊢
 rw[if_neg (by simp[h0])]at h⊢
 have hn:num r.rest=((num r.rest).1,(num r.rest).2.1,0):=by rw[<-h]
 exact⟨(afi hn).1,aiD hn⟩
theorem agY{r:Rd}(h:(qO r).2.err=0):(qO r).1.length<4611686018427387904/\r.rest=wT (qO r).1++(qO r).2.rest:=by
 unfold qO at h⊢
 by_cases h1:(qo r).2.err=0
 .rw[if_neg (by simp[h1])]at h⊢
  by_cases h2:(qo r).2.rest.length<(qo r).1
  .rw[if_pos h2]at h;cases h
  .rw[if_neg h2]at h⊢
   obtain⟨h3,h4⟩:=ah8 h1
   have hl:((qo r).2.rest.take (qo r).1).length=(qo r).1:=by simp;omega
   refine⟨by simp only[hl];exact h3,?_⟩
   simp only[wT,hl]
   rw[List.append_assoc,List.take_append_drop];exact h4
 .rw[if_pos h1]at h;exact absurd h h1
theorem afW{r:Rd}(h:(qO r).2.err≠0):(qO r).1=[]:=by
 unfold qO at h⊢
 split
 .rfl
 .split
  .rfl
  .rename_i h1 h2;rw[if_neg h1,if_neg h2]at h;exact absurd rfl h
end Wi
namespace Zt
open Go SL G Pa
variable{B:World}{ro I I':AH}{tag tag':Nat->Nat}
theorem akK{r T M:Nat}{bs:List Nat}{st:St}{p:ByteArray}{Q:Sl->Int->Int->Int->Int->Int->AH->Prop}(g:yT ro)(hr:r<64)(hr6:r≠6)(hr0:r≠0)(h:yJ tag I r T M bs st)(hdl:∀ p n,st.lookup p=some n->n.data.length<=256)
  (hbad:parts (L p)=none->∀ tag' I',ky 0 ro tag I tag' I'->Q ⟨none,0,0⟩ 0 0 0 0 20 I') (hmiss:∀ ps,parts (L p)=some ps->st.lookup (L p)=none->∀ tag' I',ky 0 ro tag I tag' I'->Q ⟨none,0,0⟩ 0 0 0 0 70 I')
  (hhit:∀ n,st.lookup (L p)=some n->∀ s tag' I',ky 0 ro tag I tag' I'->Row tag' I' 6 5 s (n.data.map vU)->Q s n.ver n.ctr n.own n.kids 0 I'):uu B ro (some ⟨T,0,none⟩) p I Q:=by
 refine ad0 fun hs=>?_
 unfold ux
 refine ql (tag:=tag) 0 hs fun x tag1 I1 st1 r1=>?_
 have hA:=h.keep (st1 [])
 have hs1:=(st1 []).sep
 have err:∀ e:Int,(∀tag' I',ky 0 ro tag I tag' I'->Q ⟨none,0,0⟩ 0 0 0 0 e I')->stN ⟨x,0,none⟩ (fun I=> ∃(x5_4a:Int) (x5_4b:Int) (x5_4c:Int) (x5_4d:Int),qj ro I ⟨x,0,none⟩ 0 [.int .i64 x5_4a,.int .i64 x5_4b,.int .i64 x5_4c,.int .i64 x5_4d]/\Q (⟨none,0,0⟩:Sl) x5_4a x5_4b x5_4c x5_4d e I) [.int .i64 0,.int .i64 0,.int .i64 0,.int .i64 0] 0 I1:=by
  intro e he
  refine r1.stAll hs1 rfl (by simp[qg]) fun I2 st2 r2=>?_
  obtain⟨q,hq,hg⟩:=r2.ptr st2.sep (by simp)
  cases hq
  exact⟨0,0,0,0,wr 0 fun j v hj=>by have:=hg j v hj;rwa [Nat.mul_one,<-Nat.zero_add j]at this,he tag1 I2 (((st1 []).c (by simp)).trans (st2.c (by simp)))⟩
 refine akb g hA hs1 (fun hb=>?_) (fun ps hps hl=>?_) (fun ps i b n hps hb hp hl=>?_)
 .rw[if_pos (by decide)]
  exact err 20 (hbad hb)
 .rw[if_pos (by decide)]
  exact err 70 (hmiss ps hps hl)
 .rw[if_neg (by decide)]
  obtain⟨ds,hn,hd⟩:=hA.nodes i b _ hb hp
  obtain⟨ht0,hto⟩:=hn.tagOf
  refine pO b ?_
  have hs2:SL.Sep (join ro (SL.one I1 b)) (SL.del I1 b):=hs1.lent
  refine⟨_,rfl,_,rfl,n.ver,n.ctr,n.own,n.kids,wr 0 fun j v hj=>?_,ds,hn.lend hs1 (i:=4) rfl,?_⟩
  .rw[Nat.zero_add,<-Nat.mul_one j]
   have hj4:j<4:=by
    rcases Nat.lt_or_ge j 4 with h' | h'
    .exact h'
    .rw[List.getElem?_eq_none (by simpa using h')]at hj;cases hj
   refine hn.lend hs1 (i:=j) ?_
   rw[<-hj]
   rcases j with _ | _ | _ | _ | j
   .rfl
   .rfl
   .rfl
   .rfl
   .omega
  .have hd1:=hd.del (b:=b) ht0 (by omega)
   have hx1:=r1.del (b:=b) ht0 (by omega)
   refine abD (tag:=tag1) (hd1.read hs2) hs2 ?_ (by simp[qg]) fun s' tag2 I2 st2 r2=>?_
   .have:=hdl _ _ hl;simp;omega
   .have hx2:=hx1.keep (st2 [])
    refine hx2.stAll (st2 []).sep rfl (by simp[qg]) fun I3 st3 r3=>?_
    intro hdj
    have stB:=((st2 [0]).trans st3).back hs1 hdj hto
    have r4:=r3.back (r':=tag1 b) hdj hto
    have r5:=(r2.keep st3).back (r':=tag1 b) hdj hto
    obtain⟨q,hq,hg⟩:=r4.ptr stB.sep (by simp)
    cases hq
    refine⟨n.ver,n.ctr,n.own,n.kids,wr 0 fun j v hj=>by have:=hg j v hj;rwa [Nat.mul_one,<-Nat.zero_add j]at this,?_⟩
    exact hhit n hl s' _ _ (((st1 []).c (by simp)).trans (stB.c (by simp))) r5