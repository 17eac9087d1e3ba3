import Derived.Test.YtomdigihapdhnaaGreatDoorXE
set_option linter.all false
set_option maxRecDepth 99999
set_option maxHeartbeats 0
open Go.IntKind(i64)
open Go.Proofs.Tryz
namespace Go.Proofs.YtomdigihapdhnaaGreatDoor
namespace SL
open Go
variable{P:Program}{B:World}{ro I I':AH}{tag tag':Nat->Nat}{κ:Type}[DecidableEq κ]{enc:κ->Value}
variable{m:List (κ×Value)}{C L R:List Nat}{M b bt n r:Nat}{et kt t ty:TypeId}{v zv:Value}{K:Value->AH->Prop}{k:κ}
section
variable{α:Type}
def wD:List (κ×α)->κ->α->List (κ×α)
 | [],k,v=>[(k,v)]
 | (k',v')::r,k,v=>if k=k' then(k,v)::r else(k',v')::wD r k v
def jN:List (κ×α)->κ->List (κ×α)
 | [],_=>[]
 | (k',v')::r,k=>if k=k' then r else(k',v')::jN r k
def qI:List (κ×α)->κ->Option α
 | [],_=>none
 | (k',v')::r,k=>if k=k' then some v' else qI r k
end
def adN(enc:κ->Value)(p:κ×Value):Value×Value:=(enc p.1,p.2)
def ace(k:κ):List (κ×Value)->Nat->Option (Nat×Value)
 | [],_=>none
 | p::m,i=>if k=p.1 then some (i,p.2)else ace k m (i+1)
structure ajj(P:Program)(kt:TypeId)(enc:κ->Value):Prop where
 check:∀ {ro I:AH} {β:Type} {em:Bool} {k:κ} {f:Unit->Sem β} {K:β->AH->Prop},awp P ro (f ()) K I->awp P ro (Sem.bind (Instr.checkKey em 10000 kt (enc k)) f) K I
 find:∀ {ro I:AH} {β:Type} {k:κ} {l:List MapEntry} {m:List (κ×Value)} {f:Option (Nat×Value)->Sem β} {K:β->AH->Prop},l.map ub=m.map (adN enc)->awp P ro (f (ace k m 0)) K I->awp P ro (Sem.bind (Instr.findKey kt (enc k) l) f) K I
 stays:∀ k,Instr.keyThatStays (enc k) (enc k)=Sem.pure (enc k)
structure zY(enc:κ->Value)(tag:Nat->Nat)(I:AH)(r b:Nat)(m:List (κ×Value)):Prop where
 tg:tag b=r
 obj:∃ es clock,I b=some (.map es clock)/\es.toList.map ub=m.map (adN enc)/\akr es clock
theorem zY.keep(h:zY enc tag I r b m)(k:qe R ro tag I tag' I')(hr:r∉R:=by simp):zY enc tag' I' r b m:=by
 obtain⟨es,c,hb,hx⟩:=h.obj
 obtain⟨t,e⟩:=k.keep b _ hb (by rw[h.tg];exact hr)
 exact⟨t.trans h.tg,es,c,e,hx⟩
theorem zY.keepS(h:zY enc tag I r b m)(k:StepS C ro tag I tag' I')(hr:r%64∉C:=by decide):zY enc tag' I' r b m:=by
 obtain⟨R,h1,h2⟩:=k
 exact h.keep h2 fun m=>hr (h1 _ m)
theorem agM(k:κ):∀ (m:List (κ×Value)) (i:Nat),
  (qI m k=none/\jN m k=m/\(∀v,wD m k v=m++[(k,v)])/\ace k m i=none)\/
  ∃j v,j<m.length/\qI m k=some v/\ace k m i=some (i+j,v)/\m[j]?=some (k,v)/\(∀v',wD m k v'=m.set j (k,v'))/\jN m k=m.eraseIdx j:=by
 intro m
 induction m with
 | nil=>intro i;exact .inl ⟨rfl,rfl,fun _=>rfl,rfl⟩
 | cons p m ih=>
  intro i
  obtain⟨pk,pv⟩:=p
  by_cases c:k=pk
  .subst c
   exact .inr ⟨0,pv,by simp,by simp[qI],by simp[ace],rfl,fun v'=>by simp[wD],by simp[jN]⟩
  .rcases ih (i+1)with⟨a,b,d,f⟩ | ⟨j,v,hj,a,f,g,q,w⟩
   .exact .inl ⟨by simp[qI,c,a],by simp[jN,c,b],fun v=>by simp[wD,c,d],by simp[ace,c,f]⟩
   .exact .inr ⟨j+1,v,by simp;omega,by simp[qI,c,a],by simp[ace,c];rw[f];congr 2;omega,by simpa using g,fun v'=>by simp[wD,c,q],by simp[jN,c,w]⟩
theorem ami{ok:Bool}(hm:zY enc tag I r b m)(hs:Sep ro I)(ht:P.underlying t=some (.map kt et))(hk:ajj P kt enc)(hz:qp P et zv n bt)
  (hK:K (if ok then .tuple #[(qI m k).getD zv,.bool (qI m k).isSome]else(qI m k).getD zv) I):awp P ro (Instr.lookup t (.map (some b)) (enc k) ok) K I:=by
 obtain⟨es,clock,hb,he,hbn⟩:=hm.obj
 unfold Instr.lookup
 simp only[qy]
 rw[qw ht]
 simp only[bind_assoc']
 refine⟨.map es clock,by unfold rd;rw[hs b _ hb];exact hb,rfl,?_⟩
 refine hk.check ?_
 refine hk.find he ?_
 rcases agM k m 0 with⟨a,_,_,f⟩ | ⟨j,v,hj,a,f,_⟩
 .rw[f]
  simp only[bind_assoc']
  rw[aaW hz]
  rw[a]at hK
  exact hK
 .rw[f]
  rw[a]at hK
  exact hK
theorem zZ(hm:zY enc tag I r b m)(hs:Sep ro I)(ht:P.underlying t=some (.map kt et))(hk:ajj P kt enc)(hz:qp P et zv n bt)
  (hK:K ((qI m k).getD zv) I):awp P ro (Instr.lookup t (.map (some b)) (enc k) false) K I:=ami hm hs ht hk hz hK
theorem aau{K:Unit->AH->Prop}(hm:zY enc tag I r b m)(hs:Sep ro I)(ht:P.underlying t=some (.map kt et))(hk:ajj P kt enc)
  (hK:∀ I',qe [r] ro tag I tag I'->zY enc tag I' r b (wD m k v)->K () I'):awp P ro (Instr.mapUpdate t (.map (some b)) (enc k) v) K I:=by
 obtain⟨es,clock,hb,he,hbn⟩:=hm.obj
 have hsz:es.toList.length=m.length:=by have:=congrArg List.length he;simpa using this
 unfold Instr.mapUpdate
 simp only[qy]
 rw[qw ht]
 refine⟨.map es clock,by unfold rd;rw[hs b _ hb];exact hb,rfl,?_⟩
 refine hk.check ?_
 refine hk.find he ?_
 rcases agM k m 0 with⟨a,_,d,f⟩ | ⟨j,u,hj,a,f,g,q,_⟩
 .rw[f]
  refine⟨.map es clock,hb,rfl,?_⟩
  refine hK _ (kh hs hm.tg hb) ⟨hm.tg,_,_,qE _ _ _,?_,?_,?_⟩
  .rw[d v,Array.toList_push,List.map_append,List.map_append,he];try rfl
  .intro e he'
   rw[Array.toList_push]at he'
   rcases List.mem_append.1 he' with h | h
   .have:=hbn.lt e h;omega
   .rw[List.mem_singleton]at h;rw[h];exact Nat.lt_succ_self _
  .rw[Array.toList_push,List.map_append,List.nodup_append]
   refine⟨hbn.nd,by simp,?_⟩
   intro x hx y hy
   obtain⟨e,he',rfl⟩:=List.mem_map.1 hx
   have:=hbn.lt e he'
   simp at hy;omega
 .rw[f]
  have hjl:j<es.toList.length:=by omega
  have hje:j<es.size:=by simpa using hjl
  have hkey:es[j].key=enc k:=by
   have h1:(es.toList.map ub)[j]?=(m.map (adN enc))[j]?:=by rw[he]
   rw[List.getElem?_map,List.getElem?_map,g,List.getElem?_eq_getElem hjl]at h1
   have:=Option.some.inj h1
   exact congrArg Prod.fst this
  have hst:(((es[0+j]?).map (·.key)).getD (enc k))=enc k:=by
   rw[Nat.zero_add,Array.getElem?_eq_getElem hje]
   exact hkey
  simp only
  rw[hst,hk.stays k]
  refine⟨.map es clock,hb,rfl,?_⟩
  have hml:(es.modify (0+j) fun e=>{e with key:=enc k,val:=v}).toList=es.toList.modify j fun e=>{e with key:=enc k,val:=v}:=by
   rw[Nat.zero_add];exact Array.toList_modify ..
  refine hK _ (kh hs hm.tg hb) ⟨hm.tg,_,_,qE _ _ _,?_,?_,?_⟩
  .rw[hml,q v]
   apply List.ext_getElem?
   intro i
   rw[List.getElem?_map,List.getElem?_map,List.getElem?_modify,List.getElem?_set]
   have hi:(es.toList.map ub)[i]?=(m.map (adN enc))[i]?:=by rw[he]
   rw[List.getElem?_map,List.getElem?_map]at hi
   by_cases c:j=i
   .subst c
    rw[if_pos rfl,if_pos hj,List.getElem?_eq_getElem hjl]
    simp[ub,adN]
   .rw[if_neg c]
    simp only[c,if_false]
    cases h:es.toList[i]? with
    | none=>rw[h]at hi;simpa using hi
    | some e=>rw[h]at hi;simpa using hi
  .intro e he'
   rw[hml]at he'
   obtain⟨i,hi,rfl⟩:=List.getElem_of_mem he'
   rw[List.getElem_modify]
   rw[List.length_modify]at hi
   split
   .have:=hbn.lt _ (List.getElem_mem hi)
    exact this
   .have:=hbn.lt _ (List.getElem_mem hi)
    exact this
  .rw[hml]
   have:(es.toList.modify j fun e=>{e with key:=enc k,val:=v}).map (·.born)=es.toList.map (·.born):=by
    apply List.ext_getElem?
    intro i
    rw[List.getElem?_map,List.getElem?_map,List.getElem?_modify]
    by_cases c:j=i
    .subst c;rw[List.getElem?_eq_getElem hjl];simp
    .simp[c]
   rw[this];exact hbn.nd
theorem afO{u:TypeId}(hm:zY enc tag I r b m)(hs:Sep ro I)(ht:P.underlying t=some (.map kt et))(hk:ajj P kt enc)
  (hK:∀ I',qe [r] ro tag I tag I'->zY enc tag I' r b (jN m k)->K (.tuple #[]) I'):awp P ro (Builtin.delete_ #[t,u] ty #[.map (some b),enc k]) K I:=by
 obtain⟨es,clock,hb,he,hbn⟩:=hm.obj
 have hsz:es.toList.length=m.length:=by have:=congrArg List.length he;simpa using this
 unfold Builtin.delete_
 simp only[qy]
 show awp P ro (Sem.bind (underlying t) _) K I
 rw[qw ht]
 show awp P ro (Sem.bind (getObj b) _) K I
 refine⟨.map es clock,by unfold rd;rw[hs b _ hb];exact hb,rfl,?_⟩
 refine hk.check ?_
 refine hk.find he ?_
 rcases agM k m 0 with⟨a,d,_,f⟩ | ⟨j,u,hj,a,f,g,_,w⟩
 .rw[f]
  refine⟨.map es clock,hb,rfl,?_⟩
  refine hK _ (kh hs hm.tg hb) ⟨hm.tg,_,_,qE _ _ _,?_,hbn⟩
  rw[d];exact he
 .rw[f]
  refine⟨.map es clock,hb,rfl,?_⟩
  have hjl:j<es.toList.length:=by omega
  have hje:j<es.size:=by simpa using hjl
  have hel:(es.eraseIdxIfInBounds (0+j)).toList=es.toList.eraseIdx j:=by
   rw[Nat.zero_add]
   simp[Array.eraseIdxIfInBounds,hje]
  refine hK _ (kh hs hm.tg hb) ⟨hm.tg,_,_,qE _ _ _,?_,?_,?_⟩
  .rw[hel,w,map_eraseIdx',map_eraseIdx',he]
  .intro e he'
   rw[hel]at he'
   exact hbn.lt e ((List.eraseIdx_sublist ..).subset he')
  .rw[hel]
   exact List.Nodup.sublist ((List.eraseIdx_sublist ..).map _) hbn.nd
where
 map_eraseIdx' {α β:Type} {f:α->β}:∀ {l:List α} {j:Nat},(l.eraseIdx j).map f=(l.map f).eraseIdx j:=fun{l} {j}=>by
  induction l generalizing j with
  | nil=>simp
  | cons x l ih=>cases j<;>simp[ih]
theorem af8(enc:κ->Value)(r:Nat){K:Nat->AH->Prop}(hs:Sep ro I)(hK:∀ b tag' I',(∀R,qe R ro tag I tag' I')->zY enc tag' I' r b []->K b I'):nw ro I (.map #[] 0) K:=by
 intro b hro hb
 exact hK b (setTag tag b r) _ (fun R=>qe.fresh hs hro hb) ⟨by simp[setTag],_,_,qE _ _ _,rfl,by simp,by simp⟩
theorem ajk(hm:zY enc tag I r b m)(hs:Sep ro I)(ht:P.underlying t=some (.map kt et))(hK:K (.int .i64 (m.length:Nat)) I):awp P ro (Builtin.len_ #[t] ty #[.map (some b)]) K I:=by
 obtain⟨es,clock,hb,he,hbn⟩:=hm.obj
 unfold Builtin.len_
 simp only[qy]
 show awp P ro (Sem.bind (underlying t) _) K I
 rw[qw ht]
 refine⟨.map es clock,by unfold rd;rw[hs b _ hb];exact hb,rfl,?_⟩
 have hsz:es.size=m.length:=by have:=congrArg List.length he;simpa using this
 show K (.int .i64 (es.size:Nat)) I
 rw[hsz];exact hK
theorem zY.outR(h:zY enc tag I r b m)(hr:r∉L):zY enc tag (SL.zJ tag L I) r b m:=by
 obtain⟨es,clock,hb,x⟩:=h.obj
 exact⟨h.tg,es,clock,by unfold SL.zJ;rw[if_neg (by rw[h.tg];exact hr)];exact hb,x⟩
theorem af9(ht:P.underlying t=some (.map kt et))(hm:zY enc tag I r M m)(hs:Sep ro I)
  (hK:∀ (es:Array MapEntry) (clock x:Nat),I M=some (.map es clock)->es.toList.map ub=m.map (adN enc)->akr es clock->ro x=none->I x=none->K (.pointer (some ⟨x,0,none⟩)) (upd I x (.mapIter (some M) clock #[] clock))):
  awp P ro (Instr.range t (.map (some M))) K I:=by
 obtain⟨es,clock,hb,he,hbn⟩:=hm.obj
 unfold Instr.range
 simp only[qy]
 rw[qw ht]
 refine⟨.map es clock,by unfold rd;rw[hs M _ hb];exact hb,rfl,?_⟩
 intro x hro hx
 exact hK es clock x hb he hbn hro hx
theorem alb{T:Type}{F:Addr->T->AH->(T->AH->Prop)->Prop}{s0:T}(ht:P.underlying t=some (.map kt et))(hm:zY enc tag I r M m)(hs:Sep ro I)(hR:r∉R)(h0:0∉R)(hr0:r≠0)
  (J:List (κ×Value)->T->(Nat->Nat)->AH->Prop) (h:∀ tag' I',(∀R,qe R ro tag I tag' I')->J [] s0 tag' I')
  (hround:∀ (x:Addr) d rest s tag I (Y:T->AH->Prop),(d++rest).Perm m->SL.Sep ro I->J d s tag I->
   (∀K:Value->AH->Prop,(rest=[]->K (.tuple #[.bool false]) I)->
    (∀p q a b tag' I',(d++p::q).Perm m->qe [0] ro tag I tag' I'->zY enc tag' I' r M m->
     (∀K':Value->AH->Prop,K' (.tuple #[enc p.1,p.2]) I'->awp P ro (Instr.entry (.pointer (some x))) K' I')->
     (∀s' tag2 I2,qe R ro tag' I' tag2 I2->J (d++[p]) s' tag2 I2->Y s' I2)->K (.tuple #[.bool true,a,b]) I')->
    awp P ro (Instr.next (.pointer (some x)) false ty) K I)->F x s I Y):
  awp P ro (Instr.range t (.map (some M))) (fun v I=> ∃p:Addr,v= .pointer (some p)/\lfpD (F p) s0 I) I:=by
 refine af9 ht hm hs fun es clock x hM hes hbn hro hx=>?_
 refine⟨_,rfl,?_⟩
 have hxM:x≠M:=fun e=>by rw[e,hM]at hx;cases hx
 have zips:∀ {l:List MapEntry} {m:List (κ×Value)},l.map ub=m.map (adN enc)->∃ z:List (MapEntry×(κ×Value)),z.map Prod.fst=l/\z.map Prod.snd=m/\∀ y∈z,ub y.1=adN enc y.2:=by
  intro l
  induction l with
  | nil=>intro m h;cases m with
   | nil=>exact⟨[],rfl,rfl,fun y h=>by cases h⟩
   | cons p m=>cases h
  | cons e l ih=>
   intro m h
   cases m with
   | nil=>cases h
   | cons p m=>
    simp only[List.map_cons,List.cons.injEq]at h
    obtain⟨z,z1,z2,z3⟩:=ih h.2
    refine⟨(e,p)::z,by rw[List.map_cons,z1],by rw[List.map_cons,z2],fun y hy=>?_⟩
    rcases List.mem_cons.1 hy with rfl | hy
    .exact h.1
    .exact z3 y hy
 obtain⟨z,z1,z2,z3⟩:=zips hes
 suffices∀(n:Nat) (D rest:List (MapEntry×(κ×Value))) (seen:Array Nat) (s:T) (tag1:Nat->Nat) (I1:AH),rest.length=n->(D++rest).Perm z->(∀e∈D,seen.contains e.1.born=true)->(∀e∈rest,seen.contains e.1.born=false)->
   SL.Sep ro I1->tag1 x=0->I1 x=some (.mapIter (some M) clock seen clock)->tag1 M=r->I1 M=some (.map es clock)->J (D.map Prod.snd) s tag1 I1->lfpD (F ⟨x,0,none⟩) s I1 from by
  have st1:∀ R,qe R ro tag I (setTag tag x 0) (upd I x (.mapIter (some M) clock #[] clock)):=fun R=>qe.fresh hs hro hx
  exact this z.length [] z #[] s0 _ _ rfl (by simp) (fun e h=>by cases h) (fun e _=>by simp) (st1 []).sep (by simp[setTag]) (qE _ _ _) (by simp[setTag,hxM.symm];exact hm.tg) (by rw[yS _ _ hxM.symm];exact hM) (h _ _ st1)
 intro n
 induction n with
 | zero=>
  intro D rest seen s tag1 I1 hn hp hD hrest hs1 htx hit htm hmp hA
  obtain rfl:=List.length_eq_zero_iff.1 hn
  have hp':=hp.map Prod.snd
  rw[z2,List.map_append]at hp'
  refine lfpD.intro (hround ⟨x,0,none⟩ _ _ s tag1 I1 _ hp' hs1 hA fun K hend hstep=>?_)
  refine adc hit hmp hs1 hbn (fun hall=>hend rfl) fun e he hne=>?_
  rw[List.append_nil]at hp
  rw[<-z1]at he
  obtain⟨y,hy,rfl⟩:=List.mem_map.1 he
  have:=hD y (hp.mem_iff.2 hy);rw[hne]at this;cases this
 | succ n ih=>
  intro D rest seen s tag1 I1 hn hp hD hrest hs1 htx hit htm hmp hA
  have hp':=hp.map Prod.snd
  rw[z2,List.map_append]at hp'
  refine lfpD.intro (hround ⟨x,0,none⟩ _ _ s tag1 I1 _ hp' hs1 hA fun K hend hstep=>?_)
  refine adc hit hmp hs1 hbn (fun hall=>?_) fun e he hne=>?_
  .exfalso
   cases rest with
   | nil=>simp at hn
   | cons y rest=>
    have hyz:y∈z:=hp.mem_iff.1 (by simp)
    have h1:=hall y.1 (by rw[<-z1];exact List.mem_map.2 ⟨y,hyz,rfl⟩)
    have h2:=hrest y (by simp)
    rw[h1]at h2;cases h2
  .have st2:qe [0] ro tag1 I1 tag1 (upd I1 x (.mapIter (some M) clock (seen.push e.born) clock)):=kh hs1 htx hit
   have hmp2:upd I1 x (.mapIter (some M) clock (seen.push e.born) clock) M=some (.map es clock):=by rw[yS _ _ hxM.symm];exact hmp
   have he':=he
   rw[<-z1]at he'
   obtain⟨y,hyz,hye⟩:=List.mem_map.1 he'
   have hin:y∈rest:=by
    rcases List.mem_append.1 (hp.mem_iff.2 hyz)with h | h
    .have:=hD y h;rw[hye,hne]at this;cases this
    .exact h
   obtain⟨a,b,rfl⟩:=List.append_of_mem hin
   have hp2:(D++y::(a++b)).Perm z:=(List.Perm.append_left D List.perm_middle.symm).trans hp
   have hy3:=z3 y hyz
   rw[hye]at hy3
   have hk1:e.key=enc y.2.1:=congrArg Prod.fst hy3
   have hv1:e.val=y.2.2:=congrArg Prod.snd hy3
   have hnd:((D++y::(a++b)).map (·.1.born)).Nodup:=by
    have h1:(D++y::(a++b)).map (·.1.born)=((D++y::(a++b)).map Prod.fst).map (·.born):=by rw[List.map_map];try rfl
    rw[h1]
    have h2:=hp2.map Prod.fst
    rw[z1]at h2
    exact(h2.map _).nodup_iff.2 hbn.nd
   refine hstep y.2 ((a++b).map Prod.snd) _ _ tag1 _ ?_ st2 ⟨htm,es,clock,hmp2,hes,hbn⟩ (fun K' hK'=>?_) fun s' tag2 I2 st3 hJ2=>?_
   .have:=hp2.map Prod.snd
    rw[z2]at this
    simpa using this
   .refine aht (qE _ _ _) hmp2 st2.sep hbn he ?_
    rw[hk1,hv1];exact hK'
   .have e1:=st3.keep x _ (qE _ _ _) (by rw[htx];exact h0)
    have e2:=st3.keep M _ hmp2 (by rw[htm];exact hR)
    refine ih (D++[y]) (a++b) (seen.push e.born) s' tag2 I2 (by simp at hn ⊢;omega) (by simpa using hp2) (fun w hw=>?_) (fun w hw=>?_) st3.sep (e1.1.trans htx) e1.2 (e2.1.trans htm) e2.2 (by simpa using hJ2)
    .rcases List.mem_append.1 hw with h | h
     .have:=hD w h;simp at this ⊢;exact .inl this
     .rw[List.mem_singleton.1 h,hye];simp
    .have h1:seen.contains w.1.born=false:=hrest w (by simp at hw ⊢;rcases hw with h | h<;>simp[h])
     have h2:w.1.born≠e.born:=by
      rw[List.map_append,List.map_cons,List.nodup_append]at hnd
      have:=(List.nodup_cons.1 hnd.2.1).1
      intro hh
      exact this (by rw[hye,<-hh];exact List.mem_map.2 ⟨w,hw,rfl⟩)
     rw[<-Bool.not_eq_true]at h1⊢
     simp at h1⊢
     exact⟨h1,h2⟩
end SL
namespace SL
open Go
variable{P:Program}{B:World}{ro I I':AH}{tag tag':Nat->Nat}{κ α:Type}[DecidableEq κ]{enc:κ->Value}
variable{b i:Nat}{a:α}{k:κ}
abbrev aeo(b:Nat):Value:= .pointer (some ⟨b,0,none⟩)
def kvP:List (κ×α)->List Nat->List (κ×Value)
 | (k,_)::m,b::bs=>(k,aeo b)::kvP m bs
 | _,_=>[]
structure ym(enc:κ->Value)(At:Nat->κ->α->Prop)(tag:Nat->Nat)(I:AH)(r M:Nat)(bs:List Nat)(m:List (κ×α)):Prop where
 keys:(m.map (·.1)).Nodup
 len:bs.length=m.length
 nd:bs.Nodup
 map:zY enc tag I r M (kvP m bs)
 at':∀ (i b:Nat) (k:κ) (a:α),bs[i]?=some b->m[i]?=some (k,a)->At b k a
theorem ar1:∀ (m:List (κ×α)) (bs:List Nat),bs.length=m.length->(kvP m bs).length=m.length:=by
 intro m
 induction m with
 | nil=>intro bs h;cases bs<;>rfl
 | cons p m ih=>
  intro bs h
  cases bs with
  | nil=>simp at h
  | cons b bs=>obtain⟨k,a⟩:=p;unfold kvP;simp[ih bs (by simpa using h)]
theorem anx:∀ (m:List (κ×α)) (bs:List Nat),bs.length=m.length->∀ (k:κ) (v:Value),(k,v)∈kvP m bs->∃ (i b:Nat) (a:α),bs[i]?=some b/\m[i]?=some (k,a)/\v=aeo b:=by
 intro m
 induction m with
 | nil=>intro bs h k v hm;cases bs<;>cases hm
 | cons p m ih=>
  intro bs h k v hm
  cases bs with
  | nil=>simp at h
  | cons b bs=>
   obtain⟨pk,pa⟩:=p
   unfold kvP at hm
   rcases List.mem_cons.1 hm with e | hm
   .cases e;exact⟨0,b,pa,rfl,rfl,rfl⟩
   .obtain⟨i,b',a,h1,h2,h3⟩:=ih bs (by simpa using h) k v hm
    exact⟨i+1,b',a,by simpa using h1,by simpa using h2,h3⟩
theorem aqr:∀ (m:List (κ×α)) (bs:List Nat) (k:κ),bs.length=m.length->
  (qI m k=none/\qI (kvP m bs) k=none)\/∃ (i b:Nat) (a:α),bs[i]?=some b/\m[i]?=some (k,a)/\qI m k=some a/\qI (kvP m bs) k=some (aeo b):=by
 intro m
 induction m with
 | nil=>intro bs k h;exact .inl ⟨rfl,by cases bs<;>rfl⟩
 | cons p m ih=>
  intro bs k h
  cases bs with
  | nil=>simp at h
  | cons b bs=>
   obtain⟨pk,pa⟩:=p
   unfold kvP qI
   by_cases c:k=pk
   .subst c
    exact .inr ⟨0,b,pa,rfl,rfl,by simp,by simp⟩
   .rw[if_neg c,if_neg c]
    rcases ih bs k (by simpa using h)with h' | ⟨i,b',a,h1,h2,h3,h4⟩
    .exact .inl h'
    .exact .inr ⟨i+1,b',a,by simpa using h1,by simpa using h2,h3,h4⟩
theorem pS:∀ {m:List (κ×α)} {k:κ} {a:α},qI m k=some a->(k,a)∈m:=by
 intro m
 induction m with
 | nil=>intro k a h;cases h
 | cons p m ih=>
  intro k a h
  obtain⟨pk,pa⟩:=p
  unfold qI at h
  split at h
  .rename_i e;subst e;cases h;simp
  .exact List.mem_cons_of_mem _ (ih h)
theorem xi:∀ {m:List (κ×α)} {k:κ},qI m k=none↔k∉m.map (·.1):=by
 intro m
 induction m with
 | nil=>intro k;simp[qI]
 | cons p m ih=>
  intro k
  obtain⟨pk,pa⟩:=p
  unfold qI
  by_cases c:k=pk
  .simp[c]
  .rw[if_neg c,ih];simp[c]
theorem ajl:∀ {m:List (κ×α)} {k:κ} {a:α},(m.map (·.1)).Nodup->(k,a)∈m->qI m k=some a:=by
 intro m
 induction m with
 | nil=>intro k a _ h;cases h
 | cons p m ih=>
  intro k a hn h
  obtain⟨pk,pa⟩:=p
  simp only[List.map_cons,List.nodup_cons]at hn
  unfold qI
  rcases List.mem_cons.1 h with e | h
  .cases e;simp
  .have:k≠pk:=fun e=>hn.1 (by rw[<-e];exact List.mem_map.2 ⟨_,h,rfl⟩)
   rw[if_neg this];exact ih hn.2 h
theorem ae7:∀ {m:List (κ×α)} {i:Nat} {k:κ} {a:α} (a':α),(m.map (·.1)).Nodup->m[i]?=some (k,a)->wD m k a'=m.set i (k,a'):=by
 intro m
 induction m with
 | nil=>intro i k a a' _ h;cases h
 | cons p m ih=>
  intro i k a a' hn h
  obtain⟨pk,pa⟩:=p
  simp only[List.map_cons,List.nodup_cons]at hn
  unfold wD
  cases i with
  | zero=>cases h;simp
  | succ i=>
   have hm:m[i]?=some (k,a):=by simpa using h
   have:k≠pk:=fun e=>hn.1 (by rw[<-e];exact List.mem_map.2 ⟨_,List.mem_of_getElem? hm,rfl⟩)
   rw[if_neg this,ih a' hn.2 hm];try rfl
theorem ae8:∀ {m:List (κ×α)} {k:κ} (a:α),qI m k=none->wD m k a=m++[(k,a)]:=by
 intro m
 induction m with
 | nil=>intro k a _;rfl
 | cons p m ih=>
  intro k a h
  obtain⟨pk,pa⟩:=p
  unfold qI at h
  unfold wD
  split at h
  .cases h
  .rename_i c
   rw[if_neg c,ih a h];try rfl
theorem ajW:∀ {m:List (κ×α)} {i:Nat} {k:κ} {a:α},(m.map (·.1)).Nodup->m[i]?=some (k,a)->jN m k=m.eraseIdx i:=by
 intro m
 induction m with
 | nil=>intro i k a _ h;cases h
 | cons p m ih=>
  intro i k a hn h
  obtain⟨pk,pa⟩:=p
  simp only[List.map_cons,List.nodup_cons]at hn
  unfold jN
  cases i with
  | zero=>cases h;simp
  | succ i=>
   have hm:m[i]?=some (k,a):=by simpa using h
   have:k≠pk:=fun e=>hn.1 (by rw[<-e];exact List.mem_map.2 ⟨_,List.mem_of_getElem? hm,rfl⟩)
   rw[if_neg this,ih hn.2 hm];try rfl
theorem alc:∀ {m:List (κ×α)} {k:κ},qI m k=none->jN m k=m:=by
 intro m
 induction m with
 | nil=>intro k _;rfl
 | cons p m ih=>
  intro k h
  obtain⟨pk,pa⟩:=p
  unfold qI at h
  unfold jN
  split at h
  .cases h
  .rename_i c
   rw[if_neg c,ih h]
theorem akz:∀ (m:List (κ×α)) (bs:List Nat) (i:Nat) (k:κ) (a a':α),m[i]?=some (k,a)->kvP (m.set i (k,a')) bs=kvP m bs:=by
 intro m
 induction m with
 | nil=>intro bs i k a a' h;cases h
 | cons p m ih=>
  intro bs i k a a' h
  cases bs with
  | nil=>cases i<;>simp[kvP]
  | cons b bs=>
   cases i with
   | zero=>cases h;rfl
   | succ i=>simp only[List.set_cons_succ];unfold kvP;rw[ih bs i k a a' (by simpa using h)]
theorem ar2:∀ (m:List (κ×α)) (bs:List Nat) (k:κ) (a:α) (b:Nat),bs.length=m.length->kvP (m++[(k,a)]) (bs++[b])=kvP m bs++[(k,aeo b)]:=by
 intro m
 induction m with
 | nil=>intro bs k a b h;have:bs=[]:=List.eq_nil_of_length_eq_zero h;subst this;rfl
 | cons p m ih=>
  intro bs k a b h
  cases bs with
  | nil=>simp at h
  | cons c bs=>
   obtain⟨pk,pa⟩:=p
   simp only[List.cons_append]
   unfold kvP
   rw[ih bs k a b (by simpa using h)];try rfl
theorem ao2:∀ (m:List (κ×α)) (bs:List Nat) (i:Nat),bs.length=m.length->kvP (m.eraseIdx i) (bs.eraseIdx i)=(kvP m bs).eraseIdx i:=by
 intro m
 induction m with
 | nil=>intro bs i h;have:bs=[]:=List.eq_nil_of_length_eq_zero h;subst this;simp[kvP]
 | cons p m ih=>
  intro bs i h
  cases bs with
  | nil=>simp at h
  | cons c bs=>
   obtain⟨pk,pa⟩:=p
   cases i with
   | zero=>simp[kvP]
   | succ i=>simp only[List.eraseIdx_cons_succ];unfold kvP;rw[ih bs i (by simpa using h)];simp
theorem adx:∀ (m:List (κ×α)) (bs:List Nat),bs.length=m.length->(kvP m bs).map (·.1)=m.map (·.1):=by
 intro m
 induction m with
 | nil=>intro bs h;cases bs<;>rfl
 | cons p m ih=>
  intro bs h
  cases bs with
  | nil=>simp at h
  | cons c bs=>obtain⟨pk,pa⟩:=p;unfold kvP;simp[ih bs (by simpa using h)]
theorem acu{β:Type}{l:List β}(hn:l.Nodup){j:Nat}{x:β}(hi:l[i]?=some x)(hj:l[j]?=some x):i=j:=by
 have hil:i<l.length:=(List.getElem?_eq_some_iff.1 hi).1
 have hjl:j<l.length:=(List.getElem?_eq_some_iff.1 hj).1
 rw[List.getElem?_eq_getElem hil]at hi
 rw[List.getElem?_eq_getElem hjl]at hj
 exact(List.getElem_inj hn).1 (by rw[Option.some.inj hi,Option.some.inj hj])
variable{At At':Nat->κ->α->Prop}{r M:Nat}{bs:List Nat}{m:List (κ×α)}
theorem ym.nil(h:zY enc tag I r M []):ym enc At tag I r M [] ([]:List (κ×α)):=⟨by simp,rfl,by simp,h,fun i b k a hb=>by cases hb⟩
theorem ym.mono(h:ym enc At tag I r M bs m)(hm:zY enc tag' I' r M (kvP m bs))(ha:∀ (i b:Nat) (k:κ) (a:α),bs[i]?=some b->m[i]?=some (k,a)->At b k a->At' b k a):ym enc At' tag' I' r M bs m:=
 ⟨h.keys,h.len,h.nd,hm,fun i b k a hb hp=>ha i b k a hb hp (h.at' i b k a hb hp)⟩
theorem ym.look(h:ym enc At tag I r M bs m)(k:κ):(qI m k=none/\qI (kvP m bs) k=none)\/∃ (i b:Nat) (a:α),bs[i]?=some b/\m[i]?=some (k,a)/\qI m k=some a/\qI (kvP m bs) k=some (aeo b)/\At b k a:=by
 rcases aqr m bs k h.len with h' | ⟨i,b,a,h1,h2,h3,h4⟩
 .exact .inl h'
 .exact .inr ⟨i,b,a,h1,h2,h3,h4,h.at' i b k a h1 h2⟩
theorem ym.write{a':α}(h:ym enc At tag I r M bs m)(hb:bs[i]?=some b)(hp:m[i]?=some (k,a))(hm:zY enc tag' I' r M (kvP m bs))(hn:At' b k a')(ho:∀ b' k' x,b'≠b->k'≠k->At b' k' x->At' b' k' x):ym enc At' tag' I' r M bs (wD m k a'):=by
 rw[ae7 a' h.keys hp]
 have hil:i<m.length:=(List.getElem?_eq_some_iff.1 hp).1
 refine⟨?_,by simpa using h.len,h.nd,by rw[akz _ _ _ _ _ _ hp];exact hm,fun j c k' x hc hx=>?_⟩
 .have:(m.set i (k,a')).map (·.1)=m.map (·.1):=by
   apply List.ext_getElem?
   intro j
   rw[List.map_set,List.getElem?_set,List.getElem?_map]
   by_cases e:i=j
   .subst e;rw[hp];simp[hil]
   .rw[if_neg e]
  rw[this];exact h.keys
 .rw[List.getElem?_set]at hx
  by_cases e:i=j
  .subst e
   rw[hb]at hc;cases hc
   rw[if_pos rfl,if_pos hil]at hx
   cases hx;exact hn
  .rw[if_neg e]at hx
   refine ho c k' x (fun e'=>e (acu h.nd hb (by rw[<-e'];exact hc))) (fun e'=>e ?_) (h.at' j c k' x hc hx)
   refine acu h.keys (i:=i) (j:=j) (x:=k) ?_ ?_
   .rw[List.getElem?_map,hp];try rfl
   .rw[List.getElem?_map,hx,<-e'];try rfl
theorem ym.add(h:ym enc At tag I r M bs m)(hk:qI m k=none)(hm:zY enc tag' I' r M (wD (kvP m bs) k (aeo b)))(hnb:b∉bs)(hn:At' b k a)(ho:∀ (i b':Nat) k' x,bs[i]?=some b'->m[i]?=some (k',x)->At b' k' x->At' b' k' x):ym enc At' tag' I' r M (bs++[b]) (wD m k a):=by
 have hk2:qI (kvP m bs) k=none:=by rw[xi,adx _ _ h.len,<-xi];exact hk
 rw[ae8 _ hk2]at hm
 rw[ae8 a hk]
 refine⟨?_,by simp[h.len],?_,by rw[ar2 _ _ _ _ _ h.len];exact hm,fun i c k' x hc hx=>?_⟩
 .rw[List.map_append,List.nodup_append]
  refine⟨h.keys,by simp,?_⟩
  intro x hx y hy e
  simp at hy
  rw[xi]at hk
  exact hk (by rw[<-hy,<-e];exact hx)
 .rw[List.nodup_append]
  refine⟨h.nd,by simp,?_⟩
  intro x hx y hy e
  simp at hy
  exact hnb (by rw[<-hy,<-e];exact hx)
 .rcases Nat.lt_or_ge i bs.length with hi | hi
  .rw[List.getElem?_append_left hi]at hc
   rw[List.getElem?_append_left (by rw[<-h.len];exact hi)]at hx
   exact ho i c k' x hc hx (h.at' i c k' x hc hx)
  .rw[List.getElem?_append_right hi]at hc
   rw[List.getElem?_append_right (by rw[<-h.len];exact hi),<-h.len]at hx
   cases hd:i - bs.length with
   | zero=>rw[hd]at hc hx;cases hc;cases hx;exact hn
   | succ j=>rw[hd]at hc;cases hc
theorem ym.del(h:ym enc At tag I r M bs m)(hb:bs[i]?=some b)(hp:m[i]?=some (k,a))(hm:zY enc tag' I' r M (jN (kvP m bs) k))(ho:∀ b' k' x,At b' k' x->At' b' k' x):ym enc At' tag' I' r M (bs.eraseIdx i) (jN m k):=by
 have hnk:((kvP m bs).map (·.1)).Nodup:=by rw[adx _ _ h.len];exact h.keys
 have hil:i<m.length:=(List.getElem?_eq_some_iff.1 hp).1
 have hkv:∃ v,(kvP m bs)[i]?=some (k,v):=by
  have e:=adx m bs h.len
  have h1:((kvP m bs).map (·.1))[i]?=(m.map (·.1))[i]?:=by rw[e]
  rw[List.getElem?_map,List.getElem?_map,hp]at h1
  cases hq:(kvP m bs)[i]? with
  | none=>rw[hq]at h1;cases h1
  | some q=>obtain⟨q1,q2⟩:=q;rw[hq]at h1;cases h1;exact⟨q2,rfl⟩
 obtain⟨v,hkv⟩:=hkv
 rw[ajW hnk hkv]at hm
 rw[ajW h.keys hp]
 refine⟨?_,?_,List.Nodup.sublist (List.eraseIdx_sublist ..) h.nd,by rw[ao2 _ _ _ h.len];exact hm,fun j c k' x hc hx=>?_⟩
 .exact List.Nodup.sublist ((List.eraseIdx_sublist ..).map _) h.keys
 .rw[List.length_eraseIdx,List.length_eraseIdx,h.len]
 .rw[List.getElem?_eraseIdx]at hc hx
  split at hc
  .rename_i hj;rw[if_pos hj]at hx;exact ho _ _ _ (h.at' j c k' x hc hx)
  .rename_i hj;rw[if_neg hj]at hx;exact ho _ _ _ (h.at' (j+1) c k' x hc hx)
end SL
namespace Pa
open Go SL G Go.RowKit
variable{B:World}{ro I I':AH}{tag tag':Nat->Nat}
theorem t25:prog.underlying 27=some (.slice 9):=by kernel_rfl
theorem aoi{ps:List Str}(h:afN ps):ps.length<4611686018427387904/\(mk ps).length<4611686018427387904:=by
 have:=h.n;have:=h.len;omega
theorem aqs(a r:Str):cut (a++47::r)=cut a++cut r:=by
 induction a with
 | nil=>rw[List.nil_append];conv=>lhs;unfold cut
        rw[if_pos rfl];try rfl
 | cons c a ih=>
  rw[List.cons_append]
  conv=>lhs;unfold cut
  conv=>rhs;arg 1;unfold cut
  by_cases h:c=47
  .rw[if_pos h,if_pos h,ih];try rfl
  .rw[if_neg h,if_neg h,ih]
   cases hc:cut a with
   | nil=>exact absurd hc (amd a)
   | cons x xs=>rfl
theorem ao3{ps qs:List Str}(hp:afN ps)(hq:afN qs)(hn:ps≠[]):(mk qs=mk ps\/(mk ps++[47]) <+: mk qs)↔ps <+: qs:=by
 have hcp:cut ((mk ps).drop 1)=ps:=by unfold mk;rw[if_neg hn];exact ahQ ps hn fun x hx=>acQ (hp.ok x hx)
 constructor
 .rintro(h | ⟨r,h⟩)
  .rw[aoY hq hp h];exact List.prefix_refl _
  .have hqn:qs≠[]:=by
    intro e
    subst e
    have h1:=congrArg List.length h
    have h2:=ajT ps
    simp[mk]at h1
    simp only[mk]at h2
    omega
   have hcq:cut ((mk qs).drop 1)=qs:=by unfold mk;rw[if_neg hqn];exact ahQ qs hqn fun x hx=>acQ (hq.ok x hx)
   have e:(mk qs).drop 1=(mk ps).drop 1++47::r:=by
    rw[<-h,List.append_assoc,List.drop_append_of_le_length (ajT ps)];try rfl
   rw[e,aqs,hcp]at hcq
   exact⟨_,hcq⟩
 .rintro⟨t,rfl⟩
  cases t with
  | nil=>left;rw[List.append_nil]
  | cons x t=>
   right
   have e:mk (ps++x::t)=mk ps++[47]++(x++t.flatMap (fun x=>47::x)):=by
    unfold mk
    rw[if_neg (by simp),if_neg hn,List.flatMap_append,List.flatMap_cons];simp
   exact⟨_,e.symm⟩
def ade(p q:Str):Option Bool:=match parts p,parts q with | some ps,some qs=>some (ps.isPrefixOf qs) | _,_=>none
theorem aqt{p q:ByteArray}{Q:Bool->Int->AH->Prop}(g:wV ro)(hnone:ade (L p) (L q)=none->Q false 20 I)(hsome:∀ b,ade (L p) (L q)=some b->Q b 0 I):aeY B ro p q I Q:=by
 refine alE fun hs=>?_
 unfold ae4
 refine ug g ?_
 by_cases h1:chk (L p)=0
 .rw[if_neg (by simpa using h1)]
  obtain⟨ps,hps⟩:=vq.1 h1
  refine ug g ?_
  unfold pG
  by_cases h2:chk (L q)=0
  .rw[if_neg (by simpa using h2)]
   obtain⟨qs,hqs⟩:=vq.1 h2
   obtain⟨hpl,hpg⟩:=wd.1 hps
   obtain⟨hql,hqg⟩:=wd.1 hqs
   have hu:ade (L p) (L q)=some (ps.isPrefixOf qs):=by unfold ade;rw[hps,hqs]
   have hres:=hsome _ hu
   unfold aao
   by_cases h3:p=⟨#[47]⟩\/q=p
   .rw[if_pos h3]
    have:ps.isPrefixOf qs=true:=by
     rw[List.isPrefixOf_iff_prefix]
     rcases h3 with h | h
     .have:ps=[]:=(ala hpg).1 (by rw[<-hpl,h];try rfl)
      rw[this];exact List.nil_prefix
     .have:ps=qs:=by rw[h,hps]at hqs;exact Option.some.inj hqs
      rw[this];exact List.prefix_refl _
    rw[this]at hres;exact hres
   .rw[if_neg h3]
    have hn:ps≠[]:=fun e=>h3 (.inl (pL (by rw[hpl,e];try rfl)))
    have h128:=hpg.len
    have hsz:p.size=(mk ps).length:=by rw[<-xz,hpl]
    refine⟨by show p.size+1<=_;omega,?_⟩
    refine ahR ?_
    have e:(L (p++(⟨#[47]⟩:ByteArray))).isPrefixOf (L q)=ps.isPrefixOf qs:=by
     rw[ama,hpl,hql,Bool.eq_iff_iff,List.isPrefixOf_iff_prefix,List.isPrefixOf_iff_prefix,<-ao3 hpg hqg hn]
     constructor
     .intro h;exact .inr h
     .rintro(h | h)
      .exact absurd (.inr (pL (by rw[hpl,hql,h]))) h3
      .exact h
    rw[e];exact hres
  .rw[if_pos (by simpa using h2)]
   refine hnone ?_
   unfold ade
   cases h:parts (L q)with
   | none=>cases parts (L p)<;>rfl
   | some qs=>exact absurd (vq.2 ⟨qs,h⟩) h2
 .rw[if_pos (by simpa using h1)]
  unfold pG
  rw[if_pos rfl]
  refine hnone ?_
  unfold ade
  cases h:parts (L p)with
  | none=>rfl
  | some qs=>exact absurd (vq.2 ⟨qs,h⟩) h1
def ady:Nat->Nat->Str
 | 0,_=>[]
 | k+1,n=>ady k (n / 10)++[UInt8.ofNat (48+n%10)]
theorem ao4(k:Nat):ady k 0=List.replicate k 48:=by
 induction k with
 | zero=>rfl
 | succ k ih=>rw[ady,Nat.zero_div,ih,List.replicate_succ'];try rfl
theorem aqu:∀ (k n:Nat),n<10 ^ (k+1)->(Lib.decDigits n).length<=k+1/\List.replicate (k+1 - (Lib.decDigits n).length) 48++Lib.decDigits n=ady (k+1) n:=by
 intro k
 induction k with
 | zero=>
  intro n h
  have h:n<10:=by simpa using h
  rw[Lib.decDigits,dif_pos h]
  refine⟨by simp,?_⟩
  simp[ady,Nat.mod_eq_of_lt h]
 | succ k ih=>
  intro n h
  by_cases h10:n<10
  .rw[Lib.decDigits,dif_pos h10]
   refine⟨by simp,?_⟩
   rw[ady,Nat.div_eq_of_lt h10,ao4,Nat.mod_eq_of_lt h10];simp
  .rw[Lib.decDigits,dif_neg h10]
   obtain⟨h1,h2⟩:=ih (n / 10) (by rw[Nat.div_lt_iff_lt_mul (by omega)];rw[Nat.pow_succ]at h;exact h)
   refine⟨by simp;omega,?_⟩
   rw[ady,<-h2]
   simp only[List.length_append,List.length_cons,List.length_nil,<-List.append_assoc]
   rw[show k+1+1 - ((Lib.decDigits (n / 10)).length+(0+1))=k+1 - (Lib.decDigits (n / 10)).length by omega]
theorem amj(k n:Nat):(ady k n).length=k:=by
 induction k generalizing n with
 | zero=>rfl
 | succ k ih=>rw[ady,List.length_append,ih];try rfl
theorem amZ(c:UInt8)(k:Nat):Lib.repeatL [c] k=List.replicate k c:=by
 induction k with
 | zero=>rfl
 | succ k ih=>rw[Lib.repeatL,ih];try rfl
theorem ar3{n:Nat}{Q:ByteArray->AH->Prop}(g:wV ro)(hn:n<9223372036854775808)(hQ:Q (S (Lib.decDigits n)) I):af7 B ro (n:Int) I Q:=by
 refine qc.of_calls fun w hw hsep=>?_
 refine(Tryz.strconv_Itoa (n:Int) (by omega) (by omega) w (g.tab w (anu hw))).mono ?_
 rintro e w' ⟨he,k,os,rfl⟩
 have hb:Below w.heap.size w (Go.Sort.grow (w.drewN k) os):=⟨rfl,rfl,rfl,by simp[Go.Sort.grow,World.drewN],fun b hb=>by
  simp only[Go.Sort.grow,World.drewN]
  rw[Array.getElem?_append_left hb]⟩
 refine⟨_,fun _=>none,he,hb,aje.none _ _,S (Lib.decDigits n),?_,?_⟩
 .rw[Lib.itoa_nonneg];try rfl
 .rw[aaK];exact hQ
theorem ao5{k:Nat}{Q:ByteArray->AH->Prop}(hk:k<=100)(hQ:Q (S (List.replicate k 48)) I):aeZ B ro (⟨#[48]⟩:ByteArray) (k:Int) I Q:=by
 refine qc.of_calls fun w hw hsep=>?_
 refine(Tryz.strings_Repeat (⟨#[48]⟩:ByteArray) k w (by omega) (by show 1*k<=_;omega)).mono ?_
 rintro e w' ⟨he,hb⟩
 refine⟨_,fun _=>none,he,hb,aje.none _ _,S (List.replicate k 48),?_,?_⟩
 .rw[show(⟨#[48]⟩:ByteArray).data.toList=[48]from rfl,amZ];try rfl
 .rw[aaK];exact hQ
def yX(n:Int):Str:=ady 10 n.toNat
def yY(l:Str)(n:Int):Option Str:=
 match parts l with
 | some ps=>if ps=[]\/n<0\/9999999999<n then none else if(parts (l++yX n)).isSome then some (l++yX n)else none
 | none=>none
theorem ao6{p:ByteArray}{n:Int}{Q:ByteArray->Int->AH->Prop}(g:wV ro)(hnone:yY (L p) n=none->Q (⟨#[]⟩:ByteArray) 20 I)(hsome:∀ u,yY (L p) n=some u->Q (S u) 0 I):aeh B ro p n I Q:=by
 refine akw fun hs=>?_
 unfold aen
 by_cases h1:(p=⟨#[47]⟩\/n<0)\/9999999999<n
 .rw[if_pos h1]
  unfold yK
  rw[if_pos rfl]
  refine hnone ?_
  unfold yY
  cases h:parts (L p)with
  | none=>rfl
  | some ps=>
   obtain⟨hl,hg⟩:=wd.1 h
   refine if_pos ?_
   rcases h1 with(h1 | h1) | h1
   .exact .inl ((ala hg).1 (by rw[<-hl,h1];try rfl))
   .exact .inr (.inl h1)
   .exact .inr (.inr h1)
 .rw[if_neg h1]
  have hp1:p≠⟨#[47]⟩:=fun h=>h1 (.inl (.inl h))
  obtain⟨m,rfl⟩:∃ m:Nat,n=m:=⟨n.toNat,by omega⟩
  refine ug g ?_
  unfold yK
  by_cases h2:chk (L p)=0
  .rw[if_neg (by simpa using h2)]
   obtain⟨ps,hps⟩:=vq.1 h2
   obtain⟨hl,hg⟩:=wd.1 hps
   have hn:ps≠[]:=fun e=>hp1 (pL (by rw[hl,e];try rfl))
   refine ar3 g (by omega) ?_
   obtain⟨hd1,hd2⟩:=aqu 9 m (by show m<10000000000;omega)
   have e1:i64.wrap (10 - ((S (Lib.decDigits m)).size:Int))=((9+1 - (Lib.decDigits m).length:Nat):Int):=by
    rw[af5,SL.wb (by omega) (by omega)];omega
   rw[e1]
   refine ao5 (by omega) ?_
   have hsz:p.size=(mk ps).length:=by rw[<-xz,hl]
   have h128:=hg.len
   rw[agE,hd2]
   refine⟨by simp only[af5,List.length_replicate];omega,by rw[af5,amj];omega,?_⟩
   have e2:p++S (ady (9+1) m)=S (L p++yX m):=by
    conv=>lhs;rw[<-S_L p]
    rw[agE];try rfl
   rw[e2]
   refine ug g ?_
   rw[L_S]
   have hsuf:yY (L p) (m:Int)=if(parts (L p++yX m)).isSome then some (L p++yX m)else none:=by
    unfold yY;rw[hps];simp only;rw[if_neg fun h=>h.elim hn (by omega)]
   by_cases h3:chk (L p++yX m)=0
   .rw[if_neg (by simpa using h3)]
    obtain⟨qs,hqs⟩:=vq.1 h3
    refine hsome _ ?_
    rw[hsuf,hqs];try rfl
   .rw[if_pos (by simpa using h3)]
    have e3:parts (L p++yX m)=none:=by
     cases h:parts (L p++yX m)with
     | none=>rfl
     | some qs=>exact absurd (vq.2 ⟨qs,h⟩) h3
    have:chk (L p++yX m)=20:=by unfold chk;rw[e3];try rfl
    rw[this]
    refine hnone ?_
    rw[hsuf,e3];try rfl
  .rw[if_pos (by simpa using h2)]
   refine hnone ?_
   unfold yY
   cases h:parts (L p)with
   | none=>rfl
   | some ps=>exact absurd (vq.2 ⟨ps,h⟩) h2