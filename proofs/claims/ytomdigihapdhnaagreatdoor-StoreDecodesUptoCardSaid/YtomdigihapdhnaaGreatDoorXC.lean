import Derived.WalkKit
import Derived.ProofKit
import Derived.OpenShut
import Derived.ShutString
import Derived.ChangeOld
import Derived.Below
import Derived.SizedLaws
import Derived.Carry
import Derived.Deep.Slices
import Derived.DataReads
import Derived.ArgAppend
import Derived.Lib.Split
import Derived.HandedShaped
import Derived.LaidMore
import Derived.JoinedCond
import Derived.Lay
import Derived.Stop.Joined
import Derived.Test.YtomdigihapdhnaaGreatDoorRows
import Derived.Test.YtomdigihapdhnaaGreatDoorXB
set_option linter.all false
set_option maxRecDepth 99999
set_option maxHeartbeats 0
open Go.IntKind(i64)
namespace Go.Proofs.YtomdigihapdhnaaGreatDoor
namespace SL
open Go
variable{τ φ:AH}{a ad:Addr}{ops:Array Oper}{args:Array Value}{b ok want:Bool}{K:Fr->AH->Prop}{fn:Func}{f:FuncId}{rest:List Nat}{vs:List Value}{i j:Nat}{cl:Nat->Nat}{G p:Prop}{d:TypeDesc}{t:TypeId}{q u w zv:Value}{Q R:Value->AH->Prop}
section
variable{P:Program}{B:World}{ro:AH}{N:Nat}{o:Oper}{fr:Fr}{I:AH}{x y z:Operand}{v:Value}
theorem agD{α β:Type}(s:Sem α){f:α->Sem β}{w:α}(h:qe P ro s τ=some w):qe P ro (Sem.bind s f) τ=qe P ro (f w) τ:=by
 induction s with
 | pure a=>cases h;rfl
 | load m a k ih=>
  simp only[qe]at h
  simp only[Sem.bind,qe]
  split at h
  .exact ih _ h
  .cases h
 | program k ih=>exact ih _ h
 | mark m k ih=>exact ih h
 | _=>cases h
theorem evb{c:Bool}(e:b=c)(h:qh fr x=some (.bool b):=by rfl):qh fr x=some (.bool c):=by rw[h,e]
theorem ixL{s:Sl}{fr:Fr}{x:Operand}(h:qh fr x=some (Sl.v s))(ha:s.a=some a):qh fr x=some (.slice (some a) s.len s.cap):=by rw[h,<-ha];try rfl
theorem qo{rest:List Oper}{t:Nat}(he:qz P ro o fr u)(hg:o.guard=some (j,want))(hd:we N o.dst=true)(ht:(ops[j]?).bind (·.dst)=some t)(hl:look fr t=some (.bool b))(e:b=want)
  (h:qE P B ro N ops K rest (qu o.dst u fr) I):qE P B ro N ops K (o::rest) fr I:=Lyp he hg hd ht (by rw[hl,e]) h
theorem Lfr{rest:List Oper}{fr':Fr}(hl:qg fr' fr)(h:qE P B ro N ops (wk K) rest fr' I):qE P B ro N ops (wk K) rest fr I:=
 Lweak (fun hl ⟨f0,h1,h2⟩=>⟨f0,fun i v e=>hl i v (h1 i v e),h2⟩) hl h
theorem aeK{s:TypeId}(ho:o.op= .convert s t x)(hx:qh fr x=some u)(h:awp P ro (convert s t u) (fun v I=>K (qu o.dst v fr) I) I):qZ P B ro o K fr I:=
 X_sem (fun O hρ=>by unfold execOp;rw[ho];simp only[hρ _ _ hx]) h
theorem acW(ho:o.op= .lookup t x y ok)(hx:qh fr x=some u)(hy:qh fr y=some w)(h:awp P ro (Instr.lookup t u w ok) (fun v I=>K (qu o.dst v fr) I) I):qZ P B ro o K fr I:=
 X_sem (fun O hρ=>by unfold execOp;rw[ho];simp only[hρ _ _ hx,hρ _ _ hy]) h
theorem anQ(ho:o.op= .range t x)(hx:qh fr x=some u)(h:awp P ro (Instr.range t u) (fun v I=>K (qu o.dst v fr) I) I):qZ P B ro o K fr I:=
 X_sem (fun O hρ=>by unfold execOp;rw[ho];simp only[hρ _ _ hx]) h
theorem anR(ho:o.op= .next x b)(ht:o.type=t)(hx:qh fr x=some u)(h:awp P ro (Instr.next u b t) (fun v I=>K (qu o.dst v fr) I) I):qZ P B ro o K fr I:=
 X_sem (fun O hρ=>by unfold execOp;rw[ho];simp only[hρ _ _ hx,ht]) h
theorem aq6(ho:o.op= .entry x)(hx:qh fr x=some u)(h:awp P ro (Instr.entry u) (fun v I=>K (qu o.dst v fr) I) I):qZ P B ro o K fr I:=
 X_sem (fun O hρ=>by unfold execOp;rw[ho];simp only[hρ _ _ hx]) h
theorem ajo(ho:o.op= .mapEntry t x y)(hx:qh fr x=some u)(hy:qh fr y=some w)(h:awp P ro (Instr.mapEntry t u w) (fun v I=>K (qu o.dst v fr) I) I):qZ P B ro o K fr I:=
 X_sem (fun O hρ=>by unfold execOp;rw[ho];simp only[hρ _ _ hx,hρ _ _ hy]) h
theorem aie(ho:o.op= .mapUpdate t x y z\/o.op= .insert t x y z)(hx:qh fr x=some u)(hy:qh fr y=some w)(hz:qh fr z=some q)(h:awp P ro (Instr.mapUpdate t u w q) (fun _ I=>K (qu o.dst undef fr) I) I):qZ P B ro o K fr I:=
 X_semU (fun O hρ=>by unfold execOp;rcases ho with ho | ho<;>rw[ho]<;>simp only[hρ _ _ hx,hρ _ _ hy,hρ _ _ hz]) h
theorem ajp(ho:o.op= .entryStore t x y z)(hx:qh fr x=some u)(hy:qh fr y=some w)(hz:qh fr z=some q)(h:awp P ro (Instr.entryStore t u w q) (fun _ I=>K (qu o.dst undef fr) I) I):qZ P B ro o K fr I:=
 X_semU (fun O hρ=>by unfold execOp;rw[ho];simp only[hρ _ _ hx,hρ _ _ hy,hρ _ _ hz]) h
def Sep(ro I:AH):Prop:= ∀b o,I b=some o->ro b=none
theorem Own.sep{B:World}{w:World}(h:Own B ro φ I w):Sep ro I:=fun b o e=>(h.own b o e).2.2
theorem qc.of_sep(h:Sep ro I->qc P B ro f args I Q):qc P B ro f args I Q:=fun φ w ho=>h ho.sep φ w ho
theorem qc.monoS{Q':Value->AH->Prop}(h:qc P B ro f args I Q)(hq:∀ v I,Sep ro I->Q v I->Q' v I):qc P B ro f args I Q':=
 fun φ w ho=>(h φ w ho).mono fun _ _ ⟨v,I',e,q,o⟩=>⟨v,I',e,hq _ _ o.sep q,o⟩
theorem abm(b:Bool)[Decidable p]{X Y:Prop}(hi:b=true↔p)(h:if p then X else Y)(hy:X->b=true->G)(hn:Y->b=false->G):G:=by
 cases e:b with
 | true=>rw[me (hi.1 e)]at h;exact hy h e
 | false=>rw[mc (fun q=>by rw[hi.2 q]at e;cases e)]at h;exact hn h e
theorem Dpy{t:Nat}(ho':pX ops.toList i=some o)(hc:cl i=0)(hg:o.guard=some (j,want))(ht:(ops[j]?).bind (·.dst)=some t)(hl:look fr t=some (.bool b))(e:b=want)(hd:we N o.dst=true)(he:qz P ro o fr u)
  (h:qR P B ro N ops cl K rest (qu o.dst u fr) I):qR P B ro N ops cl K (i::rest) fr I:=by
 have ho:=aaH ho'
 unfold qR D1;rw[ho];dsimp only;rw[hc]
 exact⟨hd,u,by unfold vm;rw[hg];exact⟨t,_,ht,hl,.inl ⟨by rw[e],he⟩⟩,h⟩
theorem Dry{t:Nat}(ho':pX ops.toList i=some o)(hc:cl i=3)(hg:o.guard=some (j,want))(ht:(ops[j]?).bind (·.dst)=some t)(hl:look fr t=some (.bool b))(e:b=want)(hd:we N o.dst=true)(he:jE P ro I o fr u)
  (h:qR P B ro N ops cl K rest (qu o.dst u fr) I):qR P B ro N ops cl K (i::rest) fr I:=by
 have ho:=aaH ho'
 unfold qR D1;rw[ho];dsimp only;rw[hc]
 exact⟨hd,u,by unfold vm;rw[hg];exact⟨t,_,ht,hl,.inl ⟨by rw[e],he⟩⟩,h⟩
theorem Drn{t:Nat}{v:Value}(ho':pX ops.toList i=some o)(hc:cl i=3)(hg:o.guard=some (j,want))(ht:(ops[j]?).bind (·.dst)=some t)(hl:look fr t=some v)(hv:v= .bool (!want)\/v=undef)(hd:we N o.dst=true)
  (h:qR P B ro N ops cl K rest (qu o.dst undef fr) I):qR P B ro N ops cl K (i::rest) fr I:=by
 have ho:=aaH ho'
 unfold qR D1;rw[ho];dsimp only;rw[hc]
 refine⟨hd,undef,?_,h⟩
 unfold vm;rw[hg]
 refine⟨t,_,ht,hl,.inr ⟨?_,rfl⟩⟩
 rcases hv with rfl | rfl
 .cases want<;>simp
 .simp[undef]
theorem abT(ho:o.op= .load t x)(ht:P.underlying t=some d)(hd:pK d=false)(hx:qh fr x=some (.pointer (some a)))(hc:qb ro I a=some v):jE P ro I o fr v:=by
 intro O hρ
 have e:execOp O o=(do pure (.value (<-loadVar t a))):=by unfold execOp;rw[ho];simp only[hρ _ _ hx];rfl
 rw[e]
 show qe P ro (Sem.bind (loadVar t a) _) I=_
 unfold loadVar
 show qe P ro (Sem.bind (Sem.bind (isAgg t) _) _) I=_
 rw[bind_assoc',pY ht,hd]
 show qe P ro (Sem.load .plain a _) I=_
 simp only[qe,hc]
 try rfl
theorem ajq{b:Nat}(ho:o.op= .load t x)(ht:P.underlying t=some d)(hd:pK d=true)(hz:ql P t zv vs.length b)(hx:qh fr x=some (.pointer (some a)))
  (hc:qB ro I a 0 vs):jE P ro I o fr (.agg vs.toArray):=by
 intro O hρ
 have e:execOp O o=(do pure (.value (<-loadVar t a))):=by unfold execOp;rw[ho];simp only[hρ _ _ hx];rfl
 rw[e]
 show qe P ro (Sem.bind (loadVar t a) _) I=_
 unfold loadVar
 show qe P ro (Sem.bind (Sem.bind (isAgg t) _) _) I=_
 rw[bind_assoc',pY ht,hd]
 show qe P ro (Sem.bind (Sem.bind (sizeOf t) _) _) I=_
 rw[bind_assoc',uV hz]
 show qe P ro (Sem.bind (Sem.bind (loadCellsFrom a 0 vs.length #[]) _) _) I=_
 rw[bind_assoc',agD _ (acV (P:=P) vs 0 #[] hc)]
 simp[qQ,wC,qe]
theorem Dpn{t:Nat}{v:Value}(ho':pX ops.toList i=some o)(hc:cl i=0)(hg:o.guard=some (j,want))(ht:(ops[j]?).bind (·.dst)=some t)(hl:look fr t=some v)(hv:v= .bool (!want)\/v=undef)(hd:we N o.dst=true)
  (h:qR P B ro N ops cl K rest (qu o.dst undef fr) I):qR P B ro N ops cl K (i::rest) fr I:=by
 have ho:=aaH ho'
 unfold qR D1;rw[ho];dsimp only;rw[hc]
 refine⟨hd,undef,?_,h⟩
 unfold vm;rw[hg]
 refine⟨t,_,ht,hl,.inr ⟨?_,rfl⟩⟩
 rcases hv with rfl | rfl
 .cases want<;>simp
 .simp[undef]
theorem Dgy{t:Nat}(ho':pX ops.toList i=some o)(hc:cl i=2)(hg:o.guard=some (j,want))(ht:(ops[j]?).bind (·.dst)=some t)(hl:look fr t=some (.bool b))(e:b=want)(hd:we N o.dst=true)
  (h:qZ P B ro o (qR P B ro N ops cl K rest) fr I):qR P B ro N ops cl K (i::rest) fr I:=by
 have ho:=aaH ho'
 unfold qR D1;rw[ho];dsimp only;rw[hc]
 refine⟨hd,?_⟩;rw[hg];exact⟨t,_,ht,hl,.inl ⟨by rw[e],h⟩⟩
theorem Dgn{t:Nat}{v:Value}(ho':pX ops.toList i=some o)(hc:cl i=2)(hg:o.guard=some (j,want))(ht:(ops[j]?).bind (·.dst)=some t)(hl:look fr t=some v)(hv:v= .bool (!want)\/v=undef)(hd:we N o.dst=true)
  (h:qR P B ro N ops cl K rest (qu o.dst undef fr) I):qR P B ro N ops cl K (i::rest) fr I:=by
 have ho:=aaH ho'
 unfold qR D1;rw[ho];dsimp only;rw[hc]
 refine⟨hd,?_⟩;rw[hg]
 refine⟨t,_,ht,hl,.inr ⟨?_,h⟩⟩
 rcases hv with rfl | rfl
 .cases want<;>simp
 .simp[undef]
def alD(P:Program)(ro:AH)(fr:Fr)(I:AH)(r:ResultVar)(v:Value):Prop:=
 ∀tmps:Array Value,(∀i u,look fr i=some u->tmps[i]?=some u)->qe P ro (match r with | .tmp t=>pure (tmps.getD t undef) | .cell a t=>do loadVar t (<-asAddr (tmps.getD a undef))) I=some v
def adN(P:Program)(ro:AH)(fr:Fr)(I:AH):List ResultVar->List Value->Prop
 | [],[]=>True
 | r::rs,v::vs=>alD P ro fr I r v/\adN P ro fr I rs vs
 | _,_=>False
theorem afZ:adN P ro fr I [] []:=trivial
theorem aa4{r:ResultVar}{rs:List ResultVar}{v:Value}(h:alD P ro fr I r v)(hs:adN P ro fr I rs vs):adN P ro fr I (r::rs) (v::vs):=⟨h,hs⟩
theorem anS{t:Nat}(h:look fr t=some v):alD P ro fr I (.tmp t) v:=by
 intro tmps ht
 simp[mY,ht t v h,qQ,qe]
theorem af0{a:Nat}{b:Nat}(h:look fr a=some (.pointer (some ad)))(ht:P.underlying t=some d)(hd:pK d=true)(hz:ql P t zv vs.length b)(hc:qB ro I ad 0 vs):alD P ro fr I (.cell a t) (.agg vs.toArray):=by
 intro tmps hh
 have e:tmps.getD a undef= .pointer (some ad):=by simp[mY,hh a _ h]
 dsimp only
 rw[e]
 show qe P ro (loadVar t ad) I=_
 unfold loadVar
 show qe P ro (Sem.bind (isAgg t) _) _=_
 rw[pY ht,hd]
 show qe P ro (Sem.bind (sizeOf t) _) _=_
 rw[uV hz]
 have:=acV (P:=P) vs 0 #[] hc
 show qe P ro (Sem.bind (loadCellsFrom ad 0 vs.length #[]) fun cs=>Sem.pure (Value.agg cs)) _=_
 rw[agD _ this]
 simp[qe]
theorem aq7{rs:List ResultVar}{v:Value}(hr:fn.results=rs.toArray)(h:adN P ro fr I rs [v])(hR:R v I):
  ∃v,(∀tmps:Array Value,(∀i u,look fr i=some u->tmps[i]?=some u)->qe P ro (results fn tmps) I=some v)/\R v I:=by
 refine⟨v,fun tmps ht=>?_,hR⟩
 exact results_of hr h tmps ht
where
 map_of {β:Type}:∀ (rs:List ResultVar) (vs:List Value) (f:List Value->Sem β),adN P ro fr I rs vs->∀ tmps:Array Value,(∀i u,look fr i=some u->tmps[i]?=some u)->
   qe P ro (Sem.bind (rs.mapM fun r=>match r with | .tmp t=>pure (tmps.getD t undef) | .cell a t=>do loadVar t (<-asAddr (tmps.getD a undef))) f) I=qe P ro (f vs) I:=by
  intro rs
  induction rs with
  | nil=>
   intro vs f h tmps ht
   cases vs with
   | nil=>rfl
   | cons v vs=>exact h.elim
  | cons r rs ih=>
   intro vs f h tmps ht
   cases vs with
   | nil=>exact h.elim
   | cons v vs=>
    obtain⟨h1,h2⟩:=h
    rw[List.mapM_cons]
    show qe P ro (Sem.bind (Sem.bind _ _) f) I=_
    rw[bind_assoc',agD _ (h1 tmps ht)]
    show qe P ro (Sem.bind (Sem.bind _ _) f) I=_
    rw[bind_assoc',ih vs _ h2 tmps ht]
    try rfl
 results_of {fn:Func} {rs:List ResultVar} {vs:List Value} (hr:fn.results=rs.toArray) (h:adN P ro fr I rs vs) (tmps:Array Value) (ht:∀ i u,look fr i=some u->tmps[i]?=some u):
   qe P ro (results fn tmps) I=some (if h:vs.toArray.size=1 then vs.toArray[0]else .tuple vs.toArray):=by
  unfold results
  rw[hr,Array.mapM_eq_mapM_toList,List.toList_toArray]
  show qe P ro (Sem.bind (Sem.bind _ _) _) I=_
  rw[bind_assoc']
  exact(map_of rs vs _ h tmps ht).trans rfl
theorem att{rs:List ResultVar}{v:Value}(hr:fn.results=rs.toArray)(h:adN P ro fr I rs (v::w::vs))(hR:R (.tuple (v::w::vs).toArray) I):
  ∃v,(∀tmps:Array Value,(∀i u,look fr i=some u->tmps[i]?=some u)->qe P ro (results fn tmps) I=some v)/\R v I:=by
 refine⟨_,fun tmps ht=>?_,hR⟩
 refine(aq7.results_of hr h tmps ht).trans ?_
 rw[dif_neg z7]
theorem bR0(hr:fn.results= #[])(h:R (.tuple #[]) I):acS P ro fn R .ret fr I:=ar6 hr h
theorem bR1{a:Nat}{x:Value}(hr:fn.results= #[.tmp a])(ha:look fr a=some x)(h:R x I):acS P ro fn R .ret fr I:=ap3 hr ha h
theorem bR2{a b:Nat}{x y:Value}(hr:fn.results= #[.tmp a,.tmp b])(ha:look fr a=some x)(hb:look fr b=some y)(h:R (.tuple #[x,y]) I):acS P ro fn R .ret fr I:=atq hr ha hb h
theorem bR3{a b c:Nat}{x y z:Value}(hr:fn.results= #[.tmp a,.tmp b,.tmp c])(ha:look fr a=some x)(hb:look fr b=some y)(hc:look fr c=some z)(h:R (.tuple #[x,y,z]) I):acS P ro fn R .ret fr I:=atr hr ha hb hc h
theorem ahG{rs:List ResultVar}{v:Value}(hr:fn.results=rs.toArray)(h:adN P ro fr I rs [v])(hR:R v I):acS P ro fn R .ret fr I:=aq7 hr h hR
theorem bRM{rs:List ResultVar}{v:Value}(hr:fn.results=rs.toArray)(h:adN P ro fr I rs (v::w::vs))(hR:R (.tuple (v::w::vs).toArray) I):acS P ro fn R .ret fr I:=att hr h hR
theorem bN0(hr:fn.results= #[])(h:R (.tuple #[]) I):acS P ro fn R .normal fr I:=ar6 hr h
end
end SL
namespace SL
open Go
variable{α:Type}{a:Addr}{fs:Array Field}{ops':Array Oper}{ars:Array Operand}{ts:Array TypeId}{b want:Bool}{Q:Exit->Fr->AH->Prop}{fd:Field}{fn:Func}{f:FuncId}{l:List Nat}{args vs:List Value}{i id j n:Nat}{X:Nat->AH->Prop}{cl:Nat->Nat}{mk:Nat->Value}{ob:Obj}{c:Operand}{Y p pp:Prop}{d:TypeDesc}{s t tz:TypeId}{u v:Value}
section
variable{P:Program}{B:World}{ro:AH}{N:Nat}{o:Oper}{fr:Fr}{I:AH}{x y z:Operand}{ops:Array Oper}{K:Fr->AH->Prop}{rest:List Oper}
theorem zp(h:qE P B ro N ops K rest (qu o.dst u fr) I)(he:qz P ro o fr u:=by first | exact zZ rfl rfl | exact agB rfl rfl | exact anH rfl rfl rfl | exact anK rfl rfl rfl | exact aly rfl rfl rfl | exact anJ rfl rfl rfl | exact alA rfl rfl rfl | exact alB rfl rfl | exact aeI rfl rfl rfl | exact alO rfl rfl rfl | exact anI rfl rfl rfl | exact ajf rfl rfl rfl | exact alz rfl rfl rfl | exact anL rfl rfl rfl)(hg:o.guard=none:=by exact rfl)(hd:we N o.dst=true:=by exact rfl):qE P B ro N ops K (o::rest) fr I:=Lp he hg hd h
theorem zq(h:qR P B ro N ops cl K l (qu o.dst u fr) I)(ho':pX ops.toList i=some o:=by exact rfl)(hc:cl i=0:=by exact rfl)(hg:o.guard=none:=by exact rfl)(hd:we N o.dst=true:=by exact rfl)(he:qz P ro o fr u:=by first | exact zZ rfl rfl | exact agB rfl rfl | exact anH rfl rfl rfl | exact anK rfl rfl rfl | exact aly rfl rfl rfl | exact anJ rfl rfl rfl | exact alA rfl rfl rfl | exact alB rfl rfl | exact aeI rfl rfl rfl | exact alO rfl rfl rfl | exact anI rfl rfl rfl | exact ajf rfl rfl rfl | exact alz rfl rfl rfl | exact anL rfl rfl rfl):qR P B ro N ops cl K (i::l) fr I:=Dp ho' hc hg hd he h
theorem zn{t:Nat}{c:Bool}(e:b=c)(h:qE P B ro N ops K rest (qu o.dst undef fr) I)(hg:o.guard=some (j,want):=by exact rfl)(hw:c= !want:=by exact rfl)(hd:we N o.dst=true:=by exact rfl)(ht:(ops[j]?).bind (·.dst)=some t:=by exact rfl)(hl:look fr t=some (.bool b):=by exact rfl):qE P B ro N ops K (o::rest) fr I:=Ln hg hd ht hl (.inl (by rw[e,hw])) h
theorem zy{t:Nat}(e:b=want)(h:qE P B ro N ops K rest (qu o.dst u fr) I)(hg:o.guard=some (j,want):=by exact rfl)(hd:we N o.dst=true:=by exact rfl)(ht:(ops[j]?).bind (·.dst)=some t:=by exact rfl)(hl:look fr t=some (.bool b):=by exact rfl)(he:qz P ro o fr u:=by first | exact zZ rfl rfl | exact agB rfl rfl | exact anH rfl rfl rfl | exact anK rfl rfl rfl | exact aly rfl rfl rfl | exact anJ rfl rfl rfl | exact alA rfl rfl rfl | exact alB rfl rfl | exact aeI rfl rfl rfl | exact alO rfl rfl rfl | exact anI rfl rfl rfl | exact ajf rfl rfl rfl | exact alz rfl rfl rfl | exact anL rfl rfl rfl):qE P B ro N ops K (o::rest) fr I:=qo he hg hd ht hl e h
theorem zl(h:qZ P B ro o (qE P B ro N ops K rest) fr I)(hg:o.guard=none:=by exact rfl)(hd:we N o.dst=true:=by exact rfl):qE P B ro N ops K (o::rest) fr I:=Ls hg hd h
theorem zm(he:qz P ro o fr u)(h:qE P B ro N ops K rest (qu o.dst u fr) I)(hg:o.guard=none:=by exact rfl)(hd:we N o.dst=true:=by exact rfl):qE P B ro N ops K (o::rest) fr I:=Lp he hg hd h
theorem FL{l fr':Fr}(h:qg l fr':=by repeat first | exact qg.nil _ | refine qg.cons rfl ?_):qg l fr':=h
theorem Fe{l fr':Fr}{c:Bool}(e:b=c)(h:b=c->qg l fr':=by intro e;repeat first | exact qg.nil _ | refine qg.cons rfl ?_ | refine qg.cons (by rw[e];try rfl) ?_):qg l fr':=h e
theorem z3{y:Code}(h:qE P B ro N ops' (wk ((ach (AW P B ro N y Q) Q) .normal)) ops'.toList fr I):AW P B ro N (.seq (.region id ops' false) y) Q fr I:=AW.seq (AW.reg h)
theorem z2{next:Fr->AH->Prop}(h:next fr I):qE P B ro N ops (wk (ach next Q .normal)) [] fr I:=abl (abJ h)
theorem z4{y:Code}{Q0:Exit->Fr->AH->Prop}(h:qE P B ro N ops' (wk ((ach (AW P B ro N y Q) Q) .normal)) ops'.toList fr I):qE P B ro N ops (wk (ach (AW P B ro N (.seq (.region id ops' false) y) Q) Q0 .normal)) [] fr I:=abl (abJ (AW.seq (AW.reg h)))
theorem zL{enc:α->Value}{X:α->Prop}(ht:P.underlying t=some d)(h:∃ v,qb ro I a=some (enc v)/\X v)(k:∀ v,X v->qE P B ro N ops K rest (qu o.dst (enc v) fr) I)(r0:qE P B ro N ops K (o::rest) fr I->pp:=by exact fun h=>zw h)(ho:o.op= .load t x:=by exact rfl)(hd:pK d=false:=by exact rfl)(hx:qh fr x=some (.pointer (some a)):=by exact rfl)(hg:o.guard=none:=by exact rfl)(hdd:we N o.dst=true:=by exact rfl):pp:=by
 obtain⟨v,hc,h⟩:=h
 exact r0 (Ls hg hdd (wU ho ht hd hx hc (k v h)))
theorem zN{X:Addr->Prop}{a:Option Addr}(h:∃ p,a=some p/\X p)(k:∀ p,X p->qE P B ro N ops K rest (qu o.dst (.pointer (some p)) fr) I)(r0:qE P B ro N ops K (o::rest) fr I->pp:=by exact fun h=>zw h)(ho:o.op= .nilCheck x:=by exact rfl)(hx:qh fr x=some (.pointer a):=by exact rfl)(hg:o.guard=none:=by exact rfl)(hdd:we N o.dst=true:=by exact rfl):pp:=by
 obtain⟨p,rfl,h⟩:=h
 exact r0 (Lp (qC ho hx) hg hdd (k p h))
theorem zA(he:acT P ro o fr ob mk)(h:nw ro I ob X)(k:∀ b,X b (upd I b ob)->qE P B ro N ops K rest (qu o.dst (mk b) fr) (upd I b ob))(hg:o.guard=none:=by exact rfl)(hdd:we N o.dst=true:=by exact rfl):qE P B ro N ops K (o::rest) fr I:=Ls hg hdd (agC he fun b h1 h2=>k b (h b h1 h2))
theorem zc{Q:Value->AH->Prop}(hf:P.funcs[f]?=some fn)(h:qc P B ro f vs.toArray I Q)(k:∀ v I,Q v I->qE P B ro N ops K rest (qu o.dst v fr) I)(r0:qE P B ro N ops K (o::rest) fr I->pp:=by exact fun h=>zw h)(ho:o.op= .call {callee:= .value (.func f),args:=ars,argTypes:=ts}:=by exact rfl)(hn:(fn.name == "runtime.NumGoroutine")=false:=by exact rfl)(hb:fn.body.isNone=false:=by exact rfl)(ha:yJ fr ars.toList=some vs:=by exact rfl)(hg:o.guard=none:=by exact rfl)(hdd:we N o.dst=true:=by exact rfl):pp:=r0 (Ls hg hdd (wu ho hf hn hb ha (qc.mono h k)))
theorem zs{X:AH->Prop}{zv:Value}{b:Nat}(hz:ql P t zv n b)(h:stN a X vs 0 I)(k:∀ I,X I->qE P B ro N ops K rest (qu o.dst undef fr) I)(r0:qE P B ro N ops K (o::rest) fr I->pp:=by exact fun h=>zw h)(ho:o.op= .store t x y:=by exact rfl)(hx:qh fr x=some (.pointer (some a)):=by exact rfl)(hy:qh fr y=some v:=by exact rfl)(hv:v.cells.toList=vs:=by exact rfl)(hn:vs.length=n:=by exact rfl)(hg:o.guard=none:=by exact rfl)(hdd:we N o.dst=true:=by exact rfl):pp:=r0 (Ls hg hdd (aeh ho hz hx hy hv hn (pZ h k)))
theorem zf{f:Nat}{zv:Value}{b:Nat}(hs:P.underlying s=some (.struct fs))(hz:ql P tz zv n b)(k:qE P B ro N ops K rest (qu o.dst (.pointer (some (a.add fd.offset))) fr) I)(r0:qE P B ro N ops K (o::rest) fr I->pp:=by exact fun h=>zw h)(ho:o.op= .fieldAddr s x f:=by exact rfl)(hf:fs[f]?=some fd:=by exact rfl)(ht:tz=fd.type:=by exact rfl)(hn:n≠0:=by decide)(hx:qh fr x=some (.pointer (some a)):=by exact rfl)(hg:o.guard=none:=by exact rfl)(hdd:we N o.dst=true:=by exact rfl):pp:=r0 (Lp (qK ho hs hf (ht▸hz) hn hx) hg hdd k)
theorem zg{f:Nat}{zv:Value}{b:Nat}(hs:P.underlying s=some (.struct fs))(hz:ql P tz zv n b)(k:qR P B ro N ops cl K l (qu o.dst (.pointer (some (a.add fd.offset))) fr) I)(r0:qR P B ro N ops cl K (i::l) fr I->pp:=by exact fun h=>zw h)(h1:pX ops.toList i=some o:=by exact rfl)(hc:cl i=0:=by exact rfl)(ho:o.op= .fieldAddr s x f:=by exact rfl)(hf:fs[f]?=some fd:=by exact rfl)(ht:tz=fd.type:=by exact rfl)(hn:n≠0:=by decide)(hx:qh fr x=some (.pointer (some a)):=by exact rfl)(hg:o.guard=none:=by exact rfl)(hdd:we N o.dst=true:=by exact rfl):pp:=r0 (Dp h1 hc hg hdd (qK ho hs hf (ht▸hz) hn hx) k)
theorem zk{c:Bool}(e:b=c)(k:qE P B ro N ops K rest (qu o.dst u fr) I)(ho:o.op= .pick x y z:=by exact rfl)(hx:qh fr x=some (.bool b):=by exact rfl)(hu:qh fr (if c then y else z)=some u:=by exact rfl)(hg:o.guard=none:=by exact rfl)(hdd:we N o.dst=true:=by exact rfl):qE P B ro N ops K (o::rest) fr I:=by
 subst e
 cases b
 .exact Lp (wL ho hx hu) hg hdd k
 .exact Lp (qT ho hx hu) hg hdd k
theorem zi{s t:Code}[Decidable p]{X:Prop}(h:if p then X else Y)(ht:X->AW P B ro N s Q fr I)(hn:Y->AW P B ro N t Q fr I)(r0:AW P B ro N (.cond c s t) Q fr I->pp:=by exact fun h=>zw h)(hc:qh fr c=some (.bool (decide p)):=by exact rfl):pp:=r0 (AW.iff hc mg h ht hn)
theorem zj{s t:Code}{X:Prop}(h:if b=true then X else Y)(ht:X->AW P B ro N s Q fr I)(hn:Y->AW P B ro N t Q fr I)(r0:AW P B ro N (.cond c s t) Q fr I->pp:=by exact fun h=>zw h)(hc:qh fr c=some (.bool b):=by exact rfl):pp:=r0 (AW.iff hc Iff.rfl h ht hn)
theorem zb{c:Code}{Q:Value->AH->Prop}{X:Prop}(h:Sep ro I->X)(hf:P.funcs[f]?=some fn)(hn:fn.ntmps=n)(k:X->AW P B ro n c (acS P ro fn Q) (adZ args 0) I)(hb:fn.body=some c:=by exact rfl)(hl:args.length<=n:=by simp):qc P B ro f args.toArray I Q:=qc.of_sep fun hs=>qc.of_body hf hb (by rw[hn];exact hl) (by rw[hn];exact k (h hs))
theorem zw{q:Prop}(hq:q)(r:q->p:=by intro hq;(repeat (first | refine zp ?_ | refine z3 ?_ | refine abl ?_ | refine abJ ?_ | refine AW.ret ?_ | refine ajn ?_ | refine AW.skip ?_ | refine zq ?_ | refine AW.reg ?_ | refine ae3 ?_ | refine ahF ?_ | refine AW.block ?_ | refine ajm ?_));exact hq):p:=r hq
theorem zv{q:Prop}{c:Bool}(e:b=c)(hq:q)(r:b=c->q->p:=by intro e hq;(repeat (first | refine zn e ?_ | refine zy e ?_ | refine zk e ?_));exact hq):p:=r e hq
theorem zC{enc:α->Value}{X q:α->AH->Prop}(hf:P.funcs[f]?=some fn)(h:qc P B ro f vs.toArray I fun v I=> ∃x,v=enc x/\X x I)(k:∀ x I,X x I->q x I)(r0:qE P B ro N ops K (o::rest) fr I->pp:=by exact fun h=>zw h)(ho:o.op= .call {callee:= .value (.func f),args:=ars,argTypes:=ts}:=by exact rfl)(hn:(fn.name == "runtime.NumGoroutine")=false:=by exact rfl)(hb:fn.body.isNone=false:=by exact rfl)(ha:yJ fr ars.toList=some vs:=by exact rfl)(hg:o.guard=none:=by exact rfl)(hdd:we N o.dst=true:=by exact rfl)(r:∀ x I,q x I->qE P B ro N ops K rest (qu o.dst (enc x) fr) I:=by intro x I hq;(repeat (first | refine zp ?_ | refine z3 ?_ | refine abl ?_ | refine abJ ?_ | refine AW.ret ?_ | refine ajn ?_ | refine AW.skip ?_ | refine zq ?_ | refine AW.reg ?_ | refine ae3 ?_ | refine ahF ?_ | refine AW.block ?_ | refine ajm ?_));exact hq):pp:=r0 (zc hf h (by rintro v I ⟨x,rfl,h⟩;exact r x I (k x I h)) (fun h=>h) ho hn hb ha hg hdd)
theorem zLp{enc:α->Value}{X q:α->Prop}(ht:P.underlying t=some d)(h:∃ v,qb ro I a=some (enc v)/\X v)(k:∀ v,X v->q v)(r0:qE P B ro N ops K (o::rest) fr I->pp:=by exact fun h=>zw h)(ho:o.op= .load t x:=by exact rfl)(hd:pK d=false:=by exact rfl)(hx:qh fr x=some (.pointer (some a)):=by exact rfl)(hg:o.guard=none:=by exact rfl)(hdd:we N o.dst=true:=by exact rfl)(r:∀ v,q v->qE P B ro N ops K rest (qu o.dst (enc v) fr) I:=by intro v hq;(repeat (first | refine zp ?_ | refine z3 ?_ | refine abl ?_ | refine abJ ?_ | refine AW.ret ?_ | refine ajn ?_ | refine AW.skip ?_ | refine zq ?_ | refine AW.reg ?_ | refine ae3 ?_ | refine ahF ?_ | refine AW.block ?_ | refine ajm ?_));exact hq):pp:=r0 (zL ht h (fun v hv=>r v (k v hv)) (fun h=>h) ho hd hx hg hdd)
theorem zAp{q:Nat->Prop}(he:acT P ro o fr ob mk)(h:nw ro I ob X)(k:∀ b,X b (upd I b ob)->q b)(hg:o.guard=none:=by exact rfl)(hdd:we N o.dst=true:=by exact rfl)(r:∀ b,q b->qE P B ro N ops K rest (qu o.dst (mk b) fr) (upd I b ob):=by intro b hq;(repeat (first | refine zp ?_ | refine z3 ?_ | refine abl ?_ | refine abJ ?_ | refine AW.ret ?_ | refine ajn ?_ | refine AW.skip ?_ | refine zq ?_ | refine AW.reg ?_ | refine ae3 ?_ | refine ahF ?_ | refine AW.block ?_ | refine ajm ?_));exact hq):qE P B ro N ops K (o::rest) fr I:=zA he h (fun b hb=>r b (k b hb)) hg hdd
theorem zsp{X q:AH->Prop}{zv:Value}{b:Nat}(hz:ql P t zv n b)(h:stN a X vs 0 I)(k:∀ I,X I->q I)(r0:qE P B ro N ops K (o::rest) fr I->pp:=by exact fun h=>zw h)(ho:o.op= .store t x y:=by exact rfl)(hx:qh fr x=some (.pointer (some a)):=by exact rfl)(hy:qh fr y=some v:=by exact rfl)(hv:v.cells.toList=vs:=by exact rfl)(hn:vs.length=n:=by exact rfl)(hg:o.guard=none:=by exact rfl)(hdd:we N o.dst=true:=by exact rfl)(r:∀ I,q I->qE P B ro N ops K rest (qu o.dst undef fr) I:=by intro I hq;(repeat (first | refine zp ?_ | refine z3 ?_ | refine abl ?_ | refine abJ ?_ | refine AW.ret ?_ | refine ajn ?_ | refine AW.skip ?_ | refine zq ?_ | refine AW.reg ?_ | refine ae3 ?_ | refine ahF ?_ | refine AW.block ?_ | refine ajm ?_));exact hq):pp:=r0 (zs hz h (fun s hs=>r s (k s hs)) (fun h=>h) ho hx hy hv hn hg hdd)
theorem zM{X:Addr->Prop}{a:Option Addr}(h:∃ p,a=some p/\X p)(k:∀ p,X p->qR P B ro N ops cl K l (qu o.dst (.pointer (some p)) fr) I)(r0:qR P B ro N ops cl K (i::l) fr I->pp:=by exact fun h=>zw h)(h1:pX ops.toList i=some o:=by exact rfl)(hc:cl i=0:=by exact rfl)(ho:o.op= .nilCheck x:=by exact rfl)(hx:qh fr x=some (.pointer a):=by exact rfl)(hg:o.guard=none:=by exact rfl)(hdd:we N o.dst=true:=by exact rfl):pp:=by
 obtain⟨p,rfl,h⟩:=h
 exact r0 (Dp h1 hc hg hdd (qC ho hx) (k p h))
theorem zR{enc:α->Value}{X:α->Prop}(ht:P.underlying t=some d)(h:∃ v,qb ro I a=some (enc v)/\X v)(k:∀ v,X v->qR P B ro N ops cl K l (qu o.dst (enc v) fr) I)(r0:qR P B ro N ops cl K (i::l) fr I->pp:=by exact fun h=>zw h)(h1:pX ops.toList i=some o:=by exact rfl)(hc:cl i=3:=by exact rfl)(ho:o.op= .load t x:=by exact rfl)(hd:pK d=false:=by exact rfl)(hx:qh fr x=some (.pointer (some a)):=by exact rfl)(hg:o.guard=none:=by exact rfl)(hdd:we N o.dst=true:=by exact rfl):pp:=by
 obtain⟨v,hv,h⟩:=h
 exact r0 (Dr h1 hc hg hdd (abT ho ht hd hx hv) (k v h))
theorem zS{enc:α->Value}{X:α->Prop}(ht:P.underlying t=some d)(h:∃ v,qb ro (fun _=>none) a=some (enc v)/\X v)(k:∀ v,X v->qR P B ro N ops cl K l (qu o.dst (enc v) fr) I)(r0:qR P B ro N ops cl K (i::l) fr I->pp:=by exact fun h=>zw h)(h1:pX ops.toList i=some o:=by exact rfl)(hc:cl i=0:=by exact rfl)(ho:o.op= .load t x:=by exact rfl)(hd:pK d=false:=by exact rfl)(hx:qh fr x=some (.pointer (some a)):=by exact rfl)(hg:o.guard=none:=by exact rfl)(hdd:we N o.dst=true:=by exact rfl):pp:=by
 obtain⟨v,hv,h⟩:=h
 exact r0 (Dp h1 hc hg hdd (ats ho ht hd hx hv) (k v h))
theorem zG{Q:Value->AH->Prop}(hf:P.funcs[f]?=some fn)(h:qc P B ro f vs.toArray I Q)(k:∀ v I,Q v I->qR P B ro N ops cl K l (qu o.dst v fr) I)(r0:qR P B ro N ops cl K (i::l) fr I->pp:=by exact fun h=>zw h)(h1:pX ops.toList i=some o:=by exact rfl)(hc:cl i=2:=by exact rfl)(ho:o.op= .call {callee:= .value (.func f),args:=ars,argTypes:=ts}:=by exact rfl)(hn:(fn.name == "runtime.NumGoroutine")=false:=by exact rfl)(hb:fn.body.isNone=false:=by exact rfl)(ha:yJ fr ars.toList=some vs:=by exact rfl)(hg:o.guard=none:=by exact rfl)(hdd:we N o.dst=true:=by exact rfl):pp:=r0 (Dg h1 hc hg hdd (wu ho hf hn hb ha (qc.mono h k)))
theorem zr{enc:α->Value}{X:α->AH->Prop}{a:Nat}{u:α}(h:X u I)(r:acS P ro fn (fun v I=> ∃x,v=enc x/\X x I) .ret fr I->pp:=by exact fun h=>zw h)(hr:fn.results= #[.tmp a]:=by exact rfl)(ha:look fr a=some (enc u):=by exact rfl):pp:=r (bR1 hr ha ⟨u,rfl,h⟩)
theorem zrr{β:Type}{enc:α->Value}{enb:β->Value}{X:α->β->AH->Prop}{a b:Nat}{u:α}{v:β}(h:X u v I)(r:acS P ro fn (fun w I=> ∃x y,w= .tuple #[enc x,enb y]/\X x y I) .ret fr I->pp:=by exact fun h=>zw h)(hr:fn.results= #[.tmp a,.tmp b]:=by exact rfl)(ha:look fr a=some (enc u):=by exact rfl)(hb:look fr b=some (enb v):=by exact rfl):pp:=r (bR2 hr ha hb ⟨u,v,rfl,h⟩)
end
end SL
namespace SL
open Go Go.RowKit
def all(W:World):AH:=fun b=>W.heap[b]?
theorem ap4{W:World}{a:Addr}{v:Value}(I:AH)(h:W.cell? a=some v):qb (all W) I a=some v:=by
 rw[cell?_eq]at h
 unfold qb rd all
 cases e:W.heap[a.block]? with
 | none=>rw[e]at h;cases h
 | some o=>rw[e]at h;exact h
abbrev z0(W:World):World:={W with drawn:=0}
instance z0d (W:World):Zd (z0 W):=⟨⟨rfl⟩⟩
theorem ap5{P:Program}{W:World}{f:FuncId}{args:Array Value}{Q:Value->Prop}(h:qc P (z0 W) (all W) f args (fun _=>none) fun v _=>Q v):
  Calls P f args W fun e W'=>(∃v,e= .returned v/\Q v)/\Below W.heap.size W W':=by
 refine(h (fun _=>none) W ⟨⟨rfl,Nat.zero_le _⟩,rfl,rfl,fun _ _ e=>by(cases e),fun _ _ e=>by(cases e),fun _ _ e=>e⟩).mono ?_
 rintro e W' ⟨v,I',he,hq,ho⟩
 refine⟨⟨v,he,hq⟩,ho.os.1,ho.tape,ho.output,?_,fun k hk=>?_⟩
 .rcases nz W.heap.size with h0 | h0
  .rw[h0];exact Nat.zero_le _
  .have:=qw (ho.ro (W.heap.size - 1) _ (by unfold all;exact Array.getElem?_eq_getElem z6))
   omega
 .have e:=Array.getElem?_eq_getElem hk
  rw[e];exact ho.ro k _ e
end SL
namespace SL
open Go
variable{P:Program}{B:World}{ro I I':AH}{tag tag':Nat->Nat}
variable{β:Type}{I'' τ:AH}{a p:Addr}{args cs:Array Value}{f:FuncId}{R:List Nat}{l vs:List Value}{b bytes g i m n r r':Nat}{K:Nat->AH->Prop}{tag'':Nat->Nat}{s:Sl}{e et kt t ty:TypeId}{v zv:Value}{Q:Value->AH->Prop}
theorem qA(I:AH)(b:Nat)(o:Obj):upd I b o b=some o:=by simp[upd]
theorem uv(I:AH){c:Nat}(o:Obj)(h:c≠b):upd I b o c=I c:=by simp[upd,h]
theorem amQ(I:AH)(b:Nat)(o o':Obj):upd (upd I b o) b o'=upd I b o':=by
 funext c;by_cases h:c=b<;>simp[upd,h]
structure qd(R:List Nat)(ro:AH)(tag:Nat->Nat)(I:AH)(tag':Nat->Nat)(I':AH):Prop where
 keep:∀ b o,I b=some o->tag b∉R->tag' b=tag b/\I' b=some o
 old:∀ b o,I b=some o->tag' b=tag b/\∃ o',I' b=some o'
 sep:Sep ro I'
theorem qd.refl(h:Sep ro I):qd R ro tag I tag I:=⟨fun _ _ h _=>⟨rfl,h⟩,fun _ o h=>⟨rfl,o,h⟩,h⟩
theorem qd.trans(h:qd R ro tag I tag' I')(k:qd R ro tag' I' tag'' I''):qd R ro tag I tag'' I'':=by
 refine⟨fun b o e n=>?_,fun b o e=>?_,k.sep⟩
 .obtain⟨t1,e1⟩:=h.keep b o e n
  obtain⟨t2,e2⟩:=k.keep b o e1 (by rw[t1];exact n)
  exact⟨t2.trans t1,e2⟩
 .obtain⟨t1,o',e1⟩:=h.old b o e
  obtain⟨t2,o'',e2⟩:=k.old b o' e1
  exact⟨t2.trans t1,o'',e2⟩
theorem qd.mono{R':List Nat}(h:qd R ro tag I tag' I')(hr:∀ r∈R,r∈R'):qd R' ro tag I tag' I':=
 ⟨fun b o e n=>h.keep b o e fun m=>n (hr _ m),h.old,h.sep⟩
def Row(tag:Nat->Nat)(I:AH)(r:Nat)(e:TypeId)(s:Sl)(l:List Value):Prop:=
 (s=⟨none,0,0⟩/\l=[])\/∃ b cs,s.a=some ⟨b,0,none⟩/\tag b=r/\I b=some (.cells cs e)/\s.len=l.length/\s.cap=cs.size/\s.len<=s.cap/\∀ i,i<l.length->cs[i]?=l[i]?
theorem Row.nil(r:Nat)(e:TypeId):Row tag I r e ⟨none,0,0⟩ []:= .inl ⟨rfl,rfl⟩
theorem Row.len(h:Row tag I r e s l):s.len=l.length:=by
 rcases h with⟨rfl,rfl⟩ | ⟨b,cs,_,_,_,h,_⟩
 .rfl
 .exact h
theorem Row.keep(h:Row tag I r e s l)(k:qd R ro tag I tag' I')(hr:r∉R:=by simp):Row tag' I' r e s l:=by
 rcases h with h | ⟨b,cs,ha,ht,hs,hx⟩
 .exact .inl h
 .obtain⟨t,e⟩:=k.keep b _ hs (by rw[ht];exact hr)
  exact .inr ⟨b,cs,ha,t.trans ht,e,hx⟩
theorem Row.ptr(h:Row tag I r e s l)(hs:Sep ro I)(hl:0<l.length):
  ∃p,s.a=some p/\∀ i v,l[i]?=some v->qb ro I (p.add (i*1))=some v:=by
 rcases h with⟨_,rfl⟩ | ⟨b,cs,ha,ht,hb,hln,hc,hle,hg⟩
 .cases hl
 .refine⟨_,ha,fun i v hv=>?_⟩
  have hi:i<l.length:=by
   rcases mB i l.length with h | h
   .exact h
   .rw[mw h]at hv;cases hv
  rw[vg,mX,mp]
  unfold qb rd
  simp only[hs b _ hb,hb,wM]
  rw[<-hv,<-hg i hi];try rfl
theorem Row.st{K:AH->Prop}(h:Row tag I r e s l)(hs:Sep ro I)(ha:s.a=some p)(hi:i<l.length)(hv:qk v=true)
  (hK:∀ I',qd [r] ro tag I tag I'->Row tag I' r e s (l.set i v)->K I'):stN (p.add (i*1)) K [v] 0 I:=by
 rcases h with⟨_,rfl⟩ | ⟨b,cs,ha',ht,hb,hln,hc,hle,hg⟩
 .cases hi
 .rw[ha]at ha';cases ha'
  refine⟨hv,z7,cs,e,(0,0),?_,?_,?_,?_⟩
  .simpa using hb
  .simp;omega
  .simp
  .simp only[vg,uW,mX,mp,stN]
   refine hK _ ⟨fun c o hc' hn=>?_,fun c o hc'=>⟨rfl,?_⟩,fun c o hc'=>?_⟩ (.inr ⟨b,_,ha,ht,qA _ _ _,by simp[hln],by simp[hc],hle,fun j hj=>?_⟩)
   .have:c≠b:=fun h=>hn (by simp[h,ht])
    exact⟨rfl,by rw[uv _ _ this];exact hc'⟩
   .by_cases h:c=b
    .exact⟨_,by rw[h];exact qA _ _ _⟩
    .exact⟨o,by rw[uv _ _ h];exact hc'⟩
   .by_cases h:c=b
    .exact hs c _ (by rw[h];exact hb)
    .rw[uv _ _ h]at hc';exact hs c _ hc'
   .simp only[List.length_set]at hj
    have:=hg j hj
    by_cases hij:i=j
    .subst hij
     rw[List.getElem?_set_self hi,Array.getElem?_setIfInBounds_self_of_lt z6]
    .rw[List.getElem?_set_ne hij,Array.getElem?_setIfInBounds_ne hij];exact this
theorem Row.cell1{c:Nat}(h:Row tag I r e ⟨some ⟨b,0,none⟩,n,c⟩ [v])(hs:Sep ro I):qb ro I ⟨b,0,none⟩=some v:=by
 obtain⟨p,hp,hg⟩:=h.ptr hs z7
 cases hp
 exact hg 0 v rfl
def setTag(tag:Nat->Nat)(b r:Nat):Nat->Nat:=fun c=>if c=b then r else tag c
theorem qd.fresh{o:Obj}(hs:Sep ro I)(hro:ro b=none)(hb:I b=none):qd R ro tag I (setTag tag b r) (upd I b o):=by
 refine⟨fun c o' hc _=>?_,fun c o' hc=>?_,fun c o' hc=>?_⟩
 .have:c≠b:=fun h=>by rw[h,hb]at hc;cases hc
  exact⟨by simp[setTag,this],by rw[uv _ _ this];exact hc⟩
 .have:c≠b:=fun h=>by rw[h,hb]at hc;cases hc
  exact⟨by simp[setTag,this],o',by rw[uv _ _ this];exact hc⟩
 .by_cases h:c=b
  .rw[h];exact hro
  .rw[uv _ _ h]at hc;exact hs c _ hc
theorem anT(zv:Value)(n:Nat):(aci zv n).size=n:=by simp[aci]
theorem aoG(zv:Value)(h:zv.cells= #[zv])(n i:Nat)(hi:i<n):(aci zv n)[i]?=some zv:=by
 simp[aci,hi,h,Nat.mod_one]
theorem asd(r:Nat)(hs:Sep ro I)(hz:zv.cells= #[zv])
  (hK:∀ b tag' I',(∀R,qd R ro tag I tag' I')->Row tag' I' r e ⟨some ⟨b,0,none⟩,n,n⟩ (List.replicate n zv)->K b I'):nw ro I (.cells (aci zv (n*1)) e) K:=by
 intro b hro hb
 refine hK b (setTag tag b r) _ (fun R=>qd.fresh hs hro hb) (.inr ⟨b,_,rfl,by simp[setTag],qA _ _ _,z7,by rw[anT];simp,mH _,fun i hi=>?_⟩)
 simp at hi
 rw[aoG _ hz _ _ z6,List.getElem?_replicate,me hi]
theorem qr(r:Nat)(hs:Sep ro I)
  (hK:∀ b tag' I',(∀R,qd R ro tag I tag' I')->Row tag' I' r e ⟨some ⟨b,0,none⟩,cs.size,cs.size⟩ cs.toList->K b I'):nw ro I (.cells cs e) K:=by
 intro b hro hb
 exact hK b (setTag tag b r) _ (fun R=>qd.fresh hs hro hb) (.inr ⟨b,_,rfl,by simp[setTag],qA _ _ _,z7,rfl,mH _,fun i hi=>by simp⟩)
theorem Row.take(h:Row tag I r e s l)(hn:n<=l.length):Row tag I r e ⟨s.a,n,s.cap⟩ (l.take n):=by
 rcases h with⟨rfl,rfl⟩ | ⟨b,cs,ha',ht,hb,hln,hc,hle,hg⟩
 .cases hn;exact .inl ⟨rfl,rfl⟩
 .refine .inr ⟨b,cs,ha',ht,hb,by simp[hn],hc,y6,fun i hi=>?_⟩
  simp at hi
  rw[hg i z6,La,me z6]
theorem agE{q:Question}{f:Nat->Sem β}{Q:β->AH->Prop}(hq:q.forced=false)(h:∀ n,awp P ro (f (q.cut n)) Q I):awp P ro (Sem.bind (choose q) f) Q I:=by
 show(if q.forced then _ else _)
 rw[hq]
 exact h
theorem af1{f:Unit->Sem β}{Q:β->AH->Prop}(h:awp P ro (f ()) Q I):awp P ro (Sem.bind (askRoom n) f) Q I:=by
 unfold askRoom;split<;>exact h
theorem wN:∀ (i:Nat),(∀j v,l[j]?=some v->qb ro I (p.add (i+j))=some v)->qB ro I p i l:=by
 induction l with
 | nil=>intro _ _;trivial
 | cons x l ih=>
  intro i h
  refine⟨h 0 x rfl,ih (i+1) fun j v hj=>?_⟩
  have:=h (j+1) v hj
  rwa [show i+1+j=i+(j+1) by omega]
theorem akM{f:Array Value->Sem β}{Q:β->AH->Prop}(h:Row tag I r e s l)(hs:Sep ro I)(hf:awp P ro (f l.toArray) Q I):
  awp P ro (Sem.bind (Builtin.firstCells 1 s.len (.slice s.a s.len s.cap)) f) Q I:=by
 have hl:=h.len
 rcases h':s.a with _ | p
 .rcases h with⟨rfl,rfl⟩ | ⟨b,cs,ha,_⟩
  .exact hf
  .rw[h']at ha;cases ha
 .rw[show Sem.bind (Builtin.firstCells 1 s.len (.slice (some p) s.len s.cap)) f=(loadCells p (s.len*1)) >>= f from rfl,vC,mX,hl]
  refine xX l 0 #[] ?_ (j1 hf)
  rcases nz l.length with h0 | h0
  .rw[mG h0];trivial
  .obtain⟨p',hp,hg⟩:=h.ptr hs h0
   rw[h']at hp;cases hp
   exact wN 0 fun j v hj=>by have:=hg j v hj;rwa [mX,<-mp j]at this
theorem adO(h:Row tag I r e s l)(hs:Sep ro I)
  (ht:P.underlying t=some (.slice e)) (hz:ql P e zv 1 bytes) (hzc:zv.cells= #[zv]) (hv:qk v=true) (hc:qb ro I a=some v) (hsp:a.spot=none) (hb:(l.length+1)*bytes<=140737488355328) (hb0:0<bytes)
  (hK:∀ s' tag' I',qd [r] ro tag I tag' I'->Row tag' I' r e s' (l++[v])->Q (Sl.v s') I'):
  awp P ro (Builtin.append_ #[t,t] ty #[Sl.v s,Sl.v ⟨some a,1,1⟩]) Q I:=by
 obtain⟨i,hi,hiz,his,hib⟩:=hz
 have hz:ql P e zv 1 bytes:=⟨i,hi,hiz,his,hib⟩
 have q1:∀ (f:TypeInfo->Sem Value),awp P ro (Sem.bind (typeInfo e) f) Q I↔awp P ro (f i) Q I:=fun f=>va hi
 have g0:(#[t,t]:Array TypeId)[0]?=some t:=rfl
 have g1:(#[t,t]:Array TypeId)[1]?=some t:=rfl
 have g2:(#[Value.slice s.a s.len s.cap,Value.slice (some a) 1 1]:Array Value)[0]?=some (Value.slice s.a s.len s.cap):=rfl
 have g3:(#[Value.slice s.a s.len s.cap,Value.slice (some a) 1 1]:Array Value)[1]?=some (Value.slice (some a) 1 1):=rfl
 have hld:∀ τ:AH,qb ro τ a=some v->∀ {β:Type} (f:Array Value->Sem β) (Q:β->AH->Prop),awp P ro (f #[v]) Q τ->awp P ro (Sem.bind (Builtin.firstCells 1 1 (.slice (some a) 1 1)) f) Q τ:=by
  intro τ hτ β f Q hf
  rw[show Sem.bind (Builtin.firstCells 1 1 (.slice (some a) 1 1)) f=(loadCells a 1) >>= f from rfl,vC]
  exact xX [v] 0 #[] ⟨j1 hτ,trivial⟩ hf
 unfold Builtin.append_
 simp only[Sl.v,qy,qQ,g0,g1,g2,g3,bind_assoc']
 rw[qF ht]
 simp only[]
 rw[adr hz]
 rw[qF ht]
 simp only[wC,Builtin.lenOf,qy,qQ,bind_assoc',Bool.false_eq_true,if_false,Bool.not_false,if_true,false_or]
 split
 .rename_i hroom
  refine hld _ hc _ _ ?_
  have h':=h
  rcases h with⟨rfl,rfl⟩ | ⟨b,cs,ha,htg,hbk,hln,hcp,hle,hg⟩
  .simp at hroom
  .have hlt:s.len<cs.size:=by omega
   have hx:Row tag I r e ⟨s.a,s.len+1,s.cap⟩ (l++[cs[s.len]]):=by
    refine .inr ⟨b,cs,ha,htg,hbk,by simp[hln],hcp,hroom,fun i hi=>?_⟩
    simp at hi
    rcases mB i l.length with h1 | h1
    .rw[mM h1];exact hg i h1
    .have:i=l.length:=by omega
     subst this
     rw[mW (mH _)]
     simp[<-hln,hlt]
   simp only[ha]
   show awp P ro (storeCells (Addr.add ⟨b,0,none⟩ (s.len*1)) [v] >>= fun _=>Sem.pure (Value.slice (some ⟨b,0,none⟩) (s.len+1) s.cap)) Q I
   rw[vC]
   refine uu [v] 0 I (hx.st (i:=s.len) hs ha y6 hv fun I' hst hr=>?_)
   show Q (Value.slice (some ⟨b,0,none⟩) (s.len+1) s.cap) I'
   have e1:(l++[cs[s.len]]).set s.len v=l++[v]:=by rw[List.set_append_right _ _ z6];simp[hln]
   rw[e1,ha]at hr
   exact hK _ _ _ hst hr
 .rename_i hroom
  rw[va hi]
  rw[mc (by rw[hib];omega)]
  rw[va hi]
  rw[mc (by rw[hib];have:=growslice_fits (need:=s.len+1) (old:=s.cap) (bytes:=bytes) z6 (by rw[h.len];exact hb);omega)]
  refine agE rfl (fun n=>?_)
  rw[va hi]
  refine af1 ?_
  have hcut:s.len+1<=(Question.appendCap (s.len+1) s.cap e).cut n:=by simp only[Question.cut];omega
  generalize (Question.appendCap (s.len+1) s.cap e).cut n=N at hcut
  refine akM h hs ?_
  refine hld _ hc _ _ ?_
  rw[acv hz]
  rw[hzc]
  show∀b,ro b=none->I b=none->Q (Value.slice (some ⟨b,0,none⟩) (s.len+1) N) (upd I b _)
  intro b hro hb
  refine hK ⟨some ⟨b,0,none⟩,s.len+1,N⟩ (setTag tag b r) _ (qd.fresh hs hro hb) (.inr ⟨b,_,rfl,by simp[setTag],qA _ _ _,by simp[h.len],?_,hcut,fun i hi=>?_⟩)
  .have:=h.len
   simp[Builtin.zeroCells];omega
  .simp at hi
   rw[Array.getElem?_append_left y6]
   simp
theorem art{K:AH->Prop}:∀ (vs:List Value) (cs:Array Value) (i:Nat),cs.size=i+vs.length->(∀v∈vs,qk v=true)->(∀cs':Array Value,cs'.size=cs.size->(∀j,j<i->cs'[j]?=cs[j]?)->(∀j v,vs[j]?=some v->cs'[i+j]?=some v)->K (upd I b (.cells cs' e)))->
  stN ⟨b,0,none⟩ K vs i (upd I b (.cells cs e)):=by
 intro vs
 induction vs with
 | nil=>intro cs i hsz _ hK;exact hK cs rfl (fun _ _=>rfl) (fun j v h=>by cases h)
 | cons x vs ih=>
  intro cs i hsz hst hK
  simp only[mA]at hsz
  refine⟨hst x z7,z7,cs,e,(0,0),?_,?_,?_,?_⟩
  .simp[upd]
  .simp;omega
  .simp
  .simp only[vg,mp]
   rw[amQ]
   refine ih _ _ y6 (fun v hv=>hst v (by simp[hv])) fun cs' h1 h2 h3=>hK cs' (j1 h1) (fun j hj=>?_) fun j v hj=>?_
   .rw[h2 j z6,Array.getElem?_setIfInBounds_ne z6]
   .rcases j with _ | j
    .cases hj
     rw[Nat.add_zero,h2 i z6,Array.getElem?_setIfInBounds_self_of_lt z6]
    .rw[show i+(j+1)=i+1+j by omega];exact h3 j v hj
theorem acj(r:Nat)(hs:Sep ro I)(hsz:cs.size=vs.length)(hst:∀ v∈vs,qk v=true)
  (hK:∀ b tag' I',(∀R,qd R ro tag I tag' I')->Row tag' I' r e ⟨some ⟨b,0,none⟩,vs.length,vs.length⟩ vs->K b I'):nw ro I (.cells cs e) fun b I=>stN ⟨b,0,none⟩ (K b) vs 0 I:=by
 intro b hro hb
 refine art vs cs 0 z6 hst fun cs' h1 _ h3=>?_
 refine hK b (setTag tag b r) _ (fun R=>qd.fresh hs hro hb) (.inr ⟨b,cs',rfl,by simp[setTag],qA _ _ _,rfl,y6,mH _,fun i hi=>?_⟩)
 rw[mh hi]
 have:=h3 i _ (mh hi)
 rwa [mp]at this
def one(I:AH)(b:Nat):AH:=fun c=>if c=b then I c else none
def del(I:AH)(b:Nat):AH:=fun c=>if c=b then none else I c
theorem aeL(b:Nat){K:AH->AH->Prop}(h:K (one I b) (del I b)):uS I K:=by
 refine⟨_,_,fun c o hc=>?_,?_,h⟩
 .unfold one at hc;unfold del
  split at hc
  .rename_i e;rw[me e]
  .cases hc
 .funext c;unfold join one del
  by_cases e:c=b
  .simp only[e,if_true];cases I b<;>rfl
  .simp[e]
theorem Sep.lent(hs:Sep ro I):Sep (join ro (one I b)) (del I b):=by
 intro c o hc
 unfold del at hc
 split at hc
 .cases hc
 .rename_i e
  unfold join one
  rw[hs c o hc];simp[e]
theorem Row.del(h:Row tag I r e s l)(hb:tag b=r')(hr:r≠r'):Row tag (del I b) r e s l:=by
 rcases h with h | ⟨c,cs,ha,ht,hs,hx⟩
 .exact .inl h
 .refine .inr ⟨c,cs,ha,ht,?_,hx⟩
  have:c≠b:=fun e=>hr (by rw[<-ht,e,hb])
  unfold SL.del;rw[mc this];exact hs
theorem Row.lend(h:Row tag I r e ⟨some ⟨b,0,none⟩,n,m⟩ l)(hs:Sep ro I)(hv:l[i]?=some v):qb (join ro (one I b)) τ ((⟨b,0,none⟩:Addr).add (i*1))=some v:=by
 rcases h with⟨e,_⟩ | ⟨c,cs,ha,ht,hb,hln,hc,hle,hg⟩
 .cases e
 .cases ha
  have hi:i<l.length:=by
   rcases mB i l.length with h | h
   .exact h
   .rw[mw h]at hv;cases hv
  rw[vg,mX,mp]
  have:join ro (one I b) b=some (.cells cs e):=by unfold join one;rw[hs b _ hb];simp[hb]
  unfold qb rd
  simp only[this,wM]
  rw[<-hv,<-hg i hi];try rfl
theorem Row.tagOf(h:Row tag I r e ⟨some ⟨b,0,none⟩,n,m⟩ l):tag b=r/\∃ o,I b=some o:=by
 rcases h with⟨e,_⟩ | ⟨c,cs,ha,ht,hb,_⟩
 .cases e
 .cases ha;exact⟨ht,_,hb⟩
theorem Row.back(h:Row tag' τ r e s l)(hd:qI (one I b) τ)(hb:∃ o,I b=some o):Row (setTag tag' b r') (join (one I b) τ) r e s l:=by
 rcases h with h | ⟨c,cs,ha,ht,hs,hx⟩
 .exact .inl h
 .have hcb:c≠b:=fun e=>by
   obtain⟨o,ho⟩:=hb
   have:=hd b o (by unfold one;rw[me rfl];exact ho)
   rw[<-e,hs]at this;cases this
  exact .inr ⟨c,cs,ha,by unfold setTag;rw[mc hcb];exact ht,by unfold join one;rw[mc hcb];exact hs,hx⟩
theorem qd.back(h:qd R (join ro (one I b)) tag (del I b) tag' τ)(hs:Sep ro I)(hd:qI (one I b) τ)(hb:∃ o,I b=some o):qd R ro tag I (setTag tag' b (tag b)) (join (one I b) τ):=by
 obtain⟨ob,hob⟩:=hb
 have hone:one I b b=some ob:=by unfold one;rw[me rfl];exact hob
 refine⟨fun c o hc hn=>?_,fun c o hc=>?_,fun c o hc=>?_⟩
 .by_cases e:c=b
  .subst e;exact⟨by simp[setTag],by simp only[join,hone];rw[<-hob];exact hc⟩
  .obtain⟨t1,t2⟩:=h.keep c o (by unfold del;rw[mc e];exact hc) hn
   exact⟨by unfold setTag;rw[mc e];exact t1,by unfold join one;rw[mc e];exact t2⟩
 .by_cases e:c=b
  .subst e;exact⟨by simp[setTag],ob,by unfold join;rw[hone]⟩
  .obtain⟨t1,o',t2⟩:=h.old c o (by unfold del;rw[mc e];exact hc)
   exact⟨by unfold setTag;rw[mc e];exact t1,o',by unfold join one;rw[mc e];exact t2⟩
 .by_cases e:c=b
  .subst e;exact hs c _ hob
  .have:τ c=some o:=by unfold join one at hc;rw[mc e]at hc;exact hc
   exact(jD (h.sep c o this)).1
abbrev Str:=List UInt8
def S(l:Str):ByteArray:=⟨l.toArray⟩
def L(s:ByteArray):Str:=s.data.toList
@[simp] theorem L_S(l:Str):L (S l)=l:=rfl
@[simp] theorem S_L(s:ByteArray):S (L s)=s:=by cases s;rfl
theorem uX{a b:ByteArray}(h:L a=L b):a=b:=by rw[<-S_L a,h,S_L]
theorem yu{a b:Str}:S a=S b↔a=b:=⟨fun h=>by have:=mi L h;simpa using this,fun h=>by rw[h]⟩
@[simp] theorem ae4(l:Str):(S l).size=l.length:=rfl
theorem wT(s:ByteArray):(L s).length=s.size:=rfl
theorem ap6(a b:ByteArray):L (a++b)=L a++L b:=by
 unfold L;rw[ByteArray.data_append,Array.toList_append]
theorem uY(a b:Str):S a++S b=S (a++b):=uX (by rw[ap6];try rfl)
theorem ad4(l:Str)(i j:Nat):(S l).extract i j=S ((l.take j).drop i):=by
 apply uX
 have:=Go.Lib.extract_data (S l) i j
 show((S l).extract i j).data.toList=_
 rw[this]
 simp[S,L,List.drop_take]
theorem aq8(s:ByteArray)(a b:Nat):s.extract a b=S (((L s).take b).drop a):=by
 conv=>lhs;rw[<-S_L s]
 rw[ad4]
theorem aq9(l:Str)(i:Nat):(S l)[i]?=l[i]?:=by
 by_cases h:i<l.length
 .rw[mh h]
  rw[getElem?_pos (S l) i h]
  try rfl
 .rw[mw z6,getElem?_neg (S l) i h]
theorem qc.quiet{R:Value->Prop}(h:qc P B ro f args (fun _=>none) fun v _=>R v)(hq:∀ v,R v->Q v I):qc P B ro f args I Q:=by
 have e:join (fun _=>none) I=I:=by funext b;rfl
 have:=qc.frame (ψ:=I) h (fun b o h=>by cases h)
 rw[e]at this
 refine this.drop ?_
 rintro v I' ⟨τ,rfl,hd,hr⟩
 exact⟨I,fun b o h=>xu hd h,hq v hr⟩
def aj9(ro I:AH)(w:World):Prop:= ∀b o,rd ro I b=some o->w.heap[b]?=some o
def agF(w w':World)(N:AH):Prop:= ∀b o,N b=some o->w.heap.size<=b/\w'.heap[b]?=some o
theorem qc.of_calls[Zd B]
  (h:∀ w,aj9 ro I w->Sep ro I->Calls P f args w fun e w'=> ∃v N,e= .returned v/\Go.RowKit.Below w.heap.size w w'/\agF w w' N/\Q v (join I N)):qc P B ro f args I Q:=by
 intro φ w ho
 refine(h w (fun b o hr=>ho.rd hr) ho.sep).mono ?_
 rintro e w' ⟨v,N,he,hb,hn,hq⟩
 have lt:∀ b o,w.heap[b]?=some o->w'.heap[b]?=some o/\N b=none:=fun b o hbo=>by
  have hlt:=qw hbo
  refine⟨by rw[hb.block b hlt];exact hbo,?_⟩
  cases hN:N b with
  | none=>rfl
  | some o'=>have:=(hn b o' hN).1;omega
 refine⟨v,_,he,hq,⟨hb.os.trans ho.os.1,Zd.le _⟩,hb.tape.trans ho.tape,hb.output.trans ho.output,fun b o hj=>?_,fun b o hf=>(lt b o (ho.fr b o hf)).1,fun b o hf=>(lt b o (ho.ro b o hf)).1⟩
 rcases pJ hj with h1 | ⟨_,h1⟩
 .obtain⟨h2,h3,h4⟩:=ho.own b o h1
  exact⟨(lt b o h2).1,h3,h4⟩
 .obtain⟨h2,h3⟩:=hn b o h1
  refine⟨h3,?_,?_⟩
  .cases hf:φ b with
   | none=>rfl
   | some o'=>have:=qw (ho.fr b o' hf);omega
  .cases hf:ro b with
   | none=>rfl
   | some o'=>have:=qw (ho.ro b o' hf);omega
theorem abK{w w':World}(r:Nat)(hs:aj9 ro I w)(hsep:Sep ro I)(hg:w.heap.size<=g)(hw:w'.heap[g]?=some (.cells cs e)):
  ∃N tag',agF w w' N/\(∀R,qd R ro tag I tag' (join I N))/\∀ n c (l:List Value),n=l.length->c=cs.size->n<=c->cs.toList.take n=l->Row tag' (join I N) r e ⟨some ⟨g,0,none⟩,n,c⟩ l:=by
 have hσ:I g=none:=by
  cases h:I g with
  | none=>rfl
  | some o=>have:=qw (hs g o (by unfold rd;rw[hsep g o h];exact h));omega
 have hro:ro g=none:=by
  cases h:ro g with
  | none=>rfl
  | some o=>have:=qw (hs g o (by unfold rd;rw[h]));omega
 have e1:join I (fun b=>if b=g then some (.cells cs e)else none)=upd I g (.cells cs e):=by
  funext b;unfold join upd
  by_cases h:b=g
  .subst h;simp[hσ]
  .simp[h];cases I b<;>rfl
 refine⟨fun b=>if b=g then some (.cells cs e)else none,setTag tag g r,?_,?_,?_⟩
 .intro b o hb
  simp only at hb
  split at hb
  .rename_i h;subst h;cases hb;exact⟨hg,hw⟩
  .cases hb
 .intro R;rw[e1];exact qd.fresh hsep hro hσ
 .rintro n c l rfl rfl hn ht
  rw[e1]
  refine .inr ⟨g,cs,rfl,by simp[setTag],qA _ _ _,rfl,rfl,hn,fun i hi=>?_⟩
  have:l[i]?=cs.toList[i]?:=by
   conv=>lhs;rw[<-ht]
   rw[La,me hi]
  rw[this];simp
theorem agF.none(w w':World):agF w w' fun _=>none:=fun _ _ h=>by cases h
abbrev KV:=List (Str×Value)
def ae5:KV->Str->Value->KV
 | [],k,v=>[(k,v)]
 | (k',v')::r,k,v=>if k=k' then(k,v)::r else(k',v')::ae5 r k v
def aka:KV->Str->KV
 | [],_=>[]
 | (k',v')::r,k=>if k=k' then r else(k',v')::aka r k
def jH(e:MapEntry):Value×Value:=(e.key,e.val)
def agG(p:Str×Value):Value×Value:=(.string (S p.1),p.2)
structure acw(es:Array MapEntry)(clock:Nat):Prop where
 lt:∀ e∈es.toList,e.born<clock
 nd:(es.toList.map (·.born)).Nodup
structure xw(tag:Nat->Nat)(I:AH)(r b:Nat)(m:KV):Prop where
 tg:tag b=r
 obj:∃ es clock,I b=some (.map es clock)/\es.toList.map jH=m.map agG/\acw es clock
theorem xw.keep{m:KV}(h:xw tag I r b m)(k:qd R ro tag I tag' I')(hr:r∉R:=by simp):xw tag' I' r b m:=by
 obtain⟨es,c,hb,hx⟩:=h.obj
 obtain⟨t,e⟩:=k.keep b _ hb (by rw[h.tg];exact hr)
 exact⟨t.trans h.tg,es,c,e,hx⟩
theorem aiQ(a b:ByteArray):(a == b)=decide (a=b):=by
 cases a with | mk a=>cases b with | mk b=>
 show(a == b)=_
 rw[Bool.eq_iff_iff];simp
theorem aiz(k:Str):∀ (l:List MapEntry) (m:KV) (i:Nat),l.map jH=m.map agG->
  (m.lookup k=none/\aka m k=m/\(∀v,ae5 m k v=m++[(k,v)])/\Instr.findNow .string (.string (S k)) l i=some none)\/
  ∃j v,j<l.length/\m.lookup k=some v/\Instr.findNow .string (.string (S k)) l i=some (some (i+j,v))/\m[j]?=some (k,v)/\(∀v',ae5 m k v'=m.set j (k,v'))/\aka m k=m.eraseIdx j:=by
 intro l
 induction l with
 | nil=>
  intro m i h
  have:m=[]:=by simpa using h.symm
  subst this
  exact .inl ⟨rfl,rfl,fun _=>rfl,rfl⟩
 | cons e l ih=>
  intro m i h
  cases m with
  | nil=>simp at h
  | cons p m=>
   simp only[nx,List.cons.injEq]at h
   obtain⟨h1,h2⟩:=h
   have hk:e.key= .string (S p.1):=mi Prod.fst h1
   have hv:e.val=p.2:=mi Prod.snd h1
   obtain⟨pk,pv⟩:=p
   simp only at hk hv
   unfold Instr.findNow
   rw[hk]
   by_cases c:k=pk
   .subst c
    right
    refine⟨0,pv,z7,z7,?_,rfl,fun v'=>by simp[ae5],by simp[aka]⟩
    simp[Instr.sameNow,hv,aiQ]
   .have hne:Instr.sameNow .string (.string (S k)) (.string (S pk))=some false:=by
     simp[Instr.sameNow,yu,c,aiQ]
    rw[hne]
    simp only
    have hlk:List.lookup k ((pk,pv)::m)=m.lookup k:=by
     rw[nA]
     have:(k == pk)=false:=by simpa using c
     rw[this]
    rw[hlk]
    rcases ih m (i+1) h2 with⟨a,b,d,f⟩ | ⟨j,v,hj,a,f,g,q,w⟩
    .exact .inl ⟨a,by simp[aka,c,b],fun v=>by simp[ae5,c,d],f⟩
    .exact .inr ⟨j+1,v,y6,a,by rw[f];congr 3;omega,j1 g,fun v'=>by simp[ae5,c,q],by simp[aka,c,w]⟩
theorem ae6{em:Bool}{s:ByteArray}{f:Unit->Sem β}{K:β->AH->Prop}(hk:P.underlying kt=some .string)(h:awp P ro (f ()) K I):awp P ro (Sem.bind (Instr.checkKey em 10000 kt (.string s)) f) K I:=by
 rw[show(10000:Nat)=9999+1 from rfl]
 unfold Instr.checkKey
 simp only[qy]
 rw[bind_assoc',qF hk]
 exact h
theorem ab7{s:ByteArray}{l:List MapEntry}{r:Option (Nat×Value)}{f:Option (Nat×Value)->Sem β}{K:β->AH->Prop}(hk:P.underlying kt=some .string)(hr:Instr.findNow .string (.string s) l 0=some r)(h:awp P ro (f r) K I):
  awp P ro (Sem.bind (Instr.findKey kt (.string s) l) f) K I:=by
 unfold Instr.findKey
 simp only[qy]
 rw[bind_assoc',qF hk]
 rw[hr]
 exact h
theorem uw{bt:Nat}{m:KV}{k:Str}{K:Value->AH->Prop}(hm:xw tag I r b m)(hs:Sep ro I)(ht:P.underlying t=some (.map kt et))(hk:P.underlying kt=some .string)(hz:ql P et zv n bt)
  (hK:K ((m.lookup k).getD zv) I):awp P ro (Instr.lookup t (.map (some b)) (.string (S k)) false) K I:=by
 obtain⟨es,clock,hb,he,hbn⟩:=hm.obj
 unfold Instr.lookup
 simp only[qy]
 rw[qF ht]
 simp only[bind_assoc']
 refine⟨.map es clock,by unfold rd;rw[hs b _ hb];exact hb,rfl,?_⟩
 refine ae6 hk ?_
 rcases aiz k es.toList m 0 he with⟨a,_,_,f⟩ | ⟨j,v,hj,a,f,_⟩
 .refine ab7 hk f ?_
  simp only[bind_assoc']
  rw[acv hz]
  rw[a]at hK
  exact hK
 .refine ab7 hk f ?_
  rw[a]at hK
  exact hK
theorem yk{o o':Obj}(hs:Sep ro I)(ht:tag b=r)(hb:I b=some o):qd [r] ro tag I tag (upd I b o'):=by
 refine⟨fun c x hc hn=>?_,fun c x hc=>⟨rfl,?_⟩,fun c x hc=>?_⟩
 .have:c≠b:=fun h=>hn (by simp[h,ht])
  exact⟨rfl,by rw[uv _ _ this];exact hc⟩
 .by_cases h:c=b
  .exact⟨_,by rw[h];exact qA _ _ _⟩
  .exact⟨x,by rw[uv _ _ h];exact hc⟩
 .by_cases h:c=b
  .exact hs c _ (by rw[h];exact hb)
  .rw[uv _ _ h]at hc;exact hs c _ hc
theorem abL{m:KV}{k:Str}{K:Unit->AH->Prop}(hm:xw tag I r b m)(hs:Sep ro I)(ht:P.underlying t=some (.map kt et))(hk:P.underlying kt=some .string)
  (hK:∀ I',qd [r] ro tag I tag I'->xw tag I' r b (ae5 m k v)->K () I'):awp P ro (Instr.mapUpdate t (.map (some b)) (.string (S k)) v) K I:=by
 obtain⟨es,clock,hb,he,hbn⟩:=hm.obj
 unfold Instr.mapUpdate
 simp only[qy]
 rw[qF ht]
 refine⟨.map es clock,by unfold rd;rw[hs b _ hb];exact hb,rfl,?_⟩
 refine ae6 hk ?_
 rcases aiz k es.toList m 0 he with⟨a,_,d,f⟩ | ⟨j,u,hj,a,f,g,q,_⟩
 .refine ab7 hk f ?_
  refine⟨.map es clock,hb,rfl,?_⟩
  refine hK _ (yk hs hm.tg hb) ⟨hm.tg,_,_,qA _ _ _,?_,?_,?_⟩
  .rw[d v,Array.toList_push,mJ,mJ,he];try rfl
  .intro e he'
   rw[Array.toList_push]at he'
   rcases mt.1 he' with h | h
   .have:=hbn.lt e h;omega
   .rw[mK]at h;rw[h];exact Nat.lt_succ_self _
  .rw[Array.toList_push,mJ,List.nodup_append]
   refine⟨hbn.nd,z7,?_⟩
   intro x hx y hy
   obtain⟨e,he',rfl⟩:=my.1 hx
   have:=hbn.lt e he'
   simp at hy;omega
 .refine ab7 hk f ?_
  have hje:j<es.size:=by simpa using hj
  have hkey:es[j].key= .string (S k):=by
   have h1:(es.toList.map jH)[j]?=(m.map agG)[j]?:=by rw[he]
   rw[mq,mq,g,mh hj]at h1
   have:=mQ h1
   exact mi Prod.fst this
  have hst:(((es[0+j]?).map (·.key)).getD (.string (S k)))= .string (S k):=by
   rw[mp,Array.getElem?_eq_getElem hje]
   exact hkey
  simp only
  rw[hst]
  have hkt:Instr.keyThatStays (.string (S k)) (.string (S k))=Sem.pure (.string (S k)):=by
   unfold Instr.keyThatStays
   rw[me (by simp[Instr.sameBits,aiQ])];try rfl
  rw[hkt]
  refine⟨.map es clock,hb,rfl,?_⟩
  have hml:(es.modify (0+j) fun e=>{e with key:= .string (S k),val:=v}).toList=es.toList.modify j fun e=>{e with key:= .string (S k),val:=v}:=by
   rw[mp];exact Array.toList_modify ..
  refine hK _ (yk hs hm.tg hb) ⟨hm.tg,_,_,qA _ _ _,?_,?_,?_⟩
  .rw[hml,q v]
   apply Ld
   intro i
   rw[mq,mq,List.getElem?_modify,Lx]
   have hi:(es.toList.map jH)[i]?=(m.map agG)[i]?:=by rw[he]
   rw[mq,mq]at hi
   by_cases c:j=i
   .subst c
    have hjm:j<m.length:=by
     rcases mB j m.length with h | h
     .exact h
     .rw[mw h]at g;cases g
    rw[me rfl,me hjm,mh hj]
    simp[jH,agG]
   .rw[mc c]
    simp only[c,if_false]
    cases h:es.toList[i]? with
    | none=>rw[h]at hi;simpa using hi
    | some e=>rw[h]at hi;simpa using hi
  .intro e he'
   rw[hml]at he'
   obtain⟨i,hi,rfl⟩:=nv he'
   rw[List.getElem_modify]
   rw[List.length_modify]at hi
   split
   .have:=hbn.lt _ (mO hi)
    exact this
   .have:=hbn.lt _ (mO hi)
    exact this
  .rw[hml]
   have:(es.toList.modify j fun e=>{e with key:= .string (S k),val:=v}).map (·.born)=es.toList.map (·.born):=by
    apply Ld
    intro i
    rw[mq,mq,List.getElem?_modify]
    by_cases c:j=i
    .subst c;rw[mh hj];simp
    .simp[c]
   rw[this];exact hbn.nd
theorem aoH(r:Nat)(hs:Sep ro I)(hK:∀ b tag' I',(∀R,qd R ro tag I tag' I')->xw tag' I' r b []->K b I'):nw ro I (.map #[] 0) K:=by
 intro b hro hb
 exact hK b (setTag tag b r) _ (fun R=>qd.fresh hs hro hb) ⟨by simp[setTag],_,_,qA _ _ _,rfl,z7,z7⟩
def qU(ro I:AH)(s:Sl)(l:List Value):Prop:=s.len=l.length/\(s.a=none->l=[])/\∀ p,s.a=some p->∀ i v,l[i]?=some v->qb ro I (p.add i)=some v
theorem Row.read(h:Row tag I r e s l)(hs:Sep ro I):qU ro I s l:=by
 refine⟨h.len,fun hn=>?_,fun p hp i v hv=>?_⟩
 .rcases h with⟨_,h⟩ | ⟨b,cs,ha,_⟩
  .exact h
  .rw[hn]at ha;cases ha
 .have hl:0<l.length:=by
   rcases nz l.length with h0 | h0
   .rw[mG h0]at hv;cases hv
   .exact h0
  obtain⟨q,hq,hg⟩:=h.ptr hs hl
  rw[hp]at hq;cases hq
  have:=hg i v hv
  rwa [mX]at this
theorem qU.keep(h:qU ro (fun _=>none) s l):qU ro I s l:=by
 refine⟨h.1,h.2.1,fun p hp i v hv=>?_⟩
 have:=h.2.2 p hp i v hv
 unfold qb rd at this⊢
 cases e:ro (p.add i).block with
 | none=>rw[e]at this;simp[wM]at this
 | some o=>rw[e]at this;exact this
theorem qU.step(h:qU ro I s l)(k:qd [] ro tag I tag' I'):qU ro I' s l:=by
 refine⟨h.1,h.2.1,fun p hp i v hv=>?_⟩
 have:=h.2.2 p hp i v hv
 unfold qb rd at this⊢
 cases e:ro (p.add i).block with
 | some o=>rw[e]at this;exact this
 | none=>
  rw[e]at this
  simp only at this⊢
  cases e2:I (p.add i).block with
  | none=>rw[e2]at this;simp[wM]at this
  | some o=>rw[(k.keep _ o e2 z7).2];rw[e2]at this;exact this
theorem aif{o:Nat}{K:AH->Prop}:∀ (vs:List Value) (cs:Array Value) (i:Nat) (I:AH),I b=some (.cells cs e)->o+i+vs.length<=cs.size->(∀v∈vs,qk v=true)->
  (∀cs':Array Value,cs'.size=cs.size->(∀j,j<o+i->cs'[j]?=cs[j]?)->(∀j v,vs[j]?=some v->cs'[o+i+j]?=some v)->K (upd I b (.cells cs' e)))->stN ⟨b,o,none⟩ K vs i I:=by
 intro vs
 induction vs with
 | nil=>
  intro cs i I hb _ _ hK
  have:=hK cs rfl (fun _ _=>rfl) (fun j v h=>by cases h)
  have e:upd I b (.cells cs e)=I:=by
   funext c;unfold upd;split
   .rename_i h;rw[h,hb]
   .rfl
  rw[e]at this;exact this
 | cons x vs ih=>
  intro cs i I hb hsz hst hK
  simp only[mA]at hsz
  refine⟨hst x z7,z7,cs,e,(0,0),?_,?_,?_,?_⟩
  .simpa using hb
  .simp;omega
  .simp
  .simp only[vg]
   refine ih _ (i+1) _ (qA _ _ _) y6 (fun v hv=>hst v (by simp[hv])) fun cs' h1 h2 h3=>?_
   rw[amQ]
   refine hK cs' (j1 h1) (fun j hj=>?_) fun j v hj=>?_
   .rw[h2 j z6,Array.getElem?_setIfInBounds_ne z6]
   .rcases j with _ | j
    .cases hj
     rw[Nat.add_zero,h2 (o+i) z6,Array.getElem?_setIfInBounds_self_of_lt z6]
    .rw[show o+i+(j+1)=o+(i+1)+j by omega];exact h3 j v hj
theorem aaI{s2:Sl}{l2:List Value}(h:Row tag I r e s l)(hs:Sep ro I)(h2:qU ro I s2 l2)
  (ht:P.underlying t=some (.slice e)) (hz:ql P e zv 1 bytes) (hzc:zv.cells= #[zv]) (hv:∀ v∈l2,qk v=true) (hb:(l.length+l2.length)*bytes<=140737488355328) (hb0:0<bytes)
  (hK:∀ s' tag' I',(∀R,s.len=s.cap\/r∈R->qd R ro tag I tag' I')->Row tag' I' r e s' (l++l2)->Q (Sl.v s') I'):
  awp P ro (Builtin.append_ #[t,t] ty #[Sl.v s,Sl.v s2]) Q I:=by
 obtain⟨i,hi,hiz,his,hib⟩:=hz
 have hz:ql P e zv 1 bytes:=⟨i,hi,hiz,his,hib⟩
 have g0:(#[t,t]:Array TypeId)[0]?=some t:=rfl
 have g1:(#[t,t]:Array TypeId)[1]?=some t:=rfl
 have g2:(#[Value.slice s.a s.len s.cap,Value.slice s2.a s2.len s2.cap]:Array Value)[0]?=some (Value.slice s.a s.len s.cap):=rfl
 have g3:(#[Value.slice s.a s.len s.cap,Value.slice s2.a s2.len s2.cap]:Array Value)[1]?=some (Value.slice s2.a s2.len s2.cap):=rfl
 have hln:=h2.1
 have hld:∀ {β:Type} (f:Array Value->Sem β) (Q:β->AH->Prop),awp P ro (f l2.toArray) Q I->awp P ro (Sem.bind (Builtin.firstCells 1 s2.len (.slice s2.a s2.len s2.cap)) f) Q I:=by
  intro β f Q hf
  cases hsa:s2.a with
  | none=>
   rw[h2.2.1 hsa]at hf
   exact hf
  | some p=>
   rw[show Sem.bind (Builtin.firstCells 1 s2.len (.slice (some p) s2.len s2.cap)) f=(loadCells p (s2.len*1)) >>= f from rfl,vC,mX,hln]
   exact xX l2 0 #[] (wN 0 fun j v hj=>by rw[mp];exact h2.2.2 p hsa j v hj) (j1 hf)
 unfold Builtin.append_
 simp only[Sl.v,qy,qQ,g0,g1,g2,g3]
 rw[qF ht]
 simp only[]
 rw[adr hz]
 rw[qF ht]
 simp only[wC,Builtin.lenOf,qy,qQ,Bool.false_eq_true,if_false,Bool.not_false,if_true,false_or]
 split
 .rename_i hroom
  refine hld _ _ ?_
  rcases h with⟨rfl,rfl⟩ | ⟨b,cs,ha,htg,hbk,hln1,hcp,hle,hg⟩
  .have h0:l2=[]:=mG (by simp at hroom;omega)
   subst h0
   have hs2:s2.len=0:=hln
   show Q (.slice none (0+s2.len) 0) I
   rw[hs2]
   exact hK ⟨none,0,0⟩ tag I (fun _ _=>qd.refl hs) (.inl ⟨rfl,rfl⟩)
  .have h':Row tag I r e s l:= .inr ⟨b,cs,ha,htg,hbk,hln1,hcp,hle,hg⟩
   by_cases h0:l2=[]
   .subst h0
    have hs2:s2.len=0:=hln
    simp only[ha]
    show Q (Value.slice (some ⟨b,0,none⟩) (s.len+s2.len) s.cap) I
    rw[hs2,Nat.add_zero]
    have:=hK s tag I (fun _ _=>qd.refl hs) (by rw[nN];exact h')
    unfold Sl.v at this
    rw[ha]at this;exact this
   have hpos:=nr.2 h0
   simp only[ha]
   show awp P ro (storeCells (Addr.add ⟨b,0,none⟩ (s.len*1)) l2 >>= fun _=>Sem.pure (Value.slice (some ⟨b,0,none⟩) (s.len+s2.len) s.cap)) Q I
   rw[vC,vg,mX,mp]
   refine uu l2 0 I (aif l2 cs 0 I hbk z6 hv fun cs' c1 c2 c3=>?_)
   show Q (Value.slice (some ⟨b,0,none⟩) (s.len+s2.len) s.cap) _
   refine hK ⟨some ⟨b,0,none⟩,s.len+s2.len,s.cap⟩ tag _ (fun R hR=>(yk hs htg hbk).mono fun x hx=>by rw[mK]at hx;rw[hx];exact hR.resolve_left z6) (.inr ⟨b,cs',rfl,htg,qA _ _ _,by simp[hln1,hln],by rw[c1];exact hcp,hroom,fun i hi=>?_⟩)
   simp at hi
   rcases mB i l.length with hh | hh
   .rw[c2 i z6,mM hh];exact hg i hh
   .rw[mW hh]
    have:=c3 (i - l.length) _ (mh z6)
    rw[mh z6,<-this]
    congr 1;omega
 .rename_i hroom
  rw[va hi]
  rw[mc (by rw[hib];omega)]
  rw[va hi]
  have hl:=h.len
  rw[mc (by rw[hib];have:=growslice_fits (need:=s.len+s2.len) (old:=s.cap) (bytes:=bytes) z6 (by rw[hl,hln];exact hb);omega)]
  refine agE rfl (fun n=>?_)
  rw[va hi]
  refine af1 ?_
  have hcut:s.len+s2.len<=(Question.appendCap (s.len+s2.len) s.cap e).cut n:=by simp only[Question.cut];omega
  generalize (Question.appendCap (s.len+s2.len) s.cap e).cut n=N at hcut
  refine akM h hs ?_
  refine hld _ _ ?_
  rw[acv hz]
  rw[hzc]
  show∀b,ro b=none->I b=none->Q (Value.slice (some ⟨b,0,none⟩) (s.len+s2.len) N) (upd I b _)
  intro b hro hb
  refine hK ⟨some ⟨b,0,none⟩,s.len+s2.len,N⟩ (setTag tag b r) _ (fun _ _=>qd.fresh hs hro hb) (.inr ⟨b,_,rfl,by simp[setTag],qA _ _ _,by simp[hl,hln],?_,hcut,fun i hi=>?_⟩)
  .simp[Builtin.zeroCells];omega
  .simp at hi
   rw[Array.getElem?_append_left y6]
   simp
theorem afJ(r:Nat->Nat)(hs:Sep ro I)
  (hK:∀ b tag' I',ro b=none->I b=none->(∀R,qd R ro tag I tag' I')->Row tag' I' (r b) e ⟨some ⟨b,0,none⟩,cs.size,cs.size⟩ cs.toList->K b I'):nw ro I (.cells cs e) K:=by
 intro b hro hb
 exact hK b (setTag tag b (r b)) _ hro hb (fun R=>qd.fresh hs hro hb) (.inr ⟨b,_,rfl,by simp[setTag],qA _ _ _,z7,rfl,mH _,fun i hi=>by simp⟩)
def vf(c:Nat)(ro:AH)(tag:Nat->Nat)(I:AH)(tag':Nat->Nat)(I':AH):Prop:= ∃R:List Nat,(∀x∈R,x%64=c)/\qd R ro tag I tag' I'
theorem qd.c{c:Nat}(h:qd R ro tag I tag' I')(hR:∀ x∈R,x%64=c):vf c ro tag I tag' I':=⟨R,hR,h⟩
theorem vf.sep{c:Nat}(h:vf c ro tag I tag' I'):Sep ro I':=by obtain⟨_,_,h⟩:=h;exact h.sep
theorem vf.trans{c:Nat}(h:vf c ro tag I tag' I')(k:vf c ro tag' I' tag'' I''):vf c ro tag I tag'' I'':=by
 obtain⟨R,h1,h2⟩:=h
 obtain⟨R',k1,k2⟩:=k
 refine⟨R++R',fun x hx=>?_,(h2.mono fun r hr=>by simp[hr]).trans (k2.mono fun r hr=>by simp[hr])⟩
 rcases mt.1 hx with h | h
 .exact h1 x h
 .exact k1 x h
theorem vf.refl{c:Nat}(h:Sep ro I):vf c ro tag I tag I:=⟨[],z7,qd.refl h⟩
theorem Row.keepC{c:Nat}(h:Row tag I r e s l)(k:vf c ro tag I tag' I')(hr:r%64≠c:=by decide):Row tag' I' r e s l:=by
 obtain⟨R,h1,h2⟩:=k
 exact h.keep h2 fun m=>hr (h1 _ m)
theorem amR(b c:Nat):rd (join ro (one I b)) (SL.del I b) c=rd ro I c:=by
 unfold rd join one SL.del
 cases h:ro c with
 | some o=>rfl
 | none=>
  by_cases e:c=b
  .subst e;simp only[if_true];cases I c<;>rfl
  .simp[e]
theorem qU.lent(b:Nat)(h:qU ro I s l):qU (join ro (one I b)) (SL.del I b) s l:=
 ⟨h.1,h.2.1,fun p hp i v hv=>by have:=h.2.2 p hp i v hv;unfold qb at this ⊢;rw[amR];exact this⟩
theorem xw.del{c:Nat}{m:KV}(h:xw tag I r b m)(hc:tag c≠r):xw tag (SL.del I c) r b m:=by
 obtain⟨es,k,hb,hx⟩:=h.obj
 refine⟨h.tg,es,k,?_,hx⟩
 have:b≠c:=fun e=>hc (by rw[<-e];exact h.tg)
 unfold SL.del;rw[mc this];exact hb
theorem xw.back{c:Nat}{m:KV}(h:xw tag' τ r b m)(hd:qI (one I c) τ)(hb:∃ o,I c=some o):xw (setTag tag' c r') (join (one I c) τ) r b m:=by
 obtain⟨es,k,hs,hx⟩:=h.obj
 have hcb:b≠c:=fun e=>by
  obtain⟨o,ho⟩:=hb
  have:=hd c o (by unfold one;rw[me rfl];exact ho)
  rw[<-e,hs]at this;cases this
 exact⟨by unfold setTag;rw[mc hcb];exact h.tg,es,k,by unfold join one;rw[mc hcb];exact hs,hx⟩
theorem Row.stAll{c:Nat}{K:AH->Prop}(h:Row tag I r e ⟨some ⟨b,0,none⟩,n,c⟩ l)(hs:Sep ro I)(hl:vs.length=l.length)(hv:∀ v∈vs,qk v=true)
  (hK:∀ I',qd [r] ro tag I tag I'->Row tag I' r e ⟨some ⟨b,0,none⟩,n,c⟩ vs->K I'):stN ⟨b,0,none⟩ K vs 0 I:=by
 rcases h with⟨h,_⟩ | ⟨b',cs,ha,ht,hb,hln,hc,hle,hg⟩
 .cases h
 .cases ha
  refine aif vs cs 0 I hb (by simp at hln hc hle;omega) hv fun cs' c1 _ c3=>?_
  refine hK _ (yk hs ht hb) (.inr ⟨b,cs',rfl,ht,qA _ _ _,by rw[hl];exact hln,by rw[c1];exact hc,hle,fun i hi=>?_⟩)
  have:=c3 i _ (mh hi)
  rw[mh hi,<-this];congr 1;omega
end SL
namespace SL
open Go
variable{P:Program}{W:World}
def Arg(P:Program)(W:World)(H:Type)(enc:TypeId×Value->H)(t:TypeId)(cs:List Value):Prop:=
 ∃(fuel:Nat) (d:DataW H) (ps:List MemPlace),DataW.trod enc P W 0 (fun _=>true) true fuel t cs=some (d,ps)/\(d.weights P t).all (· <=reachBytes)=true
variable{H:Type}{enc:TypeId×Value->H}
theorem akb{e:TypeId}:∀ {l:List (DataW H)} {d:DataW H},d∈l->(DataW.weightsAll P e l).all (· <=reachBytes)=true->(d.weights P e).all (· <=reachBytes)=true:=by
 intro l
 induction l with
 | nil=>intro d h;cases h
 | cons x l ih=>
  intro d h hw
  rw[DataW.weightsAll,List.all_append,mv]at hw
  rcases mD.1 h with rfl | h
  .exact hw.1
  .exact ih h hw.2
theorem ajr:∀ {ts:List TypeId} {l:List (DataW H)} {i:Nat} {t:TypeId} {d:DataW H},ts[i]?=some t->l[i]?=some d->(DataW.weightsEach P ts l).all (· <=reachBytes)=true->(d.weights P t).all (· <=reachBytes)=true:=by
 intro ts
 induction ts with
 | nil=>intro l i t d h;cases h
 | cons t' ts ih=>
  intro l i t d ht hd hw
  cases l with
  | nil=>cases hd
  | cons x l=>
   rw[DataW.weightsEach,List.all_append,mv]at hw
   cases i with
   | zero=>cases ht;cases hd;exact hw.1
   | succ i=>exact ih (j1 ht) (j1 hd) hw.2
theorem Arg.u8{t:TypeId}{u:Value}(ht:P.underlying t=some (.int .u8))(h:Arg P W H enc t [u]):∃ c:UInt8,u= .int .u8 c.toNat:=by
 obtain⟨fuel,d,ps,hf,hw⟩:=h
 cases fuel with
 | zero=>cases hf
 | succ n=>
  unfold DataW.trod at hf
  rw[ht]at hf
  cases u<;>simp at hf
  rename_i k x
  obtain⟨⟨rfl,hwf⟩,_⟩:=hf
  simp[Lit.wf,IntKind.min,IntKind.max,IntKind.bits,IntKind.signed]at hwf
  refine⟨UInt8.ofNat x.toNat,?_⟩
  congr 1
  simp;omega
end SL
namespace SL
open Go Go.ChangeShapes Go.WideShapes Go.ChangeAt Go.RowKit
theorem asZ{H:Type}{enc:TypeId×Value->H}{a:Assume}{C:Checked}{os:Os}{f:FuncId}{fn:Func}{s:ChangeSpec}{conds:List PathCond}{apart fresh handsOn again:Bool}{X:World->Array Value->Prop}{F:Stop.Interp}
  (hX:∀ (w w':World) (args:Array Value),w.heap=w'.heap->X w args->X w' args)
  (own:ownKnob C.prog.godebug=none) (started:os.Started) (noInit:C.prog.inits.idxOf? f=none) (hfn:C.prog.funcs[f]?=some fn)
  (witness:∃ (w:World) (tape:Tape) (i:Input),w.os=os/\(w.forCall tape i).Shaped C.prog/\i.vars=[]/\Input.okWide C.prog (w.forCall tape i) .any w.heap.size f i/\
   (((Rows.OpenSpec.upto s).pre enc C.prog fn conds apart (w.forCall tape i).memory i.args/\X (w.forCall tape i).memory i.args)/\sizedMet enc C.prog fn (Rows.OpenSpec.upto s) apart (w.forCall tape i).memory i.args)/\a.holds C.prog (lone (Frame.enter C.prog f i.args .normal) [] (w.forCall tape i)))
  (contract:∀ (W:World) (base:Nat) (args:Array Value) (ds gs:List (DataW H)) (before:List MemPlace),
   (∀(j:Nat) t v,fn.params[j]?=some t->args[j]?=some v->Value.okWide C.prog W .any base t v)->
   DataW.Whole enc C.prog fn.params.toList s.vars apart W args.toList ds gs before->
   Rows.uptoSmall H (ds++gs)=true->
   (DataW.weightsEach C.prog (fn.params.toList++s.plain.varTypes C.prog) (ds++gs)).all (· <=reachBytes)=true->X W args->W.ShapedOpen C.prog->
   a.holds C.prog (lone (Frame.enter C.prog f args .normal) [] W)->
   Calls C.prog f args W fun e W'=> ∃v,e= .returned v/\((Rows.OpenSpec.upto s).at F).post enc C.prog fn apart fresh handsOn again W args v W'):
  ReturnsInHanded a C os f .any (fun w args=>((Rows.OpenSpec.upto s).pre enc C.prog fn conds apart w args/\X w args)/\sizedMet enc C.prog fn (Rows.OpenSpec.upto s) apart w args) (((Rows.OpenSpec.upto s).at F).post enc C.prog fn apart fresh handsOn again):=by
 refine returnsInHanded_of_calls own started noInit witness ?_
 intro w tape i _ hsh _ hok hpre hholds
 obtain⟨_,_,_,fn',hfn',_,_,_,_,hval⟩:=hok
 have e:fn'=fn:=mQ (hfn'.symm.trans hfn)
 subst e
 obtain⟨⟨hp,hx⟩,hz⟩:=hpre
 obtain⟨ds,gs,before,hw,_,hk⟩:=(OpenSpec.pre_some (s:=Rows.OpenSpec.upto s) (k:=Rows.uptoSmall) rfl conds apart _ _).1 hp
 have hw':=DataW.Whole.of_heap (w':=w.forCall tape i) (by rfl) hw
 refine(contract (w.forCall tape i) w.heap.size i.args ds gs before hval hw' hk (hz.weights hw) (hX _ _ _ (by rfl) hx) hsh hholds).mono fun e W' ⟨v,he,hp⟩=>?_
 subst he
 exact ChangeSpec.post_blind hp
theorem ap7{H:Type}{enc:TypeId×Value->H}{C:Checked}{os:Os}{f:FuncId}{fn:Func}{s:ChangeSpec}{apart:Bool}{X:World->Array Value->Prop}(w0:World)(args:Array Value)(fuel:Nat)(hos:w0.os=os)
  (hsh:(w0.forCall (fun _ _=>0) ⟨#[],args,[]⟩).Shaped C.prog)
  (hok:Input.okWideB C.prog (w0.forCall (fun _ _=>0) ⟨#[],args,[]⟩) f ⟨#[],args,[]⟩=true)
  {x:List (DataW H)×List (DataW H)×List MemPlace} (hx:DataW.whole enc C.prog (w0.forCall (fun _ _=>0) ⟨#[],args,[]⟩).memory fn.params.toList s.vars apart args.toList fuel=some x)
  (hkk:Rows.uptoSmall H (x.1++x.2.1)=true)
  (hsz:s.sizedB enc C.prog fn apart (w0.forCall (fun _ _=>0) ⟨#[],args,[]⟩).memory args fuel=true)
  (hX:X (w0.forCall (fun _ _=>0) ⟨#[],args,[]⟩).memory args):
  ∃(w:World) (tape:Tape) (i:Input),w.os=os/\(w.forCall tape i).Shaped C.prog/\i.vars=[]/\Input.okWide C.prog (w.forCall tape i) .any w.heap.size f i/\
   (((Rows.OpenSpec.upto s).pre enc C.prog fn [] apart (w.forCall tape i).memory i.args/\X (w.forCall tape i).memory i.args)/\sizedMet enc C.prog fn (Rows.OpenSpec.upto s) apart (w.forCall tape i).memory i.args)/\({}:Assume).holds C.prog (lone (Frame.enter C.prog f i.args .normal) [] (w.forCall tape i)):=
 ⟨w0,fun _ _=>0,⟨#[],args,[]⟩,hos,hsh,(Input.okWide_of_okWideB (base:=0) hok).1,(Input.okWide_of_okWideB hok).2,
  ⟨⟨(OpenSpec.pre_some (s:=Rows.OpenSpec.upto s) (k:=Rows.uptoSmall) rfl [] apart _ _).2 ⟨x.1,x.2.1,x.2.2,DataW.Whole_of_whole hx,rfl,hkk⟩,hX⟩,sizedMet_of_sizedB hsz⟩,by
  simp only[Assume.holds]
  exact⟨z7,z7,fun _=>Modest.zero,z7,z7⟩⟩
theorem ap8{H:Type}(d:DataW H):1<=Rows.uptoBulk d:=by
 cases d with
 | lit l=>cases l<;>simp[Rows.uptoBulk]
 | _=>simp[Rows.uptoBulk]
theorem amv{H:Type}:∀ (l:List (DataW H)),l.length<=Rows.uptoBulkAll l:=by
 intro l
 induction l with
 | nil=>simp[Rows.uptoBulkAll]
 | cons d l ih=>have:=ap8 d;simp[Rows.uptoBulkAll];omega
theorem aiA{H:Type}:∀ {l:List (DataW H)} {i:Nat} {d:DataW H},l[i]?=some d->Rows.uptoBulk d<=Rows.uptoBulkAll l:=by
 intro l
 induction l with
 | nil=>intro i d h;cases h
 | cons x l ih=>
  intro i d h
  cases i with
  | zero=>cases h;simp[Rows.uptoBulkAll]
  | succ i=>have:=ih (j1 h);simp only[Rows.uptoBulkAll];omega
theorem ap9{H:Type}{l:List (DataW H)}{i:Nat}{d:DataW H}(h:Rows.uptoSmall H l=true)(hi:l[i]?=some d):Rows.uptoBulk d<=1048576:=by
 unfold Rows.uptoSmall at h
 have:=aiA hi
 simp only[mV]at h
 omega