import Derived.Laws.Strings
import Derived.IntWalk
import Derived.Test.YtomdigihapdhnaaGreatDoorXA
set_option linter.all false
set_option maxRecDepth 99999
set_option maxHeartbeats 0
open Go.IntKind(i64)
namespace Go.Proofs.YtomdigihapdhnaaGreatDoor
namespace SL
open Go
variable{ops:Array Oper}{b want:Bool}{Q:Exit->Fr->AH->Prop}{K:Fr->AH->Prop}{fn:Func}{rest:List Oper}{a i id j t:Nat}{cl:Nat->Nat}{mk:Nat->Value}{ob:Obj}{c:Operand}{u x:Value}{R:Value->AH->Prop}
structure Sl where
 a:Option Addr
 len:Nat
 cap:Nat
def Sl.v(s:Sl):Value:= .slice s.a s.len s.cap
def lfpD{S:Type}(R:S->AH->(S->AH->Prop)->Prop)(s:S)(I:AH):Prop:=
 ∀X:S->AH->Prop,(∀s I Y,(∀s I,Y s I->X s I)->R s I Y->X s I)->X s I
theorem lfpD.intro{S:Type}{R:S->AH->(S->AH->Prop)->Prop}{s:S}{I:AH}(h:R s I (lfpD R)):lfpD R s I:=
 fun X hX=>hX s I (lfpD R) (fun _ _ h=>h X hX) h
section
variable{P:Program}{B:World}{ro:AH}{N:Nat}{o:Oper}{fr:Fr}{I:AH}
def qE(P:Program)(B:World)(ro:AH)(N:Nat)(ops:Array Oper)(K:Fr->AH->Prop):List Oper->Fr->AH->Prop
 | [],fr,I=>K fr I
 | o::rest,fr,I=>ve P B ro N ops o (qE P B ro N ops K rest) fr I
theorem akI:∀ (n m:Nat),m+n=ops.size->∀ {fr:Fr} {I:AH},qE P B ro N ops K (ops.toList.drop m) fr I->acR P B ro N ops K (List.range' m n) fr I:=by
 intro n
 induction n with
 | zero=>
  intro m hm fr I h
  rw[List.drop_eq_nil_of_le y6]at h
  exact h
 | succ n ih=>
  intro m hm fr I h
  have hlt:m<ops.size:=by omega
  rw[List.drop_eq_getElem_cons (j1 hlt)]at h
  simp only[List.range'_succ,acR]
  rw[Array.getElem?_eq_getElem hlt]
  dsimp only
  exact ve.mono (fun fr I h=>ih (m+1) z6 h) h
def wk(K:Fr->AH->Prop)(fr:Fr)(I:AH):Prop:= ∃fr0,qg fr0 fr/\K fr0 I
theorem AW.reg(h:qE P B ro N ops (wk (Q .normal)) ops.toList fr I):AW P B ro N (.region id ops false) Q fr I:=by
 have h':AW P B ro N (.region id ops false) (fun e=>wk (Q e)) fr I:=by
  refine AW.region ?_
  rw[List.range_eq_range']
  exact akI ops.size 0 z6 h
 intro φ w a ho hf
 refine wp_mono (h' φ w a ho hf) ?_
 rintro e a' w' ⟨fr',I',⟨fr0,h1,h2⟩,h3,h4⟩
 exact⟨fr0,I',h2,h3,h4.weaken h1⟩
theorem Ls(hg:o.guard=none)(hd:we N o.dst=true)(h:qZ P B ro o (qE P B ro N ops K rest) fr I):qE P B ro N ops K (o::rest) fr I:=by
 refine⟨hd,?_⟩;rw[hg];exact h
theorem Ly(hg:o.guard=some (j,want))(hd:we N o.dst=true)(ht:(ops[j]?).bind (·.dst)=some t)(hl:look fr t=some (.bool want))
  (h:qZ P B ro o (qE P B ro N ops K rest) fr I):qE P B ro N ops K (o::rest) fr I:=by
 refine⟨hd,?_⟩;rw[hg];exact⟨t,_,ht,hl,.inl ⟨rfl,h⟩⟩
theorem Ln{v:Value}(hg:o.guard=some (j,want))(hd:we N o.dst=true)(ht:(ops[j]?).bind (·.dst)=some t)(hl:look fr t=some v)
  (hv:v= .bool (!want)\/v=undef) (h:qE P B ro N ops K rest (qu o.dst undef fr) I):qE P B ro N ops K (o::rest) fr I:=by
 refine⟨hd,?_⟩;rw[hg]
 refine⟨t,_,ht,hl,.inr ⟨?_,h⟩⟩
 rcases hv with rfl | rfl
 .cases want<;>simp
 .simp[undef]
theorem Xp(he:qz P ro o fr u)(h:K (qu o.dst u fr) I):qZ P B ro o K fr I:=fun O hρ=>(acU _ (he O hρ)).2 h
theorem Lp(he:qz P ro o fr u)(hg:o.guard=none)(hd:we N o.dst=true)(h:qE P B ro N ops K rest (qu o.dst u fr) I):qE P B ro N ops K (o::rest) fr I:=
 Ls hg hd (Xp he h)
theorem Lyp(he:qz P ro o fr u)(hg:o.guard=some (j,want))(hd:we N o.dst=true)(ht:(ops[j]?).bind (·.dst)=some t)(hl:look fr t=some (.bool want))
  (h:qE P B ro N ops K rest (qu o.dst u fr) I):qE P B ro N ops K (o::rest) fr I:=Ly hg hd ht hl (Xp he h)
def pX:List Oper->Nat->Option Oper
 | [],_=>none
 | o::_,0=>some o
 | _::r,i+1=>pX r i
theorem aaH{o:Oper}(h:pX ops.toList i=some o):ops[i]?=some o:=by
 have gen:∀ (l:List Oper) (i:Nat),pX l i=l[i]?:=by
  intro l
  induction l with
  | nil=>intro i;simp[pX]
  | cons o r ih=>intro i;cases i with | zero=>rfl | succ i=>simpa [pX]using ih i
 rw[gen]at h;simpa using h
theorem Dp{rest:List Nat}(ho':pX ops.toList i=some o)(hc:cl i=0)(hg:o.guard=none)(hd:we N o.dst=true)(he:qz P ro o fr u)
  (h:qR P B ro N ops cl K rest (qu o.dst u fr) I):qR P B ro N ops cl K (i::rest) fr I:=by
 have ho:=aaH ho'
 unfold qR D1;rw[ho];dsimp only;rw[hc]
 exact⟨hd,u,by unfold vm;rw[hg];exact he,h⟩
theorem Dr{rest:List Nat}(ho':pX ops.toList i=some o)(hc:cl i=3)(hg:o.guard=none)(hd:we N o.dst=true)(he:jE P ro I o fr u)
  (h:qR P B ro N ops cl K rest (qu o.dst u fr) I):qR P B ro N ops cl K (i::rest) fr I:=by
 have ho:=aaH ho'
 unfold qR D1;rw[ho];dsimp only;rw[hc]
 exact⟨hd,u,by unfold vm;rw[hg];exact he,h⟩
theorem adK.of_new(he:acT P ro o fr ob mk):adK P ro o fr fun _=>(ob,mk):=by
 intro O hρ Q I
 obtain⟨k,k1,k2⟩:=he O hρ
 rw[ahz _ k1]
 exact⟨fun h n b hb hs=>(acU _ (k2 b)).1 (h b hb hs),fun h b hb hs=>(acU _ (k2 b)).2 (h 0 b hb hs)⟩
theorem Da{rest:List Nat}(ho':pX ops.toList i=some o)(hc:cl i=1)(hg:o.guard=none)(hd:we N o.dst=true)(he:acT P ro o fr ob mk)
  (h:∀ b,ro b=none->I b=none->qR P B ro N ops cl K rest (qu o.dst (mk b) fr) (upd I b ob)):qR P B ro N ops cl K (i::rest) fr I:=by
 have ho:=aaH ho'
 unfold qR D1;rw[ho];dsimp only;rw[hc]
 exact⟨hd,some _,by unfold pA;rw[hg];exact⟨_,rfl,adK.of_new he⟩,fun n b hb hs=>h b hb hs⟩
theorem Dg{rest:List Nat}(ho':pX ops.toList i=some o)(hc:cl i=2)(hg:o.guard=none)(hd:we N o.dst=true)
  (h:qZ P B ro o (qR P B ro N ops cl K rest) fr I):qR P B ro N ops cl K (i::rest) fr I:=by
 have ho:=aaH ho'
 unfold qR D1;rw[ho];dsimp only;rw[hc]
 refine⟨hd,?_⟩;rw[hg];exact h
theorem kn(I:AH):join I (fun _=>none)=I:=by
 funext b;unfold join;cases I b<;>rfl
theorem AW.drawn0(cl:Nat->Nat)(anc:List (Nat×Nat))(l:List Nat)(hm:P.follows .mixedOrders=true)
  (hc:(chk ops cl anc l && agA ops anc && anG ops.size l && (l.length == ops.size))=true)
  (h:qR P B ro N ops cl (fun fr I=> ∃fr',zz fr' fr/\Q .normal fr' I) l fr I):AW P B ro N (.region id ops true) Q fr I:=by
 have:=AW.drawn (P:=P) (B:=B) (ro:=ro) (N:=N) (ops:=ops) (id:=id) (Q:=Q) (fr:=fr) (ψ:=fun _=>none) (I:=I) cl anc l hm (fun _ _ h=>by cases h) hc (by
  rw[kn]
  refine DOps_mono ?_ l h
  rintro fr I ⟨fr',h1,h2⟩;exact⟨fr',h1,fun _=>h2⟩)
 exact this
where
 DOps_mono {ops:Array Oper} {ro:AH} {cl:Nat->Nat} {K K':Fr->AH->Prop} (h:∀ fr I,K fr I->K' fr I):∀ (l:List Nat) {fr:Fr} {I:AH},qR P B ro N ops cl K l fr I->qR P B ro N ops cl K' l fr I:=by
  intro l
  induction l with
  | nil=>intro fr I hx;exact h _ _ hx
  | cons i r ih=>
   intro fr I hx
   unfold qR D1 at hx⊢
   split at hx
   .exact hx
   .split at hx
    .obtain⟨h0,u,h1,h2⟩:=hx;exact⟨h0,u,h1,ih h2⟩
    .obtain⟨h0,u,h1,h2⟩:=hx;exact⟨h0,u,h1,ih h2⟩
    .obtain⟨h0,F,h1,h2⟩:=hx;exact⟨h0,F,h1,h2.map fun v I hk=>ih hk⟩
    .exact hx.mono fun fr I=>ih
def uS(I:AH)(K:AH->AH->Prop):Prop:= ∃ψ τ,qI ψ τ/\I=join ψ τ/\K ψ τ
theorem AW.drawnL{K:AH->AH->Prop}(cl:Nat->Nat)(anc:List (Nat×Nat))(l:List Nat)(hm:P.follows .mixedOrders=true)(hl:uS I K)
  (hc:(chk ops cl anc l && agA ops anc && anG ops.size l && (l.length == ops.size))=true)
  (h:∀ ψ τ,K ψ τ->qR P B (join ro ψ) N ops cl (fun fr I=> ∃fr',zz fr' fr/\(qI ψ I->Q .normal fr' (join ψ I))) l fr τ):AW P B ro N (.region id ops true) Q fr I:=by
 obtain⟨ψ,τ,hd,rfl,hk⟩:=hl
 exact AW.drawn cl anc l hm hd hc (h ψ τ hk)
theorem vn(h:K fr I):qR P B ro N ops cl (fun fr I=> ∃fr',zz fr' fr/\K fr' I) [] fr I:=⟨fr,zz.refl _,h⟩
theorem AW.iff{x y:Code}{p:Prop}[Decidable p]{X Y:Prop}(hc:qh fr c=some (.bool b))(hi:b=true↔p)(h:if p then X else Y)
  (ht:X->AW P B ro N x Q fr I) (hn:Y->AW P B ro N y Q fr I):AW P B ro N (.cond c x y) Q fr I:=by
 refine AW.cond hc (fun e=>ht ?_) (fun e=>hn ?_)
 .rw[me (hi.1 e)]at h;exact h
 .rw[mc (fun q=>by rw[hi.2 q]at e;cases e)]at h;exact h
theorem AW.yes{x y:Code}(hc:qh fr c=some (.bool true))(h:AW P B ro N x Q fr I):AW P B ro N (.cond c x y) Q fr I:=AW.cond hc (fun _=>h) (fun e=>by cases e)
theorem AW.no{x y:Code}(hc:qh fr c=some (.bool false))(h:AW P B ro N y Q fr I):AW P B ro N (.cond c x y) Q fr I:=AW.cond hc (fun e=>by cases e) (fun _=>h)
theorem AW.seqJ{x y:Code}(J:Fr->AH->Prop)(hy:∀ fr I,J fr I->AW P B ro N y Q fr I)(hx:AW P B ro N x (ach J Q) fr I):AW P B ro N (.seq x y) Q fr I:=by
 refine AW.seq ?_
 intro φ w a ho hf
 refine wp_mono (hx φ w a ho hf) ?_
 rintro e a' w' ⟨fr',I',hq,ho',hf'⟩
 cases e with
 | normal=>exact⟨fr',I',hy _ _ hq,ho',hf'⟩
 | _=>exact⟨fr',I',hq,ho',hf'⟩
theorem afH{α β:Type}(f:α->β)(x:α):f <$> (Sem.pure x:Sem α)=Sem.pure (f x):=rfl
theorem ar6(hr:fn.results= #[])(h:R (.tuple #[]) I):∃ v,(∀tmps:Array Value,(∀i u,look fr i=some u->tmps[i]?=some u)->qe P ro (results fn tmps) I=some v)/\R v I:=by
 refine⟨_,fun tmps ht=>?_,h⟩
 simp[results,hr,pure,bind,Sem.bind,afH,qe]
theorem ap3(hr:fn.results= #[.tmp a])(ha:look fr a=some x)(h:R x I):∃ v,(∀tmps:Array Value,(∀i u,look fr i=some u->tmps[i]?=some u)->qe P ro (results fn tmps) I=some v)/\R v I:=by
 refine⟨_,fun tmps ht=>?_,h⟩
 have:=ht a x ha
 simp[results,hr,pure,bind,Sem.bind,afH,qe,mY,this]
theorem atq{b:Nat}{y:Value}(hr:fn.results= #[.tmp a,.tmp b])(ha:look fr a=some x)(hb:look fr b=some y)(h:R (.tuple #[x,y]) I):
  ∃v,(∀tmps:Array Value,(∀i u,look fr i=some u->tmps[i]?=some u)->qe P ro (results fn tmps) I=some v)/\R v I:=by
 refine⟨_,fun tmps ht=>?_,h⟩
 have h1:=ht a x ha
 have h2:=ht b y hb
 simp[results,hr,pure,bind,Sem.bind,afH,qe,mY,h1,h2]
theorem atr{b c:Nat}{y z:Value}(hr:fn.results= #[.tmp a,.tmp b,.tmp c])(ha:look fr a=some x)(hb:look fr b=some y)(hc:look fr c=some z)(h:R (.tuple #[x,y,z]) I):
  ∃v,(∀tmps:Array Value,(∀i u,look fr i=some u->tmps[i]?=some u)->qe P ro (results fn tmps) I=some v)/\R v I:=by
 refine⟨_,fun tmps ht=>?_,h⟩
 have h1:=ht a x ha
 have h2:=ht b y hb
 have h3:=ht c z hc
 simp[results,hr,pure,bind,Sem.bind,afH,qe,mY,h1,h2,h3]
end
end SL
namespace SL
open Go
variable{α β:Type}{ars:Array Operand}{ts:Array TypeId}{a:ByteArray}{K:Fr->AH->Prop}{b:Int}{j k:IntKind}{d:TypeDesc}{t u:TypeId}
section
variable{P:Program}{B:World}{ro:AH}{N:Nat}{o:Oper}{fr:Fr}{I:AH}{x y z:Operand}{v:Value}
theorem wC(a:α)(f:α->Sem β):(Sem.pure a:Sem α).bind f=f a:=rfl
theorem qQ(a:α):(pure a:Sem α)=Sem.pure a:=rfl
theorem qy(s:Sem α)(f:α->Sem β):(s >>= f)=s.bind f:=rfl
theorem jF(f:Program->Sem β):Sem.bind program f=Sem.program fun p=>f p:=rfl
theorem qG(t:TypeId)(f:TypeDesc->Sem β)(h:P.underlying t=some d){τ:AH}:qe P ro (Sem.bind (underlying t) f) τ=qe P ro (f d) τ:=by
 unfold underlying
 simp only[qy,jF]
 show qe P ro (Sem.bind (match P.underlying t with | some d=>pure d | none=>stuck "no such type") f) τ=_
 rw[h];try rfl
theorem ul{s:Sem Value}{u:Value}(h:∀ O,vr O fr->execOp O o=(do pure (.value (<-s))))(hs:qe P ro s (fun _=>none)=some u):qz P ro o fr u:=by
 intro O hρ
 rw[h O hρ]
 exact aread_bind s hs
where
 aread_bind (s:Sem Value) {u:Value} (hs:qe P ro s (fun _=>none)=some u):qe P ro (s.bind fun v=>Sem.pure (Next.value v)) (fun _=>none)=some (.value u):=by
  induction s with
  | pure a=>cases hs;rfl
  | load m a k ih=>
   simp only[qe]at hs
   simp only[Sem.bind,qe]
   split at hs
   .rename_i v hv;exact ih _ hs
   .cases hs
  | program k ih=>exact ih _ hs
  | mark m k ih=>exact ih hs
  | _=>cases hs
theorem X_sem{s:Sem Value}(h:∀ O,vr O fr->execOp O o=(do pure (.value (<-s))))(hs:awp P ro s (fun v I=>K (qu o.dst v fr) I) I):qZ P B ro o K fr I:=by
 intro O hρ
 rw[h O hρ,vC]
 exact qj _ hs fun _ _ h=>h
theorem X_semU{s:Sem Unit}(h:∀ O,vr O fr->execOp O o=(do s;pure .skip))(hs:awp P ro s (fun _ I=>K (qu o.dst undef fr) I) I):qZ P B ro o K fr I:=by
 intro O hρ
 rw[h O hρ,vC]
 exact qj _ hs fun _ _ h=>h
theorem zZ(ho:o.op= .move x)(hx:qh fr x=some v):qz P ro o fr v:=by
 intro O hρ;unfold execOp;rw[ho];simp only[hρ _ _ hx];rfl
theorem agB(ho:o.op= .assign x)(hx:qh fr x=some v):qz P ro o fr v:=by
 intro O hρ;unfold execOp;rw[ho];simp only[hρ _ _ hx];rfl
theorem anH{vs:Array Value}{i:Nat}(ho:o.op= .extract x i)(hx:qh fr x=some (.tuple vs))(hv:vs[i]?=some v):qz P ro o fr v:=by
 refine ul (s:=Instr.extract (.tuple vs) i) (fun O hρ=>?_) (by unfold Instr.extract;simp only[hv];rfl)
 unfold execOp;rw[ho];simp only[hρ _ _ hx]
theorem adq{op:BinOp}{a:Int}(ho:o.op= .binOp op t x y u)(hx:qh fr x=some (.int k a))(hy:qh fr y=some (.int k b))(hs:qe P ro (Go.binOp op t (.int k a) (.int k b)) (fun _=>none)=some v):qz P ro o fr v:=by
 refine ul (s:=do eqGuard op t x y (.int k a) (.int k b);Go.binOp op t (.int k a) (.int k b)) (fun O hρ=>?_) ?_
 .unfold execOp;rw[ho];simp only[hρ _ _ hx,hρ _ _ hy]
 .unfold eqGuard;cases op<;>exact hs
theorem aly{a:Int}(ho:o.op= .binOp .lss t x y u)(hx:qh fr x=some (.int k a))(hy:qh fr y=some (.int k b)):qz P ro o fr (.bool (decide (a<b))):=adq ho hx hy (by simp[Go.binOp,Op.intCmp,qQ,qe])
theorem alz{a:Int}(ho:o.op= .binOp .leq t x y u)(hx:qh fr x=some (.int k a))(hy:qh fr y=some (.int k b)):qz P ro o fr (.bool (decide (a<=b))):=adq ho hx hy (by simp[Go.binOp,Op.intCmp,qQ,qe])
theorem aeI{a:Int}(ho:o.op= .binOp .gtr t x y u)(hx:qh fr x=some (.int k a))(hy:qh fr y=some (.int k b)):qz P ro o fr (.bool (decide (b<a))):=adq ho hx hy (by simp[Go.binOp,Op.intCmp,qQ,qe])
theorem anI{a:Int}(ho:o.op= .binOp .geq t x y u)(hx:qh fr x=some (.int k a))(hy:qh fr y=some (.int k b)):qz P ro o fr (.bool (decide (b<=a))):=adq ho hx hy (by simp[Go.binOp,Op.intCmp,qQ,qe])
theorem alA{a:Int}(ho:o.op= .binOp .eql t x y u)(hx:qh fr x=some (.int k a))(hy:qh fr y=some (.int k b)):qz P ro o fr (.bool (decide (a=b))):=adq ho hx hy (by simp[Go.binOp,Op.intCmp,qQ,qe];rfl)
theorem anJ{a:Int}(ho:o.op= .binOp .neq t x y u)(hx:qh fr x=some (.int k a))(hy:qh fr y=some (.int k b)):qz P ro o fr (.bool (!decide (a=b))):=adq ho hx hy (by simp[Go.binOp,Op.intCmp,qQ,qe];rfl)
theorem anK{a:Int}(ho:o.op= .binOp .add t x y u)(hx:qh fr x=some (.int k a))(hy:qh fr y=some (.int k b)):qz P ro o fr (.int k (k.wrap (a+b))):=adq ho hx hy (by simp[Go.binOp,Op.intArith,qQ,qe])
theorem ajf{a:Int}(ho:o.op= .binOp .sub t x y u)(hx:qh fr x=some (.int k a))(hy:qh fr y=some (.int k b)):qz P ro o fr (.int k (k.wrap (a - b))):=adq ho hx hy (by simp[Go.binOp,Op.intArith,qQ,qe])
theorem anL{a:Int}(ho:o.op= .binOp .mul t x y u)(hx:qh fr x=some (.int k a))(hy:qh fr y=some (.int k b)):qz P ro o fr (.int k (k.wrap (a*b))):=adq ho hx hy (by simp[Go.binOp,Op.intArith,qQ,qe])
theorem asS{a:Int}(ho:o.op= .binOp .quo t x y u)(hx:qh fr x=some (.int k a))(hy:qh fr y=some (.int k b))(hb:b≠0):qz P ro o fr (.int k (k.wrap (a.tdiv b))):=adq ho hx hy (by simp[Go.binOp,Op.intDiv,qQ,qe,hb])
theorem asT{a:Int}(ho:o.op= .binOp .rem t x y u)(hx:qh fr x=some (.int k a))(hy:qh fr y=some (.int k b))(hb:b≠0):qz P ro o fr (.int k (a.tmod b)):=adq ho hx hy (by simp[Go.binOp,Op.intDiv,qQ,qe,hb])
def abk(k:IntKind)(a b:Int):Int:=k.wrap (BitVec.ofInt k.bits a &&& BitVec.ofInt k.bits b).toNat
def uT(k:IntKind)(a b:Int):Int:=k.wrap (BitVec.ofInt k.bits a ||| BitVec.ofInt k.bits b).toNat
theorem asU{a:Int}(ho:o.op= .binOp .and t x y u)(hx:qh fr x=some (.int k a))(hy:qh fr y=some (.int k b)):qz P ro o fr (.int k (abk k a b)):=adq ho hx hy (by simp[Go.binOp,Op.intBits,qQ,qe,abk])
theorem ar7{a:Int}(ho:o.op= .binOp .or t x y u)(hx:qh fr x=some (.int k a))(hy:qh fr y=some (.int k b)):qz P ro o fr (.int k (uT k a b)):=adq ho hx hy (by simp[Go.binOp,Op.intBits,qQ,qe,uT])
theorem binShift{op:BinOp}(hop:op= .shl\/op= .shr){a:Int}(ho:o.op= .binOp op t x y u)(hx:qh fr x=some (.int k a))(hy:qh fr y=some (.int j b))(hs:qe P ro (Op.shift op k a j b) (fun _=>none)=some v):qz P ro o fr v:=by
 refine ul (s:=do eqGuard op t x y (.int k a) (.int j b);Go.binOp op t (.int k a) (.int j b)) (fun O hρ=>?_) ?_
 .unfold execOp;rw[ho];simp only[hρ _ _ hx,hρ _ _ hy]
 .rcases hop with rfl | rfl<;>exact hs
theorem asV{a:Int}(ho:o.op= .binOp .shl t x y u)(hx:qh fr x=some (.int k a))(hy:qh fr y=some (.int j b))(hb:0<=b):qz P ro o fr (.int k (k.wrap (a*2 ^ (min b.toNat k.bits)))):=
 binShift (.inl rfl) ho hx hy (by unfold Op.shift;rw[mc z6];try rfl)
theorem asW{a:Int}(ho:o.op= .binOp .shr t x y u)(hx:qh fr x=some (.int k a))(hy:qh fr y=some (.int j b))(hb:0<=b):qz P ro o fr (.int k (a.fdiv (2 ^ (min b.toNat k.bits)))):=
 binShift (.inr rfl) ho hx hy (by unfold Op.shift;rw[mc z6];try rfl)
theorem unS{op:UnOp}(ho:o.op= .unOp op t x)(hx:qh fr x=some v){u:Value}(hs:qe P ro (Op.unary op v) (fun _=>none)=some u):qz P ro o fr u:=by
 refine ul (s:=Op.unary op v) (fun O hρ=>?_) hs
 unfold execOp;rw[ho];simp only[hρ _ _ hx]
theorem alB{b:Bool}(ho:o.op= .unOp .not t x)(hx:qh fr x=some (.bool b)):qz P ro o fr (.bool (!b)):=unS ho hx rfl
theorem alC{s:TypeId}{a:Int}(ho:o.op= .convert s t x)(hx:qh fr x=some (.int j a))(hs:P.underlying s=some d)(ht:P.underlying t=some (.int k)):qz P ro o fr (.int k (k.wrap a)):=by
 refine ul (s:=convert s t (.int j a)) (fun O hρ=>?_) ?_
 .unfold execOp;rw[ho];simp only[hρ _ _ hx]
 .unfold convert;show qe P ro (Sem.bind (underlying s) _) _=_;rw[qG _ _ hs];show qe P ro (Sem.bind (underlying t) _) _=_;rw[qG _ _ ht];cases d<;>rfl
theorem qT{u:Value}(ho:o.op= .pick x y z)(hx:qh fr x=some (.bool true))(hy:qh fr y=some u):qz P ro o fr u:=by
 intro O hρ;unfold execOp;rw[ho];simp only[hρ _ _ hx,hρ _ _ hy];rfl
theorem wL{u:Value}(ho:o.op= .pick x y z)(hx:qh fr x=some (.bool false))(hz:qh fr z=some u):qz P ro o fr u:=by
 intro O hρ;unfold execOp;rw[ho];simp only[hρ _ _ hx,hρ _ _ hz];rfl
theorem anM{b:ByteArray}(h:a.toList=b.toList):a=b:=by
 rw[ByteArray.toList_eq,ByteArray.toList_eq]at h
 exact ByteArray.ext (Array.toList_inj.1 h)
theorem aid{op:BinOp}{b:ByteArray}(ho:o.op= .binOp op t x y u)(hx:qh fr x=some (.string a))(hy:qh fr y=some (.string b))(hop:op≠ .shl/\op≠ .shr)(hs:qe P ro (Op.stringOp op a b) (fun _=>none)=some v):qz P ro o fr v:=by
 refine ul (s:=do eqGuard op t x y (.string a) (.string b);Go.binOp op t (.string a) (.string b)) (fun O hρ=>?_) ?_
 .unfold execOp;rw[ho];simp only[hρ _ _ hx,hρ _ _ hy]
 .unfold eqGuard;cases op<;>first | exact hs | exact mC rfl hop.1 | exact mC rfl hop.2
theorem eqS{b:ByteArray}:(a.toList == b.toList)=decide (a=b):=by
 by_cases h:a=b
 .subst h;simp
 .rw[mL h]
  cases e:(a.toList == b.toList)with
  | false=>rfl
  | true=>exact mC (anM (j1 e)) h
theorem alO{b:ByteArray}(ho:o.op= .binOp .eql t x y u)(hx:qh fr x=some (.string a))(hy:qh fr y=some (.string b)):qz P ro o fr (.bool (decide (a=b))):=aid ho hx hy z7 (by simp only[Op.stringOp,eqS];rfl)
theorem ajg{b:ByteArray}(ho:o.op= .binOp .neq t x y u)(hx:qh fr x=some (.string a))(hy:qh fr y=some (.string b)):qz P ro o fr (.bool (!decide (a=b))):=aid ho hx hy z7 (by simp only[Op.stringOp,eqS];rfl)
def zD(a b:ByteArray):Bool:=Op.bytesLess a.toList b.toList
theorem alP{b:ByteArray}(ho:o.op= .binOp .lss t x y u)(hx:qh fr x=some (.string a))(hy:qh fr y=some (.string b)):qz P ro o fr (.bool (zD a b)):=aid ho hx hy z7 rfl
theorem ajh{b:ByteArray}(ho:o.op= .binOp .leq t x y u)(hx:qh fr x=some (.string a))(hy:qh fr y=some (.string b)):qz P ro o fr (.bool (zD a b || decide (a=b))):=aid ho hx hy z7 (by simp only[Op.stringOp,eqS];rfl)
theorem ar8{b:ByteArray}(ho:o.op= .binOp .gtr t x y u)(hx:qh fr x=some (.string a))(hy:qh fr y=some (.string b)):qz P ro o fr (.bool (!(zD a b || decide (a=b)))):=aid ho hx hy z7 (by simp only[Op.stringOp,eqS];rfl)
theorem aeJ{b:ByteArray}(ho:o.op= .binOp .add t x y u)(hx:qh fr x=some (.string a))(hy:qh fr y=some (.string b))(h:a.size+b.size<=9223372036854775807):qz P ro o fr (.string (a++b)):=
 aid ho hx hy z7 (by unfold Op.stringOp;dsimp only;rw[mc (by simp only[IntKind.max,IntKind.signed,IntKind.bits,if_true];omega)];rfl)
theorem jG(ho:o.op= .call {callee:= .builtin .len,args:=ars,argTypes:=ts})(ht:ts[0]?=some t)(hu:P.underlying t=some .string)(ha:ars= #[x])(hx:qh fr x=some (.string a)):qz P ro o fr (.int .i64 a.size):=by
 refine ul (s:=Builtin.len_ ts o.type #[.string a]) (fun O hρ=>?_) ?_
 .unfold execOp;rw[ho];subst ha;simp[resolve,invoke,builtin,hρ _ _ hx,qQ,qy,wC]
 .unfold Builtin.len_;simp only[ht,qy];rw[show(#[Value.string a]:Array Value)[0]?=some (.string a)from rfl];dsimp only;rw[qG _ _ hu];try rfl
theorem qD{e:TypeId}{a:Option Addr}{n c:Nat}(ho:o.op= .call {callee:= .builtin .len,args:=ars,argTypes:=ts})(ht:ts[0]?=some t)(hu:P.underlying t=some (.slice e))(ha:ars= #[x])(hx:qh fr x=some (.slice a n c)):qz P ro o fr (.int .i64 n):=by
 refine ul (s:=Builtin.len_ ts o.type #[.slice a n c]) (fun O hρ=>?_) ?_
 .unfold execOp;rw[ho];subst ha;simp[resolve,invoke,builtin,hρ _ _ hx,qQ,qy,wC]
 .unfold Builtin.len_;simp only[ht,qy];rw[show(#[Value.slice a n c]:Array Value)[0]?=some (.slice a n c)from rfl];dsimp only;rw[qG _ _ hu];try rfl
theorem aji{i:Int}{b:UInt8}(ho:o.op= .index t x y)(hu:P.underlying t=some .string)(hx:qh fr x=some (.string a))(hy:qh fr y=some (.int k i))(h0:0<=i)(hb:a[i.toNat]?=some b):qz P ro o fr (.int .u8 b.toNat):=by
 refine ul (s:=Instr.index t (.string a) (.int k i)) (fun O hρ=>?_) ?_
 .unfold execOp;rw[ho];simp only[hρ _ _ hx,hρ _ _ hy]
 .unfold Instr.index
  show qe P ro (Sem.bind (underlying t) _) _=_
  rw[qG _ _ hu]
  dsimp only
  rw[me h0,hb];try rfl
end
end SL
namespace SL
open Go
variable{β:Type}{τ:AH}{a:Addr}{ars:Array Operand}{ts:Array TypeId}{K:Fr->AH->Prop}{fn:Func}{f:FuncId}{i n:Int}{vs:List Value}{b s:Nat}{mk:Nat->Value}{ob:Obj}{d:TypeDesc}{e t:TypeId}{u zero zv:Value}
section
variable{P:Program}{B:World}{ro:AH}{N:Nat}{o:Oper}{fr:Fr}{I:AH}{x y z:Operand}{v:Value}
theorem ahd(t:TypeId)(f:TypeInfo->Sem β){d:TypeInfo}(h:P.info? t=some d):qe P ro (Sem.bind (typeInfo t) f) τ=qe P ro (f d) τ:=by
 unfold typeInfo
 simp only[qy,jF]
 show qe P ro (Sem.bind (match P.info? t with | some i=>pure i | none=>stuck "no such type") f) τ=_
 rw[h];try rfl
theorem qF{f:TypeDesc->Sem β}(h:P.underlying t=some d){Q:β->AH->Prop}:awp P ro (Sem.bind (underlying t) f) Q I↔awp P ro (f d) Q I:=by
 unfold underlying
 simp only[qy,jF]
 show awp P ro (Sem.bind (match P.underlying t with | some d=>pure d | none=>stuck "no such type") f) Q I↔_
 rw[h];try rfl
theorem va{f:TypeInfo->Sem β}{d:TypeInfo}(h:P.info? t=some d){Q:β->AH->Prop}:awp P ro (Sem.bind (typeInfo t) f) Q I↔awp P ro (f d) Q I:=by
 unfold typeInfo
 simp only[qy,jF]
 show awp P ro (Sem.bind (match P.info? t with | some i=>pure i | none=>stuck "no such type") f) Q I↔_
 rw[h];try rfl
def ql(P:Program)(t:TypeId)(zero:Value)(size bytes:Nat):Prop:= ∃i,P.info? t=some i/\i.zero=some zero/\i.size=size/\i.bytes=bytes
theorem ql.of{size bytes:Nat}(h:(P.info? t).map (fun i=>(i.zero,i.size,i.bytes))=some (some zero,size,bytes)):ql P t zero size bytes:=by
 cases e:P.info? t with
 | none=>rw[e]at h;cases h
 | some i=>rw[e]at h;simp at h;exact⟨i,e,h.1,h.2.1,h.2.2⟩
theorem acv(h:ql P t zv s b){f:Value->Sem β}{Q:β->AH->Prop}:awp P ro (Sem.bind (zeroValue t) f) Q I↔awp P ro (f zv) Q I:=by
 obtain⟨i,h1,h2,_,_⟩:=h
 unfold zeroValue
 show awp P ro (Sem.bind (Sem.bind (typeInfo t) _) f) Q I↔_
 rw[show∀(g:TypeInfo->Sem Value),Sem.bind (Sem.bind (typeInfo t) g) f=Sem.bind (typeInfo t) fun i=>Sem.bind (g i) f from fun g=>bind_assoc' _ _ _]
 rw[va h1,h2];try rfl
where
 bind_assoc' {α β γ:Type} (s:Sem α) (f:α->Sem β) (g:β->Sem γ):Sem.bind (Sem.bind s f) g=Sem.bind s fun a=>Sem.bind (f a) g:=by
  induction s with
  | pure a=>rfl
  | load m a k ih=>simp only[Sem.bind];congr;funext v;exact ih v
  | store m a v k ih=>simp only[Sem.bind];congr
  | new o k ih=>simp only[Sem.bind];congr;funext v;exact ih v
  | shape r k ih=>simp only[Sem.bind];congr;funext v;exact ih v
  | freeze a n k ih=>simp only[Sem.bind];congr
  | frozen a k ih=>simp only[Sem.bind];congr;funext v;exact ih v
  | getObj r k ih=>simp only[Sem.bind];congr;funext v;exact ih v
  | setObj r o k ih=>simp only[Sem.bind];congr
  | choose q k ih=>simp only[Sem.bind];congr;funext v;exact ih v
  | sys c k ih=>simp only[Sem.bind];congr;funext v;exact ih v
  | program k ih=>simp only[Sem.bind];congr;funext v;exact ih v
  | mark m k ih=>simp only[Sem.bind];congr
  | halt e=>rfl
theorem bind_assoc'{α γ:Type}(s:Sem α)(f:α->Sem β)(g:β->Sem γ):Sem.bind (Sem.bind s f) g=Sem.bind s fun a=>Sem.bind (f a) g:=acv.bind_assoc' s f g
theorem adr(h:ql P t zv s b){f:Nat->Sem β}{Q:β->AH->Prop}:awp P ro (Sem.bind (sizeOf t) f) Q I↔awp P ro (f s) Q I:=by
 obtain⟨i,h1,_,h3,_⟩:=h
 unfold sizeOf
 show awp P ro (Sem.bind (Sem.bind (typeInfo t) _) f) Q I↔_
 rw[bind_assoc',va h1,<-h3];try rfl
theorem uV(h:ql P t zv s b){f:Nat->Sem β}:qe P ro (Sem.bind (sizeOf t) f) τ=qe P ro (f s) τ:=by
 obtain⟨i,h1,_,h3,_⟩:=h
 unfold sizeOf
 show qe P ro (Sem.bind (Sem.bind (typeInfo t) _) f) τ=_
 rw[bind_assoc',ahd _ _ h1,<-h3];try rfl
theorem anN(h:ql P t zv s b){f:Value->Sem β}:qe P ro (Sem.bind (zeroValue t) f) τ=qe P ro (f zv) τ:=by
 obtain⟨i,h1,h2,_,_⟩:=h
 unfold zeroValue
 show qe P ro (Sem.bind (Sem.bind (typeInfo t) _) f) τ=_
 rw[bind_assoc',ahd _ _ h1,h2];try rfl
def pK:TypeDesc->Bool
 | .struct _=>true
 | .array _ _=>true
 | _=>false
theorem akJ(h:P.underlying t=some d){f:Bool->Sem β}{Q:β->AH->Prop}:awp P ro (Sem.bind (isAgg t) f) Q I↔awp P ro (f (pK d)) Q I:=by
 unfold isAgg
 show awp P ro (Sem.bind (Sem.bind (underlying t) _) f) Q I↔_
 rw[bind_assoc',qF h];cases d<;>rfl
theorem pY(h:P.underlying t=some d){f:Bool->Sem β}:qe P ro (Sem.bind (isAgg t) f) τ=qe P ro (f (pK d)) τ:=by
 unfold isAgg
 show qe P ro (Sem.bind (Sem.bind (underlying t) _) f) τ=_
 rw[bind_assoc',qG _ _ h];cases d<;>rfl
@[simp] theorem uW(a:Addr):a.add 0=a:=rfl
@[simp] theorem vg(b i n:Nat):(⟨b,i,none⟩:Addr).add n=⟨b,i+n,none⟩:=by
 unfold Addr.add;by_cases h:n=0<;>simp[h]
theorem qC(ho:o.op= .nilCheck x)(hx:qh fr x=some (.pointer (some a))):qz P ro o fr (.pointer (some a)):=by
 intro O hρ;unfold execOp;rw[ho];simp only[hρ _ _ hx];rfl
theorem qK{s:TypeId}{f:Nat}{fs:Array Field}{fd:Field}{n:Nat}(ho:o.op= .fieldAddr s x f)(hs:P.underlying s=some (.struct fs))(hf:fs[f]?=some fd)(hz:ql P fd.type zv n b)(hn:n≠0)
  (hx:qh fr x=some (.pointer (some a))):qz P ro o fr (.pointer (some (a.add fd.offset))):=by
 refine ul (s:=Instr.fieldAt s (.pointer (some a)) f) (fun O hρ=>?_) ?_
 .unfold execOp;rw[ho];simp only[hρ _ _ hx]
 .unfold Instr.fieldAt
  show qe P ro (Sem.bind (underlying s) _) _=_
  rw[qG _ _ hs];dsimp only;rw[hf];dsimp only[Instr.sureAddr]
  show qe P ro (Sem.bind (fieldPlace a fd) _) _=_
  unfold fieldPlace
  show qe P ro (Sem.bind (Sem.bind (sizeOf fd.type) _) _) _=_
  rw[bind_assoc',uV hz,mc hn];try rfl
theorem wR{n c:Nat}{k:IntKind}(ho:o.op= .indexAddr t x y)(ht:P.underlying t=some (.slice e))(hz:ql P e zv s b)
  (hx:qh fr x=some (.slice (some a) n c)) (hy:qh fr y=some (.int k i)) (h0:0<=i) (h1:i<n):qz P ro o fr (.pointer (some (a.add (i.toNat*s)))):=by
 refine ul (s:=Instr.indexAt t (.slice (some a) n c) (.int k i)) (fun O hρ=>?_) ?_
 .unfold execOp;rw[ho];simp only[hρ _ _ hx,hρ _ _ hy]
 .unfold Instr.indexAt
  show qe P ro (Sem.bind (underlying t) _) _=_
  rw[qG _ _ ht]
  simp only[qy,qQ,wC]
  rw[qG _ _ ht,me ⟨h0,h1⟩,uV hz];try rfl
theorem ar9(ht:P.underlying t=some d)(hd:pK d=false){Q:Value->AH->Prop}:awp P ro (loadVar t a) Q I↔∃ v,qb ro I a=some v/\Q v I:=by
 unfold loadVar
 show awp P ro (Sem.bind (isAgg t) _) Q I↔_
 rw[akJ ht,hd];try rfl
theorem wU(ho:o.op= .load t x)(ht:P.underlying t=some d)(hd:pK d=false)(hx:qh fr x=some (.pointer (some a)))(hc:qb ro I a=some v)(h:K (qu o.dst v fr) I):qZ P B ro o K fr I:=by
 refine X_sem (s:=loadVar t a) (fun O hρ=>?_) ((ar9 ht hd).2 ⟨v,hc,h⟩)
 unfold execOp;rw[ho];simp only[hρ _ _ hx];rfl
theorem ats(ho:o.op= .load t x)(ht:P.underlying t=some d)(hd:pK d=false)(hx:qh fr x=some (.pointer (some a)))(hc:qb ro (fun _=>none) a=some v):qz P ro o fr v:=by
 refine ul (s:=loadVar t a) (fun O hρ=>?_) ?_
 .unfold execOp;rw[ho];simp only[hρ _ _ hx];rfl
 .unfold loadVar
  show qe P ro (Sem.bind (isAgg t) _) _=_
  rw[pY ht,hd]
  show qe P ro (Sem.load .plain a .pure) _=_
  simp only[qe,hc]
def qB(ro I:AH)(a:Addr):Nat->List Value->Prop
 | _,[]=>True
 | i,v::r=>qb ro I (a.add i)=some v/\qB ro I a (i+1) r
theorem xX{Q:Array Value->AH->Prop}:∀ (vs:List Value) (i:Nat) (acc:Array Value),qB ro I a i vs->Q (acc++vs.toArray) I->awp P ro (loadCellsFrom a i vs.length acc) Q I:=by
 intro vs
 induction vs with
 | nil=>intro i acc _ h;show Q acc I;simpa using h
 | cons v r ih=>
  intro i acc hc h
  obtain⟨h1,h2⟩:=hc
  show awp P ro (Sem.bind (load (a.add i)) _) Q I
  refine⟨v,h1,?_⟩
  exact ih (i+1) (acc.push v) h2 (j1 h)
theorem acV:∀ (vs:List Value) (i:Nat) (acc:Array Value),qB ro I a i vs->qe P ro (loadCellsFrom a i vs.length acc) I=some (acc++vs.toArray):=by
 intro vs
 induction vs with
 | nil=>intro i acc _;show some acc=_;simp
 | cons v r ih=>
  intro i acc hc
  obtain⟨h1,h2⟩:=hc
  show qe P ro (Sem.load .plain (a.add i) _) I=_
  simp only[qe,h1]
  refine(ih (i+1) (acc.push v) h2).trans ?_
  simp
theorem jz(ho:o.op= .load t x)(ht:P.underlying t=some d)(hd:pK d=true)(hz:ql P t zv vs.length b)(hx:qh fr x=some (.pointer (some a)))
  (hc:qB ro I a 0 vs) (h:K (qu o.dst (.agg vs.toArray) fr) I):qZ P B ro o K fr I:=by
 refine X_sem (s:=loadVar t a) (fun O hρ=>?_) ?_
 .unfold execOp;rw[ho];simp only[hρ _ _ hx];rfl
 .unfold loadVar
  show awp P ro (Sem.bind (isAgg t) _) _ I
  rw[akJ ht,hd]
  show awp P ro (Sem.bind (sizeOf t) _) _ I
  rw[adr hz]
  show awp P ro (Sem.bind (loadCellsFrom a 0 vs.length #[]) _) _ I
  refine(vC _ _).2 (xX vs 0 #[] hc ?_)
  show K (qu o.dst (.agg (#[]++vs.toArray)) fr) I
  simpa using h
theorem anO(ho:o.op= .load t x)(ht:P.underlying t=some d)(hd:pK d=true)(hz:ql P t zv vs.length b)(hx:qh fr x=some (.pointer (some a)))
  (hc:qB ro (fun _=>none) a 0 vs):qz P ro o fr (.agg vs.toArray):=by
 refine ul (s:=loadVar t a) (fun O hρ=>?_) ?_
 .unfold execOp;rw[ho];simp only[hρ _ _ hx];rfl
 .unfold loadVar
  show qe P ro (Sem.bind (isAgg t) _) _=_
  rw[pY ht,hd]
  show qe P ro (Sem.bind (sizeOf t) _) _=_
  rw[uV hz]
  have:=acV (P:=P) vs 0 #[] hc
  show qe P ro (Sem.bind (loadCellsFrom a 0 vs.length #[]) fun cs=>Sem.pure (Value.agg cs)) _=_
  generalize loadCellsFrom a 0 vs.length #[]=s at this
  have gen:∀ (s:Sem (Array Value)) {w:Array Value},qe P ro s (fun _=>none)=some w->qe P ro (Sem.bind s fun cs=>Sem.pure (Value.agg cs)) (fun _=>none)=some (.agg w):=by
   intro s
   induction s with
   | pure a=>intro w h;cases h;rfl
   | load m a k ih=>
    intro w h
    simp only[qe]at h
    simp only[Sem.bind,qe]
    split at h
    .exact ih _ h
    .cases h
   | program k ih=>intro w h;exact ih _ h
   | mark m k ih=>intro w h;exact ih h
   | _=>intro w h;cases h
  have:=gen s this
  simpa using this
def st1(I:AH)(a:Addr)(v:Value)(K:AH->Prop):Prop:=a.spot=none/\∃ c e fz,I a.block=some (.cells c e fz)/\a.off<c.size/\¬ (fz.1<=a.off/\a.off<fz.2)/\K (upd I a.block (.cells (c.setIfInBounds a.off v) e fz))
def stN(a:Addr)(K:AH->Prop):List Value->Nat->AH->Prop
 | [],_,I=>K I
 | v::r,i,I=>qk v=true/\st1 I (a.add i) v (stN a K r (i+1))
theorem uu{Q:Unit->AH->Prop}:∀ (vs:List Value) (i:Nat) (I:AH),stN a (Q ()) vs i I->awp P ro (storeCells a vs i) Q I:=by
 intro vs
 induction vs with
 | nil=>intro i I h;exact h
 | cons v r ih=>
  intro i I h
  obtain⟨h0,h1,c,e,fz,h2,h3,h4,h5⟩:=h
  unfold storeCells
  exact⟨h0,h1,c,e,fz,h2,h3,h4,ih (i+1) _ h5⟩
theorem aeh{n:Nat}(ho:o.op= .store t x y)(hz:ql P t zv n b)(hx:qh fr x=some (.pointer (some a)))(hy:qh fr y=some v)(hv:v.cells.toList=vs)(hn:vs.length=n)
  (h:stN a (fun I=>K (qu o.dst undef fr) I) vs 0 I):qZ P B ro o K fr I:=by
 refine X_semU (s:=storeVar t a v) (fun O hρ=>?_) ?_
 .unfold execOp;rw[ho];simp only[hρ _ _ hx,hρ _ _ hy];rfl
 .unfold storeVar
  show awp P ro (Sem.bind (sizeOf t) _) _ I
  rw[adr hz,mc (by subst hv;subst hn;simp)]
  rw[hv]
  exact uu vs 0 I h
theorem agC(he:acT P ro o fr ob mk)(h:∀ b,ro b=none->I b=none->K (qu o.dst (mk b) fr) (upd I b ob)):qZ P B ro o K fr I:=by
 intro O hρ
 obtain⟨k,k1,k2⟩:=he O hρ
 exact(ahz _ k1).2 fun b hb hs=>(acU _ (k2 b)).2 (h b hb hs)
def ja(P:Program):Sem Value->Option (Obj×(Nat->Sem Value))
 | .new o k=>some (o,k)
 | .program k=>ja P (k P)
 | .mark _ k=>ja P k
 | _=>none
theorem ad2{s:Sem Value}(h:∀ O,vr O fr->execOp O o=(do pure (.value (<-s))))(hs:∃ k,ja P s=some (ob,k)/\∀ b,k b=Sem.pure (mk b)):acT P ro o fr ob mk:=by
 intro O hρ
 rw[h O hρ]
 obtain⟨k,h1,h2⟩:=hs
 exact⟨fun b=>(k b).bind fun v=>Sem.pure (.value v),go s h1,fun b=>by dsimp only;rw[h2];try rfl⟩
where
 go (s:Sem Value) {ob:Obj} {k:Nat->Sem Value} (h:ja P s=some (ob,k)):aic P (s.bind fun v=>Sem.pure (.value v))=some (ob,fun b=>(k b).bind fun v=>Sem.pure (.value v)):=by
  induction s with
  | new o k' ih=>simp only[ja,Option.some.injEq,Prod.mk.injEq]at h;obtain⟨rfl,rfl⟩:=h;rfl
  | program k' ih=>exact ih _ h
  | mark m k' ih=>exact ih h
  | _=>cases h
theorem ahC(h:ql P t zv s b){f:Value->Sem Value}:ja P (Sem.bind (zeroValue t) f)=ja P (f zv):=by
 obtain⟨i,h1,h2,_,_⟩:=h
 unfold zeroValue typeInfo
 simp only[qy,jF,bind_assoc']
 show ja P (Sem.bind (match P.info? t with | some i=>pure i | none=>stuck "no such type") _)=_
 rw[h1];simp only[qQ,wC];rw[h2];try rfl
theorem ajj(h:P.underlying t=some d){f:TypeDesc->Sem Value}:ja P (Sem.bind (underlying t) f)=ja P (f d):=by
 unfold underlying
 simp only[qy,jF]
 show ja P (Sem.bind (match P.underlying t with | some d=>pure d | none=>stuck "no such type") f)=_
 rw[h];try rfl
theorem akK{d:TypeInfo}(h:P.info? t=some d){f:TypeInfo->Sem Value}:ja P (Sem.bind (typeInfo t) f)=ja P (f d):=by
 unfold typeInfo
 simp only[qy,jF]
 show ja P (Sem.bind (match P.info? t with | some d=>pure d | none=>stuck "no such type") f)=_
 rw[h];try rfl
theorem akL(h:ql P t zv s b){f:Nat->Sem Value}:ja P (Sem.bind (sizeOf t) f)=ja P (f s):=by
 obtain⟨i,h1,_,h3,_⟩:=h
 unfold sizeOf
 show ja P (Sem.bind (Sem.bind (typeInfo t) _) f)=_
 rw[bind_assoc',akK h1,<-h3];try rfl
theorem vw{n:Nat}(ho:o.op= .alloc e)(hz:ql P e zv n b):acT P ro o fr (.cells zv.cells e) (fun b=> .pointer (some ⟨b,0,none⟩)):=by
 refine ad2 (s:=Instr.alloc e true (.tuple #[])) (fun O hρ=>?_) ⟨fun b=>Sem.pure (.pointer (some ⟨b,0,none⟩)),?_,fun b=>?_⟩
 .unfold execOp;rw[ho]
 .unfold Instr.alloc
  show ja P (Sem.bind (zeroValue e) _)=_
  rw[ahC hz];try rfl
 .rfl
theorem wY(ho:o.op= .box e x)(hx:qh fr x=some u):acT P ro o fr (.cells u.cells e) (fun b=> .pointer (some ⟨b,0,none⟩)):=by
 refine ad2 (s:=Instr.box e u) (fun O hρ=>?_) ⟨fun b=>Sem.pure (.pointer (some ⟨b,0,none⟩)),?_,fun b=>?_⟩
 .unfold execOp;rw[ho];simp only[hρ _ _ hx]
 .rfl
 .rfl
theorem ad3(ho:o.op= .makeMap t none):acT P ro o fr (.map #[] 0) (fun b=> .map (some b)):=by
 refine ad2 (s:=Instr.makeMap t none) (fun O hρ=>?_) ⟨fun b=>Sem.pure (.map (some b)),?_,fun b=>?_⟩
 .unfold execOp;rw[ho];try rfl
 .rfl
 .rfl
def aci(zv:Value)(n:Nat):Array Value:=((List.range n).map (zv.cells[· %zv.cells.size]!)).toArray
theorem alQ(zv:Value)(n:Nat):(Array.range n).map (zv.cells[· %zv.cells.size]!)=aci zv n:=by
 apply Array.toList_inj.1
 simp[aci]
theorem qM(h0: -9223372036854775808<=n)(h1:n<9223372036854775808):i64.wrap n=n:=by
 rw[IntKind.wrap_i64];omega
theorem asX{c:Int}(ho:o.op= .makeSlice t x y)(ht:P.underlying t=some (.slice e))(hz:ql P e zv s b)(hx:qh fr x=some (.int .i64 n))(hy:qh fr y=some (.int .i64 c))
  (h0:0<=n) (h1:n<=c) (h2:c<=281474976710656) (h3:b*c<=281474976710656):acT P ro o fr (.cells (aci zv (c.toNat*s)) e) (fun b=> .slice (some ⟨b,0,none⟩) n.toNat c.toNat):=by
 have wn:i64.wrap n=n:=qM z6 z6
 have wc:i64.wrap c=c:=qM z6 z6
 refine ad2 (s:=Instr.makeSlice t (.int .i64 n) (.int .i64 c)) (fun O hρ=>?_) ⟨fun b=>Sem.pure (.slice (some ⟨b,0,none⟩) n.toNat c.toNat),?_,fun b=>?_⟩
 .unfold execOp;rw[ho];simp only[hρ _ _ hx,hρ _ _ hy]
 .unfold Instr.makeSlice
  show ja P (Sem.bind (underlying t) _)=_
  rw[ajj ht]
  obtain⟨i,i1,i2,i3,i4⟩:=hz
  show ja P (Sem.bind (typeInfo e) _)=_
  rw[akK i1]
  dsimp only
  rw[wn,wc,i4]
  rw[mc (by
   simp only[Bool.or_eq_true,mV]
   omega)]
  show ja P (Sem.bind (askRoom _) _)=_
  have hroom:∀ (m:Nat) (f:Unit->Sem Value),ja P (Sem.bind (askRoom m) f)=ja P (f ()):=by
   intro m f;unfold askRoom;split<;>rfl
  rw[hroom]
  have hz':ql P e zv s b:=⟨i,i1,i2,i3,i4⟩
  show ja P (Sem.bind (sizeOf e) _)=_
  rw[akL hz']
  by_cases hc:c.toNat*s=0
  .simp only[hc,if_true]
   show ja P (Sem.bind (Sem.pure #[]) _)=_
   simp[aci,newRow,newObj,qy,Sem.bind,ja,qQ]
  .simp only[mc hc]
   show ja P (Sem.bind (zeroValue e) _)=_
   rw[ahC hz']
   show some (Obj.cells ((Array.range (c.toNat*s)).map (zv.cells[· %zv.cells.size]!)) e,_)=_
   rw[alQ]
   try rfl
 .rfl
def yJ(fr:Fr):List Operand->Option (List Value)
 | []=>some []
 | x::r=>match qh fr x,yJ fr r with
  | some v,some vs=>some (v::vs)
  | _,_=>none
theorem ab6{O:Operand->Value}(hρ:vr O fr):∀ (l:List Operand) {vs:List Value},yJ fr l=some vs->l.map O=vs:=by
 intro l
 induction l with
 | nil=>intro vs h;cases h;rfl
 | cons x r ih=>
  intro vs h
  unfold yJ at h
  split at h
  .rename_i v vs' h1 h2
   cases h
   rw[nx,hρ _ _ h1,ih h2]
  .cases h
theorem aj8{args:Array Value}{Q:Next->AH->Prop}(hf:P.funcs[f]?=some fn)(hn:(fn.name == "runtime.NumGoroutine")=false)(hb:fn.body.isNone=false)(h:Q (.enter f args) I):awp P ro (callFunc f args) Q I:=by
 unfold callFunc
 show awp P ro (Sem.bind program _) Q I
 rw[jF]
 show awp P ro (match P.funcs[f]? with | none=>_ | some fn=>_) Q I
 rw[hf];dsimp only
 rw[hn,hb]
 exact h
theorem wu(ho:o.op= .call {callee:= .value (.func f),args:=ars,argTypes:=ts})(hf:P.funcs[f]?=some fn)(hn:(fn.name == "runtime.NumGoroutine")=false)(hb:fn.body.isNone=false)
  (ha:yJ fr ars.toList=some vs) (h:qc P B ro f vs.toArray I fun v I=>K (qu o.dst v fr) I):qZ P B ro o K fr I:=by
 intro O hρ
 have hm:=ab6 hρ _ ha
 have hfun:O (.func f)= .func (.func f) #[] #[]:=hρ _ _ rfl
 have e:execOp O o=callFunc f vs.toArray:=by
  unfold execOp;rw[ho]
  simp only[resolve,hfun,Deferred.ofValue,qQ,qy,wC,invoke]
  congr 1
  have:ars.map O=vs.toArray:=Array.toList_inj.1 (by rw[Array.toList_map,hm])
  rw[this];simp
 rw[e]
 exact aj8 hf hn hb h
theorem yt{b:Builtin}{s:Sem Value}(ho:o.op= .call {callee:= .builtin b,args:=ars,argTypes:=ts})(ha:yJ fr ars.toList=some vs)(hb:∀ cs,builtin b ts o.type cs vs.toArray=(do pure (.value (<-s))))
  (h:awp P ro s (fun v I=>K (qu o.dst v fr) I) I):qZ P B ro o K fr I:=by
 refine X_sem (s:=s) (fun O hρ=>?_) h
 have hm:=ab6 hρ _ ha
 have:ars.map O=vs.toArray:=Array.toList_inj.1 (by rw[Array.toList_map,hm])
 unfold execOp;rw[ho]
 simp only[resolve,qQ,qy,wC,invoke,this,hb]
end
end SL
namespace SL
open Go
section
variable{P:Program}{B:World}{ro:AH}{N:Nat}{o:Oper}{fr:Fr}{I:AH}{x y z:Operand}{v:Value}
def aiP(fr:Fr):Option Operand->Option Int->Prop
 | none,none=>True
 | some x,some i=> ∃k,qh fr x=some (.int k i)
 | _,_=>False
theorem afY{k:IntKind}{i:Int}{y:Nat}{c:BoundsCode}{β:Type}{f:Nat->Sem β}{τ:AH}(h0:0<=i)(h1:i<=y):qe P ro (Sem.bind (Instr.sliceBound (.int k i) y c) f) τ=qe P ro (f i.toNat) τ:=by
 unfold Instr.sliceBound
 show qe P ro (Sem.bind (if 0<=i/\i<=y then pure i.toNat else _) f) τ=_
 rw[me ⟨h0,h1⟩];try rfl
def ajk(lo:Option Int):Nat:=match lo with | some i=>i.toNat | none=>0
def cutHi(hi:Option Int)(len:Nat):Nat:=match hi with | some i=>i.toNat | none=>len
def cutOk(lo hi:Option Int)(len cap:Nat):Prop:=(match hi with | some i=>0<=i/\i<=cap | none=>True)/\(match lo with | some i=>0<=i/\i<=(cutHi hi len:Int) | none=>True)
theorem adM{O:Operand->Value}(hρ:vr O fr){a:Option Operand}{i:Option Int}(h:aiP fr a i):(a=none/\i=none)\/∃ k j,i=some j/\a.map O=some (.int k j):=by
 cases a with
 | none=>cases i with
  | none=>exact .inl ⟨rfl,rfl⟩
  | some j=>exact h.elim
 | some x=>cases i with
  | none=>exact h.elim
  | some j=>obtain⟨k,hk⟩:=h;exact .inr ⟨k,j,rfl,by simp[hρ _ _ hk]⟩
theorem ahD{β:Type}{lo hi:Option Int}{a b:Option Operand}{O:Operand->Value}(ha:(a=none/\lo=none)\/∃ k j,lo=some j/\a.map O=some (.int k j))(hb:(b=none/\hi=none)\/∃ k j,hi=some j/\b.map O=some (.int k j)){len cap:Nat}{isS:Bool}
  (h:cutOk lo hi len cap) {f:Nat×Nat×Nat->Sem β} {τ:AH}:qe P ro (Sem.bind (Instr.sliceBounds isS len cap (a.map O) (b.map O) none) f) τ=qe P ro (f (ajk lo,cutHi hi len,cap)) τ:=by
 obtain⟨h1,h2⟩:=h
 unfold Instr.sliceBounds
 simp only[qy,qQ,wC,bind_assoc']
 rcases hb with⟨rfl,rfl⟩ | ⟨k,j,rfl,hb⟩
 .simp only[Option.map_none,wC]
  rcases ha with⟨rfl,rfl⟩ | ⟨k,j,rfl,ha⟩
  .rfl
  .rw[ha];dsimp only at h2⊢
   simp only[bind_assoc']
   rw[afY h2.1 (by simpa [cutHi]using h2.2)];try rfl
 .rw[hb];dsimp only at h1⊢
  simp only[bind_assoc']
  rw[afY h1.1 h1.2]
  rcases ha with⟨rfl,rfl⟩ | ⟨k,j,rfl,ha⟩
  .rfl
  .rw[ha];dsimp only at h2⊢
   simp only[bind_assoc']
   rw[afY h2.1 (by simpa [cutHi]using h2.2)];try rfl
theorem ajl{t:TypeId}{a b:Option Operand}{lo hi:Option Int}{s:ByteArray}(ho:o.op= .slice t x a b none)(ht:P.underlying t=some .string)(hx:qh fr x=some (.string s))(ha:aiP fr a lo)(hb:aiP fr b hi)(h:cutOk lo hi s.size s.size):
  qz P ro o fr (.string (s.extract (ajk lo) (cutHi hi s.size))):=by
 intro O hρ
 have e:execOp O o=(do pure (.value (<-Instr.sliceAt t (.string s) (a.map O) (b.map O) none))):=by unfold execOp;rw[ho];simp only[hρ _ _ hx];rfl
 rw[e]
 show qe P ro (Sem.bind (Instr.sliceAt t (.string s) (a.map O) (b.map O) none) _) _=_
 unfold Instr.sliceAt
 simp only[qy,bind_assoc']
 rw[qG _ _ ht];dsimp only
 unfold Instr.slice
 simp only[qy,bind_assoc']
 rw[qG _ _ ht];dsimp only
 simp only[Option.isSome_none,Bool.false_eq_true,if_false,bind_assoc',qQ,wC]
 rw[ahD (adM hρ ha) (adM hρ hb) h];try rfl
def wH(a:Option Addr)(lo cap s:Nat):Option Addr:=if cap=lo then a else a.map (·.add (lo*s))
theorem abI{t e:TypeId}{a b:Option Operand}{lo hi:Option Int}{ad:Option Addr}{n c:Nat}{zv:Value}{s bt:Nat}(ho:o.op= .slice t x a b none)(ht:P.underlying t=some (.slice e))(hz:ql P e zv s bt)(hx:qh fr x=some (.slice ad n c))(ha:aiP fr a lo)(hb:aiP fr b hi)(h:cutOk lo hi n c):
  qz P ro o fr (.slice (wH ad (ajk lo) c s) (cutHi hi n - ajk lo) (c - ajk lo)):=by
 intro O hρ
 have e':execOp O o=(do pure (.value (<-Instr.sliceAt t (.slice ad n c) (a.map O) (b.map O) none))):=by unfold execOp;rw[ho];simp only[hρ _ _ hx];rfl
 rw[e']
 show qe P ro (Sem.bind (Instr.sliceAt t (.slice ad n c) (a.map O) (b.map O) none) _) _=_
 unfold Instr.sliceAt
 simp only[qy,bind_assoc']
 rw[qG _ _ ht];dsimp only
 unfold Instr.slice
 simp only[qy,bind_assoc']
 rw[qG _ _ ht];dsimp only
 simp only[bind_assoc',qQ,wC]
 rw[ahD (adM hρ ha) (adM hρ hb) h]
 dsimp only
 rw[uV hz];try rfl
theorem vD:aiP fr none none:=trivial
theorem wK{k:IntKind}{i:Int}(h:qh fr x=some (.int k i)):aiP fr (some x) (some i):=⟨k,h⟩
def wF(P:Program):List Field->List (Nat×Nat)->Prop
 | [],[]=>True
 | f::r,p::q=>(p.1=f.offset/\∃ zv b,ql P f.type zv p.2 b)/\wF P r q
 | _,_=>False
theorem alR{β:Type}{fs:Array Field}{pl:List (Nat×Nat)}(h:wF P fs.toList pl){f:Array (Nat×Nat)->Sem β}{τ:AH}:qe P ro (Sem.bind (fs.mapM fun fd=>do pure (fd.offset,<-sizeOf fd.type)) f) τ=qe P ro (f pl.toArray) τ:=by
 rw[Array.mapM_eq_mapM_toList]
 show qe P ro (Sem.bind (List.toArray <$> _) f) τ=_
 have gen:∀ (l:List Field) (pl:List (Nat×Nat)) {γ:Type} (g:List (Nat×Nat)->Sem γ),wF P l pl->qe P ro (Sem.bind (l.mapM fun fd=>do pure (fd.offset,<-sizeOf fd.type)) g) τ=qe P ro (g pl) τ:=by
  intro l
  induction l with
  | nil=>
   intro pl γ g h
   cases pl with
   | nil=>rfl
   | cons p q=>exact h.elim
  | cons fd r ih=>
   intro pl γ g h
   cases pl with
   | nil=>exact h.elim
   | cons p q=>
    obtain⟨⟨h1,zv,b,h2⟩,h3⟩:=h
    rw[List.mapM_cons]
    show qe P ro (Sem.bind (Sem.bind (Sem.bind (sizeOf fd.type) _) _) g) τ=_
    rw[bind_assoc',bind_assoc',uV h2]
    simp only[qQ,wC,bind_assoc',qy]
    show qe P ro (Sem.bind (r.mapM fun fd=>do pure (fd.offset,<-sizeOf fd.type)) _) τ=_
    rw[ih q _ h3]
    have:(fd.offset,p.2)=p:=by rw[<-h1]
    simp only[this]
 have map_bind:∀ (s:Sem (List (Nat×Nat))),Sem.bind (List.toArray <$> s) f=Sem.bind s fun l=>f l.toArray:=by
  intro s
  show Sem.bind (Sem.bind s _) f=_
  rw[bind_assoc'];try rfl
 rw[map_bind,gen _ _ _ h]
def acM(fr:Fr):List (Nat×Operand)->Option (List (Nat×Value))
 | []=>some []
 | (i,x)::r=>match qh fr x,acM fr r with
  | some v,some vs=>some ((i,v)::vs)
  | _,_=>none
theorem ahe{O:Operand->Value}(hρ:vr O fr){ps:Array (Nat×Operand)}{vs:List (Nat×Value)}(h:acM fr ps.toList=some vs):(ps.map fun(i,x)=>(i,O x)).toList=vs:=by
 have gen:∀ (l:List (Nat×Operand)) {vs:List (Nat×Value)},acM fr l=some vs->l.map (fun(i,x)=>(i,O x))=vs:=by
  intro l
  induction l with
  | nil=>intro vs h;cases h;rfl
  | cons p r ih=>
   intro vs h
   obtain⟨i,x⟩:=p
   unfold acM at h
   split at h
   .rename_i v vs' h1 h2
    cases h
    rw[nx,ih h2]
    simp only[hρ _ _ h1]
   .cases h
 rw[Array.toList_map];exact gen _ h
theorem wD{t:TypeId}{fs:Array Field}{pl:List (Nat×Nat)}{zv:Value}{n b:Nat}{parts:Array (Nat×Operand)}{vs:List (Nat×Value)}{cs:Array Value}(ho:o.op= .build t parts)(ht:P.underlying t=some (.struct fs))(hz:ql P t zv n b)(hp:wF P fs.toList pl)
  (hv':acM fr parts.toList=some vs) (hf:Instr.fill (fun i=>pl.toArray[i]?) zv.cells vs=some cs):qz P ro o fr (.agg cs):=by
 have hv:∀ O,vr O fr->(parts.map fun(i,x)=>(i,O x)).toList=vs:=fun O hρ=>ahe hρ hv'
 intro O hρ
 have e:execOp O o=(do pure (.value (<-Instr.build t (parts.map fun(i,x)=>(i,O x))))):=by unfold execOp;rw[ho]
 rw[e]
 show qe P ro (Sem.bind (Instr.build t _) _) _=_
 unfold Instr.build
 simp only[qy,bind_assoc']
 rw[anN hz,qG _ _ ht]
 dsimp only
 simp only[bind_assoc']
 refine(alR hp).trans ?_
 rw[hv O hρ]
 simp only[hf];rfl
theorem wS{t e:TypeId}{len:Nat}{zv:Value}{s b:Nat}{parts:Array (Nat×Operand)}{vs:List (Nat×Value)}{cs:Array Value}(ho:o.op= .buildSlice t len parts)(ht:P.underlying t=some (.slice e))(hs:ql P e zv s b)(hlen:len*s<=16777216)
  (hv':acM fr parts.toList=some vs) (hf:Instr.fill (fun i=>some (i*s,s)) (aci zv (len*s)) vs=some cs):acT P ro o fr (.cells cs e) (fun b=> .slice (some ⟨b,0,none⟩) len len):=by
 have hv:∀ O,vr O fr->(parts.map fun(i,x)=>(i,O x)).toList=vs:=fun O hρ=>ahe hρ hv'
 intro O hρ
 have e':execOp O o=(do pure (.value (<-Instr.buildSlice t len (parts.map fun(i,x)=>(i,O x))))):=by unfold execOp;rw[ho]
 rw[e']
 have hn:ja P (Instr.buildSlice t len (parts.map fun(i,x)=>(i,O x)))=some (.cells cs e,fun b=>Sem.pure (.slice (some ⟨b,0,none⟩) len len)):=by
  unfold Instr.buildSlice
  simp only[qy]
  rw[ajj ht]
  dsimp only
  try simp only[qy]
  rw[akL hs]
  rw[mc z6]
  by_cases hc:len*s=0
  .rw[me hc]
   try simp only[qQ,wC]
   rw[hv O hρ]
   have:Instr.fill (fun i=>some (i*s,s)) ((Array.range (len*s)).map fun i=>(#[]:Array Value)[i%(#[]:Array Value).size]!) vs=some cs:=by
    rw[<-hf];congr 1
    simp[aci,hc]
   simp only[this];rfl
  .rw[mc hc]
   simp only[qQ,wC]
   rw[ahC hs]
   try simp only[wC]
   rw[hv O hρ]
   have:Instr.fill (fun i=>some (i*s,s)) ((Array.range (len*s)).map fun i=>zv.cells[i%zv.cells.size]!) vs=some cs:=by rw[alQ];exact hf
   simp only[this];rfl
 exact⟨_,ad2.go _ hn,fun b=>rfl⟩
theorem aq2{fn:Fn}{first cap:Array Operand}{fs cs:List Value}(ho:o.op= .makeFunc fn first cap)(hf':yJ fr first.toList=some fs)(hc':yJ fr cap.toList=some cs):qz P ro o fr (.func fn fs.toArray cs.toArray):=by
 intro O hρ
 have hf:first.map O=fs.toArray:=Array.toList_inj.1 (by rw[Array.toList_map,ab6 hρ _ hf'])
 have hc:cap.map O=cs.toArray:=Array.toList_inj.1 (by rw[Array.toList_map,ab6 hρ _ hc'])
 unfold execOp;rw[ho];simp only[hf,hc];rfl
theorem ahE(t:TypeId)(a b:Value):Op.equal t a b=Op.equalIn (9999+1) t a b:=rfl
theorem aq3{t u:TypeId}{a b:Value}(ho:o.op= .binOp .eql t x y u)(hx:qh fr x=some a)(hy:qh fr y=some b){r:Bool}(hg:eqGuard .eql t x y a b=pure ())(hb:Go.binOp .eql t a b=(do pure (.bool (<-Op.equal t a b))))
  (hr:∀ τ,qe P ro (Op.equalIn (9999+1) t a b) τ=some r):qz P ro o fr (.bool r):=by
 refine ul (s:=do eqGuard .eql t x y a b;Go.binOp .eql t a b) (fun O hρ=>?_) ?_
 .unfold execOp;rw[ho];simp only[hρ _ _ hx,hρ _ _ hy]
 .rw[hg,hb,ahE]
  have:=hr (fun _=>none)
  generalize Op.equalIn (9999+1) t a b=s at this
  show qe P ro (Sem.bind s fun b=>Sem.pure (Value.bool b)) _=_
  exact gen s this
where
 gen (s:Sem Bool) {w:Bool} (h:qe P ro s (fun _=>none)=some w):qe P ro (Sem.bind s fun b=>Sem.pure (Value.bool b)) (fun _=>none)=some (.bool w):=by
  induction s with
  | pure a=>cases h;rfl
  | load m a k ih=>
   simp only[qe]at h
   simp only[Sem.bind,qe]
   split at h
   .exact ih _ h
   .cases h
  | program k ih=>exact ih _ h
  | mark m k ih=>exact ih h
  | _=>cases h
theorem asY{t u:TypeId}{a b:Value}(ho:o.op= .binOp .neq t x y u)(hx:qh fr x=some a)(hy:qh fr y=some b){r:Bool}(hg:eqGuard .neq t x y a b=pure ())(hb:Go.binOp .neq t a b=(do pure (.bool (!(<-Op.equal t a b)))))
  (hr:∀ τ,qe P ro (Op.equalIn (9999+1) t a b) τ=some r):qz P ro o fr (.bool (!r)):=by
 refine ul (s:=do eqGuard .neq t x y a b;Go.binOp .neq t a b) (fun O hρ=>?_) ?_
 .unfold execOp;rw[ho];simp only[hρ _ _ hx,hρ _ _ hy]
 .rw[hg,hb,ahE]
  have:=hr (fun _=>none)
  generalize Op.equalIn (9999+1) t a b=s at this
  show qe P ro (Sem.bind s fun b=>Sem.pure (Value.bool !b)) _=_
  exact gen s this
where
 gen (s:Sem Bool) {w:Bool} (h:qe P ro s (fun _=>none)=some w):qe P ro (Sem.bind s fun b=>Sem.pure (Value.bool !b)) (fun _=>none)=some (.bool !w):=by
  induction s with
  | pure a=>cases h;rfl
  | load m a k ih=>
   simp only[qe]at h
   simp only[Sem.bind,qe]
   split at h
   .exact ih _ h
   .cases h
  | program k ih=>exact ih _ h
  | mark m k ih=>exact ih h
  | _=>cases h
theorem amP{t e:TypeId}{p:Option Addr}{τ:AH}(ht:P.underlying t=some (.pointer e)):qe P ro (Op.equalIn (9999+1) t (.pointer p) (.pointer none)) τ=some p.isNone:=by
 unfold Op.equalIn
 show qe P ro (Sem.bind (underlying t) _) _=_
 rw[qG _ _ ht];cases p<;>rfl
theorem asa{t e:TypeId}{a:Option Addr}{n c:Nat}{τ:AH}(ht:P.underlying t=some (.slice e)):qe P ro (Op.equalIn (9999+1) t (.slice a n c) (.slice none 0 0)) τ=some a.isNone:=by
 unfold Op.equalIn
 show qe P ro (Sem.bind (underlying t) _) _=_
 rw[qG _ _ ht];cases a<;>rfl
theorem afI{t u e:TypeId}{p:Option Addr}(ho:o.op= .binOp .eql t x y u)(ht:P.underlying t=some (.pointer e))(hx:qh fr x=some (.pointer p))(hy:qh fr y=some (.pointer none)):qz P ro o fr (.bool p.isNone):=aq3 ho hx hy rfl (by cases p<;>rfl) fun _=>amP ht
theorem aq4{t u e:TypeId}{p:Option Addr}(ho:o.op= .binOp .neq t x y u)(ht:P.underlying t=some (.pointer e))(hx:qh fr x=some (.pointer p))(hy:qh fr y=some (.pointer none)):qz P ro o fr (.bool (!p.isNone)):=asY ho hx hy rfl (by cases p<;>rfl) fun _=>amP ht
theorem anP{t u e:TypeId}{a:Option Addr}{n c:Nat}(ho:o.op= .binOp .eql t x y u)(ht:P.underlying t=some (.slice e))(hx:qh fr x=some (.slice a n c))(hy:qh fr y=some (.slice none 0 0)):qz P ro o fr (.bool a.isNone):=aq3 ho hx hy rfl rfl fun _=>asa ht
theorem aq5{b:Builtin}{ars:Array Operand}{ts:Array TypeId}{vs:List Value}{s:Sem Value}(ho:o.op= .call {callee:= .builtin b,args:=ars,argTypes:=ts})(ha:yJ fr ars.toList=some vs)(hb:∀ cs,builtin b ts o.type cs vs.toArray=(do pure (.value (<-s))))
  (hs:qe P ro s (fun _=>none)=some v):qz P ro o fr v:=by
 refine ul (s:=s) (fun O hρ=>?_) hs
 have hm:=ab6 hρ _ ha
 have:ars.map O=vs.toArray:=Array.toList_inj.1 (by rw[Array.toList_map,hm])
 unfold execOp;rw[ho]
 simp only[resolve,qQ,qy,wC,invoke,this,hb]
theorem aoF{ars:Array Operand}{ts:Array TypeId}{k:IntKind}{a b:Int}(ho:o.op= .call {callee:= .builtin .min,args:=ars,argTypes:=ts})(ha:yJ fr ars.toList=some [.int k a,.int k b]):qz P ro o fr (.int k (if b<a then b else a)):=
 aq5 ho ha (fun _=>rfl) rfl
theorem asb{ars:Array Operand}{ts:Array TypeId}{k:IntKind}{a b:Int}(ho:o.op= .call {callee:= .builtin .max,args:=ars,argTypes:=ts})(ha:yJ fr ars.toList=some [.int k a,.int k b]):qz P ro o fr (.int k (if a<b then b else a)):=
 aq5 ho ha (fun _=>rfl) rfl
def nw(ro I:AH)(ob:Obj)(K:Nat->AH->Prop):Prop:= ∀b,ro b=none->I b=none->K b (upd I b ob)
theorem pZ{a:Addr}{K K':AH->Prop}:∀ {vs:List Value} {i:Nat} {I:AH},stN a K vs i I->(∀I,K I->K' I)->stN a K' vs i I:=by
 intro vs
 induction vs with
 | nil=>intro i I h hk;exact hk _ h
 | cons v r ih=>
  intro i I h hk
  obtain⟨h0,h1,c,e,fz,h2,h3,h4,h5⟩:=h
  exact⟨h0,h1,c,e,fz,h2,h3,h4,ih h5 hk⟩
theorem abl{ops:Array Oper}{K:Fr->AH->Prop}(h:K fr I):qE P B ro N ops (wk K) [] fr I:=⟨fr,qg.refl _,h⟩
theorem abJ{next:Fr->AH->Prop}{Q:Exit->Fr->AH->Prop}(h:next fr I):ach next Q .normal fr I:=h
theorem ajm{next:Fr->AH->Prop}{Q:Exit->Fr->AH->Prop}{id:Nat}(h:Q (.exit id) fr I):ach next Q (.exit id) fr I:=h
theorem ajn{next:Fr->AH->Prop}{Q:Exit->Fr->AH->Prop}(h:Q .ret fr I):ach next Q .ret fr I:=h
theorem ae3{Q:Exit->Fr->AH->Prop}{id:Nat}(h:Q .normal fr I):adY id Q .normal fr I:=h
theorem qN{Q:Exit->Fr->AH->Prop}{id:Nat}(h:Q .normal fr I):adY id Q (.exit id) fr I:=by
 show(if id=id then Q .normal fr I else Q (.exit id) fr I);rw[me rfl];exact h
theorem asc{Q:Exit->Fr->AH->Prop}{id id':Nat}(hne:(id' == id)=false)(h:Q (.exit id') fr I):adY id Q (.exit id') fr I:=by
 show(if id'=id then Q .normal fr I else Q (.exit id') fr I);rw[mc (j1 hne)];exact h
theorem ahF{Q:Exit->Fr->AH->Prop}{id:Nat}(h:Q .ret fr I):adY id Q .ret fr I:=h
theorem Lyb{ops:Array Oper}{K:Fr->AH->Prop}{rest:List Oper}{j t:Nat}{want b:Bool}(hg:o.guard=some (j,want))(hd:we N o.dst=true)(ht:(ops[j]?).bind (·.dst)=some t)(hl:look fr t=some (.bool b))(e:b=want)
  (h:qZ P B ro o (qE P B ro N ops K rest) fr I):qE P B ro N ops K (o::rest) fr I:=Ly hg hd ht (by rw[hl,e]) h
theorem qn{ops:Array Oper}{K:Fr->AH->Prop}{l:List Oper}(m:Nat)(b:Bool){p:Prop}[Decidable p]{X Y:Prop}(hi:b=true↔p)(h:if p then X else Y)(J:Fr->AH->Prop)
  (hy:X->b=true->(∀fr I,J fr I->qE P B ro N ops K (l.drop m) fr I)->qE P B ro N ops K l fr I) (hn:Y->b=false->(∀fr I,J fr I->qE P B ro N ops K (l.drop m) fr I)->qE P B ro N ops K l fr I)
  (hk:∀ fr I,J fr I->qE P B ro N ops K (l.drop m) fr I):qE P B ro N ops K l fr I:=by
 cases e:b with
 | true=>rw[me (hi.1 e)]at h;exact hy h e hk
 | false=>rw[mc (fun q=>by rw[hi.2 q]at e;cases e)]at h;exact hn h e hk
theorem qx{ops:Array Oper}{K:Fr->AH->Prop}{l:List Oper}(m:Nat)(b:Bool)(F:Fr)
  (hy:b=true->(∀fr,qg F fr->qE P B ro N ops K (l.drop m) fr I)->qE P B ro N ops K l fr I) (hn:b=false->(∀fr,qg F fr->qE P B ro N ops K (l.drop m) fr I)->qE P B ro N ops K l fr I)
  (hk:∀ fr,qg F fr->qE P B ro N ops K (l.drop m) fr I):qE P B ro N ops K l fr I:=by
 cases e:b with
 | true=>exact hy e hk
 | false=>exact hn e hk
theorem Lweak{ops:Array Oper}{K:Fr->AH->Prop}(hK:∀ {fr fr':Fr} {I:AH},qg fr fr'->K fr I->K fr' I):∀ {l:List Oper} {fr fr':Fr} {I:AH},qg fr fr'->qE P B ro N ops K l fr I->qE P B ro N ops K l fr' I:=by
 intro l
 induction l with
 | nil=>intro fr fr' I hl h;exact hK hl h
 | cons o r ih=>
  intro fr fr' I hl h
  have put:∀ (d:Option Tmp) (v:Value),qg (qu d v fr) (qu d v fr'):=by
   intro d v
   cases d with
   | none=>exact hl
   | some d=>
    intro i u hi
    rw[agy]at hi⊢
    by_cases e:i=d
    .rw[me e]at hi ⊢;exact hi
    .rw[mc e]at hi ⊢;exact hl i u hi
  have ag:∀ {O},vr O fr'->vr O fr:=by
   intro O hρ x v hx
   refine hρ x v ?_
   cases x<;>first | exact hl _ _ hx | exact hx
  have ex:qZ P B ro o (qE P B ro N ops K r) fr I->qZ P B ro o (qE P B ro N ops K r) fr' I:=by
   intro hx O hρ
   refine qj _ (hx O (ag hρ)) ?_
   intro n I' hn
   cases n<;>first | exact ih (put _ _) hn | exact qc.mono hn fun v I h=>ih (put _ _) h | exact hn
  obtain⟨h0,h⟩:=h
  refine⟨h0,?_⟩
  split at h
  .exact ex h
  .obtain⟨t,v,h1,h2,h3⟩:=h
   exact⟨t,v,h1,hl _ _ h2,h3.imp (fun⟨a,b⟩=>⟨a,ex b⟩) (fun⟨a,b⟩=>⟨a,ih (put _ _) b⟩)⟩
theorem qp{b:Bool}{p:Prop}(h:b=true↔p):(!b)=true↔¬ p:=by
 cases b<;>simp at h⊢ <;>simp[h]
theorem xv{a b:Bool}{p q:Prop}(h:a=true↔p)(k:b=true↔q):(a && b)=true↔(p/\q):=by
 rw[mv,h,k]
theorem qJ{a b:Bool}{p q:Prop}(h:a=true↔p)(k:b=true↔q):(a || b)=true↔(p\/q):=by
 rw[Bool.or_eq_true,h,k]
theorem vP{α:Type}{a:Option α}:a.isNone=true↔a=none:=by cases a<;>simp
end