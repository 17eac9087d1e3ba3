import Derived.Laws.Strings
import Derived.IntWalk
import Derived.WalkKit
import Derived.ProofKit
import Derived.OpenShut
import Derived.ShutString
import Derived.ChangeOld
import Derived.Below
import Derived.SizedLaws
import Derived.Carry
import Derived.Deep.Slices
import Derived.DataReads
import Derived.Test.YtomdigihapdhnaaGreatDoorXA
set_option linter.all false
set_option maxRecDepth 99999
set_option maxHeartbeats 0
open Go.IntKind(i64)
namespace Go.Proofs.YtomdigihapdhnaaGreatDoor
namespace SL
open Go
variable{ops:Array Oper}{b want:Bool}{Q:Exit->Fr->AH->Prop}{K:Fr->AH->Prop}{fn:Func}{rest:List Oper}{a i id j t:Nat}{cl:Nat->Nat}{mk:Nat->Value}{ob:Obj}{c:Operand}{u x:Value}{R:Value->AH->Prop}
structure Sl where
 a:Option Addr
 len:Nat
 cap:Nat
def Sl.v(s:Sl):Value:= .slice s.a s.len s.cap
def lfpD{S:Type}(R:S->AH->(S->AH->Prop)->Prop)(s:S)(I:AH):Prop:=
 ∀X:S->AH->Prop,(∀s I Y,(∀s I,Y s I->X s I)->R s I Y->X s I)->X s I
theorem lfpD.intro{S:Type}{R:S->AH->(S->AH->Prop)->Prop}{s:S}{I:AH}(h:R s I (lfpD R)):lfpD R s I:=
 fun X hX=>hX s I (lfpD R) (fun _ _ h=>h X hX) h
section
variable{P:Program}{B:World}{ro:AH}{N:Nat}{o:Oper}{fr:Fr}{I:AH}
def qU(P:Program)(B:World)(ro:AH)(N:Nat)(ops:Array Oper)(K:Fr->AH->Prop):List Oper->Fr->AH->Prop
 | [],fr,I=>K fr I
 | o::rest,fr,I=>vJ P B ro N ops o (qU P B ro N ops K rest) fr I
theorem ak2:∀ (n m:Nat),m+n=ops.size->∀ {fr:Fr} {I:AH},qU P B ro N ops K (ops.toList.drop m) fr I->acX P B ro N ops K (List.range' m n) fr I:=by
 intro n
 induction n with
 | zero=>
  intro m hm fr I h
  rw[List.drop_eq_nil_of_le (by simp;omega)]at h
  exact h
 | succ n ih=>
  intro m hm fr I h
  have hlt:m<ops.size:=by omega
  rw[List.drop_eq_getElem_cons (by simpa using hlt)]at h
  simp only[List.range'_succ,acX]
  rw[Array.getElem?_eq_getElem hlt]
  dsimp only
  exact vJ.mono (fun fr I h=>ih (m+1) (by omega) h) h
def wk(K:Fr->AH->Prop)(fr:Fr)(I:AH):Prop:= ∃fr0,qo fr0 fr/\K fr0 I
theorem AW.reg(h:qU P B ro N ops (wk (Q .normal)) ops.toList fr I):AW P B ro N (.region id ops false) Q fr I:=by
 have h':AW P B ro N (.region id ops false) (fun e=>wk (Q e)) fr I:=by
  refine AW.region ?_
  rw[List.range_eq_range']
  exact ak2 ops.size 0 (by omega) h
 intro φ w a ho hf
 refine wp_mono (h' φ w a ho hf) ?_
 rintro e a' w' ⟨fr',I',⟨fr0,h1,h2⟩,h3,h4⟩
 exact⟨fr0,I',h2,h3,h4.weaken h1⟩
theorem Ls(hg:o.guard=none)(hd:wU N o.dst=true)(h:wl P B ro o (qU P B ro N ops K rest) fr I):qU P B ro N ops K (o::rest) fr I:=by
 refine⟨hd,?_⟩;rw[hg];exact h
theorem Ly(hg:o.guard=some (j,want))(hd:wU N o.dst=true)(ht:(ops[j]?).bind (·.dst)=some t)(hl:look fr t=some (.bool want))
  (h:wl P B ro o (qU P B ro N ops K rest) fr I):qU P B ro N ops K (o::rest) fr I:=by
 refine⟨hd,?_⟩;rw[hg];exact⟨t,_,ht,hl,.inl ⟨rfl,h⟩⟩
theorem Ln{v:Value}(hg:o.guard=some (j,want))(hd:wU N o.dst=true)(ht:(ops[j]?).bind (·.dst)=some t)(hl:look fr t=some v)
  (hv:v= .bool (!want)\/v=undef) (h:qU P B ro N ops K rest (qG o.dst undef fr) I):qU P B ro N ops K (o::rest) fr I:=by
 refine⟨hd,?_⟩;rw[hg]
 refine⟨t,_,ht,hl,.inr ⟨?_,h⟩⟩
 rcases hv with rfl | rfl
 .cases want<;>simp
 .simp[undef]
theorem Xp(he:qL P ro o fr u)(h:K (qG o.dst u fr) I):wl P B ro o K fr I:=fun ρ hρ=>(acY _ (he ρ hρ)).2 h
theorem Lp(he:qL P ro o fr u)(hg:o.guard=none)(hd:wU N o.dst=true)(h:qU P B ro N ops K rest (qG o.dst u fr) I):qU P B ro N ops K (o::rest) fr I:=
 Ls hg hd (Xp he h)
theorem Lyp(he:qL P ro o fr u)(hg:o.guard=some (j,want))(hd:wU N o.dst=true)(ht:(ops[j]?).bind (·.dst)=some t)(hl:look fr t=some (.bool want))
  (h:qU P B ro N ops K rest (qG o.dst u fr) I):qU P B ro N ops K (o::rest) fr I:=Ly hg hd ht hl (Xp he h)
def aaT:List Oper->Nat->Option Oper
 | [],_=>none
 | o::_,0=>some o
 | _::r,i+1=>aaT r i
theorem aas{o:Oper}(h:aaT ops.toList i=some o):ops[i]?=some o:=by
 have gen:∀ (l:List Oper) (i:Nat),aaT l i=l[i]?:=by
  intro l
  induction l with
  | nil=>intro i;simp[aaT]
  | cons o r ih=>intro i;cases i with | zero=>rfl | succ i=>simpa [aaT]using ih i
 rw[gen]at h;simpa using h
theorem Dp{rest:List Nat}(ho':aaT ops.toList i=some o)(hc:cl i=0)(hg:o.guard=none)(hd:wU N o.dst=true)(he:qL P ro o fr u)
  (h:wj P B ro N ops cl K rest (qG o.dst u fr) I):wj P B ro N ops cl K (i::rest) fr I:=by
 have ho:=aas ho'
 unfold wj D1;rw[ho];dsimp only;rw[hc]
 exact⟨hd,u,by unfold vR;rw[hg];exact he,h⟩
theorem Dr{rest:List Nat}(ho':aaT ops.toList i=some o)(hc:cl i=3)(hg:o.guard=none)(hd:wU N o.dst=true)(he:jK P ro I o fr u)
  (h:wj P B ro N ops cl K rest (qG o.dst u fr) I):wj P B ro N ops cl K (i::rest) fr I:=by
 have ho:=aas ho'
 unfold wj D1;rw[ho];dsimp only;rw[hc]
 exact⟨hd,u,by unfold vR;rw[hg];exact he,h⟩
theorem adH.of_new(he:adG P ro o fr ob mk):adH P ro o fr fun _=>(ob,mk):=by
 intro ρ hρ Q I
 obtain⟨k,k1,k2⟩:=he ρ hρ
 rw[ahI _ k1]
 exact⟨fun h n b hb hs=>(acY _ (k2 b)).1 (h b hb hs),fun h b hb hs=>(acY _ (k2 b)).2 (h 0 b hb hs)⟩
theorem Da{rest:List Nat}(ho':aaT ops.toList i=some o)(hc:cl i=1)(hg:o.guard=none)(hd:wU N o.dst=true)(he:adG P ro o fr ob mk)
  (h:∀ b,ro b=none->I b=none->wj P B ro N ops cl K rest (qG o.dst (mk b) fr) (upd I b ob)):wj P B ro N ops cl K (i::rest) fr I:=by
 have ho:=aas ho'
 unfold wj D1;rw[ho];dsimp only;rw[hc]
 exact⟨hd,some _,by unfold pB;rw[hg];exact⟨_,rfl,adH.of_new he⟩,fun n b hb hs=>h b hb hs⟩
theorem Dg{rest:List Nat}(ho':aaT ops.toList i=some o)(hc:cl i=2)(hg:o.guard=none)(hd:wU N o.dst=true)
  (h:wl P B ro o (wj P B ro N ops cl K rest) fr I):wj P B ro N ops cl K (i::rest) fr I:=by
 have ho:=aas ho'
 unfold wj D1;rw[ho];dsimp only;rw[hc]
 refine⟨hd,?_⟩;rw[hg];exact h
theorem aaK(I:AH):join I (fun _=>none)=I:=by
 funext b;unfold join;cases I b<;>rfl
theorem AW.drawn0(cl:Nat->Nat)(anc:List (Nat×Nat))(l:List Nat)(hm:P.follows .mixedOrders=true)
  (hc:(chk ops cl anc l && agA ops anc && full ops.size l && (l.length == ops.size))=true)
  (h:wj P B ro N ops cl (fun fr I=> ∃fr',zr fr' fr/\Q .normal fr' I) l fr I):AW P B ro N (.region id ops true) Q fr I:=by
 have:=AW.drawn (P:=P) (B:=B) (ro:=ro) (N:=N) (ops:=ops) (id:=id) (Q:=Q) (fr:=fr) (ψ:=fun _=>none) (I:=I) cl anc l hm (fun _ _ h=>by cases h) hc (by
  rw[aaK]
  refine DOps_mono ?_ l h
  rintro fr I ⟨fr',h1,h2⟩;exact⟨fr',h1,fun _=>h2⟩)
 exact this
where
 DOps_mono {ops:Array Oper} {ro:AH} {cl:Nat->Nat} {K K':Fr->AH->Prop} (h:∀ fr I,K fr I->K' fr I):∀ (l:List Nat) {fr:Fr} {I:AH},wj P B ro N ops cl K l fr I->wj P B ro N ops cl K' l fr I:=by
  intro l
  induction l with
  | nil=>intro fr I hx;exact h _ _ hx
  | cons i r ih=>
   intro fr I hx
   unfold wj D1 at hx⊢
   split at hx
   .exact hx
   .split at hx
    .obtain⟨h0,u,h1,h2⟩:=hx;exact⟨h0,u,h1,ih h2⟩
    .obtain⟨h0,u,h1,h2⟩:=hx;exact⟨h0,u,h1,ih h2⟩
    .obtain⟨h0,F,h1,h2⟩:=hx;exact⟨h0,F,h1,h2.map fun v I hk=>ih hk⟩
    .exact hx.mono fun fr I=>ih
def yP(I:AH)(K:AH->AH->Prop):Prop:= ∃ψ τ,qP ψ τ/\I=join ψ τ/\K ψ τ
theorem AW.drawnL{K:AH->AH->Prop}(cl:Nat->Nat)(anc:List (Nat×Nat))(l:List Nat)(hm:P.follows .mixedOrders=true)(hl:yP I K)
  (hc:(chk ops cl anc l && agA ops anc && full ops.size l && (l.length == ops.size))=true)
  (h:∀ ψ τ,K ψ τ->wj P B (join ro ψ) N ops cl (fun fr I=> ∃fr',zr fr' fr/\(qP ψ I->Q .normal fr' (join ψ I))) l fr τ):AW P B ro N (.region id ops true) Q fr I:=by
 obtain⟨ψ,τ,hd,rfl,hk⟩:=hl
 exact AW.drawn cl anc l hm hd hc (h ψ τ hk)
theorem wH(h:K fr I):wj P B ro N ops cl (fun fr I=> ∃fr',zr fr' fr/\K fr' I) [] fr I:=⟨fr,zr.refl _,h⟩
theorem AW.iff{x y:Code}{p:Prop}[Decidable p]{X Y:Prop}(hc:ql fr c=some (.bool b))(hi:b=true↔p)(h:if p then X else Y)
  (ht:X->AW P B ro N x Q fr I) (hn:Y->AW P B ro N y Q fr I):AW P B ro N (.cond c x y) Q fr I:=by
 refine AW.cond hc (fun e=>ht ?_) (fun e=>hn ?_)
 .rw[if_pos (hi.1 e)]at h;exact h
 .rw[if_neg (fun q=>by rw[hi.2 q]at e;cases e)]at h;exact h
theorem AW.yes{x y:Code}(hc:ql fr c=some (.bool true))(h:AW P B ro N x Q fr I):AW P B ro N (.cond c x y) Q fr I:=AW.cond hc (fun _=>h) (fun e=>by cases e)
theorem AW.no{x y:Code}(hc:ql fr c=some (.bool false))(h:AW P B ro N y Q fr I):AW P B ro N (.cond c x y) Q fr I:=AW.cond hc (fun e=>by cases e) (fun _=>h)
theorem AW.seqJ{x y:Code}(J:Fr->AH->Prop)(hy:∀ fr I,J fr I->AW P B ro N y Q fr I)(hx:AW P B ro N x (ab8 J Q) fr I):AW P B ro N (.seq x y) Q fr I:=by
 refine AW.seq ?_
 intro φ w a ho hf
 refine wp_mono (hx φ w a ho hf) ?_
 rintro e a' w' ⟨fr',I',hq,ho',hf'⟩
 cases e with
 | normal=>exact⟨fr',I',hy _ _ hq,ho',hf'⟩
 | _=>exact⟨fr',I',hq,ho',hf'⟩
theorem afo{α β:Type}(f:α->β)(x:α):f <$> (Sem.pure x:Sem α)=Sem.pure (f x):=rfl
theorem asH(hr:fn.results= #[])(h:R (.tuple #[]) I):∃ v,(∀tmps:Array Value,(∀i u,look fr i=some u->tmps[i]?=some u)->qf P ro (results fn tmps) I=some v)/\R v I:=by
 refine⟨_,fun tmps ht=>?_,h⟩
 simp[results,hr,pure,bind,Sem.bind,afo,qf]
theorem asI(hr:fn.results= #[.tmp a])(ha:look fr a=some x)(h:R x I):∃ v,(∀tmps:Array Value,(∀i u,look fr i=some u->tmps[i]?=some u)->qf P ro (results fn tmps) I=some v)/\R v I:=by
 refine⟨_,fun tmps ht=>?_,h⟩
 have:=ht a x ha
 simp[results,hr,pure,bind,Sem.bind,afo,qf,Array.getD_eq_getD_getElem?,this]
theorem atZ{b:Nat}{y:Value}(hr:fn.results= #[.tmp a,.tmp b])(ha:look fr a=some x)(hb:look fr b=some y)(h:R (.tuple #[x,y]) I):
  ∃v,(∀tmps:Array Value,(∀i u,look fr i=some u->tmps[i]?=some u)->qf P ro (results fn tmps) I=some v)/\R v I:=by
 refine⟨_,fun tmps ht=>?_,h⟩
 have h1:=ht a x ha
 have h2:=ht b y hb
 simp[results,hr,pure,bind,Sem.bind,afo,qf,Array.getD_eq_getD_getElem?,h1,h2]
theorem at0{b c:Nat}{y z:Value}(hr:fn.results= #[.tmp a,.tmp b,.tmp c])(ha:look fr a=some x)(hb:look fr b=some y)(hc:look fr c=some z)(h:R (.tuple #[x,y,z]) I):
  ∃v,(∀tmps:Array Value,(∀i u,look fr i=some u->tmps[i]?=some u)->qf P ro (results fn tmps) I=some v)/\R v I:=by
 refine⟨_,fun tmps ht=>?_,h⟩
 have h1:=ht a x ha
 have h2:=ht b y hb
 have h3:=ht c z hc
 simp[results,hr,pure,bind,Sem.bind,afo,qf,Array.getD_eq_getD_getElem?,h1,h2,h3]
end
end SL
namespace SL
open Go
variable{α β:Type}{ars:Array Operand}{ts:Array TypeId}{a:ByteArray}{K:Fr->AH->Prop}{b:Int}{j k:IntKind}{d:TypeDesc}{t u:TypeId}
section
variable{P:Program}{B:World}{ro:AH}{N:Nat}{o:Oper}{fr:Fr}{I:AH}{x y z:Operand}{v:Value}
theorem wN(a:α)(f:α->Sem β):(Sem.pure a:Sem α).bind f=f a:=rfl
theorem qV(a:α):(pure a:Sem α)=Sem.pure a:=rfl
theorem qy(s:Sem α)(f:α->Sem β):(s >>= f)=s.bind f:=rfl
theorem jL(f:Program->Sem β):Sem.bind program f=Sem.program fun p=>f p:=rfl
theorem qC(t:TypeId)(f:TypeDesc->Sem β)(h:P.underlying t=some d){τ:AH}:qf P ro (Sem.bind (underlying t) f) τ=qf P ro (f d) τ:=by
 unfold underlying
 simp only[qy,jL]
 show qf P ro (Sem.bind (match P.underlying t with | some d=>pure d | none=>stuck "no such type") f) τ=_
 rw[h];try rfl
theorem pJ{s:Sem Value}{u:Value}(h:∀ ρ,vZ ρ fr->execOp ρ o=(do pure (.value (<-s))))(hs:qf P ro s (fun _=>none)=some u):qL P ro o fr u:=by
 intro ρ hρ
 rw[h ρ hρ]
 exact aread_bind s hs
where
 aread_bind (s:Sem Value) {u:Value} (hs:qf P ro s (fun _=>none)=some u):qf P ro (s.bind fun v=>Sem.pure (Next.value v)) (fun _=>none)=some (.value u):=by
  induction s with
  | pure a=>cases hs;rfl
  | load m a k ih=>
   simp only[qf]at hs
   simp only[Sem.bind,qf]
   split at hs
   .rename_i v hv;exact ih _ hs
   .cases hs
  | program k ih=>exact ih _ hs
  | mark m k ih=>exact ih hs
  | _=>cases hs
theorem X_sem{s:Sem Value}(h:∀ ρ,vZ ρ fr->execOp ρ o=(do pure (.value (<-s))))(hs:awp P ro s (fun v I=>K (qG o.dst v fr) I) I):wl P B ro o K fr I:=by
 intro ρ hρ
 rw[h ρ hρ,vA]
 exact qm _ hs fun _ _ h=>h
theorem X_semU{s:Sem Unit}(h:∀ ρ,vZ ρ fr->execOp ρ o=(do s;pure .skip))(hs:awp P ro s (fun _ I=>K (qG o.dst undef fr) I) I):wl P B ro o K fr I:=by
 intro ρ hρ
 rw[h ρ hρ,vA]
 exact qm _ hs fun _ _ h=>h
theorem jl(ho:o.op= .move x)(hx:ql fr x=some v):qL P ro o fr v:=by
 intro ρ hρ;unfold execOp;rw[ho];simp only[hρ _ _ hx];rfl
theorem agB(ho:o.op= .assign x)(hx:ql fr x=some v):qL P ro o fr v:=by
 intro ρ hρ;unfold execOp;rw[ho];simp only[hρ _ _ hx];rfl
theorem ajH{vs:Array Value}{i:Nat}(ho:o.op= .extract x i)(hx:ql fr x=some (.tuple vs))(hv:vs[i]?=some v):qL P ro o fr v:=by
 refine pJ (s:=Instr.extract (.tuple vs) i) (fun ρ hρ=>?_) (by unfold Instr.extract;simp only[hv];rfl)
 unfold execOp;rw[ho];simp only[hρ _ _ hx]
theorem aed{op:BinOp}{a:Int}(ho:o.op= .binOp op t x y u)(hx:ql fr x=some (.int k a))(hy:ql fr y=some (.int k b))(hs:qf P ro (Go.binOp op t (.int k a) (.int k b)) (fun _=>none)=some v):qL P ro o fr v:=by
 refine pJ (s:=do eqGuard op t x y (.int k a) (.int k b);Go.binOp op t (.int k a) (.int k b)) (fun ρ hρ=>?_) ?_
 .unfold execOp;rw[ho];simp only[hρ _ _ hx,hρ _ _ hy]
 .unfold eqGuard;cases op<;>exact hs
theorem alO{a:Int}(ho:o.op= .binOp .lss t x y u)(hx:ql fr x=some (.int k a))(hy:ql fr y=some (.int k b)):qL P ro o fr (.bool (decide (a<b))):=aed ho hx hy (by simp[Go.binOp,Op.intCmp,qV,qf])
theorem alP{a:Int}(ho:o.op= .binOp .leq t x y u)(hx:ql fr x=some (.int k a))(hy:ql fr y=some (.int k b)):qL P ro o fr (.bool (decide (a<=b))):=aed ho hx hy (by simp[Go.binOp,Op.intCmp,qV,qf])
theorem ajI{a:Int}(ho:o.op= .binOp .gtr t x y u)(hx:ql fr x=some (.int k a))(hy:ql fr y=some (.int k b)):qL P ro o fr (.bool (decide (b<a))):=aed ho hx hy (by simp[Go.binOp,Op.intCmp,qV,qf])
theorem alQ{a:Int}(ho:o.op= .binOp .geq t x y u)(hx:ql fr x=some (.int k a))(hy:ql fr y=some (.int k b)):qL P ro o fr (.bool (decide (b<=a))):=aed ho hx hy (by simp[Go.binOp,Op.intCmp,qV,qf])
theorem ajJ{a:Int}(ho:o.op= .binOp .eql t x y u)(hx:ql fr x=some (.int k a))(hy:ql fr y=some (.int k b)):qL P ro o fr (.bool (decide (a=b))):=aed ho hx hy (by simp[Go.binOp,Op.intCmp,qV,qf];rfl)
theorem anY{a:Int}(ho:o.op= .binOp .neq t x y u)(hx:ql fr x=some (.int k a))(hy:ql fr y=some (.int k b)):qL P ro o fr (.bool (!decide (a=b))):=aed ho hx hy (by simp[Go.binOp,Op.intCmp,qV,qf];rfl)
theorem alR{a:Int}(ho:o.op= .binOp .add t x y u)(hx:ql fr x=some (.int k a))(hy:ql fr y=some (.int k b)):qL P ro o fr (.int k (k.wrap (a+b))):=aed ho hx hy (by simp[Go.binOp,Op.intArith,qV,qf])
theorem anZ{a:Int}(ho:o.op= .binOp .sub t x y u)(hx:ql fr x=some (.int k a))(hy:ql fr y=some (.int k b)):qL P ro o fr (.int k (k.wrap (a - b))):=aed ho hx hy (by simp[Go.binOp,Op.intArith,qV,qf])
theorem an0{a:Int}(ho:o.op= .binOp .mul t x y u)(hx:ql fr x=some (.int k a))(hy:ql fr y=some (.int k b)):qL P ro o fr (.int k (k.wrap (a*b))):=aed ho hx hy (by simp[Go.binOp,Op.intArith,qV,qf])
theorem atn{a:Int}(ho:o.op= .binOp .quo t x y u)(hx:ql fr x=some (.int k a))(hy:ql fr y=some (.int k b))(hb:b≠0):qL P ro o fr (.int k (k.wrap (a.tdiv b))):=aed ho hx hy (by simp[Go.binOp,Op.intDiv,qV,qf,hb])
def aaU(k:IntKind)(a b:Int):Int:=k.wrap (BitVec.ofInt k.bits a &&& BitVec.ofInt k.bits b).toNat
def uO(k:IntKind)(a b:Int):Int:=k.wrap (BitVec.ofInt k.bits a ||| BitVec.ofInt k.bits b).toNat
theorem ato{a:Int}(ho:o.op= .binOp .and t x y u)(hx:ql fr x=some (.int k a))(hy:ql fr y=some (.int k b)):qL P ro o fr (.int k (aaU k a b)):=aed ho hx hy (by simp[Go.binOp,Op.intBits,qV,qf,aaU])
theorem asJ{a:Int}(ho:o.op= .binOp .or t x y u)(hx:ql fr x=some (.int k a))(hy:ql fr y=some (.int k b)):qL P ro o fr (.int k (uO k a b)):=aed ho hx hy (by simp[Go.binOp,Op.intBits,qV,qf,uO])
theorem binShift{op:BinOp}(hop:op= .shl\/op= .shr){a:Int}(ho:o.op= .binOp op t x y u)(hx:ql fr x=some (.int k a))(hy:ql fr y=some (.int j b))(hs:qf P ro (Op.shift op k a j b) (fun _=>none)=some v):qL P ro o fr v:=by
 refine pJ (s:=do eqGuard op t x y (.int k a) (.int j b);Go.binOp op t (.int k a) (.int j b)) (fun ρ hρ=>?_) ?_
 .unfold execOp;rw[ho];simp only[hρ _ _ hx,hρ _ _ hy]
 .rcases hop with rfl | rfl<;>exact hs
theorem atp{a:Int}(ho:o.op= .binOp .shl t x y u)(hx:ql fr x=some (.int k a))(hy:ql fr y=some (.int j b))(hb:0<=b):qL P ro o fr (.int k (k.wrap (a*2 ^ (min b.toNat k.bits)))):=
 binShift (.inl rfl) ho hx hy (by unfold Op.shift;rw[if_neg (by omega)];try rfl)
theorem atq{a:Int}(ho:o.op= .binOp .shr t x y u)(hx:ql fr x=some (.int k a))(hy:ql fr y=some (.int j b))(hb:0<=b):qL P ro o fr (.int k (a.fdiv (2 ^ (min b.toNat k.bits)))):=
 binShift (.inr rfl) ho hx hy (by unfold Op.shift;rw[if_neg (by omega)];try rfl)
theorem unS{op:UnOp}(ho:o.op= .unOp op t x)(hx:ql fr x=some v){u:Value}(hs:qf P ro (Op.unary op v) (fun _=>none)=some u):qL P ro o fr u:=by
 refine pJ (s:=Op.unary op v) (fun ρ hρ=>?_) hs
 unfold execOp;rw[ho];simp only[hρ _ _ hx]
theorem an1{b:Bool}(ho:o.op= .unOp .not t x)(hx:ql fr x=some (.bool b)):qL P ro o fr (.bool (!b)):=unS ho hx rfl
theorem an2{s:TypeId}{a:Int}(ho:o.op= .convert s t x)(hx:ql fr x=some (.int j a))(hs:P.underlying s=some d)(ht:P.underlying t=some (.int k)):qL P ro o fr (.int k (k.wrap a)):=by
 refine pJ (s:=convert s t (.int j a)) (fun ρ hρ=>?_) ?_
 .unfold execOp;rw[ho];simp only[hρ _ _ hx]
 .unfold convert;show qf P ro (Sem.bind (underlying s) _) _=_;rw[qC _ _ hs];show qf P ro (Sem.bind (underlying t) _) _=_;rw[qC _ _ ht];cases d<;>rfl
theorem yH{u:Value}(ho:o.op= .pick x y z)(hx:ql fr x=some (.bool true))(hy:ql fr y=some u):qL P ro o fr u:=by
 intro ρ hρ;unfold execOp;rw[ho];simp only[hρ _ _ hx,hρ _ _ hy];rfl
theorem pF{u:Value}(ho:o.op= .pick x y z)(hx:ql fr x=some (.bool false))(hz:ql fr z=some u):qL P ro o fr u:=by
 intro ρ hρ;unfold execOp;rw[ho];simp only[hρ _ _ hx,hρ _ _ hz];rfl
theorem an3{b:ByteArray}(h:a.toList=b.toList):a=b:=by
 rw[ByteArray.toList_eq,ByteArray.toList_eq]at h
 exact ByteArray.ext (Array.toList_inj.1 h)
theorem alS{op:BinOp}{b:ByteArray}(ho:o.op= .binOp op t x y u)(hx:ql fr x=some (.string a))(hy:ql fr y=some (.string b))(hop:op≠ .shl/\op≠ .shr)(hs:qf P ro (Op.stringOp op a b) (fun _=>none)=some v):qL P ro o fr v:=by
 refine pJ (s:=do eqGuard op t x y (.string a) (.string b);Go.binOp op t (.string a) (.string b)) (fun ρ hρ=>?_) ?_
 .unfold execOp;rw[ho];simp only[hρ _ _ hx,hρ _ _ hy]
 .unfold eqGuard;cases op<;>first | exact hs | exact absurd rfl hop.1 | exact absurd rfl hop.2
theorem eqS{b:ByteArray}:(a.toList == b.toList)=decide (a=b):=by
 by_cases h:a=b
 .subst h;simp
 .rw[decide_eq_false h]
  cases e:(a.toList == b.toList)with
  | false=>rfl
  | true=>exact absurd (an3 (by simpa using e)) h
theorem ajK{b:ByteArray}(ho:o.op= .binOp .eql t x y u)(hx:ql fr x=some (.string a))(hy:ql fr y=some (.string b)):qL P ro o fr (.bool (decide (a=b))):=alS ho hx hy (by simp) (by simp only[Op.stringOp,eqS];rfl)
theorem ajL{b:ByteArray}(ho:o.op= .binOp .neq t x y u)(hx:ql fr x=some (.string a))(hy:ql fr y=some (.string b)):qL P ro o fr (.bool (!decide (a=b))):=alS ho hx hy (by simp) (by simp only[Op.stringOp,eqS];rfl)
def afp(a b:ByteArray):Bool:=Op.bytesLess a.toList b.toList
theorem asK{b:ByteArray}(ho:o.op= .binOp .leq t x y u)(hx:ql fr x=some (.string a))(hy:ql fr y=some (.string b)):qL P ro o fr (.bool (afp a b || decide (a=b))):=alS ho hx hy (by simp) (by simp only[Op.stringOp,eqS];rfl)
theorem ajM{b:ByteArray}(ho:o.op= .binOp .add t x y u)(hx:ql fr x=some (.string a))(hy:ql fr y=some (.string b))(h:a.size+b.size<=9223372036854775807):qL P ro o fr (.string (a++b)):=
 alS ho hx hy (by simp) (by unfold Op.stringOp;dsimp only;rw[if_neg (by simp only[IntKind.max,IntKind.signed,IntKind.bits,if_true];omega)];rfl)
theorem aaV(ho:o.op= .call {callee:= .builtin .len,args:=ars,argTypes:=ts})(ht:ts[0]?=some t)(hu:P.underlying t=some .string)(ha:ars= #[x])(hx:ql fr x=some (.string a)):qL P ro o fr (.int .i64 a.size):=by
 refine pJ (s:=Builtin.len_ ts o.type #[.string a]) (fun ρ hρ=>?_) ?_
 .unfold execOp;rw[ho];subst ha;simp[resolve,invoke,builtin,hρ _ _ hx,qV,qy,wN]
 .unfold Builtin.len_;simp only[ht,qy];rw[show(#[Value.string a]:Array Value)[0]?=some (.string a)from rfl];dsimp only;rw[qC _ _ hu];try rfl
theorem qT{e:TypeId}{a:Option Addr}{n c:Nat}(ho:o.op= .call {callee:= .builtin .len,args:=ars,argTypes:=ts})(ht:ts[0]?=some t)(hu:P.underlying t=some (.slice e))(ha:ars= #[x])(hx:ql fr x=some (.slice a n c)):qL P ro o fr (.int .i64 n):=by
 refine pJ (s:=Builtin.len_ ts o.type #[.slice a n c]) (fun ρ hρ=>?_) ?_
 .unfold execOp;rw[ho];subst ha;simp[resolve,invoke,builtin,hρ _ _ hx,qV,qy,wN]
 .unfold Builtin.len_;simp only[ht,qy];rw[show(#[Value.slice a n c]:Array Value)[0]?=some (.slice a n c)from rfl];dsimp only;rw[qC _ _ hu];try rfl
theorem asL{i:Int}{b:UInt8}(ho:o.op= .index t x y)(hu:P.underlying t=some .string)(hx:ql fr x=some (.string a))(hy:ql fr y=some (.int k i))(h0:0<=i)(hb:a[i.toNat]?=some b):qL P ro o fr (.int .u8 b.toNat):=by
 refine pJ (s:=Instr.index t (.string a) (.int k i)) (fun ρ hρ=>?_) ?_
 .unfold execOp;rw[ho];simp only[hρ _ _ hx,hρ _ _ hy]
 .unfold Instr.index
  show qf P ro (Sem.bind (underlying t) _) _=_
  rw[qC _ _ hu]
  dsimp only
  rw[if_pos h0,hb];try rfl
end
end SL
namespace SL
open Go
variable{β:Type}{τ:AH}{a:Addr}{ars:Array Operand}{ts:Array TypeId}{K:Fr->AH->Prop}{fn:Func}{f:FuncId}{i:Int}{k:IntKind}{vs:List Value}{b n s:Nat}{mk:Nat->Value}{ob:Obj}{d:TypeDesc}{e t:TypeId}{u zero zv:Value}{Q:β->AH->Prop}
section
variable{P:Program}{B:World}{ro:AH}{N:Nat}{o:Oper}{fr:Fr}{I:AH}{x y z:Operand}{v:Value}
theorem ahp(t:TypeId)(f:TypeInfo->Sem β){d:TypeInfo}(h:P.info? t=some d):qf P ro (Sem.bind (typeInfo t) f) τ=qf P ro (f d) τ:=by
 unfold typeInfo
 simp only[qy,jL]
 show qf P ro (Sem.bind (match P.info? t with | some i=>pure i | none=>stuck "no such type") f) τ=_
 rw[h];try rfl
theorem qw{f:TypeDesc->Sem β}(h:P.underlying t=some d):awp P ro (Sem.bind (underlying t) f) Q I↔awp P ro (f d) Q I:=by
 unfold underlying
 simp only[qy,jL]
 show awp P ro (Sem.bind (match P.underlying t with | some d=>pure d | none=>stuck "no such type") f) Q I↔_
 rw[h];try rfl
theorem vF{f:TypeInfo->Sem β}{d:TypeInfo}(h:P.info? t=some d):awp P ro (Sem.bind (typeInfo t) f) Q I↔awp P ro (f d) Q I:=by
 unfold typeInfo
 simp only[qy,jL]
 show awp P ro (Sem.bind (match P.info? t with | some i=>pure i | none=>stuck "no such type") f) Q I↔_
 rw[h];try rfl
def qp(P:Program)(t:TypeId)(zero:Value)(size bytes:Nat):Prop:= ∃i,P.info? t=some i/\i.zero=some zero/\i.size=size/\i.bytes=bytes
theorem qp.of{size bytes:Nat}(h:(P.info? t).map (fun i=>(i.zero,i.size,i.bytes))=some (some zero,size,bytes)):qp P t zero size bytes:=by
 cases e:P.info? t with
 | none=>rw[e]at h;cases h
 | some i=>rw[e]at h;simp at h;exact⟨i,e,h.1,h.2.1,h.2.2⟩
theorem aaW(h:qp P t zv s b){f:Value->Sem β}:awp P ro (Sem.bind (zeroValue t) f) Q I↔awp P ro (f zv) Q I:=by
 obtain⟨i,h1,h2,_,_⟩:=h
 unfold zeroValue
 show awp P ro (Sem.bind (Sem.bind (typeInfo t) _) f) Q I↔_
 rw[show∀(g:TypeInfo->Sem Value),Sem.bind (Sem.bind (typeInfo t) g) f=Sem.bind (typeInfo t) fun i=>Sem.bind (g i) f from fun g=>bind_assoc' _ _ _]
 rw[vF h1,h2];try rfl
where
 bind_assoc' {α β γ:Type} (s:Sem α) (f:α->Sem β) (g:β->Sem γ):Sem.bind (Sem.bind s f) g=Sem.bind s fun a=>Sem.bind (f a) g:=by
  induction s with
  | pure a=>rfl
  | load m a k ih=>simp only[Sem.bind];congr;funext v;exact ih v
  | store m a v k ih=>simp only[Sem.bind];congr
  | new o k ih=>simp only[Sem.bind];congr;funext v;exact ih v
  | shape r k ih=>simp only[Sem.bind];congr;funext v;exact ih v
  | freeze a n k ih=>simp only[Sem.bind];congr
  | frozen a k ih=>simp only[Sem.bind];congr;funext v;exact ih v
  | getObj r k ih=>simp only[Sem.bind];congr;funext v;exact ih v
  | setObj r o k ih=>simp only[Sem.bind];congr
  | choose q k ih=>simp only[Sem.bind];congr;funext v;exact ih v
  | sys c k ih=>simp only[Sem.bind];congr;funext v;exact ih v
  | program k ih=>simp only[Sem.bind];congr;funext v;exact ih v
  | mark m k ih=>simp only[Sem.bind];congr
  | halt e=>rfl
theorem bind_assoc'{α γ:Type}(s:Sem α)(f:α->Sem β)(g:β->Sem γ):Sem.bind (Sem.bind s f) g=Sem.bind s fun a=>Sem.bind (f a) g:=aaW.bind_assoc' s f g
theorem adu(h:qp P t zv s b){f:Nat->Sem β}:awp P ro (Sem.bind (sizeOf t) f) Q I↔awp P ro (f s) Q I:=by
 obtain⟨i,h1,_,h3,_⟩:=h
 unfold sizeOf
 show awp P ro (Sem.bind (Sem.bind (typeInfo t) _) f) Q I↔_
 rw[bind_assoc',vF h1,<-h3];try rfl
theorem pK(h:qp P t zv s b){f:Nat->Sem β}:qf P ro (Sem.bind (sizeOf t) f) τ=qf P ro (f s) τ:=by
 obtain⟨i,h1,_,h3,_⟩:=h
 unfold sizeOf
 show qf P ro (Sem.bind (Sem.bind (typeInfo t) _) f) τ=_
 rw[bind_assoc',ahp _ _ h1,<-h3];try rfl
theorem an4(h:qp P t zv s b){f:Value->Sem β}:qf P ro (Sem.bind (zeroValue t) f) τ=qf P ro (f zv) τ:=by
 obtain⟨i,h1,h2,_,_⟩:=h
 unfold zeroValue
 show qf P ro (Sem.bind (Sem.bind (typeInfo t) _) f) τ=_
 rw[bind_assoc',ahp _ _ h1,h2];try rfl
def aaX:TypeDesc->Bool
 | .struct _=>true
 | .array _ _=>true
 | _=>false
theorem ak3(h:P.underlying t=some d){f:Bool->Sem β}:awp P ro (Sem.bind (isAgg t) f) Q I↔awp P ro (f (aaX d)) Q I:=by
 unfold isAgg
 show awp P ro (Sem.bind (Sem.bind (underlying t) _) f) Q I↔_
 rw[bind_assoc',qw h];cases d<;>rfl
theorem ua(h:P.underlying t=some d){f:Bool->Sem β}:qf P ro (Sem.bind (isAgg t) f) τ=qf P ro (f (aaX d)) τ:=by
 unfold isAgg
 show qf P ro (Sem.bind (Sem.bind (underlying t) _) f) τ=_
 rw[bind_assoc',qC _ _ h];cases d<;>rfl
@[simp] theorem ajc(a:Addr):a.add 0=a:=rfl
@[simp] theorem vn(b i n:Nat):(⟨b,i,none⟩:Addr).add n=⟨b,i+n,none⟩:=by
 unfold Addr.add;by_cases h:n=0<;>simp[h]
theorem qr(ho:o.op= .nilCheck x)(hx:ql fr x=some (.pointer (some a))):qL P ro o fr (.pointer (some a)):=by
 intro ρ hρ;unfold execOp;rw[ho];simp only[hρ _ _ hx];rfl
theorem wm{s:TypeId}{f:Nat}{fs:Array Field}{fd:Field}(ho:o.op= .fieldAddr s x f)(hs:P.underlying s=some (.struct fs))(hf:fs[f]?=some fd)(hz:qp P fd.type zv n b)(hn:n≠0)
  (hx:ql fr x=some (.pointer (some a))):qL P ro o fr (.pointer (some (a.add fd.offset))):=by
 refine pJ (s:=Instr.fieldAt s (.pointer (some a)) f) (fun ρ hρ=>?_) ?_
 .unfold execOp;rw[ho];simp only[hρ _ _ hx]
 .unfold Instr.fieldAt
  show qf P ro (Sem.bind (underlying s) _) _=_
  rw[qC _ _ hs];dsimp only;rw[hf];dsimp only[Instr.sureAddr]
  show qf P ro (Sem.bind (fieldPlace a fd) _) _=_
  unfold fieldPlace
  show qf P ro (Sem.bind (Sem.bind (sizeOf fd.type) _) _) _=_
  rw[bind_assoc',pK hz,if_neg hn];try rfl
theorem vv{c:Nat}(ho:o.op= .indexAddr t x y)(ht:P.underlying t=some (.slice e))(hz:qp P e zv s b)
  (hx:ql fr x=some (.slice (some a) n c)) (hy:ql fr y=some (.int k i)) (h0:0<=i) (h1:i<n):qL P ro o fr (.pointer (some (a.add (i.toNat*s)))):=by
 refine pJ (s:=Instr.indexAt t (.slice (some a) n c) (.int k i)) (fun ρ hρ=>?_) ?_
 .unfold execOp;rw[ho];simp only[hρ _ _ hx,hρ _ _ hy]
 .unfold Instr.indexAt
  show qf P ro (Sem.bind (underlying t) _) _=_
  rw[qC _ _ ht]
  simp only[qy,qV,wN]
  rw[qC _ _ ht,if_pos ⟨h0,h1⟩,pK hz];try rfl
theorem alT(ho:o.op= .indexAddr t x y)(ht:P.underlying t=some (.array n e))(hz:qp P e zv s b)
  (hx:ql fr x=some (.pointer (some a))) (hy:ql fr y=some (.int k i)) (h0:0<=i) (h1:i<n):qL P ro o fr (.pointer (some (a.add (i.toNat*s)))):=by
 refine pJ (s:=Instr.indexAt t (.pointer (some a)) (.int k i)) (fun ρ hρ=>?_) ?_
 .unfold execOp;rw[ho];simp only[hρ _ _ hx,hρ _ _ hy]
 .unfold Instr.indexAt
  show qf P ro (Sem.bind (underlying t) _) _=_
  rw[qC _ _ ht]
  simp only[qy,qV,wN,Instr.sureAddr]
  rw[qC _ _ ht,if_pos ⟨h0,h1⟩,pK hz];try rfl
theorem asM(ht:P.underlying t=some d)(hd:aaX d=false){Q:Value->AH->Prop}:awp P ro (loadVar t a) Q I↔∃ v,qa ro I a=some v/\Q v I:=by
 unfold loadVar
 show awp P ro (Sem.bind (isAgg t) _) Q I↔_
 rw[ak3 ht,hd];try rfl
theorem vG(ho:o.op= .load t x)(ht:P.underlying t=some d)(hd:aaX d=false)(hx:ql fr x=some (.pointer (some a)))(hc:qa ro I a=some v)(h:K (qG o.dst v fr) I):wl P B ro o K fr I:=by
 refine X_sem (s:=loadVar t a) (fun ρ hρ=>?_) ((asM ht hd).2 ⟨v,hc,h⟩)
 unfold execOp;rw[ho];simp only[hρ _ _ hx];rfl
theorem yQ(ho:o.op= .load t x)(ht:P.underlying t=some d)(hd:aaX d=false)(hx:ql fr x=some (.pointer (some a)))(hc:qa ro (fun _=>none) a=some v):qL P ro o fr v:=by
 refine pJ (s:=loadVar t a) (fun ρ hρ=>?_) ?_
 .unfold execOp;rw[ho];simp only[hρ _ _ hx];rfl
 .unfold loadVar
  show qf P ro (Sem.bind (isAgg t) _) _=_
  rw[ua ht,hd]
  show qf P ro (Sem.load .plain a .pure) _=_
  simp only[qf,hc]
def qg(ro I:AH)(a:Addr):Nat->List Value->Prop
 | _,[]=>True
 | i,v::r=>qa ro I (a.add i)=some v/\qg ro I a (i+1) r
theorem jc{Q:Array Value->AH->Prop}:∀ (vs:List Value) (i:Nat) (acc:Array Value),qg ro I a i vs->Q (acc++vs.toArray) I->awp P ro (loadCellsFrom a i vs.length acc) Q I:=by
 intro vs
 induction vs with
 | nil=>intro i acc _ h;show Q acc I;simpa using h
 | cons v r ih=>
  intro i acc hc h
  obtain⟨h1,h2⟩:=hc
  show awp P ro (Sem.bind (load (a.add i)) _) Q I
  refine⟨v,h1,?_⟩
  exact ih (i+1) (acc.push v) h2 (by simpa using h)
theorem acZ:∀ (vs:List Value) (i:Nat) (acc:Array Value),qg ro I a i vs->qf P ro (loadCellsFrom a i vs.length acc) I=some (acc++vs.toArray):=by
 intro vs
 induction vs with
 | nil=>intro i acc _;show some acc=_;simp
 | cons v r ih=>
  intro i acc hc
  obtain⟨h1,h2⟩:=hc
  show qf P ro (Sem.load .plain (a.add i) _) I=_
  simp only[qf,h1]
  refine(ih (i+1) (acc.push v) h2).trans ?_
  simp
theorem wY(ho:o.op= .load t x)(ht:P.underlying t=some d)(hd:aaX d=true)(hz:qp P t zv vs.length b)(hx:ql fr x=some (.pointer (some a)))
  (hc:qg ro I a 0 vs) (h:K (qG o.dst (.agg vs.toArray) fr) I):wl P B ro o K fr I:=by
 refine X_sem (s:=loadVar t a) (fun ρ hρ=>?_) ?_
 .unfold execOp;rw[ho];simp only[hρ _ _ hx];rfl
 .unfold loadVar
  show awp P ro (Sem.bind (isAgg t) _) _ I
  rw[ak3 ht,hd]
  show awp P ro (Sem.bind (sizeOf t) _) _ I
  rw[adu hz]
  show awp P ro (Sem.bind (loadCellsFrom a 0 vs.length #[]) _) _ I
  refine(vA _ _).2 (jc vs 0 #[] hc ?_)
  show K (qG o.dst (.agg (#[]++vs.toArray)) fr) I
  simpa using h
theorem atr(ho:o.op= .load t x)(ht:P.underlying t=some d)(hd:aaX d=true)(hz:qp P t zv vs.length b)(hx:ql fr x=some (.pointer (some a)))
  (hc:qg ro (fun _=>none) a 0 vs):qL P ro o fr (.agg vs.toArray):=by
 refine pJ (s:=loadVar t a) (fun ρ hρ=>?_) ?_
 .unfold execOp;rw[ho];simp only[hρ _ _ hx];rfl
 .unfold loadVar
  show qf P ro (Sem.bind (isAgg t) _) _=_
  rw[ua ht,hd]
  show qf P ro (Sem.bind (sizeOf t) _) _=_
  rw[pK hz]
  have:=acZ (P:=P) vs 0 #[] hc
  show qf P ro (Sem.bind (loadCellsFrom a 0 vs.length #[]) fun cs=>Sem.pure (Value.agg cs)) _=_
  generalize loadCellsFrom a 0 vs.length #[]=s at this
  have gen:∀ (s:Sem (Array Value)) {w:Array Value},qf P ro s (fun _=>none)=some w->qf P ro (Sem.bind s fun cs=>Sem.pure (Value.agg cs)) (fun _=>none)=some (.agg w):=by
   intro s
   induction s with
   | pure a=>intro w h;cases h;rfl
   | load m a k ih=>
    intro w h
    simp only[qf]at h
    simp only[Sem.bind,qf]
    split at h
    .exact ih _ h
    .cases h
   | program k ih=>intro w h;exact ih _ h
   | mark m k ih=>intro w h;exact ih h
   | _=>intro w h;cases h
  have:=gen s this
  simpa using this
def st1(I:AH)(a:Addr)(v:Value)(K:AH->Prop):Prop:=a.spot=none/\∃ c e fz,I a.block=some (.cells c e fz)/\a.off<c.size/\¬ (fz.1<=a.off/\a.off<fz.2)/\K (upd I a.block (.cells (c.setIfInBounds a.off v) e fz))
def stN(a:Addr)(K:AH->Prop):List Value->Nat->AH->Prop
 | [],_,I=>K I
 | v::r,i,I=>qh v=true/\st1 I (a.add i) v (stN a K r (i+1))
theorem jt{Q:Unit->AH->Prop}:∀ (vs:List Value) (i:Nat) (I:AH),stN a (Q ()) vs i I->awp P ro (storeCells a vs i) Q I:=by
 intro vs
 induction vs with
 | nil=>intro i I h;exact h
 | cons v r ih=>
  intro i I h
  obtain⟨h0,h1,c,e,fz,h2,h3,h4,h5⟩:=h
  unfold storeCells
  exact⟨h0,h1,c,e,fz,h2,h3,h4,ih (i+1) _ h5⟩
theorem yR(ho:o.op= .store t x y)(hz:qp P t zv n b)(hx:ql fr x=some (.pointer (some a)))(hy:ql fr y=some v)(hv:v.cells.toList=vs)(hn:vs.length=n)
  (h:stN a (fun I=>K (qG o.dst undef fr) I) vs 0 I):wl P B ro o K fr I:=by
 refine X_semU (s:=storeVar t a v) (fun ρ hρ=>?_) ?_
 .unfold execOp;rw[ho];simp only[hρ _ _ hx,hρ _ _ hy];rfl
 .unfold storeVar
  show awp P ro (Sem.bind (sizeOf t) _) _ I
  rw[adu hz,if_neg (by subst hv;subst hn;simp)]
  rw[hv]
  exact jt vs 0 I h
theorem ajN(he:adG P ro o fr ob mk)(h:∀ b,ro b=none->I b=none->K (qG o.dst (mk b) fr) (upd I b ob)):wl P B ro o K fr I:=by
 intro ρ hρ
 obtain⟨k,k1,k2⟩:=he ρ hρ
 exact(ahI _ k1).2 fun b hb hs=>(acY _ (k2 b)).2 (h b hb hs)
def jd(P:Program):Sem Value->Option (Obj×(Nat->Sem Value))
 | .new o k=>some (o,k)
 | .program k=>jd P (k P)
 | .mark _ k=>jd P k
 | _=>none
theorem adZ{s:Sem Value}(h:∀ ρ,vZ ρ fr->execOp ρ o=(do pure (.value (<-s))))(hs:∃ k,jd P s=some (ob,k)/\∀ b,k b=Sem.pure (mk b)):adG P ro o fr ob mk:=by
 intro ρ hρ
 rw[h ρ hρ]
 obtain⟨k,h1,h2⟩:=hs
 exact⟨fun b=>(k b).bind fun v=>Sem.pure (.value v),go s h1,fun b=>by dsimp only;rw[h2];try rfl⟩
where
 go (s:Sem Value) {ob:Obj} {k:Nat->Sem Value} (h:jd P s=some (ob,k)):ais P (s.bind fun v=>Sem.pure (.value v))=some (ob,fun b=>(k b).bind fun v=>Sem.pure (.value v)):=by
  induction s with
  | new o k' ih=>simp only[jd,Option.some.injEq,Prod.mk.injEq]at h;obtain⟨rfl,rfl⟩:=h;rfl
  | program k' ih=>exact ih _ h
  | mark m k' ih=>exact ih h
  | _=>cases h
theorem ahL(h:qp P t zv s b){f:Value->Sem Value}:jd P (Sem.bind (zeroValue t) f)=jd P (f zv):=by
 obtain⟨i,h1,h2,_,_⟩:=h
 unfold zeroValue typeInfo
 simp only[qy,jL,bind_assoc']
 show jd P (Sem.bind (match P.info? t with | some i=>pure i | none=>stuck "no such type") _)=_
 rw[h1];simp only[qV,wN];rw[h2];try rfl
theorem ajO(h:P.underlying t=some d){f:TypeDesc->Sem Value}:jd P (Sem.bind (underlying t) f)=jd P (f d):=by
 unfold underlying
 simp only[qy,jL]
 show jd P (Sem.bind (match P.underlying t with | some d=>pure d | none=>stuck "no such type") f)=_
 rw[h];try rfl
theorem ak4{d:TypeInfo}(h:P.info? t=some d){f:TypeInfo->Sem Value}:jd P (Sem.bind (typeInfo t) f)=jd P (f d):=by
 unfold typeInfo
 simp only[qy,jL]
 show jd P (Sem.bind (match P.info? t with | some d=>pure d | none=>stuck "no such type") f)=_
 rw[h];try rfl
theorem ak5(h:qp P t zv s b){f:Nat->Sem Value}:jd P (Sem.bind (sizeOf t) f)=jd P (f s):=by
 obtain⟨i,h1,_,h3,_⟩:=h
 unfold sizeOf
 show jd P (Sem.bind (Sem.bind (typeInfo t) _) f)=_
 rw[bind_assoc',ak4 h1,<-h3];try rfl
theorem qY(ho:o.op= .alloc e)(hz:qp P e zv n b):adG P ro o fr (.cells zv.cells e) (fun b=> .pointer (some ⟨b,0,none⟩)):=by
 refine adZ (s:=Instr.alloc e true (.tuple #[])) (fun ρ hρ=>?_) ⟨fun b=>Sem.pure (.pointer (some ⟨b,0,none⟩)),?_,fun b=>?_⟩
 .unfold execOp;rw[ho]
 .unfold Instr.alloc
  show jd P (Sem.bind (zeroValue e) _)=_
  rw[ahL hz];try rfl
 .rfl
theorem wI(ho:o.op= .box e x)(hx:ql fr x=some u):adG P ro o fr (.cells u.cells e) (fun b=> .pointer (some ⟨b,0,none⟩)):=by
 refine adZ (s:=Instr.box e u) (fun ρ hρ=>?_) ⟨fun b=>Sem.pure (.pointer (some ⟨b,0,none⟩)),?_,fun b=>?_⟩
 .unfold execOp;rw[ho];simp only[hρ _ _ hx]
 .rfl
 .rfl
theorem af3(ho:o.op= .makeMap t none):adG P ro o fr (.map #[] 0) (fun b=> .map (some b)):=by
 refine adZ (s:=Instr.makeMap t none) (fun ρ hρ=>?_) ⟨fun b=>Sem.pure (.map (some b)),?_,fun b=>?_⟩
 .unfold execOp;rw[ho];try rfl
 .rfl
 .rfl
def aaL(zv:Value)(n:Nat):Array Value:=((List.range n).map (zv.cells[· %zv.cells.size]!)).toArray
theorem al6(zv:Value)(n:Nat):(Array.range n).map (zv.cells[· %zv.cells.size]!)=aaL zv n:=by
 apply Array.toList_inj.1
 simp[aaL]
theorem wb{n:Int}(h0: -9223372036854775808<=n)(h1:n<9223372036854775808):i64.wrap n=n:=by
 rw[IntKind.wrap_i64];omega
theorem arD{n c:Int}(ho:o.op= .makeSlice t x y)(ht:P.underlying t=some (.slice e))(hz:qp P e zv s b)(hx:ql fr x=some (.int .i64 n))(hy:ql fr y=some (.int .i64 c))
  (h0:0<=n) (h1:n<=c) (h2:c<=281474976710656) (h3:b*c<=281474976710656):adG P ro o fr (.cells (aaL zv (c.toNat*s)) e) (fun b=> .slice (some ⟨b,0,none⟩) n.toNat c.toNat):=by
 have wn:i64.wrap n=n:=wb (by omega) (by omega)
 have wc:i64.wrap c=c:=wb (by omega) (by omega)
 refine adZ (s:=Instr.makeSlice t (.int .i64 n) (.int .i64 c)) (fun ρ hρ=>?_) ⟨fun b=>Sem.pure (.slice (some ⟨b,0,none⟩) n.toNat c.toNat),?_,fun b=>?_⟩
 .unfold execOp;rw[ho];simp only[hρ _ _ hx,hρ _ _ hy]
 .unfold Instr.makeSlice
  show jd P (Sem.bind (underlying t) _)=_
  rw[ajO ht]
  obtain⟨i,i1,i2,i3,i4⟩:=hz
  show jd P (Sem.bind (typeInfo e) _)=_
  rw[ak4 i1]
  dsimp only
  rw[wn,wc,i4]
  rw[if_neg (by
   simp only[Bool.or_eq_true,decide_eq_true_eq]
   omega)]
  show jd P (Sem.bind (askRoom _) _)=_
  have hroom:∀ (m:Nat) (f:Unit->Sem Value),jd P (Sem.bind (askRoom m) f)=jd P (f ()):=by
   intro m f;unfold askRoom;split<;>rfl
  rw[hroom]
  have hz':qp P e zv s b:=⟨i,i1,i2,i3,i4⟩
  show jd P (Sem.bind (sizeOf e) _)=_
  rw[ak5 hz']
  by_cases hc:c.toNat*s=0
  .simp only[hc,if_true]
   show jd P (Sem.bind (Sem.pure #[]) _)=_
   simp[aaL,newRow,newObj,qy,Sem.bind,jd,qV]
  .simp only[if_neg hc]
   show jd P (Sem.bind (zeroValue e) _)=_
   rw[ahL hz']
   show some (Obj.cells ((Array.range (c.toNat*s)).map (zv.cells[· %zv.cells.size]!)) e,_)=_
   rw[al6]
   try rfl
 .rfl
def yI(fr:Fr):List Operand->Option (List Value)
 | []=>some []
 | x::r=>match ql fr x,yI fr r with
  | some v,some vs=>some (v::vs)
  | _,_=>none
theorem aat{ρ:Operand->Value}(hρ:vZ ρ fr):∀ (l:List Operand) {vs:List Value},yI fr l=some vs->l.map ρ=vs:=by
 intro l
 induction l with
 | nil=>intro vs h;cases h;rfl
 | cons x r ih=>
  intro vs h
  unfold yI at h
  split at h
  .rename_i v vs' h1 h2
   cases h
   rw[List.map_cons,hρ _ _ h1,ih h2]
  .cases h
theorem af4{args:Array Value}{Q:Next->AH->Prop}(hf:P.funcs[f]?=some fn)(hn:(fn.name == "runtime.NumGoroutine")=false)(hb:fn.body.isNone=false)(h:Q (.enter f args) I):awp P ro (callFunc f args) Q I:=by
 unfold callFunc
 show awp P ro (Sem.bind program _) Q I
 rw[jL]
 show awp P ro (match P.funcs[f]? with | none=>_ | some fn=>_) Q I
 rw[hf];dsimp only
 rw[hn,hb]
 exact h
theorem qF(ho:o.op= .call {callee:= .value (.func f),args:=ars,argTypes:=ts})(hf:P.funcs[f]?=some fn)(hn:(fn.name == "runtime.NumGoroutine")=false)(hb:fn.body.isNone=false)
  (ha:yI fr ars.toList=some vs) (h:qc P B ro f vs.toArray I fun v I=>K (qG o.dst v fr) I):wl P B ro o K fr I:=by
 intro ρ hρ
 have hm:=aat hρ _ ha
 have hfun:ρ (.func f)= .func (.func f) #[] #[]:=hρ _ _ rfl
 have e:execOp ρ o=callFunc f vs.toArray:=by
  unfold execOp;rw[ho]
  simp only[resolve,hfun,Deferred.ofValue,qV,qy,wN,invoke]
  congr 1
  have:ars.map ρ=vs.toArray:=Array.toList_inj.1 (by rw[Array.toList_map,hm])
  rw[this];simp
 rw[e]
 exact af4 hf hn hb h
theorem arW{first cap:Array Value}(ho:o.op= .call {callee:= .value x,args:=ars,argTypes:=ts})(hx:ql fr x=some (.func (.func f) first cap))(hf:P.funcs[f]?=some fn)(hn:(fn.name == "runtime.NumGoroutine")=false)(hb:fn.body.isNone=false)
  (ha:yI fr ars.toList=some vs) (h:qc P B ro f (first++vs.toArray++cap) I fun v I=>K (qG o.dst v fr) I):wl P B ro o K fr I:=by
 intro ρ hρ
 have hm:=aat hρ _ ha
 have e:execOp ρ o=callFunc f (first++vs.toArray++cap):=by
  unfold execOp;rw[ho]
  simp only[resolve,hρ _ _ hx,Deferred.ofValue,qV,qy,wN,invoke]
  congr 1
  have:ars.map ρ=vs.toArray:=Array.toList_inj.1 (by rw[Array.toList_map,hm])
  rw[this]
 rw[e]
 exact af4 hf hn hb h
theorem je{b:Builtin}{s:Sem Value}(ho:o.op= .call {callee:= .builtin b,args:=ars,argTypes:=ts})(ha:yI fr ars.toList=some vs)(hb:∀ cs,builtin b ts o.type cs vs.toArray=(do pure (.value (<-s))))
  (h:awp P ro s (fun v I=>K (qG o.dst v fr) I) I):wl P B ro o K fr I:=by
 refine X_sem (s:=s) (fun ρ hρ=>?_) h
 have hm:=aat hρ _ ha
 have:ars.map ρ=vs.toArray:=Array.toList_inj.1 (by rw[Array.toList_map,hm])
 unfold execOp;rw[ho]
 simp only[resolve,qV,qy,wN,invoke,this,hb]
end
end SL
namespace SL
open Go
variable{α β:Type}{τ:AH}{parts ps:Array (Nat×Operand)}{fs:Array Field}{ops:Array Oper}{ars:Array Operand}{ts:Array TypeId}{cs:Array Value}{b isS r:Bool}{Q:Exit->Fr->AH->Prop}{K next:Fr->AH->Prop}{i:Int}{k:IntKind}{pl:List (Nat×Nat)}{vs:List (Nat×Value)}{l rest:List Oper}{c id len n:Nat}{ρ:Operand->Value}{a ad p:Option Addr}{e t u:TypeId}{zv:Value}
section
variable{P:Program}{B:World}{ro:AH}{N:Nat}{o:Oper}{fr:Fr}{I:AH}{x y z:Operand}{v:Value}
def ajd(fr:Fr):Option Operand->Option Int->Prop
 | none,none=>True
 | some x,some i=> ∃k,ql fr x=some (.int k i)
 | _,_=>False
theorem afE{y:Nat}{c:BoundsCode}{f:Nat->Sem β}(h0:0<=i)(h1:i<=y):qf P ro (Sem.bind (Instr.sliceBound (.int k i) y c) f) τ=qf P ro (f i.toNat) τ:=by
 unfold Instr.sliceBound
 show qf P ro (Sem.bind (if 0<=i/\i<=y then pure i.toNat else _) f) τ=_
 rw[if_pos ⟨h0,h1⟩];try rfl
def ajP(lo:Option Int):Nat:=match lo with | some i=>i.toNat | none=>0
def cutHi(hi:Option Int)(len:Nat):Nat:=match hi with | some i=>i.toNat | none=>len
def cutOk(lo hi:Option Int)(len cap:Nat):Prop:=(match hi with | some i=>0<=i/\i<=cap | none=>True)/\(match lo with | some i=>0<=i/\i<=(cutHi hi len:Int) | none=>True)
theorem adJ(hρ:vZ ρ fr){a:Option Operand}{i:Option Int}(h:ajd fr a i):(a=none/\i=none)\/∃ k j,i=some j/\a.map ρ=some (.int k j):=by
 cases a with
 | none=>cases i with
  | none=>exact .inl ⟨rfl,rfl⟩
  | some j=>exact h.elim
 | some x=>cases i with
  | none=>exact h.elim
  | some j=>obtain⟨k,hk⟩:=h;exact .inr ⟨k,j,rfl,by simp[hρ _ _ hk]⟩
theorem ahM{lo hi:Option Int}{a b:Option Operand}(ha:(a=none/\lo=none)\/∃ k j,lo=some j/\a.map ρ=some (.int k j))(hb:(b=none/\hi=none)\/∃ k j,hi=some j/\b.map ρ=some (.int k j)){cap:Nat}
  (h:cutOk lo hi len cap) {f:Nat×Nat×Nat->Sem β} :qf P ro (Sem.bind (Instr.sliceBounds isS len cap (a.map ρ) (b.map ρ) none) f) τ=qf P ro (f (ajP lo,cutHi hi len,cap)) τ:=by
 obtain⟨h1,h2⟩:=h
 unfold Instr.sliceBounds
 simp only[qy,qV,wN,bind_assoc']
 rcases hb with⟨rfl,rfl⟩ | ⟨k,j,rfl,hb⟩
 .simp only[Option.map_none,wN]
  rcases ha with⟨rfl,rfl⟩ | ⟨k,j,rfl,ha⟩
  .rfl
  .rw[ha];dsimp only at h2⊢
   simp only[bind_assoc']
   rw[afE h2.1 (by simpa [cutHi]using h2.2)];try rfl
 .rw[hb];dsimp only at h1⊢
  simp only[bind_assoc']
  rw[afE h1.1 h1.2]
  rcases ha with⟨rfl,rfl⟩ | ⟨k,j,rfl,ha⟩
  .rfl
  .rw[ha];dsimp only at h2⊢
   simp only[bind_assoc']
   rw[afE h2.1 (by simpa [cutHi]using h2.2)];try rfl
theorem alU{a b:Option Operand}{lo hi:Option Int}{s:ByteArray}(ho:o.op= .slice t x a b none)(ht:P.underlying t=some .string)(hx:ql fr x=some (.string s))(ha:ajd fr a lo)(hb:ajd fr b hi)(h:cutOk lo hi s.size s.size):
  qL P ro o fr (.string (s.extract (ajP lo) (cutHi hi s.size))):=by
 intro ρ hρ
 have e:execOp ρ o=(do pure (.value (<-Instr.sliceAt t (.string s) (a.map ρ) (b.map ρ) none))):=by unfold execOp;rw[ho];simp only[hρ _ _ hx];rfl
 rw[e]
 show qf P ro (Sem.bind (Instr.sliceAt t (.string s) (a.map ρ) (b.map ρ) none) _) _=_
 unfold Instr.sliceAt
 simp only[qy,bind_assoc']
 rw[qC _ _ ht];dsimp only
 unfold Instr.slice
 simp only[qy,bind_assoc']
 rw[qC _ _ ht];dsimp only
 simp only[Option.isSome_none,Bool.false_eq_true,if_false,bind_assoc',qV,wN]
 rw[ahM (adJ hρ ha) (adJ hρ hb) h];try rfl
def wu(a:Option Addr)(lo cap s:Nat):Option Addr:=if cap=lo then a else a.map (·.add (lo*s))
theorem uP{a b:Option Operand}{lo hi:Option Int}{s bt:Nat}(ho:o.op= .slice t x a b none)(ht:P.underlying t=some (.slice e))(hz:qp P e zv s bt)(hx:ql fr x=some (.slice ad n c))(ha:ajd fr a lo)(hb:ajd fr b hi)(h:cutOk lo hi n c):
  qL P ro o fr (.slice (wu ad (ajP lo) c s) (cutHi hi n - ajP lo) (c - ajP lo)):=by
 intro ρ hρ
 have e':execOp ρ o=(do pure (.value (<-Instr.sliceAt t (.slice ad n c) (a.map ρ) (b.map ρ) none))):=by unfold execOp;rw[ho];simp only[hρ _ _ hx];rfl
 rw[e']
 show qf P ro (Sem.bind (Instr.sliceAt t (.slice ad n c) (a.map ρ) (b.map ρ) none) _) _=_
 unfold Instr.sliceAt
 simp only[qy,bind_assoc']
 rw[qC _ _ ht];dsimp only
 unfold Instr.slice
 simp only[qy,bind_assoc']
 rw[qC _ _ ht];dsimp only
 simp only[bind_assoc',qV,wN]
 rw[ahM (adJ hρ ha) (adJ hρ hb) h]
 dsimp only
 rw[pK hz];try rfl
theorem zP:ajd fr none none:=trivial
theorem zQ(h:ql fr x=some (.int k i)):ajd fr (some x) (some i):=⟨k,h⟩
def wP(P:Program):List Field->List (Nat×Nat)->Prop
 | [],[]=>True
 | f::r,p::q=>(p.1=f.offset/\∃ zv b,qp P f.type zv p.2 b)/\wP P r q
 | _,_=>False
theorem al7(h:wP P fs.toList pl){f:Array (Nat×Nat)->Sem β}:qf P ro (Sem.bind (fs.mapM fun fd=>do pure (fd.offset,<-sizeOf fd.type)) f) τ=qf P ro (f pl.toArray) τ:=by
 rw[Array.mapM_eq_mapM_toList]
 show qf P ro (Sem.bind (List.toArray <$> _) f) τ=_
 have gen:∀ (l:List Field) (pl:List (Nat×Nat)) {γ:Type} (g:List (Nat×Nat)->Sem γ),wP P l pl->qf P ro (Sem.bind (l.mapM fun fd=>do pure (fd.offset,<-sizeOf fd.type)) g) τ=qf P ro (g pl) τ:=by
  intro l
  induction l with
  | nil=>
   intro pl γ g h
   cases pl with
   | nil=>rfl
   | cons p q=>exact h.elim
  | cons fd r ih=>
   intro pl γ g h
   cases pl with
   | nil=>exact h.elim
   | cons p q=>
    obtain⟨⟨h1,zv,b,h2⟩,h3⟩:=h
    rw[List.mapM_cons]
    show qf P ro (Sem.bind (Sem.bind (Sem.bind (sizeOf fd.type) _) _) g) τ=_
    rw[bind_assoc',bind_assoc',pK h2]
    simp only[qV,wN,bind_assoc',qy]
    show qf P ro (Sem.bind (r.mapM fun fd=>do pure (fd.offset,<-sizeOf fd.type)) _) τ=_
    rw[ih q _ h3]
    have:(fd.offset,p.2)=p:=by rw[<-h1]
    simp only[this]
 have map_bind:∀ (s:Sem (List (Nat×Nat))),Sem.bind (List.toArray <$> s) f=Sem.bind s fun l=>f l.toArray:=by
  intro s
  show Sem.bind (Sem.bind s _) f=_
  rw[bind_assoc'];try rfl
 rw[map_bind,gen _ _ _ h]
def acN(fr:Fr):List (Nat×Operand)->Option (List (Nat×Value))
 | []=>some []
 | (i,x)::r=>match ql fr x,acN fr r with
  | some v,some vs=>some ((i,v)::vs)
  | _,_=>none
theorem ahq(hρ:vZ ρ fr)(h:acN fr ps.toList=some vs):(ps.map fun(i,x)=>(i,ρ x)).toList=vs:=by
 have gen:∀ (l:List (Nat×Operand)) {vs:List (Nat×Value)},acN fr l=some vs->l.map (fun(i,x)=>(i,ρ x))=vs:=by
  intro l
  induction l with
  | nil=>intro vs h;cases h;rfl
  | cons p r ih=>
   intro vs h
   obtain⟨i,x⟩:=p
   unfold acN at h
   split at h
   .rename_i v vs' h1 h2
    cases h
    rw[List.map_cons,ih h2]
    simp only[hρ _ _ h1]
   .cases h
 rw[Array.toList_map];exact gen _ h
theorem wz{b:Nat}(ho:o.op= .build t parts)(ht:P.underlying t=some (.struct fs))(hz:qp P t zv n b)(hp:wP P fs.toList pl)
  (hv':acN fr parts.toList=some vs) (hf:Instr.fill (fun i=>pl.toArray[i]?) zv.cells vs=some cs):qL P ro o fr (.agg cs):=by
 have hv:∀ ρ,vZ ρ fr->(parts.map fun(i,x)=>(i,ρ x)).toList=vs:=fun ρ hρ=>ahq hρ hv'
 intro ρ hρ
 have e:execOp ρ o=(do pure (.value (<-Instr.build t (parts.map fun(i,x)=>(i,ρ x))))):=by unfold execOp;rw[ho]
 rw[e]
 show qf P ro (Sem.bind (Instr.build t _) _) _=_
 unfold Instr.build
 simp only[qy,bind_assoc']
 rw[an4 hz,qC _ _ ht]
 dsimp only
 simp only[bind_assoc']
 refine(al7 hp).trans ?_
 rw[hv ρ hρ]
 simp only[hf];rfl
theorem zR{s b:Nat}(ho:o.op= .buildSlice t len parts)(ht:P.underlying t=some (.slice e))(hs:qp P e zv s b)(hlen:len*s<=16777216)
  (hv':acN fr parts.toList=some vs) (hf:Instr.fill (fun i=>some (i*s,s)) (aaL zv (len*s)) vs=some cs):adG P ro o fr (.cells cs e) (fun b=> .slice (some ⟨b,0,none⟩) len len):=by
 have hv:∀ ρ,vZ ρ fr->(parts.map fun(i,x)=>(i,ρ x)).toList=vs:=fun ρ hρ=>ahq hρ hv'
 intro ρ hρ
 have e':execOp ρ o=(do pure (.value (<-Instr.buildSlice t len (parts.map fun(i,x)=>(i,ρ x))))):=by unfold execOp;rw[ho]
 rw[e']
 have hn:jd P (Instr.buildSlice t len (parts.map fun(i,x)=>(i,ρ x)))=some (.cells cs e,fun b=>Sem.pure (.slice (some ⟨b,0,none⟩) len len)):=by
  unfold Instr.buildSlice
  simp only[qy]
  rw[ajO ht]
  dsimp only
  try simp only[qy]
  rw[ak5 hs]
  rw[if_neg (by omega)]
  by_cases hc:len*s=0
  .rw[if_pos hc]
   try simp only[qV,wN]
   rw[hv ρ hρ]
   have:Instr.fill (fun i=>some (i*s,s)) ((Array.range (len*s)).map fun i=>(#[]:Array Value)[i%(#[]:Array Value).size]!) vs=some cs:=by
    rw[<-hf];congr 1
    simp[aaL,hc]
   simp only[this];rfl
  .rw[if_neg hc]
   simp only[qV,wN]
   rw[ahL hs]
   try simp only[wN]
   rw[hv ρ hρ]
   have:Instr.fill (fun i=>some (i*s,s)) ((Array.range (len*s)).map fun i=>zv.cells[i%zv.cells.size]!) vs=some cs:=by rw[al6];exact hf
   simp only[this];rfl
 exact⟨_,adZ.go _ hn,fun b=>rfl⟩
theorem an5{fn:Fn}{first cap:Array Operand}{fs cs:List Value}(ho:o.op= .makeFunc fn first cap)(hf':yI fr first.toList=some fs)(hc':yI fr cap.toList=some cs):qL P ro o fr (.func fn fs.toArray cs.toArray):=by
 intro ρ hρ
 have hf:first.map ρ=fs.toArray:=Array.toList_inj.1 (by rw[Array.toList_map,aat hρ _ hf'])
 have hc:cap.map ρ=cs.toArray:=Array.toList_inj.1 (by rw[Array.toList_map,aat hρ _ hc'])
 unfold execOp;rw[ho];simp only[hf,hc];rfl
theorem ahN(t:TypeId)(a b:Value):Op.equal t a b=Op.equalIn (9999+1) t a b:=rfl
theorem arE{a b:Value}(ho:o.op= .binOp .eql t x y u)(hx:ql fr x=some a)(hy:ql fr y=some b)(hg:eqGuard .eql t x y a b=pure ())(hb:Go.binOp .eql t a b=(do pure (.bool (<-Op.equal t a b))))
  (hr:∀ τ,qf P ro (Op.equalIn (9999+1) t a b) τ=some r):qL P ro o fr (.bool r):=by
 refine pJ (s:=do eqGuard .eql t x y a b;Go.binOp .eql t a b) (fun ρ hρ=>?_) ?_
 .unfold execOp;rw[ho];simp only[hρ _ _ hx,hρ _ _ hy]
 .rw[hg,hb,ahN]
  have:=hr (fun _=>none)
  generalize Op.equalIn (9999+1) t a b=s at this
  show qf P ro (Sem.bind s fun b=>Sem.pure (Value.bool b)) _=_
  exact gen s this
where
 gen (s:Sem Bool) {w:Bool} (h:qf P ro s (fun _=>none)=some w):qf P ro (Sem.bind s fun b=>Sem.pure (Value.bool b)) (fun _=>none)=some (.bool w):=by
  induction s with
  | pure a=>cases h;rfl
  | load m a k ih=>
   simp only[qf]at h
   simp only[Sem.bind,qf]
   split at h
   .exact ih _ h
   .cases h
  | program k ih=>exact ih _ h
  | mark m k ih=>exact ih h
  | _=>cases h
theorem arF{a b:Value}(ho:o.op= .binOp .neq t x y u)(hx:ql fr x=some a)(hy:ql fr y=some b)(hg:eqGuard .neq t x y a b=pure ())(hb:Go.binOp .neq t a b=(do pure (.bool (!(<-Op.equal t a b)))))
  (hr:∀ τ,qf P ro (Op.equalIn (9999+1) t a b) τ=some r):qL P ro o fr (.bool (!r)):=by
 refine pJ (s:=do eqGuard .neq t x y a b;Go.binOp .neq t a b) (fun ρ hρ=>?_) ?_
 .unfold execOp;rw[ho];simp only[hρ _ _ hx,hρ _ _ hy]
 .rw[hg,hb,ahN]
  have:=hr (fun _=>none)
  generalize Op.equalIn (9999+1) t a b=s at this
  show qf P ro (Sem.bind s fun b=>Sem.pure (Value.bool !b)) _=_
  exact gen s this
where
 gen (s:Sem Bool) {w:Bool} (h:qf P ro s (fun _=>none)=some w):qf P ro (Sem.bind s fun b=>Sem.pure (Value.bool !b)) (fun _=>none)=some (.bool !w):=by
  induction s with
  | pure a=>cases h;rfl
  | load m a k ih=>
   simp only[qf]at h
   simp only[Sem.bind,qf]
   split at h
   .exact ih _ h
   .cases h
  | program k ih=>exact ih _ h
  | mark m k ih=>exact ih h
  | _=>cases h
theorem anp(ht:P.underlying t=some (.pointer e)):qf P ro (Op.equalIn (9999+1) t (.pointer p) (.pointer none)) τ=some p.isNone:=by
 unfold Op.equalIn
 show qf P ro (Sem.bind (underlying t) _) _=_
 rw[qC _ _ ht];cases p<;>rfl
theorem asN(ht:P.underlying t=some (.slice e)):qf P ro (Op.equalIn (9999+1) t (.slice a n c) (.slice none 0 0)) τ=some a.isNone:=by
 unfold Op.equalIn
 show qf P ro (Sem.bind (underlying t) _) _=_
 rw[qC _ _ ht];cases a<;>rfl
theorem aqf{a:Bool}(ht:P.underlying t=some .bool):qf P ro (Op.equalIn (9999+1) t (.bool a) (.bool b)) τ=some (a == b):=by
 unfold Op.equalIn
 show qf P ro (Sem.bind (underlying t) _) _=_
 rw[qC _ _ ht];try rfl
theorem adK(ho:o.op= .binOp .eql t x y u)(ht:P.underlying t=some (.pointer e))(hx:ql fr x=some (.pointer p))(hy:ql fr y=some (.pointer none)):qL P ro o fr (.bool p.isNone):=arE ho hx hy rfl (by cases p<;>rfl) fun _=>anp ht
theorem ajQ(ho:o.op= .binOp .neq t x y u)(ht:P.underlying t=some (.pointer e))(hx:ql fr x=some (.pointer p))(hy:ql fr y=some (.pointer none)):qL P ro o fr (.bool (!p.isNone)):=arF ho hx hy rfl (by cases p<;>rfl) fun _=>anp ht
theorem alV(ho:o.op= .binOp .eql t x y u)(ht:P.underlying t=some (.slice e))(hx:ql fr x=some (.slice a n c))(hy:ql fr y=some (.slice none 0 0)):qL P ro o fr (.bool a.isNone):=arE ho hx hy rfl rfl fun _=>asN ht
theorem ats{a:Bool}(ho:o.op= .binOp .neq t x y u)(ht:P.underlying t=some .bool)(hx:ql fr x=some (.bool a))(hy:ql fr y=some (.bool b)):qL P ro o fr (.bool (!(a == b))):=arF ho hx hy rfl rfl fun _=>aqf ht
theorem arG{b:Builtin}{vs:List Value}{s:Sem Value}(ho:o.op= .call {callee:= .builtin b,args:=ars,argTypes:=ts})(ha:yI fr ars.toList=some vs)(hb:∀ cs,builtin b ts o.type cs vs.toArray=(do pure (.value (<-s))))
  (hs:qf P ro s (fun _=>none)=some v):qL P ro o fr v:=by
 refine pJ (s:=s) (fun ρ hρ=>?_) hs
 have hm:=aat hρ _ ha
 have:ars.map ρ=vs.toArray:=Array.toList_inj.1 (by rw[Array.toList_map,hm])
 unfold execOp;rw[ho]
 simp only[resolve,qV,qy,wN,invoke,this,hb]
theorem al8{a b:Int}(ho:o.op= .call {callee:= .builtin .min,args:=ars,argTypes:=ts})(ha:yI fr ars.toList=some [.int k a,.int k b]):qL P ro o fr (.int k (if b<a then b else a)):=
 arG ho ha (fun _=>rfl) rfl
theorem aoW{a b:Int}(ho:o.op= .call {callee:= .builtin .max,args:=ars,argTypes:=ts})(ha:yI fr ars.toList=some [.int k a,.int k b]):qL P ro o fr (.int k (if a<b then b else a)):=
 arG ho ha (fun _=>rfl) rfl
def nw(ro I:AH)(ob:Obj)(K:Nat->AH->Prop):Prop:= ∀b,ro b=none->I b=none->K b (upd I b ob)
theorem zD{a:Addr}{K K':AH->Prop}:∀ {vs:List Value} {i:Nat} {I:AH},stN a K vs i I->(∀I,K I->K' I)->stN a K' vs i I:=by
 intro vs
 induction vs with
 | nil=>intro i I h hk;exact hk _ h
 | cons v r ih=>
  intro i I h hk
  obtain⟨h0,h1,c,e,fz,h2,h3,h4,h5⟩:=h
  exact⟨h0,h1,c,e,fz,h2,h3,h4,ih h5 hk⟩
theorem ju(h:K fr I):qU P B ro N ops (wk K) [] fr I:=⟨fr,qo.refl _,h⟩
theorem qd(h:next fr I):ab8 next Q .normal fr I:=h
theorem qH(h:Q (.exit id) fr I):ab8 next Q (.exit id) fr I:=h
theorem qi(h:Q .ret fr I):ab8 next Q .ret fr I:=h
theorem qD(h:Q .normal fr I):adV id Q .normal fr I:=h
theorem wB(h:Q .normal fr I):adV id Q (.exit id) fr I:=by
 show(if id=id then Q .normal fr I else Q (.exit id) fr I);rw[if_pos rfl];exact h
theorem asO{id':Nat}(hne:(id' == id)=false)(h:Q (.exit id') fr I):adV id Q (.exit id') fr I:=by
 show(if id'=id then Q .normal fr I else Q (.exit id') fr I);rw[if_neg (by simpa using hne)];exact h
theorem qx(h:Q .ret fr I):adV id Q .ret fr I:=h
theorem Lyb{j t:Nat}{want:Bool}(hg:o.guard=some (j,want))(hd:wU N o.dst=true)(ht:(ops[j]?).bind (·.dst)=some t)(hl:look fr t=some (.bool b))(e:b=want)
  (h:wl P B ro o (qU P B ro N ops K rest) fr I):qU P B ro N ops K (o::rest) fr I:=Ly hg hd ht (by rw[hl,e]) h
theorem qO(m:Nat)(b:Bool){p:Prop}[Decidable p]{X Y:Prop}(hi:b=true↔p)(h:if p then X else Y)(J:Fr->AH->Prop)
  (hy:X->b=true->(∀fr I,J fr I->qU P B ro N ops K (l.drop m) fr I)->qU P B ro N ops K l fr I) (hn:Y->b=false->(∀fr I,J fr I->qU P B ro N ops K (l.drop m) fr I)->qU P B ro N ops K l fr I)
  (hk:∀ fr I,J fr I->qU P B ro N ops K (l.drop m) fr I):qU P B ro N ops K l fr I:=by
 cases e:b with
 | true=>rw[if_pos (hi.1 e)]at h;exact hy h e hk
 | false=>rw[if_neg (fun q=>by rw[hi.2 q]at e;cases e)]at h;exact hn h e hk
theorem wW(m:Nat)(b:Bool)(F:Fr)
  (hy:b=true->(∀fr,qo F fr->qU P B ro N ops K (l.drop m) fr I)->qU P B ro N ops K l fr I) (hn:b=false->(∀fr,qo F fr->qU P B ro N ops K (l.drop m) fr I)->qU P B ro N ops K l fr I)
  (hk:∀ fr,qo F fr->qU P B ro N ops K (l.drop m) fr I):qU P B ro N ops K l fr I:=by
 cases e:b with
 | true=>exact hy e hk
 | false=>exact hn e hk
theorem Lweak(hK:∀ {fr fr':Fr} {I:AH},qo fr fr'->K fr I->K fr' I):∀ {l:List Oper} {fr fr':Fr} {I:AH},qo fr fr'->qU P B ro N ops K l fr I->qU P B ro N ops K l fr' I:=by
 intro l
 induction l with
 | nil=>intro fr fr' I hl h;exact hK hl h
 | cons o r ih=>
  intro fr fr' I hl h
  have put:∀ (d:Option Tmp) (v:Value),qo (qG d v fr) (qG d v fr'):=by
   intro d v
   cases d with
   | none=>exact hl
   | some d=>
    intro i u hi
    rw[agy]at hi⊢
    by_cases e:i=d
    .rw[if_pos e]at hi ⊢;exact hi
    .rw[if_neg e]at hi ⊢;exact hl i u hi
  have ag:∀ {ρ},vZ ρ fr'->vZ ρ fr:=by
   intro ρ hρ x v hx
   refine hρ x v ?_
   cases x<;>first | exact hl _ _ hx | exact hx
  have ex:wl P B ro o (qU P B ro N ops K r) fr I->wl P B ro o (qU P B ro N ops K r) fr' I:=by
   intro hx ρ hρ
   refine qm _ (hx ρ (ag hρ)) ?_
   intro n I' hn
   cases n<;>first | exact ih (put _ _) hn | exact qc.mono hn fun v I h=>ih (put _ _) h | exact hn
  obtain⟨h0,h⟩:=h
  refine⟨h0,?_⟩
  split at h
  .exact ex h
  .obtain⟨t,v,h1,h2,h3⟩:=h
   exact⟨t,v,h1,hl _ _ h2,h3.imp (fun⟨a,b⟩=>⟨a,ex b⟩) (fun⟨a,b⟩=>⟨a,ih (put _ _) b⟩)⟩
theorem qu{p:Prop}(h:b=true↔p):(!b)=true↔¬ p:=by
 cases b<;>simp at h⊢ <;>simp[h]
theorem acj{a:Bool}{p q:Prop}(h:a=true↔p)(k:b=true↔q):(a && b)=true↔(p/\q):=by
 rw[Bool.and_eq_true,h,k]
theorem zG{a:Bool}{p q:Prop}(h:a=true↔p)(k:b=true↔q):(a || b)=true↔(p\/q):=by
 rw[Bool.or_eq_true,h,k]
theorem zt{a:Option α}:a.isNone=true↔a=none:=by cases a<;>simp
theorem aqg{a:Bool}:(a == b)=true↔a=b:=by simp
end
end SL
namespace SL
open Go
variable{τ φ:AH}{a ad:Addr}{ops:Array Oper}{args:Array Value}{b ok want:Bool}{K:Fr->AH->Prop}{fn:Func}{f:FuncId}{rest:List Nat}{vs:List Value}{i j:Nat}{cl:Nat->Nat}{G p:Prop}{d:TypeDesc}{t:TypeId}{u zv:Value}{Q Q' R:Value->AH->Prop}
section
variable{P:Program}{B:World}{ro:AH}{N:Nat}{o:Oper}{fr:Fr}{I:AH}{x y z:Operand}{v:Value}
theorem agC{α β:Type}(s:Sem α){f:α->Sem β}{w:α}(h:qf P ro s τ=some w):qf P ro (Sem.bind s f) τ=qf P ro (f w) τ:=by
 induction s with
 | pure a=>cases h;rfl
 | load m a k ih=>
  simp only[qf]at h
  simp only[Sem.bind,qf]
  split at h
  .exact ih _ h
  .cases h
 | program k ih=>exact ih _ h
 | mark m k ih=>exact ih h
 | _=>cases h
theorem evb{c:Bool}(e:b=c)(h:ql fr x=some (.bool b):=by rfl):ql fr x=some (.bool c):=by rw[h,e]
theorem ixL{s:Sl}{fr:Fr}{x:Operand}(h:ql fr x=some (Sl.v s))(ha:s.a=some a):ql fr x=some (.slice (some a) s.len s.cap):=by rw[h,<-ha];try rfl
theorem qX{rest:List Oper}{t:Nat}(he:qL P ro o fr u)(hg:o.guard=some (j,want))(hd:wU N o.dst=true)(ht:(ops[j]?).bind (·.dst)=some t)(hl:look fr t=some (.bool b))(e:b=want)
  (h:qU P B ro N ops K rest (qG o.dst u fr) I):qU P B ro N ops K (o::rest) fr I:=Lyp he hg hd ht (by rw[hl,e]) h
theorem Lfr{rest:List Oper}{fr':Fr}(hl:qo fr' fr)(h:qU P B ro N ops (wk K) rest fr' I):qU P B ro N ops (wk K) rest fr I:=
 Lweak (fun hl ⟨f0,h1,h2⟩=>⟨f0,fun i v e=>hl i v (h1 i v e),h2⟩) hl h
theorem arH{s:TypeId}(ho:o.op= .convert s t x)(hx:ql fr x=some u)(h:awp P ro (convert s t u) (fun v I=>K (qG o.dst v fr) I) I):wl P B ro o K fr I:=
 X_sem (fun ρ hρ=>by unfold execOp;rw[ho];simp only[hρ _ _ hx]) h
theorem jC{w:Value}(ho:o.op= .lookup t x y ok)(hx:ql fr x=some u)(hy:ql fr y=some w)(h:awp P ro (Instr.lookup t u w ok) (fun v I=>K (qG o.dst v fr) I) I):wl P B ro o K fr I:=
 X_sem (fun ρ hρ=>by unfold execOp;rw[ho];simp only[hρ _ _ hx,hρ _ _ hy]) h
theorem alW(ho:o.op= .range t x)(hx:ql fr x=some u)(h:awp P ro (Instr.range t u) (fun v I=>K (qG o.dst v fr) I) I):wl P B ro o K fr I:=
 X_sem (fun ρ hρ=>by unfold execOp;rw[ho];simp only[hρ _ _ hx]) h
theorem alX(ho:o.op= .next x b)(ht:o.type=t)(hx:ql fr x=some u)(h:awp P ro (Instr.next u b t) (fun v I=>K (qG o.dst v fr) I) I):wl P B ro o K fr I:=
 X_sem (fun ρ hρ=>by unfold execOp;rw[ho];simp only[hρ _ _ hx,ht]) h
theorem an6(ho:o.op= .entry x)(hx:ql fr x=some u)(h:awp P ro (Instr.entry u) (fun v I=>K (qG o.dst v fr) I) I):wl P B ro o K fr I:=
 X_sem (fun ρ hρ=>by unfold execOp;rw[ho];simp only[hρ _ _ hx]) h
theorem afq{w q:Value}(ho:o.op= .mapUpdate t x y z\/o.op= .insert t x y z)(hx:ql fr x=some u)(hy:ql fr y=some w)(hz:ql fr z=some q)(h:awp P ro (Instr.mapUpdate t u w q) (fun _ I=>K (qG o.dst undef fr) I) I):wl P B ro o K fr I:=
 X_semU (fun ρ hρ=>by unfold execOp;rcases ho with ho | ho<;>rw[ho]<;>simp only[hρ _ _ hx,hρ _ _ hy,hρ _ _ hz]) h
def Sep(ro I:AH):Prop:= ∀b o,I b=some o->ro b=none
theorem Own.sep{B:World}{w:World}(h:Own B ro φ I w):Sep ro I:=fun b o e=>(h.own b o e).2.2
theorem qc.of_sep(h:Sep ro I->qc P B ro f args I Q):qc P B ro f args I Q:=fun φ w ho=>h ho.sep φ w ho
theorem qc.monoS(h:qc P B ro f args I Q)(hq:∀ v I,Sep ro I->Q v I->Q' v I):qc P B ro f args I Q':=
 fun φ w ho=>(h φ w ho).mono fun _ _ ⟨v,I',e,q,o⟩=>⟨v,I',e,hq _ _ o.sep q,o⟩
theorem aeU(b:Bool)[Decidable p]{X Y:Prop}(hi:b=true↔p)(h:if p then X else Y)(hy:X->b=true->G)(hn:Y->b=false->G):G:=by
 cases e:b with
 | true=>rw[if_pos (hi.1 e)]at h;exact hy h e
 | false=>rw[if_neg (fun q=>by rw[hi.2 q]at e;cases e)]at h;exact hn h e
theorem Dpy{t:Nat}(ho':aaT ops.toList i=some o)(hc:cl i=0)(hg:o.guard=some (j,want))(ht:(ops[j]?).bind (·.dst)=some t)(hl:look fr t=some (.bool b))(e:b=want)(hd:wU N o.dst=true)(he:qL P ro o fr u)
  (h:wj P B ro N ops cl K rest (qG o.dst u fr) I):wj P B ro N ops cl K (i::rest) fr I:=by
 have ho:=aas ho'
 unfold wj D1;rw[ho];dsimp only;rw[hc]
 exact⟨hd,u,by unfold vR;rw[hg];exact⟨t,_,ht,hl,.inl ⟨by rw[e],he⟩⟩,h⟩
theorem Dry{t:Nat}(ho':aaT ops.toList i=some o)(hc:cl i=3)(hg:o.guard=some (j,want))(ht:(ops[j]?).bind (·.dst)=some t)(hl:look fr t=some (.bool b))(e:b=want)(hd:wU N o.dst=true)(he:jK P ro I o fr u)
  (h:wj P B ro N ops cl K rest (qG o.dst u fr) I):wj P B ro N ops cl K (i::rest) fr I:=by
 have ho:=aas ho'
 unfold wj D1;rw[ho];dsimp only;rw[hc]
 exact⟨hd,u,by unfold vR;rw[hg];exact⟨t,_,ht,hl,.inl ⟨by rw[e],he⟩⟩,h⟩
theorem Drn{t:Nat}{v:Value}(ho':aaT ops.toList i=some o)(hc:cl i=3)(hg:o.guard=some (j,want))(ht:(ops[j]?).bind (·.dst)=some t)(hl:look fr t=some v)(hv:v= .bool (!want)\/v=undef)(hd:wU N o.dst=true)
  (h:wj P B ro N ops cl K rest (qG o.dst undef fr) I):wj P B ro N ops cl K (i::rest) fr I:=by
 have ho:=aas ho'
 unfold wj D1;rw[ho];dsimp only;rw[hc]
 refine⟨hd,undef,?_,h⟩
 unfold vR;rw[hg]
 refine⟨t,_,ht,hl,.inr ⟨?_,rfl⟩⟩
 rcases hv with rfl | rfl
 .cases want<;>simp
 .simp[undef]
theorem qA(ho:o.op= .load t x)(ht:P.underlying t=some d)(hd:aaX d=false)(hx:ql fr x=some (.pointer (some a)))(hc:qa ro I a=some v):jK P ro I o fr v:=by
 intro ρ hρ
 have e:execOp ρ o=(do pure (.value (<-loadVar t a))):=by unfold execOp;rw[ho];simp only[hρ _ _ hx];rfl
 rw[e]
 show qf P ro (Sem.bind (loadVar t a) _) I=_
 unfold loadVar
 show qf P ro (Sem.bind (Sem.bind (isAgg t) _) _) I=_
 rw[bind_assoc',ua ht,hd]
 show qf P ro (Sem.load .plain a _) I=_
 simp only[qf,hc]
 try rfl
theorem xH{b:Nat}(ho:o.op= .load t x)(ht:P.underlying t=some d)(hd:aaX d=true)(hz:qp P t zv vs.length b)(hx:ql fr x=some (.pointer (some a)))
  (hc:qg ro I a 0 vs):jK P ro I o fr (.agg vs.toArray):=by
 intro ρ hρ
 have e:execOp ρ o=(do pure (.value (<-loadVar t a))):=by unfold execOp;rw[ho];simp only[hρ _ _ hx];rfl
 rw[e]
 show qf P ro (Sem.bind (loadVar t a) _) I=_
 unfold loadVar
 show qf P ro (Sem.bind (Sem.bind (isAgg t) _) _) I=_
 rw[bind_assoc',ua ht,hd]
 show qf P ro (Sem.bind (Sem.bind (sizeOf t) _) _) I=_
 rw[bind_assoc',pK hz]
 show qf P ro (Sem.bind (Sem.bind (loadCellsFrom a 0 vs.length #[]) _) _) I=_
 rw[bind_assoc',agC _ (acZ (P:=P) vs 0 #[] hc)]
 simp[qV,wN,qf]
theorem Dpn{t:Nat}{v:Value}(ho':aaT ops.toList i=some o)(hc:cl i=0)(hg:o.guard=some (j,want))(ht:(ops[j]?).bind (·.dst)=some t)(hl:look fr t=some v)(hv:v= .bool (!want)\/v=undef)(hd:wU N o.dst=true)
  (h:wj P B ro N ops cl K rest (qG o.dst undef fr) I):wj P B ro N ops cl K (i::rest) fr I:=by
 have ho:=aas ho'
 unfold wj D1;rw[ho];dsimp only;rw[hc]
 refine⟨hd,undef,?_,h⟩
 unfold vR;rw[hg]
 refine⟨t,_,ht,hl,.inr ⟨?_,rfl⟩⟩
 rcases hv with rfl | rfl
 .cases want<;>simp
 .simp[undef]
theorem Dgy{t:Nat}(ho':aaT ops.toList i=some o)(hc:cl i=2)(hg:o.guard=some (j,want))(ht:(ops[j]?).bind (·.dst)=some t)(hl:look fr t=some (.bool b))(e:b=want)(hd:wU N o.dst=true)
  (h:wl P B ro o (wj P B ro N ops cl K rest) fr I):wj P B ro N ops cl K (i::rest) fr I:=by
 have ho:=aas ho'
 unfold wj D1;rw[ho];dsimp only;rw[hc]
 refine⟨hd,?_⟩;rw[hg];exact⟨t,_,ht,hl,.inl ⟨by rw[e],h⟩⟩
theorem Dgn{t:Nat}{v:Value}(ho':aaT ops.toList i=some o)(hc:cl i=2)(hg:o.guard=some (j,want))(ht:(ops[j]?).bind (·.dst)=some t)(hl:look fr t=some v)(hv:v= .bool (!want)\/v=undef)(hd:wU N o.dst=true)
  (h:wj P B ro N ops cl K rest (qG o.dst undef fr) I):wj P B ro N ops cl K (i::rest) fr I:=by
 have ho:=aas ho'
 unfold wj D1;rw[ho];dsimp only;rw[hc]
 refine⟨hd,?_⟩;rw[hg]
 refine⟨t,_,ht,hl,.inr ⟨?_,h⟩⟩
 rcases hv with rfl | rfl
 .cases want<;>simp
 .simp[undef]
def ac0(P:Program)(B:World)(ro:AH)(f:Value)(vs:List Value)(I:AH)(Q:Value->AH->Prop):Prop:=
 ∃k fn first cap,f= .func (.func k) first cap/\P.funcs[k]?=some fn/\(fn.name == "runtime.NumGoroutine")=false/\fn.body.isNone=false/\qc P B ro k (first++vs.toArray++cap) I Q
theorem aeA{f:Value}(h:ac0 P B ro f vs I Q)(hq:∀ v I,Q v I->Q' v I):ac0 P B ro f vs I Q':=by
 obtain⟨k,fn,first,cap,h1,h2,h3,h4,h5⟩:=h
 exact⟨k,fn,first,cap,h1,h2,h3,h4,h5.mono hq⟩
theorem ait{f:Value}{ars:Array Operand}{ts:Array TypeId}(ho:o.op= .call {callee:= .value x,args:=ars,argTypes:=ts})(hx:ql fr x=some f)(ha:yI fr ars.toList=some vs)
  (h:ac0 P B ro f vs I fun v I=>K (qG o.dst v fr) I):wl P B ro o K fr I:=by
 obtain⟨k,fn,first,cap,rfl,h2,h3,h4,h5⟩:=h
 exact arW ho hx h2 h3 h4 ha h5
def alY(P:Program)(ro:AH)(fr:Fr)(I:AH)(r:ResultVar)(v:Value):Prop:=
 ∀tmps:Array Value,(∀i u,look fr i=some u->tmps[i]?=some u)->qf P ro (match r with | .tmp t=>pure (tmps.getD t undef) | .cell a t=>do loadVar t (<-asAddr (tmps.getD a undef))) I=some v
def adL(P:Program)(ro:AH)(fr:Fr)(I:AH):List ResultVar->List Value->Prop
 | [],[]=>True
 | r::rs,v::vs=>alY P ro fr I r v/\adL P ro fr I rs vs
 | _,_=>False
theorem vT:adL P ro fr I [] []:=trivial
theorem wC{r:ResultVar}{rs:List ResultVar}{v:Value}(h:alY P ro fr I r v)(hs:adL P ro fr I rs vs):adL P ro fr I (r::rs) (v::vs):=⟨h,hs⟩
theorem afF{t:Nat}(h:look fr t=some v):alY P ro fr I (.tmp t) v:=by
 intro tmps ht
 simp[Array.getD_eq_getD_getElem?,ht t v h,qV,qf]
theorem vV{a:Nat}{b:Nat}(h:look fr a=some (.pointer (some ad)))(ht:P.underlying t=some d)(hd:aaX d=true)(hz:qp P t zv vs.length b)(hc:qg ro I ad 0 vs):alY P ro fr I (.cell a t) (.agg vs.toArray):=by
 intro tmps hh
 have e:tmps.getD a undef= .pointer (some ad):=by simp[Array.getD_eq_getD_getElem?,hh a _ h]
 dsimp only
 rw[e]
 show qf P ro (loadVar t ad) I=_
 unfold loadVar
 show qf P ro (Sem.bind (isAgg t) _) _=_
 rw[ua ht,hd]
 show qf P ro (Sem.bind (sizeOf t) _) _=_
 rw[pK hz]
 have:=acZ (P:=P) vs 0 #[] hc
 show qf P ro (Sem.bind (loadCellsFrom ad 0 vs.length #[]) fun cs=>Sem.pure (Value.agg cs)) _=_
 rw[agC _ this]
 simp[qf]
theorem arI{rs:List ResultVar}{v:Value}(hr:fn.results=rs.toArray)(h:adL P ro fr I rs [v])(hR:R v I):
  ∃v,(∀tmps:Array Value,(∀i u,look fr i=some u->tmps[i]?=some u)->qf P ro (results fn tmps) I=some v)/\R v I:=by
 refine⟨v,fun tmps ht=>?_,hR⟩
 exact results_of hr h tmps ht
where
 map_of {β:Type}:∀ (rs:List ResultVar) (vs:List Value) (f:List Value->Sem β),adL P ro fr I rs vs->∀ tmps:Array Value,(∀i u,look fr i=some u->tmps[i]?=some u)->
   qf P ro (Sem.bind (rs.mapM fun r=>match r with | .tmp t=>pure (tmps.getD t undef) | .cell a t=>do loadVar t (<-asAddr (tmps.getD a undef))) f) I=qf P ro (f vs) I:=by
  intro rs
  induction rs with
  | nil=>
   intro vs f h tmps ht
   cases vs with
   | nil=>rfl
   | cons v vs=>exact h.elim
  | cons r rs ih=>
   intro vs f h tmps ht
   cases vs with
   | nil=>exact h.elim
   | cons v vs=>
    obtain⟨h1,h2⟩:=h
    rw[List.mapM_cons]
    show qf P ro (Sem.bind (Sem.bind _ _) f) I=_
    rw[bind_assoc',agC _ (h1 tmps ht)]
    show qf P ro (Sem.bind (Sem.bind _ _) f) I=_
    rw[bind_assoc',ih vs _ h2 tmps ht]
    try rfl
 results_of {fn:Func} {rs:List ResultVar} {vs:List Value} (hr:fn.results=rs.toArray) (h:adL P ro fr I rs vs) (tmps:Array Value) (ht:∀ i u,look fr i=some u->tmps[i]?=some u):
   qf P ro (results fn tmps) I=some (if h:vs.toArray.size=1 then vs.toArray[0]else .tuple vs.toArray):=by
  unfold results
  rw[hr,Array.mapM_eq_mapM_toList,List.toList_toArray]
  show qf P ro (Sem.bind (Sem.bind _ _) _) I=_
  rw[bind_assoc']
  exact(map_of rs vs _ h tmps ht).trans rfl
theorem at2{rs:List ResultVar}{v w:Value}(hr:fn.results=rs.toArray)(h:adL P ro fr I rs (v::w::vs))(hR:R (.tuple (v::w::vs).toArray) I):
  ∃v,(∀tmps:Array Value,(∀i u,look fr i=some u->tmps[i]?=some u)->qf P ro (results fn tmps) I=some v)/\R v I:=by
 refine⟨_,fun tmps ht=>?_,hR⟩
 refine(arI.results_of hr h tmps ht).trans ?_
 rw[dif_neg (by simp)]
theorem bR0(hr:fn.results= #[])(h:R (.tuple #[]) I):aez P ro fn R .ret fr I:=asH hr h
theorem bR1{a:Nat}{x:Value}(hr:fn.results= #[.tmp a])(ha:look fr a=some x)(h:R x I):aez P ro fn R .ret fr I:=asI hr ha h
theorem bR2{a b:Nat}{x y:Value}(hr:fn.results= #[.tmp a,.tmp b])(ha:look fr a=some x)(hb:look fr b=some y)(h:R (.tuple #[x,y]) I):aez P ro fn R .ret fr I:=atZ hr ha hb h
theorem bR3{a b c:Nat}{x y z:Value}(hr:fn.results= #[.tmp a,.tmp b,.tmp c])(ha:look fr a=some x)(hb:look fr b=some y)(hc:look fr c=some z)(h:R (.tuple #[x,y,z]) I):aez P ro fn R .ret fr I:=at0 hr ha hb hc h
theorem xI{rs:List ResultVar}{v:Value}(hr:fn.results=rs.toArray)(h:adL P ro fr I rs [v])(hR:R v I):aez P ro fn R .ret fr I:=arI hr h hR
theorem bRM{rs:List ResultVar}{v w:Value}(hr:fn.results=rs.toArray)(h:adL P ro fr I rs (v::w::vs))(hR:R (.tuple (v::w::vs).toArray) I):aez P ro fn R .ret fr I:=at2 hr h hR
theorem bN0(hr:fn.results= #[])(h:R (.tuple #[]) I):aez P ro fn R .normal fr I:=asH hr h
end
end SL
namespace SL
open Go
variable{a:Addr}{fs:Array Field}{ops':Array Oper}{b want:Bool}{Q:Exit->Fr->AH->Prop}{fd:Field}{fn:Func}{f:FuncId}{l:List Nat}{args vs:List Value}{i id j n:Nat}{cl:Nat->Nat}{c:Operand}{s t tz:TypeId}{u zv:Value}
section
variable{P:Program}{B:World}{ro:AH}{N:Nat}{o:Oper}{fr:Fr}{I:AH}{x y z:Operand}{ops:Array Oper}{K:Fr->AH->Prop}{rest:List Oper}
theorem zp(h:qU P B ro N ops K rest (qG o.dst u fr) I)(he:qL P ro o fr u:=by first | exact jl rfl rfl | exact agB rfl rfl | exact ajH rfl rfl rfl | exact alR rfl rfl rfl | exact alO rfl rfl rfl | exact anY rfl rfl rfl | exact ajJ rfl rfl rfl | exact an1 rfl rfl | exact ajI rfl rfl rfl | exact ajK rfl rfl rfl | exact alQ rfl rfl rfl | exact anZ rfl rfl rfl | exact alP rfl rfl rfl | exact an0 rfl rfl rfl)(hg:o.guard=none:=by exact rfl)(hd:wU N o.dst=true:=by exact rfl):qU P B ro N ops K (o::rest) fr I:=Lp he hg hd h
theorem zq(h:wj P B ro N ops cl K l (qG o.dst u fr) I)(ho':aaT ops.toList i=some o:=by exact rfl)(hc:cl i=0:=by exact rfl)(hg:o.guard=none:=by exact rfl)(hd:wU N o.dst=true:=by exact rfl)(he:qL P ro o fr u:=by first | exact jl rfl rfl | exact agB rfl rfl | exact ajH rfl rfl rfl | exact alR rfl rfl rfl | exact alO rfl rfl rfl | exact anY rfl rfl rfl | exact ajJ rfl rfl rfl | exact an1 rfl rfl | exact ajI rfl rfl rfl | exact ajK rfl rfl rfl | exact alQ rfl rfl rfl | exact anZ rfl rfl rfl | exact alP rfl rfl rfl | exact an0 rfl rfl rfl):wj P B ro N ops cl K (i::l) fr I:=Dp ho' hc hg hd he h
theorem zn{t:Nat}{c:Bool}(e:b=c)(h:qU P B ro N ops K rest (qG o.dst undef fr) I)(hg:o.guard=some (j,want):=by exact rfl)(hw:c= !want:=by exact rfl)(hd:wU N o.dst=true:=by exact rfl)(ht:(ops[j]?).bind (·.dst)=some t:=by exact rfl)(hl:look fr t=some (.bool b):=by exact rfl):qU P B ro N ops K (o::rest) fr I:=Ln hg hd ht hl (.inl (by rw[e,hw])) h
theorem zy{t:Nat}(e:b=want)(h:qU P B ro N ops K rest (qG o.dst u fr) I)(hg:o.guard=some (j,want):=by exact rfl)(hd:wU N o.dst=true:=by exact rfl)(ht:(ops[j]?).bind (·.dst)=some t:=by exact rfl)(hl:look fr t=some (.bool b):=by exact rfl)(he:qL P ro o fr u:=by first | exact jl rfl rfl | exact agB rfl rfl | exact ajH rfl rfl rfl | exact alR rfl rfl rfl | exact alO rfl rfl rfl | exact anY rfl rfl rfl | exact ajJ rfl rfl rfl | exact an1 rfl rfl | exact ajI rfl rfl rfl | exact ajK rfl rfl rfl | exact alQ rfl rfl rfl | exact anZ rfl rfl rfl | exact alP rfl rfl rfl | exact an0 rfl rfl rfl):qU P B ro N ops K (o::rest) fr I:=qX he hg hd ht hl e h
theorem zl(h:wl P B ro o (qU P B ro N ops K rest) fr I)(hg:o.guard=none:=by exact rfl)(hd:wU N o.dst=true:=by exact rfl):qU P B ro N ops K (o::rest) fr I:=Ls hg hd h
theorem zm(he:qL P ro o fr u)(h:qU P B ro N ops K rest (qG o.dst u fr) I)(hg:o.guard=none:=by exact rfl)(hd:wU N o.dst=true:=by exact rfl):qU P B ro N ops K (o::rest) fr I:=Lp he hg hd h
theorem FL{l fr':Fr}(h:qo l fr':=by repeat first | exact qo.nil _ | refine qo.cons rfl ?_):qo l fr':=h
theorem Fe{l fr':Fr}{c:Bool}(e:b=c)(h:b=c->qo l fr':=by intro e;repeat first | exact qo.nil _ | refine qo.cons rfl ?_ | refine qo.cons (by rw[e];try rfl) ?_):qo l fr':=h e
theorem z3{y:Code}(h:qU P B ro N ops' (wk ((ab8 (AW P B ro N y Q) Q) .normal)) ops'.toList fr I):AW P B ro N (.seq (.region id ops' false) y) Q fr I:=AW.seq (AW.reg h)
theorem z2{next:Fr->AH->Prop}(h:next fr I):qU P B ro N ops (wk (ab8 next Q .normal)) [] fr I:=ju (qd h)
theorem z4{y:Code}{Q0:Exit->Fr->AH->Prop}(h:qU P B ro N ops' (wk ((ab8 (AW P B ro N y Q) Q) .normal)) ops'.toList fr I):qU P B ro N ops (wk (ab8 (AW P B ro N (.seq (.region id ops' false) y) Q) Q0 .normal)) [] fr I:=ju (qd (AW.seq (AW.reg h)))
theorem zL{α:Type}{enc:α->Value}{X:α->Prop}{d:TypeDesc}(ht:P.underlying t=some d)(h:∃ v,qa ro I a=some (enc v)/\X v)(k:∀ v,X v->qU P B ro N ops K rest (qG o.dst (enc v) fr) I)(ho:o.op= .load t x:=by exact rfl)(hd:aaX d=false:=by exact rfl)(hx:ql fr x=some (.pointer (some a)):=by exact rfl)(hg:o.guard=none:=by exact rfl)(hdd:wU N o.dst=true:=by exact rfl):qU P B ro N ops K (o::rest) fr I:=by
 obtain⟨v,hc,h⟩:=h
 exact Ls hg hdd (vG ho ht hd hx hc (k v h))
theorem zN{X:Addr->Prop}{a:Option Addr}(h:∃ p,a=some p/\X p)(k:∀ p,X p->qU P B ro N ops K rest (qG o.dst (.pointer (some p)) fr) I)(ho:o.op= .nilCheck x:=by exact rfl)(hx:ql fr x=some (.pointer a):=by exact rfl)(hg:o.guard=none:=by exact rfl)(hdd:wU N o.dst=true:=by exact rfl):qU P B ro N ops K (o::rest) fr I:=by
 obtain⟨p,rfl,h⟩:=h
 exact Lp (qr ho hx) hg hdd (k p h)
theorem zA{ob:Obj}{mk:Nat->Value}{X:Nat->AH->Prop}(he:adG P ro o fr ob mk)(h:nw ro I ob X)(k:∀ b,X b (upd I b ob)->qU P B ro N ops K rest (qG o.dst (mk b) fr) (upd I b ob))(hg:o.guard=none:=by exact rfl)(hdd:wU N o.dst=true:=by exact rfl):qU P B ro N ops K (o::rest) fr I:=Ls hg hdd (ajN he fun b h1 h2=>k b (h b h1 h2))
theorem zc{ars:Array Operand}{ts:Array TypeId}{Q:Value->AH->Prop}(hf:P.funcs[f]?=some fn)(h:qc P B ro f vs.toArray I Q)(k:∀ v I,Q v I->qU P B ro N ops K rest (qG o.dst v fr) I)(ho:o.op= .call {callee:= .value (.func f),args:=ars,argTypes:=ts}:=by exact rfl)(hn:(fn.name == "runtime.NumGoroutine")=false:=by exact rfl)(hb:fn.body.isNone=false:=by exact rfl)(ha:yI fr ars.toList=some vs:=by exact rfl)(hg:o.guard=none:=by exact rfl)(hdd:wU N o.dst=true:=by exact rfl):qU P B ro N ops K (o::rest) fr I:=Ls hg hdd (qF ho hf hn hb ha (qc.mono h k))
theorem zs{X:AH->Prop}{v:Value}{b:Nat}(hz:qp P t zv n b)(h:stN a X vs 0 I)(k:∀ I,X I->qU P B ro N ops K rest (qG o.dst undef fr) I)(ho:o.op= .store t x y:=by exact rfl)(hx:ql fr x=some (.pointer (some a)):=by exact rfl)(hy:ql fr y=some v:=by exact rfl)(hv:v.cells.toList=vs:=by exact rfl)(hn:vs.length=n:=by exact rfl)(hg:o.guard=none:=by exact rfl)(hdd:wU N o.dst=true:=by exact rfl):qU P B ro N ops K (o::rest) fr I:=Ls hg hdd (yR ho hz hx hy hv hn (zD h k))
theorem zf{f:Nat}{b:Nat}(hs:P.underlying s=some (.struct fs))(hz:qp P tz zv n b)(k:qU P B ro N ops K rest (qG o.dst (.pointer (some (a.add fd.offset))) fr) I)(ho:o.op= .fieldAddr s x f:=by exact rfl)(hf:fs[f]?=some fd:=by exact rfl)(ht:tz=fd.type:=by exact rfl)(hn:n≠0:=by decide)(hx:ql fr x=some (.pointer (some a)):=by exact rfl)(hg:o.guard=none:=by exact rfl)(hdd:wU N o.dst=true:=by exact rfl):qU P B ro N ops K (o::rest) fr I:=Lp (wm ho hs hf (ht▸hz) hn hx) hg hdd k
theorem zg{f:Nat}{b:Nat}(hs:P.underlying s=some (.struct fs))(hz:qp P tz zv n b)(k:wj P B ro N ops cl K l (qG o.dst (.pointer (some (a.add fd.offset))) fr) I)(h1:aaT ops.toList i=some o:=by exact rfl)(hc:cl i=0:=by exact rfl)(ho:o.op= .fieldAddr s x f:=by exact rfl)(hf:fs[f]?=some fd:=by exact rfl)(ht:tz=fd.type:=by exact rfl)(hn:n≠0:=by decide)(hx:ql fr x=some (.pointer (some a)):=by exact rfl)(hg:o.guard=none:=by exact rfl)(hdd:wU N o.dst=true:=by exact rfl):wj P B ro N ops cl K (i::l) fr I:=Dp h1 hc hg hdd (wm ho hs hf (ht▸hz) hn hx) k
theorem zk{c:Bool}(e:b=c)(k:qU P B ro N ops K rest (qG o.dst u fr) I)(ho:o.op= .pick x y z:=by exact rfl)(hx:ql fr x=some (.bool b):=by exact rfl)(hu:ql fr (if c then y else z)=some u:=by exact rfl)(hg:o.guard=none:=by exact rfl)(hdd:wU N o.dst=true:=by exact rfl):qU P B ro N ops K (o::rest) fr I:=by
 subst e
 cases b
 .exact Lp (pF ho hx hu) hg hdd k
 .exact Lp (yH ho hx hu) hg hdd k
theorem zi{s t:Code}{p:Prop}[Decidable p]{X Y:Prop}(h:if p then X else Y)(ht:X->AW P B ro N s Q fr I)(hn:Y->AW P B ro N t Q fr I)(hc:ql fr c=some (.bool (decide p)):=by exact rfl):AW P B ro N (.cond c s t) Q fr I:=AW.iff hc decide_eq_true_iff h ht hn
theorem zj{s t:Code}{X Y:Prop}(h:if b=true then X else Y)(ht:X->AW P B ro N s Q fr I)(hn:Y->AW P B ro N t Q fr I)(hc:ql fr c=some (.bool b):=by exact rfl):AW P B ro N (.cond c s t) Q fr I:=AW.iff hc Iff.rfl h ht hn
theorem zb{c:Code}{Q:Value->AH->Prop}{X:Prop}(h:Sep ro I->X)(hf:P.funcs[f]?=some fn)(hn:fn.ntmps=n)(k:X->AW P B ro n c (aez P ro fn Q) (adW args 0) I)(hb:fn.body=some c:=by exact rfl)(hl:args.length<=n:=by simp):qc P B ro f args.toArray I Q:=qc.of_sep fun hs=>qc.of_body hf hb (by rw[hn];exact hl) (by rw[hn];exact k (h hs))
end
end SL
namespace SL
open Go Go.RowKit
def all(W:World):AH:=fun b=>W.heap[b]?
theorem aqh{W:World}{a:Addr}{v:Value}(I:AH)(h:W.cell? a=some v):qa (all W) I a=some v:=by
 rw[cell?_eq]at h
 unfold qa rd all
 cases e:W.heap[a.block]? with
 | none=>rw[e]at h;cases h
 | some o=>rw[e]at h;exact h
theorem aqi{P:Program}{W:World}{f:FuncId}{args:Array Value}{Q:Value->Prop}(h:qc P W (all W) f args (fun _=>none) fun v _=>Q v):
  Calls P f args W fun e W'=>(∃v,e= .returned v/\Q v)/\Below W.heap.size W W':=by
 refine(h (fun _=>none) W ⟨rfl,rfl,rfl,fun _ _ e=>by(cases e),fun _ _ e=>by(cases e),fun _ _ e=>e⟩).mono ?_
 rintro e W' ⟨v,I',he,hq,ho⟩
 refine⟨⟨v,he,hq⟩,ho.os,ho.tape,ho.output,?_,fun k hk=>?_⟩
 .rcases Nat.eq_zero_or_pos W.heap.size with h0 | h0
  .rw[h0];exact Nat.zero_le _
  .have:=wT (ho.ro (W.heap.size - 1) _ (by unfold all;exact Array.getElem?_eq_getElem (by omega)))
   omega
 .have e:=Array.getElem?_eq_getElem hk
  rw[e];exact ho.ro k _ e
theorem al9{H:Type}{enc:TypeId×Value->H}{P:Program}{W:World}{t:TypeId}{fuel:Nat}{u:Value}{y:DataW H×List MemPlace}(ht:P.underlying t=some (.int .i64))
  (h:DataW.trod enc P W 0 (fun _=>true) true fuel t [u]=some y):∃ x:Int,u= .int .i64 x/\ -9223372036854775808<=x/\x<9223372036854775808:=by
 cases fuel with
 | zero=>cases h
 | succ n=>
  unfold DataW.trod at h
  rw[ht]at h
  cases u<;>simp at h
  rename_i k x
  refine⟨x,by rw[h.1.1],?_⟩
  have:=h.1.2
  simp[Lit.wf,IntKind.min,IntKind.max,IntKind.bits,IntKind.signed]at this
  omega
theorem an7{H:Type}{enc:TypeId×Value->H}{P:Program}{W:World}{t e:TypeId}{k fuel:Nat}{cs:List Value}{y:DataW H×List MemPlace}(ht:P.underlying t=some (.array k e))
  (h:DataW.trod enc P W 0 (fun _=>true) true fuel t cs=some y):cs.length=P.cellsOf t/\∃ n,∀i,i<k->∃ z,DataW.trod enc P W 0 (fun _=>true) true n e ((cs.drop (i*P.cellsOf e)).take (P.cellsOf e))=some z:=by
 cases fuel with
 | zero=>cases h
 | succ n=>
  unfold DataW.trod at h
  rw[ht]at h
  simp only at h
  split at h
  .rename_i hl
   refine⟨hl,n,fun i hi=>?_⟩
   obtain⟨r,hr,_⟩:=Option.map_eq_some_iff.1 h
   have h1:=mapM_some_get hr i i (by simp[hi])
   have h2:=mapM_some_length hr
   rw[List.length_range]at h2
   rw[List.getElem?_eq_getElem (by omega)]at h1
   exact⟨_,h1⟩
  .cases h