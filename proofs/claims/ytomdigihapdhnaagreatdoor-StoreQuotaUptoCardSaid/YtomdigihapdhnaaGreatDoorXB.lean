import Derived.Laws.Strings
import Derived.IntWalk
import Derived.WalkKit
import Derived.ProofKit
import Derived.OpenShut
import Derived.ShutString
import Derived.ChangeOld
import Derived.Below
import Derived.SizedLaws
import Derived.Carry
import Derived.Deep.Slices
import Derived.DataReads
import Derived.Test.YtomdigihapdhnaaGreatDoorXA
set_option linter.all false
set_option maxRecDepth 99999
set_option maxHeartbeats 0
open Go.IntKind(i64)
namespace Go.Proofs.YtomdigihapdhnaaGreatDoor
namespace SL
open Go
structure Sl where
 a:Option Addr
 len:Nat
 cap:Nat
def Sl.v(s:Sl):Value:= .slice s.a s.len s.cap
def lfpD{S:Type}(R:S->AH->(S->AH->Prop)->Prop)(s:S)(I:AH):Prop:=
 ∀X:S->AH->Prop,(∀s I Y,(∀s I,Y s I->X s I)->R s I Y->X s I)->X s I
theorem lfpD.intro{S:Type}{R:S->AH->(S->AH->Prop)->Prop}{s:S}{I:AH}(h:R s I (lfpD R)):lfpD R s I:=
 fun X hX=>hX s I (lfpD R) (fun _ _ h=>h X hX) h
section
variable{P:Program}{B:World}{ro:AH}{N:Nat}{o:Oper}{fr:Fr}{I:AH}
def qR(P:Program)(B:World)(ro:AH)(N:Nat)(ops:Array Oper)(K:Fr->AH->Prop):List Oper->Fr->AH->Prop
 | [],fr,I=>K fr I
 | o::rest,fr,I=>vK P B ro N ops o (qR P B ro N ops K rest) fr I
theorem ak7{ops:Array Oper}{K:Fr->AH->Prop}:∀ (n m:Nat),m+n=ops.size->∀ {fr:Fr} {I:AH},qR P B ro N ops K (ops.toList.drop m) fr I->acV P B ro N ops K (List.range' m n) fr I:=by
 intro n
 induction n with
 | zero=>
  intro m hm fr I h
  rw[List.drop_eq_nil_of_le (by simp;omega)]at h
  exact h
 | succ n ih=>
  intro m hm fr I h
  have hlt:m<ops.size:=by omega
  rw[List.drop_eq_getElem_cons (by simpa using hlt)]at h
  simp only[List.range'_succ,acV]
  rw[Array.getElem?_eq_getElem hlt]
  dsimp only
  exact vK.mono (fun fr I h=>ih (m+1) (by omega) h) h
def wk(K:Fr->AH->Prop)(fr:Fr)(I:AH):Prop:= ∃fr0,qo fr0 fr/\K fr0 I
theorem AW.reg{id:Nat}{ops:Array Oper}{Q:Exit->Fr->AH->Prop}(h:qR P B ro N ops (wk (Q .normal)) ops.toList fr I):AW P B ro N (.region id ops false) Q fr I:=by
 have h':AW P B ro N (.region id ops false) (fun e=>wk (Q e)) fr I:=by
  refine AW.region ?_
  rw[List.range_eq_range']
  exact ak7 ops.size 0 (by omega) h
 intro φ w a ho hf
 refine wp_mono (h' φ w a ho hf) ?_
 rintro e a' w' ⟨fr',I',⟨fr0,h1,h2⟩,h3,h4⟩
 exact⟨fr0,I',h2,h3,h4.weaken h1⟩
theorem Ls{ops:Array Oper}{K:Fr->AH->Prop}{rest:List Oper}(hg:o.guard=none)(hd:wT N o.dst=true)(h:wi P B ro o (qR P B ro N ops K rest) fr I):qR P B ro N ops K (o::rest) fr I:=by
 refine⟨hd,?_⟩;rw[hg];exact h
theorem Ly{ops:Array Oper}{K:Fr->AH->Prop}{rest:List Oper}{j t:Nat}{want:Bool}(hg:o.guard=some (j,want))(hd:wT N o.dst=true)(ht:(ops[j]?).bind (·.dst)=some t)(hl:look fr t=some (.bool want))
  (h:wi P B ro o (qR P B ro N ops K rest) fr I):qR P B ro N ops K (o::rest) fr I:=by
 refine⟨hd,?_⟩;rw[hg];exact⟨t,_,ht,hl,.inl ⟨rfl,h⟩⟩
theorem Ln{ops:Array Oper}{K:Fr->AH->Prop}{rest:List Oper}{j t:Nat}{want:Bool}{v:Value}(hg:o.guard=some (j,want))(hd:wT N o.dst=true)(ht:(ops[j]?).bind (·.dst)=some t)(hl:look fr t=some v)
  (hv:v= .bool (!want)\/v=undef) (h:qR P B ro N ops K rest (qE o.dst undef fr) I):qR P B ro N ops K (o::rest) fr I:=by
 refine⟨hd,?_⟩;rw[hg]
 refine⟨t,_,ht,hl,.inr ⟨?_,h⟩⟩
 rcases hv with rfl | rfl
 .cases want<;>simp
 .simp[undef]
theorem Xp{K:Fr->AH->Prop}{u:Value}(he:qI P ro o fr u)(h:K (qE o.dst u fr) I):wi P B ro o K fr I:=fun O hρ=>(acW _ (he O hρ)).2 h
theorem Lp{ops:Array Oper}{K:Fr->AH->Prop}{rest:List Oper}{u:Value}(he:qI P ro o fr u)(hg:o.guard=none)(hd:wT N o.dst=true)(h:qR P B ro N ops K rest (qE o.dst u fr) I):qR P B ro N ops K (o::rest) fr I:=
 Ls hg hd (Xp he h)
theorem Lyp{ops:Array Oper}{K:Fr->AH->Prop}{rest:List Oper}{u:Value}{j t:Nat}{want:Bool}(he:qI P ro o fr u)(hg:o.guard=some (j,want))(hd:wT N o.dst=true)(ht:(ops[j]?).bind (·.dst)=some t)(hl:look fr t=some (.bool want))
  (h:qR P B ro N ops K rest (qE o.dst u fr) I):qR P B ro N ops K (o::rest) fr I:=Ly hg hd ht hl (Xp he h)
def aaS:List Oper->Nat->Option Oper
 | [],_=>none
 | o::_,0=>some o
 | _::r,i+1=>aaS r i
theorem aar{ops:Array Oper}{i:Nat}{o:Oper}(h:aaS ops.toList i=some o):ops[i]?=some o:=by
 have gen:∀ (l:List Oper) (i:Nat),aaS l i=l[i]?:=by
  intro l
  induction l with
  | nil=>intro i;simp[aaS]
  | cons o r ih=>intro i;cases i with | zero=>rfl | succ i=>simpa [aaS]using ih i
 rw[gen]at h;simpa using h
theorem Dp{ops:Array Oper}{cl:Nat->Nat}{i:Nat}{rest:List Nat}{K:Fr->AH->Prop}{u:Value}(ho':aaS ops.toList i=some o)(hc:cl i=0)(hg:o.guard=none)(hd:wT N o.dst=true)(he:qI P ro o fr u)
  (h:wh P B ro N ops cl K rest (qE o.dst u fr) I):wh P B ro N ops cl K (i::rest) fr I:=by
 have ho:=aar ho'
 unfold wh D1;rw[ho];dsimp only;rw[hc]
 exact⟨hd,u,by unfold vT;rw[hg];exact he,h⟩
theorem Dr{ops:Array Oper}{cl:Nat->Nat}{i:Nat}{rest:List Nat}{K:Fr->AH->Prop}{u:Value}(ho':aaS ops.toList i=some o)(hc:cl i=3)(hg:o.guard=none)(hd:wT N o.dst=true)(he:jJ P ro I o fr u)
  (h:wh P B ro N ops cl K rest (qE o.dst u fr) I):wh P B ro N ops cl K (i::rest) fr I:=by
 have ho:=aar ho'
 unfold wh D1;rw[ho];dsimp only;rw[hc]
 exact⟨hd,u,by unfold vT;rw[hg];exact he,h⟩
theorem adJ.of_new{ob:Obj}{mk:Nat->Value}(he:adI P ro o fr ob mk):adJ P ro o fr fun _=>(ob,mk):=by
 intro O hρ Q I
 obtain⟨k,k1,k2⟩:=he O hρ
 rw[ahR _ k1]
 exact⟨fun h n b hb hs=>(acW _ (k2 b)).1 (h b hb hs),fun h b hb hs=>(acW _ (k2 b)).2 (h 0 b hb hs)⟩
theorem Da{ops:Array Oper}{cl:Nat->Nat}{i:Nat}{rest:List Nat}{K:Fr->AH->Prop}{ob:Obj}{mk:Nat->Value}(ho':aaS ops.toList i=some o)(hc:cl i=1)(hg:o.guard=none)(hd:wT N o.dst=true)(he:adI P ro o fr ob mk)
  (h:∀ b,ro b=none->I b=none->wh P B ro N ops cl K rest (qE o.dst (mk b) fr) (upd I b ob)):wh P B ro N ops cl K (i::rest) fr I:=by
 have ho:=aar ho'
 unfold wh D1;rw[ho];dsimp only;rw[hc]
 exact⟨hd,some _,by unfold pu;rw[hg];exact⟨_,rfl,adJ.of_new he⟩,fun n b hb hs=>h b hb hs⟩
theorem Dg{ops:Array Oper}{cl:Nat->Nat}{i:Nat}{rest:List Nat}{K:Fr->AH->Prop}(ho':aaS ops.toList i=some o)(hc:cl i=2)(hg:o.guard=none)(hd:wT N o.dst=true)
  (h:wi P B ro o (wh P B ro N ops cl K rest) fr I):wh P B ro N ops cl K (i::rest) fr I:=by
 have ho:=aar ho'
 unfold wh D1;rw[ho];dsimp only;rw[hc]
 refine⟨hd,?_⟩;rw[hg];exact h
theorem aaI(I:AH):join I (fun _=>none)=I:=by
 funext b;unfold join;cases I b<;>rfl
theorem AW.drawn0{ops:Array Oper}{id:Nat}{Q:Exit->Fr->AH->Prop}(cl:Nat->Nat)(anc:List (Nat×Nat))(l:List Nat)(hm:P.follows .mixedOrders=true)
  (hc:(chk ops cl anc l && agI ops anc && full ops.size l && (l.length == ops.size))=true)
  (h:wh P B ro N ops cl (fun fr I=> ∃fr',zo fr' fr/\Q .normal fr' I) l fr I):AW P B ro N (.region id ops true) Q fr I:=by
 have:=AW.drawn (P:=P) (B:=B) (ro:=ro) (N:=N) (ops:=ops) (id:=id) (Q:=Q) (fr:=fr) (ψ:=fun _=>none) (I:=I) cl anc l hm (fun _ _ h=>by cases h) hc (by
  rw[aaI]
  refine DOps_mono ?_ l h
  rintro fr I ⟨fr',h1,h2⟩;exact⟨fr',h1,fun _=>h2⟩)
 exact this
where
 DOps_mono {ops:Array Oper} {ro:AH} {cl:Nat->Nat} {K K':Fr->AH->Prop} (h:∀ fr I,K fr I->K' fr I):∀ (l:List Nat) {fr:Fr} {I:AH},wh P B ro N ops cl K l fr I->wh P B ro N ops cl K' l fr I:=by
  intro l
  induction l with
  | nil=>intro fr I hx;exact h _ _ hx
  | cons i r ih=>
   intro fr I hx
   unfold wh D1 at hx⊢
   split at hx
   .exact hx
   .split at hx
    .obtain⟨h0,u,h1,h2⟩:=hx;exact⟨h0,u,h1,ih h2⟩
    .obtain⟨h0,u,h1,h2⟩:=hx;exact⟨h0,u,h1,ih h2⟩
    .obtain⟨h0,F,h1,h2⟩:=hx;exact⟨h0,F,h1,h2.map fun v I hk=>ih hk⟩
    .exact hx.mono fun fr I=>ih
def px(I:AH)(K:AH->AH->Prop):Prop:= ∃ψ τ,qP ψ τ/\I=join ψ τ/\K ψ τ
theorem AW.drawnL{ops:Array Oper}{id:Nat}{Q:Exit->Fr->AH->Prop}{K:AH->AH->Prop}(cl:Nat->Nat)(anc:List (Nat×Nat))(l:List Nat)(hm:P.follows .mixedOrders=true)(hl:px I K)
  (hc:(chk ops cl anc l && agI ops anc && full ops.size l && (l.length == ops.size))=true)
  (h:∀ ψ τ,K ψ τ->wh P B (join ro ψ) N ops cl (fun fr I=> ∃fr',zo fr' fr/\(qP ψ I->Q .normal fr' (join ψ I))) l fr τ):AW P B ro N (.region id ops true) Q fr I:=by
 obtain⟨ψ,τ,hd,rfl,hk⟩:=hl
 exact AW.drawn cl anc l hm hd hc (h ψ τ hk)
theorem wM{K:Fr->AH->Prop}{ops:Array Oper}{cl:Nat->Nat}(h:K fr I):wh P B ro N ops cl (fun fr I=> ∃fr',zo fr' fr/\K fr' I) [] fr I:=⟨fr,zo.refl _,h⟩
theorem AW.iff{Q:Exit->Fr->AH->Prop}{c:Operand}{x y:Code}{b:Bool}{p:Prop}[Decidable p]{X Y:Prop}(hc:ql fr c=some (.bool b))(hi:b=true↔p)(h:if p then X else Y)
  (ht:X->AW P B ro N x Q fr I) (hn:Y->AW P B ro N y Q fr I):AW P B ro N (.cond c x y) Q fr I:=by
 refine AW.cond hc (fun e=>ht ?_) (fun e=>hn ?_)
 .rw[if_pos (hi.1 e)]at h;exact h
 .rw[if_neg (fun q=>by rw[hi.2 q]at e;cases e)]at h;exact h
theorem AW.yes{Q:Exit->Fr->AH->Prop}{c:Operand}{x y:Code}(hc:ql fr c=some (.bool true))(h:AW P B ro N x Q fr I):AW P B ro N (.cond c x y) Q fr I:=AW.cond hc (fun _=>h) (fun e=>by cases e)
theorem AW.no{Q:Exit->Fr->AH->Prop}{c:Operand}{x y:Code}(hc:ql fr c=some (.bool false))(h:AW P B ro N y Q fr I):AW P B ro N (.cond c x y) Q fr I:=AW.cond hc (fun e=>by cases e) (fun _=>h)
theorem AW.seqJ{Q:Exit->Fr->AH->Prop}{x y:Code}(J:Fr->AH->Prop)(hy:∀ fr I,J fr I->AW P B ro N y Q fr I)(hx:AW P B ro N x (ab5 J Q) fr I):AW P B ro N (.seq x y) Q fr I:=by
 refine AW.seq ?_
 intro φ w a ho hf
 refine wp_mono (hx φ w a ho hf) ?_
 rintro e a' w' ⟨fr',I',hq,ho',hf'⟩
 cases e with
 | normal=>exact⟨fr',I',hy _ _ hq,ho',hf'⟩
 | _=>exact⟨fr',I',hq,ho',hf'⟩
theorem afp{α β:Type}(f:α->β)(x:α):f <$> (Sem.pure x:Sem α)=Sem.pure (f x):=rfl
theorem asO{fn:Func}{R:Value->AH->Prop}(hr:fn.results= #[])(h:R (.tuple #[]) I):∃ v,(∀tmps:Array Value,(∀i u,look fr i=some u->tmps[i]?=some u)->qg P ro (results fn tmps) I=some v)/\R v I:=by
 refine⟨_,fun tmps ht=>?_,h⟩
 simp[results,hr,pure,bind,Sem.bind,afp,qg]
theorem asP{fn:Func}{R:Value->AH->Prop}{a:Nat}{x:Value}(hr:fn.results= #[.tmp a])(ha:look fr a=some x)(h:R x I):∃ v,(∀tmps:Array Value,(∀i u,look fr i=some u->tmps[i]?=some u)->qg P ro (results fn tmps) I=some v)/\R v I:=by
 refine⟨_,fun tmps ht=>?_,h⟩
 have:=ht a x ha
 simp[results,hr,pure,bind,Sem.bind,afp,qg,Array.getD_eq_getD_getElem?,this]
theorem at7{fn:Func}{R:Value->AH->Prop}{a b:Nat}{x y:Value}(hr:fn.results= #[.tmp a,.tmp b])(ha:look fr a=some x)(hb:look fr b=some y)(h:R (.tuple #[x,y]) I):
  ∃v,(∀tmps:Array Value,(∀i u,look fr i=some u->tmps[i]?=some u)->qg P ro (results fn tmps) I=some v)/\R v I:=by
 refine⟨_,fun tmps ht=>?_,h⟩
 have h1:=ht a x ha
 have h2:=ht b y hb
 simp[results,hr,pure,bind,Sem.bind,afp,qg,Array.getD_eq_getD_getElem?,h1,h2]
theorem at8{fn:Func}{R:Value->AH->Prop}{a b c:Nat}{x y z:Value}(hr:fn.results= #[.tmp a,.tmp b,.tmp c])(ha:look fr a=some x)(hb:look fr b=some y)(hc:look fr c=some z)(h:R (.tuple #[x,y,z]) I):
  ∃v,(∀tmps:Array Value,(∀i u,look fr i=some u->tmps[i]?=some u)->qg P ro (results fn tmps) I=some v)/\R v I:=by
 refine⟨_,fun tmps ht=>?_,h⟩
 have h1:=ht a x ha
 have h2:=ht b y hb
 have h3:=ht c z hc
 simp[results,hr,pure,bind,Sem.bind,afp,qg,Array.getD_eq_getD_getElem?,h1,h2,h3]
end
end SL
namespace SL
open Go
section
variable{P:Program}{B:World}{ro:AH}{N:Nat}{o:Oper}{fr:Fr}{I:AH}{x y z:Operand}{v:Value}
theorem wU{α β:Type}(a:α)(f:α->Sem β):(Sem.pure a:Sem α).bind f=f a:=rfl
theorem qS{α:Type}(a:α):(pure a:Sem α)=Sem.pure a:=rfl
theorem qA{α β:Type}(s:Sem α)(f:α->Sem β):(s >>= f)=s.bind f:=rfl
theorem jK{β:Type}(f:Program->Sem β):Sem.bind program f=Sem.program fun p=>f p:=rfl
theorem qK{β:Type}(t:TypeId)(f:TypeDesc->Sem β){d:TypeDesc}(h:P.underlying t=some d){τ:AH}:qg P ro (Sem.bind (underlying t) f) τ=qg P ro (f d) τ:=by
 unfold underlying
 simp only[qA,jK]
 show qg P ro (Sem.bind (match P.underlying t with | some d=>pure d | none=>stuck "no such type") f) τ=_
 rw[h];rfl
theorem uj{s:Sem Value}{u:Value}(h:∀ O,vW O fr->execOp O o=(do pure (.value (<-s))))(hs:qg P ro s (fun _=>none)=some u):qI P ro o fr u:=by
 intro O hρ
 rw[h O hρ]
 exact aread_bind s hs
where
 aread_bind (s:Sem Value) {u:Value} (hs:qg P ro s (fun _=>none)=some u):qg P ro (s.bind fun v=>Sem.pure (Next.value v)) (fun _=>none)=some (.value u):=by
  induction s with
  | pure a=>cases hs;rfl
  | load m a k ih=>
   simp only[qg]at hs
   simp only[Sem.bind,qg]
   split at hs
   .rename_i v hv;exact ih _ hs
   .cases hs
  | program k ih=>exact ih _ hs
  | mark m k ih=>exact ih hs
  | _=>cases hs
theorem X_sem{K:Fr->AH->Prop}{s:Sem Value}(h:∀ O,vW O fr->execOp O o=(do pure (.value (<-s))))(hs:awp P ro s (fun v I=>K (qE o.dst v fr) I) I):wi P B ro o K fr I:=by
 intro O hρ
 rw[h O hρ,vw]
 exact qm _ hs fun _ _ h=>h
theorem X_semU{K:Fr->AH->Prop}{s:Sem Unit}(h:∀ O,vW O fr->execOp O o=(do s;pure .skip))(hs:awp P ro s (fun _ I=>K (qE o.dst undef fr) I) I):wi P B ro o K fr I:=by
 intro O hρ
 rw[h O hρ,vw]
 exact qm _ hs fun _ _ h=>h
theorem jo(ho:o.op= .move x)(hx:ql fr x=some v):qI P ro o fr v:=by
 intro O hρ;unfold execOp;rw[ho];simp only[hρ _ _ hx];rfl
theorem agJ(ho:o.op= .assign x)(hx:ql fr x=some v):qI P ro o fr v:=by
 intro O hρ;unfold execOp;rw[ho];simp only[hρ _ _ hx];rfl
theorem ajR{vs:Array Value}{i:Nat}(ho:o.op= .extract x i)(hx:ql fr x=some (.tuple vs))(hv:vs[i]?=some v):qI P ro o fr v:=by
 refine uj (s:=Instr.extract (.tuple vs) i) (fun O hρ=>?_) (by unfold Instr.extract;simp only[hv];rfl)
 unfold execOp;rw[ho];simp only[hρ _ _ hx]
theorem aec{op:BinOp}{t u:TypeId}{k:IntKind}{a b:Int}(ho:o.op= .binOp op t x y u)(hx:ql fr x=some (.int k a))(hy:ql fr y=some (.int k b))(hs:qg P ro (Go.binOp op t (.int k a) (.int k b)) (fun _=>none)=some v):qI P ro o fr v:=by
 refine uj (s:=do eqGuard op t x y (.int k a) (.int k b);Go.binOp op t (.int k a) (.int k b)) (fun O hρ=>?_) ?_
 .unfold execOp;rw[ho];simp only[hρ _ _ hx,hρ _ _ hy]
 .unfold eqGuard;cases op<;>exact hs
theorem alU{t u:TypeId}{k:IntKind}{a b:Int}(ho:o.op= .binOp .lss t x y u)(hx:ql fr x=some (.int k a))(hy:ql fr y=some (.int k b)):qI P ro o fr (.bool (decide (a<b))):=aec ho hx hy (by simp[Go.binOp,Op.intCmp,qS,qg])
theorem alV{t u:TypeId}{k:IntKind}{a b:Int}(ho:o.op= .binOp .leq t x y u)(hx:ql fr x=some (.int k a))(hy:ql fr y=some (.int k b)):qI P ro o fr (.bool (decide (a<=b))):=aec ho hx hy (by simp[Go.binOp,Op.intCmp,qS,qg])
theorem ajS{t u:TypeId}{k:IntKind}{a b:Int}(ho:o.op= .binOp .gtr t x y u)(hx:ql fr x=some (.int k a))(hy:ql fr y=some (.int k b)):qI P ro o fr (.bool (decide (b<a))):=aec ho hx hy (by simp[Go.binOp,Op.intCmp,qS,qg])
theorem alW{t u:TypeId}{k:IntKind}{a b:Int}(ho:o.op= .binOp .geq t x y u)(hx:ql fr x=some (.int k a))(hy:ql fr y=some (.int k b)):qI P ro o fr (.bool (decide (b<=a))):=aec ho hx hy (by simp[Go.binOp,Op.intCmp,qS,qg])
theorem ajT{t u:TypeId}{k:IntKind}{a b:Int}(ho:o.op= .binOp .eql t x y u)(hx:ql fr x=some (.int k a))(hy:ql fr y=some (.int k b)):qI P ro o fr (.bool (decide (a=b))):=aec ho hx hy (by simp[Go.binOp,Op.intCmp,qS,qg];rfl)
theorem aoc{t u:TypeId}{k:IntKind}{a b:Int}(ho:o.op= .binOp .neq t x y u)(hx:ql fr x=some (.int k a))(hy:ql fr y=some (.int k b)):qI P ro o fr (.bool (!decide (a=b))):=aec ho hx hy (by simp[Go.binOp,Op.intCmp,qS,qg];rfl)
theorem alX{t u:TypeId}{k:IntKind}{a b:Int}(ho:o.op= .binOp .add t x y u)(hx:ql fr x=some (.int k a))(hy:ql fr y=some (.int k b)):qI P ro o fr (.int k (k.wrap (a+b))):=aec ho hx hy (by simp[Go.binOp,Op.intArith,qS,qg])
theorem aod{t u:TypeId}{k:IntKind}{a b:Int}(ho:o.op= .binOp .sub t x y u)(hx:ql fr x=some (.int k a))(hy:ql fr y=some (.int k b)):qI P ro o fr (.int k (k.wrap (a - b))):=aec ho hx hy (by simp[Go.binOp,Op.intArith,qS,qg])
theorem aoe{t u:TypeId}{k:IntKind}{a b:Int}(ho:o.op= .binOp .mul t x y u)(hx:ql fr x=some (.int k a))(hy:ql fr y=some (.int k b)):qI P ro o fr (.int k (k.wrap (a*b))):=aec ho hx hy (by simp[Go.binOp,Op.intArith,qS,qg])
theorem ato{t u:TypeId}{k:IntKind}{a b:Int}(ho:o.op= .binOp .quo t x y u)(hx:ql fr x=some (.int k a))(hy:ql fr y=some (.int k b))(hb:b≠0):qI P ro o fr (.int k (k.wrap (a.tdiv b))):=aec ho hx hy (by simp[Go.binOp,Op.intDiv,qS,qg,hb])
def aaT(k:IntKind)(a b:Int):Int:=k.wrap (BitVec.ofInt k.bits a &&& BitVec.ofInt k.bits b).toNat
def uL(k:IntKind)(a b:Int):Int:=k.wrap (BitVec.ofInt k.bits a ||| BitVec.ofInt k.bits b).toNat
theorem atp{t u:TypeId}{k:IntKind}{a b:Int}(ho:o.op= .binOp .and t x y u)(hx:ql fr x=some (.int k a))(hy:ql fr y=some (.int k b)):qI P ro o fr (.int k (aaT k a b)):=aec ho hx hy (by simp[Go.binOp,Op.intBits,qS,qg,aaT])
theorem asQ{t u:TypeId}{k:IntKind}{a b:Int}(ho:o.op= .binOp .or t x y u)(hx:ql fr x=some (.int k a))(hy:ql fr y=some (.int k b)):qI P ro o fr (.int k (uL k a b)):=aec ho hx hy (by simp[Go.binOp,Op.intBits,qS,qg,uL])
theorem binShift{op:BinOp}(hop:op= .shl\/op= .shr){t u:TypeId}{k j:IntKind}{a b:Int}(ho:o.op= .binOp op t x y u)(hx:ql fr x=some (.int k a))(hy:ql fr y=some (.int j b))(hs:qg P ro (Op.shift op k a j b) (fun _=>none)=some v):qI P ro o fr v:=by
 refine uj (s:=do eqGuard op t x y (.int k a) (.int j b);Go.binOp op t (.int k a) (.int j b)) (fun O hρ=>?_) ?_
 .unfold execOp;rw[ho];simp only[hρ _ _ hx,hρ _ _ hy]
 .rcases hop with rfl | rfl<;>exact hs
theorem atq{t u:TypeId}{k j:IntKind}{a b:Int}(ho:o.op= .binOp .shl t x y u)(hx:ql fr x=some (.int k a))(hy:ql fr y=some (.int j b))(hb:0<=b):qI P ro o fr (.int k (k.wrap (a*2 ^ (min b.toNat k.bits)))):=
 binShift (.inl rfl) ho hx hy (by unfold Op.shift;rw[if_neg (by omega)];rfl)
theorem atr{t u:TypeId}{k j:IntKind}{a b:Int}(ho:o.op= .binOp .shr t x y u)(hx:ql fr x=some (.int k a))(hy:ql fr y=some (.int j b))(hb:0<=b):qI P ro o fr (.int k (a.fdiv (2 ^ (min b.toNat k.bits)))):=
 binShift (.inr rfl) ho hx hy (by unfold Op.shift;rw[if_neg (by omega)];rfl)
theorem unS{op:UnOp}{t:TypeId}(ho:o.op= .unOp op t x)(hx:ql fr x=some v){u:Value}(hs:qg P ro (Op.unary op v) (fun _=>none)=some u):qI P ro o fr u:=by
 refine uj (s:=Op.unary op v) (fun O hρ=>?_) hs
 unfold execOp;rw[ho];simp only[hρ _ _ hx]
theorem aof{t:TypeId}{b:Bool}(ho:o.op= .unOp .not t x)(hx:ql fr x=some (.bool b)):qI P ro o fr (.bool (!b)):=unS ho hx rfl
theorem aog{s t:TypeId}{k j:IntKind}{a:Int}{d:TypeDesc}(ho:o.op= .convert s t x)(hx:ql fr x=some (.int j a))(hs:P.underlying s=some d)(ht:P.underlying t=some (.int k)):qI P ro o fr (.int k (k.wrap a)):=by
 refine uj (s:=convert s t (.int j a)) (fun O hρ=>?_) ?_
 .unfold execOp;rw[ho];simp only[hρ _ _ hx]
 .unfold convert;show qg P ro (Sem.bind (underlying s) _) _=_;rw[qK _ _ hs];show qg P ro (Sem.bind (underlying t) _) _=_;rw[qK _ _ ht];cases d<;>rfl
theorem yG{u:Value}(ho:o.op= .pick x y z)(hx:ql fr x=some (.bool true))(hy:ql fr y=some u):qI P ro o fr u:=by
 intro O hρ;unfold execOp;rw[ho];simp only[hρ _ _ hx,hρ _ _ hy];rfl
theorem pD{u:Value}(ho:o.op= .pick x y z)(hx:ql fr x=some (.bool false))(hz:ql fr z=some u):qI P ro o fr u:=by
 intro O hρ;unfold execOp;rw[ho];simp only[hρ _ _ hx,hρ _ _ hz];rfl
theorem aoh{a b:ByteArray}(h:a.toList=b.toList):a=b:=by
 rw[ByteArray.toList_eq,ByteArray.toList_eq]at h
 exact ByteArray.ext (Array.toList_inj.1 h)
theorem alY{op:BinOp}{t u:TypeId}{a b:ByteArray}(ho:o.op= .binOp op t x y u)(hx:ql fr x=some (.string a))(hy:ql fr y=some (.string b))(hop:op≠ .shl/\op≠ .shr)(hs:qg P ro (Op.stringOp op a b) (fun _=>none)=some v):qI P ro o fr v:=by
 refine uj (s:=do eqGuard op t x y (.string a) (.string b);Go.binOp op t (.string a) (.string b)) (fun O hρ=>?_) ?_
 .unfold execOp;rw[ho];simp only[hρ _ _ hx,hρ _ _ hy]
 .unfold eqGuard;cases op<;>first | exact hs | exact absurd rfl hop.1 | exact absurd rfl hop.2
theorem eqS{a b:ByteArray}:(a.toList == b.toList)=decide (a=b):=by
 by_cases h:a=b
 .subst h;simp
 .rw[decide_eq_false h]
  cases e:(a.toList == b.toList)with
  | false=>rfl
  | true=>exact absurd (aoh (by simpa using e)) h
theorem ajU{t u:TypeId}{a b:ByteArray}(ho:o.op= .binOp .eql t x y u)(hx:ql fr x=some (.string a))(hy:ql fr y=some (.string b)):qI P ro o fr (.bool (decide (a=b))):=alY ho hx hy (by simp) (by simp only[Op.stringOp,eqS];rfl)
theorem ajV{t u:TypeId}{a b:ByteArray}(ho:o.op= .binOp .neq t x y u)(hx:ql fr x=some (.string a))(hy:ql fr y=some (.string b)):qI P ro o fr (.bool (!decide (a=b))):=alY ho hx hy (by simp) (by simp only[Op.stringOp,eqS];rfl)
def afq(a b:ByteArray):Bool:=Op.bytesLess a.toList b.toList
theorem asR{t u:TypeId}{a b:ByteArray}(ho:o.op= .binOp .leq t x y u)(hx:ql fr x=some (.string a))(hy:ql fr y=some (.string b)):qI P ro o fr (.bool (afq a b || decide (a=b))):=alY ho hx hy (by simp) (by simp only[Op.stringOp,eqS];rfl)
theorem aiE{t u:TypeId}{a b:ByteArray}(ho:o.op= .binOp .add t x y u)(hx:ql fr x=some (.string a))(hy:ql fr y=some (.string b))(h:a.size+b.size<=9223372036854775807):qI P ro o fr (.string (a++b)):=
 alY ho hx hy (by simp) (by unfold Op.stringOp;dsimp only;rw[if_neg (by simp only[IntKind.max,IntKind.signed,IntKind.bits,if_true];omega)];rfl)
theorem aaU{t:TypeId}{ts:Array TypeId}{ars:Array Operand}{a:ByteArray}(ho:o.op= .call {callee:= .builtin .len,args:=ars,argTypes:=ts})(ht:ts[0]?=some t)(hu:P.underlying t=some .string)(ha:ars= #[x])(hx:ql fr x=some (.string a)):qI P ro o fr (.int .i64 a.size):=by
 refine uj (s:=Builtin.len_ ts o.type #[.string a]) (fun O hρ=>?_) ?_
 .unfold execOp;rw[ho];subst ha;simp[resolve,invoke,builtin,hρ _ _ hx,qS,qA,wU]
 .unfold Builtin.len_;simp only[ht,qA];rw[show(#[Value.string a]:Array Value)[0]?=some (.string a)from rfl];dsimp only;rw[qK _ _ hu];rfl
theorem qM{t e:TypeId}{ts:Array TypeId}{ars:Array Operand}{a:Option Addr}{n c:Nat}(ho:o.op= .call {callee:= .builtin .len,args:=ars,argTypes:=ts})(ht:ts[0]?=some t)(hu:P.underlying t=some (.slice e))(ha:ars= #[x])(hx:ql fr x=some (.slice a n c)):qI P ro o fr (.int .i64 n):=by
 refine uj (s:=Builtin.len_ ts o.type #[.slice a n c]) (fun O hρ=>?_) ?_
 .unfold execOp;rw[ho];subst ha;simp[resolve,invoke,builtin,hρ _ _ hx,qS,qA,wU]
 .unfold Builtin.len_;simp only[ht,qA];rw[show(#[Value.slice a n c]:Array Value)[0]?=some (.slice a n c)from rfl];dsimp only;rw[qK _ _ hu];rfl
theorem asS{t:TypeId}{a:ByteArray}{k:IntKind}{i:Int}{b:UInt8}(ho:o.op= .index t x y)(hu:P.underlying t=some .string)(hx:ql fr x=some (.string a))(hy:ql fr y=some (.int k i))(h0:0<=i)(hb:a[i.toNat]?=some b):qI P ro o fr (.int .u8 b.toNat):=by
 refine uj (s:=Instr.index t (.string a) (.int k i)) (fun O hρ=>?_) ?_
 .unfold execOp;rw[ho];simp only[hρ _ _ hx,hρ _ _ hy]
 .unfold Instr.index
  show qg P ro (Sem.bind (underlying t) _) _=_
  rw[qK _ _ hu]
  dsimp only
  rw[if_pos h0,hb];rfl
end
end SL
namespace SL
open Go
section
variable{P:Program}{B:World}{ro:AH}{N:Nat}{o:Oper}{fr:Fr}{I:AH}{x y z:Operand}{v:Value}
theorem ahy{β:Type}(t:TypeId)(f:TypeInfo->Sem β){d:TypeInfo}(h:P.info? t=some d){τ:AH}:qg P ro (Sem.bind (typeInfo t) f) τ=qg P ro (f d) τ:=by
 unfold typeInfo
 simp only[qA,jK]
 show qg P ro (Sem.bind (match P.info? t with | some i=>pure i | none=>stuck "no such type") f) τ=_
 rw[h];rfl
theorem qB{β:Type}{t:TypeId}{f:TypeDesc->Sem β}{d:TypeDesc}(h:P.underlying t=some d){Q:β->AH->Prop}:awp P ro (Sem.bind (underlying t) f) Q I↔awp P ro (f d) Q I:=by
 unfold underlying
 simp only[qA,jK]
 show awp P ro (Sem.bind (match P.underlying t with | some d=>pure d | none=>stuck "no such type") f) Q I↔_
 rw[h];rfl
theorem vE{β:Type}{t:TypeId}{f:TypeInfo->Sem β}{d:TypeInfo}(h:P.info? t=some d){Q:β->AH->Prop}:awp P ro (Sem.bind (typeInfo t) f) Q I↔awp P ro (f d) Q I:=by
 unfold typeInfo
 simp only[qA,jK]
 show awp P ro (Sem.bind (match P.info? t with | some i=>pure i | none=>stuck "no such type") f) Q I↔_
 rw[h];rfl
def qq(P:Program)(t:TypeId)(zero:Value)(size bytes:Nat):Prop:= ∃i,P.info? t=some i/\i.zero=some zero/\i.size=size/\i.bytes=bytes
theorem qq.of{t:TypeId}{zero:Value}{size bytes:Nat}(h:(P.info? t).map (fun i=>(i.zero,i.size,i.bytes))=some (some zero,size,bytes)):qq P t zero size bytes:=by
 cases e:P.info? t with
 | none=>rw[e]at h;cases h
 | some i=>rw[e]at h;simp at h;exact⟨i,e,h.1,h.2.1,h.2.2⟩
theorem aaV{β:Type}{t:TypeId}{zv:Value}{s b:Nat}(h:qq P t zv s b){f:Value->Sem β}{Q:β->AH->Prop}:awp P ro (Sem.bind (zeroValue t) f) Q I↔awp P ro (f zv) Q I:=by
 obtain⟨i,h1,h2,_,_⟩:=h
 unfold zeroValue
 show awp P ro (Sem.bind (Sem.bind (typeInfo t) _) f) Q I↔_
 rw[show∀(g:TypeInfo->Sem Value),Sem.bind (Sem.bind (typeInfo t) g) f=Sem.bind (typeInfo t) fun i=>Sem.bind (g i) f from fun g=>bind_assoc' _ _ _]
 rw[vE h1,h2];rfl
where
 bind_assoc' {α β γ:Type} (s:Sem α) (f:α->Sem β) (g:β->Sem γ):Sem.bind (Sem.bind s f) g=Sem.bind s fun a=>Sem.bind (f a) g:=by
  induction s with
  | pure a=>rfl
  | load m a k ih=>simp only[Sem.bind];congr;funext v;exact ih v
  | store m a v k ih=>simp only[Sem.bind];congr
  | new o k ih=>simp only[Sem.bind];congr;funext v;exact ih v
  | shape r k ih=>simp only[Sem.bind];congr;funext v;exact ih v
  | freeze a n k ih=>simp only[Sem.bind];congr
  | frozen a k ih=>simp only[Sem.bind];congr;funext v;exact ih v
  | getObj r k ih=>simp only[Sem.bind];congr;funext v;exact ih v
  | setObj r o k ih=>simp only[Sem.bind];congr
  | choose q k ih=>simp only[Sem.bind];congr;funext v;exact ih v
  | sys c k ih=>simp only[Sem.bind];congr;funext v;exact ih v
  | program k ih=>simp only[Sem.bind];congr;funext v;exact ih v
  | mark m k ih=>simp only[Sem.bind];congr
  | halt e=>rfl
theorem bind_assoc'{α β γ:Type}(s:Sem α)(f:α->Sem β)(g:β->Sem γ):Sem.bind (Sem.bind s f) g=Sem.bind s fun a=>Sem.bind (f a) g:=aaV.bind_assoc' s f g
theorem adu{β:Type}{t:TypeId}{zv:Value}{s b:Nat}(h:qq P t zv s b){f:Nat->Sem β}{Q:β->AH->Prop}:awp P ro (Sem.bind (sizeOf t) f) Q I↔awp P ro (f s) Q I:=by
 obtain⟨i,h1,_,h3,_⟩:=h
 unfold sizeOf
 show awp P ro (Sem.bind (Sem.bind (typeInfo t) _) f) Q I↔_
 rw[bind_assoc',vE h1,<-h3];rfl
theorem uM{β:Type}{t:TypeId}{zv:Value}{s b:Nat}(h:qq P t zv s b){f:Nat->Sem β}{τ:AH}:qg P ro (Sem.bind (sizeOf t) f) τ=qg P ro (f s) τ:=by
 obtain⟨i,h1,_,h3,_⟩:=h
 unfold sizeOf
 show qg P ro (Sem.bind (Sem.bind (typeInfo t) _) f) τ=_
 rw[bind_assoc',ahy _ _ h1,<-h3];rfl
theorem aoi{β:Type}{t:TypeId}{zv:Value}{s b:Nat}(h:qq P t zv s b){f:Value->Sem β}{τ:AH}:qg P ro (Sem.bind (zeroValue t) f) τ=qg P ro (f zv) τ:=by
 obtain⟨i,h1,h2,_,_⟩:=h
 unfold zeroValue
 show qg P ro (Sem.bind (Sem.bind (typeInfo t) _) f) τ=_
 rw[bind_assoc',ahy _ _ h1,h2];rfl
def aaW:TypeDesc->Bool
 | .struct _=>true
 | .array _ _=>true
 | _=>false
theorem ak8{β:Type}{t:TypeId}{d:TypeDesc}(h:P.underlying t=some d){f:Bool->Sem β}{Q:β->AH->Prop}:awp P ro (Sem.bind (isAgg t) f) Q I↔awp P ro (f (aaW d)) Q I:=by
 unfold isAgg
 show awp P ro (Sem.bind (Sem.bind (underlying t) _) f) Q I↔_
 rw[bind_assoc',qB h];cases d<;>rfl
theorem pU{β:Type}{t:TypeId}{d:TypeDesc}(h:P.underlying t=some d){f:Bool->Sem β}{τ:AH}:qg P ro (Sem.bind (isAgg t) f) τ=qg P ro (f (aaW d)) τ:=by
 unfold isAgg
 show qg P ro (Sem.bind (Sem.bind (underlying t) _) f) τ=_
 rw[bind_assoc',qK _ _ h];cases d<;>rfl
@[simp] theorem ajn(a:Addr):a.add 0=a:=rfl
@[simp] theorem vt(b i n:Nat):(⟨b,i,none⟩:Addr).add n=⟨b,i+n,none⟩:=by
 unfold Addr.add;by_cases h:n=0<;>simp[h]
theorem qr{a:Addr}(ho:o.op= .nilCheck x)(hx:ql fr x=some (.pointer (some a))):qI P ro o fr (.pointer (some a)):=by
 intro O hρ;unfold execOp;rw[ho];simp only[hρ _ _ hx];rfl
theorem we{s:TypeId}{f:Nat}{fs:Array Field}{fd:Field}{a:Addr}{zv:Value}{n b:Nat}(ho:o.op= .fieldAddr s x f)(hs:P.underlying s=some (.struct fs))(hf:fs[f]?=some fd)(hz:qq P fd.type zv n b)(hn:n≠0)
  (hx:ql fr x=some (.pointer (some a))):qI P ro o fr (.pointer (some (a.add fd.offset))):=by
 refine uj (s:=Instr.fieldAt s (.pointer (some a)) f) (fun O hρ=>?_) ?_
 .unfold execOp;rw[ho];simp only[hρ _ _ hx]
 .unfold Instr.fieldAt
  show qg P ro (Sem.bind (underlying s) _) _=_
  rw[qK _ _ hs];dsimp only;rw[hf];dsimp only[Instr.sureAddr]
  show qg P ro (Sem.bind (fieldPlace a fd) _) _=_
  unfold fieldPlace
  show qg P ro (Sem.bind (Sem.bind (sizeOf fd.type) _) _) _=_
  rw[bind_assoc',uM hz,if_neg hn];rfl
theorem vy{t e:TypeId}{a:Addr}{n c:Nat}{k:IntKind}{i:Int}{zv:Value}{s b:Nat}(ho:o.op= .indexAddr t x y)(ht:P.underlying t=some (.slice e))(hz:qq P e zv s b)
  (hx:ql fr x=some (.slice (some a) n c)) (hy:ql fr y=some (.int k i)) (h0:0<=i) (h1:i<n):qI P ro o fr (.pointer (some (a.add (i.toNat*s)))):=by
 refine uj (s:=Instr.indexAt t (.slice (some a) n c) (.int k i)) (fun O hρ=>?_) ?_
 .unfold execOp;rw[ho];simp only[hρ _ _ hx,hρ _ _ hy]
 .unfold Instr.indexAt
  show qg P ro (Sem.bind (underlying t) _) _=_
  rw[qK _ _ ht]
  simp only[qA,qS,wU]
  rw[qK _ _ ht,if_pos ⟨h0,h1⟩,uM hz];rfl
theorem asT{t:TypeId}{d:TypeDesc}{a:Addr}(ht:P.underlying t=some d)(hd:aaW d=false){Q:Value->AH->Prop}:awp P ro (loadVar t a) Q I↔∃ v,qa ro I a=some v/\Q v I:=by
 unfold loadVar
 show awp P ro (Sem.bind (isAgg t) _) Q I↔_
 rw[ak8 ht,hd];rfl
theorem vF{K:Fr->AH->Prop}{t:TypeId}{d:TypeDesc}{a:Addr}(ho:o.op= .load t x)(ht:P.underlying t=some d)(hd:aaW d=false)(hx:ql fr x=some (.pointer (some a)))(hc:qa ro I a=some v)(h:K (qE o.dst v fr) I):wi P B ro o K fr I:=by
 refine X_sem (s:=loadVar t a) (fun O hρ=>?_) ((asT ht hd).2 ⟨v,hc,h⟩)
 unfold execOp;rw[ho];simp only[hρ _ _ hx];rfl
theorem pV{t:TypeId}{d:TypeDesc}{a:Addr}(ho:o.op= .load t x)(ht:P.underlying t=some d)(hd:aaW d=false)(hx:ql fr x=some (.pointer (some a)))(hc:qa ro (fun _=>none) a=some v):qI P ro o fr v:=by
 refine uj (s:=loadVar t a) (fun O hρ=>?_) ?_
 .unfold execOp;rw[ho];simp only[hρ _ _ hx];rfl
 .unfold loadVar
  show qg P ro (Sem.bind (isAgg t) _) _=_
  rw[pU ht,hd]
  show qg P ro (Sem.load .plain a .pure) _=_
  simp only[qg,hc]
def qf(ro I:AH)(a:Addr):Nat->List Value->Prop
 | _,[]=>True
 | i,v::r=>qa ro I (a.add i)=some v/\qf ro I a (i+1) r
theorem jf{a:Addr}{Q:Array Value->AH->Prop}:∀ (vs:List Value) (i:Nat) (acc:Array Value),qf ro I a i vs->Q (acc++vs.toArray) I->awp P ro (loadCellsFrom a i vs.length acc) Q I:=by
 intro vs
 induction vs with
 | nil=>intro i acc _ h;show Q acc I;simpa using h
 | cons v r ih=>
  intro i acc hc h
  obtain⟨h1,h2⟩:=hc
  show awp P ro (Sem.bind (load (a.add i)) _) Q I
  refine⟨v,h1,?_⟩
  exact ih (i+1) (acc.push v) h2 (by simpa using h)
theorem acX{a:Addr}:∀ (vs:List Value) (i:Nat) (acc:Array Value),qf ro I a i vs->qg P ro (loadCellsFrom a i vs.length acc) I=some (acc++vs.toArray):=by
 intro vs
 induction vs with
 | nil=>intro i acc _;show some acc=_;simp
 | cons v r ih=>
  intro i acc hc
  obtain⟨h1,h2⟩:=hc
  show qg P ro (Sem.load .plain (a.add i) _) I=_
  simp only[qg,h1]
  refine(ih (i+1) (acc.push v) h2).trans ?_
  simp
theorem wI{K:Fr->AH->Prop}{t:TypeId}{d:TypeDesc}{a:Addr}{vs:List Value}{zv:Value}{b:Nat}(ho:o.op= .load t x)(ht:P.underlying t=some d)(hd:aaW d=true)(hz:qq P t zv vs.length b)(hx:ql fr x=some (.pointer (some a)))
  (hc:qf ro I a 0 vs) (h:K (qE o.dst (.agg vs.toArray) fr) I):wi P B ro o K fr I:=by
 refine X_sem (s:=loadVar t a) (fun O hρ=>?_) ?_
 .unfold execOp;rw[ho];simp only[hρ _ _ hx];rfl
 .unfold loadVar
  show awp P ro (Sem.bind (isAgg t) _) _ I
  rw[ak8 ht,hd]
  show awp P ro (Sem.bind (sizeOf t) _) _ I
  rw[adu hz]
  show awp P ro (Sem.bind (loadCellsFrom a 0 vs.length #[]) _) _ I
  refine(vw _ _).2 (jf vs 0 #[] hc ?_)
  show K (qE o.dst (.agg (#[]++vs.toArray)) fr) I
  simpa using h
theorem ats{t:TypeId}{d:TypeDesc}{a:Addr}{vs:List Value}{zv:Value}{b:Nat}(ho:o.op= .load t x)(ht:P.underlying t=some d)(hd:aaW d=true)(hz:qq P t zv vs.length b)(hx:ql fr x=some (.pointer (some a)))
  (hc:qf ro (fun _=>none) a 0 vs):qI P ro o fr (.agg vs.toArray):=by
 refine uj (s:=loadVar t a) (fun O hρ=>?_) ?_
 .unfold execOp;rw[ho];simp only[hρ _ _ hx];rfl
 .unfold loadVar
  show qg P ro (Sem.bind (isAgg t) _) _=_
  rw[pU ht,hd]
  show qg P ro (Sem.bind (sizeOf t) _) _=_
  rw[uM hz]
  have:=acX (P:=P) vs 0 #[] hc
  show qg P ro (Sem.bind (loadCellsFrom a 0 vs.length #[]) fun cs=>Sem.pure (Value.agg cs)) _=_
  generalize loadCellsFrom a 0 vs.length #[]=s at this
  have gen:∀ (s:Sem (Array Value)) {w:Array Value},qg P ro s (fun _=>none)=some w->qg P ro (Sem.bind s fun cs=>Sem.pure (Value.agg cs)) (fun _=>none)=some (.agg w):=by
   intro s
   induction s with
   | pure a=>intro w h;cases h;rfl
   | load m a k ih=>
    intro w h
    simp only[qg]at h
    simp only[Sem.bind,qg]
    split at h
    .exact ih _ h
    .cases h
   | program k ih=>intro w h;exact ih _ h
   | mark m k ih=>intro w h;exact ih h
   | _=>intro w h;cases h
  have:=gen s this
  simpa using this
def st1(I:AH)(a:Addr)(v:Value)(K:AH->Prop):Prop:=a.spot=none/\∃ c e fz,I a.block=some (.cells c e fz)/\a.off<c.size/\¬ (fz.1<=a.off/\a.off<fz.2)/\K (upd I a.block (.cells (c.setIfInBounds a.off v) e fz))
def stN(a:Addr)(K:AH->Prop):List Value->Nat->AH->Prop
 | [],_,I=>K I
 | v::r,i,I=>qh v=true/\st1 I (a.add i) v (stN a K r (i+1))
theorem jv{a:Addr}{Q:Unit->AH->Prop}:∀ (vs:List Value) (i:Nat) (I:AH),stN a (Q ()) vs i I->awp P ro (storeCells a vs i) Q I:=by
 intro vs
 induction vs with
 | nil=>intro i I h;exact h
 | cons v r ih=>
  intro i I h
  obtain⟨h0,h1,c,e,fz,h2,h3,h4,h5⟩:=h
  unfold storeCells
  exact⟨h0,h1,c,e,fz,h2,h3,h4,ih (i+1) _ h5⟩
theorem py{K:Fr->AH->Prop}{t:TypeId}{a:Addr}{vs:List Value}{zv:Value}{n b:Nat}(ho:o.op= .store t x y)(hz:qq P t zv n b)(hx:ql fr x=some (.pointer (some a)))(hy:ql fr y=some v)(hv:v.cells.toList=vs)(hn:vs.length=n)
  (h:stN a (fun I=>K (qE o.dst undef fr) I) vs 0 I):wi P B ro o K fr I:=by
 refine X_semU (s:=storeVar t a v) (fun O hρ=>?_) ?_
 .unfold execOp;rw[ho];simp only[hρ _ _ hx,hρ _ _ hy];rfl
 .unfold storeVar
  show awp P ro (Sem.bind (sizeOf t) _) _ I
  rw[adu hz,if_neg (by subst hv;subst hn;simp)]
  rw[hv]
  exact jv vs 0 I h
theorem ajW{K:Fr->AH->Prop}{ob:Obj}{mk:Nat->Value}(he:adI P ro o fr ob mk)(h:∀ b,ro b=none->I b=none->K (qE o.dst (mk b) fr) (upd I b ob)):wi P B ro o K fr I:=by
 intro O hρ
 obtain⟨k,k1,k2⟩:=he O hρ
 exact(ahR _ k1).2 fun b hb hs=>(acW _ (k2 b)).2 (h b hb hs)
def jg(P:Program):Sem Value->Option (Obj×(Nat->Sem Value))
 | .new o k=>some (o,k)
 | .program k=>jg P (k P)
 | .mark _ k=>jg P k
 | _=>none
theorem adZ{s:Sem Value}{ob:Obj}{mk:Nat->Value}(h:∀ O,vW O fr->execOp O o=(do pure (.value (<-s))))(hs:∃ k,jg P s=some (ob,k)/\∀ b,k b=Sem.pure (mk b)):adI P ro o fr ob mk:=by
 intro O hρ
 rw[h O hρ]
 obtain⟨k,h1,h2⟩:=hs
 exact⟨fun b=>(k b).bind fun v=>Sem.pure (.value v),go s h1,fun b=>by dsimp only;rw[h2];rfl⟩
where
 go (s:Sem Value) {ob:Obj} {k:Nat->Sem Value} (h:jg P s=some (ob,k)):aiD P (s.bind fun v=>Sem.pure (.value v))=some (ob,fun b=>(k b).bind fun v=>Sem.pure (.value v)):=by
  induction s with
  | new o k' ih=>simp only[jg,Option.some.injEq,Prod.mk.injEq]at h;obtain⟨rfl,rfl⟩:=h;rfl
  | program k' ih=>exact ih _ h
  | mark m k' ih=>exact ih h
  | _=>cases h
theorem ahU{t:TypeId}{zv:Value}{s b:Nat}(h:qq P t zv s b){f:Value->Sem Value}:jg P (Sem.bind (zeroValue t) f)=jg P (f zv):=by
 obtain⟨i,h1,h2,_,_⟩:=h
 unfold zeroValue typeInfo
 simp only[qA,jK,bind_assoc']
 show jg P (Sem.bind (match P.info? t with | some i=>pure i | none=>stuck "no such type") _)=_
 rw[h1];simp only[qS,wU];rw[h2];rfl
theorem ajX{t:TypeId}{d:TypeDesc}(h:P.underlying t=some d){f:TypeDesc->Sem Value}:jg P (Sem.bind (underlying t) f)=jg P (f d):=by
 unfold underlying
 simp only[qA,jK]
 show jg P (Sem.bind (match P.underlying t with | some d=>pure d | none=>stuck "no such type") f)=_
 rw[h];rfl
theorem ak9{t:TypeId}{d:TypeInfo}(h:P.info? t=some d){f:TypeInfo->Sem Value}:jg P (Sem.bind (typeInfo t) f)=jg P (f d):=by
 unfold typeInfo
 simp only[qA,jK]
 show jg P (Sem.bind (match P.info? t with | some d=>pure d | none=>stuck "no such type") f)=_
 rw[h];rfl
theorem ala{t:TypeId}{zv:Value}{s b:Nat}(h:qq P t zv s b){f:Nat->Sem Value}:jg P (Sem.bind (sizeOf t) f)=jg P (f s):=by
 obtain⟨i,h1,_,h3,_⟩:=h
 unfold sizeOf
 show jg P (Sem.bind (Sem.bind (typeInfo t) _) f)=_
 rw[bind_assoc',ak9 h1,<-h3];rfl
theorem qV{e:TypeId}{zv:Value}{n b:Nat}(ho:o.op= .alloc e)(hz:qq P e zv n b):adI P ro o fr (.cells zv.cells e) (fun b=> .pointer (some ⟨b,0,none⟩)):=by
 refine adZ (s:=Instr.alloc e true (.tuple #[])) (fun O hρ=>?_) ⟨fun b=>Sem.pure (.pointer (some ⟨b,0,none⟩)),?_,fun b=>?_⟩
 .unfold execOp;rw[ho]
 .unfold Instr.alloc
  show jg P (Sem.bind (zeroValue e) _)=_
  rw[ahU hz];rfl
 .rfl
theorem wB{e:TypeId}{u:Value}(ho:o.op= .box e x)(hx:ql fr x=some u):adI P ro o fr (.cells u.cells e) (fun b=> .pointer (some ⟨b,0,none⟩)):=by
 refine adZ (s:=Instr.box e u) (fun O hρ=>?_) ⟨fun b=>Sem.pure (.pointer (some ⟨b,0,none⟩)),?_,fun b=>?_⟩
 .unfold execOp;rw[ho];simp only[hρ _ _ hx]
 .rfl
 .rfl
theorem aga{t:TypeId}(ho:o.op= .makeMap t none):adI P ro o fr (.map #[] 0) (fun b=> .map (some b)):=by
 refine adZ (s:=Instr.makeMap t none) (fun O hρ=>?_) ⟨fun b=>Sem.pure (.map (some b)),?_,fun b=>?_⟩
 .unfold execOp;rw[ho];rfl
 .rfl
 .rfl
def uN(zv:Value)(n:Nat):Array Value:=((List.range n).map (zv.cells[· %zv.cells.size]!)).toArray
theorem amd(zv:Value)(n:Nat):(Array.range n).map (zv.cells[· %zv.cells.size]!)=uN zv n:=by
 apply Array.toList_inj.1
 simp[uN]
theorem wg{n:Int}(h0: -9223372036854775808<=n)(h1:n<9223372036854775808):i64.wrap n=n:=by
 rw[IntKind.wrap_i64];omega
theorem arL{t e:TypeId}{zv:Value}{s b:Nat}{n c:Int}(ho:o.op= .makeSlice t x y)(ht:P.underlying t=some (.slice e))(hz:qq P e zv s b)(hx:ql fr x=some (.int .i64 n))(hy:ql fr y=some (.int .i64 c))
  (h0:0<=n) (h1:n<=c) (h2:c<=281474976710656) (h3:b*c<=281474976710656):adI P ro o fr (.cells (uN zv (c.toNat*s)) e) (fun b=> .slice (some ⟨b,0,none⟩) n.toNat c.toNat):=by
 have wn:i64.wrap n=n:=wg (by omega) (by omega)
 have wc:i64.wrap c=c:=wg (by omega) (by omega)
 refine adZ (s:=Instr.makeSlice t (.int .i64 n) (.int .i64 c)) (fun O hρ=>?_) ⟨fun b=>Sem.pure (.slice (some ⟨b,0,none⟩) n.toNat c.toNat),?_,fun b=>?_⟩
 .unfold execOp;rw[ho];simp only[hρ _ _ hx,hρ _ _ hy]
 .unfold Instr.makeSlice
  show jg P (Sem.bind (underlying t) _)=_
  rw[ajX ht]
  obtain⟨i,i1,i2,i3,i4⟩:=hz
  show jg P (Sem.bind (typeInfo e) _)=_
  rw[ak9 i1]
  dsimp only
  rw[wn,wc,i4]
  rw[if_neg (by
   simp only[Bool.or_eq_true,decide_eq_true_eq]
   omega)]
  show jg P (Sem.bind (askRoom _) _)=_
  have hroom:∀ (m:Nat) (f:Unit->Sem Value),jg P (Sem.bind (askRoom m) f)=jg P (f ()):=by
   intro m f;unfold askRoom;split<;>rfl
  rw[hroom]
  have hz':qq P e zv s b:=⟨i,i1,i2,i3,i4⟩
  show jg P (Sem.bind (sizeOf e) _)=_
  rw[ala hz']
  by_cases hc:c.toNat*s=0
  .simp only[hc,if_true]
   show jg P (Sem.bind (Sem.pure #[]) _)=_
   simp[uN,newRow,newObj,qA,Sem.bind,jg,qS]
  .simp only[if_neg hc]
   show jg P (Sem.bind (zeroValue e) _)=_
   rw[ahU hz']
   show some (Obj.cells ((Array.range (c.toNat*s)).map (zv.cells[· %zv.cells.size]!)) e,_)=_
   rw[amd]
   rfl
 .rfl
def yH(fr:Fr):List Operand->Option (List Value)
 | []=>some []
 | x::r=>match ql fr x,yH fr r with
  | some v,some vs=>some (v::vs)
  | _,_=>none
theorem aas{O:Operand->Value}(hρ:vW O fr):∀ (l:List Operand) {vs:List Value},yH fr l=some vs->l.map O=vs:=by
 intro l
 induction l with
 | nil=>intro vs h;cases h;rfl
 | cons x r ih=>
  intro vs h
  unfold yH at h
  split at h
  .rename_i v vs' h1 h2
   cases h
   rw[List.map_cons,hρ _ _ h1,ih h2]
  .cases h
theorem agb{f:FuncId}{fn:Func}{args:Array Value}{Q:Next->AH->Prop}(hf:P.funcs[f]?=some fn)(hn:(fn.name == "runtime.NumGoroutine")=false)(hb:fn.body.isNone=false)(h:Q (.enter f args) I):awp P ro (callFunc f args) Q I:=by
 unfold callFunc
 show awp P ro (Sem.bind program _) Q I
 rw[jK]
 show awp P ro (match P.funcs[f]? with | none=>_ | some fn=>_) Q I
 rw[hf];dsimp only
 rw[hn,hb]
 exact h
theorem qG{K:Fr->AH->Prop}{f:FuncId}{fn:Func}{ars:Array Operand}{ts:Array TypeId}{vs:List Value}(ho:o.op= .call {callee:= .value (.func f),args:=ars,argTypes:=ts})(hf:P.funcs[f]?=some fn)(hn:(fn.name == "runtime.NumGoroutine")=false)(hb:fn.body.isNone=false)
  (ha:yH fr ars.toList=some vs) (h:qc P B ro f vs.toArray I fun v I=>K (qE o.dst v fr) I):wi P B ro o K fr I:=by
 intro O hρ
 have hm:=aas hρ _ ha
 have hfun:O (.func f)= .func (.func f) #[] #[]:=hρ _ _ rfl
 have e:execOp O o=callFunc f vs.toArray:=by
  unfold execOp;rw[ho]
  simp only[resolve,hfun,Deferred.ofValue,qS,qA,wU,invoke]
  congr 1
  have:ars.map O=vs.toArray:=Array.toList_inj.1 (by rw[Array.toList_map,hm])
  rw[this];simp
 rw[e]
 exact agb hf hn hb h
theorem ar3{K:Fr->AH->Prop}{f:FuncId}{fn:Func}{ars:Array Operand}{ts:Array TypeId}{vs:List Value}{first cap:Array Value}(ho:o.op= .call {callee:= .value x,args:=ars,argTypes:=ts})(hx:ql fr x=some (.func (.func f) first cap))(hf:P.funcs[f]?=some fn)(hn:(fn.name == "runtime.NumGoroutine")=false)(hb:fn.body.isNone=false)
  (ha:yH fr ars.toList=some vs) (h:qc P B ro f (first++vs.toArray++cap) I fun v I=>K (qE o.dst v fr) I):wi P B ro o K fr I:=by
 intro O hρ
 have hm:=aas hρ _ ha
 have e:execOp O o=callFunc f (first++vs.toArray++cap):=by
  unfold execOp;rw[ho]
  simp only[resolve,hρ _ _ hx,Deferred.ofValue,qS,qA,wU,invoke]
  congr 1
  have:ars.map O=vs.toArray:=Array.toList_inj.1 (by rw[Array.toList_map,hm])
  rw[this]
 rw[e]
 exact agb hf hn hb h
theorem xi{K:Fr->AH->Prop}{b:Builtin}{ars:Array Operand}{ts:Array TypeId}{vs:List Value}{s:Sem Value}(ho:o.op= .call {callee:= .builtin b,args:=ars,argTypes:=ts})(ha:yH fr ars.toList=some vs)(hb:∀ cs,builtin b ts o.type cs vs.toArray=(do pure (.value (<-s))))
  (h:awp P ro s (fun v I=>K (qE o.dst v fr) I) I):wi P B ro o K fr I:=by
 refine X_sem (s:=s) (fun O hρ=>?_) h
 have hm:=aas hρ _ ha
 have:ars.map O=vs.toArray:=Array.toList_inj.1 (by rw[Array.toList_map,hm])
 unfold execOp;rw[ho]
 simp only[resolve,qS,qA,wU,invoke,this,hb]
end
end SL
namespace SL
open Go
section
variable{P:Program}{B:World}{ro:AH}{N:Nat}{o:Oper}{fr:Fr}{I:AH}{x y z:Operand}{v:Value}
def ajo(fr:Fr):Option Operand->Option Int->Prop
 | none,none=>True
 | some x,some i=> ∃k,ql fr x=some (.int k i)
 | _,_=>False
theorem afI{k:IntKind}{i:Int}{y:Nat}{c:BoundsCode}{β:Type}{f:Nat->Sem β}{τ:AH}(h0:0<=i)(h1:i<=y):qg P ro (Sem.bind (Instr.sliceBound (.int k i) y c) f) τ=qg P ro (f i.toNat) τ:=by
 unfold Instr.sliceBound
 show qg P ro (Sem.bind (if 0<=i/\i<=y then pure i.toNat else _) f) τ=_
 rw[if_pos ⟨h0,h1⟩];rfl
def ajY(lo:Option Int):Nat:=match lo with | some i=>i.toNat | none=>0
def cutHi(hi:Option Int)(len:Nat):Nat:=match hi with | some i=>i.toNat | none=>len
def cutOk(lo hi:Option Int)(len cap:Nat):Prop:=(match hi with | some i=>0<=i/\i<=cap | none=>True)/\(match lo with | some i=>0<=i/\i<=(cutHi hi len:Int) | none=>True)
theorem adL{O:Operand->Value}(hρ:vW O fr){a:Option Operand}{i:Option Int}(h:ajo fr a i):(a=none/\i=none)\/∃ k j,i=some j/\a.map O=some (.int k j):=by
 cases a with
 | none=>cases i with
  | none=>exact .inl ⟨rfl,rfl⟩
  | some j=>exact h.elim
 | some x=>cases i with
  | none=>exact h.elim
  | some j=>obtain⟨k,hk⟩:=h;exact .inr ⟨k,j,rfl,by simp[hρ _ _ hk]⟩
theorem ahV{β:Type}{lo hi:Option Int}{a b:Option Operand}{O:Operand->Value}(ha:(a=none/\lo=none)\/∃ k j,lo=some j/\a.map O=some (.int k j))(hb:(b=none/\hi=none)\/∃ k j,hi=some j/\b.map O=some (.int k j)){len cap:Nat}{isS:Bool}
  (h:cutOk lo hi len cap) {f:Nat×Nat×Nat->Sem β} {τ:AH}:qg P ro (Sem.bind (Instr.sliceBounds isS len cap (a.map O) (b.map O) none) f) τ=qg P ro (f (ajY lo,cutHi hi len,cap)) τ:=by
 obtain⟨h1,h2⟩:=h
 unfold Instr.sliceBounds
 simp only[qA,qS,wU,bind_assoc']
 rcases hb with⟨rfl,rfl⟩ | ⟨k,j,rfl,hb⟩
 .simp only[Option.map_none,wU]
  rcases ha with⟨rfl,rfl⟩ | ⟨k,j,rfl,ha⟩
  .rfl
  .rw[ha];dsimp only at h2⊢
   simp only[bind_assoc']
   rw[afI h2.1 (by simpa [cutHi]using h2.2)];rfl
 .rw[hb];dsimp only at h1⊢
  simp only[bind_assoc']
  rw[afI h1.1 h1.2]
  rcases ha with⟨rfl,rfl⟩ | ⟨k,j,rfl,ha⟩
  .rfl
  .rw[ha];dsimp only at h2⊢
   simp only[bind_assoc']
   rw[afI h2.1 (by simpa [cutHi]using h2.2)];rfl
theorem alZ{t:TypeId}{a b:Option Operand}{lo hi:Option Int}{s:ByteArray}(ho:o.op= .slice t x a b none)(ht:P.underlying t=some .string)(hx:ql fr x=some (.string s))(ha:ajo fr a lo)(hb:ajo fr b hi)(h:cutOk lo hi s.size s.size):
  qI P ro o fr (.string (s.extract (ajY lo) (cutHi hi s.size))):=by
 intro O hρ
 have e:execOp O o=(do pure (.value (<-Instr.sliceAt t (.string s) (a.map O) (b.map O) none))):=by unfold execOp;rw[ho];simp only[hρ _ _ hx];rfl
 rw[e]
 show qg P ro (Sem.bind (Instr.sliceAt t (.string s) (a.map O) (b.map O) none) _) _=_
 unfold Instr.sliceAt
 simp only[qA,bind_assoc']
 rw[qK _ _ ht];dsimp only
 unfold Instr.slice
 simp only[qA,bind_assoc']
 rw[qK _ _ ht];dsimp only
 simp only[Option.isSome_none,Bool.false_eq_true,if_false,bind_assoc',qS,wU]
 rw[ahV (adL hρ ha) (adL hρ hb) h];rfl
def wq(a:Option Addr)(lo cap s:Nat):Option Addr:=if cap=lo then a else a.map (·.add (lo*s))
theorem uO{t e:TypeId}{a b:Option Operand}{lo hi:Option Int}{ad:Option Addr}{n c:Nat}{zv:Value}{s bt:Nat}(ho:o.op= .slice t x a b none)(ht:P.underlying t=some (.slice e))(hz:qq P e zv s bt)(hx:ql fr x=some (.slice ad n c))(ha:ajo fr a lo)(hb:ajo fr b hi)(h:cutOk lo hi n c):
  qI P ro o fr (.slice (wq ad (ajY lo) c s) (cutHi hi n - ajY lo) (c - ajY lo)):=by
 intro O hρ
 have e':execOp O o=(do pure (.value (<-Instr.sliceAt t (.slice ad n c) (a.map O) (b.map O) none))):=by unfold execOp;rw[ho];simp only[hρ _ _ hx];rfl
 rw[e']
 show qg P ro (Sem.bind (Instr.sliceAt t (.slice ad n c) (a.map O) (b.map O) none) _) _=_
 unfold Instr.sliceAt
 simp only[qA,bind_assoc']
 rw[qK _ _ ht];dsimp only
 unfold Instr.slice
 simp only[qA,bind_assoc']
 rw[qK _ _ ht];dsimp only
 simp only[bind_assoc',qS,wU]
 rw[ahV (adL hρ ha) (adL hρ hb) h]
 dsimp only
 rw[uM hz];rfl
theorem zP:ajo fr none none:=trivial
theorem zQ{k:IntKind}{i:Int}(h:ql fr x=some (.int k i)):ajo fr (some x) (some i):=⟨k,h⟩
def wV(P:Program):List Field->List (Nat×Nat)->Prop
 | [],[]=>True
 | f::r,p::q=>(p.1=f.offset/\∃ zv b,qq P f.type zv p.2 b)/\wV P r q
 | _,_=>False
theorem ame{β:Type}{fs:Array Field}{pl:List (Nat×Nat)}(h:wV P fs.toList pl){f:Array (Nat×Nat)->Sem β}{τ:AH}:qg P ro (Sem.bind (fs.mapM fun fd=>do pure (fd.offset,<-sizeOf fd.type)) f) τ=qg P ro (f pl.toArray) τ:=by
 rw[Array.mapM_eq_mapM_toList]
 show qg P ro (Sem.bind (List.toArray <$> _) f) τ=_
 have gen:∀ (l:List Field) (pl:List (Nat×Nat)) {γ:Type} (g:List (Nat×Nat)->Sem γ),wV P l pl->qg P ro (Sem.bind (l.mapM fun fd=>do pure (fd.offset,<-sizeOf fd.type)) g) τ=qg P ro (g pl) τ:=by
  intro l
  induction l with
  | nil=>
   intro pl γ g h
   cases pl with
   | nil=>rfl
   | cons p q=>exact h.elim
  | cons fd r ih=>
   intro pl γ g h
   cases pl with
   | nil=>exact h.elim
   | cons p q=>
    obtain⟨⟨h1,zv,b,h2⟩,h3⟩:=h
    rw[List.mapM_cons]
    show qg P ro (Sem.bind (Sem.bind (Sem.bind (sizeOf fd.type) _) _) g) τ=_
    rw[bind_assoc',bind_assoc',uM h2]
    simp only[qS,wU,bind_assoc',qA]
    show qg P ro (Sem.bind (r.mapM fun fd=>do pure (fd.offset,<-sizeOf fd.type)) _) τ=_
    rw[ih q _ h3]
    have:(fd.offset,p.2)=p:=by rw[<-h1]
    simp only[this]
 have map_bind:∀ (s:Sem (List (Nat×Nat))),Sem.bind (List.toArray <$> s) f=Sem.bind s fun l=>f l.toArray:=by
  intro s
  show Sem.bind (Sem.bind s _) f=_
  rw[bind_assoc'];rfl
 rw[map_bind,gen _ _ _ h]
def acL(fr:Fr):List (Nat×Operand)->Option (List (Nat×Value))
 | []=>some []
 | (i,x)::r=>match ql fr x,acL fr r with
  | some v,some vs=>some ((i,v)::vs)
  | _,_=>none
theorem ahz{O:Operand->Value}(hρ:vW O fr){ps:Array (Nat×Operand)}{vs:List (Nat×Value)}(h:acL fr ps.toList=some vs):(ps.map fun(i,x)=>(i,O x)).toList=vs:=by
 have gen:∀ (l:List (Nat×Operand)) {vs:List (Nat×Value)},acL fr l=some vs->l.map (fun(i,x)=>(i,O x))=vs:=by
  intro l
  induction l with
  | nil=>intro vs h;cases h;rfl
  | cons p r ih=>
   intro vs h
   obtain⟨i,x⟩:=p
   unfold acL at h
   split at h
   .rename_i v vs' h1 h2
    cases h
    rw[List.map_cons,ih h2]
    simp only[hρ _ _ h1]
   .cases h
 rw[Array.toList_map];exact gen _ h
theorem wO{t:TypeId}{fs:Array Field}{pl:List (Nat×Nat)}{zv:Value}{n b:Nat}{parts:Array (Nat×Operand)}{vs:List (Nat×Value)}{cs:Array Value}(ho:o.op= .build t parts)(ht:P.underlying t=some (.struct fs))(hz:qq P t zv n b)(hp:wV P fs.toList pl)
  (hv':acL fr parts.toList=some vs) (hf:Instr.fill (fun i=>pl.toArray[i]?) zv.cells vs=some cs):qI P ro o fr (.agg cs):=by
 have hv:∀ O,vW O fr->(parts.map fun(i,x)=>(i,O x)).toList=vs:=fun O hρ=>ahz hρ hv'
 intro O hρ
 have e:execOp O o=(do pure (.value (<-Instr.build t (parts.map fun(i,x)=>(i,O x))))):=by unfold execOp;rw[ho]
 rw[e]
 show qg P ro (Sem.bind (Instr.build t _) _) _=_
 unfold Instr.build
 simp only[qA,bind_assoc']
 rw[aoi hz,qK _ _ ht]
 dsimp only
 simp only[bind_assoc']
 refine(ame hp).trans ?_
 rw[hv O hρ]
 simp only[hf];rfl
theorem zC{t e:TypeId}{len:Nat}{zv:Value}{s b:Nat}{parts:Array (Nat×Operand)}{vs:List (Nat×Value)}{cs:Array Value}(ho:o.op= .buildSlice t len parts)(ht:P.underlying t=some (.slice e))(hs:qq P e zv s b)(hlen:len*s<=16777216)
  (hv':acL fr parts.toList=some vs) (hf:Instr.fill (fun i=>some (i*s,s)) (uN zv (len*s)) vs=some cs):adI P ro o fr (.cells cs e) (fun b=> .slice (some ⟨b,0,none⟩) len len):=by
 have hv:∀ O,vW O fr->(parts.map fun(i,x)=>(i,O x)).toList=vs:=fun O hρ=>ahz hρ hv'
 intro O hρ
 have e':execOp O o=(do pure (.value (<-Instr.buildSlice t len (parts.map fun(i,x)=>(i,O x))))):=by unfold execOp;rw[ho]
 rw[e']
 have hn:jg P (Instr.buildSlice t len (parts.map fun(i,x)=>(i,O x)))=some (.cells cs e,fun b=>Sem.pure (.slice (some ⟨b,0,none⟩) len len)):=by
  unfold Instr.buildSlice
  simp only[qA]
  rw[ajX ht]
  dsimp only
  try simp only[qA]
  rw[ala hs]
  rw[if_neg (by omega)]
  by_cases hc:len*s=0
  .rw[if_pos hc]
   try simp only[qS,wU]
   rw[hv O hρ]
   have:Instr.fill (fun i=>some (i*s,s)) ((Array.range (len*s)).map fun i=>(#[]:Array Value)[i%(#[]:Array Value).size]!) vs=some cs:=by
    rw[<-hf];congr 1
    simp[uN,hc]
   simp only[this];rfl
  .rw[if_neg hc]
   simp only[qS,wU]
   rw[ahU hs]
   try simp only[wU]
   rw[hv O hρ]
   have:Instr.fill (fun i=>some (i*s,s)) ((Array.range (len*s)).map fun i=>zv.cells[i%zv.cells.size]!) vs=some cs:=by rw[amd];exact hf
   simp only[this];rfl
 exact⟨_,adZ.go _ hn,fun b=>rfl⟩
theorem aoj{fn:Fn}{first cap:Array Operand}{fs cs:List Value}(ho:o.op= .makeFunc fn first cap)(hf':yH fr first.toList=some fs)(hc':yH fr cap.toList=some cs):qI P ro o fr (.func fn fs.toArray cs.toArray):=by
 intro O hρ
 have hf:first.map O=fs.toArray:=Array.toList_inj.1 (by rw[Array.toList_map,aas hρ _ hf'])
 have hc:cap.map O=cs.toArray:=Array.toList_inj.1 (by rw[Array.toList_map,aas hρ _ hc'])
 unfold execOp;rw[ho];simp only[hf,hc];rfl
theorem ahW(t:TypeId)(a b:Value):Op.equal t a b=Op.equalIn (9999+1) t a b:=rfl
theorem arM{t u:TypeId}{a b:Value}(ho:o.op= .binOp .eql t x y u)(hx:ql fr x=some a)(hy:ql fr y=some b){r:Bool}(hg:eqGuard .eql t x y a b=pure ())(hb:Go.binOp .eql t a b=(do pure (.bool (<-Op.equal t a b))))
  (hr:∀ τ,qg P ro (Op.equalIn (9999+1) t a b) τ=some r):qI P ro o fr (.bool r):=by
 refine uj (s:=do eqGuard .eql t x y a b;Go.binOp .eql t a b) (fun O hρ=>?_) ?_
 .unfold execOp;rw[ho];simp only[hρ _ _ hx,hρ _ _ hy]
 .rw[hg,hb,ahW]
  have:=hr (fun _=>none)
  generalize Op.equalIn (9999+1) t a b=s at this
  show qg P ro (Sem.bind s fun b=>Sem.pure (Value.bool b)) _=_
  exact gen s this
where
 gen (s:Sem Bool) {w:Bool} (h:qg P ro s (fun _=>none)=some w):qg P ro (Sem.bind s fun b=>Sem.pure (Value.bool b)) (fun _=>none)=some (.bool w):=by
  induction s with
  | pure a=>cases h;rfl
  | load m a k ih=>
   simp only[qg]at h
   simp only[Sem.bind,qg]
   split at h
   .exact ih _ h
   .cases h
  | program k ih=>exact ih _ h
  | mark m k ih=>exact ih h
  | _=>cases h
theorem att{t u:TypeId}{a b:Value}(ho:o.op= .binOp .neq t x y u)(hx:ql fr x=some a)(hy:ql fr y=some b){r:Bool}(hg:eqGuard .neq t x y a b=pure ())(hb:Go.binOp .neq t a b=(do pure (.bool (!(<-Op.equal t a b)))))
  (hr:∀ τ,qg P ro (Op.equalIn (9999+1) t a b) τ=some r):qI P ro o fr (.bool (!r)):=by
 refine uj (s:=do eqGuard .neq t x y a b;Go.binOp .neq t a b) (fun O hρ=>?_) ?_
 .unfold execOp;rw[ho];simp only[hρ _ _ hx,hρ _ _ hy]
 .rw[hg,hb,ahW]
  have:=hr (fun _=>none)
  generalize Op.equalIn (9999+1) t a b=s at this
  show qg P ro (Sem.bind s fun b=>Sem.pure (Value.bool !b)) _=_
  exact gen s this
where
 gen (s:Sem Bool) {w:Bool} (h:qg P ro s (fun _=>none)=some w):qg P ro (Sem.bind s fun b=>Sem.pure (Value.bool !b)) (fun _=>none)=some (.bool !w):=by
  induction s with
  | pure a=>cases h;rfl
  | load m a k ih=>
   simp only[qg]at h
   simp only[Sem.bind,qg]
   split at h
   .exact ih _ h
   .cases h
  | program k ih=>exact ih _ h
  | mark m k ih=>exact ih h
  | _=>cases h
theorem anB{t e:TypeId}{p:Option Addr}{τ:AH}(ht:P.underlying t=some (.pointer e)):qg P ro (Op.equalIn (9999+1) t (.pointer p) (.pointer none)) τ=some p.isNone:=by
 unfold Op.equalIn
 show qg P ro (Sem.bind (underlying t) _) _=_
 rw[qK _ _ ht];cases p<;>rfl
theorem asU{t e:TypeId}{a:Option Addr}{n c:Nat}{τ:AH}(ht:P.underlying t=some (.slice e)):qg P ro (Op.equalIn (9999+1) t (.slice a n c) (.slice none 0 0)) τ=some a.isNone:=by
 unfold Op.equalIn
 show qg P ro (Sem.bind (underlying t) _) _=_
 rw[qK _ _ ht];cases a<;>rfl
theorem adM{t u e:TypeId}{p:Option Addr}(ho:o.op= .binOp .eql t x y u)(ht:P.underlying t=some (.pointer e))(hx:ql fr x=some (.pointer p))(hy:ql fr y=some (.pointer none)):qI P ro o fr (.bool p.isNone):=arM ho hx hy rfl (by cases p<;>rfl) fun _=>anB ht
theorem al0{t u e:TypeId}{p:Option Addr}(ho:o.op= .binOp .neq t x y u)(ht:P.underlying t=some (.pointer e))(hx:ql fr x=some (.pointer p))(hy:ql fr y=some (.pointer none)):qI P ro o fr (.bool (!p.isNone)):=att ho hx hy rfl (by cases p<;>rfl) fun _=>anB ht
theorem al1{t u e:TypeId}{a:Option Addr}{n c:Nat}(ho:o.op= .binOp .eql t x y u)(ht:P.underlying t=some (.slice e))(hx:ql fr x=some (.slice a n c))(hy:ql fr y=some (.slice none 0 0)):qI P ro o fr (.bool a.isNone):=arM ho hx hy rfl rfl fun _=>asU ht
theorem arN{b:Builtin}{ars:Array Operand}{ts:Array TypeId}{vs:List Value}{s:Sem Value}(ho:o.op= .call {callee:= .builtin b,args:=ars,argTypes:=ts})(ha:yH fr ars.toList=some vs)(hb:∀ cs,builtin b ts o.type cs vs.toArray=(do pure (.value (<-s))))
  (hs:qg P ro s (fun _=>none)=some v):qI P ro o fr v:=by
 refine uj (s:=s) (fun O hρ=>?_) hs
 have hm:=aas hρ _ ha
 have:ars.map O=vs.toArray:=Array.toList_inj.1 (by rw[Array.toList_map,hm])
 unfold execOp;rw[ho]
 simp only[resolve,qS,qA,wU,invoke,this,hb]
theorem amf{ars:Array Operand}{ts:Array TypeId}{k:IntKind}{a b:Int}(ho:o.op= .call {callee:= .builtin .min,args:=ars,argTypes:=ts})(ha:yH fr ars.toList=some [.int k a,.int k b]):qI P ro o fr (.int k (if b<a then b else a)):=
 arN ho ha (fun _=>rfl) rfl
theorem apd{ars:Array Operand}{ts:Array TypeId}{k:IntKind}{a b:Int}(ho:o.op= .call {callee:= .builtin .max,args:=ars,argTypes:=ts})(ha:yH fr ars.toList=some [.int k a,.int k b]):qI P ro o fr (.int k (if a<b then b else a)):=
 arN ho ha (fun _=>rfl) rfl
def nw(ro I:AH)(ob:Obj)(K:Nat->AH->Prop):Prop:= ∀b,ro b=none->I b=none->K b (upd I b ob)
theorem zO{a:Addr}{K K':AH->Prop}:∀ {vs:List Value} {i:Nat} {I:AH},stN a K vs i I->(∀I,K I->K' I)->stN a K' vs i I:=by
 intro vs
 induction vs with
 | nil=>intro i I h hk;exact hk _ h
 | cons v r ih=>
  intro i I h hk
  obtain⟨h0,h1,c,e,fz,h2,h3,h4,h5⟩:=h
  exact⟨h0,h1,c,e,fz,h2,h3,h4,ih h5 hk⟩
theorem jh{ops:Array Oper}{K:Fr->AH->Prop}(h:K fr I):qR P B ro N ops (wk K) [] fr I:=⟨fr,qo.refl _,h⟩
theorem qd{next:Fr->AH->Prop}{Q:Exit->Fr->AH->Prop}(h:next fr I):ab5 next Q .normal fr I:=h
theorem qD{next:Fr->AH->Prop}{Q:Exit->Fr->AH->Prop}{id:Nat}(h:Q (.exit id) fr I):ab5 next Q (.exit id) fr I:=h
theorem qj{next:Fr->AH->Prop}{Q:Exit->Fr->AH->Prop}(h:Q .ret fr I):ab5 next Q .ret fr I:=h
theorem qC{Q:Exit->Fr->AH->Prop}{id:Nat}(h:Q .normal fr I):adV id Q .normal fr I:=h
theorem wC{Q:Exit->Fr->AH->Prop}{id:Nat}(h:Q .normal fr I):adV id Q (.exit id) fr I:=by
 show(if id=id then Q .normal fr I else Q (.exit id) fr I);rw[if_pos rfl];exact h
theorem asV{Q:Exit->Fr->AH->Prop}{id id':Nat}(hne:(id' == id)=false)(h:Q (.exit id') fr I):adV id Q (.exit id') fr I:=by
 show(if id'=id then Q .normal fr I else Q (.exit id') fr I);rw[if_neg (by simpa using hne)];exact h
theorem qw{Q:Exit->Fr->AH->Prop}{id:Nat}(h:Q .ret fr I):adV id Q .ret fr I:=h
theorem Lyb{ops:Array Oper}{K:Fr->AH->Prop}{rest:List Oper}{j t:Nat}{want b:Bool}(hg:o.guard=some (j,want))(hd:wT N o.dst=true)(ht:(ops[j]?).bind (·.dst)=some t)(hl:look fr t=some (.bool b))(e:b=want)
  (h:wi P B ro o (qR P B ro N ops K rest) fr I):qR P B ro N ops K (o::rest) fr I:=Ly hg hd ht (by rw[hl,e]) h
theorem qQ{ops:Array Oper}{K:Fr->AH->Prop}{l:List Oper}(m:Nat)(b:Bool){p:Prop}[Decidable p]{X Y:Prop}(hi:b=true↔p)(h:if p then X else Y)(J:Fr->AH->Prop)
  (hy:X->b=true->(∀fr I,J fr I->qR P B ro N ops K (l.drop m) fr I)->qR P B ro N ops K l fr I) (hn:Y->b=false->(∀fr I,J fr I->qR P B ro N ops K (l.drop m) fr I)->qR P B ro N ops K l fr I)
  (hk:∀ fr I,J fr I->qR P B ro N ops K (l.drop m) fr I):qR P B ro N ops K l fr I:=by
 cases e:b with
 | true=>rw[if_pos (hi.1 e)]at h;exact hy h e hk
 | false=>rw[if_neg (fun q=>by rw[hi.2 q]at e;cases e)]at h;exact hn h e hk
theorem zw{ops:Array Oper}{K:Fr->AH->Prop}{l:List Oper}(m:Nat)(b:Bool)(F:Fr)
  (hy:b=true->(∀fr,qo F fr->qR P B ro N ops K (l.drop m) fr I)->qR P B ro N ops K l fr I) (hn:b=false->(∀fr,qo F fr->qR P B ro N ops K (l.drop m) fr I)->qR P B ro N ops K l fr I)
  (hk:∀ fr,qo F fr->qR P B ro N ops K (l.drop m) fr I):qR P B ro N ops K l fr I:=by
 cases e:b with
 | true=>exact hy e hk
 | false=>exact hn e hk
theorem Lweak{ops:Array Oper}{K:Fr->AH->Prop}(hK:∀ {fr fr':Fr} {I:AH},qo fr fr'->K fr I->K fr' I):∀ {l:List Oper} {fr fr':Fr} {I:AH},qo fr fr'->qR P B ro N ops K l fr I->qR P B ro N ops K l fr' I:=by
 intro l
 induction l with
 | nil=>intro fr fr' I hl h;exact hK hl h
 | cons o r ih=>
  intro fr fr' I hl h
  have put:∀ (d:Option Tmp) (v:Value),qo (qE d v fr) (qE d v fr'):=by
   intro d v
   cases d with
   | none=>exact hl
   | some d=>
    intro i u hi
    rw[agG]at hi⊢
    by_cases e:i=d
    .rw[if_pos e]at hi ⊢;exact hi
    .rw[if_neg e]at hi ⊢;exact hl i u hi
  have ag:∀ {O},vW O fr'->vW O fr:=by
   intro O hρ x v hx
   refine hρ x v ?_
   cases x<;>first | exact hl _ _ hx | exact hx
  have ex:wi P B ro o (qR P B ro N ops K r) fr I->wi P B ro o (qR P B ro N ops K r) fr' I:=by
   intro hx O hρ
   refine qm _ (hx O (ag hρ)) ?_
   intro n I' hn
   cases n<;>first | exact ih (put _ _) hn | exact qc.mono hn fun v I h=>ih (put _ _) h | exact hn
  obtain⟨h0,h⟩:=h
  refine⟨h0,?_⟩
  split at h
  .exact ex h
  .obtain⟨t,v,h1,h2,h3⟩:=h
   exact⟨t,v,h1,hl _ _ h2,h3.imp (fun⟨a,b⟩=>⟨a,ex b⟩) (fun⟨a,b⟩=>⟨a,ih (put _ _) b⟩)⟩
theorem qu{b:Bool}{p:Prop}(h:b=true↔p):(!b)=true↔¬ p:=by
 cases b<;>simp at h⊢ <;>simp[h]
theorem ach{a b:Bool}{p q:Prop}(h:a=true↔p)(k:b=true↔q):(a && b)=true↔(p/\q):=by
 rw[Bool.and_eq_true,h,k]
theorem vu{a b:Bool}{p q:Prop}(h:a=true↔p)(k:b=true↔q):(a || b)=true↔(p\/q):=by
 rw[Bool.or_eq_true,h,k]
theorem zD{α:Type}{a:Option α}:a.isNone=true↔a=none:=by cases a<;>simp
end
end SL
namespace SL
open Go
section
variable{P:Program}{B:World}{ro:AH}{N:Nat}{o:Oper}{fr:Fr}{I:AH}{x y z:Operand}{v:Value}
theorem agK{α β:Type}(s:Sem α){f:α->Sem β}{τ:AH}{w:α}(h:qg P ro s τ=some w):qg P ro (Sem.bind s f) τ=qg P ro (f w) τ:=by
 induction s with
 | pure a=>cases h;rfl
 | load m a k ih=>
  simp only[qg]at h
  simp only[Sem.bind,qg]
  split at h
  .exact ih _ h
  .cases h
 | program k ih=>exact ih _ h
 | mark m k ih=>exact ih h
 | _=>cases h
theorem evb{b c:Bool}(e:b=c)(h:ql fr x=some (.bool b):=by rfl):ql fr x=some (.bool c):=by rw[h,e]
theorem ixL{s:Sl}{a:Addr}{fr:Fr}{x:Operand}(h:ql fr x=some (Sl.v s))(ha:s.a=some a):ql fr x=some (.slice (some a) s.len s.cap):=by rw[h,<-ha];rfl
theorem qW{ops:Array Oper}{K:Fr->AH->Prop}{rest:List Oper}{u:Value}{j t:Nat}{want b:Bool}(he:qI P ro o fr u)(hg:o.guard=some (j,want))(hd:wT N o.dst=true)(ht:(ops[j]?).bind (·.dst)=some t)(hl:look fr t=some (.bool b))(e:b=want)
  (h:qR P B ro N ops K rest (qE o.dst u fr) I):qR P B ro N ops K (o::rest) fr I:=Lyp he hg hd ht (by rw[hl,e]) h
theorem Lfr{ops:Array Oper}{K:Fr->AH->Prop}{rest:List Oper}{fr':Fr}(hl:qo fr' fr)(h:qR P B ro N ops (wk K) rest fr' I):qR P B ro N ops (wk K) rest fr I:=
 Lweak (fun hl ⟨f0,h1,h2⟩=>⟨f0,fun i v e=>hl i v (h1 i v e),h2⟩) hl h
theorem atu{K:Fr->AH->Prop}{s t:TypeId}{u:Value}(ho:o.op= .convert s t x)(hx:ql fr x=some u)(h:awp P ro (convert s t u) (fun v I=>K (qE o.dst v fr) I) I):wi P B ro o K fr I:=
 X_sem (fun O hρ=>by unfold execOp;rw[ho];simp only[hρ _ _ hx]) h
theorem jD{K:Fr->AH->Prop}{t:TypeId}{u w:Value}{ok:Bool}(ho:o.op= .lookup t x y ok)(hx:ql fr x=some u)(hy:ql fr y=some w)(h:awp P ro (Instr.lookup t u w ok) (fun v I=>K (qE o.dst v fr) I) I):wi P B ro o K fr I:=
 X_sem (fun O hρ=>by unfold execOp;rw[ho];simp only[hρ _ _ hx,hρ _ _ hy]) h
theorem al2{K:Fr->AH->Prop}{t:TypeId}{u:Value}(ho:o.op= .range t x)(hx:ql fr x=some u)(h:awp P ro (Instr.range t u) (fun v I=>K (qE o.dst v fr) I) I):wi P B ro o K fr I:=
 X_sem (fun O hρ=>by unfold execOp;rw[ho];simp only[hρ _ _ hx]) h
theorem al3{K:Fr->AH->Prop}{t:TypeId}{u:Value}{b:Bool}(ho:o.op= .next x b)(ht:o.type=t)(hx:ql fr x=some u)(h:awp P ro (Instr.next u b t) (fun v I=>K (qE o.dst v fr) I) I):wi P B ro o K fr I:=
 X_sem (fun O hρ=>by unfold execOp;rw[ho];simp only[hρ _ _ hx,ht]) h
theorem aok{K:Fr->AH->Prop}{u:Value}(ho:o.op= .entry x)(hx:ql fr x=some u)(h:awp P ro (Instr.entry u) (fun v I=>K (qE o.dst v fr) I) I):wi P B ro o K fr I:=
 X_sem (fun O hρ=>by unfold execOp;rw[ho];simp only[hρ _ _ hx]) h
theorem afr{K:Fr->AH->Prop}{t:TypeId}{u w q:Value}(ho:o.op= .mapUpdate t x y z\/o.op= .insert t x y z)(hx:ql fr x=some u)(hy:ql fr y=some w)(hz:ql fr z=some q)(h:awp P ro (Instr.mapUpdate t u w q) (fun _ I=>K (qE o.dst undef fr) I) I):wi P B ro o K fr I:=
 X_semU (fun O hρ=>by unfold execOp;rcases ho with ho | ho<;>rw[ho]<;>simp only[hρ _ _ hx,hρ _ _ hy,hρ _ _ hz]) h
def Sep(ro I:AH):Prop:= ∀b o,I b=some o->ro b=none
theorem Own.sep{B:World}{φ:AH}{w:World}(h:Own B ro φ I w):Sep ro I:=fun b o e=>(h.own b o e).2.2
theorem qc.of_sep{f:FuncId}{args:Array Value}{Q:Value->AH->Prop}(h:Sep ro I->qc P B ro f args I Q):qc P B ro f args I Q:=fun φ w ho=>h ho.sep φ w ho
theorem qc.monoS{f:FuncId}{args:Array Value}{Q Q':Value->AH->Prop}(h:qc P B ro f args I Q)(hq:∀ v I,Sep ro I->Q v I->Q' v I):qc P B ro f args I Q':=
 fun φ w ho=>(h φ w ho).mono fun _ _ ⟨v,I',e,q,o⟩=>⟨v,I',e,hq _ _ o.sep q,o⟩
theorem aeV{G:Prop}(b:Bool){p:Prop}[Decidable p]{X Y:Prop}(hi:b=true↔p)(h:if p then X else Y)(hy:X->b=true->G)(hn:Y->b=false->G):G:=by
 cases e:b with
 | true=>rw[if_pos (hi.1 e)]at h;exact hy h e
 | false=>rw[if_neg (fun q=>by rw[hi.2 q]at e;cases e)]at h;exact hn h e
theorem Dpy{ops:Array Oper}{cl:Nat->Nat}{i j t:Nat}{want b:Bool}{rest:List Nat}{K:Fr->AH->Prop}{u:Value}(ho':aaS ops.toList i=some o)(hc:cl i=0)(hg:o.guard=some (j,want))(ht:(ops[j]?).bind (·.dst)=some t)(hl:look fr t=some (.bool b))(e:b=want)(hd:wT N o.dst=true)(he:qI P ro o fr u)
  (h:wh P B ro N ops cl K rest (qE o.dst u fr) I):wh P B ro N ops cl K (i::rest) fr I:=by
 have ho:=aar ho'
 unfold wh D1;rw[ho];dsimp only;rw[hc]
 exact⟨hd,u,by unfold vT;rw[hg];exact⟨t,_,ht,hl,.inl ⟨by rw[e],he⟩⟩,h⟩
theorem Dry{ops:Array Oper}{cl:Nat->Nat}{i j t:Nat}{want b:Bool}{rest:List Nat}{K:Fr->AH->Prop}{u:Value}(ho':aaS ops.toList i=some o)(hc:cl i=3)(hg:o.guard=some (j,want))(ht:(ops[j]?).bind (·.dst)=some t)(hl:look fr t=some (.bool b))(e:b=want)(hd:wT N o.dst=true)(he:jJ P ro I o fr u)
  (h:wh P B ro N ops cl K rest (qE o.dst u fr) I):wh P B ro N ops cl K (i::rest) fr I:=by
 have ho:=aar ho'
 unfold wh D1;rw[ho];dsimp only;rw[hc]
 exact⟨hd,u,by unfold vT;rw[hg];exact⟨t,_,ht,hl,.inl ⟨by rw[e],he⟩⟩,h⟩
theorem Drn{ops:Array Oper}{cl:Nat->Nat}{i j t:Nat}{want:Bool}{v:Value}{rest:List Nat}{K:Fr->AH->Prop}(ho':aaS ops.toList i=some o)(hc:cl i=3)(hg:o.guard=some (j,want))(ht:(ops[j]?).bind (·.dst)=some t)(hl:look fr t=some v)(hv:v= .bool (!want)\/v=undef)(hd:wT N o.dst=true)
  (h:wh P B ro N ops cl K rest (qE o.dst undef fr) I):wh P B ro N ops cl K (i::rest) fr I:=by
 have ho:=aar ho'
 unfold wh D1;rw[ho];dsimp only;rw[hc]
 refine⟨hd,undef,?_,h⟩
 unfold vT;rw[hg]
 refine⟨t,_,ht,hl,.inr ⟨?_,rfl⟩⟩
 rcases hv with rfl | rfl
 .cases want<;>simp
 .simp[undef]
theorem qy{t:TypeId}{d:TypeDesc}{a:Addr}(ho:o.op= .load t x)(ht:P.underlying t=some d)(hd:aaW d=false)(hx:ql fr x=some (.pointer (some a)))(hc:qa ro I a=some v):jJ P ro I o fr v:=by
 intro O hρ
 have e:execOp O o=(do pure (.value (<-loadVar t a))):=by unfold execOp;rw[ho];simp only[hρ _ _ hx];rfl
 rw[e]
 show qg P ro (Sem.bind (loadVar t a) _) I=_
 unfold loadVar
 show qg P ro (Sem.bind (Sem.bind (isAgg t) _) _) I=_
 rw[bind_assoc',pU ht,hd]
 show qg P ro (Sem.load .plain a _) I=_
 simp only[qg,hc]
 rfl
theorem xJ{t:TypeId}{d:TypeDesc}{a:Addr}{vs:List Value}{zv:Value}{b:Nat}(ho:o.op= .load t x)(ht:P.underlying t=some d)(hd:aaW d=true)(hz:qq P t zv vs.length b)(hx:ql fr x=some (.pointer (some a)))
  (hc:qf ro I a 0 vs):jJ P ro I o fr (.agg vs.toArray):=by
 intro O hρ
 have e:execOp O o=(do pure (.value (<-loadVar t a))):=by unfold execOp;rw[ho];simp only[hρ _ _ hx];rfl
 rw[e]
 show qg P ro (Sem.bind (loadVar t a) _) I=_
 unfold loadVar
 show qg P ro (Sem.bind (Sem.bind (isAgg t) _) _) I=_
 rw[bind_assoc',pU ht,hd]
 show qg P ro (Sem.bind (Sem.bind (sizeOf t) _) _) I=_
 rw[bind_assoc',uM hz]
 show qg P ro (Sem.bind (Sem.bind (loadCellsFrom a 0 vs.length #[]) _) _) I=_
 rw[bind_assoc',agK _ (acX (P:=P) vs 0 #[] hc)]
 simp[qS,wU,qg]
theorem Dpn{ops:Array Oper}{cl:Nat->Nat}{i j t:Nat}{want:Bool}{v:Value}{rest:List Nat}{K:Fr->AH->Prop}(ho':aaS ops.toList i=some o)(hc:cl i=0)(hg:o.guard=some (j,want))(ht:(ops[j]?).bind (·.dst)=some t)(hl:look fr t=some v)(hv:v= .bool (!want)\/v=undef)(hd:wT N o.dst=true)
  (h:wh P B ro N ops cl K rest (qE o.dst undef fr) I):wh P B ro N ops cl K (i::rest) fr I:=by
 have ho:=aar ho'
 unfold wh D1;rw[ho];dsimp only;rw[hc]
 refine⟨hd,undef,?_,h⟩
 unfold vT;rw[hg]
 refine⟨t,_,ht,hl,.inr ⟨?_,rfl⟩⟩
 rcases hv with rfl | rfl
 .cases want<;>simp
 .simp[undef]
theorem Dgy{ops:Array Oper}{cl:Nat->Nat}{i j t:Nat}{want b:Bool}{rest:List Nat}{K:Fr->AH->Prop}(ho':aaS ops.toList i=some o)(hc:cl i=2)(hg:o.guard=some (j,want))(ht:(ops[j]?).bind (·.dst)=some t)(hl:look fr t=some (.bool b))(e:b=want)(hd:wT N o.dst=true)
  (h:wi P B ro o (wh P B ro N ops cl K rest) fr I):wh P B ro N ops cl K (i::rest) fr I:=by
 have ho:=aar ho'
 unfold wh D1;rw[ho];dsimp only;rw[hc]
 refine⟨hd,?_⟩;rw[hg];exact⟨t,_,ht,hl,.inl ⟨by rw[e],h⟩⟩
theorem Dgn{ops:Array Oper}{cl:Nat->Nat}{i j t:Nat}{want:Bool}{v:Value}{rest:List Nat}{K:Fr->AH->Prop}(ho':aaS ops.toList i=some o)(hc:cl i=2)(hg:o.guard=some (j,want))(ht:(ops[j]?).bind (·.dst)=some t)(hl:look fr t=some v)(hv:v= .bool (!want)\/v=undef)(hd:wT N o.dst=true)
  (h:wh P B ro N ops cl K rest (qE o.dst undef fr) I):wh P B ro N ops cl K (i::rest) fr I:=by
 have ho:=aar ho'
 unfold wh D1;rw[ho];dsimp only;rw[hc]
 refine⟨hd,?_⟩;rw[hg]
 refine⟨t,_,ht,hl,.inr ⟨?_,h⟩⟩
 rcases hv with rfl | rfl
 .cases want<;>simp
 .simp[undef]
def acY(P:Program)(B:World)(ro:AH)(f:Value)(vs:List Value)(I:AH)(Q:Value->AH->Prop):Prop:=
 ∃k fn first cap,f= .func (.func k) first cap/\P.funcs[k]?=some fn/\(fn.name == "runtime.NumGoroutine")=false/\fn.body.isNone=false/\qc P B ro k (first++vs.toArray++cap) I Q
theorem aeC{f:Value}{vs:List Value}{Q Q':Value->AH->Prop}(h:acY P B ro f vs I Q)(hq:∀ v I,Q v I->Q' v I):acY P B ro f vs I Q':=by
 obtain⟨k,fn,first,cap,h1,h2,h3,h4,h5⟩:=h
 exact⟨k,fn,first,cap,h1,h2,h3,h4,h5.mono hq⟩
theorem aiF{K:Fr->AH->Prop}{f:Value}{ars:Array Operand}{ts:Array TypeId}{vs:List Value}(ho:o.op= .call {callee:= .value x,args:=ars,argTypes:=ts})(hx:ql fr x=some f)(ha:yH fr ars.toList=some vs)
  (h:acY P B ro f vs I fun v I=>K (qE o.dst v fr) I):wi P B ro o K fr I:=by
 obtain⟨k,fn,first,cap,rfl,h2,h3,h4,h5⟩:=h
 exact ar3 ho hx h2 h3 h4 ha h5
def al4(P:Program)(ro:AH)(fr:Fr)(I:AH)(r:ResultVar)(v:Value):Prop:=
 ∀tmps:Array Value,(∀i u,look fr i=some u->tmps[i]?=some u)->qg P ro (match r with | .tmp t=>pure (tmps.getD t undef) | .cell a t=>do loadVar t (<-asAddr (tmps.getD a undef))) I=some v
def adN(P:Program)(ro:AH)(fr:Fr)(I:AH):List ResultVar->List Value->Prop
 | [],[]=>True
 | r::rs,v::vs=>al4 P ro fr I r v/\adN P ro fr I rs vs
 | _,_=>False
theorem vG:adN P ro fr I [] []:=trivial
theorem wy{r:ResultVar}{rs:List ResultVar}{v:Value}{vs:List Value}(h:al4 P ro fr I r v)(hs:adN P ro fr I rs vs):adN P ro fr I (r::rs) (v::vs):=⟨h,hs⟩
theorem afJ{t:Nat}(h:look fr t=some v):al4 P ro fr I (.tmp t) v:=by
 intro tmps ht
 simp[Array.getD_eq_getD_getElem?,ht t v h,qS,qg]
theorem vH{a:Nat}{t:TypeId}{d:TypeDesc}{ad:Addr}{vs:List Value}{zv:Value}{b:Nat}(h:look fr a=some (.pointer (some ad)))(ht:P.underlying t=some d)(hd:aaW d=true)(hz:qq P t zv vs.length b)(hc:qf ro I ad 0 vs):al4 P ro fr I (.cell a t) (.agg vs.toArray):=by
 intro tmps hh
 have e:tmps.getD a undef= .pointer (some ad):=by simp[Array.getD_eq_getD_getElem?,hh a _ h]
 dsimp only
 rw[e]
 show qg P ro (loadVar t ad) I=_
 unfold loadVar
 show qg P ro (Sem.bind (isAgg t) _) _=_
 rw[pU ht,hd]
 show qg P ro (Sem.bind (sizeOf t) _) _=_
 rw[uM hz]
 have:=acX (P:=P) vs 0 #[] hc
 show qg P ro (Sem.bind (loadCellsFrom ad 0 vs.length #[]) fun cs=>Sem.pure (Value.agg cs)) _=_
 rw[agK _ this]
 simp[qg]
theorem arO{fn:Func}{R:Value->AH->Prop}{rs:List ResultVar}{v:Value}(hr:fn.results=rs.toArray)(h:adN P ro fr I rs [v])(hR:R v I):
  ∃v,(∀tmps:Array Value,(∀i u,look fr i=some u->tmps[i]?=some u)->qg P ro (results fn tmps) I=some v)/\R v I:=by
 refine⟨v,fun tmps ht=>?_,hR⟩
 exact results_of hr h tmps ht
where
 map_of {β:Type}:∀ (rs:List ResultVar) (vs:List Value) (f:List Value->Sem β),adN P ro fr I rs vs->∀ tmps:Array Value,(∀i u,look fr i=some u->tmps[i]?=some u)->
   qg P ro (Sem.bind (rs.mapM fun r=>match r with | .tmp t=>pure (tmps.getD t undef) | .cell a t=>do loadVar t (<-asAddr (tmps.getD a undef))) f) I=qg P ro (f vs) I:=by
  intro rs
  induction rs with
  | nil=>
   intro vs f h tmps ht
   cases vs with
   | nil=>rfl
   | cons v vs=>exact h.elim
  | cons r rs ih=>
   intro vs f h tmps ht
   cases vs with
   | nil=>exact h.elim
   | cons v vs=>
    obtain⟨h1,h2⟩:=h
    rw[List.mapM_cons]
    show qg P ro (Sem.bind (Sem.bind _ _) f) I=_
    rw[bind_assoc',agK _ (h1 tmps ht)]
    show qg P ro (Sem.bind (Sem.bind _ _) f) I=_
    rw[bind_assoc',ih vs _ h2 tmps ht]
    rfl
 results_of {fn:Func} {rs:List ResultVar} {vs:List Value} (hr:fn.results=rs.toArray) (h:adN P ro fr I rs vs) (tmps:Array Value) (ht:∀ i u,look fr i=some u->tmps[i]?=some u):
   qg P ro (results fn tmps) I=some (if h:vs.toArray.size=1 then vs.toArray[0]else .tuple vs.toArray):=by
  unfold results
  rw[hr,Array.mapM_eq_mapM_toList,List.toList_toArray]
  show qg P ro (Sem.bind (Sem.bind _ _) _) I=_
  rw[bind_assoc']
  exact(map_of rs vs _ h tmps ht).trans rfl
theorem at9{fn:Func}{R:Value->AH->Prop}{rs:List ResultVar}{v w:Value}{vs:List Value}(hr:fn.results=rs.toArray)(h:adN P ro fr I rs (v::w::vs))(hR:R (.tuple (v::w::vs).toArray) I):
  ∃v,(∀tmps:Array Value,(∀i u,look fr i=some u->tmps[i]?=some u)->qg P ro (results fn tmps) I=some v)/\R v I:=by
 refine⟨_,fun tmps ht=>?_,hR⟩
 refine(arO.results_of hr h tmps ht).trans ?_
 rw[dif_neg (by simp)]
theorem bR0{fn:Func}{R:Value->AH->Prop}(hr:fn.results= #[])(h:R (.tuple #[]) I):aeB P ro fn R .ret fr I:=asO hr h
theorem bR1{fn:Func}{R:Value->AH->Prop}{a:Nat}{x:Value}(hr:fn.results= #[.tmp a])(ha:look fr a=some x)(h:R x I):aeB P ro fn R .ret fr I:=asP hr ha h
theorem bR2{fn:Func}{R:Value->AH->Prop}{a b:Nat}{x y:Value}(hr:fn.results= #[.tmp a,.tmp b])(ha:look fr a=some x)(hb:look fr b=some y)(h:R (.tuple #[x,y]) I):aeB P ro fn R .ret fr I:=at7 hr ha hb h
theorem bR3{fn:Func}{R:Value->AH->Prop}{a b c:Nat}{x y z:Value}(hr:fn.results= #[.tmp a,.tmp b,.tmp c])(ha:look fr a=some x)(hb:look fr b=some y)(hc:look fr c=some z)(h:R (.tuple #[x,y,z]) I):aeB P ro fn R .ret fr I:=at8 hr ha hb hc h
theorem xA{fn:Func}{R:Value->AH->Prop}{rs:List ResultVar}{v:Value}(hr:fn.results=rs.toArray)(h:adN P ro fr I rs [v])(hR:R v I):aeB P ro fn R .ret fr I:=arO hr h hR
theorem bRM{fn:Func}{R:Value->AH->Prop}{rs:List ResultVar}{v w:Value}{vs:List Value}(hr:fn.results=rs.toArray)(h:adN P ro fr I rs (v::w::vs))(hR:R (.tuple (v::w::vs).toArray) I):aeB P ro fn R .ret fr I:=at9 hr h hR
theorem bN0{fn:Func}{R:Value->AH->Prop}(hr:fn.results= #[])(h:R (.tuple #[]) I):aeB P ro fn R .normal fr I:=asO hr h
end
end SL
namespace SL
open Go
section
variable{P:Program}{B:World}{ro:AH}{N:Nat}{o:Oper}{fr:Fr}{I:AH}{x y z:Operand}{ops:Array Oper}{K:Fr->AH->Prop}{rest:List Oper}
theorem zp{u:Value}(h:qR P B ro N ops K rest (qE o.dst u fr) I)(he:qI P ro o fr u:=by first | exact jo rfl rfl | exact agJ rfl rfl | exact ajR rfl rfl rfl | exact alX rfl rfl rfl | exact alU rfl rfl rfl | exact aoc rfl rfl rfl | exact ajT rfl rfl rfl | exact aof rfl rfl | exact ajS rfl rfl rfl | exact ajU rfl rfl rfl | exact alW rfl rfl rfl | exact aod rfl rfl rfl | exact alV rfl rfl rfl | exact aoe rfl rfl rfl)(hg:o.guard=none:=by exact rfl)(hd:wT N o.dst=true:=by exact rfl):qR P B ro N ops K (o::rest) fr I:=Lp he hg hd h
theorem zq{cl:Nat->Nat}{i:Nat}{l:List Nat}{u:Value}(h:wh P B ro N ops cl K l (qE o.dst u fr) I)(ho':aaS ops.toList i=some o:=by exact rfl)(hc:cl i=0:=by exact rfl)(hg:o.guard=none:=by exact rfl)(hd:wT N o.dst=true:=by exact rfl)(he:qI P ro o fr u:=by first | exact jo rfl rfl | exact agJ rfl rfl | exact ajR rfl rfl rfl | exact alX rfl rfl rfl | exact alU rfl rfl rfl | exact aoc rfl rfl rfl | exact ajT rfl rfl rfl | exact aof rfl rfl | exact ajS rfl rfl rfl | exact ajU rfl rfl rfl | exact alW rfl rfl rfl | exact aod rfl rfl rfl | exact alV rfl rfl rfl | exact aoe rfl rfl rfl):wh P B ro N ops cl K (i::l) fr I:=Dp ho' hc hg hd he h
theorem zn{j t:Nat}{want b c:Bool}(e:b=c)(h:qR P B ro N ops K rest (qE o.dst undef fr) I)(hg:o.guard=some (j,want):=by exact rfl)(hw:c= !want:=by exact rfl)(hd:wT N o.dst=true:=by exact rfl)(ht:(ops[j]?).bind (·.dst)=some t:=by exact rfl)(hl:look fr t=some (.bool b):=by exact rfl):qR P B ro N ops K (o::rest) fr I:=Ln hg hd ht hl (.inl (by rw[e,hw])) h
theorem zy{j t:Nat}{want b:Bool}{u:Value}(e:b=want)(h:qR P B ro N ops K rest (qE o.dst u fr) I)(hg:o.guard=some (j,want):=by exact rfl)(hd:wT N o.dst=true:=by exact rfl)(ht:(ops[j]?).bind (·.dst)=some t:=by exact rfl)(hl:look fr t=some (.bool b):=by exact rfl)(he:qI P ro o fr u:=by first | exact jo rfl rfl | exact agJ rfl rfl | exact ajR rfl rfl rfl | exact alX rfl rfl rfl | exact alU rfl rfl rfl | exact aoc rfl rfl rfl | exact ajT rfl rfl rfl | exact aof rfl rfl | exact ajS rfl rfl rfl | exact ajU rfl rfl rfl | exact alW rfl rfl rfl | exact aod rfl rfl rfl | exact alV rfl rfl rfl | exact aoe rfl rfl rfl):qR P B ro N ops K (o::rest) fr I:=qW he hg hd ht hl e h
theorem zl(h:wi P B ro o (qR P B ro N ops K rest) fr I)(hg:o.guard=none:=by exact rfl)(hd:wT N o.dst=true:=by exact rfl):qR P B ro N ops K (o::rest) fr I:=Ls hg hd h
theorem zm{u:Value}(he:qI P ro o fr u)(h:qR P B ro N ops K rest (qE o.dst u fr) I)(hg:o.guard=none:=by exact rfl)(hd:wT N o.dst=true:=by exact rfl):qR P B ro N ops K (o::rest) fr I:=Lp he hg hd h
theorem FL{l fr':Fr}(h:qo l fr':=by repeat first | exact qo.nil _ | refine qo.cons rfl ?_):qo l fr':=h
theorem Fe{l fr':Fr}{b c:Bool}(e:b=c)(h:b=c->qo l fr':=by intro e;repeat first | exact qo.nil _ | refine qo.cons rfl ?_ | refine qo.cons (by rw[e];rfl) ?_):qo l fr':=h e
theorem z3{id:Nat}{ops':Array Oper}{y:Code}{Q:Exit->Fr->AH->Prop}(h:qR P B ro N ops' (wk ((ab5 (AW P B ro N y Q) Q) .normal)) ops'.toList fr I):AW P B ro N (.seq (.region id ops' false) y) Q fr I:=AW.seq (AW.reg h)
theorem z2{next:Fr->AH->Prop}{Q:Exit->Fr->AH->Prop}(h:next fr I):qR P B ro N ops (wk (ab5 next Q .normal)) [] fr I:=jh (qd h)
theorem z4{id:Nat}{ops':Array Oper}{y:Code}{Q Q0:Exit->Fr->AH->Prop}(h:qR P B ro N ops' (wk ((ab5 (AW P B ro N y Q) Q) .normal)) ops'.toList fr I):qR P B ro N ops (wk (ab5 (AW P B ro N (.seq (.region id ops' false) y) Q) Q0 .normal)) [] fr I:=jh (qd (AW.seq (AW.reg h)))
theorem zL{α:Type}{enc:α->Value}{X:α->Prop}{t:TypeId}{d:TypeDesc}{a:Addr}(ht:P.underlying t=some d)(h:∃ v,qa ro I a=some (enc v)/\X v)(k:∀ v,X v->qR P B ro N ops K rest (qE o.dst (enc v) fr) I)(ho:o.op= .load t x:=by exact rfl)(hd:aaW d=false:=by exact rfl)(hx:ql fr x=some (.pointer (some a)):=by exact rfl)(hg:o.guard=none:=by exact rfl)(hdd:wT N o.dst=true:=by exact rfl):qR P B ro N ops K (o::rest) fr I:=by
 obtain⟨v,hc,h⟩:=h
 exact Ls hg hdd (vF ho ht hd hx hc (k v h))
theorem zN{X:Addr->Prop}{a:Option Addr}(h:∃ p,a=some p/\X p)(k:∀ p,X p->qR P B ro N ops K rest (qE o.dst (.pointer (some p)) fr) I)(ho:o.op= .nilCheck x:=by exact rfl)(hx:ql fr x=some (.pointer a):=by exact rfl)(hg:o.guard=none:=by exact rfl)(hdd:wT N o.dst=true:=by exact rfl):qR P B ro N ops K (o::rest) fr I:=by
 obtain⟨p,rfl,h⟩:=h
 exact Lp (qr ho hx) hg hdd (k p h)
theorem zA{ob:Obj}{mk:Nat->Value}{X:Nat->AH->Prop}(he:adI P ro o fr ob mk)(h:nw ro I ob X)(k:∀ b,X b (upd I b ob)->qR P B ro N ops K rest (qE o.dst (mk b) fr) (upd I b ob))(hg:o.guard=none:=by exact rfl)(hdd:wT N o.dst=true:=by exact rfl):qR P B ro N ops K (o::rest) fr I:=Ls hg hdd (ajW he fun b h1 h2=>k b (h b h1 h2))
theorem zc{f:FuncId}{fn:Func}{ars:Array Operand}{ts:Array TypeId}{vs:List Value}{Q:Value->AH->Prop}(hf:P.funcs[f]?=some fn)(h:qc P B ro f vs.toArray I Q)(k:∀ v I,Q v I->qR P B ro N ops K rest (qE o.dst v fr) I)(ho:o.op= .call {callee:= .value (.func f),args:=ars,argTypes:=ts}:=by exact rfl)(hn:(fn.name == "runtime.NumGoroutine")=false:=by exact rfl)(hb:fn.body.isNone=false:=by exact rfl)(ha:yH fr ars.toList=some vs:=by exact rfl)(hg:o.guard=none:=by exact rfl)(hdd:wT N o.dst=true:=by exact rfl):qR P B ro N ops K (o::rest) fr I:=Ls hg hdd (qG ho hf hn hb ha (qc.mono h k))
theorem zs{X:AH->Prop}{t:TypeId}{a:Addr}{vs:List Value}{v zv:Value}{n b:Nat}(hz:qq P t zv n b)(h:stN a X vs 0 I)(k:∀ I,X I->qR P B ro N ops K rest (qE o.dst undef fr) I)(ho:o.op= .store t x y:=by exact rfl)(hx:ql fr x=some (.pointer (some a)):=by exact rfl)(hy:ql fr y=some v:=by exact rfl)(hv:v.cells.toList=vs:=by exact rfl)(hn:vs.length=n:=by exact rfl)(hg:o.guard=none:=by exact rfl)(hdd:wT N o.dst=true:=by exact rfl):qR P B ro N ops K (o::rest) fr I:=Ls hg hdd (py ho hz hx hy hv hn (zO h k))
theorem zf{s tz:TypeId}{f:Nat}{fs:Array Field}{fd:Field}{a:Addr}{zv:Value}{n b:Nat}(hs:P.underlying s=some (.struct fs))(hz:qq P tz zv n b)(k:qR P B ro N ops K rest (qE o.dst (.pointer (some (a.add fd.offset))) fr) I)(ho:o.op= .fieldAddr s x f:=by exact rfl)(hf:fs[f]?=some fd:=by exact rfl)(ht:tz=fd.type:=by exact rfl)(hn:n≠0:=by decide)(hx:ql fr x=some (.pointer (some a)):=by exact rfl)(hg:o.guard=none:=by exact rfl)(hdd:wT N o.dst=true:=by exact rfl):qR P B ro N ops K (o::rest) fr I:=Lp (we ho hs hf (ht▸hz) hn hx) hg hdd k
theorem zg{cl:Nat->Nat}{i:Nat}{l:List Nat}{s tz:TypeId}{f:Nat}{fs:Array Field}{fd:Field}{a:Addr}{zv:Value}{n b:Nat}(hs:P.underlying s=some (.struct fs))(hz:qq P tz zv n b)(k:wh P B ro N ops cl K l (qE o.dst (.pointer (some (a.add fd.offset))) fr) I)(h1:aaS ops.toList i=some o:=by exact rfl)(hc:cl i=0:=by exact rfl)(ho:o.op= .fieldAddr s x f:=by exact rfl)(hf:fs[f]?=some fd:=by exact rfl)(ht:tz=fd.type:=by exact rfl)(hn:n≠0:=by decide)(hx:ql fr x=some (.pointer (some a)):=by exact rfl)(hg:o.guard=none:=by exact rfl)(hdd:wT N o.dst=true:=by exact rfl):wh P B ro N ops cl K (i::l) fr I:=Dp h1 hc hg hdd (we ho hs hf (ht▸hz) hn hx) k
theorem zk{b c:Bool}{u:Value}(e:b=c)(k:qR P B ro N ops K rest (qE o.dst u fr) I)(ho:o.op= .pick x y z:=by exact rfl)(hx:ql fr x=some (.bool b):=by exact rfl)(hu:ql fr (if c then y else z)=some u:=by exact rfl)(hg:o.guard=none:=by exact rfl)(hdd:wT N o.dst=true:=by exact rfl):qR P B ro N ops K (o::rest) fr I:=by
 subst e
 cases b
 .exact Lp (pD ho hx hu) hg hdd k
 .exact Lp (yG ho hx hu) hg hdd k
theorem zi{Q:Exit->Fr->AH->Prop}{c:Operand}{s t:Code}{p:Prop}[Decidable p]{X Y:Prop}(h:if p then X else Y)(ht:X->AW P B ro N s Q fr I)(hn:Y->AW P B ro N t Q fr I)(hc:ql fr c=some (.bool (decide p)):=by exact rfl):AW P B ro N (.cond c s t) Q fr I:=AW.iff hc decide_eq_true_iff h ht hn
theorem zj{Q:Exit->Fr->AH->Prop}{c:Operand}{s t:Code}{b:Bool}{X Y:Prop}(h:if b=true then X else Y)(ht:X->AW P B ro N s Q fr I)(hn:Y->AW P B ro N t Q fr I)(hc:ql fr c=some (.bool b):=by exact rfl):AW P B ro N (.cond c s t) Q fr I:=AW.iff hc Iff.rfl h ht hn
theorem zb{f:FuncId}{fn:Func}{c:Code}{args:List Value}{Q:Value->AH->Prop}{n:Nat}{X:Prop}(h:Sep ro I->X)(hf:P.funcs[f]?=some fn)(hn:fn.ntmps=n)(k:X->AW P B ro n c (aeB P ro fn Q) (adW args 0) I)(hb:fn.body=some c:=by exact rfl)(hl:args.length<=n:=by simp):qc P B ro f args.toArray I Q:=qc.of_sep fun hs=>qc.of_body hf hb (by rw[hn];exact hl) (by rw[hn];exact k (h hs))
end
end SL
namespace SL
open Go Go.RowKit
def all(W:World):AH:=fun b=>W.heap[b]?
theorem aqo{W:World}{a:Addr}{v:Value}(I:AH)(h:W.cell? a=some v):qa (all W) I a=some v:=by
 rw[cell?_eq]at h
 unfold qa rd all
 cases e:W.heap[a.block]? with
 | none=>rw[e]at h;cases h
 | some o=>rw[e]at h;exact h
theorem aqp{P:Program}{W:World}{f:FuncId}{args:Array Value}{Q:Value->Prop}(h:qc P W (all W) f args (fun _=>none) fun v _=>Q v):
  Calls P f args W fun e W'=>(∃v,e= .returned v/\Q v)/\Below W.heap.size W W':=by
 refine(h (fun _=>none) W ⟨rfl,rfl,rfl,fun _ _ e=>by(cases e),fun _ _ e=>by(cases e),fun _ _ e=>e⟩).mono ?_
 rintro e W' ⟨v,I',he,hq,ho⟩
 refine⟨⟨v,he,hq⟩,ho.os,ho.tape,ho.output,?_,fun k hk=>?_⟩
 .rcases Nat.eq_zero_or_pos W.heap.size with h0 | h0
  .rw[h0];exact Nat.zero_le _
  .have:=wS (ho.ro (W.heap.size - 1) _ (by unfold all;exact Array.getElem?_eq_getElem (by omega)))
   omega
 .have e:=Array.getElem?_eq_getElem hk
  rw[e];exact ho.ro k _ e
theorem aqq{H:Type}{enc:TypeId×Value->H}{P:Program}{W:World}{t:TypeId}{fuel:Nat}{u:Value}{y:DataW H×List MemPlace}(ht:P.underlying t=some (.int .i64))
  (h:DataW.trod enc P W 0 (fun _=>true) true fuel t [u]=some y):∃ x:Int,u= .int .i64 x/\ -9223372036854775808<=x/\x<9223372036854775808:=by
 cases fuel with
 | zero=>cases h
 | succ n=>
  unfold DataW.trod at h
  rw[ht]at h
  cases u<;>simp at h
  rename_i k x
  refine⟨x,by rw[h.1.1],?_⟩
  have:=h.1.2
  simp[Lit.wf,IntKind.min,IntKind.max,IntKind.bits,IntKind.signed]at this
  omega