import Derived.Laws.Strings
import Derived.IntWalk
import Derived.WalkKit
import Derived.ProofKit
import Derived.OpenShut
import Derived.ShutString
import Derived.ChangeOld
import Derived.Below
import Derived.SizedLaws
import Derived.Carry
import Derived.Deep.Slices
import Derived.DataReads
import Derived.Test.YtomdigihapdhnaaGreatDoorXA
set_option linter.all false
set_option maxRecDepth 99999
set_option maxHeartbeats 0
open Go.IntKind(i64)
namespace Go.Proofs.YtomdigihapdhnaaGreatDoor
namespace SL
open Go
structure Sl where
 a:Option Addr
 len:Nat
 cap:Nat
def Sl.v(s:Sl):Value:= .slice s.a s.len s.cap
def lfpD{S:Type}(R:S->AH->(S->AH->Prop)->Prop)(s:S)(I:AH):Prop:=
 ∀X:S->AH->Prop,(∀s I Y,(∀s I,Y s I->X s I)->R s I Y->X s I)->X s I
theorem lfpD.intro{S:Type}{R:S->AH->(S->AH->Prop)->Prop}{s:S}{I:AH}(h:R s I (lfpD R)):lfpD R s I:=
 fun X hX=>hX s I (lfpD R) (fun _ _ h=>h X hX) h
section
variable{P:Program}{B:World}{ro:AH}{N:Nat}{o:Oper}{fr:Fr}{I:AH}
def qI(P:Program)(B:World)(ro:AH)(N:Nat)(ops:Array Oper)(K:Fr->AH->Prop):List Oper->Fr->AH->Prop
 | [],fr,I=>K fr I
 | o::rest,fr,I=>zd P B ro N ops o (qI P B ro N ops K rest) fr I
theorem air{ops:Array Oper}{K:Fr->AH->Prop}:∀ (n m:Nat),m+n=ops.size->∀ {fr:Fr} {I:AH},qI P B ro N ops K (ops.toList.drop m) fr I->acE P B ro N ops K (List.range' m n) fr I:=by
 intro n
 induction n with
 | zero=>
  intro m hm fr I h
  rw[List.drop_eq_nil_of_le (by simp;omega)]at h
  exact h
 | succ n ih=>
  intro m hm fr I h
  have hlt:m<ops.size:=by omega
  rw[List.drop_eq_getElem_cons (by simpa using hlt)]at h
  simp only[List.range'_succ,acE]
  rw[Array.getElem?_eq_getElem hlt]
  dsimp only
  exact zd.mono (fun fr I h=>ih (m+1) (by omega) h) h
def wk(K:Fr->AH->Prop)(fr:Fr)(I:AH):Prop:= ∃fr0,qk fr0 fr/\K fr0 I
theorem AW.reg{id:Nat}{ops:Array Oper}{Q:Exit->Fr->AH->Prop}(h:qI P B ro N ops (wk (Q .normal)) ops.toList fr I):AW P B ro N (.region id ops false) Q fr I:=by
 have h':AW P B ro N (.region id ops false) (fun e=>wk (Q e)) fr I:=by
  refine AW.region ?_
  rw[List.range_eq_range']
  exact air ops.size 0 (by omega) h
 intro φ w a ho hf
 refine wp_mono (h' φ w a ho hf) ?_
 rintro e a' w' ⟨fr',I',⟨fr0,h1,h2⟩,h3,h4⟩
 exact⟨fr0,I',h2,h3,h4.weaken h1⟩
theorem Ls{ops:Array Oper}{K:Fr->AH->Prop}{rest:List Oper}(hg:o.guard=none)(hd:wl N o.dst=true)(h:wd P B ro o (qI P B ro N ops K rest) fr I):qI P B ro N ops K (o::rest) fr I:=by
 refine⟨hd,?_⟩;rw[hg];exact h
theorem Ly{ops:Array Oper}{K:Fr->AH->Prop}{rest:List Oper}{j t:Nat}{want:Bool}(hg:o.guard=some (j,want))(hd:wl N o.dst=true)(ht:(ops[j]?).bind (·.dst)=some t)(hl:qP fr t=some (.bool want))
  (h:wd P B ro o (qI P B ro N ops K rest) fr I):qI P B ro N ops K (o::rest) fr I:=by
 refine⟨hd,?_⟩;rw[hg];exact⟨t,_,ht,hl,.inl ⟨rfl,h⟩⟩
theorem Ln{ops:Array Oper}{K:Fr->AH->Prop}{rest:List Oper}{j t:Nat}{want:Bool}{v:Value}(hg:o.guard=some (j,want))(hd:wl N o.dst=true)(ht:(ops[j]?).bind (·.dst)=some t)(hl:qP fr t=some v)
  (hv:v= .bool (!want)\/v=undef) (h:qI P B ro N ops K rest (qB o.dst undef fr) I):qI P B ro N ops K (o::rest) fr I:=by
 refine⟨hd,?_⟩;rw[hg]
 refine⟨t,_,ht,hl,.inr ⟨?_,h⟩⟩
 rcases hv with rfl | rfl
 .cases want<;>simp
 .simp[undef]
theorem Xp{K:Fr->AH->Prop}{u:Value}(he:qE P ro o fr u)(h:K (qB o.dst u fr) I):wd P B ro o K fr I:=fun O hρ=>(uH _ (he O hρ)).2 h
theorem Lp{ops:Array Oper}{K:Fr->AH->Prop}{rest:List Oper}{u:Value}(he:qE P ro o fr u)(hg:o.guard=none)(hd:wl N o.dst=true)(h:qI P B ro N ops K rest (qB o.dst u fr) I):qI P B ro N ops K (o::rest) fr I:=
 Ls hg hd (Xp he h)
theorem Lyp{ops:Array Oper}{K:Fr->AH->Prop}{rest:List Oper}{u:Value}{j t:Nat}{want:Bool}(he:qE P ro o fr u)(hg:o.guard=some (j,want))(hd:wl N o.dst=true)(ht:(ops[j]?).bind (·.dst)=some t)(hl:qP fr t=some (.bool want))
  (h:qI P B ro N ops K rest (qB o.dst u fr) I):qI P B ro N ops K (o::rest) fr I:=Ly hg hd ht hl (Xp he h)
def yO:List Oper->Nat->Option Oper
 | [],_=>none
 | o::_,0=>some o
 | _::r,i+1=>yO r i
theorem jM{ops:Array Oper}{i:Nat}{o:Oper}(h:yO ops.toList i=some o):ops[i]?=some o:=by
 have gen:∀ (l:List Oper) (i:Nat),yO l i=l[i]?:=by
  intro l
  induction l with
  | nil=>intro i;simp[yO]
  | cons o r ih=>intro i;cases i with | zero=>rfl | succ i=>simpa [yO]using ih i
 rw[gen]at h;simpa using h
theorem Dp{ops:Array Oper}{cl:Nat->Nat}{i:Nat}{rest:List Nat}{K:Fr->AH->Prop}{u:Value}(ho':yO ops.toList i=some o)(hc:cl i=0)(hg:o.guard=none)(hd:wl N o.dst=true)(he:qE P ro o fr u)
  (h:qT P B ro N ops cl K rest (qB o.dst u fr) I):qT P B ro N ops cl K (i::rest) fr I:=by
 have ho:=jM ho'
 unfold qT D1;rw[ho];dsimp only;rw[hc]
 exact⟨hd,u,by unfold zr;rw[hg];exact he,h⟩
theorem Dr{ops:Array Oper}{cl:Nat->Nat}{i:Nat}{rest:List Nat}{K:Fr->AH->Prop}{u:Value}(ho':yO ops.toList i=some o)(hc:cl i=3)(hg:o.guard=none)(hd:wl N o.dst=true)(he:ka P ro I o fr u)
  (h:qT P B ro N ops cl K rest (qB o.dst u fr) I):qT P B ro N ops cl K (i::rest) fr I:=by
 have ho:=jM ho'
 unfold qT D1;rw[ho];dsimp only;rw[hc]
 exact⟨hd,u,by unfold zr;rw[hg];exact he,h⟩
theorem ul.of_new{ob:Obj}{mk:Nat->Value}(he:aaE P ro o fr ob mk):ul P ro o fr fun _=>(ob,mk):=by
 intro O hρ Q I
 obtain⟨k,k1,k2⟩:=he O hρ
 rw[adn _ k1]
 exact⟨fun h n b hb hs=>(uH _ (k2 b)).1 (h b hb hs),fun h b hb hs=>(uH _ (k2 b)).2 (h 0 b hb hs)⟩
theorem Da{ops:Array Oper}{cl:Nat->Nat}{i:Nat}{rest:List Nat}{K:Fr->AH->Prop}{ob:Obj}{mk:Nat->Value}(ho':yO ops.toList i=some o)(hc:cl i=1)(hg:o.guard=none)(hd:wl N o.dst=true)(he:aaE P ro o fr ob mk)
  (h:∀ b,ro b=none->I b=none->qT P B ro N ops cl K rest (qB o.dst (mk b) fr) (upd I b ob)):qT P B ro N ops cl K (i::rest) fr I:=by
 have ho:=jM ho'
 unfold qT D1;rw[ho];dsimp only;rw[hc]
 exact⟨hd,some _,by unfold xQ;rw[hg];exact⟨_,rfl,ul.of_new he⟩,fun n b hb hs=>h b hb hs⟩
theorem Dg{ops:Array Oper}{cl:Nat->Nat}{i:Nat}{rest:List Nat}{K:Fr->AH->Prop}(ho':yO ops.toList i=some o)(hc:cl i=2)(hg:o.guard=none)(hd:wl N o.dst=true)
  (h:wd P B ro o (qT P B ro N ops cl K rest) fr I):qT P B ro N ops cl K (i::rest) fr I:=by
 have ho:=jM ho'
 unfold qT D1;rw[ho];dsimp only;rw[hc]
 refine⟨hd,?_⟩;rw[hg];exact h
theorem pc(I:AH):join I (fun _=>none)=I:=by
 funext b;unfold join;cases I b<;>rfl
theorem AW.drawn0{ops:Array Oper}{id:Nat}{Q:Exit->Fr->AH->Prop}(cl:Nat->Nat)(anc:List (Nat×Nat))(l:List Nat)(hm:P.follows .mixedOrders=true)
  (hc:(chk ops cl anc l && acJ ops anc && ahC ops.size l && (l.length == ops.size))=true)
  (h:qT P B ro N ops cl (fun fr I=> ∃fr',wg fr' fr/\Q .normal fr' I) l fr I):AW P B ro N (.region id ops true) Q fr I:=by
 have:=AW.drawn (P:=P) (B:=B) (ro:=ro) (N:=N) (ops:=ops) (id:=id) (Q:=Q) (fr:=fr) (U:=fun _=>none) (I:=I) cl anc l hm (fun _ _ h=>by cases h) hc (by
  rw[pc]
  refine DOps_mono ?_ l h
  rintro fr I ⟨fr',h1,h2⟩;exact⟨fr',h1,fun _=>h2⟩)
 exact this
where
 DOps_mono {ops:Array Oper} {ro:AH} {cl:Nat->Nat} {K K':Fr->AH->Prop} (h:∀ fr I,K fr I->K' fr I):∀ (l:List Nat) {fr:Fr} {I:AH},qT P B ro N ops cl K l fr I->qT P B ro N ops cl K' l fr I:=by
  intro l
  induction l with
  | nil=>intro fr I hx;exact h _ _ hx
  | cons i r ih=>
   intro fr I hx
   unfold qT D1 at hx⊢
   split at hx
   .exact hx
   .split at hx
    .obtain⟨h0,u,h1,h2⟩:=hx;exact⟨h0,u,h1,ih h2⟩
    .obtain⟨h0,u,h1,h2⟩:=hx;exact⟨h0,u,h1,ih h2⟩
    .obtain⟨h0,F,h1,h2⟩:=hx;exact⟨h0,F,h1,h2.map fun v I hk=>ih hk⟩
    .exact hx.mono fun fr I=>ih
def pn(I:AH)(K:AH->AH->Prop):Prop:= ∃U τ,qz U τ/\I=join U τ/\K U τ
theorem AW.drawnL{ops:Array Oper}{id:Nat}{Q:Exit->Fr->AH->Prop}{K:AH->AH->Prop}(cl:Nat->Nat)(anc:List (Nat×Nat))(l:List Nat)(hm:P.follows .mixedOrders=true)(hl:pn I K)
  (hc:(chk ops cl anc l && acJ ops anc && ahC ops.size l && (l.length == ops.size))=true)
  (h:∀ U τ,K U τ->qT P B (join ro U) N ops cl (fun fr I=> ∃fr',wg fr' fr/\(qz U I->Q .normal fr' (join U I))) l fr τ):AW P B ro N (.region id ops true) Q fr I:=by
 obtain⟨U,τ,hd,rfl,hk⟩:=hl
 exact AW.drawn cl anc l hm hd hc (h U τ hk)
theorem aat{K:Fr->AH->Prop}{ops:Array Oper}{cl:Nat->Nat}(h:K fr I):qT P B ro N ops cl (fun fr I=> ∃fr',wg fr' fr/\K fr' I) [] fr I:=⟨fr,wg.refl _,h⟩
theorem AW.iff{Q:Exit->Fr->AH->Prop}{c:Operand}{x y:Code}{b:Bool}{p:Prop}[Decidable p]{X Y:Prop}(hc:qh fr c=some (.bool b))(hi:b=true↔p)(h:if p then X else Y)
  (ht:X->AW P B ro N x Q fr I) (hn:Y->AW P B ro N y Q fr I):AW P B ro N (.cond c x y) Q fr I:=by
 refine AW.cond hc (fun e=>ht ?_) (fun e=>hn ?_)
 .rw[if_pos (hi.1 e)]at h;exact h
 .rw[if_neg (fun q=>by rw[hi.2 q]at e;cases e)]at h;exact h
theorem AW.yes{Q:Exit->Fr->AH->Prop}{c:Operand}{x y:Code}(hc:qh fr c=some (.bool true))(h:AW P B ro N x Q fr I):AW P B ro N (.cond c x y) Q fr I:=AW.cond hc (fun _=>h) (fun e=>by cases e)
theorem AW.no{Q:Exit->Fr->AH->Prop}{c:Operand}{x y:Code}(hc:qh fr c=some (.bool false))(h:AW P B ro N y Q fr I):AW P B ro N (.cond c x y) Q fr I:=AW.cond hc (fun e=>by cases e) (fun _=>h)
theorem AW.seqJ{Q:Exit->Fr->AH->Prop}{x y:Code}(J:Fr->AH->Prop)(hy:∀ fr I,J fr I->AW P B ro N y Q fr I)(hx:AW P B ro N x (aaC J Q) fr I):AW P B ro N (.seq x y) Q fr I:=by
 refine AW.seq ?_
 intro φ w a ho hf
 refine wp_mono (hx φ w a ho hf) ?_
 rintro e a' w' ⟨fr',I',hq,ho',hf'⟩
 cases e with
 | normal=>exact⟨fr',I',hy _ _ hq,ho',hf'⟩
 | _=>exact⟨fr',I',hq,ho',hf'⟩
theorem abQ{α β:Type}(f:α->β)(x:α):f <$> (Sem.pure x:Sem α)=Sem.pure (f x):=rfl
theorem akq{fn:Func}{R:Value->AH->Prop}(hr:fn.results= #[])(h:R (.tuple #[]) I):∃ v,(∀tmps:Array Value,(∀i u,qP fr i=some u->tmps[i]?=some u)->qe P ro (results fn tmps) I=some v)/\R v I:=by
 refine⟨_,fun tmps ht=>?_,h⟩
 simp[results,hr,pure,bind,Sem.bind,abQ,qe]
theorem alG{fn:Func}{R:Value->AH->Prop}{a:Nat}{x:Value}(hr:fn.results= #[.tmp a])(ha:qP fr a=some x)(h:R x I):∃ v,(∀tmps:Array Value,(∀i u,qP fr i=some u->tmps[i]?=some u)->qe P ro (results fn tmps) I=some v)/\R v I:=by
 refine⟨_,fun tmps ht=>?_,h⟩
 have:=ht a x ha
 simp[results,hr,pure,bind,Sem.bind,abQ,qe,Array.getD_eq_getD_getElem?,this]
theorem alH{fn:Func}{R:Value->AH->Prop}{a b:Nat}{x y:Value}(hr:fn.results= #[.tmp a,.tmp b])(ha:qP fr a=some x)(hb:qP fr b=some y)(h:R (.tuple #[x,y]) I):
  ∃v,(∀tmps:Array Value,(∀i u,qP fr i=some u->tmps[i]?=some u)->qe P ro (results fn tmps) I=some v)/\R v I:=by
 refine⟨_,fun tmps ht=>?_,h⟩
 have h1:=ht a x ha
 have h2:=ht b y hb
 simp[results,hr,pure,bind,Sem.bind,abQ,qe,Array.getD_eq_getD_getElem?,h1,h2]
theorem alI{fn:Func}{R:Value->AH->Prop}{a b c:Nat}{x y z:Value}(hr:fn.results= #[.tmp a,.tmp b,.tmp c])(ha:qP fr a=some x)(hb:qP fr b=some y)(hc:qP fr c=some z)(h:R (.tuple #[x,y,z]) I):
  ∃v,(∀tmps:Array Value,(∀i u,qP fr i=some u->tmps[i]?=some u)->qe P ro (results fn tmps) I=some v)/\R v I:=by
 refine⟨_,fun tmps ht=>?_,h⟩
 have h1:=ht a x ha
 have h2:=ht b y hb
 have h3:=ht c z hc
 simp[results,hr,pure,bind,Sem.bind,abQ,qe,Array.getD_eq_getD_getElem?,h1,h2,h3]
end
end SL
namespace SL
open Go
section
variable{P:Program}{B:World}{ro:AH}{N:Nat}{o:Oper}{fr:Fr}{I:AH}{x y z:Operand}{v:Value}
theorem wu{α β:Type}(a:α)(f:α->Sem β):(Sem.pure a:Sem α).bind f=f a:=rfl
theorem qN{α:Type}(a:α):(pure a:Sem α)=Sem.pure a:=rfl
theorem qw{α β:Type}(s:Sem α)(f:α->Sem β):(s >>= f)=s.bind f:=rfl
theorem kb{β:Type}(f:Program->Sem β):Sem.bind program f=Sem.program fun p=>f p:=rfl
theorem qU{β:Type}(t:TypeId)(f:TypeDesc->Sem β){d:TypeDesc}(h:P.underlying t=some d){τ:AH}:qe P ro (Sem.bind (underlying t) f) τ=qe P ro (f d) τ:=by
 unfold underlying
 simp only[qw,kb]
 show qe P ro (Sem.bind (match P.underlying t with | some d=>pure d | none=>stuck "no such type") f) τ=_
 rw[h];rfl
theorem jI{s:Sem Value}{u:Value}(h:∀ O,zC O fr->execOp O o=(do pure (.value (<-s))))(hs:qe P ro s (fun _=>none)=some u):qE P ro o fr u:=by
 intro O hρ
 rw[h O hρ]
 exact aread_bind s hs
where
 aread_bind (s:Sem Value) {u:Value} (hs:qe P ro s (fun _=>none)=some u):qe P ro (s.bind fun v=>Sem.pure (Next.value v)) (fun _=>none)=some (.value u):=by
  induction s with
  | pure a=>cases hs;rfl
  | load m a k ih=>
   simp only[qe]at hs
   simp only[Sem.bind,qe]
   split at hs
   .rename_i v hv;exact ih _ hs
   .cases hs
  | program k ih=>exact ih _ hs
  | mark m k ih=>exact ih hs
  | _=>cases hs
theorem X_sem{K:Fr->AH->Prop}{s:Sem Value}(h:∀ O,zC O fr->execOp O o=(do pure (.value (<-s))))(hs:awp P ro s (fun v I=>K (qB o.dst v fr) I) I):wd P B ro o K fr I:=by
 intro O hρ
 rw[h O hρ,vf]
 exact qv _ hs fun _ _ h=>h
theorem X_semU{K:Fr->AH->Prop}{s:Sem Unit}(h:∀ O,zC O fr->execOp O o=(do s;pure .skip))(hs:awp P ro s (fun _ I=>K (qB o.dst undef fr) I) I):wd P B ro o K fr I:=by
 intro O hρ
 rw[h O hρ,vf]
 exact qv _ hs fun _ _ h=>h
theorem vl(ho:o.op= .move x)(hx:qh fr x=some v):qE P ro o fr v:=by
 intro O hρ;unfold execOp;rw[ho];simp only[hρ _ _ hx];rfl
theorem ahD(ho:o.op= .assign x)(hx:qh fr x=some v):qE P ro o fr v:=by
 intro O hρ;unfold execOp;rw[ho];simp only[hρ _ _ hx];rfl
theorem ahE{vs:Array Value}{i:Nat}(ho:o.op= .extract x i)(hx:qh fr x=some (.tuple vs))(hv:vs[i]?=some v):qE P ro o fr v:=by
 refine jI (s:=Instr.extract (.tuple vs) i) (fun O hρ=>?_) (by unfold Instr.extract;simp only[hv];rfl)
 unfold execOp;rw[ho];simp only[hρ _ _ hx]
theorem aau{op:BinOp}{t u:TypeId}{k:IntKind}{a b:Int}(ho:o.op= .binOp op t x y u)(hx:qh fr x=some (.int k a))(hy:qh fr y=some (.int k b))(hs:qe P ro (Go.binOp op t (.int k a) (.int k b)) (fun _=>none)=some v):qE P ro o fr v:=by
 refine jI (s:=do eqGuard op t x y (.int k a) (.int k b);Go.binOp op t (.int k a) (.int k b)) (fun O hρ=>?_) ?_
 .unfold execOp;rw[ho];simp only[hρ _ _ hx,hρ _ _ hy]
 .unfold eqGuard;cases op<;>exact hs
theorem ahF{t u:TypeId}{k:IntKind}{a b:Int}(ho:o.op= .binOp .lss t x y u)(hx:qh fr x=some (.int k a))(hy:qh fr y=some (.int k b)):qE P ro o fr (.bool (decide (a<b))):=aau ho hx hy (by simp[Go.binOp,Op.intCmp,qN,qe])
theorem ahG{t u:TypeId}{k:IntKind}{a b:Int}(ho:o.op= .binOp .leq t x y u)(hx:qh fr x=some (.int k a))(hy:qh fr y=some (.int k b)):qE P ro o fr (.bool (decide (a<=b))):=aau ho hx hy (by simp[Go.binOp,Op.intCmp,qN,qe])
theorem ahH{t u:TypeId}{k:IntKind}{a b:Int}(ho:o.op= .binOp .gtr t x y u)(hx:qh fr x=some (.int k a))(hy:qh fr y=some (.int k b)):qE P ro o fr (.bool (decide (b<a))):=aau ho hx hy (by simp[Go.binOp,Op.intCmp,qN,qe])
theorem ahI{t u:TypeId}{k:IntKind}{a b:Int}(ho:o.op= .binOp .geq t x y u)(hx:qh fr x=some (.int k a))(hy:qh fr y=some (.int k b)):qE P ro o fr (.bool (decide (b<=a))):=aau ho hx hy (by simp[Go.binOp,Op.intCmp,qN,qe])
theorem adR{t u:TypeId}{k:IntKind}{a b:Int}(ho:o.op= .binOp .eql t x y u)(hx:qh fr x=some (.int k a))(hy:qh fr y=some (.int k b)):qE P ro o fr (.bool (decide (a=b))):=aau ho hx hy (by simp[Go.binOp,Op.intCmp,qN,qe];rfl)
theorem acK{t u:TypeId}{k:IntKind}{a b:Int}(ho:o.op= .binOp .neq t x y u)(hx:qh fr x=some (.int k a))(hy:qh fr y=some (.int k b)):qE P ro o fr (.bool (!decide (a=b))):=aau ho hx hy (by simp[Go.binOp,Op.intCmp,qN,qe];rfl)
theorem ahJ{t u:TypeId}{k:IntKind}{a b:Int}(ho:o.op= .binOp .add t x y u)(hx:qh fr x=some (.int k a))(hy:qh fr y=some (.int k b)):qE P ro o fr (.int k (k.wrap (a+b))):=aau ho hx hy (by simp[Go.binOp,Op.intArith,qN,qe])
theorem ahK{t u:TypeId}{k:IntKind}{a b:Int}(ho:o.op= .binOp .sub t x y u)(hx:qh fr x=some (.int k a))(hy:qh fr y=some (.int k b)):qE P ro o fr (.int k (k.wrap (a - b))):=aau ho hx hy (by simp[Go.binOp,Op.intArith,qN,qe])
theorem ahL{t u:TypeId}{k:IntKind}{a b:Int}(ho:o.op= .binOp .mul t x y u)(hx:qh fr x=some (.int k a))(hy:qh fr y=some (.int k b)):qE P ro o fr (.int k (k.wrap (a*b))):=aau ho hx hy (by simp[Go.binOp,Op.intArith,qN,qe])
theorem ajJ{t u:TypeId}{k:IntKind}{a b:Int}(ho:o.op= .binOp .quo t x y u)(hx:qh fr x=some (.int k a))(hy:qh fr y=some (.int k b))(hb:b≠0):qE P ro o fr (.int k (k.wrap (a.tdiv b))):=aau ho hx hy (by simp[Go.binOp,Op.intDiv,qN,qe,hb])
theorem ahM{t u:TypeId}{k:IntKind}{a b:Int}(ho:o.op= .binOp .rem t x y u)(hx:qh fr x=some (.int k a))(hy:qh fr y=some (.int k b))(hb:b≠0):qE P ro o fr (.int k (a.tmod b)):=aau ho hx hy (by simp[Go.binOp,Op.intDiv,qN,qe,hb])
def ke(k:IntKind)(a b:Int):Int:=k.wrap (BitVec.ofInt k.bits a &&& BitVec.ofInt k.bits b).toNat
def kx(k:IntKind)(a b:Int):Int:=k.wrap (BitVec.ofInt k.bits a ||| BitVec.ofInt k.bits b).toNat
theorem ahN{t u:TypeId}{k:IntKind}{a b:Int}(ho:o.op= .binOp .and t x y u)(hx:qh fr x=some (.int k a))(hy:qh fr y=some (.int k b)):qE P ro o fr (.int k (ke k a b)):=aau ho hx hy (by simp[Go.binOp,Op.intBits,qN,qe,ke])
theorem ahO{t u:TypeId}{k:IntKind}{a b:Int}(ho:o.op= .binOp .or t x y u)(hx:qh fr x=some (.int k a))(hy:qh fr y=some (.int k b)):qE P ro o fr (.int k (kx k a b)):=aau ho hx hy (by simp[Go.binOp,Op.intBits,qN,qe,kx])
theorem binShift{op:BinOp}(hop:op= .shl\/op= .shr){t u:TypeId}{k j:IntKind}{a b:Int}(ho:o.op= .binOp op t x y u)(hx:qh fr x=some (.int k a))(hy:qh fr y=some (.int j b))(hs:qe P ro (Op.shift op k a j b) (fun _=>none)=some v):qE P ro o fr v:=by
 refine jI (s:=do eqGuard op t x y (.int k a) (.int j b);Go.binOp op t (.int k a) (.int j b)) (fun O hρ=>?_) ?_
 .unfold execOp;rw[ho];simp only[hρ _ _ hx,hρ _ _ hy]
 .rcases hop with rfl | rfl<;>exact hs
theorem ak2{t u:TypeId}{k j:IntKind}{a b:Int}(ho:o.op= .binOp .shl t x y u)(hx:qh fr x=some (.int k a))(hy:qh fr y=some (.int j b))(hb:0<=b):qE P ro o fr (.int k (k.wrap (a*2 ^ (min b.toNat k.bits)))):=
 binShift (.inl rfl) ho hx hy (by unfold Op.shift;rw[if_neg (by omega)];rfl)
theorem ak3{t u:TypeId}{k j:IntKind}{a b:Int}(ho:o.op= .binOp .shr t x y u)(hx:qh fr x=some (.int k a))(hy:qh fr y=some (.int j b))(hb:0<=b):qE P ro o fr (.int k (a.fdiv (2 ^ (min b.toNat k.bits)))):=
 binShift (.inr rfl) ho hx hy (by unfold Op.shift;rw[if_neg (by omega)];rfl)
theorem unS{op:UnOp}{t:TypeId}(ho:o.op= .unOp op t x)(hx:qh fr x=some v){u:Value}(hs:qe P ro (Op.unary op v) (fun _=>none)=some u):qE P ro o fr u:=by
 refine jI (s:=Op.unary op v) (fun O hρ=>?_) hs
 unfold execOp;rw[ho];simp only[hρ _ _ hx]
theorem um{t:TypeId}{b:Bool}(ho:o.op= .unOp .not t x)(hx:qh fr x=some (.bool b)):qE P ro o fr (.bool (!b)):=unS ho hx rfl
theorem adS{s t:TypeId}{k j:IntKind}{a:Int}{d:TypeDesc}(ho:o.op= .convert s t x)(hx:qh fr x=some (.int j a))(hs:P.underlying s=some d)(ht:P.underlying t=some (.int k)):qE P ro o fr (.int k (k.wrap a)):=by
 refine jI (s:=convert s t (.int j a)) (fun O hρ=>?_) ?_
 .unfold execOp;rw[ho];simp only[hρ _ _ hx]
 .unfold convert;show qe P ro (Sem.bind (underlying s) _) _=_;rw[qU _ _ hs];show qe P ro (Sem.bind (underlying t) _) _=_;rw[qU _ _ ht];cases d<;>rfl
theorem wa{u:Value}(ho:o.op= .pick x y z)(hx:qh fr x=some (.bool true))(hy:qh fr y=some u):qE P ro o fr u:=by
 intro O hρ;unfold execOp;rw[ho];simp only[hρ _ _ hx,hρ _ _ hy];rfl
theorem wx{u:Value}(ho:o.op= .pick x y z)(hx:qh fr x=some (.bool false))(hz:qh fr z=some u):qE P ro o fr u:=by
 intro O hρ;unfold execOp;rw[ho];simp only[hρ _ _ hx,hρ _ _ hz];rfl
theorem ahP{a b:ByteArray}(h:a.toList=b.toList):a=b:=by
 rw[ByteArray.toList_eq,ByteArray.toList_eq]at h
 exact ByteArray.ext (Array.toList_inj.1 h)
theorem ahQ{op:BinOp}{t u:TypeId}{a b:ByteArray}(ho:o.op= .binOp op t x y u)(hx:qh fr x=some (.string a))(hy:qh fr y=some (.string b))(hop:op≠ .shl/\op≠ .shr)(hs:qe P ro (Op.stringOp op a b) (fun _=>none)=some v):qE P ro o fr v:=by
 refine jI (s:=do eqGuard op t x y (.string a) (.string b);Go.binOp op t (.string a) (.string b)) (fun O hρ=>?_) ?_
 .unfold execOp;rw[ho];simp only[hρ _ _ hx,hρ _ _ hy]
 .unfold eqGuard;cases op<;>first | exact hs | exact absurd rfl hop.1 | exact absurd rfl hop.2
theorem eqS{a b:ByteArray}:(a.toList == b.toList)=decide (a=b):=by
 by_cases h:a=b
 .subst h;simp
 .rw[decide_eq_false h]
  cases e:(a.toList == b.toList)with
  | false=>rfl
  | true=>exact absurd (ahP (by simpa using e)) h
theorem agi{t u:TypeId}{a b:ByteArray}(ho:o.op= .binOp .eql t x y u)(hx:qh fr x=some (.string a))(hy:qh fr y=some (.string b)):qE P ro o fr (.bool (decide (a=b))):=ahQ ho hx hy (by simp) (by simp only[Op.stringOp,eqS];rfl)
theorem akr{t u:TypeId}{a b:ByteArray}(ho:o.op= .binOp .neq t x y u)(hx:qh fr x=some (.string a))(hy:qh fr y=some (.string b)):qE P ro o fr (.bool (!decide (a=b))):=ahQ ho hx hy (by simp) (by simp only[Op.stringOp,eqS];rfl)
theorem ahR{t u:TypeId}{a b:ByteArray}(ho:o.op= .binOp .add t x y u)(hx:qh fr x=some (.string a))(hy:qh fr y=some (.string b))(h:a.size+b.size<=9223372036854775807):qE P ro o fr (.string (a++b)):=
 ahQ ho hx hy (by simp) (by unfold Op.stringOp;dsimp only;rw[if_neg (by simp only[IntKind.max,IntKind.signed,IntKind.bits,if_true];omega)];rfl)
theorem jN{t:TypeId}{ts:Array TypeId}{ars:Array Operand}{a:ByteArray}(ho:o.op= .call {callee:= .builtin .len,args:=ars,argTypes:=ts})(ht:ts[0]?=some t)(hu:P.underlying t=some .string)(ha:ars= #[x])(hx:qh fr x=some (.string a)):qE P ro o fr (.int .i64 a.size):=by
 refine jI (s:=Builtin.len_ ts o.type #[.string a]) (fun O hρ=>?_) ?_
 .unfold execOp;rw[ho];subst ha;simp[resolve,invoke,builtin,hρ _ _ hx,qN,qw,wu]
 .unfold Builtin.len_;simp only[ht,qw];rw[show(#[Value.string a]:Array Value)[0]?=some (.string a)from rfl];dsimp only;rw[qU _ _ hu];rfl
theorem qJ{t e:TypeId}{ts:Array TypeId}{ars:Array Operand}{a:Option Addr}{n c:Nat}(ho:o.op= .call {callee:= .builtin .len,args:=ars,argTypes:=ts})(ht:ts[0]?=some t)(hu:P.underlying t=some (.slice e))(ha:ars= #[x])(hx:qh fr x=some (.slice a n c)):qE P ro o fr (.int .i64 n):=by
 refine jI (s:=Builtin.len_ ts o.type #[.slice a n c]) (fun O hρ=>?_) ?_
 .unfold execOp;rw[ho];subst ha;simp[resolve,invoke,builtin,hρ _ _ hx,qN,qw,wu]
 .unfold Builtin.len_;simp only[ht,qw];rw[show(#[Value.slice a n c]:Array Value)[0]?=some (.slice a n c)from rfl];dsimp only;rw[qU _ _ hu];rfl
theorem ais{t:TypeId}{a:ByteArray}{k:IntKind}{i:Int}{b:UInt8}(ho:o.op= .index t x y)(hu:P.underlying t=some .string)(hx:qh fr x=some (.string a))(hy:qh fr y=some (.int k i))(h0:0<=i)(hb:a[i.toNat]?=some b):qE P ro o fr (.int .u8 b.toNat):=by
 refine jI (s:=Instr.index t (.string a) (.int k i)) (fun O hρ=>?_) ?_
 .unfold execOp;rw[ho];simp only[hρ _ _ hx,hρ _ _ hy]
 .unfold Instr.index
  show qe P ro (Sem.bind (underlying t) _) _=_
  rw[qU _ _ hu]
  dsimp only
  rw[if_pos h0,hb];rfl
end
end SL
namespace SL
open Go
section
variable{P:Program}{B:World}{ro:AH}{N:Nat}{o:Oper}{fr:Fr}{I:AH}{x y z:Operand}{v:Value}
theorem ac9{β:Type}(t:TypeId)(f:TypeInfo->Sem β){d:TypeInfo}(h:P.info? t=some d){τ:AH}:qe P ro (Sem.bind (typeInfo t) f) τ=qe P ro (f d) τ:=by
 unfold typeInfo
 simp only[qw,kb]
 show qe P ro (Sem.bind (match P.info? t with | some i=>pure i | none=>stuck "no such type") f) τ=_
 rw[h];rfl
theorem qu{β:Type}{t:TypeId}{f:TypeDesc->Sem β}{d:TypeDesc}(h:P.underlying t=some d){Q:β->AH->Prop}:awp P ro (Sem.bind (underlying t) f) Q I↔awp P ro (f d) Q I:=by
 unfold underlying
 simp only[qw,kb]
 show awp P ro (Sem.bind (match P.underlying t with | some d=>pure d | none=>stuck "no such type") f) Q I↔_
 rw[h];rfl
theorem wZ{β:Type}{t:TypeId}{f:TypeInfo->Sem β}{d:TypeInfo}(h:P.info? t=some d){Q:β->AH->Prop}:awp P ro (Sem.bind (typeInfo t) f) Q I↔awp P ro (f d) Q I:=by
 unfold typeInfo
 simp only[qw,kb]
 show awp P ro (Sem.bind (match P.info? t with | some i=>pure i | none=>stuck "no such type") f) Q I↔_
 rw[h];rfl
def qp(P:Program)(t:TypeId)(zero:Value)(size bytes:Nat):Prop:= ∃i,P.info? t=some i/\i.zero=some zero/\i.size=size/\i.bytes=bytes
theorem qp.of{t:TypeId}{zero:Value}{size bytes:Nat}(h:(P.info? t).map (fun i=>(i.zero,i.size,i.bytes))=some (some zero,size,bytes)):qp P t zero size bytes:=by
 cases e:P.info? t with
 | none=>rw[e]at h;cases h
 | some i=>rw[e]at h;simp at h;exact⟨i,e,h.1,h.2.1,h.2.2⟩
theorem aav{β:Type}{t:TypeId}{zv:Value}{s b:Nat}(h:qp P t zv s b){f:Value->Sem β}{Q:β->AH->Prop}:awp P ro (Sem.bind (zeroValue t) f) Q I↔awp P ro (f zv) Q I:=by
 obtain⟨i,h1,h2,_,_⟩:=h
 unfold zeroValue
 show awp P ro (Sem.bind (Sem.bind (typeInfo t) _) f) Q I↔_
 rw[show∀(g:TypeInfo->Sem Value),Sem.bind (Sem.bind (typeInfo t) g) f=Sem.bind (typeInfo t) fun i=>Sem.bind (g i) f from fun g=>bind_assoc' _ _ _]
 rw[wZ h1,h2];rfl
where
 bind_assoc' {α β γ:Type} (s:Sem α) (f:α->Sem β) (g:β->Sem γ):Sem.bind (Sem.bind s f) g=Sem.bind s fun a=>Sem.bind (f a) g:=by
  induction s with
  | pure a=>rfl
  | load m a k ih=>simp only[Sem.bind];congr;funext v;exact ih v
  | store m a v k ih=>simp only[Sem.bind];congr
  | new o k ih=>simp only[Sem.bind];congr;funext v;exact ih v
  | shape r k ih=>simp only[Sem.bind];congr;funext v;exact ih v
  | freeze a n k ih=>simp only[Sem.bind];congr
  | frozen a k ih=>simp only[Sem.bind];congr;funext v;exact ih v
  | getObj r k ih=>simp only[Sem.bind];congr;funext v;exact ih v
  | setObj r o k ih=>simp only[Sem.bind];congr
  | choose q k ih=>simp only[Sem.bind];congr;funext v;exact ih v
  | sys c k ih=>simp only[Sem.bind];congr;funext v;exact ih v
  | program k ih=>simp only[Sem.bind];congr;funext v;exact ih v
  | mark m k ih=>simp only[Sem.bind];congr
  | halt e=>rfl
theorem bind_assoc'{α β γ:Type}(s:Sem α)(f:α->Sem β)(g:β->Sem γ):Sem.bind (Sem.bind s f) g=Sem.bind s fun a=>Sem.bind (f a) g:=aav.bind_assoc' s f g
theorem aaw{β:Type}{t:TypeId}{zv:Value}{s b:Nat}(h:qp P t zv s b){f:Nat->Sem β}{Q:β->AH->Prop}:awp P ro (Sem.bind (sizeOf t) f) Q I↔awp P ro (f s) Q I:=by
 obtain⟨i,h1,_,h3,_⟩:=h
 unfold sizeOf
 show awp P ro (Sem.bind (Sem.bind (typeInfo t) _) f) Q I↔_
 rw[bind_assoc',wZ h1,<-h3];rfl
theorem yh{β:Type}{t:TypeId}{zv:Value}{s b:Nat}(h:qp P t zv s b){f:Nat->Sem β}{τ:AH}:qe P ro (Sem.bind (sizeOf t) f) τ=qe P ro (f s) τ:=by
 obtain⟨i,h1,_,h3,_⟩:=h
 unfold sizeOf
 show qe P ro (Sem.bind (Sem.bind (typeInfo t) _) f) τ=_
 rw[bind_assoc',ac9 _ _ h1,<-h3];rfl
theorem ahS{β:Type}{t:TypeId}{zv:Value}{s b:Nat}(h:qp P t zv s b){f:Value->Sem β}{τ:AH}:qe P ro (Sem.bind (zeroValue t) f) τ=qe P ro (f zv) τ:=by
 obtain⟨i,h1,h2,_,_⟩:=h
 unfold zeroValue
 show qe P ro (Sem.bind (Sem.bind (typeInfo t) _) f) τ=_
 rw[bind_assoc',ac9 _ _ h1,h2];rfl
def po:TypeDesc->Bool
 | .struct _=>true
 | .array _ _=>true
 | _=>false
theorem afv{β:Type}{t:TypeId}{d:TypeDesc}(h:P.underlying t=some d){f:Bool->Sem β}{Q:β->AH->Prop}:awp P ro (Sem.bind (isAgg t) f) Q I↔awp P ro (f (po d)) Q I:=by
 unfold isAgg
 show awp P ro (Sem.bind (Sem.bind (underlying t) _) f) Q I↔_
 rw[bind_assoc',qu h];cases d<;>rfl
theorem uc{β:Type}{t:TypeId}{d:TypeDesc}(h:P.underlying t=some d){f:Bool->Sem β}{τ:AH}:qe P ro (Sem.bind (isAgg t) f) τ=qe P ro (f (po d)) τ:=by
 unfold isAgg
 show qe P ro (Sem.bind (Sem.bind (underlying t) _) f) τ=_
 rw[bind_assoc',qU _ _ h];cases d<;>rfl
@[simp] theorem yk(a:Addr):a.add 0=a:=rfl
@[simp] theorem wN(b i n:Nat):(⟨b,i,none⟩:Addr).add n=⟨b,i+n,none⟩:=by
 unfold Addr.add;by_cases h:n=0<;>simp[h]
theorem wD{a:Addr}(ho:o.op= .nilCheck x)(hx:qh fr x=some (.pointer (some a))):qE P ro o fr (.pointer (some a)):=by
 intro O hρ;unfold execOp;rw[ho];simp only[hρ _ _ hx];rfl
theorem qx{s:TypeId}{f:Nat}{fs:Array Field}{fd:Field}{a:Addr}{zv:Value}{n b:Nat}(ho:o.op= .fieldAddr s x f)(hs:P.underlying s=some (.struct fs))(hf:fs[f]?=some fd)(hz:qp P fd.type zv n b)(hn:n≠0)
  (hx:qh fr x=some (.pointer (some a))):qE P ro o fr (.pointer (some (a.add fd.offset))):=by
 refine jI (s:=Instr.fieldAt s (.pointer (some a)) f) (fun O hρ=>?_) ?_
 .unfold execOp;rw[ho];simp only[hρ _ _ hx]
 .unfold Instr.fieldAt
  show qe P ro (Sem.bind (underlying s) _) _=_
  rw[qU _ _ hs];dsimp only;rw[hf];dsimp only[Instr.sureAddr]
  show qe P ro (Sem.bind (fieldPlace a fd) _) _=_
  unfold fieldPlace
  show qe P ro (Sem.bind (Sem.bind (sizeOf fd.type) _) _) _=_
  rw[bind_assoc',yh hz,if_neg hn];rfl
theorem vL{t e:TypeId}{a:Addr}{n c:Nat}{k:IntKind}{i:Int}{zv:Value}{s b:Nat}(ho:o.op= .indexAddr t x y)(ht:P.underlying t=some (.slice e))(hz:qp P e zv s b)
  (hx:qh fr x=some (.slice (some a) n c)) (hy:qh fr y=some (.int k i)) (h0:0<=i) (h1:i<n):qE P ro o fr (.pointer (some (a.add (i.toNat*s)))):=by
 refine jI (s:=Instr.indexAt t (.slice (some a) n c) (.int k i)) (fun O hρ=>?_) ?_
 .unfold execOp;rw[ho];simp only[hρ _ _ hx,hρ _ _ hy]
 .unfold Instr.indexAt
  show qe P ro (Sem.bind (underlying t) _) _=_
  rw[qU _ _ ht]
  simp only[qw,qN,wu]
  rw[qU _ _ ht,if_pos ⟨h0,h1⟩,yh hz];rfl
theorem aks{t:TypeId}{d:TypeDesc}{a:Addr}(ht:P.underlying t=some d)(hd:po d=false){Q:Value->AH->Prop}:awp P ro (loadVar t a) Q I↔∃ v,qa ro I a=some v/\Q v I:=by
 unfold loadVar
 show awp P ro (Sem.bind (isAgg t) _) Q I↔_
 rw[afv ht,hd];rfl
theorem qM{K:Fr->AH->Prop}{t:TypeId}{d:TypeDesc}{a:Addr}(ho:o.op= .load t x)(ht:P.underlying t=some d)(hd:po d=false)(hx:qh fr x=some (.pointer (some a)))(hc:qa ro I a=some v)(h:K (qB o.dst v fr) I):wd P B ro o K fr I:=by
 refine X_sem (s:=loadVar t a) (fun O hρ=>?_) ((aks ht hd).2 ⟨v,hc,h⟩)
 unfold execOp;rw[ho];simp only[hρ _ _ hx];rfl
theorem zS{t:TypeId}{d:TypeDesc}{a:Addr}(ho:o.op= .load t x)(ht:P.underlying t=some d)(hd:po d=false)(hx:qh fr x=some (.pointer (some a)))(hc:qa ro (fun _=>none) a=some v):qE P ro o fr v:=by
 refine jI (s:=loadVar t a) (fun O hρ=>?_) ?_
 .unfold execOp;rw[ho];simp only[hρ _ _ hx];rfl
 .unfold loadVar
  show qe P ro (Sem.bind (isAgg t) _) _=_
  rw[uc ht,hd]
  show qe P ro (Sem.load .plain a .pure) _=_
  simp only[qe,hc]
def qj(ro I:AH)(a:Addr):Nat->List Value->Prop
 | _,[]=>True
 | i,v::r=>qa ro I (a.add i)=some v/\qj ro I a (i+1) r
theorem vH{a:Addr}{Q:Array Value->AH->Prop}:∀ (vs:List Value) (i:Nat) (acc:Array Value),qj ro I a i vs->Q (acc++vs.toArray) I->awp P ro (loadCellsFrom a i vs.length acc) Q I:=by
 intro vs
 induction vs with
 | nil=>intro i acc _ h;show Q acc I;simpa using h
 | cons v r ih=>
  intro i acc hc h
  obtain⟨h1,h2⟩:=hc
  show awp P ro (Sem.bind (load (a.add i)) _) Q I
  refine⟨v,h1,?_⟩
  exact ih (i+1) (acc.push v) h2 (by simpa using h)
theorem uI{a:Addr}:∀ (vs:List Value) (i:Nat) (acc:Array Value),qj ro I a i vs->qe P ro (loadCellsFrom a i vs.length acc) I=some (acc++vs.toArray):=by
 intro vs
 induction vs with
 | nil=>intro i acc _;show some acc=_;simp
 | cons v r ih=>
  intro i acc hc
  obtain⟨h1,h2⟩:=hc
  show qe P ro (Sem.load .plain (a.add i) _) I=_
  simp only[qe,h1]
  refine(ih (i+1) (acc.push v) h2).trans ?_
  simp
theorem jb{K:Fr->AH->Prop}{t:TypeId}{d:TypeDesc}{a:Addr}{vs:List Value}{zv:Value}{b:Nat}(ho:o.op= .load t x)(ht:P.underlying t=some d)(hd:po d=true)(hz:qp P t zv vs.length b)(hx:qh fr x=some (.pointer (some a)))
  (hc:qj ro I a 0 vs) (h:K (qB o.dst (.agg vs.toArray) fr) I):wd P B ro o K fr I:=by
 refine X_sem (s:=loadVar t a) (fun O hρ=>?_) ?_
 .unfold execOp;rw[ho];simp only[hρ _ _ hx];rfl
 .unfold loadVar
  show awp P ro (Sem.bind (isAgg t) _) _ I
  rw[afv ht,hd]
  show awp P ro (Sem.bind (sizeOf t) _) _ I
  rw[aaw hz]
  show awp P ro (Sem.bind (loadCellsFrom a 0 vs.length #[]) _) _ I
  refine(vf _ _).2 (vH vs 0 #[] hc ?_)
  show K (qB o.dst (.agg (#[]++vs.toArray)) fr) I
  simpa using h
theorem acL{t:TypeId}{d:TypeDesc}{a:Addr}{vs:List Value}{zv:Value}{b:Nat}(ho:o.op= .load t x)(ht:P.underlying t=some d)(hd:po d=true)(hz:qp P t zv vs.length b)(hx:qh fr x=some (.pointer (some a)))
  (hc:qj ro (fun _=>none) a 0 vs):qE P ro o fr (.agg vs.toArray):=by
 refine jI (s:=loadVar t a) (fun O hρ=>?_) ?_
 .unfold execOp;rw[ho];simp only[hρ _ _ hx];rfl
 .unfold loadVar
  show qe P ro (Sem.bind (isAgg t) _) _=_
  rw[uc ht,hd]
  show qe P ro (Sem.bind (sizeOf t) _) _=_
  rw[yh hz]
  have:=uI (P:=P) vs 0 #[] hc
  show qe P ro (Sem.bind (loadCellsFrom a 0 vs.length #[]) fun cs=>Sem.pure (Value.agg cs)) _=_
  generalize loadCellsFrom a 0 vs.length #[]=s at this
  have gen:∀ (s:Sem (Array Value)) {w:Array Value},qe P ro s (fun _=>none)=some w->qe P ro (Sem.bind s fun cs=>Sem.pure (Value.agg cs)) (fun _=>none)=some (.agg w):=by
   intro s
   induction s with
   | pure a=>intro w h;cases h;rfl
   | load m a k ih=>
    intro w h
    simp only[qe]at h
    simp only[Sem.bind,qe]
    split at h
    .exact ih _ h
    .cases h
   | program k ih=>intro w h;exact ih _ h
   | mark m k ih=>intro w h;exact ih h
   | _=>intro w h;cases h
  have:=gen s this
  simpa using this
def st1(I:AH)(a:Addr)(v:Value)(K:AH->Prop):Prop:=a.spot=none/\∃ c e fz,I a.block=some (.cells c e fz)/\a.off<c.size/\¬ (fz.1<=a.off/\a.off<fz.2)/\K (upd I a.block (.cells (c.setIfInBounds a.off v) e fz))
def stN(a:Addr)(K:AH->Prop):List Value->Nat->AH->Prop
 | [],_,I=>K I
 | v::r,i,I=>qg v=true/\st1 I (a.add i) v (stN a K r (i+1))
theorem jO{a:Addr}{Q:Unit->AH->Prop}:∀ (vs:List Value) (i:Nat) (I:AH),stN a (Q ()) vs i I->awp P ro (storeCells a vs i) Q I:=by
 intro vs
 induction vs with
 | nil=>intro i I h;exact h
 | cons v r ih=>
  intro i I h
  obtain⟨h0,h1,c,e,fz,h2,h3,h4,h5⟩:=h
  unfold storeCells
  exact⟨h0,h1,c,e,fz,h2,h3,h4,ih (i+1) _ h5⟩
theorem aej{K:Fr->AH->Prop}{t:TypeId}{a:Addr}{vs:List Value}{zv:Value}{n b:Nat}(ho:o.op= .store t x y)(hz:qp P t zv n b)(hx:qh fr x=some (.pointer (some a)))(hy:qh fr y=some v)(hv:v.cells.toList=vs)(hn:vs.length=n)
  (h:stN a (fun I=>K (qB o.dst undef fr) I) vs 0 I):wd P B ro o K fr I:=by
 refine X_semU (s:=storeVar t a v) (fun O hρ=>?_) ?_
 .unfold execOp;rw[ho];simp only[hρ _ _ hx,hρ _ _ hy];rfl
 .unfold storeVar
  show awp P ro (Sem.bind (sizeOf t) _) _ I
  rw[aaw hz,if_neg (by subst hv;subst hn;simp)]
  rw[hv]
  exact jO vs 0 I h
theorem ajK{K:Fr->AH->Prop}{ob:Obj}{mk:Nat->Value}(he:aaE P ro o fr ob mk)(h:∀ b,ro b=none->I b=none->K (qB o.dst (mk b) fr) (upd I b ob)):wd P B ro o K fr I:=by
 intro O hρ
 obtain⟨k,k1,k2⟩:=he O hρ
 exact(adn _ k1).2 fun b hb hs=>(uH _ (k2 b)).2 (h b hb hs)
def vJ(P:Program):Sem Value->Option (Obj×(Nat->Sem Value))
 | .new o k=>some (o,k)
 | .program k=>vJ P (k P)
 | .mark _ k=>vJ P k
 | _=>none
theorem aaO{s:Sem Value}{ob:Obj}{mk:Nat->Value}(h:∀ O,zC O fr->execOp O o=(do pure (.value (<-s))))(hs:∃ k,vJ P s=some (ob,k)/\∀ b,k b=Sem.pure (mk b)):aaE P ro o fr ob mk:=by
 intro O hρ
 rw[h O hρ]
 obtain⟨k,h1,h2⟩:=hs
 exact⟨fun b=>(k b).bind fun v=>Sem.pure (.value v),go s h1,fun b=>by dsimp only;rw[h2];rfl⟩
where
 go (s:Sem Value) {ob:Obj} {k:Nat->Sem Value} (h:vJ P s=some (ob,k)):adQ P (s.bind fun v=>Sem.pure (.value v))=some (ob,fun b=>(k b).bind fun v=>Sem.pure (.value v)):=by
  induction s with
  | new o k' ih=>simp only[vJ,Option.some.injEq,Prod.mk.injEq]at h;obtain⟨rfl,rfl⟩:=h;rfl
  | program k' ih=>exact ih _ h
  | mark m k' ih=>exact ih h
  | _=>cases h
theorem adq{t:TypeId}{zv:Value}{s b:Nat}(h:qp P t zv s b){f:Value->Sem Value}:vJ P (Sem.bind (zeroValue t) f)=vJ P (f zv):=by
 obtain⟨i,h1,h2,_,_⟩:=h
 unfold zeroValue typeInfo
 simp only[qw,kb,bind_assoc']
 show vJ P (Sem.bind (match P.info? t with | some i=>pure i | none=>stuck "no such type") _)=_
 rw[h1];simp only[qN,wu];rw[h2];rfl
theorem aeK{t:TypeId}{d:TypeDesc}(h:P.underlying t=some d){f:TypeDesc->Sem Value}:vJ P (Sem.bind (underlying t) f)=vJ P (f d):=by
 unfold underlying
 simp only[qw,kb]
 show vJ P (Sem.bind (match P.underlying t with | some d=>pure d | none=>stuck "no such type") f)=_
 rw[h];rfl
theorem afw{t:TypeId}{d:TypeInfo}(h:P.info? t=some d){f:TypeInfo->Sem Value}:vJ P (Sem.bind (typeInfo t) f)=vJ P (f d):=by
 unfold typeInfo
 simp only[qw,kb]
 show vJ P (Sem.bind (match P.info? t with | some d=>pure d | none=>stuck "no such type") f)=_
 rw[h];rfl
theorem afx{t:TypeId}{zv:Value}{s b:Nat}(h:qp P t zv s b){f:Nat->Sem Value}:vJ P (Sem.bind (sizeOf t) f)=vJ P (f s):=by
 obtain⟨i,h1,_,h3,_⟩:=h
 unfold sizeOf
 show vJ P (Sem.bind (Sem.bind (typeInfo t) _) f)=_
 rw[bind_assoc',afw h1,<-h3];rfl
theorem wH{e:TypeId}{zv:Value}{n b:Nat}(ho:o.op= .alloc e)(hz:qp P e zv n b):aaE P ro o fr (.cells zv.cells e) (fun b=> .pointer (some ⟨b,0,none⟩)):=by
 refine aaO (s:=Instr.alloc e true (.tuple #[])) (fun O hρ=>?_) ⟨fun b=>Sem.pure (.pointer (some ⟨b,0,none⟩)),?_,fun b=>?_⟩
 .unfold execOp;rw[ho]
 .unfold Instr.alloc
  show vJ P (Sem.bind (zeroValue e) _)=_
  rw[adq hz];rfl
 .rfl
theorem vq{e:TypeId}{u:Value}(ho:o.op= .box e x)(hx:qh fr x=some u):aaE P ro o fr (.cells u.cells e) (fun b=> .pointer (some ⟨b,0,none⟩)):=by
 refine aaO (s:=Instr.box e u) (fun O hρ=>?_) ⟨fun b=>Sem.pure (.pointer (some ⟨b,0,none⟩)),?_,fun b=>?_⟩
 .unfold execOp;rw[ho];simp only[hρ _ _ hx]
 .rfl
 .rfl
theorem aeL{t:TypeId}(ho:o.op= .makeMap t none):aaE P ro o fr (.map #[] 0) (fun b=> .map (some b)):=by
 refine aaO (s:=Instr.makeMap t none) (fun O hρ=>?_) ⟨fun b=>Sem.pure (.map (some b)),?_,fun b=>?_⟩
 .unfold execOp;rw[ho];rfl
 .rfl
 .rfl
def yl(zv:Value)(n:Nat):Array Value:=((List.range n).map (zv.cells[· %zv.cells.size]!)).toArray
theorem agj(zv:Value)(n:Nat):(Array.range n).map (zv.cells[· %zv.cells.size]!)=yl zv n:=by
 apply Array.toList_inj.1
 simp[yl]
theorem qW{n:Int}(h0: -9223372036854775808<=n)(h1:n<9223372036854775808):i64.wrap n=n:=by
 rw[IntKind.wrap_i64];omega
theorem ajL{t e:TypeId}{zv:Value}{s b:Nat}{n c:Int}(ho:o.op= .makeSlice t x y)(ht:P.underlying t=some (.slice e))(hz:qp P e zv s b)(hx:qh fr x=some (.int .i64 n))(hy:qh fr y=some (.int .i64 c))
  (h0:0<=n) (h1:n<=c) (h2:c<=281474976710656) (h3:b*c<=281474976710656):aaE P ro o fr (.cells (yl zv (c.toNat*s)) e) (fun b=> .slice (some ⟨b,0,none⟩) n.toNat c.toNat):=by
 have wn:i64.wrap n=n:=qW (by omega) (by omega)
 have wc:i64.wrap c=c:=qW (by omega) (by omega)
 refine aaO (s:=Instr.makeSlice t (.int .i64 n) (.int .i64 c)) (fun O hρ=>?_) ⟨fun b=>Sem.pure (.slice (some ⟨b,0,none⟩) n.toNat c.toNat),?_,fun b=>?_⟩
 .unfold execOp;rw[ho];simp only[hρ _ _ hx,hρ _ _ hy]
 .unfold Instr.makeSlice
  show vJ P (Sem.bind (underlying t) _)=_
  rw[aeK ht]
  obtain⟨i,i1,i2,i3,i4⟩:=hz
  show vJ P (Sem.bind (typeInfo e) _)=_
  rw[afw i1]
  dsimp only
  rw[wn,wc,i4]
  rw[if_neg (by
   simp only[Bool.or_eq_true,decide_eq_true_eq]
   omega)]
  show vJ P (Sem.bind (askRoom _) _)=_
  have hroom:∀ (m:Nat) (f:Unit->Sem Value),vJ P (Sem.bind (askRoom m) f)=vJ P (f ()):=by
   intro m f;unfold askRoom;split<;>rfl
  rw[hroom]
  have hz':qp P e zv s b:=⟨i,i1,i2,i3,i4⟩
  show vJ P (Sem.bind (sizeOf e) _)=_
  rw[afx hz']
  by_cases hc:c.toNat*s=0
  .simp only[hc,if_true]
   show vJ P (Sem.bind (Sem.pure #[]) _)=_
   simp[yl,newRow,newObj,qw,Sem.bind,vJ,qN]
  .simp only[if_neg hc]
   show vJ P (Sem.bind (zeroValue e) _)=_
   rw[adq hz']
   show some (Obj.cells ((Array.range (c.toNat*s)).map (zv.cells[· %zv.cells.size]!)) e,_)=_
   rw[agj]
   rfl
 .rfl
def pM(fr:Fr):List Operand->Option (List Value)
 | []=>some []
 | x::r=>match qh fr x,pM fr r with
  | some v,some vs=>some (v::vs)
  | _,_=>none
theorem ab0{O:Operand->Value}(hρ:zC O fr):∀ (l:List Operand) {vs:List Value},pM fr l=some vs->l.map O=vs:=by
 intro l
 induction l with
 | nil=>intro vs h;cases h;rfl
 | cons x r ih=>
  intro vs h
  unfold pM at h
  split at h
  .rename_i v vs' h1 h2
   cases h
   rw[List.map_cons,hρ _ _ h1,ih h2]
  .cases h
theorem ae2{f:FuncId}{fn:Func}{args:Array Value}{Q:Next->AH->Prop}(hf:P.funcs[f]?=some fn)(hn:(fn.name == "runtime.NumGoroutine")=false)(hb:fn.body.isNone=false)(h:Q (.enter f args) I):awp P ro (callFunc f args) Q I:=by
 unfold callFunc
 show awp P ro (Sem.bind program _) Q I
 rw[kb]
 show awp P ro (match P.funcs[f]? with | none=>_ | some fn=>_) Q I
 rw[hf];dsimp only
 rw[hn,hb]
 exact h
theorem qF{K:Fr->AH->Prop}{f:FuncId}{fn:Func}{ars:Array Operand}{ts:Array TypeId}{vs:List Value}(ho:o.op= .call {callee:= .value (.func f),args:=ars,argTypes:=ts})(hf:P.funcs[f]?=some fn)(hn:(fn.name == "runtime.NumGoroutine")=false)(hb:fn.body.isNone=false)
  (ha:pM fr ars.toList=some vs) (h:qb P B ro f vs.toArray I fun v I=>K (qB o.dst v fr) I):wd P B ro o K fr I:=by
 intro O hρ
 have hm:=ab0 hρ _ ha
 have hfun:O (.func f)= .func (.func f) #[] #[]:=hρ _ _ rfl
 have e:execOp O o=callFunc f vs.toArray:=by
  unfold execOp;rw[ho]
  simp only[resolve,hfun,Deferred.ofValue,qN,qw,wu,invoke]
  congr 1
  have:ars.map O=vs.toArray:=Array.toList_inj.1 (by rw[Array.toList_map,hm])
  rw[this];simp
 rw[e]
 exact ae2 hf hn hb h
theorem jz{K:Fr->AH->Prop}{b:Builtin}{ars:Array Operand}{ts:Array TypeId}{vs:List Value}{s:Sem Value}(ho:o.op= .call {callee:= .builtin b,args:=ars,argTypes:=ts})(ha:pM fr ars.toList=some vs)(hb:∀ cs,builtin b ts o.type cs vs.toArray=(do pure (.value (<-s))))
  (h:awp P ro s (fun v I=>K (qB o.dst v fr) I) I):wd P B ro o K fr I:=by
 refine X_sem (s:=s) (fun O hρ=>?_) h
 have hm:=ab0 hρ _ ha
 have:ars.map O=vs.toArray:=Array.toList_inj.1 (by rw[Array.toList_map,hm])
 unfold execOp;rw[ho]
 simp only[resolve,qN,qw,wu,invoke,this,hb]
end
end SL
namespace SL
open Go
section
variable{P:Program}{B:World}{ro:AH}{N:Nat}{o:Oper}{fr:Fr}{I:AH}{x y z:Operand}{v:Value}
def aek(fr:Fr):Option Operand->Option Int->Prop
 | none,none=>True
 | some x,some i=> ∃k,qh fr x=some (.int k i)
 | _,_=>False
theorem ab1{k:IntKind}{i:Int}{y:Nat}{c:BoundsCode}{β:Type}{f:Nat->Sem β}{τ:AH}(h0:0<=i)(h1:i<=y):qe P ro (Sem.bind (Instr.sliceBound (.int k i) y c) f) τ=qe P ro (f i.toNat) τ:=by
 unfold Instr.sliceBound
 show qe P ro (Sem.bind (if 0<=i/\i<=y then pure i.toNat else _) f) τ=_
 rw[if_pos ⟨h0,h1⟩];rfl
def aeM(lo:Option Int):Nat:=match lo with | some i=>i.toNat | none=>0
def cutHi(hi:Option Int)(len:Nat):Nat:=match hi with | some i=>i.toNat | none=>len
def cutOk(lo hi:Option Int)(len cap:Nat):Prop:=(match hi with | some i=>0<=i/\i<=cap | none=>True)/\(match lo with | some i=>0<=i/\i<=(cutHi hi len:Int) | none=>True)
theorem aaG{O:Operand->Value}(hρ:zC O fr){a:Option Operand}{i:Option Int}(h:aek fr a i):(a=none/\i=none)\/∃ k j,i=some j/\a.map O=some (.int k j):=by
 cases a with
 | none=>cases i with
  | none=>exact .inl ⟨rfl,rfl⟩
  | some j=>exact h.elim
 | some x=>cases i with
  | none=>exact h.elim
  | some j=>obtain⟨k,hk⟩:=h;exact .inr ⟨k,j,rfl,by simp[hρ _ _ hk]⟩
theorem adr{β:Type}{lo hi:Option Int}{a b:Option Operand}{O:Operand->Value}(ha:(a=none/\lo=none)\/∃ k j,lo=some j/\a.map O=some (.int k j))(hb:(b=none/\hi=none)\/∃ k j,hi=some j/\b.map O=some (.int k j)){len cap:Nat}{isS:Bool}
  (h:cutOk lo hi len cap) {f:Nat×Nat×Nat->Sem β} {τ:AH}:qe P ro (Sem.bind (Instr.sliceBounds isS len cap (a.map O) (b.map O) none) f) τ=qe P ro (f (aeM lo,cutHi hi len,cap)) τ:=by
 obtain⟨h1,h2⟩:=h
 unfold Instr.sliceBounds
 simp only[qw,qN,wu,bind_assoc']
 rcases hb with⟨rfl,rfl⟩ | ⟨k,j,rfl,hb⟩
 .simp only[Option.map_none,wu]
  rcases ha with⟨rfl,rfl⟩ | ⟨k,j,rfl,ha⟩
  .rfl
  .rw[ha];dsimp only at h2⊢
   simp only[bind_assoc']
   rw[ab1 h2.1 (by simpa [cutHi]using h2.2)];rfl
 .rw[hb];dsimp only at h1⊢
  simp only[bind_assoc']
  rw[ab1 h1.1 h1.2]
  rcases ha with⟨rfl,rfl⟩ | ⟨k,j,rfl,ha⟩
  .rfl
  .rw[ha];dsimp only at h2⊢
   simp only[bind_assoc']
   rw[ab1 h2.1 (by simpa [cutHi]using h2.2)];rfl
theorem ahT{t:TypeId}{a b:Option Operand}{lo hi:Option Int}{s:ByteArray}(ho:o.op= .slice t x a b none)(ht:P.underlying t=some .string)(hx:qh fr x=some (.string s))(ha:aek fr a lo)(hb:aek fr b hi)(h:cutOk lo hi s.size s.size):
  qE P ro o fr (.string (s.extract (aeM lo) (cutHi hi s.size))):=by
 intro O hρ
 have e:execOp O o=(do pure (.value (<-Instr.sliceAt t (.string s) (a.map O) (b.map O) none))):=by unfold execOp;rw[ho];simp only[hρ _ _ hx];rfl
 rw[e]
 show qe P ro (Sem.bind (Instr.sliceAt t (.string s) (a.map O) (b.map O) none) _) _=_
 unfold Instr.sliceAt
 simp only[qw,bind_assoc']
 rw[qU _ _ ht];dsimp only
 unfold Instr.slice
 simp only[qw,bind_assoc']
 rw[qU _ _ ht];dsimp only
 simp only[Option.isSome_none,Bool.false_eq_true,if_false,bind_assoc',qN,wu]
 rw[adr (aaG hρ ha) (aaG hρ hb) h];rfl
def wy(a:Option Addr)(lo cap s:Nat):Option Addr:=if cap=lo then a else a.map (·.add (lo*s))
theorem un{t e:TypeId}{a b:Option Operand}{lo hi:Option Int}{ad:Option Addr}{n c:Nat}{zv:Value}{s bt:Nat}(ho:o.op= .slice t x a b none)(ht:P.underlying t=some (.slice e))(hz:qp P e zv s bt)(hx:qh fr x=some (.slice ad n c))(ha:aek fr a lo)(hb:aek fr b hi)(h:cutOk lo hi n c):
  qE P ro o fr (.slice (wy ad (aeM lo) c s) (cutHi hi n - aeM lo) (c - aeM lo)):=by
 intro O hρ
 have e':execOp O o=(do pure (.value (<-Instr.sliceAt t (.slice ad n c) (a.map O) (b.map O) none))):=by unfold execOp;rw[ho];simp only[hρ _ _ hx];rfl
 rw[e']
 show qe P ro (Sem.bind (Instr.sliceAt t (.slice ad n c) (a.map O) (b.map O) none) _) _=_
 unfold Instr.sliceAt
 simp only[qw,bind_assoc']
 rw[qU _ _ ht];dsimp only
 unfold Instr.slice
 simp only[qw,bind_assoc']
 rw[qU _ _ ht];dsimp only
 simp only[bind_assoc',qN,wu]
 rw[adr (aaG hρ ha) (aaG hρ hb) h]
 dsimp only
 rw[yh hz];rfl
theorem zW:aek fr none none:=trivial
theorem ze{k:IntKind}{i:Int}(h:qh fr x=some (.int k i)):aek fr (some x) (some i):=⟨k,h⟩
def wz(P:Program):List Field->List (Nat×Nat)->Prop
 | [],[]=>True
 | f::r,p::q=>(p.1=f.offset/\∃ zv b,qp P f.type zv p.2 b)/\wz P r q
 | _,_=>False
theorem agk{β:Type}{fs:Array Field}{pl:List (Nat×Nat)}(h:wz P fs.toList pl){f:Array (Nat×Nat)->Sem β}{τ:AH}:qe P ro (Sem.bind (fs.mapM fun fd=>do pure (fd.offset,<-sizeOf fd.type)) f) τ=qe P ro (f pl.toArray) τ:=by
 rw[Array.mapM_eq_mapM_toList]
 show qe P ro (Sem.bind (List.toArray <$> _) f) τ=_
 have gen:∀ (l:List Field) (pl:List (Nat×Nat)) {γ:Type} (g:List (Nat×Nat)->Sem γ),wz P l pl->qe P ro (Sem.bind (l.mapM fun fd=>do pure (fd.offset,<-sizeOf fd.type)) g) τ=qe P ro (g pl) τ:=by
  intro l
  induction l with
  | nil=>
   intro pl γ g h
   cases pl with
   | nil=>rfl
   | cons p q=>exact h.elim
  | cons fd r ih=>
   intro pl γ g h
   cases pl with
   | nil=>exact h.elim
   | cons p q=>
    obtain⟨⟨h1,zv,b,h2⟩,h3⟩:=h
    rw[List.mapM_cons]
    show qe P ro (Sem.bind (Sem.bind (Sem.bind (sizeOf fd.type) _) _) g) τ=_
    rw[bind_assoc',bind_assoc',yh h2]
    simp only[qN,wu,bind_assoc',qw]
    show qe P ro (Sem.bind (r.mapM fun fd=>do pure (fd.offset,<-sizeOf fd.type)) _) τ=_
    rw[ih q _ h3]
    have:(fd.offset,p.2)=p:=by rw[<-h1]
    simp only[this]
 have map_bind:∀ (s:Sem (List (Nat×Nat))),Sem.bind (List.toArray <$> s) f=Sem.bind s fun l=>f l.toArray:=by
  intro s
  show Sem.bind (Sem.bind s _) f=_
  rw[bind_assoc'];rfl
 rw[map_bind,gen _ _ _ h]
def uG(fr:Fr):List (Nat×Operand)->Option (List (Nat×Value))
 | []=>some []
 | (i,x)::r=>match qh fr x,uG fr r with
  | some v,some vs=>some ((i,v)::vs)
  | _,_=>none
theorem ada{O:Operand->Value}(hρ:zC O fr){ps:Array (Nat×Operand)}{vs:List (Nat×Value)}(h:uG fr ps.toList=some vs):(ps.map fun(i,x)=>(i,O x)).toList=vs:=by
 have gen:∀ (l:List (Nat×Operand)) {vs:List (Nat×Value)},uG fr l=some vs->l.map (fun(i,x)=>(i,O x))=vs:=by
  intro l
  induction l with
  | nil=>intro vs h;cases h;rfl
  | cons p r ih=>
   intro vs h
   obtain⟨i,x⟩:=p
   unfold uG at h
   split at h
   .rename_i v vs' h1 h2
    cases h
    rw[List.map_cons,ih h2]
    simp only[hρ _ _ h1]
   .cases h
 rw[Array.toList_map];exact gen _ h
theorem wV{t:TypeId}{fs:Array Field}{pl:List (Nat×Nat)}{zv:Value}{n b:Nat}{parts:Array (Nat×Operand)}{vs:List (Nat×Value)}{cs:Array Value}(ho:o.op= .build t parts)(ht:P.underlying t=some (.struct fs))(hz:qp P t zv n b)(hp:wz P fs.toList pl)
  (hv':uG fr parts.toList=some vs) (hf:Instr.fill (fun i=>pl.toArray[i]?) zv.cells vs=some cs):qE P ro o fr (.agg cs):=by
 have hv:∀ O,zC O fr->(parts.map fun(i,x)=>(i,O x)).toList=vs:=fun O hρ=>ada hρ hv'
 intro O hρ
 have e:execOp O o=(do pure (.value (<-Instr.build t (parts.map fun(i,x)=>(i,O x))))):=by unfold execOp;rw[ho]
 rw[e]
 show qe P ro (Sem.bind (Instr.build t _) _) _=_
 unfold Instr.build
 simp only[qw,bind_assoc']
 rw[ahS hz,qU _ _ ht]
 dsimp only
 simp only[bind_assoc']
 refine(agk hp).trans ?_
 rw[hv O hρ]
 simp only[hf];rfl
theorem wI{t e:TypeId}{len:Nat}{zv:Value}{s b:Nat}{parts:Array (Nat×Operand)}{vs:List (Nat×Value)}{cs:Array Value}(ho:o.op= .buildSlice t len parts)(ht:P.underlying t=some (.slice e))(hs:qp P e zv s b)(hlen:len*s<=16777216)
  (hv':uG fr parts.toList=some vs) (hf:Instr.fill (fun i=>some (i*s,s)) (yl zv (len*s)) vs=some cs):aaE P ro o fr (.cells cs e) (fun b=> .slice (some ⟨b,0,none⟩) len len):=by
 have hv:∀ O,zC O fr->(parts.map fun(i,x)=>(i,O x)).toList=vs:=fun O hρ=>ada hρ hv'
 intro O hρ
 have e':execOp O o=(do pure (.value (<-Instr.buildSlice t len (parts.map fun(i,x)=>(i,O x))))):=by unfold execOp;rw[ho]
 rw[e']
 have hn:vJ P (Instr.buildSlice t len (parts.map fun(i,x)=>(i,O x)))=some (.cells cs e,fun b=>Sem.pure (.slice (some ⟨b,0,none⟩) len len)):=by
  unfold Instr.buildSlice
  simp only[qw]
  rw[aeK ht]
  dsimp only
  try simp only[qw]
  rw[afx hs]
  rw[if_neg (by omega)]
  by_cases hc:len*s=0
  .rw[if_pos hc]
   try simp only[qN,wu]
   rw[hv O hρ]
   have:Instr.fill (fun i=>some (i*s,s)) ((Array.range (len*s)).map fun i=>(#[]:Array Value)[i%(#[]:Array Value).size]!) vs=some cs:=by
    rw[<-hf];congr 1
    simp[yl,hc]
   simp only[this];rfl
  .rw[if_neg hc]
   simp only[qN,wu]
   rw[adq hs]
   try simp only[wu]
   rw[hv O hρ]
   have:Instr.fill (fun i=>some (i*s,s)) ((Array.range (len*s)).map fun i=>zv.cells[i%zv.cells.size]!) vs=some cs:=by rw[agj];exact hf
   simp only[this];rfl
 exact⟨_,aaO.go _ hn,fun b=>rfl⟩
theorem ads(t:TypeId)(a b:Value):Op.equal t a b=Op.equalIn (9999+1) t a b:=rfl
theorem ahU{t u:TypeId}{a b:Value}(ho:o.op= .binOp .eql t x y u)(hx:qh fr x=some a)(hy:qh fr y=some b){r:Bool}(hg:eqGuard .eql t x y a b=pure ())(hb:Go.binOp .eql t a b=(do pure (.bool (<-Op.equal t a b))))
  (hr:∀ τ,qe P ro (Op.equalIn (9999+1) t a b) τ=some r):qE P ro o fr (.bool r):=by
 refine jI (s:=do eqGuard .eql t x y a b;Go.binOp .eql t a b) (fun O hρ=>?_) ?_
 .unfold execOp;rw[ho];simp only[hρ _ _ hx,hρ _ _ hy]
 .rw[hg,hb,ads]
  have:=hr (fun _=>none)
  generalize Op.equalIn (9999+1) t a b=s at this
  show qe P ro (Sem.bind s fun b=>Sem.pure (Value.bool b)) _=_
  exact gen s this
where
 gen (s:Sem Bool) {w:Bool} (h:qe P ro s (fun _=>none)=some w):qe P ro (Sem.bind s fun b=>Sem.pure (Value.bool b)) (fun _=>none)=some (.bool w):=by
  induction s with
  | pure a=>cases h;rfl
  | load m a k ih=>
   simp only[qe]at h
   simp only[Sem.bind,qe]
   split at h
   .exact ih _ h
   .cases h
  | program k ih=>exact ih _ h
  | mark m k ih=>exact ih h
  | _=>cases h
theorem ajM{t u:TypeId}{a b:Value}(ho:o.op= .binOp .neq t x y u)(hx:qh fr x=some a)(hy:qh fr y=some b){r:Bool}(hg:eqGuard .neq t x y a b=pure ())(hb:Go.binOp .neq t a b=(do pure (.bool (!(<-Op.equal t a b)))))
  (hr:∀ τ,qe P ro (Op.equalIn (9999+1) t a b) τ=some r):qE P ro o fr (.bool (!r)):=by
 refine jI (s:=do eqGuard .neq t x y a b;Go.binOp .neq t a b) (fun O hρ=>?_) ?_
 .unfold execOp;rw[ho];simp only[hρ _ _ hx,hρ _ _ hy]
 .rw[hg,hb,ads]
  have:=hr (fun _=>none)
  generalize Op.equalIn (9999+1) t a b=s at this
  show qe P ro (Sem.bind s fun b=>Sem.pure (Value.bool !b)) _=_
  exact gen s this
where
 gen (s:Sem Bool) {w:Bool} (h:qe P ro s (fun _=>none)=some w):qe P ro (Sem.bind s fun b=>Sem.pure (Value.bool !b)) (fun _=>none)=some (.bool !w):=by
  induction s with
  | pure a=>cases h;rfl
  | load m a k ih=>
   simp only[qe]at h
   simp only[Sem.bind,qe]
   split at h
   .exact ih _ h
   .cases h
  | program k ih=>exact ih _ h
  | mark m k ih=>exact ih h
  | _=>cases h
theorem ahb{t e:TypeId}{p:Option Addr}{τ:AH}(ht:P.underlying t=some (.pointer e)):qe P ro (Op.equalIn (9999+1) t (.pointer p) (.pointer none)) τ=some p.isNone:=by
 unfold Op.equalIn
 show qe P ro (Sem.bind (underlying t) _) _=_
 rw[qU _ _ ht];cases p<;>rfl
theorem akt{t e:TypeId}{a:Option Addr}{n c:Nat}{τ:AH}(ht:P.underlying t=some (.slice e)):qe P ro (Op.equalIn (9999+1) t (.slice a n c) (.slice none 0 0)) τ=some a.isNone:=by
 unfold Op.equalIn
 show qe P ro (Sem.bind (underlying t) _) _=_
 rw[qU _ _ ht];cases a<;>rfl
theorem agl{t:TypeId}{a b:Bool}{τ:AH}(ht:P.underlying t=some .bool):qe P ro (Op.equalIn (9999+1) t (.bool a) (.bool b)) τ=some (a == b):=by
 unfold Op.equalIn
 show qe P ro (Sem.bind (underlying t) _) _=_
 rw[qU _ _ ht];rfl
theorem af5{t u e:TypeId}{p:Option Addr}(ho:o.op= .binOp .eql t x y u)(ht:P.underlying t=some (.pointer e))(hx:qh fr x=some (.pointer p))(hy:qh fr y=some (.pointer none)):qE P ro o fr (.bool p.isNone):=ahU ho hx hy rfl (by cases p<;>rfl) fun _=>ahb ht
theorem ak4{t u e:TypeId}{p:Option Addr}(ho:o.op= .binOp .neq t x y u)(ht:P.underlying t=some (.pointer e))(hx:qh fr x=some (.pointer p))(hy:qh fr y=some (.pointer none)):qE P ro o fr (.bool (!p.isNone)):=ajM ho hx hy rfl (by cases p<;>rfl) fun _=>ahb ht
theorem ahV{t u e:TypeId}{a:Option Addr}{n c:Nat}(ho:o.op= .binOp .eql t x y u)(ht:P.underlying t=some (.slice e))(hx:qh fr x=some (.slice a n c))(hy:qh fr y=some (.slice none 0 0)):qE P ro o fr (.bool a.isNone):=ahU ho hx hy rfl rfl fun _=>akt ht
theorem ak5{t u:TypeId}{a b:Bool}(ho:o.op= .binOp .eql t x y u)(ht:P.underlying t=some .bool)(hx:qh fr x=some (.bool a))(hy:qh fr y=some (.bool b)):qE P ro o fr (.bool (a == b)):=ahU ho hx hy rfl rfl fun _=>agl ht
theorem aeN{t u:TypeId}{a b:Bool}(ho:o.op= .binOp .neq t x y u)(ht:P.underlying t=some .bool)(hx:qh fr x=some (.bool a))(hy:qh fr y=some (.bool b)):qE P ro o fr (.bool (!(a == b))):=ajM ho hx hy rfl rfl fun _=>agl ht
theorem ajN{b:Builtin}{ars:Array Operand}{ts:Array TypeId}{vs:List Value}{s:Sem Value}(ho:o.op= .call {callee:= .builtin b,args:=ars,argTypes:=ts})(ha:pM fr ars.toList=some vs)(hb:∀ cs,builtin b ts o.type cs vs.toArray=(do pure (.value (<-s))))
  (hs:qe P ro s (fun _=>none)=some v):qE P ro o fr v:=by
 refine jI (s:=s) (fun O hρ=>?_) hs
 have hm:=ab0 hρ _ ha
 have:ars.map O=vs.toArray:=Array.toList_inj.1 (by rw[Array.toList_map,hm])
 unfold execOp;rw[ho]
 simp only[resolve,qN,qw,wu,invoke,this,hb]
theorem aku{ars:Array Operand}{ts:Array TypeId}{k:IntKind}{a b:Int}(ho:o.op= .call {callee:= .builtin .min,args:=ars,argTypes:=ts})(ha:pM fr ars.toList=some [.int k a,.int k b]):qE P ro o fr (.int k (if b<a then b else a)):=
 ajN ho ha (fun _=>rfl) rfl
theorem akv{ars:Array Operand}{ts:Array TypeId}{k:IntKind}{a b:Int}(ho:o.op= .call {callee:= .builtin .max,args:=ars,argTypes:=ts})(ha:pM fr ars.toList=some [.int k a,.int k b]):qE P ro o fr (.int k (if a<b then b else a)):=
 ajN ho ha (fun _=>rfl) rfl
def nw(ro I:AH)(ob:Obj)(K:Nat->AH->Prop):Prop:= ∀b,ro b=none->I b=none->K b (upd I b ob)
theorem us{a:Addr}{K K':AH->Prop}:∀ {vs:List Value} {i:Nat} {I:AH},stN a K vs i I->(∀I,K I->K' I)->stN a K' vs i I:=by
 intro vs
 induction vs with
 | nil=>intro i I h hk;exact hk _ h
 | cons v r ih=>
  intro i I h hk
  obtain⟨h0,h1,c,e,fz,h2,h3,h4,h5⟩:=h
  exact⟨h0,h1,c,e,fz,h2,h3,h4,ih h5 hk⟩
theorem pT{ops:Array Oper}{K:Fr->AH->Prop}(h:K fr I):qI P B ro N ops (wk K) [] fr I:=⟨fr,qk.refl _,h⟩
theorem qc{next:Fr->AH->Prop}{Q:Exit->Fr->AH->Prop}(h:next fr I):aaC next Q .normal fr I:=h
theorem qR{next:Fr->AH->Prop}{Q:Exit->Fr->AH->Prop}{id:Nat}(h:Q (.exit id) fr I):aaC next Q (.exit id) fr I:=h
theorem qi{next:Fr->AH->Prop}{Q:Exit->Fr->AH->Prop}(h:Q .ret fr I):aaC next Q .ret fr I:=h
theorem wq{Q:Exit->Fr->AH->Prop}{id:Nat}(h:Q .normal fr I):act id Q .normal fr I:=h
theorem wK{Q:Exit->Fr->AH->Prop}{id:Nat}(h:Q .normal fr I):act id Q (.exit id) fr I:=by
 show(if id=id then Q .normal fr I else Q (.exit id) fr I);rw[if_pos rfl];exact h
theorem akw{Q:Exit->Fr->AH->Prop}{id id':Nat}(hne:(id' == id)=false)(h:Q (.exit id') fr I):act id Q (.exit id') fr I:=by
 show(if id'=id then Q .normal fr I else Q (.exit id') fr I);rw[if_neg (by simpa using hne)];exact h
theorem qQ{Q:Exit->Fr->AH->Prop}{id:Nat}(h:Q .ret fr I):act id Q .ret fr I:=h
theorem Lyb{ops:Array Oper}{K:Fr->AH->Prop}{rest:List Oper}{j t:Nat}{want b:Bool}(hg:o.guard=some (j,want))(hd:wl N o.dst=true)(ht:(ops[j]?).bind (·.dst)=some t)(hl:qP fr t=some (.bool b))(e:b=want)
  (h:wd P B ro o (qI P B ro N ops K rest) fr I):qI P B ro N ops K (o::rest) fr I:=Ly hg hd ht (by rw[hl,e]) h
theorem qq{ops:Array Oper}{K:Fr->AH->Prop}{l:List Oper}(m:Nat)(b:Bool){p:Prop}[Decidable p]{X Y:Prop}(hi:b=true↔p)(h:if p then X else Y)(J:Fr->AH->Prop)
  (hy:X->b=true->(∀fr I,J fr I->qI P B ro N ops K (l.drop m) fr I)->qI P B ro N ops K l fr I) (hn:Y->b=false->(∀fr I,J fr I->qI P B ro N ops K (l.drop m) fr I)->qI P B ro N ops K l fr I)
  (hk:∀ fr I,J fr I->qI P B ro N ops K (l.drop m) fr I):qI P B ro N ops K l fr I:=by
 cases e:b with
 | true=>rw[if_pos (hi.1 e)]at h;exact hy h e hk
 | false=>rw[if_neg (fun q=>by rw[hi.2 q]at e;cases e)]at h;exact hn h e hk
theorem qX{ops:Array Oper}{K:Fr->AH->Prop}{l:List Oper}(m:Nat)(b:Bool)(F:Fr)
  (hy:b=true->(∀fr,qk F fr->qI P B ro N ops K (l.drop m) fr I)->qI P B ro N ops K l fr I) (hn:b=false->(∀fr,qk F fr->qI P B ro N ops K (l.drop m) fr I)->qI P B ro N ops K l fr I)
  (hk:∀ fr,qk F fr->qI P B ro N ops K (l.drop m) fr I):qI P B ro N ops K l fr I:=by
 cases e:b with
 | true=>exact hy e hk
 | false=>exact hn e hk
theorem Lweak{ops:Array Oper}{K:Fr->AH->Prop}(hK:∀ {fr fr':Fr} {I:AH},qk fr fr'->K fr I->K fr' I):∀ {l:List Oper} {fr fr':Fr} {I:AH},qk fr fr'->qI P B ro N ops K l fr I->qI P B ro N ops K l fr' I:=by
 intro l
 induction l with
 | nil=>intro fr fr' I hl h;exact hK hl h
 | cons o r ih=>
  intro fr fr' I hl h
  have put:∀ (d:Option Tmp) (v:Value),qk (qB d v fr) (qB d v fr'):=by
   intro d v
   cases d with
   | none=>exact hl
   | some d=>
    intro i u hi
    rw[acH]at hi⊢
    by_cases e:i=d
    .rw[if_pos e]at hi ⊢;exact hi
    .rw[if_neg e]at hi ⊢;exact hl i u hi
  have ag:∀ {O},zC O fr'->zC O fr:=by
   intro O hρ x v hx
   refine hρ x v ?_
   cases x<;>first | exact hl _ _ hx | exact hx
  have ex:wd P B ro o (qI P B ro N ops K r) fr I->wd P B ro o (qI P B ro N ops K r) fr' I:=by
   intro hx O hρ
   refine qv _ (hx O (ag hρ)) ?_
   intro n I' hn
   cases n<;>first | exact ih (put _ _) hn | exact qb.mono hn fun v I h=>ih (put _ _) h | exact hn
  obtain⟨h0,h⟩:=h
  refine⟨h0,?_⟩
  split at h
  .exact ex h
  .obtain⟨t,v,h1,h2,h3⟩:=h
   exact⟨t,v,h1,hl _ _ h2,h3.imp (fun⟨a,b⟩=>⟨a,ex b⟩) (fun⟨a,b⟩=>⟨a,ih (put _ _) b⟩)⟩
theorem qt{b:Bool}{p:Prop}(h:b=true↔p):(!b)=true↔¬ p:=by
 cases b<;>simp at h⊢ <;>simp[h]
theorem jA{a b:Bool}{p q:Prop}(h:a=true↔p)(k:b=true↔q):(a && b)=true↔(p/\q):=by
 rw[Bool.and_eq_true,h,k]
theorem wt{a b:Bool}{p q:Prop}(h:a=true↔p)(k:b=true↔q):(a || b)=true↔(p\/q):=by
 rw[Bool.or_eq_true,h,k]
theorem jr{α:Type}{a:Option α}:a.isNone=true↔a=none:=by cases a<;>simp
theorem ael{a b:Bool}:(a == b)=true↔a=b:=by simp
end
end SL
namespace SL
open Go
section
variable{P:Program}{B:World}{ro:AH}{N:Nat}{o:Oper}{fr:Fr}{I:AH}{x y z:Operand}{v:Value}
theorem acM{α β:Type}(s:Sem α){f:α->Sem β}{τ:AH}{w:α}(h:qe P ro s τ=some w):qe P ro (Sem.bind s f) τ=qe P ro (f w) τ:=by
 induction s with
 | pure a=>cases h;rfl
 | load m a k ih=>
  simp only[qe]at h
  simp only[Sem.bind,qe]
  split at h
  .exact ih _ h
  .cases h
 | program k ih=>exact ih _ h
 | mark m k ih=>exact ih h
 | _=>cases h
theorem evb{b c:Bool}(e:b=c)(h:qh fr x=some (.bool b):=by rfl):qh fr x=some (.bool c):=by rw[h,e]
theorem ixL{s:Sl}{a:Addr}{fr:Fr}{x:Operand}(h:qh fr x=some (Sl.v s))(ha:s.a=some a):qh fr x=some (.slice (some a) s.len s.cap):=by rw[h,<-ha];rfl
theorem qr{ops:Array Oper}{K:Fr->AH->Prop}{rest:List Oper}{u:Value}{j t:Nat}{want b:Bool}(he:qE P ro o fr u)(hg:o.guard=some (j,want))(hd:wl N o.dst=true)(ht:(ops[j]?).bind (·.dst)=some t)(hl:qP fr t=some (.bool b))(e:b=want)
  (h:qI P B ro N ops K rest (qB o.dst u fr) I):qI P B ro N ops K (o::rest) fr I:=Lyp he hg hd ht (by rw[hl,e]) h
theorem Lfr{ops:Array Oper}{K:Fr->AH->Prop}{rest:List Oper}{fr':Fr}(hl:qk fr' fr)(h:qI P B ro N ops (wk K) rest fr' I):qI P B ro N ops (wk K) rest fr I:=
 Lweak (fun hl ⟨f0,h1,h2⟩=>⟨f0,fun i v e=>hl i v (h1 i v e),h2⟩) hl h
theorem abd{K:Fr->AH->Prop}{s t:TypeId}{u:Value}(ho:o.op= .convert s t x)(hx:qh fr x=some u)(h:awp P ro (convert s t u) (fun v I=>K (qB o.dst v fr) I) I):wd P B ro o K fr I:=
 X_sem (fun O hρ=>by unfold execOp;rw[ho];simp only[hρ _ _ hx]) h
theorem af6{K:Fr->AH->Prop}{t:TypeId}{u w:Value}{ok:Bool}(ho:o.op= .lookup t x y ok)(hx:qh fr x=some u)(hy:qh fr y=some w)(h:awp P ro (Instr.lookup t u w ok) (fun v I=>K (qB o.dst v fr) I) I):wd P B ro o K fr I:=
 X_sem (fun O hρ=>by unfold execOp;rw[ho];simp only[hρ _ _ hx,hρ _ _ hy]) h
theorem ajO{K:Fr->AH->Prop}{t:TypeId}{u:Value}(ho:o.op= .range t x)(hx:qh fr x=some u)(h:awp P ro (Instr.range t u) (fun v I=>K (qB o.dst v fr) I) I):wd P B ro o K fr I:=
 X_sem (fun O hρ=>by unfold execOp;rw[ho];simp only[hρ _ _ hx]) h
theorem ajP{K:Fr->AH->Prop}{t:TypeId}{u:Value}{b:Bool}(ho:o.op= .next x b)(ht:o.type=t)(hx:qh fr x=some u)(h:awp P ro (Instr.next u b t) (fun v I=>K (qB o.dst v fr) I) I):wd P B ro o K fr I:=
 X_sem (fun O hρ=>by unfold execOp;rw[ho];simp only[hρ _ _ hx,ht]) h
theorem ak6{K:Fr->AH->Prop}{u:Value}(ho:o.op= .entry x)(hx:qh fr x=some u)(h:awp P ro (Instr.entry u) (fun v I=>K (qB o.dst v fr) I) I):wd P B ro o K fr I:=
 X_sem (fun O hρ=>by unfold execOp;rw[ho];simp only[hρ _ _ hx]) h
theorem af7{K:Fr->AH->Prop}{t:TypeId}{u w q:Value}(ho:o.op= .mapUpdate t x y z\/o.op= .insert t x y z)(hx:qh fr x=some u)(hy:qh fr y=some w)(hz:qh fr z=some q)(h:awp P ro (Instr.mapUpdate t u w q) (fun _ I=>K (qB o.dst undef fr) I) I):wd P B ro o K fr I:=
 X_semU (fun O hρ=>by unfold execOp;rcases ho with ho | ho<;>rw[ho]<;>simp only[hρ _ _ hx,hρ _ _ hy,hρ _ _ hz]) h
def Sep(ro I:AH):Prop:= ∀b o,I b=some o->ro b=none
theorem Own.sep{B:World}{φ:AH}{w:World}(h:Own B ro φ I w):Sep ro I:=fun b o e=>(h.own b o e).2.2
theorem qb.of_sep{f:FuncId}{args:Array Value}{Q:Value->AH->Prop}(h:Sep ro I->qb P B ro f args I Q):qb P B ro f args I Q:=fun φ w ho=>h ho.sep φ w ho
theorem qb.monoS{f:FuncId}{args:Array Value}{Q Q':Value->AH->Prop}(h:qb P B ro f args I Q)(hq:∀ v I,Sep ro I->Q v I->Q' v I):qb P B ro f args I Q':=
 fun φ w ho=>(h φ w ho).mono fun _ _ ⟨v,I',e,q,o⟩=>⟨v,I',e,hq _ _ o.sep q,o⟩
theorem jP{G:Prop}(b:Bool){p:Prop}[Decidable p]{X Y:Prop}(hi:b=true↔p)(h:if p then X else Y)(hy:X->b=true->G)(hn:Y->b=false->G):G:=by
 cases e:b with
 | true=>rw[if_pos (hi.1 e)]at h;exact hy h e
 | false=>rw[if_neg (fun q=>by rw[hi.2 q]at e;cases e)]at h;exact hn h e
theorem Dpy{ops:Array Oper}{cl:Nat->Nat}{i j t:Nat}{want b:Bool}{rest:List Nat}{K:Fr->AH->Prop}{u:Value}(ho':yO ops.toList i=some o)(hc:cl i=0)(hg:o.guard=some (j,want))(ht:(ops[j]?).bind (·.dst)=some t)(hl:qP fr t=some (.bool b))(e:b=want)(hd:wl N o.dst=true)(he:qE P ro o fr u)
  (h:qT P B ro N ops cl K rest (qB o.dst u fr) I):qT P B ro N ops cl K (i::rest) fr I:=by
 have ho:=jM ho'
 unfold qT D1;rw[ho];dsimp only;rw[hc]
 exact⟨hd,u,by unfold zr;rw[hg];exact⟨t,_,ht,hl,.inl ⟨by rw[e],he⟩⟩,h⟩
theorem Dry{ops:Array Oper}{cl:Nat->Nat}{i j t:Nat}{want b:Bool}{rest:List Nat}{K:Fr->AH->Prop}{u:Value}(ho':yO ops.toList i=some o)(hc:cl i=3)(hg:o.guard=some (j,want))(ht:(ops[j]?).bind (·.dst)=some t)(hl:qP fr t=some (.bool b))(e:b=want)(hd:wl N o.dst=true)(he:ka P ro I o fr u)
  (h:qT P B ro N ops cl K rest (qB o.dst u fr) I):qT P B ro N ops cl K (i::rest) fr I:=by
 have ho:=jM ho'
 unfold qT D1;rw[ho];dsimp only;rw[hc]
 exact⟨hd,u,by unfold zr;rw[hg];exact⟨t,_,ht,hl,.inl ⟨by rw[e],he⟩⟩,h⟩
theorem Drn{ops:Array Oper}{cl:Nat->Nat}{i j t:Nat}{want:Bool}{v:Value}{rest:List Nat}{K:Fr->AH->Prop}(ho':yO ops.toList i=some o)(hc:cl i=3)(hg:o.guard=some (j,want))(ht:(ops[j]?).bind (·.dst)=some t)(hl:qP fr t=some v)(hv:v= .bool (!want)\/v=undef)(hd:wl N o.dst=true)
  (h:qT P B ro N ops cl K rest (qB o.dst undef fr) I):qT P B ro N ops cl K (i::rest) fr I:=by
 have ho:=jM ho'
 unfold qT D1;rw[ho];dsimp only;rw[hc]
 refine⟨hd,undef,?_,h⟩
 unfold zr;rw[hg]
 refine⟨t,_,ht,hl,.inr ⟨?_,rfl⟩⟩
 rcases hv with rfl | rfl
 .cases want<;>simp
 .simp[undef]
theorem vb{t:TypeId}{d:TypeDesc}{a:Addr}(ho:o.op= .load t x)(ht:P.underlying t=some d)(hd:po d=false)(hx:qh fr x=some (.pointer (some a)))(hc:qa ro I a=some v):ka P ro I o fr v:=by
 intro O hρ
 have e:execOp O o=(do pure (.value (<-loadVar t a))):=by unfold execOp;rw[ho];simp only[hρ _ _ hx];rfl
 rw[e]
 show qe P ro (Sem.bind (loadVar t a) _) I=_
 unfold loadVar
 show qe P ro (Sem.bind (Sem.bind (isAgg t) _) _) I=_
 rw[bind_assoc',uc ht,hd]
 show qe P ro (Sem.load .plain a _) I=_
 simp only[qe,hc]
 rfl
theorem abR{t:TypeId}{d:TypeDesc}{a:Addr}{vs:List Value}{zv:Value}{b:Nat}(ho:o.op= .load t x)(ht:P.underlying t=some d)(hd:po d=true)(hz:qp P t zv vs.length b)(hx:qh fr x=some (.pointer (some a)))
  (hc:qj ro I a 0 vs):ka P ro I o fr (.agg vs.toArray):=by
 intro O hρ
 have e:execOp O o=(do pure (.value (<-loadVar t a))):=by unfold execOp;rw[ho];simp only[hρ _ _ hx];rfl
 rw[e]
 show qe P ro (Sem.bind (loadVar t a) _) I=_
 unfold loadVar
 show qe P ro (Sem.bind (Sem.bind (isAgg t) _) _) I=_
 rw[bind_assoc',uc ht,hd]
 show qe P ro (Sem.bind (Sem.bind (sizeOf t) _) _) I=_
 rw[bind_assoc',yh hz]
 show qe P ro (Sem.bind (Sem.bind (loadCellsFrom a 0 vs.length #[]) _) _) I=_
 rw[bind_assoc',acM _ (uI (P:=P) vs 0 #[] hc)]
 simp[qN,wu,qe]
theorem Dpn{ops:Array Oper}{cl:Nat->Nat}{i j t:Nat}{want:Bool}{v:Value}{rest:List Nat}{K:Fr->AH->Prop}(ho':yO ops.toList i=some o)(hc:cl i=0)(hg:o.guard=some (j,want))(ht:(ops[j]?).bind (·.dst)=some t)(hl:qP fr t=some v)(hv:v= .bool (!want)\/v=undef)(hd:wl N o.dst=true)
  (h:qT P B ro N ops cl K rest (qB o.dst undef fr) I):qT P B ro N ops cl K (i::rest) fr I:=by
 have ho:=jM ho'
 unfold qT D1;rw[ho];dsimp only;rw[hc]
 refine⟨hd,undef,?_,h⟩
 unfold zr;rw[hg]
 refine⟨t,_,ht,hl,.inr ⟨?_,rfl⟩⟩
 rcases hv with rfl | rfl
 .cases want<;>simp
 .simp[undef]
theorem Dc{ops:Array Oper}{cl:Nat->Nat}{i:Nat}{rest:List Nat}{K:Fr->AH->Prop}(ho':yO ops.toList i=some o)(hc:cl i=1)(hg:o.guard=none)(hd:wl N o.dst=true)(he:∃ G,ul P ro o fr G)
  (h:wd P B ro o (qT P B ro N ops cl K rest) fr I):qT P B ro N ops cl K (i::rest) fr I:=by
 have ho:=jM ho'
 obtain⟨G,he⟩:=he
 unfold qT D1;rw[ho];dsimp only;rw[hc]
 exact⟨hd,some G,by unfold xQ;rw[hg];exact⟨_,rfl,he⟩,(he _ (jy fr) _ I).1 (h _ (jy fr))⟩
theorem Dgy{ops:Array Oper}{cl:Nat->Nat}{i j t:Nat}{want b:Bool}{rest:List Nat}{K:Fr->AH->Prop}(ho':yO ops.toList i=some o)(hc:cl i=2)(hg:o.guard=some (j,want))(ht:(ops[j]?).bind (·.dst)=some t)(hl:qP fr t=some (.bool b))(e:b=want)(hd:wl N o.dst=true)
  (h:wd P B ro o (qT P B ro N ops cl K rest) fr I):qT P B ro N ops cl K (i::rest) fr I:=by
 have ho:=jM ho'
 unfold qT D1;rw[ho];dsimp only;rw[hc]
 refine⟨hd,?_⟩;rw[hg];exact⟨t,_,ht,hl,.inl ⟨by rw[e],h⟩⟩
theorem Dgn{ops:Array Oper}{cl:Nat->Nat}{i j t:Nat}{want:Bool}{v:Value}{rest:List Nat}{K:Fr->AH->Prop}(ho':yO ops.toList i=some o)(hc:cl i=2)(hg:o.guard=some (j,want))(ht:(ops[j]?).bind (·.dst)=some t)(hl:qP fr t=some v)(hv:v= .bool (!want)\/v=undef)(hd:wl N o.dst=true)
  (h:qT P B ro N ops cl K rest (qB o.dst undef fr) I):qT P B ro N ops cl K (i::rest) fr I:=by
 have ho:=jM ho'
 unfold qT D1;rw[ho];dsimp only;rw[hc]
 refine⟨hd,?_⟩;rw[hg]
 refine⟨t,_,ht,hl,.inr ⟨?_,h⟩⟩
 rcases hv with rfl | rfl
 .cases want<;>simp
 .simp[undef]
def af8(P:Program)(ro:AH)(fr:Fr)(I:AH)(r:ResultVar)(v:Value):Prop:=
 ∀tmps:Array Value,(∀i u,qP fr i=some u->tmps[i]?=some u)->qe P ro (match r with | .tmp t=>pure (tmps.getD t undef) | .cell a t=>do loadVar t (<-asAddr (tmps.getD a undef))) I=some v
def aaH(P:Program)(ro:AH)(fr:Fr)(I:AH):List ResultVar->List Value->Prop
 | [],[]=>True
 | r::rs,v::vs=>af8 P ro fr I r v/\aaH P ro fr I rs vs
 | _,_=>False
theorem jQ:aaH P ro fr I [] []:=trivial
theorem wS{r:ResultVar}{rs:List ResultVar}{v:Value}{vs:List Value}(h:af8 P ro fr I r v)(hs:aaH P ro fr I rs vs):aaH P ro fr I (r::rs) (v::vs):=⟨h,hs⟩
theorem aaW{t:Nat}(h:qP fr t=some v):af8 P ro fr I (.tmp t) v:=by
 intro tmps ht
 simp[Array.getD_eq_getD_getElem?,ht t v h,qN,qe]
theorem jR{a:Nat}{t:TypeId}{d:TypeDesc}{ad:Addr}{vs:List Value}{zv:Value}{b:Nat}(h:qP fr a=some (.pointer (some ad)))(ht:P.underlying t=some d)(hd:po d=true)(hz:qp P t zv vs.length b)(hc:qj ro I ad 0 vs):af8 P ro fr I (.cell a t) (.agg vs.toArray):=by
 intro tmps hh
 have e:tmps.getD a undef= .pointer (some ad):=by simp[Array.getD_eq_getD_getElem?,hh a _ h]
 dsimp only
 rw[e]
 show qe P ro (loadVar t ad) I=_
 unfold loadVar
 show qe P ro (Sem.bind (isAgg t) _) _=_
 rw[uc ht,hd]
 show qe P ro (Sem.bind (sizeOf t) _) _=_
 rw[yh hz]
 have:=uI (P:=P) vs 0 #[] hc
 show qe P ro (Sem.bind (loadCellsFrom ad 0 vs.length #[]) fun cs=>Sem.pure (Value.agg cs)) _=_
 rw[acM _ this]
 simp[qe]
theorem ajQ{fn:Func}{R:Value->AH->Prop}{rs:List ResultVar}{v:Value}(hr:fn.results=rs.toArray)(h:aaH P ro fr I rs [v])(hR:R v I):
  ∃v,(∀tmps:Array Value,(∀i u,qP fr i=some u->tmps[i]?=some u)->qe P ro (results fn tmps) I=some v)/\R v I:=by
 refine⟨v,fun tmps ht=>?_,hR⟩
 exact results_of hr h tmps ht
where
 map_of {β:Type}:∀ (rs:List ResultVar) (vs:List Value) (f:List Value->Sem β),aaH P ro fr I rs vs->∀ tmps:Array Value,(∀i u,qP fr i=some u->tmps[i]?=some u)->
   qe P ro (Sem.bind (rs.mapM fun r=>match r with | .tmp t=>pure (tmps.getD t undef) | .cell a t=>do loadVar t (<-asAddr (tmps.getD a undef))) f) I=qe P ro (f vs) I:=by
  intro rs
  induction rs with
  | nil=>
   intro vs f h tmps ht
   cases vs with
   | nil=>rfl
   | cons v vs=>exact h.elim
  | cons r rs ih=>
   intro vs f h tmps ht
   cases vs with
   | nil=>exact h.elim
   | cons v vs=>
    obtain⟨h1,h2⟩:=h
    rw[List.mapM_cons]
    show qe P ro (Sem.bind (Sem.bind _ _) f) I=_
    rw[bind_assoc',acM _ (h1 tmps ht)]
    show qe P ro (Sem.bind (Sem.bind _ _) f) I=_
    rw[bind_assoc',ih vs _ h2 tmps ht]
    rfl
 results_of {fn:Func} {rs:List ResultVar} {vs:List Value} (hr:fn.results=rs.toArray) (h:aaH P ro fr I rs vs) (tmps:Array Value) (ht:∀ i u,qP fr i=some u->tmps[i]?=some u):
   qe P ro (results fn tmps) I=some (if h:vs.toArray.size=1 then vs.toArray[0]else .tuple vs.toArray):=by
  unfold results
  rw[hr,Array.mapM_eq_mapM_toList,List.toList_toArray]
  show qe P ro (Sem.bind (Sem.bind _ _) _) I=_
  rw[bind_assoc']
  exact(map_of rs vs _ h tmps ht).trans rfl
theorem alJ{fn:Func}{R:Value->AH->Prop}{rs:List ResultVar}{v w:Value}{vs:List Value}(hr:fn.results=rs.toArray)(h:aaH P ro fr I rs (v::w::vs))(hR:R (.tuple (v::w::vs).toArray) I):
  ∃v,(∀tmps:Array Value,(∀i u,qP fr i=some u->tmps[i]?=some u)->qe P ro (results fn tmps) I=some v)/\R v I:=by
 refine⟨_,fun tmps ht=>?_,hR⟩
 refine(ajQ.results_of hr h tmps ht).trans ?_
 rw[dif_neg (by simp)]
theorem bR0{fn:Func}{R:Value->AH->Prop}(hr:fn.results= #[])(h:R (.tuple #[]) I):abc P ro fn R .ret fr I:=akq hr h
theorem bR1{fn:Func}{R:Value->AH->Prop}{a:Nat}{x:Value}(hr:fn.results= #[.tmp a])(ha:qP fr a=some x)(h:R x I):abc P ro fn R .ret fr I:=alG hr ha h
theorem bR2{fn:Func}{R:Value->AH->Prop}{a b:Nat}{x y:Value}(hr:fn.results= #[.tmp a,.tmp b])(ha:qP fr a=some x)(hb:qP fr b=some y)(h:R (.tuple #[x,y]) I):abc P ro fn R .ret fr I:=alH hr ha hb h
theorem bR3{fn:Func}{R:Value->AH->Prop}{a b c:Nat}{x y z:Value}(hr:fn.results= #[.tmp a,.tmp b,.tmp c])(ha:qP fr a=some x)(hb:qP fr b=some y)(hc:qP fr c=some z)(h:R (.tuple #[x,y,z]) I):abc P ro fn R .ret fr I:=alI hr ha hb hc h
theorem ab2{fn:Func}{R:Value->AH->Prop}{rs:List ResultVar}{v:Value}(hr:fn.results=rs.toArray)(h:aaH P ro fr I rs [v])(hR:R v I):abc P ro fn R .ret fr I:=ajQ hr h hR
theorem bRM{fn:Func}{R:Value->AH->Prop}{rs:List ResultVar}{v w:Value}{vs:List Value}(hr:fn.results=rs.toArray)(h:aaH P ro fr I rs (v::w::vs))(hR:R (.tuple (v::w::vs).toArray) I):abc P ro fn R .ret fr I:=alJ hr h hR
theorem bN0{fn:Func}{R:Value->AH->Prop}(hr:fn.results= #[])(h:R (.tuple #[]) I):abc P ro fn R .normal fr I:=akq hr h
def akx(str:ByteArray)(e:TypeId)(n:Nat):Nat:=(Question.appendCap str.size 0 e).cut n
def ae3(str:ByteArray)(e:TypeId)(n:Nat):Array Value:=(str.data.map fun(b:UInt8)=>Value.int .u8 (b.toNat:Int))++Array.replicate (akx str e n - str.size) (Value.int .u8 0)
theorem afy(τ:AH)(b:Nat)(u v:Obj):upd (upd τ b u) b v=upd τ b v:=by funext c;unfold upd;split<;>rfl
theorem agm(τ:AH)(b:Nat)(u:Obj):upd τ b u b=some u:=by unfold upd;rw[if_pos rfl]
theorem ahW{s d e:TypeId}{str:ByteArray}(ho:o.op= .convert s d x)(hs:P.underlying s=some .string)(hd:P.underlying d=some (.slice e))(he:P.underlying e=some (.int .u8))(hx:qh fr x=some (.string str)):∃ G,ul P ro o fr G:=by
 refine⟨fun n=>(adm (ae3 str e n).size 1 (.cells (ae3 str e n) e),fun b=> .slice (some ⟨b,0,none⟩) str.size (akx str e n)),fun O hρ Q I=>?_⟩
 have ex:execOp O o=(do pure (.value (<-convert s d (.string str)))):=by unfold execOp;rw[ho];simp only[hρ _ _ hx]
 rw[ex]
 unfold convert
 simp only[qw,bind_assoc']
 rw[qu hs,qu hd]
 simp only[bind_assoc']
 rw[qu he]
 simp only[bind_assoc']
 unfold Conv.stringToBytes
 simp only[qw,bind_assoc']
 show(∀n b,ro b=none->I b=none->∃ o',rd ro (upd I b (.cells (ae3 str e n) e)) b=some o'/\awp P ro _ Q (upd I b (.cells (ae3 str e n) e)))↔_
 have one:∀ n b,ro b=none->∀ o',rd ro (upd I b (.cells (ae3 str e n) e)) b=some o'↔o'= .cells (ae3 str e n) e:=fun n b hb o'=>by
  unfold rd;rw[hb];simp only[agm,Option.some.injEq];exact eq_comm
 constructor
 .intro h n b hb hs'
  obtain⟨o',h1,h2⟩:=h n b hb hs'
  obtain rfl:=(one n b hb o').1 h1
  obtain⟨_,o2,h3,h4⟩:=h2
  rw[agm]at h3
  cases h3
  rw[afy]at h4
  exact h4
 .intro h n b hb hs'
  refine⟨_,(one n b hb _).2 rfl,?_⟩
  refine⟨by decide,_,agm _ _ _,?_⟩
  rw[afy]
  exact h n b hb hs'
end
end SL
namespace SL
open Go
section
variable{P:Program}{B:World}{ro:AH}{N:Nat}{o:Oper}{fr:Fr}{I:AH}{x y z:Operand}{ops:Array Oper}{K:Fr->AH->Prop}{rest:List Oper}
theorem zp{u:Value}(h:qI P B ro N ops K rest (qB o.dst u fr) I)(he:qE P ro o fr u:=by first | exact vl rfl rfl | exact ahD rfl rfl | exact ahE rfl rfl rfl | exact ahJ rfl rfl rfl | exact ahF rfl rfl rfl | exact acK rfl rfl rfl | exact adR rfl rfl rfl | exact um rfl rfl | exact ahH rfl rfl rfl | exact agi rfl rfl rfl | exact ahI rfl rfl rfl | exact ahK rfl rfl rfl | exact ahG rfl rfl rfl | exact ahL rfl rfl rfl)(hg:o.guard=none:=by exact rfl)(hd:wl N o.dst=true:=by exact rfl):qI P B ro N ops K (o::rest) fr I:=Lp he hg hd h
theorem zq{cl:Nat->Nat}{i:Nat}{l:List Nat}{u:Value}(h:qT P B ro N ops cl K l (qB o.dst u fr) I)(ho':yO ops.toList i=some o:=by exact rfl)(hc:cl i=0:=by exact rfl)(hg:o.guard=none:=by exact rfl)(hd:wl N o.dst=true:=by exact rfl)(he:qE P ro o fr u:=by first | exact vl rfl rfl | exact ahD rfl rfl | exact ahE rfl rfl rfl | exact ahJ rfl rfl rfl | exact ahF rfl rfl rfl | exact acK rfl rfl rfl | exact adR rfl rfl rfl | exact um rfl rfl | exact ahH rfl rfl rfl | exact agi rfl rfl rfl | exact ahI rfl rfl rfl | exact ahK rfl rfl rfl | exact ahG rfl rfl rfl | exact ahL rfl rfl rfl):qT P B ro N ops cl K (i::l) fr I:=Dp ho' hc hg hd he h
theorem zn{j t:Nat}{want b c:Bool}(e:b=c)(h:qI P B ro N ops K rest (qB o.dst undef fr) I)(hg:o.guard=some (j,want):=by exact rfl)(hw:c= !want:=by exact rfl)(hd:wl N o.dst=true:=by exact rfl)(ht:(ops[j]?).bind (·.dst)=some t:=by exact rfl)(hl:qP fr t=some (.bool b):=by exact rfl):qI P B ro N ops K (o::rest) fr I:=Ln hg hd ht hl (.inl (by rw[e,hw])) h
theorem zy{j t:Nat}{want b:Bool}{u:Value}(e:b=want)(h:qI P B ro N ops K rest (qB o.dst u fr) I)(hg:o.guard=some (j,want):=by exact rfl)(hd:wl N o.dst=true:=by exact rfl)(ht:(ops[j]?).bind (·.dst)=some t:=by exact rfl)(hl:qP fr t=some (.bool b):=by exact rfl)(he:qE P ro o fr u:=by first | exact vl rfl rfl | exact ahD rfl rfl | exact ahE rfl rfl rfl | exact ahJ rfl rfl rfl | exact ahF rfl rfl rfl | exact acK rfl rfl rfl | exact adR rfl rfl rfl | exact um rfl rfl | exact ahH rfl rfl rfl | exact agi rfl rfl rfl | exact ahI rfl rfl rfl | exact ahK rfl rfl rfl | exact ahG rfl rfl rfl | exact ahL rfl rfl rfl):qI P B ro N ops K (o::rest) fr I:=qr he hg hd ht hl e h
theorem zl(h:wd P B ro o (qI P B ro N ops K rest) fr I)(hg:o.guard=none:=by exact rfl)(hd:wl N o.dst=true:=by exact rfl):qI P B ro N ops K (o::rest) fr I:=Ls hg hd h
theorem zm{u:Value}(he:qE P ro o fr u)(h:qI P B ro N ops K rest (qB o.dst u fr) I)(hg:o.guard=none:=by exact rfl)(hd:wl N o.dst=true:=by exact rfl):qI P B ro N ops K (o::rest) fr I:=Lp he hg hd h
theorem FL{l fr':Fr}(h:qk l fr':=by repeat first | exact qk.nil _ | refine qk.cons rfl ?_):qk l fr':=h
theorem Fe{l fr':Fr}{b c:Bool}(e:b=c)(h:b=c->qk l fr':=by intro e;repeat first | exact qk.nil _ | refine qk.cons rfl ?_ | refine qk.cons (by rw[e];rfl) ?_):qk l fr':=h e
theorem z3{id:Nat}{ops':Array Oper}{y:Code}{Q:Exit->Fr->AH->Prop}(h:qI P B ro N ops' (wk ((aaC (AW P B ro N y Q) Q) .normal)) ops'.toList fr I):AW P B ro N (.seq (.region id ops' false) y) Q fr I:=AW.seq (AW.reg h)
theorem z2{next:Fr->AH->Prop}{Q:Exit->Fr->AH->Prop}(h:next fr I):qI P B ro N ops (wk (aaC next Q .normal)) [] fr I:=pT (qc h)
theorem z4{id:Nat}{ops':Array Oper}{y:Code}{Q Q0:Exit->Fr->AH->Prop}(h:qI P B ro N ops' (wk ((aaC (AW P B ro N y Q) Q) .normal)) ops'.toList fr I):qI P B ro N ops (wk (aaC (AW P B ro N (.seq (.region id ops' false) y) Q) Q0 .normal)) [] fr I:=pT (qc (AW.seq (AW.reg h)))
theorem zL{α:Type}{enc:α->Value}{X:α->Prop}{t:TypeId}{d:TypeDesc}{a:Addr}(ht:P.underlying t=some d)(h:∃ v,qa ro I a=some (enc v)/\X v)(k:∀ v,X v->qI P B ro N ops K rest (qB o.dst (enc v) fr) I)(ho:o.op= .load t x:=by exact rfl)(hd:po d=false:=by exact rfl)(hx:qh fr x=some (.pointer (some a)):=by exact rfl)(hg:o.guard=none:=by exact rfl)(hdd:wl N o.dst=true:=by exact rfl):qI P B ro N ops K (o::rest) fr I:=by
 obtain⟨v,hc,h⟩:=h
 exact Ls hg hdd (qM ho ht hd hx hc (k v h))
theorem zN{X:Addr->Prop}{a:Option Addr}(h:∃ p,a=some p/\X p)(k:∀ p,X p->qI P B ro N ops K rest (qB o.dst (.pointer (some p)) fr) I)(ho:o.op= .nilCheck x:=by exact rfl)(hx:qh fr x=some (.pointer a):=by exact rfl)(hg:o.guard=none:=by exact rfl)(hdd:wl N o.dst=true:=by exact rfl):qI P B ro N ops K (o::rest) fr I:=by
 obtain⟨p,rfl,h⟩:=h
 exact Lp (wD ho hx) hg hdd (k p h)
theorem zA{ob:Obj}{mk:Nat->Value}{X:Nat->AH->Prop}(he:aaE P ro o fr ob mk)(h:nw ro I ob X)(k:∀ b,X b (upd I b ob)->qI P B ro N ops K rest (qB o.dst (mk b) fr) (upd I b ob))(hg:o.guard=none:=by exact rfl)(hdd:wl N o.dst=true:=by exact rfl):qI P B ro N ops K (o::rest) fr I:=Ls hg hdd (ajK he fun b h1 h2=>k b (h b h1 h2))
theorem zc{f:FuncId}{fn:Func}{ars:Array Operand}{ts:Array TypeId}{vs:List Value}{Q:Value->AH->Prop}(hf:P.funcs[f]?=some fn)(h:qb P B ro f vs.toArray I Q)(k:∀ v I,Q v I->qI P B ro N ops K rest (qB o.dst v fr) I)(ho:o.op= .call {callee:= .value (.func f),args:=ars,argTypes:=ts}:=by exact rfl)(hn:(fn.name == "runtime.NumGoroutine")=false:=by exact rfl)(hb:fn.body.isNone=false:=by exact rfl)(ha:pM fr ars.toList=some vs:=by exact rfl)(hg:o.guard=none:=by exact rfl)(hdd:wl N o.dst=true:=by exact rfl):qI P B ro N ops K (o::rest) fr I:=Ls hg hdd (qF ho hf hn hb ha (qb.mono h k))
theorem zs{X:AH->Prop}{t:TypeId}{a:Addr}{vs:List Value}{v zv:Value}{n b:Nat}(hz:qp P t zv n b)(h:stN a X vs 0 I)(k:∀ I,X I->qI P B ro N ops K rest (qB o.dst undef fr) I)(ho:o.op= .store t x y:=by exact rfl)(hx:qh fr x=some (.pointer (some a)):=by exact rfl)(hy:qh fr y=some v:=by exact rfl)(hv:v.cells.toList=vs:=by exact rfl)(hn:vs.length=n:=by exact rfl)(hg:o.guard=none:=by exact rfl)(hdd:wl N o.dst=true:=by exact rfl):qI P B ro N ops K (o::rest) fr I:=Ls hg hdd (aej ho hz hx hy hv hn (us h k))
theorem zf{s tz:TypeId}{f:Nat}{fs:Array Field}{fd:Field}{a:Addr}{zv:Value}{n b:Nat}(hs:P.underlying s=some (.struct fs))(hz:qp P tz zv n b)(k:qI P B ro N ops K rest (qB o.dst (.pointer (some (a.add fd.offset))) fr) I)(ho:o.op= .fieldAddr s x f:=by exact rfl)(hf:fs[f]?=some fd:=by exact rfl)(ht:tz=fd.type:=by exact rfl)(hn:n≠0:=by decide)(hx:qh fr x=some (.pointer (some a)):=by exact rfl)(hg:o.guard=none:=by exact rfl)(hdd:wl N o.dst=true:=by exact rfl):qI P B ro N ops K (o::rest) fr I:=Lp (qx ho hs hf (ht▸hz) hn hx) hg hdd k
theorem zg{cl:Nat->Nat}{i:Nat}{l:List Nat}{s tz:TypeId}{f:Nat}{fs:Array Field}{fd:Field}{a:Addr}{zv:Value}{n b:Nat}(hs:P.underlying s=some (.struct fs))(hz:qp P tz zv n b)(k:qT P B ro N ops cl K l (qB o.dst (.pointer (some (a.add fd.offset))) fr) I)(h1:yO ops.toList i=some o:=by exact rfl)(hc:cl i=0:=by exact rfl)(ho:o.op= .fieldAddr s x f:=by exact rfl)(hf:fs[f]?=some fd:=by exact rfl)(ht:tz=fd.type:=by exact rfl)(hn:n≠0:=by decide)(hx:qh fr x=some (.pointer (some a)):=by exact rfl)(hg:o.guard=none:=by exact rfl)(hdd:wl N o.dst=true:=by exact rfl):qT P B ro N ops cl K (i::l) fr I:=Dp h1 hc hg hdd (qx ho hs hf (ht▸hz) hn hx) k
theorem zk{b c:Bool}{u:Value}(e:b=c)(k:qI P B ro N ops K rest (qB o.dst u fr) I)(ho:o.op= .pick x y z:=by exact rfl)(hx:qh fr x=some (.bool b):=by exact rfl)(hu:qh fr (if c then y else z)=some u:=by exact rfl)(hg:o.guard=none:=by exact rfl)(hdd:wl N o.dst=true:=by exact rfl):qI P B ro N ops K (o::rest) fr I:=by
 subst e
 cases b
 .exact Lp (wx ho hx hu) hg hdd k
 .exact Lp (wa ho hx hu) hg hdd k
theorem zi{Q:Exit->Fr->AH->Prop}{c:Operand}{s t:Code}{p:Prop}[Decidable p]{X Y:Prop}(h:if p then X else Y)(ht:X->AW P B ro N s Q fr I)(hn:Y->AW P B ro N t Q fr I)(hc:qh fr c=some (.bool (decide p)):=by exact rfl):AW P B ro N (.cond c s t) Q fr I:=AW.iff hc decide_eq_true_iff h ht hn
theorem zj{Q:Exit->Fr->AH->Prop}{c:Operand}{s t:Code}{b:Bool}{X Y:Prop}(h:if b=true then X else Y)(ht:X->AW P B ro N s Q fr I)(hn:Y->AW P B ro N t Q fr I)(hc:qh fr c=some (.bool b):=by exact rfl):AW P B ro N (.cond c s t) Q fr I:=AW.iff hc Iff.rfl h ht hn
theorem zb{f:FuncId}{fn:Func}{c:Code}{args:List Value}{Q:Value->AH->Prop}{n:Nat}{X:Prop}(h:Sep ro I->X)(hf:P.funcs[f]?=some fn)(hn:fn.ntmps=n)(k:X->AW P B ro n c (abc P ro fn Q) (abn args 0) I)(hb:fn.body=some c:=by exact rfl)(hl:args.length<=n:=by simp):qb P B ro f args.toArray I Q:=qb.of_sep fun hs=>qb.of_body hf hb (by rw[hn];exact hl) (by rw[hn];exact k (h hs))
end
end SL
namespace SL
open Go Go.RowKit
def all(W:World):AH:=fun b=>W.heap[b]?
theorem aiZ{W:World}{a:Addr}{v:Value}(I:AH)(h:W.cell? a=some v):qa (all W) I a=some v:=by
 rw[cell?_eq]at h
 unfold qa rd all
 cases e:W.heap[a.block]? with
 | none=>rw[e]at h;cases h
 | some o=>rw[e]at h;exact h
theorem ai0{P:Program}{W:World}{f:FuncId}{args:Array Value}{Q:Value->Prop}(h:qb P W (all W) f args (fun _=>none) fun v _=>Q v):
  Calls P f args W fun e W'=>(∃v,e= .returned v/\Q v)/\Below W.heap.size W W':=by
 refine(h (fun _=>none) W ⟨rfl,rfl,rfl,fun _ _ e=>by(cases e),fun _ _ e=>by(cases e),fun _ _ e=>e⟩).mono ?_
 rintro e W' ⟨v,I',he,hq,ho⟩
 refine⟨⟨v,he,hq⟩,ho.os,ho.tape,ho.output,?_,fun k hk=>?_⟩
 .rcases Nat.eq_zero_or_pos W.heap.size with h0 | h0
  .rw[h0];exact Nat.zero_le _
  .have:=zJ (ho.ro (W.heap.size - 1) _ (by unfold all;exact Array.getElem?_eq_getElem (by omega)))
   omega
 .have e:=Array.getElem?_eq_getElem hk
  rw[e];exact ho.ro k _ e
theorem ai1{H:Type}{enc:TypeId×Value->H}{P:Program}{W:World}{t:TypeId}{fuel:Nat}{u:Value}{y:DataW H×List MemPlace}(ht:P.underlying t=some (.int .i64))
  (h:DataW.trod enc P W 0 (fun _=>true) true fuel t [u]=some y):∃ x:Int,u= .int .i64 x/\ -9223372036854775808<=x/\x<9223372036854775808:=by
 cases fuel with
 | zero=>cases h
 | succ n=>
  unfold DataW.trod at h
  rw[ht]at h
  cases u<;>simp at h
  rename_i k x
  refine⟨x,by rw[h.1.1],?_⟩
  have:=h.1.2
  simp[Lit.wf,IntKind.min,IntKind.max,IntKind.bits,IntKind.signed]at this
  omega