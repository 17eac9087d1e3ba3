import Derived.Laws.Strings
import Derived.IntWalk
import Derived.Test.YtomdigihapdhnaaGreatDoorXA
set_option linter.all false
set_option maxRecDepth 99999
set_option maxHeartbeats 0
open Go.IntKind(i64)
namespace Go.Proofs.YtomdigihapdhnaaGreatDoor
namespace SL
open Go
variable{ops:Array Oper}{b want:Bool}{Q:Exit->Fr->AH->Prop}{K:Fr->AH->Prop}{fn:Func}{rest:List Oper}{a i id j t:Nat}{cl:Nat->Nat}{mk:Nat->ZC}{ob:Obj}{c:Operand}{u x:ZC}{R:ZC->AH->Prop}
structure Sl where
 a:ZO
 len:Nat
 cap:Nat
def Sl.v(s:Sl):ZC:= .slice s.a s.len s.cap
def lfpD{S:Type}(R:S->AH->(S->AH->Prop)->Prop)(s:S)(I:AH):Prop:=
 ∀X:S->AH->Prop,(∀s I Y,(∀s I,Y s I->X s I)->R s I Y->X s I)->X s I
def lfpD.intro{S:Type}{R:S->AH->(S->AH->Prop)->Prop}{s:S}{I:AH}(h:R s I (lfpD R)):lfpD R s I:=
 fun X hX=>hX s I (lfpD R) (fun _ _ h=>h X hX) h
section
variable{P:Program}{B:ZB}{ro:AH}{N:Nat}{o:Oper}{fr:Fr}{I:AH}
def qK(P:Program)(B:ZB)(ro:AH)(N:Nat)(ops:Array Oper)(K:Fr->AH->Prop):List Oper->Fr->AH->Prop
 | [],fr,I=>K fr I
 | o::rest,fr,I=>ke P B ro N ops o (qK P B ro N ops K rest) fr I
def anh:∀ (n m:Nat),m+n=ops.size->∀ {fr:Fr} {I:AH},qK P B ro N ops K (ops.toList.drop m) fr I->ad5 P B ro N ops K (List.range' m n) fr I:=by
 intro n
 induction n with
 | zero=>
  intro m hm fr I h
  rw[List.drop_eq_nil_of_le j2]at h
  exact h
 | succ n ih=>
  intro m hm fr I h
  have hlt:m<ops.size:=by omega
  rw[List.drop_eq_getElem_cons (j4 hlt)]at h
  simp only[List.range'_succ,ad5]
  rw[Array.getElem?_eq_getElem hlt]
  dsimp only
  exact ke.mono (fun fr I h=>ih (m+1) z7 h) h
def wk(K:Fr->AH->Prop)(fr:Fr)(I:AH):Prop:= ∃fr0,qo fr0 fr/\K fr0 I
def AW.reg(h:qK P B ro N ops (wk (Q .normal)) ops.toList fr I):AW P B ro N (.region id ops false) Q fr I:=by
 have h':AW P B ro N (.region id ops false) (fun e=>wk (Q e)) fr I:=by
  refine AW.region ?_
  rw[List.range_eq_range']
  exact anh ops.size 0 z7 h
 intro φ w a ho hf
 refine wp_mono (h' φ w a ho hf) ?_
 rintro e a' w' ⟨fr',I',⟨fr0,h1,h2⟩,h3,h4⟩
 exact⟨fr0,I',h2,h3,h4.weaken h1⟩
def Ls(hg:o.guard=none)(hd:wl N o.dst=true)(h:wi P B ro o (qK P B ro N ops K rest) fr I):qK P B ro N ops K (o::rest) fr I:=by
 refine⟨hd,?_⟩;rw[hg];exact h
def Ly(hg:o.guard=some (j,want))(hd:wl N o.dst=true)(ht:(ops[j]?).bind (·.dst)=some t)(hl:look fr t=some (.bool want))
  (h:wi P B ro o (qK P B ro N ops K rest) fr I):qK P B ro N ops K (o::rest) fr I:=by
 refine⟨hd,?_⟩;rw[hg];exact⟨t,_,ht,hl,.inl ⟨rfl,h⟩⟩
def Ln{v:ZC}(hg:o.guard=some (j,want))(hd:wl N o.dst=true)(ht:(ops[j]?).bind (·.dst)=some t)(hl:look fr t=some v)
  (hv:v= .bool (!want)\/v=undef) (h:qK P B ro N ops K rest (qD o.dst undef fr) I):qK P B ro N ops K (o::rest) fr I:=by
 refine⟨hd,?_⟩;rw[hg]
 refine⟨t,_,ht,hl,.inr ⟨?_,h⟩⟩
 rcases hv with rfl | rfl
 .cases want<;>simp
 .simp[undef]
def Xp(he:qG P ro o fr u)(h:K (qD o.dst u fr) I):wi P B ro o K fr I:=fun O hρ=>(ad8 _ (he O hρ)).2 h
def Lp(he:qG P ro o fr u)(hg:o.guard=none)(hd:wl N o.dst=true)(h:qK P B ro N ops K rest (qD o.dst u fr) I):qK P B ro N ops K (o::rest) fr I:=
 Ls hg hd (Xp he h)
def Lyp(he:qG P ro o fr u)(hg:o.guard=some (j,want))(hd:wl N o.dst=true)(ht:(ops[j]?).bind (·.dst)=some t)(hl:look fr t=some (.bool want))
  (h:qK P B ro N ops K rest (qD o.dst u fr) I):qK P B ro N ops K (o::rest) fr I:=Ly hg hd ht hl (Xp he h)
def ur:List Oper->Nat->Option Oper
 | [],_=>none
 | o::_,0=>some o
 | _::r,i+1=>ur r i
def aaz{o:Oper}(h:ur ops.toList i=some o):ops[i]?=some o:=by
 have gen:∀ (l:List Oper) (i:Nat),ur l i=l[i]?:=by
  intro l
  induction l with
  | nil=>intro i;simp[ur]
  | cons o r ih=>intro i;cases i with | zero=>rfl | succ i=>simpa [ur]using ih i
 rw[gen]at h;simpa using h
def Dp{rest:List Nat}(ho':ur ops.toList i=some o)(hc:cl i=0)(hg:o.guard=none)(hd:wl N o.dst=true)(he:qG P ro o fr u)
  (h:qV P B ro N ops cl K rest (qD o.dst u fr) I):qV P B ro N ops cl K (i::rest) fr I:=by
 have ho:=aaz ho'
 unfold qV D1;rw[ho];dsimp only;rw[hc]
 exact⟨hd,u,by unfold km;rw[hg];exact he,h⟩
def Dr{rest:List Nat}(ho':ur ops.toList i=some o)(hc:cl i=3)(hg:o.guard=none)(hd:wl N o.dst=true)(he:yt P ro I o fr u)
  (h:qV P B ro N ops cl K rest (qD o.dst u fr) I):qV P B ro N ops cl K (i::rest) fr I:=by
 have ho:=aaz ho'
 unfold qV D1;rw[ho];dsimp only;rw[hc]
 exact⟨hd,u,by unfold km;rw[hg];exact he,h⟩
def adj.of_new(he:ad7 P ro o fr ob mk):adj P ro o fr fun _=>(ob,mk):=by
 intro O hρ Q I
 obtain⟨k,k1,k2⟩:=he O hρ
 rw[ajt _ k1]
 exact⟨fun h n b hb hs=>(ad8 _ (k2 b)).1 (h b hb hs),fun h b hb hs=>(ad8 _ (k2 b)).2 (h 0 b hb hs)⟩
def Da{rest:List Nat}(ho':ur ops.toList i=some o)(hc:cl i=1)(hg:o.guard=none)(hd:wl N o.dst=true)(he:ad7 P ro o fr ob mk)
  (h:∀ b,ro b=none->I b=none->qV P B ro N ops cl K rest (qD o.dst (mk b) fr) (upd I b ob)):qV P B ro N ops cl K (i::rest) fr I:=by
 have ho:=aaz ho'
 unfold qV D1;rw[ho];dsimp only;rw[hc]
 exact⟨hd,some _,by unfold pV;rw[hg];exact⟨_,rfl,adj.of_new he⟩,fun n b hb hs=>h b hb hs⟩
def Dg{rest:List Nat}(ho':ur ops.toList i=some o)(hc:cl i=2)(hg:o.guard=none)(hd:wl N o.dst=true)
  (h:wi P B ro o (qV P B ro N ops cl K rest) fr I):qV P B ro N ops cl K (i::rest) fr I:=by
 have ho:=aaz ho'
 unfold qV D1;rw[ho];dsimp only;rw[hc]
 refine⟨hd,?_⟩;rw[hg];exact h
def abK(I:AH):join I (fun _=>none)=I:=by
 funext b;unfold join;cases I b<;>rfl
def AW.drawn0(cl:Nat->Nat)(anc:List (Nat×Nat))(l:List Nat)(hm:P.follows .mixedOrders=true)
  (hc:(chk ops cl anc l && aii ops anc && full ops.size l && (l.length == ops.size))=true)
  (h:qV P B ro N ops cl (fun fr I=> ∃fr',wW fr' fr/\Q .normal fr' I) l fr I):AW P B ro N (.region id ops true) Q fr I:=by
 have:=AW.drawn (P:=P) (B:=B) (ro:=ro) (N:=N) (ops:=ops) (id:=id) (Q:=Q) (fr:=fr) (ψ:=fun _=>none) (I:=I) cl anc l hm (fun _ _ h=>by cases h) hc (by
  rw[abK]
  refine DOps_mono ?_ l h
  rintro fr I ⟨fr',h1,h2⟩;exact⟨fr',h1,fun _=>h2⟩)
 exact this
where
 DOps_mono {ops:Array Oper} {ro:AH} {cl:Nat->Nat} {K K':Fr->AH->Prop} (h:∀ fr I,K fr I->K' fr I):∀ (l:List Nat) {fr:Fr} {I:AH},qV P B ro N ops cl K l fr I->qV P B ro N ops cl K' l fr I:=by
  intro l
  induction l with
  | nil=>intro fr I hx;exact h _ _ hx
  | cons i r ih=>
   intro fr I hx
   unfold qV D1 at hx⊢
   split at hx
   .exact hx
   .split at hx
    .obtain⟨h0,u,h1,h2⟩:=hx;exact⟨h0,u,h1,ih h2⟩
    .obtain⟨h0,u,h1,h2⟩:=hx;exact⟨h0,u,h1,ih h2⟩
    .obtain⟨h0,F,h1,h2⟩:=hx;exact⟨h0,F,h1,h2.map fun v I hk=>ih hk⟩
    .exact hx.mono fun fr I=>ih
def jX(I:AH)(K:AH->AH->Prop):Prop:= ∃ψ τ,qL ψ τ/\I=join ψ τ/\K ψ τ
def AW.drawnL{K:AH->AH->Prop}(cl:Nat->Nat)(anc:List (Nat×Nat))(l:List Nat)(hm:P.follows .mixedOrders=true)(hl:jX I K)
  (hc:(chk ops cl anc l && aii ops anc && full ops.size l && (l.length == ops.size))=true)
  (h:∀ ψ τ,K ψ τ->qV P B (join ro ψ) N ops cl (fun fr I=> ∃fr',wW fr' fr/\(qL ψ I->Q .normal fr' (join ψ I))) l fr τ):AW P B ro N (.region id ops true) Q fr I:=by
 obtain⟨ψ,τ,hd,rfl,hk⟩:=hl
 exact AW.drawn cl anc l hm hd hc (h ψ τ hk)
def wG(h:K fr I):qV P B ro N ops cl (fun fr I=> ∃fr',wW fr' fr/\K fr' I) [] fr I:=⟨fr,wW.refl _,h⟩
def AW.iff{x y:Code}{p:Prop}[Decidable p]{X Y:Prop}(hc:qm fr c=some (.bool b))(hi:b=true↔p)(h:if p then X else Y)
  (ht:X->AW P B ro N x Q fr I) (hn:Y->AW P B ro N y Q fr I):AW P B ro N (.cond c x y) Q fr I:=by
 refine AW.cond hc (fun e=>ht ?_) (fun e=>hn ?_)
 .rw[mc (hi.1 e)]at h;exact h
 .rw[ma (fun q=>by rw[hi.2 q]at e;cases e)]at h;exact h
def AW.yes{x y:Code}(hc:qm fr c=some (.bool true))(h:AW P B ro N x Q fr I):AW P B ro N (.cond c x y) Q fr I:=AW.cond hc (fun _=>h) (fun e=>by cases e)
def AW.no{x y:Code}(hc:qm fr c=some (.bool false))(h:AW P B ro N y Q fr I):AW P B ro N (.cond c x y) Q fr I:=AW.cond hc (fun e=>by cases e) (fun _=>h)
def AW.seqJ{x y:Code}(J:Fr->AH->Prop)(hy:∀ fr I,J fr I->AW P B ro N y Q fr I)(hx:AW P B ro N x (adi J Q) fr I):AW P B ro N (.seq x y) Q fr I:=by
 refine AW.seq ?_
 intro φ w a ho hf
 refine wp_mono (hx φ w a ho hf) ?_
 rintro e a' w' ⟨fr',I',hq,ho',hf'⟩
 cases e with
 | normal=>exact⟨fr',I',hy _ _ hq,ho',hf'⟩
 | _=>exact⟨fr',I',hq,ho',hf'⟩
def agU{α β:Type}(f:α->β)(x:α):f <$> (Sem.pure x:Sem α)=Sem.pure (f x):=rfl
def avV(hr:fn.results= #[])(h:R (.tuple #[]) I):∃ v,(∀tmps:Array Value,(∀i u,look fr i=some u->tmps[i]?=some u)->qh P ro (results fn tmps) I=some v)/\R v I:=by
 refine⟨_,fun tmps ht=>?_,h⟩
 simp[results,hr,pure,bind,Sem.bind,agU,qh]
def avW(hr:fn.results= #[.tmp a])(ha:look fr a=some x)(h:R x I):∃ v,(∀tmps:Array Value,(∀i u,look fr i=some u->tmps[i]?=some u)->qh P ro (results fn tmps) I=some v)/\R v I:=by
 refine⟨_,fun tmps ht=>?_,h⟩
 have:=ht a x ha
 simp[results,hr,pure,bind,Sem.bind,agU,qh,mT,this]
def axl{b:Nat}{y:ZC}(hr:fn.results= #[.tmp a,.tmp b])(ha:look fr a=some x)(hb:look fr b=some y)(h:R (.tuple #[x,y]) I):
  ∃v,(∀tmps:Array Value,(∀i u,look fr i=some u->tmps[i]?=some u)->qh P ro (results fn tmps) I=some v)/\R v I:=by
 refine⟨_,fun tmps ht=>?_,h⟩
 have h1:=ht a x ha
 have h2:=ht b y hb
 simp[results,hr,pure,bind,Sem.bind,agU,qh,mT,h1,h2]
def axm{b c:Nat}{y z:ZC}(hr:fn.results= #[.tmp a,.tmp b,.tmp c])(ha:look fr a=some x)(hb:look fr b=some y)(hc:look fr c=some z)(h:R (.tuple #[x,y,z]) I):
  ∃v,(∀tmps:Array Value,(∀i u,look fr i=some u->tmps[i]?=some u)->qh P ro (results fn tmps) I=some v)/\R v I:=by
 refine⟨_,fun tmps ht=>?_,h⟩
 have h1:=ht a x ha
 have h2:=ht b y hb
 have h3:=ht c z hc
 simp[results,hr,pure,bind,Sem.bind,agU,qh,mT,h1,h2,h3]
end
end SL
namespace SL
open Go
variable{α β:Type}{ars:Array Operand}{ts:Array TypeId}{K:Fr->AH->Prop}{a b:Int}{j k:IntKind}{d:TypeDesc}{t u:TypeId}
section
variable{P:Program}{B:ZB}{ro:AH}{N:Nat}{o:Oper}{fr:Fr}{I:AH}{x y z:Operand}{v:ZC}
def wL(a:α)(f:α->Sem β):(Sem.pure a:Sem α).bind f=f a:=rfl
def qS(a:α):(pure a:Sem α)=Sem.pure a:=rfl
def qy(s:Sem α)(f:α->Sem β):(s >>= f)=s.bind f:=rfl
def yu(f:Program->Sem β):Sem.bind program f=Sem.program fun p=>f p:=rfl
def qF(t:TypeId)(f:TypeDesc->Sem β)(h:P.underlying t=some d){τ:AH}:qh P ro (Sem.bind (underlying t) f) τ=qh P ro (f d) τ:=by
 unfold underlying
 simp only[qy,yu]
 show qh P ro (Sem.bind (match P.underlying t with | some d=>pure d | none=>stuck "no such type") f) τ=_
 rw[h];try rfl
def aar{s:Sem Value}{u:ZC}(h:∀ O,vX O fr->execOp O o=(do pure (.value (<-s))))(hs:qh P ro s (fun _=>none)=some u):qG P ro o fr u:=by
 intro O hρ
 rw[h O hρ]
 exact aread_bind s hs
where
 aread_bind (s:Sem Value) {u:ZC} (hs:qh P ro s (fun _=>none)=some u):qh P ro (s.bind fun v=>Sem.pure (Next.value v)) (fun _=>none)=some (.value u):=by
  induction s with
  | pure a=>cases hs;rfl
  | load m a k ih=>
   simp only[qh]at hs
   simp only[Sem.bind,qh]
   split at hs
   .rename_i v hv;exact ih _ hs
   .cases hs
  | program k ih=>exact ih _ hs
  | mark m k ih=>exact ih hs
  | _=>cases hs
def X_sem{s:Sem Value}(h:∀ O,vX O fr->execOp O o=(do pure (.value (<-s))))(hs:awp P ro s (fun v I=>K (qD o.dst v fr) I) I):wi P B ro o K fr I:=by
 intro O hρ
 rw[h O hρ,vL]
 exact qk _ hs fun _ _ h=>h
def X_semU{s:Sem Unit}(h:∀ O,vX O fr->execOp O o=(do s;pure .skip))(hs:awp P ro s (fun _ I=>K (qD o.dst undef fr) I) I):wi P B ro o K fr I:=by
 intro O hρ
 rw[h O hρ,vL]
 exact qk _ hs fun _ _ h=>h
def jQ(ho:o.op= .move x)(hx:qm fr x=some v):qG P ro o fr v:=by
 intro O hρ;unfold execOp;rw[ho];simp only[hρ _ _ hx];rfl
def aij(ho:o.op= .assign x)(hx:qm fr x=some v):qG P ro o fr v:=by
 intro O hρ;unfold execOp;rw[ho];simp only[hρ _ _ hx];rfl
def alJ{vs:Array Value}{i:Nat}(ho:o.op= .extract x i)(hx:qm fr x=some (.tuple vs))(hv:vs[i]?=some v):qG P ro o fr v:=by
 refine aar (s:=Instr.extract (.tuple vs) i) (fun O hρ=>?_) (by unfold Instr.extract;simp only[hv];rfl)
 unfold execOp;rw[ho];simp only[hρ _ _ hx]
def aeG{op:BinOp}(ho:o.op= .binOp op t x y u)(hx:qm fr x=some (.int k a))(hy:qm fr y=some (.int k b))(hs:qh P ro (Go.binOp op t (.int k a) (.int k b)) (fun _=>none)=some v):qG P ro o fr v:=by
 refine aar (s:=do eqGuard op t x y (.int k a) (.int k b);Go.binOp op t (.int k a) (.int k b)) (fun O hρ=>?_) ?_
 .unfold execOp;rw[ho];simp only[hρ _ _ hx,hρ _ _ hy]
 .unfold eqGuard;cases op<;>exact hs
def aog(ho:o.op= .binOp .lss t x y u)(hx:qm fr x=some (.int k a))(hy:qm fr y=some (.int k b)):qG P ro o fr (.bool (decide (a<b))):=aeG ho hx hy (by simp[Go.binOp,Op.intCmp,qS,qh])
def aoh(ho:o.op= .binOp .leq t x y u)(hx:qm fr x=some (.int k a))(hy:qm fr y=some (.int k b)):qG P ro o fr (.bool (decide (a<=b))):=aeG ho hx hy (by simp[Go.binOp,Op.intCmp,qS,qh])
def alK(ho:o.op= .binOp .gtr t x y u)(hx:qm fr x=some (.int k a))(hy:qm fr y=some (.int k b)):qG P ro o fr (.bool (decide (b<a))):=aeG ho hx hy (by simp[Go.binOp,Op.intCmp,qS,qh])
def aoi(ho:o.op= .binOp .geq t x y u)(hx:qm fr x=some (.int k a))(hy:qm fr y=some (.int k b)):qG P ro o fr (.bool (decide (b<=a))):=aeG ho hx hy (by simp[Go.binOp,Op.intCmp,qS,qh])
def alL(ho:o.op= .binOp .eql t x y u)(hx:qm fr x=some (.int k a))(hy:qm fr y=some (.int k b)):qG P ro o fr (.bool (decide (a=b))):=aeG ho hx hy (by simp[Go.binOp,Op.intCmp,qS,qh];rfl)
def aqJ(ho:o.op= .binOp .neq t x y u)(hx:qm fr x=some (.int k a))(hy:qm fr y=some (.int k b)):qG P ro o fr (.bool (!decide (a=b))):=aeG ho hx hy (by simp[Go.binOp,Op.intCmp,qS,qh];rfl)
def aoj(ho:o.op= .binOp .add t x y u)(hx:qm fr x=some (.int k a))(hy:qm fr y=some (.int k b)):qG P ro o fr (.int k (k.wrap (a+b))):=aeG ho hx hy (by simp[Go.binOp,Op.intArith,qS,qh])
def aqK(ho:o.op= .binOp .sub t x y u)(hx:qm fr x=some (.int k a))(hy:qm fr y=some (.int k b)):qG P ro o fr (.int k (k.wrap (a - b))):=aeG ho hx hy (by simp[Go.binOp,Op.intArith,qS,qh])
def aqL(ho:o.op= .binOp .mul t x y u)(hx:qm fr x=some (.int k a))(hy:qm fr y=some (.int k b)):qG P ro o fr (.int k (k.wrap (a*b))):=aeG ho hx hy (by simp[Go.binOp,Op.intArith,qS,qh])
def auL(ho:o.op= .binOp .quo t x y u)(hx:qm fr x=some (.int k a))(hy:qm fr y=some (.int k b))(hb:b≠0):qG P ro o fr (.int k (k.wrap (a.tdiv b))):=aeG ho hx hy (by simp[Go.binOp,Op.intDiv,qS,qh,hb])
def awD(ho:o.op= .binOp .rem t x y u)(hx:qm fr x=some (.int k a))(hy:qm fr y=some (.int k b))(hb:b≠0):qG P ro o fr (.int k (a.tmod b)):=aeG ho hx hy (by simp[Go.binOp,Op.intDiv,qS,qh,hb])
def abY(k:IntKind)(a b:Int):Int:=k.wrap (BitVec.ofInt k.bits a &&& BitVec.ofInt k.bits b).toNat
def aaU(k:IntKind)(a b:Int):Int:=k.wrap (BitVec.ofInt k.bits a ||| BitVec.ofInt k.bits b).toNat
def awE(ho:o.op= .binOp .and t x y u)(hx:qm fr x=some (.int k a))(hy:qm fr y=some (.int k b)):qG P ro o fr (.int k (abY k a b)):=aeG ho hx hy (by simp[Go.binOp,Op.intBits,qS,qh,abY])
def avX(ho:o.op= .binOp .or t x y u)(hx:qm fr x=some (.int k a))(hy:qm fr y=some (.int k b)):qG P ro o fr (.int k (aaU k a b)):=aeG ho hx hy (by simp[Go.binOp,Op.intBits,qS,qh,aaU])
def binShift{op:BinOp}(hop:op= .shl\/op= .shr)(ho:o.op= .binOp op t x y u)(hx:qm fr x=some (.int k a))(hy:qm fr y=some (.int j b))(hs:qh P ro (Op.shift op k a j b) (fun _=>none)=some v):qG P ro o fr v:=by
 refine aar (s:=do eqGuard op t x y (.int k a) (.int j b);Go.binOp op t (.int k a) (.int j b)) (fun O hρ=>?_) ?_
 .unfold execOp;rw[ho];simp only[hρ _ _ hx,hρ _ _ hy]
 .rcases hop with rfl | rfl<;>exact hs
def awF(ho:o.op= .binOp .shl t x y u)(hx:qm fr x=some (.int k a))(hy:qm fr y=some (.int j b))(hb:0<=b):qG P ro o fr (.int k (k.wrap (a*2 ^ (min b.toNat k.bits)))):=
 binShift (.inl rfl) ho hx hy (by unfold Op.shift;rw[ma z7];try rfl)
def awG(ho:o.op= .binOp .shr t x y u)(hx:qm fr x=some (.int k a))(hy:qm fr y=some (.int j b))(hb:0<=b):qG P ro o fr (.int k (a.fdiv (2 ^ (min b.toNat k.bits)))):=
 binShift (.inr rfl) ho hx hy (by unfold Op.shift;rw[ma z7];try rfl)
def unS{op:UnOp}(ho:o.op= .unOp op t x)(hx:qm fr x=some v){u:ZC}(hs:qh P ro (Op.unary op v) (fun _=>none)=some u):qG P ro o fr u:=by
 refine aar (s:=Op.unary op v) (fun O hρ=>?_) hs
 unfold execOp;rw[ho];simp only[hρ _ _ hx]
def aqM{b:Bool}(ho:o.op= .unOp .not t x)(hx:qm fr x=some (.bool b)):qG P ro o fr (.bool (!b)):=unS ho hx rfl
def alM{s:TypeId}(ho:o.op= .convert s t x)(hx:qm fr x=some (.int j a))(hs:P.underlying s=some d)(ht:P.underlying t=some (.int k)):qG P ro o fr (.int k (k.wrap a)):=by
 refine aar (s:=convert s t (.int j a)) (fun O hρ=>?_) ?_
 .unfold execOp;rw[ho];simp only[hρ _ _ hx]
 .unfold convert;show qh P ro (Sem.bind (underlying s) _) _=_;rw[qF _ _ hs];show qh P ro (Sem.bind (underlying t) _) _=_;rw[qF _ _ ht];cases d<;>rfl
def pN{u:ZC}(ho:o.op= .pick x y z)(hx:qm fr x=some (.bool true))(hy:qm fr y=some u):qG P ro o fr u:=by
 intro O hρ;unfold execOp;rw[ho];simp only[hρ _ _ hx,hρ _ _ hy];rfl
def ux{u:ZC}(ho:o.op= .pick x y z)(hx:qm fr x=some (.bool false))(hz:qm fr z=some u):qG P ro o fr u:=by
 intro O hρ;unfold execOp;rw[ho];simp only[hρ _ _ hx,hρ _ _ hz];rfl
def aqN{a b:ZA}(h:a.toList=b.toList):a=b:=by
 rw[ByteArray.toList_eq,ByteArray.toList_eq]at h
 exact ByteArray.ext (Array.toList_inj.1 h)
def aok{op:BinOp}{a b:ZA}(ho:o.op= .binOp op t x y u)(hx:qm fr x=some (.string a))(hy:qm fr y=some (.string b))(hop:op≠ .shl/\op≠ .shr)(hs:qh P ro (Op.stringOp op a b) (fun _=>none)=some v):qG P ro o fr v:=by
 refine aar (s:=do eqGuard op t x y (.string a) (.string b);Go.binOp op t (.string a) (.string b)) (fun O hρ=>?_) ?_
 .unfold execOp;rw[ho];simp only[hρ _ _ hx,hρ _ _ hy]
 .unfold eqGuard;cases op<;>first | exact hs | exact mt rfl hop.1 | exact mt rfl hop.2
def eqS{a b:ZA}:(a.toList == b.toList)=decide (a=b):=by
 by_cases h:a=b
 .subst h;simp
 .rw[Lf h]
  cases e:(a.toList == b.toList)with
  | false=>rfl
  | true=>exact mt (aqN (j4 e)) h
def alN{a b:ZA}(ho:o.op= .binOp .eql t x y u)(hx:qm fr x=some (.string a))(hy:qm fr y=some (.string b)):qG P ro o fr (.bool (decide (a=b))):=aok ho hx hy y0 (by simp only[Op.stringOp,eqS];rfl)
def ajw{a b:ZA}(ho:o.op= .binOp .neq t x y u)(hx:qm fr x=some (.string a))(hy:qm fr y=some (.string b)):qG P ro o fr (.bool (!decide (a=b))):=aok ho hx hy y0 (by simp only[Op.stringOp,eqS];rfl)
def agV(a b:ZA):Bool:=Op.bytesLess a.toList b.toList
def avY{a b:ZA}(ho:o.op= .binOp .leq t x y u)(hx:qm fr x=some (.string a))(hy:qm fr y=some (.string b)):qG P ro o fr (.bool (agV a b || decide (a=b))):=aok ho hx hy y0 (by simp only[Op.stringOp,eqS];rfl)
def alO{a b:ZA}(ho:o.op= .binOp .add t x y u)(hx:qm fr x=some (.string a))(hy:qm fr y=some (.string b))(h:a.size+b.size<=9223372036854775807):qG P ro o fr (.string (a++b)):=
 aok ho hx hy y0 (by unfold Op.stringOp;dsimp only;rw[ma (by simp only[IntKind.max,IntKind.signed,IntKind.bits,if_true];omega)];rfl)
def abZ{a:ZA}(ho:o.op= .call {callee:= .builtin .len,args:=ars,argTypes:=ts})(ht:ts[0]?=some t)(hu:P.underlying t=some .string)(ha:ars= #[x])(hx:qm fr x=some (.string a)):qG P ro o fr (.int .i64 a.size):=by
 refine aar (s:=Builtin.len_ ts o.type #[.string a]) (fun O hρ=>?_) ?_
 .unfold execOp;rw[ho];subst ha;simp[resolve,invoke,builtin,hρ _ _ hx,qS,qy,wL]
 .unfold Builtin.len_;simp only[ht,qy];rw[show(#[Value.string a]:Array Value)[0]?=some (.string a)from rfl];dsimp only;rw[qF _ _ hu];try rfl
def qC{e:TypeId}{a:ZO}{n c:Nat}(ho:o.op= .call {callee:= .builtin .len,args:=ars,argTypes:=ts})(ht:ts[0]?=some t)(hu:P.underlying t=some (.slice e))(ha:ars= #[x])(hx:qm fr x=some (.slice a n c)):qG P ro o fr (.int .i64 n):=by
 refine aar (s:=Builtin.len_ ts o.type #[.slice a n c]) (fun O hρ=>?_) ?_
 .unfold execOp;rw[ho];subst ha;simp[resolve,invoke,builtin,hρ _ _ hx,qS,qy,wL]
 .unfold Builtin.len_;simp only[ht,qy];rw[show(#[Value.slice a n c]:Array Value)[0]?=some (.slice a n c)from rfl];dsimp only;rw[qF _ _ hu];try rfl
def avZ{a:ZA}{i:Int}{b:UInt8}(ho:o.op= .index t x y)(hu:P.underlying t=some .string)(hx:qm fr x=some (.string a))(hy:qm fr y=some (.int k i))(h0:0<=i)(hb:a[i.toNat]?=some b):qG P ro o fr (.int .u8 b.toNat):=by
 refine aar (s:=Instr.index t (.string a) (.int k i)) (fun O hρ=>?_) ?_
 .unfold execOp;rw[ho];simp only[hρ _ _ hx,hρ _ _ hy]
 .unfold Instr.index
  show qh P ro (Sem.bind (underlying t) _) _=_
  rw[qF _ _ hu]
  dsimp only
  rw[mc h0,hb];try rfl
end
end SL
namespace SL
open Go
variable{β:Type}{τ:AH}{a:Addr}{ars:Array Operand}{ts:Array TypeId}{K:Fr->AH->Prop}{fn:Func}{f:FuncId}{i n:Int}{vs:List Value}{b s:Nat}{mk:Nat->ZC}{ob:Obj}{d:TypeDesc}{e t:TypeId}{u zero zv:ZC}
section
variable{P:Program}{B:ZB}{ro:AH}{N:Nat}{o:Oper}{fr:Fr}{I:AH}{x y z:Operand}{v:ZC}
def aja(t:TypeId)(f:TypeInfo->Sem β){d:TypeInfo}(h:P.info? t=some d):qh P ro (Sem.bind (typeInfo t) f) τ=qh P ro (f d) τ:=by
 unfold typeInfo
 simp only[qy,yu]
 show qh P ro (Sem.bind (match P.info? t with | some i=>pure i | none=>stuck "no such type") f) τ=_
 rw[h];try rfl
def qx{f:TypeDesc->Sem β}(h:P.underlying t=some d){Q:β->AH->Prop}:awp P ro (Sem.bind (underlying t) f) Q I↔awp P ro (f d) Q I:=by
 unfold underlying
 simp only[qy,yu]
 show awp P ro (Sem.bind (match P.underlying t with | some d=>pure d | none=>stuck "no such type") f) Q I↔_
 rw[h];try rfl
def vY{f:TypeInfo->Sem β}{d:TypeInfo}(h:P.info? t=some d){Q:β->AH->Prop}:awp P ro (Sem.bind (typeInfo t) f) Q I↔awp P ro (f d) Q I:=by
 unfold typeInfo
 simp only[qy,yu]
 show awp P ro (Sem.bind (match P.info? t with | some i=>pure i | none=>stuck "no such type") f) Q I↔_
 rw[h];try rfl
def qp(P:Program)(t:TypeId)(zero:ZC)(size bytes:Nat):Prop:= ∃i,P.info? t=some i/\i.zero=some zero/\i.size=size/\i.bytes=bytes
def qp.of{size bytes:Nat}(h:(P.info? t).map (fun i=>(i.zero,i.size,i.bytes))=some (some zero,size,bytes)):qp P t zero size bytes:=by
 cases e:P.info? t with
 | none=>rw[e]at h;cases h
 | some i=>rw[e]at h;simp at h;exact⟨i,e,h.1,h.2.1,h.2.2⟩
def ab0(h:qp P t zv s b){f:ZC->Sem β}{Q:β->AH->Prop}:awp P ro (Sem.bind (zeroValue t) f) Q I↔awp P ro (f zv) Q I:=by
 obtain⟨i,h1,h2,_,_⟩:=h
 unfold zeroValue
 show awp P ro (Sem.bind (Sem.bind (typeInfo t) _) f) Q I↔_
 rw[show∀(g:TypeInfo->Sem Value),Sem.bind (Sem.bind (typeInfo t) g) f=Sem.bind (typeInfo t) fun i=>Sem.bind (g i) f from fun g=>bind_assoc' _ _ _]
 rw[vY h1,h2];try rfl
where
 bind_assoc' {α β γ:Type} (s:Sem α) (f:α->Sem β) (g:β->Sem γ):Sem.bind (Sem.bind s f) g=Sem.bind s fun a=>Sem.bind (f a) g:=by
  induction s with
  | pure a=>rfl
  | load m a k ih=>simp only[Sem.bind];congr;funext v;exact ih v
  | store m a v k ih=>simp only[Sem.bind];congr
  | new o k ih=>simp only[Sem.bind];congr;funext v;exact ih v
  | shape r k ih=>simp only[Sem.bind];congr;funext v;exact ih v
  | freeze a n k ih=>simp only[Sem.bind];congr
  | frozen a k ih=>simp only[Sem.bind];congr;funext v;exact ih v
  | getObj r k ih=>simp only[Sem.bind];congr;funext v;exact ih v
  | setObj r o k ih=>simp only[Sem.bind];congr
  | choose q k ih=>simp only[Sem.bind];congr;funext v;exact ih v
  | sys c k ih=>simp only[Sem.bind];congr;funext v;exact ih v
  | program k ih=>simp only[Sem.bind];congr;funext v;exact ih v
  | mark m k ih=>simp only[Sem.bind];congr
  | halt e=>rfl
def bind_assoc'{α γ:Type}(s:Sem α)(f:α->Sem β)(g:β->Sem γ):Sem.bind (Sem.bind s f) g=Sem.bind s fun a=>Sem.bind (f a) g:=ab0.bind_assoc' s f g
def aeH(h:qp P t zv s b){f:Nat->Sem β}{Q:β->AH->Prop}:awp P ro (Sem.bind (sizeOf t) f) Q I↔awp P ro (f s) Q I:=by
 obtain⟨i,h1,_,h3,_⟩:=h
 unfold sizeOf
 show awp P ro (Sem.bind (Sem.bind (typeInfo t) _) f) Q I↔_
 rw[bind_assoc',vY h1,<-h3];try rfl
def pt(h:qp P t zv s b){f:Nat->Sem β}:qh P ro (Sem.bind (sizeOf t) f) τ=qh P ro (f s) τ:=by
 obtain⟨i,h1,_,h3,_⟩:=h
 unfold sizeOf
 show qh P ro (Sem.bind (Sem.bind (typeInfo t) _) f) τ=_
 rw[bind_assoc',aja _ _ h1,<-h3];try rfl
def alP(h:qp P t zv s b){f:ZC->Sem β}:qh P ro (Sem.bind (zeroValue t) f) τ=qh P ro (f zv) τ:=by
 obtain⟨i,h1,h2,_,_⟩:=h
 unfold zeroValue
 show qh P ro (Sem.bind (Sem.bind (typeInfo t) _) f) τ=_
 rw[bind_assoc',aja _ _ h1,h2];try rfl
def uF:TypeDesc->Bool
 | .struct _=>true
 | .array _ _=>true
 | _=>false
def ani(h:P.underlying t=some d){f:Bool->Sem β}{Q:β->AH->Prop}:awp P ro (Sem.bind (isAgg t) f) Q I↔awp P ro (f (uF d)) Q I:=by
 unfold isAgg
 show awp P ro (Sem.bind (Sem.bind (underlying t) _) f) Q I↔_
 rw[bind_assoc',qx h];cases d<;>rfl
def aad(h:P.underlying t=some d){f:Bool->Sem β}:qh P ro (Sem.bind (isAgg t) f) τ=qh P ro (f (uF d)) τ:=by
 unfold isAgg
 show qh P ro (Sem.bind (Sem.bind (underlying t) _) f) τ=_
 rw[bind_assoc',qF _ _ h];cases d<;>rfl
@[simp] def ak7(a:Addr):a.add 0=a:=rfl
@[simp] def vq(b i n:Nat):(⟨b,i,none⟩:Addr).add n=⟨b,i+n,none⟩:=by
 unfold Addr.add;by_cases h:n=0<;>simp[h]
def kW(ho:o.op= .nilCheck x)(hx:qm fr x=some (.pointer (some a))):qG P ro o fr (.pointer (some a)):=by
 intro O hρ;unfold execOp;rw[ho];simp only[hρ _ _ hx];rfl
def qW{s:TypeId}{f:Nat}{fs:Array Field}{fd:Field}{n:Nat}(ho:o.op= .fieldAddr s x f)(hs:P.underlying s=some (.struct fs))(hf:fs[f]?=some fd)(hz:qp P fd.type zv n b)(hn:n≠0)
  (hx:qm fr x=some (.pointer (some a))):qG P ro o fr (.pointer (some (a.add fd.offset))):=by
 refine aar (s:=Instr.fieldAt s (.pointer (some a)) f) (fun O hρ=>?_) ?_
 .unfold execOp;rw[ho];simp only[hρ _ _ hx]
 .unfold Instr.fieldAt
  show qh P ro (Sem.bind (underlying s) _) _=_
  rw[qF _ _ hs];dsimp only;rw[hf];dsimp only[Instr.sureAddr]
  show qh P ro (Sem.bind (fieldPlace a fd) _) _=_
  unfold fieldPlace
  show qh P ro (Sem.bind (Sem.bind (sizeOf fd.type) _) _) _=_
  rw[bind_assoc',pt hz,ma hn];try rfl
def wO{n c:Nat}{k:IntKind}(ho:o.op= .indexAddr t x y)(ht:P.underlying t=some (.slice e))(hz:qp P e zv s b)
  (hx:qm fr x=some (.slice (some a) n c)) (hy:qm fr y=some (.int k i)) (h0:0<=i) (h1:i<n):qG P ro o fr (.pointer (some (a.add (i.toNat*s)))):=by
 refine aar (s:=Instr.indexAt t (.slice (some a) n c) (.int k i)) (fun O hρ=>?_) ?_
 .unfold execOp;rw[ho];simp only[hρ _ _ hx,hρ _ _ hy]
 .unfold Instr.indexAt
  show qh P ro (Sem.bind (underlying t) _) _=_
  rw[qF _ _ ht]
  simp only[qy,qS,wL]
  rw[qF _ _ ht,mc ⟨h0,h1⟩,pt hz];try rfl
def av0(ht:P.underlying t=some d)(hd:uF d=false){Q:ZC->AH->Prop}:awp P ro (loadVar t a) Q I↔∃ v,qa ro I a=some v/\Q v I:=by
 unfold loadVar
 show awp P ro (Sem.bind (isAgg t) _) Q I↔_
 rw[ani ht,hd];try rfl
def vc(ho:o.op= .load t x)(ht:P.underlying t=some d)(hd:uF d=false)(hx:qm fr x=some (.pointer (some a)))(hc:qa ro I a=some v)(h:K (qD o.dst v fr) I):wi P B ro o K fr I:=by
 refine X_sem (s:=loadVar t a) (fun O hρ=>?_) ((av0 ht hd).2 ⟨v,hc,h⟩)
 unfold execOp;rw[ho];simp only[hρ _ _ hx];rfl
def av1(ho:o.op= .load t x)(ht:P.underlying t=some d)(hd:uF d=false)(hx:qm fr x=some (.pointer (some a)))(hc:qa ro (fun _=>none) a=some v):qG P ro o fr v:=by
 refine aar (s:=loadVar t a) (fun O hρ=>?_) ?_
 .unfold execOp;rw[ho];simp only[hρ _ _ hx];rfl
 .unfold loadVar
  show qh P ro (Sem.bind (isAgg t) _) _=_
  rw[aad ht,hd]
  show qh P ro (Sem.load .plain a .pure) _=_
  simp only[qh,hc]
def qe(ro I:AH)(a:Addr):Nat->List Value->Prop
 | _,[]=>True
 | i,v::r=>qa ro I (a.add i)=some v/\qe ro I a (i+1) r
def jI{Q:Array Value->AH->Prop}:∀ (vs:List Value) (i:Nat) (acc:Array Value),qe ro I a i vs->Q (acc++vs.toArray) I->awp P ro (loadCellsFrom a i vs.length acc) Q I:=by
 intro vs
 induction vs with
 | nil=>intro i acc _ h;show Q acc I;simpa using h
 | cons v r ih=>
  intro i acc hc h
  obtain⟨h1,h2⟩:=hc
  show awp P ro (Sem.bind (load (a.add i)) _) Q I
  refine⟨v,h1,?_⟩
  exact ih (i+1) (acc.push v) h2 (j4 h)
def ad9:∀ (vs:List Value) (i:Nat) (acc:Array Value),qe ro I a i vs->qh P ro (loadCellsFrom a i vs.length acc) I=some (acc++vs.toArray):=by
 intro vs
 induction vs with
 | nil=>intro i acc _;show some acc=_;simp
 | cons v r ih=>
  intro i acc hc
  obtain⟨h1,h2⟩:=hc
  show qh P ro (Sem.load .plain (a.add i) _) I=_
  simp only[qh,h1]
  refine(ih (i+1) (acc.push v) h2).trans ?_
  simp
def wq(ho:o.op= .load t x)(ht:P.underlying t=some d)(hd:uF d=true)(hz:qp P t zv vs.length b)(hx:qm fr x=some (.pointer (some a)))
  (hc:qe ro I a 0 vs) (h:K (qD o.dst (.agg vs.toArray) fr) I):wi P B ro o K fr I:=by
 refine X_sem (s:=loadVar t a) (fun O hρ=>?_) ?_
 .unfold execOp;rw[ho];simp only[hρ _ _ hx];rfl
 .unfold loadVar
  show awp P ro (Sem.bind (isAgg t) _) _ I
  rw[ani ht,hd]
  show awp P ro (Sem.bind (sizeOf t) _) _ I
  rw[aeH hz]
  show awp P ro (Sem.bind (loadCellsFrom a 0 vs.length #[]) _) _ I
  refine(vL _ _).2 (jI vs 0 #[] hc ?_)
  show K (qD o.dst (.agg (#[]++vs.toArray)) fr) I
  simpa using h
def auM(ho:o.op= .load t x)(ht:P.underlying t=some d)(hd:uF d=true)(hz:qp P t zv vs.length b)(hx:qm fr x=some (.pointer (some a)))
  (hc:qe ro (fun _=>none) a 0 vs):qG P ro o fr (.agg vs.toArray):=by
 refine aar (s:=loadVar t a) (fun O hρ=>?_) ?_
 .unfold execOp;rw[ho];simp only[hρ _ _ hx];rfl
 .unfold loadVar
  show qh P ro (Sem.bind (isAgg t) _) _=_
  rw[aad ht,hd]
  show qh P ro (Sem.bind (sizeOf t) _) _=_
  rw[pt hz]
  have:=ad9 (P:=P) vs 0 #[] hc
  show qh P ro (Sem.bind (loadCellsFrom a 0 vs.length #[]) fun cs=>Sem.pure (Value.agg cs)) _=_
  generalize loadCellsFrom a 0 vs.length #[]=s at this
  have gen:∀ (s:Sem (Array Value)) {w:Array Value},qh P ro s (fun _=>none)=some w->qh P ro (Sem.bind s fun cs=>Sem.pure (Value.agg cs)) (fun _=>none)=some (.agg w):=by
   intro s
   induction s with
   | pure a=>intro w h;cases h;rfl
   | load m a k ih=>
    intro w h
    simp only[qh]at h
    simp only[Sem.bind,qh]
    split at h
    .exact ih _ h
    .cases h
   | program k ih=>intro w h;exact ih _ h
   | mark m k ih=>intro w h;exact ih h
   | _=>intro w h;cases h
  have:=gen s this
  simpa using this
def st1(I:AH)(a:Addr)(v:ZC)(K:AH->Prop):Prop:=a.spot=none/\∃ c e fz,I a.block=some (.cells c e fz)/\a.off<c.size/\¬ (fz.1<=a.off/\a.off<fz.2)/\K (upd I a.block (.cells (c.setIfInBounds a.off v) e fz))
def stN(a:Addr)(K:AH->Prop):List Value->Nat->AH->Prop
 | [],_,I=>K I
 | v::r,i,I=>qg v=true/\st1 I (a.add i) v (stN a K r (i+1))
def jY{Q:Unit->AH->Prop}:∀ (vs:List Value) (i:Nat) (I:AH),stN a (Q ()) vs i I->awp P ro (storeCells a vs i) Q I:=by
 intro vs
 induction vs with
 | nil=>intro i I h;exact h
 | cons v r ih=>
  intro i I h
  obtain⟨h0,h1,c,e,fz,h2,h3,h4,h5⟩:=h
  unfold storeCells
  exact⟨h0,h1,c,e,fz,h2,h3,h4,ih (i+1) _ h5⟩
def us{n:Nat}(ho:o.op= .store t x y)(hz:qp P t zv n b)(hx:qm fr x=some (.pointer (some a)))(hy:qm fr y=some v)(hv:v.cells.toList=vs)(hn:vs.length=n)
  (h:stN a (fun I=>K (qD o.dst undef fr) I) vs 0 I):wi P B ro o K fr I:=by
 refine X_semU (s:=storeVar t a v) (fun O hρ=>?_) ?_
 .unfold execOp;rw[ho];simp only[hρ _ _ hx,hρ _ _ hy];rfl
 .unfold storeVar
  show awp P ro (Sem.bind (sizeOf t) _) _ I
  rw[aeH hz,ma (by subst hv;subst hn;simp)]
  rw[hv]
  exact jY vs 0 I h
def akd(he:ad7 P ro o fr ob mk)(h:∀ b,ro b=none->I b=none->K (qD o.dst (mk b) fr) (upd I b ob)):wi P B ro o K fr I:=by
 intro O hρ
 obtain⟨k,k1,k2⟩:=he O hρ
 exact(ajt _ k1).2 fun b hb hs=>(ad8 _ (k2 b)).2 (h b hb hs)
def jJ(P:Program):Sem Value->Option (Obj×(Nat->Sem Value))
 | .new o k=>some (o,k)
 | .program k=>jJ P (k P)
 | .mark _ k=>jJ P k
 | _=>none
def afh{s:Sem Value}(h:∀ O,vX O fr->execOp O o=(do pure (.value (<-s))))(hs:∃ k,jJ P s=some (ob,k)/\∀ b,k b=Sem.pure (mk b)):ad7 P ro o fr ob mk:=by
 intro O hρ
 rw[h O hρ]
 obtain⟨k,h1,h2⟩:=hs
 exact⟨fun b=>(k b).bind fun v=>Sem.pure (.value v),go s h1,fun b=>by dsimp only;rw[h2];try rfl⟩
where
 go (s:Sem Value) {ob:Obj} {k:Nat->Sem Value} (h:jJ P s=some (ob,k)):akc P (s.bind fun v=>Sem.pure (.value v))=some (ob,fun b=>(k b).bind fun v=>Sem.pure (.value v)):=by
  induction s with
  | new o k' ih=>simp only[jJ,Option.some.injEq,Prod.mk.injEq]at h;obtain⟨rfl,rfl⟩:=h;rfl
  | program k' ih=>exact ih _ h
  | mark m k' ih=>exact ih h
  | _=>cases h
def ajx(h:qp P t zv s b){f:ZC->Sem Value}:jJ P (Sem.bind (zeroValue t) f)=jJ P (f zv):=by
 obtain⟨i,h1,h2,_,_⟩:=h
 unfold zeroValue typeInfo
 simp only[qy,yu,bind_assoc']
 show jJ P (Sem.bind (match P.info? t with | some i=>pure i | none=>stuck "no such type") _)=_
 rw[h1];simp only[qS,wL];rw[h2];try rfl
def alQ(h:P.underlying t=some d){f:TypeDesc->Sem Value}:jJ P (Sem.bind (underlying t) f)=jJ P (f d):=by
 unfold underlying
 simp only[qy,yu]
 show jJ P (Sem.bind (match P.underlying t with | some d=>pure d | none=>stuck "no such type") f)=_
 rw[h];try rfl
def anj{d:TypeInfo}(h:P.info? t=some d){f:TypeInfo->Sem Value}:jJ P (Sem.bind (typeInfo t) f)=jJ P (f d):=by
 unfold typeInfo
 simp only[qy,yu]
 show jJ P (Sem.bind (match P.info? t with | some d=>pure d | none=>stuck "no such type") f)=_
 rw[h];try rfl
def ank(h:qp P t zv s b){f:Nat->Sem Value}:jJ P (Sem.bind (sizeOf t) f)=jJ P (f s):=by
 obtain⟨i,h1,_,h3,_⟩:=h
 unfold sizeOf
 show jJ P (Sem.bind (Sem.bind (typeInfo t) _) f)=_
 rw[bind_assoc',anj h1,<-h3];try rfl
def qT{n:Nat}(ho:o.op= .alloc e)(hz:qp P e zv n b):ad7 P ro o fr (.cells zv.cells e) (fun b=> .pointer (some ⟨b,0,none⟩)):=by
 refine afh (s:=Instr.alloc e true (.tuple #[])) (fun O hρ=>?_) ⟨fun b=>Sem.pure (.pointer (some ⟨b,0,none⟩)),?_,fun b=>?_⟩
 .unfold execOp;rw[ho]
 .unfold Instr.alloc
  show jJ P (Sem.bind (zeroValue e) _)=_
  rw[ajx hz];try rfl
 .rfl
def wt(ho:o.op= .box e x)(hx:qm fr x=some u):ad7 P ro o fr (.cells u.cells e) (fun b=> .pointer (some ⟨b,0,none⟩)):=by
 refine afh (s:=Instr.box e u) (fun O hρ=>?_) ⟨fun b=>Sem.pure (.pointer (some ⟨b,0,none⟩)),?_,fun b=>?_⟩
 .unfold execOp;rw[ho];simp only[hρ _ _ hx]
 .rfl
 .rfl
def ahM(ho:o.op= .makeMap t none):ad7 P ro o fr (.map #[] 0) (fun b=> .map (some b)):=by
 refine afh (s:=Instr.makeMap t none) (fun O hρ=>?_) ⟨fun b=>Sem.pure (.map (some b)),?_,fun b=>?_⟩
 .unfold execOp;rw[ho];try rfl
 .rfl
 .rfl
def aaV(zv:ZC)(n:Nat):Array Value:=((List.range n).map (zv.cells[· %zv.cells.size]!)).toArray
def aoy(zv:ZC)(n:Nat):(Array.range n).map (zv.cells[· %zv.cells.size]!)=aaV zv n:=by
 apply Array.toList_inj.1
 simp[aaV]
def qY(h0: -9223372036854775808<=n)(h1:n<9223372036854775808):i64.wrap n=n:=by
 rw[IntKind.wrap_i64];omega
def auN{c:Int}(ho:o.op= .makeSlice t x y)(ht:P.underlying t=some (.slice e))(hz:qp P e zv s b)(hx:qm fr x=some (.int .i64 n))(hy:qm fr y=some (.int .i64 c))
  (h0:0<=n) (h1:n<=c) (h2:c<=281474976710656) (h3:b*c<=281474976710656):ad7 P ro o fr (.cells (aaV zv (c.toNat*s)) e) (fun b=> .slice (some ⟨b,0,none⟩) n.toNat c.toNat):=by
 have wn:i64.wrap n=n:=qY z7 z7
 have wc:i64.wrap c=c:=qY z7 z7
 refine afh (s:=Instr.makeSlice t (.int .i64 n) (.int .i64 c)) (fun O hρ=>?_) ⟨fun b=>Sem.pure (.slice (some ⟨b,0,none⟩) n.toNat c.toNat),?_,fun b=>?_⟩
 .unfold execOp;rw[ho];simp only[hρ _ _ hx,hρ _ _ hy]
 .unfold Instr.makeSlice
  show jJ P (Sem.bind (underlying t) _)=_
  rw[alQ ht]
  obtain⟨i,i1,i2,i3,i4⟩:=hz
  show jJ P (Sem.bind (typeInfo e) _)=_
  rw[anj i1]
  dsimp only
  rw[wn,wc,i4]
  rw[ma (by
   simp only[Bool.or_eq_true,mS]
   omega)]
  show jJ P (Sem.bind (askRoom _) _)=_
  have hroom:∀ (m:Nat) (f:Unit->Sem Value),jJ P (Sem.bind (askRoom m) f)=jJ P (f ()):=by
   intro m f;unfold askRoom;split<;>rfl
  rw[hroom]
  have hz':qp P e zv s b:=⟨i,i1,i2,i3,i4⟩
  show jJ P (Sem.bind (sizeOf e) _)=_
  rw[ank hz']
  by_cases hc:c.toNat*s=0
  .simp only[hc,if_true]
   show jJ P (Sem.bind (Sem.pure #[]) _)=_
   simp[aaV,newRow,newObj,qy,Sem.bind,jJ,qS]
  .simp only[ma hc]
   show jJ P (Sem.bind (zeroValue e) _)=_
   rw[ajx hz']
   show some (Obj.cells ((Array.range (c.toNat*s)).map (zv.cells[· %zv.cells.size]!)) e,_)=_
   rw[aoy]
   try rfl
 .rfl
def jZ(fr:Fr):List Operand->Option (List Value)
 | []=>some []
 | x::r=>match qm fr x,jZ fr r with
  | some v,some vs=>some (v::vs)
  | _,_=>none
def abq{O:Operand->ZC}(hρ:vX O fr):∀ (l:List Operand) {vs:List Value},jZ fr l=some vs->l.map O=vs:=by
 intro l
 induction l with
 | nil=>intro vs h;cases h;rfl
 | cons x r ih=>
  intro vs h
  unfold jZ at h
  split at h
  .rename_i v vs' h1 h2
   cases h
   rw[mF,hρ _ _ h1,ih h2]
  .cases h
def ahN{args:Array Value}{Q:Next->AH->Prop}(hf:P.funcs[f]?=some fn)(hn:(fn.name == "runtime.NumGoroutine")=false)(hb:fn.body.isNone=false)(h:Q (.enter f args) I):awp P ro (callFunc f args) Q I:=by
 unfold callFunc
 show awp P ro (Sem.bind program _) Q I
 rw[yu]
 show awp P ro (match P.funcs[f]? with | none=>_ | some fn=>_) Q I
 rw[hf];dsimp only
 rw[hn,hb]
 exact h
def kG(ho:o.op= .call {callee:= .value (.func f),args:=ars,argTypes:=ts})(hf:P.funcs[f]?=some fn)(hn:(fn.name == "runtime.NumGoroutine")=false)(hb:fn.body.isNone=false)
  (ha:jZ fr ars.toList=some vs) (h:qc P B ro f vs.toArray I fun v I=>K (qD o.dst v fr) I):wi P B ro o K fr I:=by
 intro O hρ
 have hm:=abq hρ _ ha
 have hfun:O (.func f)= .func (.func f) #[] #[]:=hρ _ _ rfl
 have e:execOp O o=callFunc f vs.toArray:=by
  unfold execOp;rw[ho]
  simp only[resolve,hfun,Deferred.ofValue,qS,qy,wL,invoke]
  congr 1
  have:ars.map O=vs.toArray:=Array.toList_inj.1 (by rw[Array.toList_map,hm])
  rw[this];simp
 rw[e]
 exact ahN hf hn hb h
def au5{first cap:Array Value}(ho:o.op= .call {callee:= .value x,args:=ars,argTypes:=ts})(hx:qm fr x=some (.func (.func f) first cap))(hf:P.funcs[f]?=some fn)(hn:(fn.name == "runtime.NumGoroutine")=false)(hb:fn.body.isNone=false)
  (ha:jZ fr ars.toList=some vs) (h:qc P B ro f (first++vs.toArray++cap) I fun v I=>K (qD o.dst v fr) I):wi P B ro o K fr I:=by
 intro O hρ
 have hm:=abq hρ _ ha
 have e:execOp O o=callFunc f (first++vs.toArray++cap):=by
  unfold execOp;rw[ho]
  simp only[resolve,hρ _ _ hx,Deferred.ofValue,qS,qy,wL,invoke]
  congr 1
  have:ars.map O=vs.toArray:=Array.toList_inj.1 (by rw[Array.toList_map,hm])
  rw[this]
 rw[e]
 exact ahN hf hn hb h
def vZ{b:Builtin}{s:Sem Value}(ho:o.op= .call {callee:= .builtin b,args:=ars,argTypes:=ts})(ha:jZ fr ars.toList=some vs)(hb:∀ cs,builtin b ts o.type cs vs.toArray=(do pure (.value (<-s))))
  (h:awp P ro s (fun v I=>K (qD o.dst v fr) I) I):wi P B ro o K fr I:=by
 refine X_sem (s:=s) (fun O hρ=>?_) h
 have hm:=abq hρ _ ha
 have:ars.map O=vs.toArray:=Array.toList_inj.1 (by rw[Array.toList_map,hm])
 unfold execOp;rw[ho]
 simp only[resolve,qS,qy,wL,invoke,this,hb]
end
end SL
namespace SL
open Go
section
variable{P:Program}{B:ZB}{ro:AH}{N:Nat}{o:Oper}{fr:Fr}{I:AH}{x y z:Operand}{v:ZC}
def ak8(fr:Fr):Option Operand->Option Int->Prop
 | none,none=>True
 | some x,some i=> ∃k,qm fr x=some (.int k i)
 | _,_=>False
def ahh{k:IntKind}{i:Int}{y:Nat}{c:BoundsCode}{β:Type}{f:Nat->Sem β}{τ:AH}(h0:0<=i)(h1:i<=y):qh P ro (Sem.bind (Instr.sliceBound (.int k i) y c) f) τ=qh P ro (f i.toNat) τ:=by
 unfold Instr.sliceBound
 show qh P ro (Sem.bind (if 0<=i/\i<=y then pure i.toNat else _) f) τ=_
 rw[mc ⟨h0,h1⟩];try rfl
def alR(lo:Option Int):Nat:=match lo with | some i=>i.toNat | none=>0
def cutHi(hi:Option Int)(len:Nat):Nat:=match hi with | some i=>i.toNat | none=>len
def cutOk(lo hi:Option Int)(len cap:Nat):Prop:=(match hi with | some i=>0<=i/\i<=cap | none=>True)/\(match lo with | some i=>0<=i/\i<=(cutHi hi len:Int) | none=>True)
def ae2{O:Operand->ZC}(hρ:vX O fr){a:Option Operand}{i:Option Int}(h:ak8 fr a i):(a=none/\i=none)\/∃ k j,i=some j/\a.map O=some (.int k j):=by
 cases a with
 | none=>cases i with
  | none=>exact .inl ⟨rfl,rfl⟩
  | some j=>exact h.elim
 | some x=>cases i with
  | none=>exact h.elim
  | some j=>obtain⟨k,hk⟩:=h;exact .inr ⟨k,j,rfl,by simp[hρ _ _ hk]⟩
def ajy{β:Type}{lo hi:Option Int}{a b:Option Operand}{O:Operand->ZC}(ha:(a=none/\lo=none)\/∃ k j,lo=some j/\a.map O=some (.int k j))(hb:(b=none/\hi=none)\/∃ k j,hi=some j/\b.map O=some (.int k j)){len cap:Nat}{isS:Bool}
  (h:cutOk lo hi len cap) {f:Nat×Nat×Nat->Sem β} {τ:AH}:qh P ro (Sem.bind (Instr.sliceBounds isS len cap (a.map O) (b.map O) none) f) τ=qh P ro (f (alR lo,cutHi hi len,cap)) τ:=by
 obtain⟨h1,h2⟩:=h
 unfold Instr.sliceBounds
 simp only[qy,qS,wL,bind_assoc']
 rcases hb with⟨rfl,rfl⟩ | ⟨k,j,rfl,hb⟩
 .simp only[Option.map_none,wL]
  rcases ha with⟨rfl,rfl⟩ | ⟨k,j,rfl,ha⟩
  .rfl
  .rw[ha];dsimp only at h2⊢
   simp only[bind_assoc']
   rw[ahh h2.1 (by simpa [cutHi]using h2.2)];try rfl
 .rw[hb];dsimp only at h1⊢
  simp only[bind_assoc']
  rw[ahh h1.1 h1.2]
  rcases ha with⟨rfl,rfl⟩ | ⟨k,j,rfl,ha⟩
  .rfl
  .rw[ha];dsimp only at h2⊢
   simp only[bind_assoc']
   rw[ahh h2.1 (by simpa [cutHi]using h2.2)];try rfl
def aol{t:TypeId}{a b:Option Operand}{lo hi:Option Int}{s:ZA}(ho:o.op= .slice t x a b none)(ht:P.underlying t=some .string)(hx:qm fr x=some (.string s))(ha:ak8 fr a lo)(hb:ak8 fr b hi)(h:cutOk lo hi s.size s.size):
  qG P ro o fr (.string (s.extract (alR lo) (cutHi hi s.size))):=by
 intro O hρ
 have e:execOp O o=(do pure (.value (<-Instr.sliceAt t (.string s) (a.map O) (b.map O) none))):=by unfold execOp;rw[ho];simp only[hρ _ _ hx];rfl
 rw[e]
 show qh P ro (Sem.bind (Instr.sliceAt t (.string s) (a.map O) (b.map O) none) _) _=_
 unfold Instr.sliceAt
 simp only[qy,bind_assoc']
 rw[qF _ _ ht];dsimp only
 unfold Instr.slice
 simp only[qy,bind_assoc']
 rw[qF _ _ ht];dsimp only
 simp only[Option.isSome_none,Bool.false_eq_true,if_false,bind_assoc',qS,wL]
 rw[ajy (ae2 hρ ha) (ae2 hρ hb) h];try rfl
def wv(a:ZO)(lo cap s:Nat):ZO:=if cap=lo then a else a.map (·.add (lo*s))
def aaW{t e:TypeId}{a b:Option Operand}{lo hi:Option Int}{ad:ZO}{n c:Nat}{zv:ZC}{s bt:Nat}(ho:o.op= .slice t x a b none)(ht:P.underlying t=some (.slice e))(hz:qp P e zv s bt)(hx:qm fr x=some (.slice ad n c))(ha:ak8 fr a lo)(hb:ak8 fr b hi)(h:cutOk lo hi n c):
  qG P ro o fr (.slice (wv ad (alR lo) c s) (cutHi hi n - alR lo) (c - alR lo)):=by
 intro O hρ
 have e':execOp O o=(do pure (.value (<-Instr.sliceAt t (.slice ad n c) (a.map O) (b.map O) none))):=by unfold execOp;rw[ho];simp only[hρ _ _ hx];rfl
 rw[e']
 show qh P ro (Sem.bind (Instr.sliceAt t (.slice ad n c) (a.map O) (b.map O) none) _) _=_
 unfold Instr.sliceAt
 simp only[qy,bind_assoc']
 rw[qF _ _ ht];dsimp only
 unfold Instr.slice
 simp only[qy,bind_assoc']
 rw[qF _ _ ht];dsimp only
 simp only[bind_assoc',qS,wL]
 rw[ajy (ae2 hρ ha) (ae2 hρ hb) h]
 dsimp only
 rw[pt hz];try rfl
def vd:ak8 fr none none:=trivial
def ve{k:IntKind}{i:Int}(h:qm fr x=some (.int k i)):ak8 fr (some x) (some i):=⟨k,h⟩
def wC(P:Program):List Field->List (Nat×Nat)->Prop
 | [],[]=>True
 | f::r,p::q=>(p.1=f.offset/\∃ zv b,qp P f.type zv p.2 b)/\wC P r q
 | _,_=>False
def aoz{β:Type}{fs:Array Field}{pl:List (Nat×Nat)}(h:wC P fs.toList pl){f:Array (Nat×Nat)->Sem β}{τ:AH}:qh P ro (Sem.bind (fs.mapM fun fd=>do pure (fd.offset,<-sizeOf fd.type)) f) τ=qh P ro (f pl.toArray) τ:=by
 rw[Array.mapM_eq_mapM_toList]
 show qh P ro (Sem.bind (List.toArray <$> _) f) τ=_
 have gen:∀ (l:List Field) (pl:List (Nat×Nat)) {γ:Type} (g:List (Nat×Nat)->Sem γ),wC P l pl->qh P ro (Sem.bind (l.mapM fun fd=>do pure (fd.offset,<-sizeOf fd.type)) g) τ=qh P ro (g pl) τ:=by
  intro l
  induction l with
  | nil=>
   intro pl γ g h
   cases pl with
   | nil=>rfl
   | cons p q=>exact h.elim
  | cons fd r ih=>
   intro pl γ g h
   cases pl with
   | nil=>exact h.elim
   | cons p q=>
    obtain⟨⟨h1,zv,b,h2⟩,h3⟩:=h
    rw[List.mapM_cons]
    show qh P ro (Sem.bind (Sem.bind (Sem.bind (sizeOf fd.type) _) _) g) τ=_
    rw[bind_assoc',bind_assoc',pt h2]
    simp only[qS,wL,bind_assoc',qy]
    show qh P ro (Sem.bind (r.mapM fun fd=>do pure (fd.offset,<-sizeOf fd.type)) _) τ=_
    rw[ih q _ h3]
    have:(fd.offset,p.2)=p:=by rw[<-h1]
    simp only[this]
 have map_bind:∀ (s:Sem (List (Nat×Nat))),Sem.bind (List.toArray <$> s) f=Sem.bind s fun l=>f l.toArray:=by
  intro s
  show Sem.bind (Sem.bind s _) f=_
  rw[bind_assoc'];try rfl
 rw[map_bind,gen _ _ _ h]
def ab1(fr:Fr):List (Nat×Operand)->Option (List (Nat×ZC))
 | []=>some []
 | (i,x)::r=>match qm fr x,ab1 fr r with
  | some v,some vs=>some ((i,v)::vs)
  | _,_=>none
def afw{O:Operand->ZC}(hρ:vX O fr){ps:Array (Nat×Operand)}{vs:List (Nat×ZC)}(h:ab1 fr ps.toList=some vs):(ps.map fun(i,x)=>(i,O x)).toList=vs:=by
 have gen:∀ (l:List (Nat×Operand)) {vs:List (Nat×ZC)},ab1 fr l=some vs->l.map (fun(i,x)=>(i,O x))=vs:=by
  intro l
  induction l with
  | nil=>intro vs h;cases h;rfl
  | cons p r ih=>
   intro vs h
   obtain⟨i,x⟩:=p
   unfold ab1 at h
   split at h
   .rename_i v vs' h1 h2
    cases h
    rw[mF,ih h2]
    simp only[hρ _ _ h1]
   .cases h
 rw[Array.toList_map];exact gen _ h
def wB{t:TypeId}{fs:Array Field}{pl:List (Nat×Nat)}{zv:ZC}{n b:Nat}{parts:Array (Nat×Operand)}{vs:List (Nat×ZC)}{cs:Array Value}(ho:o.op= .build t parts)(ht:P.underlying t=some (.struct fs))(hz:qp P t zv n b)(hp:wC P fs.toList pl)
  (hv':ab1 fr parts.toList=some vs) (hf:Instr.fill (fun i=>pl.toArray[i]?) zv.cells vs=some cs):qG P ro o fr (.agg cs):=by
 have hv:∀ O,vX O fr->(parts.map fun(i,x)=>(i,O x)).toList=vs:=fun O hρ=>afw hρ hv'
 intro O hρ
 have e:execOp O o=(do pure (.value (<-Instr.build t (parts.map fun(i,x)=>(i,O x))))):=by unfold execOp;rw[ho]
 rw[e]
 show qh P ro (Sem.bind (Instr.build t _) _) _=_
 unfold Instr.build
 simp only[qy,bind_assoc']
 rw[alP hz,qF _ _ ht]
 dsimp only
 simp only[bind_assoc']
 refine(aoz hp).trans ?_
 rw[hv O hρ]
 simp only[hf];rfl
def av2{t e:TypeId}{k:Nat}{zv zv':ZC}{n b s b':Nat}{parts:Array (Nat×Operand)}{vs:List (Nat×ZC)}{cs:Array Value}(ho:o.op= .build t parts)(ht:P.underlying t=some (.array k e))(hz:qp P t zv n b)(hs:qp P e zv' s b')
  (hv':ab1 fr parts.toList=some vs) (hf:Instr.fill (fun i=>some (i*s,s)) zv.cells vs=some cs):qG P ro o fr (.agg cs):=by
 have hv:∀ O,vX O fr->(parts.map fun(i,x)=>(i,O x)).toList=vs:=fun O hρ=>afw hρ hv'
 intro O hρ
 have e:execOp O o=(do pure (.value (<-Instr.build t (parts.map fun(i,x)=>(i,O x))))):=by unfold execOp;rw[ho]
 rw[e]
 show qh P ro (Sem.bind (Instr.build t _) _) _=_
 unfold Instr.build
 simp only[qy,bind_assoc']
 rw[alP hz,qF _ _ ht]
 dsimp only
 simp only[bind_assoc']
 rw[pt hs,hv O hρ]
 simp only[hf];rfl
def wj{t e:TypeId}{len:Nat}{zv:ZC}{s b:Nat}{parts:Array (Nat×Operand)}{vs:List (Nat×ZC)}{cs:Array Value}(ho:o.op= .buildSlice t len parts)(ht:P.underlying t=some (.slice e))(hs:qp P e zv s b)(hlen:len*s<=16777216)
  (hv':ab1 fr parts.toList=some vs) (hf:Instr.fill (fun i=>some (i*s,s)) (aaV zv (len*s)) vs=some cs):ad7 P ro o fr (.cells cs e) (fun b=> .slice (some ⟨b,0,none⟩) len len):=by
 have hv:∀ O,vX O fr->(parts.map fun(i,x)=>(i,O x)).toList=vs:=fun O hρ=>afw hρ hv'
 intro O hρ
 have e':execOp O o=(do pure (.value (<-Instr.buildSlice t len (parts.map fun(i,x)=>(i,O x))))):=by unfold execOp;rw[ho]
 rw[e']
 have hn:jJ P (Instr.buildSlice t len (parts.map fun(i,x)=>(i,O x)))=some (.cells cs e,fun b=>Sem.pure (.slice (some ⟨b,0,none⟩) len len)):=by
  unfold Instr.buildSlice
  simp only[qy]
  rw[alQ ht]
  dsimp only
  try simp only[qy]
  rw[ank hs]
  rw[ma z7]
  by_cases hc:len*s=0
  .rw[mc hc]
   try simp only[qS,wL]
   rw[hv O hρ]
   have:Instr.fill (fun i=>some (i*s,s)) ((Array.range (len*s)).map fun i=>(#[]:Array Value)[i%(#[]:Array Value).size]!) vs=some cs:=by
    rw[<-hf];congr 1
    simp[aaV,hc]
   simp only[this];rfl
  .rw[ma hc]
   simp only[qS,wL]
   rw[ajx hs]
   try simp only[wL]
   rw[hv O hρ]
   have:Instr.fill (fun i=>some (i*s,s)) ((Array.range (len*s)).map fun i=>zv.cells[i%zv.cells.size]!) vs=some cs:=by rw[aoy];exact hf
   simp only[this];rfl
 exact⟨_,afh.go _ hn,fun b=>rfl⟩
def aqO{fn:Fn}{first cap:Array Operand}{fs cs:List Value}(ho:o.op= .makeFunc fn first cap)(hf':jZ fr first.toList=some fs)(hc':jZ fr cap.toList=some cs):qG P ro o fr (.func fn fs.toArray cs.toArray):=by
 intro O hρ
 have hf:first.map O=fs.toArray:=Array.toList_inj.1 (by rw[Array.toList_map,abq hρ _ hf'])
 have hc:cap.map O=cs.toArray:=Array.toList_inj.1 (by rw[Array.toList_map,abq hρ _ hc'])
 unfold execOp;rw[ho];simp only[hf,hc];rfl
def ajz(t:TypeId)(a b:ZC):Op.equal t a b=Op.equalIn (9999+1) t a b:=rfl
def auO{t u:TypeId}{a b:ZC}(ho:o.op= .binOp .eql t x y u)(hx:qm fr x=some a)(hy:qm fr y=some b){r:Bool}(hg:eqGuard .eql t x y a b=pure ())(hb:Go.binOp .eql t a b=(do pure (.bool (<-Op.equal t a b))))
  (hr:∀ τ,qh P ro (Op.equalIn (9999+1) t a b) τ=some r):qG P ro o fr (.bool r):=by
 refine aar (s:=do eqGuard .eql t x y a b;Go.binOp .eql t a b) (fun O hρ=>?_) ?_
 .unfold execOp;rw[ho];simp only[hρ _ _ hx,hρ _ _ hy]
 .rw[hg,hb,ajz]
  have:=hr (fun _=>none)
  generalize Op.equalIn (9999+1) t a b=s at this
  show qh P ro (Sem.bind s fun b=>Sem.pure (Value.bool b)) _=_
  exact gen s this
where
 gen (s:Sem Bool) {w:Bool} (h:qh P ro s (fun _=>none)=some w):qh P ro (Sem.bind s fun b=>Sem.pure (Value.bool b)) (fun _=>none)=some (.bool w):=by
  induction s with
  | pure a=>cases h;rfl
  | load m a k ih=>
   simp only[qh]at h
   simp only[Sem.bind,qh]
   split at h
   .exact ih _ h
   .cases h
  | program k ih=>exact ih _ h
  | mark m k ih=>exact ih h
  | _=>cases h
def awH{t u:TypeId}{a b:ZC}(ho:o.op= .binOp .neq t x y u)(hx:qm fr x=some a)(hy:qm fr y=some b){r:Bool}(hg:eqGuard .neq t x y a b=pure ())(hb:Go.binOp .neq t a b=(do pure (.bool (!(<-Op.equal t a b)))))
  (hr:∀ τ,qh P ro (Op.equalIn (9999+1) t a b) τ=some r):qG P ro o fr (.bool (!r)):=by
 refine aar (s:=do eqGuard .neq t x y a b;Go.binOp .neq t a b) (fun O hρ=>?_) ?_
 .unfold execOp;rw[ho];simp only[hρ _ _ hx,hρ _ _ hy]
 .rw[hg,hb,ajz]
  have:=hr (fun _=>none)
  generalize Op.equalIn (9999+1) t a b=s at this
  show qh P ro (Sem.bind s fun b=>Sem.pure (Value.bool !b)) _=_
  exact gen s this
where
 gen (s:Sem Bool) {w:Bool} (h:qh P ro s (fun _=>none)=some w):qh P ro (Sem.bind s fun b=>Sem.pure (Value.bool !b)) (fun _=>none)=some (.bool !w):=by
  induction s with
  | pure a=>cases h;rfl
  | load m a k ih=>
   simp only[qh]at h
   simp only[Sem.bind,qh]
   split at h
   .exact ih _ h
   .cases h
  | program k ih=>exact ih _ h
  | mark m k ih=>exact ih h
  | _=>cases h
def apZ{t e:TypeId}{p:ZO}{τ:AH}(ht:P.underlying t=some (.pointer e)):qh P ro (Op.equalIn (9999+1) t (.pointer p) (.pointer none)) τ=some p.isNone:=by
 unfold Op.equalIn
 show qh P ro (Sem.bind (underlying t) _) _=_
 rw[qF _ _ ht];cases p<;>rfl
def av3{t e:TypeId}{a:ZO}{n c:Nat}{τ:AH}(ht:P.underlying t=some (.slice e)):qh P ro (Op.equalIn (9999+1) t (.slice a n c) (.slice none 0 0)) τ=some a.isNone:=by
 unfold Op.equalIn
 show qh P ro (Sem.bind (underlying t) _) _=_
 rw[qF _ _ ht];cases a<;>rfl
def ae3{t u e:TypeId}{p:ZO}(ho:o.op= .binOp .eql t x y u)(ht:P.underlying t=some (.pointer e))(hx:qm fr x=some (.pointer p))(hy:qm fr y=some (.pointer none)):qG P ro o fr (.bool p.isNone):=auO ho hx hy rfl (by cases p<;>rfl) fun _=>apZ ht
def aom{t u e:TypeId}{p:ZO}(ho:o.op= .binOp .neq t x y u)(ht:P.underlying t=some (.pointer e))(hx:qm fr x=some (.pointer p))(hy:qm fr y=some (.pointer none)):qG P ro o fr (.bool (!p.isNone)):=awH ho hx hy rfl (by cases p<;>rfl) fun _=>apZ ht
def aon{t u e:TypeId}{a:ZO}{n c:Nat}(ho:o.op= .binOp .eql t x y u)(ht:P.underlying t=some (.slice e))(hx:qm fr x=some (.slice a n c))(hy:qm fr y=some (.slice none 0 0)):qG P ro o fr (.bool a.isNone):=auO ho hx hy rfl rfl fun _=>av3 ht
def auP{b:Builtin}{ars:Array Operand}{ts:Array TypeId}{vs:List Value}{s:Sem Value}(ho:o.op= .call {callee:= .builtin b,args:=ars,argTypes:=ts})(ha:jZ fr ars.toList=some vs)(hb:∀ cs,builtin b ts o.type cs vs.toArray=(do pure (.value (<-s))))
  (hs:qh P ro s (fun _=>none)=some v):qG P ro o fr v:=by
 refine aar (s:=s) (fun O hρ=>?_) hs
 have hm:=abq hρ _ ha
 have:ars.map O=vs.toArray:=Array.toList_inj.1 (by rw[Array.toList_map,hm])
 unfold execOp;rw[ho]
 simp only[resolve,qS,qy,wL,invoke,this,hb]
def aoA{ars:Array Operand}{ts:Array TypeId}{k:IntKind}{a b:Int}(ho:o.op= .call {callee:= .builtin .min,args:=ars,argTypes:=ts})(ha:jZ fr ars.toList=some [.int k a,.int k b]):qG P ro o fr (.int k (if b<a then b else a)):=
 auP ho ha (fun _=>rfl) rfl
def arO{ars:Array Operand}{ts:Array TypeId}{k:IntKind}{a b:Int}(ho:o.op= .call {callee:= .builtin .max,args:=ars,argTypes:=ts})(ha:jZ fr ars.toList=some [.int k a,.int k b]):qG P ro o fr (.int k (if a<b then b else a)):=
 auP ho ha (fun _=>rfl) rfl
def nw(ro I:AH)(ob:Obj)(K:Nat->AH->Prop):Prop:= ∀b,ro b=none->I b=none->K b (upd I b ob)
def zY{a:Addr}{K K':AH->Prop}:∀ {vs:List Value} {i:Nat} {I:AH},stN a K vs i I->(∀I,K I->K' I)->stN a K' vs i I:=by
 intro vs
 induction vs with
 | nil=>intro i I h hk;exact hk _ h
 | cons v r ih=>
  intro i I h hk
  obtain⟨h0,h1,c,e,fz,h2,h3,h4,h5⟩:=h
  exact⟨h0,h1,c,e,fz,h2,h3,h4,ih h5 hk⟩
def aea{ops:Array Oper}{K:Fr->AH->Prop}(h:K fr I):qK P B ro N ops (wk K) [] fr I:=⟨fr,qo.refl _,h⟩
def acy{next:Fr->AH->Prop}{Q:Exit->Fr->AH->Prop}(h:next fr I):adi next Q .normal fr I:=h
def alS{next:Fr->AH->Prop}{Q:Exit->Fr->AH->Prop}{id:Nat}(h:Q (.exit id) fr I):adi next Q (.exit id) fr I:=h
def alT{next:Fr->AH->Prop}{Q:Exit->Fr->AH->Prop}(h:Q .ret fr I):adi next Q .ret fr I:=h
def agj{Q:Exit->Fr->AH->Prop}{id:Nat}(h:Q .normal fr I):afd id Q .normal fr I:=h
def qX{Q:Exit->Fr->AH->Prop}{id:Nat}(h:Q .normal fr I):afd id Q (.exit id) fr I:=by
 show(if id=id then Q .normal fr I else Q (.exit id) fr I);rw[mc rfl];exact h
def av4{Q:Exit->Fr->AH->Prop}{id id':Nat}(hne:(id' == id)=false)(h:Q (.exit id') fr I):afd id Q (.exit id') fr I:=by
 show(if id'=id then Q .normal fr I else Q (.exit id') fr I);rw[ma (j4 hne)];exact h
def ajA{Q:Exit->Fr->AH->Prop}{id:Nat}(h:Q .ret fr I):afd id Q .ret fr I:=h
def Lyb{ops:Array Oper}{K:Fr->AH->Prop}{rest:List Oper}{j t:Nat}{want b:Bool}(hg:o.guard=some (j,want))(hd:wl N o.dst=true)(ht:(ops[j]?).bind (·.dst)=some t)(hl:look fr t=some (.bool b))(e:b=want)
  (h:wi P B ro o (qK P B ro N ops K rest) fr I):qK P B ro N ops K (o::rest) fr I:=Ly hg hd ht (by rw[hl,e]) h
def qI{ops:Array Oper}{K:Fr->AH->Prop}{l:List Oper}(m:Nat)(b:Bool){p:Prop}[Decidable p]{X Y:Prop}(hi:b=true↔p)(h:if p then X else Y)(J:Fr->AH->Prop)
  (hy:X->b=true->(∀fr I,J fr I->qK P B ro N ops K (l.drop m) fr I)->qK P B ro N ops K l fr I) (hn:Y->b=false->(∀fr I,J fr I->qK P B ro N ops K (l.drop m) fr I)->qK P B ro N ops K l fr I)
  (hk:∀ fr I,J fr I->qK P B ro N ops K (l.drop m) fr I):qK P B ro N ops K l fr I:=by
 cases e:b with
 | true=>rw[mc (hi.1 e)]at h;exact hy h e hk
 | false=>rw[ma (fun q=>by rw[hi.2 q]at e;cases e)]at h;exact hn h e hk
def wY{ops:Array Oper}{K:Fr->AH->Prop}{l:List Oper}(m:Nat)(b:Bool)(F:Fr)
  (hy:b=true->(∀fr,qo F fr->qK P B ro N ops K (l.drop m) fr I)->qK P B ro N ops K l fr I) (hn:b=false->(∀fr,qo F fr->qK P B ro N ops K (l.drop m) fr I)->qK P B ro N ops K l fr I)
  (hk:∀ fr,qo F fr->qK P B ro N ops K (l.drop m) fr I):qK P B ro N ops K l fr I:=by
 cases e:b with
 | true=>exact hy e hk
 | false=>exact hn e hk
def Lweak{ops:Array Oper}{K:Fr->AH->Prop}(hK:∀ {fr fr':Fr} {I:AH},qo fr fr'->K fr I->K fr' I):∀ {l:List Oper} {fr fr':Fr} {I:AH},qo fr fr'->qK P B ro N ops K l fr I->qK P B ro N ops K l fr' I:=by
 intro l
 induction l with
 | nil=>intro fr fr' I hl h;exact hK hl h
 | cons o r ih=>
  intro fr fr' I hl h
  have put:∀ (d:Option Tmp) (v:ZC),qo (qD d v fr) (qD d v fr'):=by
   intro d v
   cases d with
   | none=>exact hl
   | some d=>
    intro i u hi
    rw[aig]at hi⊢
    by_cases e:i=d
    .rw[mc e]at hi ⊢;exact hi
    .rw[ma e]at hi ⊢;exact hl i u hi
  have ag:∀ {O},vX O fr'->vX O fr:=by
   intro O hρ x v hx
   refine hρ x v ?_
   cases x<;>first | exact hl _ _ hx | exact hx
  have ex:wi P B ro o (qK P B ro N ops K r) fr I->wi P B ro o (qK P B ro N ops K r) fr' I:=by
   intro hx O hρ
   refine qk _ (hx O (ag hρ)) ?_
   intro n I' hn
   cases n<;>first | exact ih (put _ _) hn | exact qc.mono hn fun v I h=>ih (put _ _) h | exact hn
  obtain⟨h0,h⟩:=h
  refine⟨h0,?_⟩
  split at h
  .exact ex h
  .obtain⟨t,v,h1,h2,h3⟩:=h
   exact⟨t,v,h1,hl _ _ h2,h3.imp (fun⟨a,b⟩=>⟨a,ex b⟩) (fun⟨a,b⟩=>⟨a,ih (put _ _) b⟩)⟩
def qu{b:Bool}{p:Prop}(h:b=true↔p):(!b)=true↔¬ p:=by
 cases b<;>simp at h⊢ <;>simp[h]
def ab2{a b:Bool}{p q:Prop}(h:a=true↔p)(k:b=true↔q):(a && b)=true↔(p/\q):=by
 rw[mu,h,k]
def vr{a b:Bool}{p q:Prop}(h:a=true↔p)(k:b=true↔q):(a || b)=true↔(p\/q):=by
 rw[Bool.or_eq_true,h,k]
def zJ{α:Type}{a:Option α}:a.isNone=true↔a=none:=by cases a<;>simp
end