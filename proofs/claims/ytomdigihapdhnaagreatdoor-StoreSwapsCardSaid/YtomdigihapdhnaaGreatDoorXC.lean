import Derived.ArgAppend
import Derived.Lib.Split
import Derived.KernelRfl
import Derived.Test.YtomdigihapdhnaaGreatDoorProg
import Derived.Test.YtomdigihapdhnaaGreatDoorXB
set_option linter.all false
set_option maxRecDepth 99999
set_option maxHeartbeats 0
open Go.IntKind(i64)
open Go.Proofs.Tryz
namespace Go.Proofs.YtomdigihapdhnaaGreatDoor
namespace SL
open Go
variable{P:Program}{B:World}{ro I I':AH}{tag tag':Nat->Nat}
variable{β:Type}{I'' τ:AH}{a p:Addr}{args cs:Array Value}{f:FuncId}{R:List Nat}{l vs:List Value}{b bytes g i m n r r':Nat}{K:Nat->AH->Prop}{tag'':Nat->Nat}{s:Sl}{e et kt t ty:TypeId}{v zv:Value}{Q:Value->AH->Prop}
theorem qE(I:AH)(b:Nat)(o:Obj):upd I b o b=some o:=by simp[upd]
theorem yS(I:AH){c:Nat}(o:Obj)(h:c≠b):upd I b o c=I c:=by simp[upd,h]
theorem aiu(I:AH)(b:Nat)(o o':Obj):upd (upd I b o) b o'=upd I b o':=by
 funext c;by_cases h:c=b<;>simp[upd,h]
structure qe(R:List Nat)(ro:AH)(tag:Nat->Nat)(I:AH)(tag':Nat->Nat)(I':AH):Prop where
 keep:∀ b o,I b=some o->tag b∉R->tag' b=tag b/\I' b=some o
 old:∀ b o,I b=some o->tag' b=tag b/\∃ o',I' b=some o'
 sep:Sep ro I'
theorem qe.refl(h:Sep ro I):qe R ro tag I tag I:=⟨fun _ _ h _=>⟨rfl,h⟩,fun _ o h=>⟨rfl,o,h⟩,h⟩
theorem qe.trans(h:qe R ro tag I tag' I')(k:qe R ro tag' I' tag'' I''):qe R ro tag I tag'' I'':=by
 refine⟨fun b o e n=>?_,fun b o e=>?_,k.sep⟩
 .obtain⟨t1,e1⟩:=h.keep b o e n
  obtain⟨t2,e2⟩:=k.keep b o e1 (by rw[t1];exact n)
  exact⟨t2.trans t1,e2⟩
 .obtain⟨t1,o',e1⟩:=h.old b o e
  obtain⟨t2,o'',e2⟩:=k.old b o' e1
  exact⟨t2.trans t1,o'',e2⟩
theorem qe.mono{R':List Nat}(h:qe R ro tag I tag' I')(hr:∀ r∈R,r∈R'):qe R' ro tag I tag' I':=
 ⟨fun b o e n=>h.keep b o e fun m=>n (hr _ m),h.old,h.sep⟩
def Row(tag:Nat->Nat)(I:AH)(r:Nat)(e:TypeId)(s:Sl)(l:List Value):Prop:=
 (s=⟨none,0,0⟩/\l=[])\/∃ b cs,s.a=some ⟨b,0,none⟩/\tag b=r/\I b=some (.cells cs e)/\s.len=l.length/\s.cap=cs.size/\s.len<=s.cap/\∀ i,i<l.length->cs[i]?=l[i]?
theorem Row.nil(r:Nat)(e:TypeId):Row tag I r e ⟨none,0,0⟩ []:= .inl ⟨rfl,rfl⟩
theorem Row.len(h:Row tag I r e s l):s.len=l.length:=by
 rcases h with⟨rfl,rfl⟩ | ⟨b,cs,_,_,_,h,_⟩
 .rfl
 .exact h
theorem Row.keep(h:Row tag I r e s l)(k:qe R ro tag I tag' I')(hr:r∉R:=by simp):Row tag' I' r e s l:=by
 rcases h with h | ⟨b,cs,ha,ht,hs,hx⟩
 .exact .inl h
 .obtain⟨t,e⟩:=k.keep b _ hs (by rw[ht];exact hr)
  exact .inr ⟨b,cs,ha,t.trans ht,e,hx⟩
theorem Row.ptr(h:Row tag I r e s l)(hs:Sep ro I)(hl:0<l.length):
  ∃p,s.a=some p/\∀ i v,l[i]?=some v->qa ro I (p.add (i*1))=some v:=by
 rcases h with⟨_,rfl⟩ | ⟨b,cs,ha,ht,hb,hln,hc,hle,hg⟩
 .cases hl
 .refine⟨_,ha,fun i v hv=>?_⟩
  have hi:i<l.length:=by
   rcases Nat.lt_or_ge i l.length with h | h
   .exact h
   .rw[List.getElem?_eq_none h]at hv;cases hv
  rw[vn,Nat.mul_one,Nat.zero_add]
  unfold qa rd
  simp only[hs b _ hb,hb,vy]
  rw[<-hv,<-hg i hi];try rfl
theorem Row.st{K:AH->Prop}(h:Row tag I r e s l)(hs:Sep ro I)(ha:s.a=some p)(hi:i<l.length)(hv:qh v=true)
  (hK:∀ I',qe [r] ro tag I tag I'->Row tag I' r e s (l.set i v)->K I'):stN (p.add (i*1)) K [v] 0 I:=by
 rcases h with⟨_,rfl⟩ | ⟨b,cs,ha',ht,hb,hln,hc,hle,hg⟩
 .cases hi
 .rw[ha]at ha';cases ha'
  refine⟨hv,by simp,cs,e,(0,0),?_,?_,?_,?_⟩
  .simpa using hb
  .simp;omega
  .simp
  .simp only[vn,ajc,Nat.mul_one,Nat.zero_add,stN]
   refine hK _ ⟨fun c o hc' hn=>?_,fun c o hc'=>⟨rfl,?_⟩,fun c o hc'=>?_⟩ (.inr ⟨b,_,ha,ht,qE _ _ _,by simp[hln],by simp[hc],hle,fun j hj=>?_⟩)
   .have:c≠b:=fun h=>hn (by simp[h,ht])
    exact⟨rfl,by rw[yS _ _ this];exact hc'⟩
   .by_cases h:c=b
    .exact⟨_,by rw[h];exact qE _ _ _⟩
    .exact⟨o,by rw[yS _ _ h];exact hc'⟩
   .by_cases h:c=b
    .exact hs c _ (by rw[h];exact hb)
    .rw[yS _ _ h]at hc';exact hs c _ hc'
   .simp only[List.length_set]at hj
    have:=hg j hj
    by_cases hij:i=j
    .subst hij
     rw[List.getElem?_set_self hi,Array.getElem?_setIfInBounds_self_of_lt (by omega)]
    .rw[List.getElem?_set_ne hij,Array.getElem?_setIfInBounds_ne hij];exact this
theorem Row.cell1{c:Nat}(h:Row tag I r e ⟨some ⟨b,0,none⟩,n,c⟩ [v])(hs:Sep ro I):qa ro I ⟨b,0,none⟩=some v:=by
 obtain⟨p,hp,hg⟩:=h.ptr hs (by simp)
 cases hp
 exact hg 0 v rfl
def setTag(tag:Nat->Nat)(b r:Nat):Nat->Nat:=fun c=>if c=b then r else tag c
theorem qe.fresh{o:Obj}(hs:Sep ro I)(hro:ro b=none)(hb:I b=none):qe R ro tag I (setTag tag b r) (upd I b o):=by
 refine⟨fun c o' hc _=>?_,fun c o' hc=>?_,fun c o' hc=>?_⟩
 .have:c≠b:=fun h=>by rw[h,hb]at hc;cases hc
  exact⟨by simp[setTag,this],by rw[yS _ _ this];exact hc⟩
 .have:c≠b:=fun h=>by rw[h,hb]at hc;cases hc
  exact⟨by simp[setTag,this],o',by rw[yS _ _ this];exact hc⟩
 .by_cases h:c=b
  .rw[h];exact hro
  .rw[yS _ _ h]at hc;exact hs c _ hc
theorem ajR(zv:Value)(n:Nat):(aaL zv n).size=n:=by simp[aaL]
theorem ak6(zv:Value)(h:zv.cells= #[zv])(n i:Nat)(hi:i<n):(aaL zv n)[i]?=some zv:=by
 simp[aaL,hi,h,Nat.mod_one]
theorem asP(r:Nat)(hs:Sep ro I)(hz:zv.cells= #[zv])
  (hK:∀ b tag' I',(∀R,qe R ro tag I tag' I')->Row tag' I' r e ⟨some ⟨b,0,none⟩,n,n⟩ (List.replicate n zv)->K b I'):nw ro I (.cells (aaL zv (n*1)) e) K:=by
 intro b hro hb
 refine hK b (setTag tag b r) _ (fun R=>qe.fresh hs hro hb) (.inr ⟨b,_,rfl,by simp[setTag],qE _ _ _,by simp,by rw[ajR];simp,Nat.le_refl _,fun i hi=>?_⟩)
 simp at hi
 rw[ak6 _ hz _ _ (by omega),List.getElem?_replicate,if_pos hi]
theorem qj(r:Nat)(hs:Sep ro I)
  (hK:∀ b tag' I',(∀R,qe R ro tag I tag' I')->Row tag' I' r e ⟨some ⟨b,0,none⟩,cs.size,cs.size⟩ cs.toList->K b I'):nw ro I (.cells cs e) K:=by
 intro b hro hb
 exact hK b (setTag tag b r) _ (fun R=>qe.fresh hs hro hb) (.inr ⟨b,_,rfl,by simp[setTag],qE _ _ _,by simp,rfl,Nat.le_refl _,fun i hi=>by simp⟩)
theorem Row.take(h:Row tag I r e s l)(hn:n<=l.length):Row tag I r e ⟨s.a,n,s.cap⟩ (l.take n):=by
 rcases h with⟨rfl,rfl⟩ | ⟨b,cs,ha',ht,hb,hln,hc,hle,hg⟩
 .cases hn;exact .inl ⟨rfl,rfl⟩
 .refine .inr ⟨b,cs,ha',ht,hb,by simp[hn],hc,by simp;omega,fun i hi=>?_⟩
  simp at hi
  rw[hg i (by omega),List.getElem?_take,if_pos (by omega)]
theorem agD{q:Question}{f:Nat->Sem β}{Q:β->AH->Prop}(hq:q.forced=false)(h:∀ n,awp P ro (f (q.cut n)) Q I):awp P ro (Sem.bind (choose q) f) Q I:=by
 show(if q.forced then _ else _)
 rw[hq]
 exact h
theorem afG{f:Unit->Sem β}{Q:β->AH->Prop}(h:awp P ro (f ()) Q I):awp P ro (Sem.bind (askRoom n) f) Q I:=by
 unfold askRoom;split<;>exact h
theorem zu:∀ (i:Nat),(∀j v,l[j]?=some v->qa ro I (p.add (i+j))=some v)->qg ro I p i l:=by
 induction l with
 | nil=>intro _ _;trivial
 | cons x l ih=>
  intro i h
  refine⟨h 0 x rfl,ih (i+1) fun j v hj=>?_⟩
  have:=h (j+1) v hj
  rwa [show i+1+j=i+(j+1) by omega]
theorem ak7{f:Array Value->Sem β}{Q:β->AH->Prop}(h:Row tag I r e s l)(hs:Sep ro I)(hf:awp P ro (f l.toArray) Q I):
  awp P ro (Sem.bind (Builtin.firstCells 1 s.len (.slice s.a s.len s.cap)) f) Q I:=by
 have hl:=h.len
 rcases h':s.a with _ | p
 .rcases h with⟨rfl,rfl⟩ | ⟨b,cs,ha,_⟩
  .exact hf
  .rw[h']at ha;cases ha
 .rw[show Sem.bind (Builtin.firstCells 1 s.len (.slice (some p) s.len s.cap)) f=(loadCells p (s.len*1)) >>= f from rfl,vA,Nat.mul_one,hl]
  refine jc l 0 #[] ?_ (by simpa using hf)
  rcases Nat.eq_zero_or_pos l.length with h0 | h0
  .rw[List.eq_nil_of_length_eq_zero h0];trivial
  .obtain⟨p',hp,hg⟩:=h.ptr hs h0
   rw[h']at hp;cases hp
   exact zu 0 fun j v hj=>by have:=hg j v hj;rwa [Nat.mul_one,<-Nat.zero_add j]at this
theorem afH(h:Row tag I r e s l)(hs:Sep ro I)
  (ht:P.underlying t=some (.slice e)) (hz:qp P e zv 1 bytes) (hzc:zv.cells= #[zv]) (hv:qh v=true) (hc:qa ro I a=some v) (hsp:a.spot=none) (hb:(l.length+1)*bytes<=140737488355328) (hb0:0<bytes)
  (hK:∀ s' tag' I',qe [r] ro tag I tag' I'->Row tag' I' r e s' (l++[v])->Q (Sl.v s') I'):
  awp P ro (Builtin.append_ #[t,t] ty #[Sl.v s,Sl.v ⟨some a,1,1⟩]) Q I:=by
 obtain⟨i,hi,hiz,his,hib⟩:=hz
 have hz:qp P e zv 1 bytes:=⟨i,hi,hiz,his,hib⟩
 have q1:∀ (f:TypeInfo->Sem Value),awp P ro (Sem.bind (typeInfo e) f) Q I↔awp P ro (f i) Q I:=fun f=>vF hi
 have g0:(#[t,t]:Array TypeId)[0]?=some t:=rfl
 have g1:(#[t,t]:Array TypeId)[1]?=some t:=rfl
 have g2:(#[Value.slice s.a s.len s.cap,Value.slice (some a) 1 1]:Array Value)[0]?=some (Value.slice s.a s.len s.cap):=rfl
 have g3:(#[Value.slice s.a s.len s.cap,Value.slice (some a) 1 1]:Array Value)[1]?=some (Value.slice (some a) 1 1):=rfl
 have hld:∀ τ:AH,qa ro τ a=some v->∀ {β:Type} (f:Array Value->Sem β) (Q:β->AH->Prop),awp P ro (f #[v]) Q τ->awp P ro (Sem.bind (Builtin.firstCells 1 1 (.slice (some a) 1 1)) f) Q τ:=by
  intro τ hτ β f Q hf
  rw[show Sem.bind (Builtin.firstCells 1 1 (.slice (some a) 1 1)) f=(loadCells a 1) >>= f from rfl,vA]
  exact jc [v] 0 #[] ⟨by simpa using hτ,trivial⟩ hf
 unfold Builtin.append_
 simp only[Sl.v,qy,qV,g0,g1,g2,g3,bind_assoc']
 rw[qw ht]
 simp only[]
 rw[adu hz]
 rw[qw ht]
 simp only[wN,Builtin.lenOf,qy,qV,bind_assoc',Bool.false_eq_true,if_false,Bool.not_false,if_true,false_or]
 split
 .rename_i hroom
  refine hld _ hc _ _ ?_
  have h':=h
  rcases h with⟨rfl,rfl⟩ | ⟨b,cs,ha,htg,hbk,hln,hcp,hle,hg⟩
  .simp at hroom
  .have hlt:s.len<cs.size:=by omega
   have hx:Row tag I r e ⟨s.a,s.len+1,s.cap⟩ (l++[cs[s.len]]):=by
    refine .inr ⟨b,cs,ha,htg,hbk,by simp[hln],hcp,hroom,fun i hi=>?_⟩
    simp at hi
    rcases Nat.lt_or_ge i l.length with h1 | h1
    .rw[List.getElem?_append_left h1];exact hg i h1
    .have:i=l.length:=by omega
     subst this
     rw[List.getElem?_append_right (Nat.le_refl _)]
     simp[<-hln,hlt]
   simp only[ha]
   show awp P ro (storeCells (Addr.add ⟨b,0,none⟩ (s.len*1)) [v] >>= fun _=>Sem.pure (Value.slice (some ⟨b,0,none⟩) (s.len+1) s.cap)) Q I
   rw[vA]
   refine jt [v] 0 I (hx.st (i:=s.len) hs ha (by simp;omega) hv fun I' hst hr=>?_)
   show Q (Value.slice (some ⟨b,0,none⟩) (s.len+1) s.cap) I'
   have e1:(l++[cs[s.len]]).set s.len v=l++[v]:=by rw[List.set_append_right _ _ (by omega)];simp[hln]
   rw[e1,ha]at hr
   exact hK _ _ _ hst hr
 .rename_i hroom
  rw[vF hi]
  rw[if_neg (by rw[hib];omega)]
  rw[vF hi]
  rw[if_neg (by rw[hib];have:=growslice_fits (need:=s.len+1) (old:=s.cap) (bytes:=bytes) (by omega) (by rw[h.len];exact hb);omega)]
  refine agD rfl (fun n=>?_)
  rw[vF hi]
  refine afG ?_
  have hcut:s.len+1<=(Question.appendCap (s.len+1) s.cap e).cut n:=by simp only[Question.cut];omega
  generalize (Question.appendCap (s.len+1) s.cap e).cut n=N at hcut
  refine ak7 h hs ?_
  refine hld _ hc _ _ ?_
  rw[aaW hz]
  rw[hzc]
  show∀b,ro b=none->I b=none->Q (Value.slice (some ⟨b,0,none⟩) (s.len+1) N) (upd I b _)
  intro b hro hb
  refine hK ⟨some ⟨b,0,none⟩,s.len+1,N⟩ (setTag tag b r) _ (qe.fresh hs hro hb) (.inr ⟨b,_,rfl,by simp[setTag],qE _ _ _,by simp[h.len],?_,hcut,fun i hi=>?_⟩)
  .have:=h.len
   simp[Builtin.zeroCells];omega
  .simp at hi
   rw[Array.getElem?_append_left (by simp;omega)]
   simp
theorem arX{K:AH->Prop}:∀ (vs:List Value) (cs:Array Value) (i:Nat),cs.size=i+vs.length->(∀v∈vs,qh v=true)->(∀cs':Array Value,cs'.size=cs.size->(∀j,j<i->cs'[j]?=cs[j]?)->(∀j v,vs[j]?=some v->cs'[i+j]?=some v)->K (upd I b (.cells cs' e)))->
  stN ⟨b,0,none⟩ K vs i (upd I b (.cells cs e)):=by
 intro vs
 induction vs with
 | nil=>intro cs i hsz _ hK;exact hK cs rfl (fun _ _=>rfl) (fun j v h=>by cases h)
 | cons x vs ih=>
  intro cs i hsz hst hK
  simp only[List.length_cons]at hsz
  refine⟨hst x (by simp),by simp,cs,e,(0,0),?_,?_,?_,?_⟩
  .simp[upd]
  .simp;omega
  .simp
  .simp only[vn,Nat.zero_add]
   rw[aiu]
   refine ih _ _ (by simp;omega) (fun v hv=>hst v (by simp[hv])) fun cs' h1 h2 h3=>hK cs' (by simpa using h1) (fun j hj=>?_) fun j v hj=>?_
   .rw[h2 j (by omega),Array.getElem?_setIfInBounds_ne (by omega)]
   .rcases j with _ | j
    .cases hj
     rw[Nat.add_zero,h2 i (by omega),Array.getElem?_setIfInBounds_self_of_lt (by omega)]
    .rw[show i+(j+1)=i+1+j by omega];exact h3 j v hj
theorem xh(r:Nat)(hs:Sep ro I)(hsz:cs.size=vs.length)(hst:∀ v∈vs,qh v=true)
  (hK:∀ b tag' I',(∀R,qe R ro tag I tag' I')->Row tag' I' r e ⟨some ⟨b,0,none⟩,vs.length,vs.length⟩ vs->K b I'):nw ro I (.cells cs e) fun b I=>stN ⟨b,0,none⟩ (K b) vs 0 I:=by
 intro b hro hb
 refine arX vs cs 0 (by omega) hst fun cs' h1 _ h3=>?_
 refine hK b (setTag tag b r) _ (fun R=>qe.fresh hs hro hb) (.inr ⟨b,cs',rfl,by simp[setTag],qE _ _ _,rfl,by simp;omega,Nat.le_refl _,fun i hi=>?_⟩)
 rw[List.getElem?_eq_getElem hi]
 have:=h3 i _ (List.getElem?_eq_getElem hi)
 rwa [Nat.zero_add]at this
def one(I:AH)(b:Nat):AH:=fun c=>if c=b then I c else none
def del(I:AH)(b:Nat):AH:=fun c=>if c=b then none else I c
theorem ac1(b:Nat){K:AH->AH->Prop}(h:K (one I b) (del I b)):yP I K:=by
 refine⟨_,_,fun c o hc=>?_,?_,h⟩
 .unfold one at hc;unfold del
  split at hc
  .rename_i e;rw[if_pos e]
  .cases hc
 .funext c;unfold join one del
  by_cases e:c=b
  .simp only[e,if_true];cases I b<;>rfl
  .simp[e]
theorem Sep.lent(hs:Sep ro I):Sep (join ro (one I b)) (del I b):=by
 intro c o hc
 unfold del at hc
 split at hc
 .cases hc
 .rename_i e
  unfold join one
  rw[hs c o hc];simp[e]
theorem Row.del(h:Row tag I r e s l)(hb:tag b=r')(hr:r≠r'):Row tag (del I b) r e s l:=by
 rcases h with h | ⟨c,cs,ha,ht,hs,hx⟩
 .exact .inl h
 .refine .inr ⟨c,cs,ha,ht,?_,hx⟩
  have:c≠b:=fun e=>hr (by rw[<-ht,e,hb])
  unfold SL.del;rw[if_neg this];exact hs
theorem Row.lend(h:Row tag I r e ⟨some ⟨b,0,none⟩,n,m⟩ l)(hs:Sep ro I)(hv:l[i]?=some v):qa (join ro (one I b)) τ ((⟨b,0,none⟩:Addr).add (i*1))=some v:=by
 rcases h with⟨e,_⟩ | ⟨c,cs,ha,ht,hb,hln,hc,hle,hg⟩
 .cases e
 .cases ha
  have hi:i<l.length:=by
   rcases Nat.lt_or_ge i l.length with h | h
   .exact h
   .rw[List.getElem?_eq_none h]at hv;cases hv
  rw[vn,Nat.mul_one,Nat.zero_add]
  have:join ro (one I b) b=some (.cells cs e):=by unfold join one;rw[hs b _ hb];simp[hb]
  unfold qa rd
  simp only[this,vy]
  rw[<-hv,<-hg i hi];try rfl
theorem Row.tagOf(h:Row tag I r e ⟨some ⟨b,0,none⟩,n,m⟩ l):tag b=r/\∃ o,I b=some o:=by
 rcases h with⟨e,_⟩ | ⟨c,cs,ha,ht,hb,_⟩
 .cases e
 .cases ha;exact⟨ht,_,hb⟩
theorem Row.back(h:Row tag' τ r e s l)(hd:qP (one I b) τ)(hb:∃ o,I b=some o):Row (setTag tag' b r') (join (one I b) τ) r e s l:=by
 rcases h with h | ⟨c,cs,ha,ht,hs,hx⟩
 .exact .inl h
 .have hcb:c≠b:=fun e=>by
   obtain⟨o,ho⟩:=hb
   have:=hd b o (by unfold one;rw[if_pos rfl];exact ho)
   rw[<-e,hs]at this;cases this
  exact .inr ⟨c,cs,ha,by unfold setTag;rw[if_neg hcb];exact ht,by unfold join one;rw[if_neg hcb];exact hs,hx⟩
theorem qe.back(h:qe R (join ro (one I b)) tag (del I b) tag' τ)(hs:Sep ro I)(hd:qP (one I b) τ)(hb:∃ o,I b=some o):qe R ro tag I (setTag tag' b (tag b)) (join (one I b) τ):=by
 obtain⟨ob,hob⟩:=hb
 have hone:one I b b=some ob:=by unfold one;rw[if_pos rfl];exact hob
 refine⟨fun c o hc hn=>?_,fun c o hc=>?_,fun c o hc=>?_⟩
 .by_cases e:c=b
  .subst e;exact⟨by simp[setTag],by simp only[join,hone];rw[<-hob];exact hc⟩
  .obtain⟨t1,t2⟩:=h.keep c o (by unfold del;rw[if_neg e];exact hc) hn
   exact⟨by unfold setTag;rw[if_neg e];exact t1,by unfold join one;rw[if_neg e];exact t2⟩
 .by_cases e:c=b
  .subst e;exact⟨by simp[setTag],ob,by unfold join;rw[hone]⟩
  .obtain⟨t1,o',t2⟩:=h.old c o (by unfold del;rw[if_neg e];exact hc)
   exact⟨by unfold setTag;rw[if_neg e];exact t1,o',by unfold join one;rw[if_neg e];exact t2⟩
 .by_cases e:c=b
  .subst e;exact hs c _ hob
  .have:τ c=some o:=by unfold join one at hc;rw[if_neg e]at hc;exact hc
   exact(uN (h.sep c o this)).1
abbrev Str:=List UInt8
def S(l:Str):ByteArray:=⟨l.toArray⟩
def L(s:ByteArray):Str:=s.data.toList
@[simp] theorem L_S(l:Str):L (S l)=l:=rfl
@[simp] theorem S_L(s:ByteArray):S (L s)=s:=by cases s;rfl
theorem pL{a b:ByteArray}(h:L a=L b):a=b:=by rw[<-S_L a,h,S_L]
theorem ab9{a b:Str}:S a=S b↔a=b:=⟨fun h=>by have:=congrArg L h;simpa using this,fun h=>by rw[h]⟩
@[simp] theorem af5(l:Str):(S l).size=l.length:=rfl
theorem xz(s:ByteArray):(L s).length=s.size:=rfl
theorem ama(a b:ByteArray):L (a++b)=L a++L b:=by
 unfold L;rw[ByteArray.data_append,Array.toList_append]
theorem agE(a b:Str):S a++S b=S (a++b):=pL (by rw[ama];try rfl)
theorem acO(l:Str)(i j:Nat):(S l).extract i j=S ((l.take j).drop i):=by
 apply pL
 have:=Go.Lib.extract_data (S l) i j
 show((S l).extract i j).data.toList=_
 rw[this]
 simp[S,L,List.drop_take]
theorem att(s:ByteArray)(a b:Nat):s.extract a b=S (((L s).take b).drop a):=by
 conv=>lhs;rw[<-S_L s]
 rw[acO]
theorem atu(l:Str)(i:Nat):(S l)[i]?=l[i]?:=by
 by_cases h:i<l.length
 .rw[List.getElem?_eq_getElem h]
  rw[getElem?_pos (S l) i h]
  try rfl
 .rw[List.getElem?_eq_none (by omega),getElem?_neg (S l) i h]
theorem qc.quiet{R:Value->Prop}(h:qc P B ro f args (fun _=>none) fun v _=>R v)(hq:∀ v,R v->Q v I):qc P B ro f args I Q:=by
 have e:join (fun _=>none) I=I:=by funext b;rfl
 have:=qc.frame h (ψ:=I) (fun b o h=>by cases h)
 rw[e]at this
 refine this.drop ?_
 rintro v I' ⟨τ,rfl,hd,hr⟩
 exact⟨I,fun b o h=>pI hd h,hq v hr⟩
def an8(ro I:AH)(w:World):Prop:= ∀b o,rd ro I b=some o->w.heap[b]?=some o
def aje(w w':World)(N:AH):Prop:= ∀b o,N b=some o->w.heap.size<=b/\w'.heap[b]?=some o
theorem qc.of_calls
  (h:∀ w,an8 ro I w->Sep ro I->Calls P f args w fun e w'=> ∃v N,e= .returned v/\Go.RowKit.Below w.heap.size w w'/\aje w w' N/\Q v (join I N)):qc P B ro f args I Q:=by
 intro φ w ho
 refine(h w (fun b o hr=>ho.rd hr) ho.sep).mono ?_
 rintro e w' ⟨v,N,he,hb,hn,hq⟩
 have lt:∀ b o,w.heap[b]?=some o->w'.heap[b]?=some o/\N b=none:=fun b o hbo=>by
  have hlt:=wT hbo
  refine⟨by rw[hb.block b hlt];exact hbo,?_⟩
  cases hN:N b with
  | none=>rfl
  | some o'=>have:=(hn b o' hN).1;omega
 refine⟨v,_,he,hq,hb.os.trans ho.os,hb.tape.trans ho.tape,hb.output.trans ho.output,fun b o hj=>?_,fun b o hf=>(lt b o (ho.fr b o hf)).1,fun b o hf=>(lt b o (ho.ro b o hf)).1⟩
 rcases acM hj with h1 | ⟨_,h1⟩
 .obtain⟨h2,h3,h4⟩:=ho.own b o h1
  exact⟨(lt b o h2).1,h3,h4⟩
 .obtain⟨h2,h3⟩:=hn b o h1
  refine⟨h3,?_,?_⟩
  .cases hf:φ b with
   | none=>rfl
   | some o'=>have:=wT (ho.fr b o' hf);omega
  .cases hf:ro b with
   | none=>rfl
   | some o'=>have:=wT (ho.ro b o' hf);omega
theorem af6{w w':World}(r:Nat)(hs:an8 ro I w)(hsep:Sep ro I)(hg:w.heap.size<=g)(hw:w'.heap[g]?=some (.cells cs e)):
  ∃N tag',aje w w' N/\(∀R,qe R ro tag I tag' (join I N))/\∀ n c (l:List Value),n=l.length->c=cs.size->n<=c->cs.toList.take n=l->Row tag' (join I N) r e ⟨some ⟨g,0,none⟩,n,c⟩ l:=by
 have hσ:I g=none:=by
  cases h:I g with
  | none=>rfl
  | some o=>have:=wT (hs g o (by unfold rd;rw[hsep g o h];exact h));omega
 have hro:ro g=none:=by
  cases h:ro g with
  | none=>rfl
  | some o=>have:=wT (hs g o (by unfold rd;rw[h]));omega
 have e1:join I (fun b=>if b=g then some (.cells cs e)else none)=upd I g (.cells cs e):=by
  funext b;unfold join upd
  by_cases h:b=g
  .subst h;simp[hσ]
  .simp[h];cases I b<;>rfl
 refine⟨fun b=>if b=g then some (.cells cs e)else none,setTag tag g r,?_,?_,?_⟩
 .intro b o hb
  simp only at hb
  split at hb
  .rename_i h;subst h;cases hb;exact⟨hg,hw⟩
  .cases hb
 .intro R;rw[e1];exact qe.fresh hsep hro hσ
 .rintro n c l rfl rfl hn ht
  rw[e1]
  refine .inr ⟨g,cs,rfl,by simp[setTag],qE _ _ _,rfl,rfl,hn,fun i hi=>?_⟩
  have:l[i]?=cs.toList[i]?:=by
   conv=>lhs;rw[<-ht]
   rw[List.getElem?_take,if_pos hi]
  rw[this];simp
theorem aje.none(w w':World):aje w w' fun _=>none:=fun _ _ h=>by cases h
abbrev KV:=List (Str×Value)
def aeV:KV->Str->Value->KV
 | [],k,v=>[(k,v)]
 | (k',v')::r,k,v=>if k=k' then(k,v)::r else(k',v')::aeV r k v
def aeW:KV->Str->KV
 | [],_=>[]
 | (k',v')::r,k=>if k=k' then r else(k',v')::aeW r k
def ub(e:MapEntry):Value×Value:=(e.key,e.val)
def aeB(p:Str×Value):Value×Value:=(.string (S p.1),p.2)
structure akr(es:Array MapEntry)(clock:Nat):Prop where
 lt:∀ e∈es.toList,e.born<clock
 nd:(es.toList.map (·.born)).Nodup
structure zO(tag:Nat->Nat)(I:AH)(r b:Nat)(m:KV):Prop where
 tg:tag b=r
 obj:∃ es clock,I b=some (.map es clock)/\es.toList.map ub=m.map aeB/\akr es clock
theorem zO.keep{m:KV}(h:zO tag I r b m)(k:qe R ro tag I tag' I')(hr:r∉R:=by simp):zO tag' I' r b m:=by
 obtain⟨es,c,hb,hx⟩:=h.obj
 obtain⟨t,e⟩:=k.keep b _ hb (by rw[h.tg];exact hr)
 exact⟨t.trans h.tg,es,c,e,hx⟩
theorem ajf(a b:ByteArray):(a == b)=decide (a=b):=by
 cases a with | mk a=>cases b with | mk b=>
 show(a == b)=_
 rw[Bool.eq_iff_iff];simp
theorem afI(k:Str):∀ (l:List MapEntry) (m:KV) (i:Nat),l.map ub=m.map aeB->
  (m.lookup k=none/\aeW m k=m/\(∀v,aeV m k v=m++[(k,v)])/\Instr.findNow .string (.string (S k)) l i=some none)\/
  ∃j v,j<l.length/\m.lookup k=some v/\Instr.findNow .string (.string (S k)) l i=some (some (i+j,v))/\m[j]?=some (k,v)/\(∀v',aeV m k v'=m.set j (k,v'))/\aeW m k=m.eraseIdx j:=by
 intro l
 induction l with
 | nil=>
  intro m i h
  have:m=[]:=by simpa using h.symm
  subst this
  exact .inl ⟨rfl,rfl,fun _=>rfl,rfl⟩
 | cons e l ih=>
  intro m i h
  cases m with
  | nil=>simp at h
  | cons p m=>
   simp only[List.map_cons,List.cons.injEq]at h
   obtain⟨h1,h2⟩:=h
   have hk:e.key= .string (S p.1):=congrArg Prod.fst h1
   have hv:e.val=p.2:=congrArg Prod.snd h1
   obtain⟨pk,pv⟩:=p
   simp only at hk hv
   unfold Instr.findNow
   rw[hk]
   by_cases c:k=pk
   .subst c
    right
    refine⟨0,pv,by simp,by simp,?_,rfl,fun v'=>by simp[aeV],by simp[aeW]⟩
    simp[Instr.sameNow,hv,ajf]
   .have hne:Instr.sameNow .string (.string (S k)) (.string (S pk))=some false:=by
     simp[Instr.sameNow,ab9,c,ajf]
    rw[hne]
    simp only
    have hlk:List.lookup k ((pk,pv)::m)=m.lookup k:=by
     rw[List.lookup_cons]
     have:(k == pk)=false:=by simpa using c
     rw[this]
    rw[hlk]
    rcases ih m (i+1) h2 with⟨a,b,d,f⟩ | ⟨j,v,hj,a,f,g,q,w⟩
    .exact .inl ⟨a,by simp[aeW,c,b],fun v=>by simp[aeV,c,d],f⟩
    .exact .inr ⟨j+1,v,by simp;omega,a,by rw[f];congr 3;omega,by simpa using g,fun v'=>by simp[aeV,c,q],by simp[aeW,c,w]⟩
theorem ac2{em:Bool}{s:ByteArray}{f:Unit->Sem β}{K:β->AH->Prop}(hk:P.underlying kt=some .string)(h:awp P ro (f ()) K I):awp P ro (Sem.bind (Instr.checkKey em 10000 kt (.string s)) f) K I:=by
 rw[show(10000:Nat)=9999+1 from rfl]
 unfold Instr.checkKey
 simp only[qy]
 rw[bind_assoc',qw hk]
 exact h
theorem uc{s:ByteArray}{l:List MapEntry}{r:Option (Nat×Value)}{f:Option (Nat×Value)->Sem β}{K:β->AH->Prop}(hk:P.underlying kt=some .string)(hr:Instr.findNow .string (.string s) l 0=some r)(h:awp P ro (f r) K I):
  awp P ro (Sem.bind (Instr.findKey kt (.string s) l) f) K I:=by
 unfold Instr.findKey
 simp only[qy]
 rw[bind_assoc',qw hk]
 rw[hr]
 exact h
theorem jv{bt:Nat}{m:KV}{k:Str}{K:Value->AH->Prop}(hm:zO tag I r b m)(hs:Sep ro I)(ht:P.underlying t=some (.map kt et))(hk:P.underlying kt=some .string)(hz:qp P et zv n bt)
  (hK:K ((m.lookup k).getD zv) I):awp P ro (Instr.lookup t (.map (some b)) (.string (S k)) false) K I:=by
 obtain⟨es,clock,hb,he,hbn⟩:=hm.obj
 unfold Instr.lookup
 simp only[qy]
 rw[qw ht]
 simp only[bind_assoc']
 refine⟨.map es clock,by unfold rd;rw[hs b _ hb];exact hb,rfl,?_⟩
 refine ac2 hk ?_
 rcases afI k es.toList m 0 he with⟨a,_,_,f⟩ | ⟨j,v,hj,a,f,_⟩
 .refine uc hk f ?_
  simp only[bind_assoc']
  rw[aaW hz]
  rw[a]at hK
  exact hK
 .refine uc hk f ?_
  rw[a]at hK
  exact hK
theorem kh{o o':Obj}(hs:Sep ro I)(ht:tag b=r)(hb:I b=some o):qe [r] ro tag I tag (upd I b o'):=by
 refine⟨fun c x hc hn=>?_,fun c x hc=>⟨rfl,?_⟩,fun c x hc=>?_⟩
 .have:c≠b:=fun h=>hn (by simp[h,ht])
  exact⟨rfl,by rw[yS _ _ this];exact hc⟩
 .by_cases h:c=b
  .exact⟨_,by rw[h];exact qE _ _ _⟩
  .exact⟨x,by rw[yS _ _ h];exact hc⟩
 .by_cases h:c=b
  .exact hs c _ (by rw[h];exact hb)
  .rw[yS _ _ h]at hc;exact hs c _ hc
theorem abp{m:KV}{k:Str}{K:Unit->AH->Prop}(hm:zO tag I r b m)(hs:Sep ro I)(ht:P.underlying t=some (.map kt et))(hk:P.underlying kt=some .string)
  (hK:∀ I',qe [r] ro tag I tag I'->zO tag I' r b (aeV m k v)->K () I'):awp P ro (Instr.mapUpdate t (.map (some b)) (.string (S k)) v) K I:=by
 obtain⟨es,clock,hb,he,hbn⟩:=hm.obj
 unfold Instr.mapUpdate
 simp only[qy]
 rw[qw ht]
 refine⟨.map es clock,by unfold rd;rw[hs b _ hb];exact hb,rfl,?_⟩
 refine ac2 hk ?_
 rcases afI k es.toList m 0 he with⟨a,_,d,f⟩ | ⟨j,u,hj,a,f,g,q,_⟩
 .refine uc hk f ?_
  refine⟨.map es clock,hb,rfl,?_⟩
  refine hK _ (kh hs hm.tg hb) ⟨hm.tg,_,_,qE _ _ _,?_,?_,?_⟩
  .rw[d v,Array.toList_push,List.map_append,List.map_append,he];try rfl
  .intro e he'
   rw[Array.toList_push]at he'
   rcases List.mem_append.1 he' with h | h
   .have:=hbn.lt e h;omega
   .rw[List.mem_singleton]at h;rw[h];exact Nat.lt_succ_self _
  .rw[Array.toList_push,List.map_append,List.nodup_append]
   refine⟨hbn.nd,by simp,?_⟩
   intro x hx y hy
   obtain⟨e,he',rfl⟩:=List.mem_map.1 hx
   have:=hbn.lt e he'
   simp at hy;omega
 .refine uc hk f ?_
  have hje:j<es.size:=by simpa using hj
  have hkey:es[j].key= .string (S k):=by
   have h1:(es.toList.map ub)[j]?=(m.map aeB)[j]?:=by rw[he]
   rw[List.getElem?_map,List.getElem?_map,g,List.getElem?_eq_getElem hj]at h1
   have:=Option.some.inj h1
   exact congrArg Prod.fst this
  have hst:(((es[0+j]?).map (·.key)).getD (.string (S k)))= .string (S k):=by
   rw[Nat.zero_add,Array.getElem?_eq_getElem hje]
   exact hkey
  simp only
  rw[hst]
  have hkt:Instr.keyThatStays (.string (S k)) (.string (S k))=Sem.pure (.string (S k)):=by
   unfold Instr.keyThatStays
   rw[if_pos (by simp[Instr.sameBits,ajf])];try rfl
  rw[hkt]
  refine⟨.map es clock,hb,rfl,?_⟩
  have hml:(es.modify (0+j) fun e=>{e with key:= .string (S k),val:=v}).toList=es.toList.modify j fun e=>{e with key:= .string (S k),val:=v}:=by
   rw[Nat.zero_add];exact Array.toList_modify ..
  refine hK _ (kh hs hm.tg hb) ⟨hm.tg,_,_,qE _ _ _,?_,?_,?_⟩
  .rw[hml,q v]
   apply List.ext_getElem?
   intro i
   rw[List.getElem?_map,List.getElem?_map,List.getElem?_modify,List.getElem?_set]
   have hi:(es.toList.map ub)[i]?=(m.map aeB)[i]?:=by rw[he]
   rw[List.getElem?_map,List.getElem?_map]at hi
   by_cases c:j=i
   .subst c
    have hjm:j<m.length:=by
     rcases Nat.lt_or_ge j m.length with h | h
     .exact h
     .rw[List.getElem?_eq_none h]at g;cases g
    rw[if_pos rfl,if_pos hjm,List.getElem?_eq_getElem hj]
    simp[ub,aeB]
   .rw[if_neg c]
    simp only[c,if_false]
    cases h:es.toList[i]? with
    | none=>rw[h]at hi;simpa using hi
    | some e=>rw[h]at hi;simpa using hi
  .intro e he'
   rw[hml]at he'
   obtain⟨i,hi,rfl⟩:=List.getElem_of_mem he'
   rw[List.getElem_modify]
   rw[List.length_modify]at hi
   split
   .have:=hbn.lt _ (List.getElem_mem hi)
    exact this
   .have:=hbn.lt _ (List.getElem_mem hi)
    exact this
  .rw[hml]
   have:(es.toList.modify j fun e=>{e with key:= .string (S k),val:=v}).map (·.born)=es.toList.map (·.born):=by
    apply List.ext_getElem?
    intro i
    rw[List.getElem?_map,List.getElem?_map,List.getElem?_modify]
    by_cases c:j=i
    .subst c;rw[List.getElem?_eq_getElem hj];simp
    .simp[c]
   rw[this];exact hbn.nd
theorem aks{u:TypeId}{m:KV}{k:Str}{K:Value->AH->Prop}(hm:zO tag I r b m)(hs:Sep ro I)(ht:P.underlying t=some (.map kt et))(hk:P.underlying kt=some .string)
  (hK:∀ I',qe [r] ro tag I tag I'->zO tag I' r b (aeW m k)->K (.tuple #[]) I'):awp P ro (Builtin.delete_ #[t,u] ty #[.map (some b),.string (S k)]) K I:=by
 obtain⟨es,clock,hb,he,hbn⟩:=hm.obj
 unfold Builtin.delete_
 simp only[qy]
 show awp P ro (Sem.bind (underlying t) _) K I
 rw[qw ht]
 show awp P ro (Sem.bind (getObj b) _) K I
 refine⟨.map es clock,by unfold rd;rw[hs b _ hb];exact hb,rfl,?_⟩
 refine ac2 hk ?_
 rcases afI k es.toList m 0 he with⟨a,d,_,f⟩ | ⟨j,u,hj,a,f,g,_,w⟩
 .refine uc hk f ?_
  refine⟨.map es clock,hb,rfl,?_⟩
  refine hK _ (kh hs hm.tg hb) ⟨hm.tg,_,_,qE _ _ _,?_,hbn⟩
  rw[d];exact he
 .refine uc hk f ?_
  refine⟨.map es clock,hb,rfl,?_⟩
  have hje:j<es.size:=by simpa using hj
  have hel:(es.eraseIdxIfInBounds (0+j)).toList=es.toList.eraseIdx j:=by
   rw[Nat.zero_add]
   simp[Array.eraseIdxIfInBounds,hje]
  refine hK _ (kh hs hm.tg hb) ⟨hm.tg,_,_,qE _ _ _,?_,?_,?_⟩
  .rw[hel,w]
   have h1:∀ (l:List MapEntry) (j:Nat),(l.eraseIdx j).map ub=(l.map ub).eraseIdx j:=fun l j=>by
    induction l generalizing j with
    | nil=>simp
    | cons x l ih=>cases j<;>simp[ih]
   have h2:∀ (l:KV) (j:Nat),(l.eraseIdx j).map aeB=(l.map aeB).eraseIdx j:=fun l j=>by
    induction l generalizing j with
    | nil=>simp
    | cons x l ih=>cases j<;>simp[ih]
   rw[h1,h2,he]
  .intro e he'
   rw[hel]at he'
   exact hbn.lt e ((List.eraseIdx_sublist ..).subset he')
  .rw[hel]
   exact List.Nodup.sublist ((List.eraseIdx_sublist ..).map _) hbn.nd
theorem aoX(r:Nat)(hs:Sep ro I)(hK:∀ b tag' I',(∀R,qe R ro tag I tag' I')->zO tag' I' r b []->K b I'):nw ro I (.map #[] 0) K:=by
 intro b hro hb
 exact hK b (setTag tag b r) _ (fun R=>qe.fresh hs hro hb) ⟨by simp[setTag],_,_,qE _ _ _,rfl,by simp,by simp⟩
def zw(ro I:AH)(s:Sl)(l:List Value):Prop:=s.len=l.length/\(s.a=none->l=[])/\∀ p,s.a=some p->∀ i v,l[i]?=some v->qa ro I (p.add i)=some v
theorem Row.read(h:Row tag I r e s l)(hs:Sep ro I):zw ro I s l:=by
 refine⟨h.len,fun hn=>?_,fun p hp i v hv=>?_⟩
 .rcases h with⟨_,h⟩ | ⟨b,cs,ha,_⟩
  .exact h
  .rw[hn]at ha;cases ha
 .have hl:0<l.length:=by
   rcases Nat.eq_zero_or_pos l.length with h0 | h0
   .rw[List.eq_nil_of_length_eq_zero h0]at hv;cases hv
   .exact h0
  obtain⟨q,hq,hg⟩:=h.ptr hs hl
  rw[hp]at hq;cases hq
  have:=hg i v hv
  rwa [Nat.mul_one]at this
theorem zw.keep(h:zw ro (fun _=>none) s l):zw ro I s l:=by
 refine⟨h.1,h.2.1,fun p hp i v hv=>?_⟩
 have:=h.2.2 p hp i v hv
 unfold qa rd at this⊢
 cases e:ro (p.add i).block with
 | none=>rw[e]at this;simp[vy]at this
 | some o=>rw[e]at this;exact this
theorem zw.step(h:zw ro I s l)(k:qe [] ro tag I tag' I'):zw ro I' s l:=by
 refine⟨h.1,h.2.1,fun p hp i v hv=>?_⟩
 have:=h.2.2 p hp i v hv
 unfold qa rd at this⊢
 cases e:ro (p.add i).block with
 | some o=>rw[e]at this;exact this
 | none=>
  rw[e]at this
  simp only at this⊢
  cases e2:I (p.add i).block with
  | none=>rw[e2]at this;simp[vy]at this
  | some o=>rw[(k.keep _ o e2 (by simp)).2];rw[e2]at this;exact this
theorem aeP{o:Nat}{K:AH->Prop}:∀ (vs:List Value) (cs:Array Value) (i:Nat) (I:AH),I b=some (.cells cs e)->o+i+vs.length<=cs.size->(∀v∈vs,qh v=true)->
  (∀cs':Array Value,cs'.size=cs.size->(∀j,j<o+i->cs'[j]?=cs[j]?)->(∀j v,vs[j]?=some v->cs'[o+i+j]?=some v)->K (upd I b (.cells cs' e)))->stN ⟨b,o,none⟩ K vs i I:=by
 intro vs
 induction vs with
 | nil=>
  intro cs i I hb _ _ hK
  have:=hK cs rfl (fun _ _=>rfl) (fun j v h=>by cases h)
  have e:upd I b (.cells cs e)=I:=by
   funext c;unfold upd;split
   .rename_i h;rw[h,hb]
   .rfl
  rw[e]at this;exact this
 | cons x vs ih=>
  intro cs i I hb hsz hst hK
  simp only[List.length_cons]at hsz
  refine⟨hst x (by simp),by simp,cs,e,(0,0),?_,?_,?_,?_⟩
  .simpa using hb
  .simp;omega
  .simp
  .simp only[vn]
   refine ih _ (i+1) _ (qE _ _ _) (by simp;omega) (fun v hv=>hst v (by simp[hv])) fun cs' h1 h2 h3=>?_
   rw[aiu]
   refine hK cs' (by simpa using h1) (fun j hj=>?_) fun j v hj=>?_
   .rw[h2 j (by omega),Array.getElem?_setIfInBounds_ne (by omega)]
   .rcases j with _ | j
    .cases hj
     rw[Nat.add_zero,h2 (o+i) (by omega),Array.getElem?_setIfInBounds_self_of_lt (by omega)]
    .rw[show o+i+(j+1)=o+(i+1)+j by omega];exact h3 j v hj
theorem abP{s2:Sl}{l2:List Value}(h:Row tag I r e s l)(hs:Sep ro I)(h2:zw ro I s2 l2)
  (ht:P.underlying t=some (.slice e)) (hz:qp P e zv 1 bytes) (hzc:zv.cells= #[zv]) (hv:∀ v∈l2,qh v=true) (hb:(l.length+l2.length)*bytes<=140737488355328) (hb0:0<bytes)
  (hK:∀ s' tag' I',(∀R,s.len=s.cap\/r∈R->qe R ro tag I tag' I')->Row tag' I' r e s' (l++l2)->Q (Sl.v s') I'):
  awp P ro (Builtin.append_ #[t,t] ty #[Sl.v s,Sl.v s2]) Q I:=by
 obtain⟨i,hi,hiz,his,hib⟩:=hz
 have hz:qp P e zv 1 bytes:=⟨i,hi,hiz,his,hib⟩
 have g0:(#[t,t]:Array TypeId)[0]?=some t:=rfl
 have g1:(#[t,t]:Array TypeId)[1]?=some t:=rfl
 have g2:(#[Value.slice s.a s.len s.cap,Value.slice s2.a s2.len s2.cap]:Array Value)[0]?=some (Value.slice s.a s.len s.cap):=rfl
 have g3:(#[Value.slice s.a s.len s.cap,Value.slice s2.a s2.len s2.cap]:Array Value)[1]?=some (Value.slice s2.a s2.len s2.cap):=rfl
 have hln:=h2.1
 have hld:∀ {β:Type} (f:Array Value->Sem β) (Q:β->AH->Prop),awp P ro (f l2.toArray) Q I->awp P ro (Sem.bind (Builtin.firstCells 1 s2.len (.slice s2.a s2.len s2.cap)) f) Q I:=by
  intro β f Q hf
  cases hsa:s2.a with
  | none=>
   rw[h2.2.1 hsa]at hf
   exact hf
  | some p=>
   rw[show Sem.bind (Builtin.firstCells 1 s2.len (.slice (some p) s2.len s2.cap)) f=(loadCells p (s2.len*1)) >>= f from rfl,vA,Nat.mul_one,hln]
   exact jc l2 0 #[] (zu 0 fun j v hj=>by rw[Nat.zero_add];exact h2.2.2 p hsa j v hj) (by simpa using hf)
 unfold Builtin.append_
 simp only[Sl.v,qy,qV,g0,g1,g2,g3]
 rw[qw ht]
 simp only[]
 rw[adu hz]
 rw[qw ht]
 simp only[wN,Builtin.lenOf,qy,qV,Bool.false_eq_true,if_false,Bool.not_false,if_true,false_or]
 split
 .rename_i hroom
  refine hld _ _ ?_
  rcases h with⟨rfl,rfl⟩ | ⟨b,cs,ha,htg,hbk,hln1,hcp,hle,hg⟩
  .have h0:l2=[]:=List.eq_nil_of_length_eq_zero (by simp at hroom;omega)
   subst h0
   have hs2:s2.len=0:=hln
   show Q (.slice none (0+s2.len) 0) I
   rw[hs2]
   exact hK ⟨none,0,0⟩ tag I (fun _ _=>qe.refl hs) (.inl ⟨rfl,rfl⟩)
  .have h':Row tag I r e s l:= .inr ⟨b,cs,ha,htg,hbk,hln1,hcp,hle,hg⟩
   by_cases h0:l2=[]
   .subst h0
    have hs2:s2.len=0:=hln
    simp only[ha]
    show Q (Value.slice (some ⟨b,0,none⟩) (s.len+s2.len) s.cap) I
    rw[hs2,Nat.add_zero]
    have:=hK s tag I (fun _ _=>qe.refl hs) (by rw[List.append_nil];exact h')
    unfold Sl.v at this
    rw[ha]at this;exact this
   have hpos:=List.length_pos_iff.2 h0
   simp only[ha]
   show awp P ro (storeCells (Addr.add ⟨b,0,none⟩ (s.len*1)) l2 >>= fun _=>Sem.pure (Value.slice (some ⟨b,0,none⟩) (s.len+s2.len) s.cap)) Q I
   rw[vA,vn,Nat.mul_one,Nat.zero_add]
   refine jt l2 0 I (aeP l2 cs 0 I hbk (by omega) hv fun cs' c1 c2 c3=>?_)
   show Q (Value.slice (some ⟨b,0,none⟩) (s.len+s2.len) s.cap) _
   refine hK ⟨some ⟨b,0,none⟩,s.len+s2.len,s.cap⟩ tag _ (fun R hR=>(kh hs htg hbk).mono fun x hx=>by rw[List.mem_singleton]at hx;rw[hx];exact hR.resolve_left (by omega)) (.inr ⟨b,cs',rfl,htg,qE _ _ _,by simp[hln1,hln],by rw[c1];exact hcp,hroom,fun i hi=>?_⟩)
   simp at hi
   rcases Nat.lt_or_ge i l.length with hh | hh
   .rw[c2 i (by omega),List.getElem?_append_left hh];exact hg i hh
   .rw[List.getElem?_append_right hh]
    have:=c3 (i - l.length) _ (List.getElem?_eq_getElem (by omega))
    rw[List.getElem?_eq_getElem (by omega),<-this]
    congr 1;omega
 .rename_i hroom
  rw[vF hi]
  rw[if_neg (by rw[hib];omega)]
  rw[vF hi]
  have hl:=h.len
  rw[if_neg (by rw[hib];have:=growslice_fits (need:=s.len+s2.len) (old:=s.cap) (bytes:=bytes) (by omega) (by rw[hl,hln];exact hb);omega)]
  refine agD rfl (fun n=>?_)
  rw[vF hi]
  refine afG ?_
  have hcut:s.len+s2.len<=(Question.appendCap (s.len+s2.len) s.cap e).cut n:=by simp only[Question.cut];omega
  generalize (Question.appendCap (s.len+s2.len) s.cap e).cut n=N at hcut
  refine ak7 h hs ?_
  refine hld _ _ ?_
  rw[aaW hz]
  rw[hzc]
  show∀b,ro b=none->I b=none->Q (Value.slice (some ⟨b,0,none⟩) (s.len+s2.len) N) (upd I b _)
  intro b hro hb
  refine hK ⟨some ⟨b,0,none⟩,s.len+s2.len,N⟩ (setTag tag b r) _ (fun _ _=>qe.fresh hs hro hb) (.inr ⟨b,_,rfl,by simp[setTag],qE _ _ _,by simp[hl,hln],?_,hcut,fun i hi=>?_⟩)
  .simp[Builtin.zeroCells];omega
  .simp at hi
   rw[Array.getElem?_append_left (by simp;omega)]
   simp
theorem afr(r:Nat->Nat)(hs:Sep ro I)
  (hK:∀ b tag' I',ro b=none->I b=none->(∀R,qe R ro tag I tag' I')->Row tag' I' (r b) e ⟨some ⟨b,0,none⟩,cs.size,cs.size⟩ cs.toList->K b I'):nw ro I (.cells cs e) K:=by
 intro b hro hb
 exact hK b (setTag tag b (r b)) _ hro hb (fun R=>qe.fresh hs hro hb) (.inr ⟨b,_,rfl,by simp[setTag],qE _ _ _,by simp,rfl,Nat.le_refl _,fun i hi=>by simp⟩)
def zF(c:Nat)(ro:AH)(tag:Nat->Nat)(I:AH)(tag':Nat->Nat)(I':AH):Prop:= ∃R:List Nat,(∀x∈R,x%64=c)/\qe R ro tag I tag' I'
theorem qe.c{c:Nat}(h:qe R ro tag I tag' I')(hR:∀ x∈R,x%64=c):zF c ro tag I tag' I':=⟨R,hR,h⟩
theorem zF.sep{c:Nat}(h:zF c ro tag I tag' I'):Sep ro I':=by obtain⟨_,_,h⟩:=h;exact h.sep
theorem zF.trans{c:Nat}(h:zF c ro tag I tag' I')(k:zF c ro tag' I' tag'' I''):zF c ro tag I tag'' I'':=by
 obtain⟨R,h1,h2⟩:=h
 obtain⟨R',k1,k2⟩:=k
 refine⟨R++R',fun x hx=>?_,(h2.mono fun r hr=>by simp[hr]).trans (k2.mono fun r hr=>by simp[hr])⟩
 rcases List.mem_append.1 hx with h | h
 .exact h1 x h
 .exact k1 x h
theorem zF.refl{c:Nat}(h:Sep ro I):zF c ro tag I tag I:=⟨[],by simp,qe.refl h⟩
theorem Row.keepC{c:Nat}(h:Row tag I r e s l)(k:zF c ro tag I tag' I')(hr:r%64≠c:=by decide):Row tag' I' r e s l:=by
 obtain⟨R,h1,h2⟩:=k
 exact h.keep h2 fun m=>hr (h1 _ m)
theorem zO.keepC{c:Nat}{m:KV}(h:zO tag I r b m)(k:zF c ro tag I tag' I')(hr:r%64≠c:=by decide):zO tag' I' r b m:=by
 obtain⟨R,h1,h2⟩:=k
 exact h.keep h2 fun m=>hr (h1 _ m)
theorem arY(b c:Nat):rd (join ro (one I b)) (SL.del I b) c=rd ro I c:=by
 unfold rd join one SL.del
 cases h:ro c with
 | some o=>rfl
 | none=>
  by_cases e:c=b
  .subst e;simp only[if_true];cases I c<;>rfl
  .simp[e]
theorem zw.lent(b:Nat)(h:zw ro I s l):zw (join ro (one I b)) (SL.del I b) s l:=
 ⟨h.1,h.2.1,fun p hp i v hv=>by have:=h.2.2 p hp i v hv;unfold qa at this ⊢;rw[arY];exact this⟩
theorem zO.del{c:Nat}{m:KV}(h:zO tag I r b m)(hc:tag c≠r):zO tag (SL.del I c) r b m:=by
 obtain⟨es,k,hb,hx⟩:=h.obj
 refine⟨h.tg,es,k,?_,hx⟩
 have:b≠c:=fun e=>hc (by rw[<-e];exact h.tg)
 unfold SL.del;rw[if_neg this];exact hb
theorem zO.back{c:Nat}{m:KV}(h:zO tag' τ r b m)(hd:qP (one I c) τ)(hb:∃ o,I c=some o):zO (setTag tag' c r') (join (one I c) τ) r b m:=by
 obtain⟨es,k,hs,hx⟩:=h.obj
 have hcb:b≠c:=fun e=>by
  obtain⟨o,ho⟩:=hb
  have:=hd c o (by unfold one;rw[if_pos rfl];exact ho)
  rw[<-e,hs]at this;cases this
 exact⟨by unfold setTag;rw[if_neg hcb];exact h.tg,es,k,by unfold join one;rw[if_neg hcb];exact hs,hx⟩
theorem Row.stAll{c:Nat}{K:AH->Prop}(h:Row tag I r e ⟨some ⟨b,0,none⟩,n,c⟩ l)(hs:Sep ro I)(hl:vs.length=l.length)(hv:∀ v∈vs,qh v=true)
  (hK:∀ I',qe [r] ro tag I tag I'->Row tag I' r e ⟨some ⟨b,0,none⟩,n,c⟩ vs->K I'):stN ⟨b,0,none⟩ K vs 0 I:=by
 rcases h with⟨h,_⟩ | ⟨b',cs,ha,ht,hb,hln,hc,hle,hg⟩
 .cases h
 .cases ha
  refine aeP vs cs 0 I hb (by simp at hln hc hle;omega) hv fun cs' c1 _ c3=>?_
  refine hK _ (kh hs ht hb) (.inr ⟨b,cs',rfl,ht,qE _ _ _,by rw[hl];exact hln,by rw[c1];exact hc,hle,fun i hi=>?_⟩)
  have:=c3 i _ (List.getElem?_eq_getElem hi)
  rw[List.getElem?_eq_getElem hi,<-this];congr 1;omega
end SL
namespace SL
open Go
variable{P:Program}{W:World}
def Arg(P:Program)(W:World)(H:Type)(enc:TypeId×Value->H)(t:TypeId)(cs:List Value):Prop:=
 ∃(fuel:Nat) (d:DataW H) (ps:List MemPlace),DataW.trod enc P W 0 (fun _=>true) true fuel t cs=some (d,ps)/\(d.weights P t).all (· <=reachBytes)=true
variable{H:Type}{enc:TypeId×Value->H}
theorem akt{e:TypeId}:∀ {l:List (DataW H)} {d:DataW H},d∈l->(DataW.weightsAll P e l).all (· <=reachBytes)=true->(d.weights P e).all (· <=reachBytes)=true:=by
 intro l
 induction l with
 | nil=>intro d h;cases h
 | cons x l ih=>
  intro d h hw
  rw[DataW.weightsAll,List.all_append,Bool.and_eq_true]at hw
  rcases List.mem_cons.1 h with rfl | h
  .exact hw.1
  .exact ih h hw.2
theorem ajS:∀ {ts:List TypeId} {l:List (DataW H)} {i:Nat} {t:TypeId} {d:DataW H},ts[i]?=some t->l[i]?=some d->(DataW.weightsEach P ts l).all (· <=reachBytes)=true->(d.weights P t).all (· <=reachBytes)=true:=by
 intro ts
 induction ts with
 | nil=>intro l i t d h;cases h
 | cons t' ts ih=>
  intro l i t d ht hd hw
  cases l with
  | nil=>cases hd
  | cons x l=>
   rw[DataW.weightsEach,List.all_append,Bool.and_eq_true]at hw
   cases i with
   | zero=>cases ht;cases hd;exact hw.1
   | succ i=>exact ih (by simpa using ht) (by simpa using hd) hw.2
theorem Arg.slice{t e:TypeId}{a:Option Addr}{len cap:Nat}(ht:P.underlying t=some (.slice e))(h:Arg P W H enc t [.slice a len cap]):
  (a=none/\len=0/\cap=0)\/∃ x,a=some x/\len<=cap/\cap*P.bytesOf e<=reachBytes/\∀ j,j<len->∃ cs,cs.length=P.cellsOf e/\(∀i,i<P.cellsOf e->W.cell? ((x.add (j*P.cellsOf e)).add i)=cs[i]?)/\Arg P W H enc e cs:=by
 obtain⟨fuel,d,ps,hf,hw⟩:=h
 rcases Go.Deep.open_slice ht hf with⟨hcs,_⟩ | ⟨x,l,c,m,n,D,Pl,hcs,_,hl,_,hm,hx,hel⟩
 .simp at hcs;exact .inl hcs
 .simp at hcs
  obtain⟨rfl,rfl,rfl⟩:=hcs
  simp only[Prod.mk.injEq]at hx
  rw[hx.1]at hw
  rw[DataW.weights,ht]at hw
  simp only[List.all_cons,List.all_append,Bool.and_eq_true,decide_eq_true_eq,List.length_map,List.length_range]at hw
  refine .inr ⟨x,rfl,hl,?_,fun j hj=>?_⟩
  .have:len+(m - len)=cap:=by simp at hm;omega
   rw[this]at hw;exact hw.1
  .obtain⟨cs,h1,h2⟩:=hel j (by simp at hm;omega)
   obtain⟨_,h3,h4⟩:=World.cells?_some h1
   exact⟨cs,h3,h4,n,D j,Pl j,h2,akt (List.mem_map.2 ⟨j,List.mem_range.2 hj,rfl⟩) hw.2.1⟩
end SL
namespace G
open Go SL
variable{B:World}{ro I:AH}
theorem _root_.Go.Proofs.Tryz.mixed:prog.follows .mixedOrders=true:=by kernel_rfl
theorem ty3:qp prog 3 (.int .i64 0) 1 8:=qp.of (by kernel_rfl)
theorem ty4:qp prog 4 (.bool false) 1 1:=qp.of (by kernel_rfl)
theorem ty5:qp prog 5 (.int .u8 0) 1 1:=qp.of (by kernel_rfl)
theorem ty9:qp prog 9 (.string ByteArray.empty) 1 16:=qp.of (by kernel_rfl)
theorem adv:qp prog 22 (.int .i64 0) 1 8:=qp.of (by kernel_rfl)
theorem aee:qp prog 23 (.slice none 0 0) 1 24:=qp.of (by kernel_rfl)
theorem wO:qp prog 24 (.slice none 0 0) 1 24:=qp.of (by kernel_rfl)
theorem wA:qp prog 26 (.agg #[.int .i64 0,.int .i64 0,.int .i64 0,.int .i64 0]) 4 32:=qp.of (by kernel_rfl)
theorem ajg:qp prog 27 (.slice none 0 0) 1 24:=qp.of (by kernel_rfl)
theorem uQ:qp prog 28 (.slice none 0 0) 1 24:=qp.of (by kernel_rfl)
theorem qM:qp prog 30 (.agg #[.int .i64 0,.int .i64 0,.slice none 0 0,.int .i64 0,.slice none 0 0,.int .i64 0,.int .i64 0,.int .i64 0,.int .i64 0,.slice none 0 0,.slice none 0 0,.int .i64 0]) 12 160:=qp.of (by kernel_rfl)
theorem asQ:qp prog 54 (.slice none 0 0) 1 24:=qp.of (by kernel_rfl)
theorem ajh:qp prog 55 (.slice none 0 0) 1 24:=qp.of (by kernel_rfl)
theorem aaY:qp prog 57 (.agg #[.int .i64 0,.string ByteArray.empty,.int .i64 0,.int .i64 0,.int .i64 0,.int .i64 0,.int .i64 0,.int .i64 0,.slice none 0 0,.string ByteArray.empty,.bool false,.int .i64 0,.slice none 0 0]) 13 152:=qp.of (by kernel_rfl)
theorem ac3:qp prog 61 (.pointer none) 1 8:=qp.of (by kernel_rfl)
theorem acl:qp prog 66 (.agg #[.int .i64 0,.int .i64 0]) 2 16:=qp.of (by kernel_rfl)
theorem an9:qp prog 70 (.agg #[.int .i64 0,.int .i64 0]) 2 16:=qp.of (by kernel_rfl)
theorem ahO:qp prog 72 (.agg #[.int .i64 0,.string ByteArray.empty,.slice none 0 0,.int .i64 0,.bool false,.bool false]) 6 64:=qp.of (by kernel_rfl)
theorem zX:qp prog 81 (.agg #[.string ByteArray.empty,.int .i64 0]) 2 24:=qp.of (by kernel_rfl)
theorem at3:qp prog 83 (.agg #[.string ByteArray.empty,.int .i64 0,.int .i64 0,.int .i64 0,.int .i64 0,.int .i64 0,.slice none 0 0]) 7 80:=qp.of (by kernel_rfl)
theorem adM:qp prog 128 (.agg #[.string ByteArray.empty,.int .i64 0]) 2 24:=qp.of (by kernel_rfl)
theorem jD:qp prog 132 (.agg #[.int .i64 0,.int .i64 0,.string ByteArray.empty]) 3 32:=qp.of (by kernel_rfl)
theorem aeC:qp prog 149 (.agg #[.int .i64 0,.slice none 0 0]) 2 32:=qp.of (by kernel_rfl)
theorem agF:qp prog 150 (.pointer none) 1 8:=qp.of (by kernel_rfl)
theorem aeD:qp prog 151 (.pointer none) 1 8:=qp.of (by kernel_rfl)
theorem atv:qp prog 153 (.agg #[.int .i64 0,.slice none 0 0,.pointer none,.pointer none,.pointer none]) 5 56:=qp.of (by kernel_rfl)
theorem aoa:qp prog 168 (.agg #[.int .i64 0,.int .i64 0,.int .i64 0,.int .i64 0,.slice none 0 0]) 5 56:=qp.of (by kernel_rfl)
theorem alZ:qp prog 215 (.int .i8 0) 1 1:=qp.of (by kernel_rfl)
theorem al0:qp prog 217 (.agg #[.slice none 0 0,.int .i64 0,.int .i8 0]) 3 40:=qp.of (by kernel_rfl)
theorem afs:qp prog 219 (.agg #[.slice none 0 0,.int .i64 0,.int .i8 0,.bool false]) 4 48:=qp.of (by kernel_rfl)
theorem atw:qp prog 221 (.agg #[.slice none 0 0,.int .i64 0,.int .i8 0,.bool false]) 4 48:=qp.of (by kernel_rfl)
theorem atx:qp prog 231 (.agg #[.slice none 0 0,.int .i64 0]) 2 32:=qp.of (by kernel_rfl)
theorem aaM:qp prog 237 (.map none) 1 8:=qp.of (by kernel_rfl)
theorem al1:qp prog 239 (.agg #[.map none]) 1 8:=qp.of (by kernel_rfl)
theorem agG:qp prog 240 (.map none) 1 8:=qp.of (by kernel_rfl)
theorem aty:qp prog 242 (.agg #[.map none]) 1 8:=qp.of (by kernel_rfl)
theorem aft:qp prog 243 (.map none) 1 8:=qp.of (by kernel_rfl)
theorem atz:qp prog 245 (.agg #[.map none]) 1 8:=qp.of (by kernel_rfl)
theorem aeE:qp prog 252 (.map none) 1 8:=qp.of (by kernel_rfl)
theorem atA:qp prog 254 (.agg #[.int .i64 0,.map none]) 2 16:=qp.of (by kernel_rfl)
theorem agH:qp prog 258 (.slice none 0 0) 1 24:=qp.of (by kernel_rfl)
theorem agI:qp prog 307 (.agg #[.slice none 0 0,.int .i64 0,.int .i64 0]) 3 40:=qp.of (by kernel_rfl)
theorem aiv:qp prog 308 (.map none) 1 8:=qp.of (by kernel_rfl)
theorem atB:qp prog 310 (.agg #[.slice none 0 0,.int .i64 0,.int .i64 0,.map none]) 4 48:=qp.of (by kernel_rfl)
theorem ac4:qp prog 314 (.agg #[.string ByteArray.empty,.int .i64 0]) 2 24:=qp.of (by kernel_rfl)
theorem abq:qp prog 336 (.agg #[.int .i64 0,.string ByteArray.empty]) 2 24:=qp.of (by kernel_rfl)
theorem jg:qp prog 348 (.agg #[.slice none 0 0,.slice none 0 0,.int .i64 0]) 3 56:=qp.of (by kernel_rfl)
theorem atC:qp prog 410 (.agg #[.slice none 0 0,.slice none 0 0,.int .i64 0,.pointer none,.string ByteArray.empty,.int .i64 0,.int .i64 0,.int .i64 0]) 8 104:=qp.of (by kernel_rfl)
theorem aqj:wP prog [{name:= "Version",type:=3,offset:=0,embedded:=false,tag:= "",pkgPath:= "",byteOffset:=0},{name:= "Counter",type:=3,offset:=1,embedded:=false,tag:= "",pkgPath:= "",byteOffset:=8},{name:= "Owner",type:=3,offset:=2,embedded:=false,tag:= "",pkgPath:= "",byteOffset:=16},{name:= "Children",type:=3,offset:=3,embedded:=false,tag:= "",pkgPath:= "",byteOffset:=24}] [(0,1),(1,1),(2,1),(3,1)]:=⟨⟨rfl,_,_,ty3⟩,⟨⟨rfl,_,_,ty3⟩,⟨⟨rfl,_,_,ty3⟩,⟨⟨rfl,_,_,ty3⟩,trivial⟩⟩⟩⟩
theorem aeX:wP prog [{name:= "Code",type:=22,offset:=0,embedded:=false,tag:= "",pkgPath:= "",byteOffset:=0},{name:= "Session",type:=3,offset:=1,embedded:=false,tag:= "",pkgPath:= "",byteOffset:=8},{name:= "Results",type:=23,offset:=2,embedded:=false,tag:= "",pkgPath:= "",byteOffset:=16},{name:= "Bad",type:=3,offset:=3,embedded:=false,tag:= "",pkgPath:= "",byteOffset:=40},{name:= "Data",type:=24,offset:=4,embedded:=false,tag:= "",pkgPath:= "",byteOffset:=48},{name:= "Stat",type:=26,offset:=5,embedded:=false,tag:= "",pkgPath:= "",byteOffset:=72},{name:= "Names",type:=27,offset:=9,embedded:=false,tag:= "",pkgPath:= "",byteOffset:=104},{name:= "Events",type:=28,offset:=10,embedded:=false,tag:= "",pkgPath:= "",byteOffset:=128},{name:= "Epoch",type:=3,offset:=11,embedded:=false,tag:= "",pkgPath:= "",byteOffset:=152}] [(0,1),(1,1),(2,1),(3,1),(4,1),(5,4),(9,1),(10,1),(11,1)]:=⟨⟨rfl,_,_,adv⟩,⟨⟨rfl,_,_,ty3⟩,⟨⟨rfl,_,_,aee⟩,⟨⟨rfl,_,_,ty3⟩,⟨⟨rfl,_,_,wO⟩,⟨⟨rfl,_,_,wA⟩,⟨⟨rfl,_,_,ajg⟩,⟨⟨rfl,_,_,uQ⟩,⟨⟨rfl,_,_,ty3⟩,trivial⟩⟩⟩⟩⟩⟩⟩⟩⟩
theorem aqk:wP prog [{name:= "Kind",type:=3,offset:=0,embedded:=false,tag:= "",pkgPath:= "",byteOffset:=0},{name:= "Home",type:=9,offset:=1,embedded:=false,tag:= "",pkgPath:= "",byteOffset:=8},{name:= "Session",type:=3,offset:=2,embedded:=false,tag:= "",pkgPath:= "",byteOffset:=24},{name:= "Req",type:=3,offset:=3,embedded:=false,tag:= "",pkgPath:= "",byteOffset:=32},{name:= "Nonce",type:=3,offset:=4,embedded:=false,tag:= "",pkgPath:= "",byteOffset:=40},{name:= "Lease",type:=3,offset:=5,embedded:=false,tag:= "",pkgPath:= "",byteOffset:=48},{name:= "Beats",type:=3,offset:=6,embedded:=false,tag:= "",pkgPath:= "",byteOffset:=56},{name:= "Ack",type:=3,offset:=7,embedded:=false,tag:= "",pkgPath:= "",byteOffset:=64},{name:= "Ops",type:=54,offset:=8,embedded:=false,tag:= "",pkgPath:= "",byteOffset:=72},{name:= "Path",type:=9,offset:=9,embedded:=false,tag:= "",pkgPath:= "",byteOffset:=96},{name:= "Watch",type:=4,offset:=10,embedded:=false,tag:= "",pkgPath:= "",byteOffset:=112},{name:= "Epoch",type:=3,offset:=11,embedded:=false,tag:= "",pkgPath:= "",byteOffset:=120},{name:= "Members",type:=55,offset:=12,embedded:=false,tag:= "",pkgPath:= "",byteOffset:=128}] [(0,1),(1,1),(2,1),(3,1),(4,1),(5,1),(6,1),(7,1),(8,1),(9,1),(10,1),(11,1),(12,1)]:=⟨⟨rfl,_,_,ty3⟩,⟨⟨rfl,_,_,ty9⟩,⟨⟨rfl,_,_,ty3⟩,⟨⟨rfl,_,_,ty3⟩,⟨⟨rfl,_,_,ty3⟩,⟨⟨rfl,_,_,ty3⟩,⟨⟨rfl,_,_,ty3⟩,⟨⟨rfl,_,_,ty3⟩,⟨⟨rfl,_,_,asQ⟩,⟨⟨rfl,_,_,ty9⟩,⟨⟨rfl,_,_,ty4⟩,⟨⟨rfl,_,_,ty3⟩,⟨⟨rfl,_,_,ajh⟩,trivial⟩⟩⟩⟩⟩⟩⟩⟩⟩⟩⟩⟩⟩
theorem at4:wP prog [{name:= "Nodes",type:=3,offset:=0,embedded:=false,tag:= "",pkgPath:= "",byteOffset:=0},{name:= "Bytes",type:=3,offset:=1,embedded:=false,tag:= "",pkgPath:= "",byteOffset:=8}] [(0,1),(1,1)]:=⟨⟨rfl,_,_,ty3⟩,⟨⟨rfl,_,_,ty3⟩,trivial⟩⟩
theorem at5:wP prog [{name:= "Kind",type:=3,offset:=0,embedded:=false,tag:= "",pkgPath:= "",byteOffset:=0},{name:= "Path",type:=9,offset:=1,embedded:=false,tag:= "",pkgPath:= "",byteOffset:=8},{name:= "Data",type:=24,offset:=2,embedded:=false,tag:= "",pkgPath:= "",byteOffset:=24},{name:= "Version",type:=3,offset:=3,embedded:=false,tag:= "",pkgPath:= "",byteOffset:=48},{name:= "Ephemeral",type:=4,offset:=4,embedded:=false,tag:= "",pkgPath:= "",byteOffset:=56},{name:= "Sequential",type:=4,offset:=5,embedded:=false,tag:= "",pkgPath:= "",byteOffset:=57}] [(0,1),(1,1),(2,1),(3,1),(4,1),(5,1)]:=⟨⟨rfl,_,_,ty3⟩,⟨⟨rfl,_,_,ty9⟩,⟨⟨rfl,_,_,wO⟩,⟨⟨rfl,_,_,ty3⟩,⟨⟨rfl,_,_,ty4⟩,⟨⟨rfl,_,_,ty4⟩,trivial⟩⟩⟩⟩⟩⟩
theorem asR:wP prog [{name:= "Home",type:=9,offset:=0,embedded:=false,tag:= "",pkgPath:= "",byteOffset:=0},{name:= "N",type:=3,offset:=1,embedded:=false,tag:= "",pkgPath:= "",byteOffset:=16}] [(0,1),(1,1)]:=⟨⟨rfl,_,_,ty9⟩,⟨⟨rfl,_,_,ty3⟩,trivial⟩⟩
theorem at7:wP prog [{name:= "Key",type:=81,offset:=0,embedded:=true,tag:= "",pkgPath:= "",byteOffset:=0},{name:= "Nonce",type:=3,offset:=2,embedded:=false,tag:= "",pkgPath:= "",byteOffset:=24},{name:= "Lease",type:=3,offset:=3,embedded:=false,tag:= "",pkgPath:= "",byteOffset:=32},{name:= "Beats",type:=3,offset:=4,embedded:=false,tag:= "",pkgPath:= "",byteOffset:=40},{name:= "Req",type:=3,offset:=5,embedded:=false,tag:= "",pkgPath:= "",byteOffset:=48},{name:= "Reply",type:=24,offset:=6,embedded:=false,tag:= "",pkgPath:= "",byteOffset:=56}] [(0,2),(2,1),(3,1),(4,1),(5,1),(6,1)]:=⟨⟨rfl,_,_,zX⟩,⟨⟨rfl,_,_,ty3⟩,⟨⟨rfl,_,_,ty3⟩,⟨⟨rfl,_,_,ty3⟩,⟨⟨rfl,_,_,ty3⟩,⟨⟨rfl,_,_,wO⟩,trivial⟩⟩⟩⟩⟩⟩
theorem atD:wP prog [{name:= "Path",type:=9,offset:=0,embedded:=false,tag:= "",pkgPath:= "",byteOffset:=0},{name:= "Version",type:=3,offset:=1,embedded:=false,tag:= "",pkgPath:= "",byteOffset:=16}] [(0,1),(1,1)]:=⟨⟨rfl,_,_,ty9⟩,⟨⟨rfl,_,_,ty3⟩,trivial⟩⟩
theorem arJ:wP prog [{name:= "N",type:=3,offset:=0,embedded:=false,tag:= "",pkgPath:= "",byteOffset:=0},{name:= "Kind",type:=3,offset:=1,embedded:=false,tag:= "",pkgPath:= "",byteOffset:=8},{name:= "Path",type:=9,offset:=2,embedded:=false,tag:= "",pkgPath:= "",byteOffset:=16}] [(0,1),(1,1),(2,1)]:=⟨⟨rfl,_,_,ty3⟩,⟨⟨rfl,_,_,ty3⟩,⟨⟨rfl,_,_,ty9⟩,trivial⟩⟩⟩
theorem atF:wP prog [{name:= "epoch",type:=3,offset:=0,embedded:=false,tag:= "",pkgPath:= "althing/store",byteOffset:=0},{name:= "members",type:=55,offset:=1,embedded:=false,tag:= "",pkgPath:= "althing/store",byteOffset:=8}] [(0,1),(1,1)]:=⟨⟨rfl,_,_,ty3⟩,⟨⟨rfl,_,_,ajh⟩,trivial⟩⟩
theorem atG:wP prog [{name:= "quorum",type:=149,offset:=0,embedded:=true,tag:= "",pkgPath:= "althing/store",byteOffset:=0},{name:= "tree",type:=61,offset:=2,embedded:=false,tag:= "",pkgPath:= "althing/store",byteOffset:=32},{name:= "table",type:=150,offset:=3,embedded:=false,tag:= "",pkgPath:= "althing/store",byteOffset:=40},{name:= "hub",type:=151,offset:=4,embedded:=false,tag:= "",pkgPath:= "althing/store",byteOffset:=48}] [(0,2),(2,1),(3,1),(4,1)]:=⟨⟨rfl,_,_,aeC⟩,⟨⟨rfl,_,_,ac3⟩,⟨⟨rfl,_,_,agF⟩,⟨⟨rfl,_,_,aeD⟩,trivial⟩⟩⟩⟩
theorem aob:wP prog [{name:= "Stat",type:=26,offset:=0,embedded:=true,tag:= "",pkgPath:= "",byteOffset:=0},{name:= "data",type:=24,offset:=4,embedded:=false,tag:= "",pkgPath:= "althing/ztree",byteOffset:=32}] [(0,4),(4,1)]:=⟨⟨rfl,_,_,wA⟩,⟨⟨rfl,_,_,wO⟩,trivial⟩⟩
theorem atH:wP prog [{name:= "buffer",type:=219,offset:=0,embedded:=true,tag:= "",pkgPath:= "althing/wire",byteOffset:=0}] [(0,4)]:=⟨⟨rfl,_,_,afs⟩,trivial⟩
theorem atI:wP prog [{name:= "b",type:=24,offset:=0,embedded:=false,tag:= "",pkgPath:= "althing/wire",byteOffset:=0},{name:= "err",type:=22,offset:=1,embedded:=false,tag:= "",pkgPath:= "althing/wire",byteOffset:=24}] [(0,1),(1,1)]:=⟨⟨rfl,_,_,wO⟩,⟨⟨rfl,_,_,adv⟩,trivial⟩⟩
theorem arK:wP prog [{name:= "nodes",type:=237,offset:=0,embedded:=false,tag:= "",pkgPath:= "althing/ztree",byteOffset:=0}] [(0,1)]:=⟨⟨rfl,_,_,aaM⟩,trivial⟩
theorem atJ:wP prog [{name:= "houses",type:=240,offset:=0,embedded:=false,tag:= "",pkgPath:= "althing/session",byteOffset:=0}] [(0,1)]:=⟨⟨rfl,_,_,agG⟩,trivial⟩
theorem atK:wP prog [{name:= "desks",type:=243,offset:=0,embedded:=false,tag:= "",pkgPath:= "althing/watch",byteOffset:=0}] [(0,1)]:=⟨⟨rfl,_,_,aft⟩,trivial⟩
theorem atL:wP prog [{name:= "last",type:=3,offset:=0,embedded:=false,tag:= "",pkgPath:= "althing/session",byteOffset:=0},{name:= "live",type:=252,offset:=1,embedded:=false,tag:= "",pkgPath:= "althing/session",byteOffset:=8}] [(0,1),(1,1)]:=⟨⟨rfl,_,_,ty3⟩,⟨⟨rfl,_,_,aeE⟩,trivial⟩⟩
theorem atM:wP prog [{name:= "queue",type:=307,offset:=0,embedded:=true,tag:= "",pkgPath:= "althing/watch",byteOffset:=0},{name:= "marks",type:=308,offset:=3,embedded:=false,tag:= "",pkgPath:= "althing/watch",byteOffset:=40}] [(0,3),(3,1)]:=⟨⟨rfl,_,_,agI⟩,⟨⟨rfl,_,_,aiv⟩,trivial⟩⟩
theorem al2:wP prog [{name:= "path",type:=9,offset:=0,embedded:=false,tag:= "",pkgPath:= "althing/watch",byteOffset:=0},{name:= "kind",type:=3,offset:=1,embedded:=false,tag:= "",pkgPath:= "althing/watch",byteOffset:=16}] [(0,1),(1,1)]:=⟨⟨rfl,_,_,ty9⟩,⟨⟨rfl,_,_,ty3⟩,trivial⟩⟩
theorem arL:wP prog [{name:= "Kind",type:=3,offset:=0,embedded:=false,tag:= "",pkgPath:= "",byteOffset:=0},{name:= "Path",type:=9,offset:=1,embedded:=false,tag:= "",pkgPath:= "",byteOffset:=8}] [(0,1),(1,1)]:=⟨⟨rfl,_,_,ty3⟩,⟨⟨rfl,_,_,ty9⟩,trivial⟩⟩
theorem aoc:wP prog [{name:= "Results",type:=23,offset:=0,embedded:=false,tag:= "",pkgPath:= "",byteOffset:=0},{name:= "Effects",type:=258,offset:=1,embedded:=false,tag:= "",pkgPath:= "",byteOffset:=24},{name:= "Bad",type:=3,offset:=2,embedded:=false,tag:= "",pkgPath:= "",byteOffset:=48}] [(0,1),(1,1),(2,1)]:=⟨⟨rfl,_,_,aee⟩,⟨⟨rfl,_,_,agH⟩,⟨⟨rfl,_,_,ty3⟩,trivial⟩⟩⟩
theorem atN:wP prog [{name:= "Outcome",type:=348,offset:=0,embedded:=true,tag:= "",pkgPath:= "",byteOffset:=0},{name:= "t",type:=61,offset:=3,embedded:=false,tag:= "",pkgPath:= "althing/multi",byteOffset:=56},{name:= "home",type:=9,offset:=4,embedded:=false,tag:= "",pkgPath:= "althing/multi",byteOffset:=64},{name:= "owner",type:=3,offset:=5,embedded:=false,tag:= "",pkgPath:= "althing/multi",byteOffset:=80},{name:= "q",type:=66,offset:=6,embedded:=false,tag:= "",pkgPath:= "althing/multi",byteOffset:=88}] [(0,3),(3,1),(4,1),(5,1),(6,2)]:=⟨⟨rfl,_,_,jg⟩,⟨⟨rfl,_,_,ac3⟩,⟨⟨rfl,_,_,ty9⟩,⟨⟨rfl,_,_,ty3⟩,⟨⟨rfl,_,_,acl⟩,trivial⟩⟩⟩⟩⟩