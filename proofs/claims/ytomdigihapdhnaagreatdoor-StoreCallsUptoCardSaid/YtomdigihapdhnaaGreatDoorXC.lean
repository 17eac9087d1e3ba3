import Derived.ArgAppend
import Derived.Lib.Split
import Derived.HandedShaped
import Derived.LaidMore
import Derived.JoinedCond
import Derived.Lay
import Derived.Stop.Joined
import Derived.KernelRfl
import Derived.Test.YtomdigihapdhnaaGreatDoorRows
import Derived.Test.YtomdigihapdhnaaGreatDoorProg
import Derived.Test.YtomdigihapdhnaaGreatDoorXB
set_option linter.all false
set_option maxRecDepth 99999
set_option maxHeartbeats 0
open Go.IntKind(i64)
open Go.Proofs.Tryz
namespace Go.Proofs.YtomdigihapdhnaaGreatDoor
namespace SL
open Go
variable{P:Program}{B:World}{ro I I':AH}{tag tag':Nat->Nat}
theorem we(I:AH)(b:Nat)(o:Obj):upd I b o b=some o:=by simp[upd]
theorem uJ(I:AH){b c:Nat}(o:Obj)(h:c≠b):upd I b o c=I c:=by simp[upd,h]
theorem adT(I:AH)(b:Nat)(o o':Obj):upd (upd I b o) b o'=upd I b o':=by
 funext c;by_cases h:c=b<;>simp[upd,h]
structure qf(R:List Nat)(ro:AH)(tag:Nat->Nat)(I:AH)(tag':Nat->Nat)(I':AH):Prop where
 keep:∀ b o,I b=some o->tag b∉R->tag' b=tag b/\I' b=some o
 old:∀ b o,I b=some o->tag' b=tag b/\∃ o',I' b=some o'
 sep:Sep ro I'
theorem qf.refl{R:List Nat}(h:Sep ro I):qf R ro tag I tag I:=⟨fun _ _ h _=>⟨rfl,h⟩,fun _ o h=>⟨rfl,o,h⟩,h⟩
theorem qf.trans{R:List Nat}{tag'':Nat->Nat}{I'':AH}(h:qf R ro tag I tag' I')(k:qf R ro tag' I' tag'' I''):qf R ro tag I tag'' I'':=by
 refine⟨fun b o e n=>?_,fun b o e=>?_,k.sep⟩
 .obtain⟨t1,e1⟩:=h.keep b o e n
  obtain⟨t2,e2⟩:=k.keep b o e1 (by rw[t1];exact n)
  exact⟨t2.trans t1,e2⟩
 .obtain⟨t1,o',e1⟩:=h.old b o e
  obtain⟨t2,o'',e2⟩:=k.old b o' e1
  exact⟨t2.trans t1,o'',e2⟩
theorem qf.mono{R R':List Nat}(h:qf R ro tag I tag' I')(hr:∀ r∈R,r∈R'):qf R' ro tag I tag' I':=
 ⟨fun b o e n=>h.keep b o e fun m=>n (hr _ m),h.old,h.sep⟩
def Row(tag:Nat->Nat)(I:AH)(r:Nat)(e:TypeId)(s:Sl)(l:List Value):Prop:=
 (s=⟨none,0,0⟩/\l=[])\/∃ b cs,s.a=some ⟨b,0,none⟩/\tag b=r/\I b=some (.cells cs e)/\s.len=l.length/\s.cap=cs.size/\s.len<=s.cap/\∀ i,i<l.length->cs[i]?=l[i]?
theorem Row.nil(r:Nat)(e:TypeId):Row tag I r e ⟨none,0,0⟩ []:= .inl ⟨rfl,rfl⟩
theorem Row.len{r:Nat}{e:TypeId}{s:Sl}{l:List Value}(h:Row tag I r e s l):s.len=l.length:=by
 rcases h with⟨rfl,rfl⟩ | ⟨b,cs,_,_,_,h,_⟩
 .rfl
 .exact h
theorem Row.keep{R:List Nat}{r:Nat}{e:TypeId}{s:Sl}{l:List Value}(h:Row tag I r e s l)(k:qf R ro tag I tag' I')(hr:r∉R:=by simp):Row tag' I' r e s l:=by
 rcases h with h | ⟨b,cs,ha,ht,hs,hx⟩
 .exact .inl h
 .obtain⟨t,e⟩:=k.keep b _ hs (by rw[ht];exact hr)
  exact .inr ⟨b,cs,ha,t.trans ht,e,hx⟩
theorem Row.ptr{r:Nat}{e:TypeId}{s:Sl}{l:List Value}(h:Row tag I r e s l)(hs:Sep ro I)(hl:0<l.length):
  ∃p,s.a=some p/\∀ i v,l[i]?=some v->qa ro I (p.add (i*1))=some v:=by
 rcases h with⟨_,rfl⟩ | ⟨b,cs,ha,ht,hb,hln,hc,hle,hg⟩
 .cases hl
 .refine⟨_,ha,fun i v hv=>?_⟩
  have hi:i<l.length:=by
   rcases Nat.lt_or_ge i l.length with h | h
   .exact h
   .rw[List.getElem?_eq_none h]at hv;cases hv
  rw[wN,Nat.mul_one,Nat.zero_add]
  unfold qa rd
  simp only[hs b _ hb,hb,wM]
  rw[<-hv,<-hg i hi];rfl
theorem Row.st{r:Nat}{e:TypeId}{s:Sl}{l:List Value}{p:Addr}{i:Nat}{v:Value}{K:AH->Prop}(h:Row tag I r e s l)(hs:Sep ro I)(ha:s.a=some p)(hi:i<l.length)(hv:qg v=true)
  (hK:∀ I',qf [r] ro tag I tag I'->Row tag I' r e s (l.set i v)->K I'):stN (p.add (i*1)) K [v] 0 I:=by
 rcases h with⟨_,rfl⟩ | ⟨b,cs,ha',ht,hb,hln,hc,hle,hg⟩
 .cases hi
 .rw[ha]at ha';cases ha'
  refine⟨hv,by simp,cs,e,(0,0),?_,?_,?_,?_⟩
  .simpa using hb
  .simp;omega
  .simp
  .simp only[wN,yk,Nat.mul_one,Nat.zero_add,stN]
   refine hK _ ⟨fun c o hc' hn=>?_,fun c o hc'=>⟨rfl,?_⟩,fun c o hc'=>?_⟩ (.inr ⟨b,_,ha,ht,we _ _ _,by simp[hln],by simp[hc],hle,fun j hj=>?_⟩)
   .have:c≠b:=fun h=>hn (by simp[h,ht])
    exact⟨rfl,by rw[uJ _ _ this];exact hc'⟩
   .by_cases h:c=b
    .exact⟨_,by rw[h];exact we _ _ _⟩
    .exact⟨o,by rw[uJ _ _ h];exact hc'⟩
   .by_cases h:c=b
    .exact hs c _ (by rw[h];exact hb)
    .rw[uJ _ _ h]at hc';exact hs c _ hc'
   .simp only[List.length_set]at hj
    have:=hg j hj
    by_cases hij:i=j
    .subst hij
     rw[List.getElem?_set_self hi,Array.getElem?_setIfInBounds_self_of_lt (by omega)]
    .rw[List.getElem?_set_ne hij,Array.getElem?_setIfInBounds_ne hij];exact this
theorem Row.cell1{r:Nat}{e:TypeId}{b n c:Nat}{v:Value}(h:Row tag I r e ⟨some ⟨b,0,none⟩,n,c⟩ [v])(hs:Sep ro I):qa ro I ⟨b,0,none⟩=some v:=by
 obtain⟨p,hp,hg⟩:=h.ptr hs (by simp)
 cases hp
 exact hg 0 v rfl
def setTag(tag:Nat->Nat)(b r:Nat):Nat->Nat:=fun c=>if c=b then r else tag c
theorem qf.fresh{R:List Nat}{b r:Nat}{o:Obj}(hs:Sep ro I)(hro:ro b=none)(hb:I b=none):qf R ro tag I (setTag tag b r) (upd I b o):=by
 refine⟨fun c o' hc _=>?_,fun c o' hc=>?_,fun c o' hc=>?_⟩
 .have:c≠b:=fun h=>by rw[h,hb]at hc;cases hc
  exact⟨by simp[setTag,this],by rw[uJ _ _ this];exact hc⟩
 .have:c≠b:=fun h=>by rw[h,hb]at hc;cases hc
  exact⟨by simp[setTag,this],o',by rw[uJ _ _ this];exact hc⟩
 .by_cases h:c=b
  .rw[h];exact hro
  .rw[uJ _ _ h]at hc;exact hs c _ hc
theorem aeO(zv:Value)(n:Nat):(yl zv n).size=n:=by simp[yl]
theorem afz(zv:Value)(h:zv.cells= #[zv])(n i:Nat)(hi:i<n):(yl zv n)[i]?=some zv:=by
 simp[yl,hi,h,Nat.mod_one]
theorem aky(r:Nat){e:TypeId}{zv:Value}{n:Nat}{K:Nat->AH->Prop}(hs:Sep ro I)(hz:zv.cells= #[zv])
  (hK:∀ b tag' I',(∀R,qf R ro tag I tag' I')->Row tag' I' r e ⟨some ⟨b,0,none⟩,n,n⟩ (List.replicate n zv)->K b I'):nw ro I (.cells (yl zv (n*1)) e) K:=by
 intro b hro hb
 refine hK b (setTag tag b r) _ (fun R=>qf.fresh hs hro hb) (.inr ⟨b,_,rfl,by simp[setTag],we _ _ _,by simp,by rw[aeO];simp,Nat.le_refl _,fun i hi=>?_⟩)
 simp at hi
 rw[afz _ hz _ _ (by omega),List.getElem?_replicate,if_pos hi]
theorem ql(r:Nat){e:TypeId}{cs:Array Value}{K:Nat->AH->Prop}(hs:Sep ro I)
  (hK:∀ b tag' I',(∀R,qf R ro tag I tag' I')->Row tag' I' r e ⟨some ⟨b,0,none⟩,cs.size,cs.size⟩ cs.toList->K b I'):nw ro I (.cells cs e) K:=by
 intro b hro hb
 exact hK b (setTag tag b r) _ (fun R=>qf.fresh hs hro hb) (.inr ⟨b,_,rfl,by simp[setTag],we _ _ _,by simp,rfl,Nat.le_refl _,fun i hi=>by simp⟩)
theorem Row.take{r:Nat}{e:TypeId}{s:Sl}{l:List Value}{n:Nat}(h:Row tag I r e s l)(hn:n<=l.length):Row tag I r e ⟨s.a,n,s.cap⟩ (l.take n):=by
 rcases h with⟨rfl,rfl⟩ | ⟨b,cs,ha',ht,hb,hln,hc,hle,hg⟩
 .cases hn;exact .inl ⟨rfl,rfl⟩
 .refine .inr ⟨b,cs,ha',ht,hb,by simp[hn],hc,by simp;omega,fun i hi=>?_⟩
  simp at hi
  rw[hg i (by omega),List.getElem?_take,if_pos (by omega)]
theorem abe{β:Type}{q:Question}{f:Nat->Sem β}{Q:β->AH->Prop}(hq:q.forced=false)(h:∀ n,awp P ro (f (q.cut n)) Q I):awp P ro (Sem.bind (choose q) f) Q I:=by
 show(if q.forced then _ else _)
 rw[hq]
 exact h
theorem ab3{β:Type}{n:Nat}{f:Unit->Sem β}{Q:β->AH->Prop}(h:awp P ro (f ()) Q I):awp P ro (Sem.bind (askRoom n) f) Q I:=by
 unfold askRoom;split<;>exact h
theorem wr{p:Addr}{l:List Value}:∀ (i:Nat),(∀j v,l[j]?=some v->qa ro I (p.add (i+j))=some v)->qj ro I p i l:=by
 induction l with
 | nil=>intro _ _;trivial
 | cons x l ih=>
  intro i h
  refine⟨h 0 x rfl,ih (i+1) fun j v hj=>?_⟩
  have:=h (j+1) v hj
  rwa [show i+1+j=i+(j+1) by omega]
theorem afA{β:Type}{r:Nat}{e:TypeId}{s:Sl}{l:List Value}{f:Array Value->Sem β}{Q:β->AH->Prop}(h:Row tag I r e s l)(hs:Sep ro I)(hf:awp P ro (f l.toArray) Q I):
  awp P ro (Sem.bind (Builtin.firstCells 1 s.len (.slice s.a s.len s.cap)) f) Q I:=by
 have hl:=h.len
 rcases h':s.a with _ | p
 .rcases h with⟨rfl,rfl⟩ | ⟨b,cs,ha,_⟩
  .exact hf
  .rw[h']at ha;cases ha
 .rw[show Sem.bind (Builtin.firstCells 1 s.len (.slice (some p) s.len s.cap)) f=(loadCells p (s.len*1)) >>= f from rfl,vf,Nat.mul_one,hl]
  refine vH l 0 #[] ?_ (by simpa using hf)
  rcases Nat.eq_zero_or_pos l.length with h0 | h0
  .rw[List.eq_nil_of_length_eq_zero h0];trivial
  .obtain⟨p',hp,hg⟩:=h.ptr hs h0
   rw[h']at hp;cases hp
   exact wr 0 fun j v hj=>by have:=hg j v hj;rwa [Nat.mul_one,<-Nat.zero_add j]at this
theorem ud{r:Nat}{e t:TypeId}{s:Sl}{l:List Value}{a:Addr}{v zv:Value}{bytes:Nat}{ty:TypeId}{Q:Value->AH->Prop}(h:Row tag I r e s l)(hs:Sep ro I)
  (ht:P.underlying t=some (.slice e)) (hz:qp P e zv 1 bytes) (hzc:zv.cells= #[zv]) (hv:qg v=true) (hc:qa ro I a=some v) (hsp:a.spot=none) (hb:(l.length+1)*bytes<=140737488355328) (hb0:0<bytes)
  (hK:∀ s' tag' I',qf [r] ro tag I tag' I'->Row tag' I' r e s' (l++[v])->Q (Sl.v s') I'):
  awp P ro (Builtin.append_ #[t,t] ty #[Sl.v s,Sl.v ⟨some a,1,1⟩]) Q I:=by
 obtain⟨i,hi,hiz,his,hib⟩:=hz
 have hz:qp P e zv 1 bytes:=⟨i,hi,hiz,his,hib⟩
 have q1:∀ (f:TypeInfo->Sem Value),awp P ro (Sem.bind (typeInfo e) f) Q I↔awp P ro (f i) Q I:=fun f=>wZ hi
 have g0:(#[t,t]:Array TypeId)[0]?=some t:=rfl
 have g1:(#[t,t]:Array TypeId)[1]?=some t:=rfl
 have g2:(#[Value.slice s.a s.len s.cap,Value.slice (some a) 1 1]:Array Value)[0]?=some (Value.slice s.a s.len s.cap):=rfl
 have g3:(#[Value.slice s.a s.len s.cap,Value.slice (some a) 1 1]:Array Value)[1]?=some (Value.slice (some a) 1 1):=rfl
 have hld:∀ τ:AH,qa ro τ a=some v->∀ {β:Type} (f:Array Value->Sem β) (Q:β->AH->Prop),awp P ro (f #[v]) Q τ->awp P ro (Sem.bind (Builtin.firstCells 1 1 (.slice (some a) 1 1)) f) Q τ:=by
  intro τ hτ β f Q hf
  rw[show Sem.bind (Builtin.firstCells 1 1 (.slice (some a) 1 1)) f=(loadCells a 1) >>= f from rfl,vf]
  exact vH [v] 0 #[] ⟨by simpa using hτ,trivial⟩ hf
 unfold Builtin.append_
 simp only[Sl.v,qw,qN,g0,g1,g2,g3,bind_assoc']
 rw[qu ht]
 simp only[]
 rw[aaw hz]
 rw[qu ht]
 simp only[wu,Builtin.lenOf,qw,qN,bind_assoc',Bool.false_eq_true,if_false,Bool.not_false,if_true,false_or]
 split
 .rename_i hroom
  refine hld _ hc _ _ ?_
  have h':=h
  rcases h with⟨rfl,rfl⟩ | ⟨b,cs,ha,htg,hbk,hln,hcp,hle,hg⟩
  .simp at hroom
  .have hlt:s.len<cs.size:=by omega
   have hx:Row tag I r e ⟨s.a,s.len+1,s.cap⟩ (l++[cs[s.len]]):=by
    refine .inr ⟨b,cs,ha,htg,hbk,by simp[hln],hcp,hroom,fun i hi=>?_⟩
    simp at hi
    rcases Nat.lt_or_ge i l.length with h1 | h1
    .rw[List.getElem?_append_left h1];exact hg i h1
    .have:i=l.length:=by omega
     subst this
     rw[List.getElem?_append_right (Nat.le_refl _)]
     simp[<-hln,hlt]
   simp only[ha]
   show awp P ro (storeCells (Addr.add ⟨b,0,none⟩ (s.len*1)) [v] >>= fun _=>Sem.pure (Value.slice (some ⟨b,0,none⟩) (s.len+1) s.cap)) Q I
   rw[vf]
   refine jO [v] 0 I (hx.st (i:=s.len) hs ha (by simp;omega) hv fun I' hst hr=>?_)
   show Q (Value.slice (some ⟨b,0,none⟩) (s.len+1) s.cap) I'
   have e1:(l++[cs[s.len]]).set s.len v=l++[v]:=by rw[List.set_append_right _ _ (by omega)];simp[hln]
   rw[e1,ha]at hr
   exact hK _ _ _ hst hr
 .rename_i hroom
  rw[wZ hi]
  rw[if_neg (by rw[hib];omega)]
  rw[wZ hi]
  rw[if_neg (by rw[hib];have:=growslice_fits (need:=s.len+1) (old:=s.cap) (bytes:=bytes) (by omega) (by rw[h.len];exact hb);omega)]
  refine abe rfl (fun n=>?_)
  rw[wZ hi]
  refine ab3 ?_
  have hcut:s.len+1<=(Question.appendCap (s.len+1) s.cap e).cut n:=by simp only[Question.cut];omega
  generalize (Question.appendCap (s.len+1) s.cap e).cut n=N at hcut
  refine afA h hs ?_
  refine hld _ hc _ _ ?_
  rw[aav hz]
  rw[hzc]
  show∀b,ro b=none->I b=none->Q (Value.slice (some ⟨b,0,none⟩) (s.len+1) N) (upd I b _)
  intro b hro hb
  refine hK ⟨some ⟨b,0,none⟩,s.len+1,N⟩ (setTag tag b r) _ (qf.fresh hs hro hb) (.inr ⟨b,_,rfl,by simp[setTag],we _ _ _,by simp[h.len],?_,hcut,fun i hi=>?_⟩)
  .have:=h.len
   simp[Builtin.zeroCells];omega
  .simp at hi
   rw[Array.getElem?_append_left (by simp;omega)]
   simp
theorem aj6{b:Nat}{e:TypeId}{K:AH->Prop}:∀ (vs:List Value) (cs:Array Value) (i:Nat),cs.size=i+vs.length->(∀v∈vs,qg v=true)->(∀cs':Array Value,cs'.size=cs.size->(∀j,j<i->cs'[j]?=cs[j]?)->(∀j v,vs[j]?=some v->cs'[i+j]?=some v)->K (upd I b (.cells cs' e)))->
  stN ⟨b,0,none⟩ K vs i (upd I b (.cells cs e)):=by
 intro vs
 induction vs with
 | nil=>intro cs i hsz _ hK;exact hK cs rfl (fun _ _=>rfl) (fun j v h=>by cases h)
 | cons x vs ih=>
  intro cs i hsz hst hK
  simp only[List.length_cons]at hsz
  refine⟨hst x (by simp),by simp,cs,e,(0,0),?_,?_,?_,?_⟩
  .simp[upd]
  .simp;omega
  .simp
  .simp only[wN,Nat.zero_add]
   rw[adT]
   refine ih _ _ (by simp;omega) (fun v hv=>hst v (by simp[hv])) fun cs' h1 h2 h3=>hK cs' (by simpa using h1) (fun j hj=>?_) fun j v hj=>?_
   .rw[h2 j (by omega),Array.getElem?_setIfInBounds_ne (by omega)]
   .rcases j with _ | j
    .cases hj
     rw[Nat.add_zero,h2 i (by omega),Array.getElem?_setIfInBounds_self_of_lt (by omega)]
    .rw[show i+(j+1)=i+1+j by omega];exact h3 j v hj
theorem pN(r:Nat){e:TypeId}{cs:Array Value}{vs:List Value}{K:Nat->AH->Prop}(hs:Sep ro I)(hsz:cs.size=vs.length)(hst:∀ v∈vs,qg v=true)
  (hK:∀ b tag' I',(∀R,qf R ro tag I tag' I')->Row tag' I' r e ⟨some ⟨b,0,none⟩,vs.length,vs.length⟩ vs->K b I'):nw ro I (.cells cs e) fun b I=>stN ⟨b,0,none⟩ (K b) vs 0 I:=by
 intro b hro hb
 refine aj6 vs cs 0 (by omega) hst fun cs' h1 _ h3=>?_
 refine hK b (setTag tag b r) _ (fun R=>qf.fresh hs hro hb) (.inr ⟨b,cs',rfl,by simp[setTag],we _ _ _,rfl,by simp;omega,Nat.le_refl _,fun i hi=>?_⟩)
 rw[List.getElem?_eq_getElem hi]
 have:=h3 i _ (List.getElem?_eq_getElem hi)
 rwa [Nat.zero_add]at this
def one(I:AH)(b:Nat):AH:=fun c=>if c=b then I c else none
def del(I:AH)(b:Nat):AH:=fun c=>if c=b then none else I c
theorem pO(b:Nat){K:AH->AH->Prop}(h:K (one I b) (del I b)):pn I K:=by
 refine⟨_,_,fun c o hc=>?_,?_,h⟩
 .unfold one at hc;unfold del
  split at hc
  .rename_i e;rw[if_pos e]
  .cases hc
 .funext c;unfold join one del
  by_cases e:c=b
  .simp only[e,if_true];cases I b<;>rfl
  .simp[e]
theorem Sep.lent{b:Nat}(hs:Sep ro I):Sep (join ro (one I b)) (del I b):=by
 intro c o hc
 unfold del at hc
 split at hc
 .cases hc
 .rename_i e
  unfold join one
  rw[hs c o hc];simp[e]
theorem Row.del{r r':Nat}{e:TypeId}{s:Sl}{l:List Value}{b:Nat}(h:Row tag I r e s l)(hb:tag b=r')(hr:r≠r'):Row tag (del I b) r e s l:=by
 rcases h with h | ⟨c,cs,ha,ht,hs,hx⟩
 .exact .inl h
 .refine .inr ⟨c,cs,ha,ht,?_,hx⟩
  have:c≠b:=fun e=>hr (by rw[<-ht,e,hb])
  unfold SL.del;rw[if_neg this];exact hs
theorem Row.lend{r:Nat}{e:TypeId}{b n m:Nat}{l:List Value}(h:Row tag I r e ⟨some ⟨b,0,none⟩,n,m⟩ l)(hs:Sep ro I){τ:AH}{i:Nat}{v:Value}(hv:l[i]?=some v):qa (join ro (one I b)) τ ((⟨b,0,none⟩:Addr).add (i*1))=some v:=by
 rcases h with⟨e,_⟩ | ⟨c,cs,ha,ht,hb,hln,hc,hle,hg⟩
 .cases e
 .cases ha
  have hi:i<l.length:=by
   rcases Nat.lt_or_ge i l.length with h | h
   .exact h
   .rw[List.getElem?_eq_none h]at hv;cases hv
  rw[wN,Nat.mul_one,Nat.zero_add]
  have:join ro (one I b) b=some (.cells cs e):=by unfold join one;rw[hs b _ hb];simp[hb]
  unfold qa rd
  simp only[this,wM]
  rw[<-hv,<-hg i hi];rfl
theorem Row.tagOf{r:Nat}{e:TypeId}{b n m:Nat}{l:List Value}(h:Row tag I r e ⟨some ⟨b,0,none⟩,n,m⟩ l):tag b=r/\∃ o,I b=some o:=by
 rcases h with⟨e,_⟩ | ⟨c,cs,ha,ht,hb,_⟩
 .cases e
 .cases ha;exact⟨ht,_,hb⟩
theorem Row.back{r:Nat}{e:TypeId}{s:Sl}{l:List Value}{b r':Nat}{τ:AH}(h:Row tag' τ r e s l)(hd:qz (one I b) τ)(hb:∃ o,I b=some o):Row (setTag tag' b r') (join (one I b) τ) r e s l:=by
 rcases h with h | ⟨c,cs,ha,ht,hs,hx⟩
 .exact .inl h
 .have hcb:c≠b:=fun e=>by
   obtain⟨o,ho⟩:=hb
   have:=hd b o (by unfold one;rw[if_pos rfl];exact ho)
   rw[<-e,hs]at this;cases this
  exact .inr ⟨c,cs,ha,by unfold setTag;rw[if_neg hcb];exact ht,by unfold join one;rw[if_neg hcb];exact hs,hx⟩
theorem qf.back{R:List Nat}{b:Nat}{τ:AH}(h:qf R (join ro (one I b)) tag (del I b) tag' τ)(hs:Sep ro I)(hd:qz (one I b) τ)(hb:∃ o,I b=some o):qf R ro tag I (setTag tag' b (tag b)) (join (one I b) τ):=by
 obtain⟨ob,hob⟩:=hb
 have hone:one I b b=some ob:=by unfold one;rw[if_pos rfl];exact hob
 refine⟨fun c o hc hn=>?_,fun c o hc=>?_,fun c o hc=>?_⟩
 .by_cases e:c=b
  .subst e;exact⟨by simp[setTag],by simp only[join,hone];rw[<-hob];exact hc⟩
  .obtain⟨t1,t2⟩:=h.keep c o (by unfold del;rw[if_neg e];exact hc) hn
   exact⟨by unfold setTag;rw[if_neg e];exact t1,by unfold join one;rw[if_neg e];exact t2⟩
 .by_cases e:c=b
  .subst e;exact⟨by simp[setTag],ob,by unfold join;rw[hone]⟩
  .obtain⟨t1,o',t2⟩:=h.old c o (by unfold del;rw[if_neg e];exact hc)
   exact⟨by unfold setTag;rw[if_neg e];exact t1,o',by unfold join one;rw[if_neg e];exact t2⟩
 .by_cases e:c=b
  .subst e;exact hs c _ hob
  .have:τ c=some o:=by unfold join one at hc;rw[if_neg e]at hc;exact hc
   exact(jq (h.sep c o this)).1
abbrev Str:=List UInt8
def S(l:Str):ByteArray:=⟨l.toArray⟩
def L(s:ByteArray):Str:=s.data.toList
@[simp] theorem L_S(l:Str):L (S l)=l:=rfl
@[simp] theorem S_L(s:ByteArray):S (L s)=s:=by cases s;rfl
theorem uK{a b:ByteArray}(h:L a=L b):a=b:=by rw[<-S_L a,h,S_L]
theorem ahX{a b:Str}:S a=S b↔a=b:=⟨fun h=>by have:=congrArg L h;simpa using this,fun h=>by rw[h]⟩
@[simp] theorem aeP(l:Str):(S l).size=l.length:=rfl
theorem zu(s:ByteArray):(L s).length=s.size:=rfl
theorem ai2(a b:ByteArray):L (a++b)=L a++L b:=by
 unfold L;rw[ByteArray.data_append,Array.toList_append]
theorem agn(a b:Str):S a++S b=S (a++b):=uK (by rw[ai2];rfl)
theorem aaP(l:Str)(i j:Nat):(S l).extract i j=S ((l.take j).drop i):=by
 apply uK
 have:=Go.Lib.extract_data (S l) i j
 show((S l).extract i j).data.toList=_
 rw[this]
 simp[S,L,List.drop_take]
theorem ak7(s:ByteArray)(a b:Nat):s.extract a b=S (((L s).take b).drop a):=by
 conv=>lhs;rw[<-S_L s]
 rw[aaP]
theorem ajR(l:Str)(i:Nat):(S l)[i]?=l[i]?:=by
 by_cases h:i<l.length
 .rw[List.getElem?_eq_getElem h]
  rw[getElem?_pos (S l) i h]
  rfl
 .rw[List.getElem?_eq_none (by omega),getElem?_neg (S l) i h]
theorem qb.quiet{f:FuncId}{args:Array Value}{R:Value->Prop}{Q:Value->AH->Prop}(h:qb P B ro f args (fun _=>none) fun v _=>R v)(hq:∀ v,R v->Q v I):qb P B ro f args I Q:=by
 have e:join (fun _=>none) I=I:=by funext b;rfl
 have:=qb.frame h (U:=I) (fun b o h=>by cases h)
 rw[e]at this
 refine this.drop ?_
 rintro v I' ⟨τ,rfl,hd,hr⟩
 exact⟨I,fun b o h=>pL hd h,hq v hr⟩
def ai3(ro I:AH)(w:World):Prop:= ∀b o,rd ro I b=some o->w.heap[b]?=some o
def ae4(w w':World)(N:AH):Prop:= ∀b o,N b=some o->w.heap.size<=b/\w'.heap[b]?=some o
theorem qb.of_calls{f:FuncId}{args:Array Value}{Q:Value->AH->Prop}
  (h:∀ w,ai3 ro I w->Sep ro I->Calls P f args w fun e w'=> ∃v N,e= .returned v/\Go.RowKit.Below w.heap.size w w'/\ae4 w w' N/\Q v (join I N)):qb P B ro f args I Q:=by
 intro φ w ho
 refine(h w (fun b o hr=>ho.rd hr) ho.sep).mono ?_
 rintro e w' ⟨v,N,he,hb,hn,hq⟩
 have lt:∀ b o,w.heap[b]?=some o->w'.heap[b]?=some o/\N b=none:=fun b o hbo=>by
  have hlt:=zJ hbo
  refine⟨by rw[hb.block b hlt];exact hbo,?_⟩
  cases hN:N b with
  | none=>rfl
  | some o'=>have:=(hn b o' hN).1;omega
 refine⟨v,_,he,hq,hb.os.trans ho.os,hb.tape.trans ho.tape,hb.output.trans ho.output,fun b o hj=>?_,fun b o hf=>(lt b o (ho.fr b o hf)).1,fun b o hf=>(lt b o (ho.ro b o hf)).1⟩
 rcases pi hj with h1 | ⟨_,h1⟩
 .obtain⟨h2,h3,h4⟩:=ho.own b o h1
  exact⟨(lt b o h2).1,h3,h4⟩
 .obtain⟨h2,h3⟩:=hn b o h1
  refine⟨h3,?_,?_⟩
  .cases hf:φ b with
   | none=>rfl
   | some o'=>have:=zJ (ho.fr b o' hf);omega
  .cases hf:ro b with
   | none=>rfl
   | some o'=>have:=zJ (ho.ro b o' hf);omega
theorem ae5{w w':World}{g:Nat}{cs:Array Value}{e:TypeId}(r:Nat)(hs:ai3 ro I w)(hsep:Sep ro I)(hg:w.heap.size<=g)(hw:w'.heap[g]?=some (.cells cs e)):
  ∃N tag',ae4 w w' N/\(∀R,qf R ro tag I tag' (join I N))/\∀ n c (l:List Value),n=l.length->c=cs.size->n<=c->cs.toList.take n=l->Row tag' (join I N) r e ⟨some ⟨g,0,none⟩,n,c⟩ l:=by
 have hσ:I g=none:=by
  cases h:I g with
  | none=>rfl
  | some o=>have:=zJ (hs g o (by unfold rd;rw[hsep g o h];exact h));omega
 have hro:ro g=none:=by
  cases h:ro g with
  | none=>rfl
  | some o=>have:=zJ (hs g o (by unfold rd;rw[h]));omega
 have e1:join I (fun b=>if b=g then some (.cells cs e)else none)=upd I g (.cells cs e):=by
  funext b;unfold join upd
  by_cases h:b=g
  .subst h;simp[hσ]
  .simp[h];cases I b<;>rfl
 refine⟨fun b=>if b=g then some (.cells cs e)else none,setTag tag g r,?_,?_,?_⟩
 .intro b o hb
  simp only at hb
  split at hb
  .rename_i h;subst h;cases hb;exact⟨hg,hw⟩
  .cases hb
 .intro R;rw[e1];exact qf.fresh hsep hro hσ
 .rintro n c l rfl rfl hn ht
  rw[e1]
  refine .inr ⟨g,cs,rfl,by simp[setTag],we _ _ _,rfl,rfl,hn,fun i hi=>?_⟩
  have:l[i]?=cs.toList[i]?:=by
   conv=>lhs;rw[<-ht]
   rw[List.getElem?_take,if_pos hi]
  rw[this];simp
theorem ae4.none(w w':World):ae4 w w' fun _=>none:=fun _ _ h=>by cases h
abbrev KV:=List (Str×Value)
def ab4:KV->Str->Value->KV
 | [],k,v=>[(k,v)]
 | (k',v')::r,k,v=>if k=k' then(k,v)::r else(k',v')::ab4 r k v
def ae6:KV->Str->KV
 | [],_=>[]
 | (k',v')::r,k=>if k=k' then r else(k',v')::ae6 r k
def aaX(e:MapEntry):Value×Value:=(e.key,e.val)
def aeQ(p:Str×Value):Value×Value:=(.string (S p.1),p.2)
structure ahY(es:Array MapEntry)(clock:Nat):Prop where
 lt:∀ e∈es.toList,e.born<clock
 nd:(es.toList.map (·.born)).Nodup
structure yo(tag:Nat->Nat)(I:AH)(r b:Nat)(m:KV):Prop where
 tg:tag b=r
 obj:∃ es clock,I b=some (.map es clock)/\es.toList.map aaX=m.map aeQ/\ahY es clock
theorem yo.keep{R:List Nat}{r b:Nat}{m:KV}(h:yo tag I r b m)(k:qf R ro tag I tag' I')(hr:r∉R:=by simp):yo tag' I' r b m:=by
 obtain⟨es,c,hb,hx⟩:=h.obj
 obtain⟨t,e⟩:=k.keep b _ hb (by rw[h.tg];exact hr)
 exact⟨t.trans h.tg,es,c,e,hx⟩
theorem ago(a b:ByteArray):(a == b)=decide (a=b):=by
 cases a with | mk a=>cases b with | mk b=>
 show(a == b)=_
 rw[Bool.eq_iff_iff];simp
theorem ad9(k:Str):∀ (l:List MapEntry) (m:KV) (i:Nat),l.map aaX=m.map aeQ->
  (m.lookup k=none/\ae6 m k=m/\(∀v,ab4 m k v=m++[(k,v)])/\Instr.findNow .string (.string (S k)) l i=some none)\/
  ∃j v,j<l.length/\m.lookup k=some v/\Instr.findNow .string (.string (S k)) l i=some (some (i+j,v))/\m[j]?=some (k,v)/\(∀v',ab4 m k v'=m.set j (k,v'))/\ae6 m k=m.eraseIdx j:=by
 intro l
 induction l with
 | nil=>
  intro m i h
  have:m=[]:=by simpa using h.symm
  subst this
  exact .inl ⟨rfl,rfl,fun _=>rfl,rfl⟩
 | cons e l ih=>
  intro m i h
  cases m with
  | nil=>simp at h
  | cons p m=>
   simp only[List.map_cons,List.cons.injEq]at h
   obtain⟨h1,h2⟩:=h
   have hk:e.key= .string (S p.1):=congrArg Prod.fst h1
   have hv:e.val=p.2:=congrArg Prod.snd h1
   obtain⟨pk,pv⟩:=p
   simp only at hk hv
   unfold Instr.findNow
   rw[hk]
   by_cases c:k=pk
   .subst c
    right
    refine⟨0,pv,by simp,by simp,?_,rfl,fun v'=>by simp[ab4],by simp[ae6]⟩
    simp[Instr.sameNow,hv,ago]
   .have hne:Instr.sameNow .string (.string (S k)) (.string (S pk))=some false:=by
     simp[Instr.sameNow,ahX,c,ago]
    rw[hne]
    simp only
    have hlk:List.lookup k ((pk,pv)::m)=m.lookup k:=by
     rw[List.lookup_cons]
     have:(k == pk)=false:=by simpa using c
     rw[this]
    rw[hlk]
    rcases ih m (i+1) h2 with⟨a,b,d,f⟩ | ⟨j,v,hj,a,f,g,q,w⟩
    .exact .inl ⟨a,by simp[ae6,c,b],fun v=>by simp[ab4,c,d],f⟩
    .exact .inr ⟨j+1,v,by simp;omega,a,by rw[f];congr 3;omega,by simpa using g,fun v'=>by simp[ab4,c,q],by simp[ae6,c,w]⟩
theorem abp{β:Type}{em:Bool}{kt:TypeId}{s:ByteArray}{f:Unit->Sem β}{K:β->AH->Prop}(hk:P.underlying kt=some .string)(h:awp P ro (f ()) K I):awp P ro (Sem.bind (Instr.checkKey em 10000 kt (.string s)) f) K I:=by
 rw[show(10000:Nat)=9999+1 from rfl]
 unfold Instr.checkKey
 simp only[qw]
 rw[bind_assoc',qu hk]
 exact h
theorem ue{β:Type}{kt:TypeId}{s:ByteArray}{l:List MapEntry}{r:Option (Nat×Value)}{f:Option (Nat×Value)->Sem β}{K:β->AH->Prop}(hk:P.underlying kt=some .string)(hr:Instr.findNow .string (.string s) l 0=some r)(h:awp P ro (f r) K I):
  awp P ro (Sem.bind (Instr.findKey kt (.string s) l) f) K I:=by
 unfold Instr.findKey
 simp only[qw]
 rw[bind_assoc',qu hk]
 rw[hr]
 exact h
theorem aax{t kt et:TypeId}{zv:Value}{n bt r b:Nat}{m:KV}{k:Str}{K:Value->AH->Prop}(hm:yo tag I r b m)(hs:Sep ro I)(ht:P.underlying t=some (.map kt et))(hk:P.underlying kt=some .string)(hz:qp P et zv n bt)
  (hK:K ((m.lookup k).getD zv) I):awp P ro (Instr.lookup t (.map (some b)) (.string (S k)) false) K I:=by
 obtain⟨es,clock,hb,he,hbn⟩:=hm.obj
 unfold Instr.lookup
 simp only[qw]
 rw[qu ht]
 simp only[bind_assoc']
 refine⟨.map es clock,by unfold rd;rw[hs b _ hb];exact hb,rfl,?_⟩
 refine abp hk ?_
 rcases ad9 k es.toList m 0 he with⟨a,_,_,f⟩ | ⟨j,v,hj,a,f,_⟩
 .refine ue hk f ?_
  simp only[bind_assoc']
  rw[aav hz]
  rw[a]at hK
  exact hK
 .refine ue hk f ?_
  rw[a]at hK
  exact hK
theorem pq{r b:Nat}{o o':Obj}(hs:Sep ro I)(ht:tag b=r)(hb:I b=some o):qf [r] ro tag I tag (upd I b o'):=by
 refine⟨fun c x hc hn=>?_,fun c x hc=>⟨rfl,?_⟩,fun c x hc=>?_⟩
 .have:c≠b:=fun h=>hn (by simp[h,ht])
  exact⟨rfl,by rw[uJ _ _ this];exact hc⟩
 .by_cases h:c=b
  .exact⟨_,by rw[h];exact we _ _ _⟩
  .exact⟨x,by rw[uJ _ _ h];exact hc⟩
 .by_cases h:c=b
  .exact hs c _ (by rw[h];exact hb)
  .rw[uJ _ _ h]at hc;exact hs c _ hc
theorem acv{t kt et:TypeId}{r b:Nat}{m:KV}{k:Str}{v:Value}{K:Unit->AH->Prop}(hm:yo tag I r b m)(hs:Sep ro I)(ht:P.underlying t=some (.map kt et))(hk:P.underlying kt=some .string)
  (hK:∀ I',qf [r] ro tag I tag I'->yo tag I' r b (ab4 m k v)->K () I'):awp P ro (Instr.mapUpdate t (.map (some b)) (.string (S k)) v) K I:=by
 obtain⟨es,clock,hb,he,hbn⟩:=hm.obj
 unfold Instr.mapUpdate
 simp only[qw]
 rw[qu ht]
 refine⟨.map es clock,by unfold rd;rw[hs b _ hb];exact hb,rfl,?_⟩
 refine abp hk ?_
 rcases ad9 k es.toList m 0 he with⟨a,_,d,f⟩ | ⟨j,u,hj,a,f,g,q,_⟩
 .refine ue hk f ?_
  refine⟨.map es clock,hb,rfl,?_⟩
  refine hK _ (pq hs hm.tg hb) ⟨hm.tg,_,_,we _ _ _,?_,?_,?_⟩
  .rw[d v,Array.toList_push,List.map_append,List.map_append,he];rfl
  .intro e he'
   rw[Array.toList_push]at he'
   rcases List.mem_append.1 he' with h | h
   .have:=hbn.lt e h;omega
   .rw[List.mem_singleton]at h;rw[h];exact Nat.lt_succ_self _
  .rw[Array.toList_push,List.map_append,List.nodup_append]
   refine⟨hbn.nd,by simp,?_⟩
   intro x hx y hy
   obtain⟨e,he',rfl⟩:=List.mem_map.1 hx
   have:=hbn.lt e he'
   simp at hy;omega
 .refine ue hk f ?_
  have hje:j<es.size:=by simpa using hj
  have hkey:es[j].key= .string (S k):=by
   have h1:(es.toList.map aaX)[j]?=(m.map aeQ)[j]?:=by rw[he]
   rw[List.getElem?_map,List.getElem?_map,g,List.getElem?_eq_getElem hj]at h1
   have:=Option.some.inj h1
   exact congrArg Prod.fst this
  have hst:(((es[0+j]?).map (·.key)).getD (.string (S k)))= .string (S k):=by
   rw[Nat.zero_add,Array.getElem?_eq_getElem hje]
   exact hkey
  simp only
  rw[hst]
  have hkt:Instr.keyThatStays (.string (S k)) (.string (S k))=Sem.pure (.string (S k)):=by
   unfold Instr.keyThatStays
   rw[if_pos (by simp[Instr.sameBits,ago])];rfl
  rw[hkt]
  refine⟨.map es clock,hb,rfl,?_⟩
  have hml:(es.modify (0+j) fun e=>{e with key:= .string (S k),val:=v}).toList=es.toList.modify j fun e=>{e with key:= .string (S k),val:=v}:=by
   rw[Nat.zero_add];exact Array.toList_modify ..
  refine hK _ (pq hs hm.tg hb) ⟨hm.tg,_,_,we _ _ _,?_,?_,?_⟩
  .rw[hml,q v]
   apply List.ext_getElem?
   intro i
   rw[List.getElem?_map,List.getElem?_map,List.getElem?_modify,List.getElem?_set]
   have hi:(es.toList.map aaX)[i]?=(m.map aeQ)[i]?:=by rw[he]
   rw[List.getElem?_map,List.getElem?_map]at hi
   by_cases c:j=i
   .subst c
    have hjm:j<m.length:=by
     rcases Nat.lt_or_ge j m.length with h | h
     .exact h
     .rw[List.getElem?_eq_none h]at g;cases g
    rw[if_pos rfl,if_pos hjm,List.getElem?_eq_getElem hj]
    simp[aaX,aeQ]
   .rw[if_neg c]
    simp only[c,if_false]
    cases h:es.toList[i]? with
    | none=>rw[h]at hi;simpa using hi
    | some e=>rw[h]at hi;simpa using hi
  .intro e he'
   rw[hml]at he'
   obtain⟨i,hi,rfl⟩:=List.getElem_of_mem he'
   rw[List.getElem_modify]
   rw[List.length_modify]at hi
   split
   .have:=hbn.lt _ (List.getElem_mem hi)
    exact this
   .have:=hbn.lt _ (List.getElem_mem hi)
    exact this
  .rw[hml]
   have:(es.toList.modify j fun e=>{e with key:= .string (S k),val:=v}).map (·.born)=es.toList.map (·.born):=by
    apply List.ext_getElem?
    intro i
    rw[List.getElem?_map,List.getElem?_map,List.getElem?_modify]
    by_cases c:j=i
    .subst c;rw[List.getElem?_eq_getElem hj];simp
    .simp[c]
   rw[this];exact hbn.nd
theorem akz(r:Nat){K:Nat->AH->Prop}(hs:Sep ro I)(hK:∀ b tag' I',(∀R,qf R ro tag I tag' I')->yo tag' I' r b []->K b I'):nw ro I (.map #[] 0) K:=by
 intro b hro hb
 exact hK b (setTag tag b r) _ (fun R=>qf.fresh hs hro hb) ⟨by simp[setTag],_,_,we _ _ _,rfl,by simp,by simp⟩
def qy(ro I:AH)(s:Sl)(l:List Value):Prop:=s.len=l.length/\(s.a=none->l=[])/\∀ p,s.a=some p->∀ i v,l[i]?=some v->qa ro I (p.add i)=some v
theorem Row.read{r:Nat}{e:TypeId}{s:Sl}{l:List Value}(h:Row tag I r e s l)(hs:Sep ro I):qy ro I s l:=by
 refine⟨h.len,fun hn=>?_,fun p hp i v hv=>?_⟩
 .rcases h with⟨_,h⟩ | ⟨b,cs,ha,_⟩
  .exact h
  .rw[hn]at ha;cases ha
 .have hl:0<l.length:=by
   rcases Nat.eq_zero_or_pos l.length with h0 | h0
   .rw[List.eq_nil_of_length_eq_zero h0]at hv;cases hv
   .exact h0
  obtain⟨q,hq,hg⟩:=h.ptr hs hl
  rw[hp]at hq;cases hq
  have:=hg i v hv
  rwa [Nat.mul_one]at this
theorem qy.keep{s:Sl}{l:List Value}(h:qy ro (fun _=>none) s l):qy ro I s l:=by
 refine⟨h.1,h.2.1,fun p hp i v hv=>?_⟩
 have:=h.2.2 p hp i v hv
 unfold qa rd at this⊢
 cases e:ro (p.add i).block with
 | none=>rw[e]at this;simp[wM]at this
 | some o=>rw[e]at this;exact this
theorem qy.step{s:Sl}{l:List Value}(h:qy ro I s l)(k:qf [] ro tag I tag' I'):qy ro I' s l:=by
 refine⟨h.1,h.2.1,fun p hp i v hv=>?_⟩
 have:=h.2.2 p hp i v hv
 unfold qa rd at this⊢
 cases e:ro (p.add i).block with
 | some o=>rw[e]at this;exact this
 | none=>
  rw[e]at this
  simp only at this⊢
  cases e2:I (p.add i).block with
  | none=>rw[e2]at this;simp[wM]at this
  | some o=>rw[(k.keep _ o e2 (by simp)).2];rw[e2]at this;exact this
theorem adU{b o:Nat}{e:TypeId}{K:AH->Prop}:∀ (vs:List Value) (cs:Array Value) (i:Nat) (I:AH),I b=some (.cells cs e)->o+i+vs.length<=cs.size->(∀v∈vs,qg v=true)->
  (∀cs':Array Value,cs'.size=cs.size->(∀j,j<o+i->cs'[j]?=cs[j]?)->(∀j v,vs[j]?=some v->cs'[o+i+j]?=some v)->K (upd I b (.cells cs' e)))->stN ⟨b,o,none⟩ K vs i I:=by
 intro vs
 induction vs with
 | nil=>
  intro cs i I hb _ _ hK
  have:=hK cs rfl (fun _ _=>rfl) (fun j v h=>by cases h)
  have e:upd I b (.cells cs e)=I:=by
   funext c;unfold upd;split
   .rename_i h;rw[h,hb]
   .rfl
  rw[e]at this;exact this
 | cons x vs ih=>
  intro cs i I hb hsz hst hK
  simp only[List.length_cons]at hsz
  refine⟨hst x (by simp),by simp,cs,e,(0,0),?_,?_,?_,?_⟩
  .simpa using hb
  .simp;omega
  .simp
  .simp only[wN]
   refine ih _ (i+1) _ (we _ _ _) (by simp;omega) (fun v hv=>hst v (by simp[hv])) fun cs' h1 h2 h3=>?_
   rw[adT]
   refine hK cs' (by simpa using h1) (fun j hj=>?_) fun j v hj=>?_
   .rw[h2 j (by omega),Array.getElem?_setIfInBounds_ne (by omega)]
   .rcases j with _ | j
    .cases hj
     rw[Nat.add_zero,h2 (o+i) (by omega),Array.getElem?_setIfInBounds_self_of_lt (by omega)]
    .rw[show o+i+(j+1)=o+(i+1)+j by omega];exact h3 j v hj
theorem xJ{r:Nat}{e t:TypeId}{s s2:Sl}{l l2:List Value}{zv:Value}{bytes:Nat}{ty:TypeId}{Q:Value->AH->Prop}(h:Row tag I r e s l)(hs:Sep ro I)(h2:qy ro I s2 l2)
  (ht:P.underlying t=some (.slice e)) (hz:qp P e zv 1 bytes) (hzc:zv.cells= #[zv]) (hv:∀ v∈l2,qg v=true) (hb:(l.length+l2.length)*bytes<=140737488355328) (hb0:0<bytes)
  (hK:∀ s' tag' I',(∀R,s.len=s.cap\/r∈R->qf R ro tag I tag' I')->Row tag' I' r e s' (l++l2)->Q (Sl.v s') I'):
  awp P ro (Builtin.append_ #[t,t] ty #[Sl.v s,Sl.v s2]) Q I:=by
 obtain⟨i,hi,hiz,his,hib⟩:=hz
 have hz:qp P e zv 1 bytes:=⟨i,hi,hiz,his,hib⟩
 have g0:(#[t,t]:Array TypeId)[0]?=some t:=rfl
 have g1:(#[t,t]:Array TypeId)[1]?=some t:=rfl
 have g2:(#[Value.slice s.a s.len s.cap,Value.slice s2.a s2.len s2.cap]:Array Value)[0]?=some (Value.slice s.a s.len s.cap):=rfl
 have g3:(#[Value.slice s.a s.len s.cap,Value.slice s2.a s2.len s2.cap]:Array Value)[1]?=some (Value.slice s2.a s2.len s2.cap):=rfl
 have hln:=h2.1
 have hld:∀ {β:Type} (f:Array Value->Sem β) (Q:β->AH->Prop),awp P ro (f l2.toArray) Q I->awp P ro (Sem.bind (Builtin.firstCells 1 s2.len (.slice s2.a s2.len s2.cap)) f) Q I:=by
  intro β f Q hf
  cases hsa:s2.a with
  | none=>
   rw[h2.2.1 hsa]at hf
   exact hf
  | some p=>
   rw[show Sem.bind (Builtin.firstCells 1 s2.len (.slice (some p) s2.len s2.cap)) f=(loadCells p (s2.len*1)) >>= f from rfl,vf,Nat.mul_one,hln]
   exact vH l2 0 #[] (wr 0 fun j v hj=>by rw[Nat.zero_add];exact h2.2.2 p hsa j v hj) (by simpa using hf)
 unfold Builtin.append_
 simp only[Sl.v,qw,qN,g0,g1,g2,g3]
 rw[qu ht]
 simp only[]
 rw[aaw hz]
 rw[qu ht]
 simp only[wu,Builtin.lenOf,qw,qN,Bool.false_eq_true,if_false,Bool.not_false,if_true,false_or]
 split
 .rename_i hroom
  refine hld _ _ ?_
  rcases h with⟨rfl,rfl⟩ | ⟨b,cs,ha,htg,hbk,hln1,hcp,hle,hg⟩
  .have h0:l2=[]:=List.eq_nil_of_length_eq_zero (by simp at hroom;omega)
   subst h0
   have hs2:s2.len=0:=hln
   show Q (.slice none (0+s2.len) 0) I
   rw[hs2]
   exact hK ⟨none,0,0⟩ tag I (fun _ _=>qf.refl hs) (.inl ⟨rfl,rfl⟩)
  .have h':Row tag I r e s l:= .inr ⟨b,cs,ha,htg,hbk,hln1,hcp,hle,hg⟩
   by_cases h0:l2=[]
   .subst h0
    have hs2:s2.len=0:=hln
    simp only[ha]
    show Q (Value.slice (some ⟨b,0,none⟩) (s.len+s2.len) s.cap) I
    rw[hs2,Nat.add_zero]
    have:=hK s tag I (fun _ _=>qf.refl hs) (by rw[List.append_nil];exact h')
    unfold Sl.v at this
    rw[ha]at this;exact this
   have hpos:=List.length_pos_iff.2 h0
   simp only[ha]
   show awp P ro (storeCells (Addr.add ⟨b,0,none⟩ (s.len*1)) l2 >>= fun _=>Sem.pure (Value.slice (some ⟨b,0,none⟩) (s.len+s2.len) s.cap)) Q I
   rw[vf,wN,Nat.mul_one,Nat.zero_add]
   refine jO l2 0 I (adU l2 cs 0 I hbk (by omega) hv fun cs' c1 c2 c3=>?_)
   show Q (Value.slice (some ⟨b,0,none⟩) (s.len+s2.len) s.cap) _
   refine hK ⟨some ⟨b,0,none⟩,s.len+s2.len,s.cap⟩ tag _ (fun R hR=>(pq hs htg hbk).mono fun x hx=>by rw[List.mem_singleton]at hx;rw[hx];exact hR.resolve_left (by omega)) (.inr ⟨b,cs',rfl,htg,we _ _ _,by simp[hln1,hln],by rw[c1];exact hcp,hroom,fun i hi=>?_⟩)
   simp at hi
   rcases Nat.lt_or_ge i l.length with hh | hh
   .rw[c2 i (by omega),List.getElem?_append_left hh];exact hg i hh
   .rw[List.getElem?_append_right hh]
    have:=c3 (i - l.length) _ (List.getElem?_eq_getElem (by omega))
    rw[List.getElem?_eq_getElem (by omega),<-this]
    congr 1;omega
 .rename_i hroom
  rw[wZ hi]
  rw[if_neg (by rw[hib];omega)]
  rw[wZ hi]
  have hl:=h.len
  rw[if_neg (by rw[hib];have:=growslice_fits (need:=s.len+s2.len) (old:=s.cap) (bytes:=bytes) (by omega) (by rw[hl,hln];exact hb);omega)]
  refine abe rfl (fun n=>?_)
  rw[wZ hi]
  refine ab3 ?_
  have hcut:s.len+s2.len<=(Question.appendCap (s.len+s2.len) s.cap e).cut n:=by simp only[Question.cut];omega
  generalize (Question.appendCap (s.len+s2.len) s.cap e).cut n=N at hcut
  refine afA h hs ?_
  refine hld _ _ ?_
  rw[aav hz]
  rw[hzc]
  show∀b,ro b=none->I b=none->Q (Value.slice (some ⟨b,0,none⟩) (s.len+s2.len) N) (upd I b _)
  intro b hro hb
  refine hK ⟨some ⟨b,0,none⟩,s.len+s2.len,N⟩ (setTag tag b r) _ (fun _ _=>qf.fresh hs hro hb) (.inr ⟨b,_,rfl,by simp[setTag],we _ _ _,by simp[hl,hln],?_,hcut,fun i hi=>?_⟩)
  .simp[Builtin.zeroCells];omega
  .simp at hi
   rw[Array.getElem?_append_left (by simp;omega)]
   simp
theorem afB(r:Nat->Nat){e:TypeId}{cs:Array Value}{K:Nat->AH->Prop}(hs:Sep ro I)
  (hK:∀ b tag' I',ro b=none->I b=none->(∀R,qf R ro tag I tag' I')->Row tag' I' (r b) e ⟨some ⟨b,0,none⟩,cs.size,cs.size⟩ cs.toList->K b I'):nw ro I (.cells cs e) K:=by
 intro b hro hb
 exact hK b (setTag tag b (r b)) _ hro hb (fun R=>qf.fresh hs hro hb) (.inr ⟨b,_,rfl,by simp[setTag],we _ _ _,by simp,rfl,Nat.le_refl _,fun i hi=>by simp⟩)
def ky(c:Nat)(ro:AH)(tag:Nat->Nat)(I:AH)(tag':Nat->Nat)(I':AH):Prop:= ∃R:List Nat,(∀x∈R,x%64=c)/\qf R ro tag I tag' I'
theorem qf.c{c:Nat}{R:List Nat}(h:qf R ro tag I tag' I')(hR:∀ x∈R,x%64=c):ky c ro tag I tag' I':=⟨R,hR,h⟩
theorem ky.sep{c:Nat}(h:ky c ro tag I tag' I'):Sep ro I':=by obtain⟨_,_,h⟩:=h;exact h.sep
theorem ky.trans{c:Nat}{tag'':Nat->Nat}{I'':AH}(h:ky c ro tag I tag' I')(k:ky c ro tag' I' tag'' I''):ky c ro tag I tag'' I'':=by
 obtain⟨R,h1,h2⟩:=h
 obtain⟨R',k1,k2⟩:=k
 refine⟨R++R',fun x hx=>?_,(h2.mono fun r hr=>by simp[hr]).trans (k2.mono fun r hr=>by simp[hr])⟩
 rcases List.mem_append.1 hx with h | h
 .exact h1 x h
 .exact k1 x h
theorem ky.refl{c:Nat}(h:Sep ro I):ky c ro tag I tag I:=⟨[],by simp,qf.refl h⟩
theorem Row.keepC{c r:Nat}{e:TypeId}{s:Sl}{l:List Value}(h:Row tag I r e s l)(k:ky c ro tag I tag' I')(hr:r%64≠c:=by decide):Row tag' I' r e s l:=by
 obtain⟨R,h1,h2⟩:=k
 exact h.keep h2 fun m=>hr (h1 _ m)
theorem ahc(b c:Nat):rd (join ro (one I b)) (SL.del I b) c=rd ro I c:=by
 unfold rd join one SL.del
 cases h:ro c with
 | some o=>rfl
 | none=>
  by_cases e:c=b
  .subst e;simp only[if_true];cases I c<;>rfl
  .simp[e]
theorem qy.lent{s:Sl}{l:List Value}(b:Nat)(h:qy ro I s l):qy (join ro (one I b)) (SL.del I b) s l:=
 ⟨h.1,h.2.1,fun p hp i v hv=>by have:=h.2.2 p hp i v hv;unfold qa at this ⊢;rw[ahc];exact this⟩
theorem yo.del{r b c:Nat}{m:KV}(h:yo tag I r b m)(hc:tag c≠r):yo tag (SL.del I c) r b m:=by
 obtain⟨es,k,hb,hx⟩:=h.obj
 refine⟨h.tg,es,k,?_,hx⟩
 have:b≠c:=fun e=>hc (by rw[<-e];exact h.tg)
 unfold SL.del;rw[if_neg this];exact hb
theorem yo.back{r b c r':Nat}{m:KV}{τ:AH}(h:yo tag' τ r b m)(hd:qz (one I c) τ)(hb:∃ o,I c=some o):yo (setTag tag' c r') (join (one I c) τ) r b m:=by
 obtain⟨es,k,hs,hx⟩:=h.obj
 have hcb:b≠c:=fun e=>by
  obtain⟨o,ho⟩:=hb
  have:=hd c o (by unfold one;rw[if_pos rfl];exact ho)
  rw[<-e,hs]at this;cases this
 exact⟨by unfold setTag;rw[if_neg hcb];exact h.tg,es,k,by unfold join one;rw[if_neg hcb];exact hs,hx⟩
theorem Row.stAll{r:Nat}{e:TypeId}{b n c:Nat}{l vs:List Value}{K:AH->Prop}(h:Row tag I r e ⟨some ⟨b,0,none⟩,n,c⟩ l)(hs:Sep ro I)(hl:vs.length=l.length)(hv:∀ v∈vs,qg v=true)
  (hK:∀ I',qf [r] ro tag I tag I'->Row tag I' r e ⟨some ⟨b,0,none⟩,n,c⟩ vs->K I'):stN ⟨b,0,none⟩ K vs 0 I:=by
 rcases h with⟨h,_⟩ | ⟨b',cs,ha,ht,hb,hln,hc,hle,hg⟩
 .cases h
 .cases ha
  refine adU vs cs 0 I hb (by simp at hln hc hle;omega) hv fun cs' c1 _ c3=>?_
  refine hK _ (pq hs ht hb) (.inr ⟨b,cs',rfl,ht,we _ _ _,by rw[hl];exact hln,by rw[c1];exact hc,hle,fun i hi=>?_⟩)
  have:=c3 i _ (List.getElem?_eq_getElem hi)
  rw[List.getElem?_eq_getElem hi,<-this];congr 1;omega
end SL
namespace SL
open Go
variable{P:Program}{W:World}
def Arg(P:Program)(W:World)(H:Type)(enc:TypeId×Value->H)(t:TypeId)(cs:List Value):Prop:=
 ∃(fuel:Nat) (d:DataW H) (ps:List MemPlace),DataW.trod enc P W 0 (fun _=>true) true fuel t cs=some (d,ps)/\(d.weights P t).all (· <=reachBytes)=true
variable{H:Type}{enc:TypeId×Value->H}
theorem ae7{e:TypeId}:∀ {l:List (DataW H)} {d:DataW H},d∈l->(DataW.weightsAll P e l).all (· <=reachBytes)=true->(d.weights P e).all (· <=reachBytes)=true:=by
 intro l
 induction l with
 | nil=>intro d h;cases h
 | cons x l ih=>
  intro d h hw
  rw[DataW.weightsAll,List.all_append,Bool.and_eq_true]at hw
  rcases List.mem_cons.1 h with rfl | h
  .exact hw.1
  .exact ih h hw.2
theorem uL:∀ {ts:List TypeId} {l:List (DataW H)} {i:Nat} {t:TypeId} {d:DataW H},ts[i]?=some t->l[i]?=some d->(DataW.weightsEach P ts l).all (· <=reachBytes)=true->(d.weights P t).all (· <=reachBytes)=true:=by
 intro ts
 induction ts with
 | nil=>intro l i t d h;cases h
 | cons t' ts ih=>
  intro l i t d ht hd hw
  cases l with
  | nil=>cases hd
  | cons x l=>
   rw[DataW.weightsEach,List.all_append,Bool.and_eq_true]at hw
   cases i with
   | zero=>cases ht;cases hd;exact hw.1
   | succ i=>exact ih (by simpa using ht) (by simpa using hd) hw.2
theorem Arg.u8{t:TypeId}{u:Value}(ht:P.underlying t=some (.int .u8))(h:Arg P W H enc t [u]):∃ c:UInt8,u= .int .u8 c.toNat:=by
 obtain⟨fuel,d,ps,hf,hw⟩:=h
 cases fuel with
 | zero=>cases hf
 | succ n=>
  unfold DataW.trod at hf
  rw[ht]at hf
  cases u<;>simp at hf
  rename_i k x
  obtain⟨⟨rfl,hwf⟩,_⟩:=hf
  simp[Lit.wf,IntKind.min,IntKind.max,IntKind.bits,IntKind.signed]at hwf
  refine⟨UInt8.ofNat x.toNat,?_⟩
  congr 1
  simp;omega
theorem Arg.bool{t:TypeId}{u:Value}(ht:P.underlying t=some .bool)(h:Arg P W H enc t [u]):∃ b:Bool,u= .bool b:=by
 obtain⟨fuel,d,ps,hf,hw⟩:=h
 cases fuel with
 | zero=>cases hf
 | succ n=>
  unfold DataW.trod at hf
  rw[ht]at hf
  cases u<;>simp at hf
  exact⟨_,rfl⟩
theorem Arg.str{t:TypeId}{u:Value}(ht:P.underlying t=some .string)(h:Arg P W H enc t [u]):∃ s:ByteArray,u= .string s/\s.size<=reachBytes:=by
 obtain⟨fuel,d,ps,hf,hw⟩:=h
 cases fuel with
 | zero=>cases hf
 | succ n=>
  unfold DataW.trod at hf
  rw[ht]at hf
  cases u<;>simp at hf
  rename_i s
  refine⟨s,rfl,?_⟩
  obtain⟨_,rfl,_⟩:=hf
  rw[DataW.weights]at hw
  simpa using hw
end SL
namespace SL
open Go Go.ChangeShapes Go.WideShapes Go.ChangeAt Go.RowKit
theorem ak8{H:Type}{enc:TypeId×Value->H}{a:Assume}{C:Checked}{os:Os}{f:FuncId}{fn:Func}{s:ChangeSpec}{conds:List PathCond}{apart fresh handsOn again:Bool}{X:World->Array Value->Prop}{F:Stop.Interp}
  (hX:∀ (w w':World) (args:Array Value),w.heap=w'.heap->X w args->X w' args)
  (own:ownKnob C.prog.godebug=none) (started:os.Started) (noInit:C.prog.inits.idxOf? f=none) (hfn:C.prog.funcs[f]?=some fn)
  (witness:∃ (w:World) (tape:Tape) (i:Input),w.os=os/\(w.forCall tape i).Shaped C.prog/\i.vars=[]/\Input.okWide C.prog (w.forCall tape i) .any w.heap.size f i/\
   (((Rows.OpenSpec.upto s).pre enc C.prog fn conds apart (w.forCall tape i).memory i.args/\X (w.forCall tape i).memory i.args)/\sizedMet enc C.prog fn (Rows.OpenSpec.upto s) apart (w.forCall tape i).memory i.args)/\a.holds C.prog (lone (Frame.enter C.prog f i.args .normal) [] (w.forCall tape i)))
  (contract:∀ (W:World) (base:Nat) (args:Array Value) (ds gs:List (DataW H)) (before:List MemPlace),
   (∀(j:Nat) t v,fn.params[j]?=some t->args[j]?=some v->Value.okWide C.prog W .any base t v)->
   DataW.Whole enc C.prog fn.params.toList s.vars apart W args.toList ds gs before->
   Rows.uptoSmall H (ds++gs)=true->
   (DataW.weightsEach C.prog (fn.params.toList++s.plain.varTypes C.prog) (ds++gs)).all (· <=reachBytes)=true->X W args->W.ShapedOpen C.prog->
   a.holds C.prog (lone (Frame.enter C.prog f args .normal) [] W)->
   Calls C.prog f args W fun e W'=> ∃v,e= .returned v/\((Rows.OpenSpec.upto s).at F).post enc C.prog fn apart fresh handsOn again W args v W'):
  ReturnsInHanded a C os f .any (fun w args=>((Rows.OpenSpec.upto s).pre enc C.prog fn conds apart w args/\X w args)/\sizedMet enc C.prog fn (Rows.OpenSpec.upto s) apart w args) (((Rows.OpenSpec.upto s).at F).post enc C.prog fn apart fresh handsOn again):=by
 refine returnsInHanded_of_calls own started noInit witness ?_
 intro w tape i _ hsh _ hok hpre hholds
 obtain⟨_,_,_,fn',hfn',_,_,_,_,hval⟩:=hok
 have e:fn'=fn:=Option.some.inj (hfn'.symm.trans hfn)
 subst e
 obtain⟨⟨hp,hx⟩,hz⟩:=hpre
 obtain⟨ds,gs,before,hw,_,hk⟩:=(OpenSpec.pre_some (s:=Rows.OpenSpec.upto s) (k:=Rows.uptoSmall) rfl conds apart _ _).1 hp
 have hw':=DataW.Whole.of_heap (w':=w.forCall tape i) (by rfl) hw
 refine(contract (w.forCall tape i) w.heap.size i.args ds gs before hval hw' hk (hz.weights hw) (hX _ _ _ (by rfl) hx) hsh hholds).mono fun e W' ⟨v,he,hp⟩=>?_
 subst he
 exact ChangeSpec.post_blind hp
theorem ai4{H:Type}{enc:TypeId×Value->H}{C:Checked}{os:Os}{f:FuncId}{fn:Func}{s:ChangeSpec}{apart:Bool}{X:World->Array Value->Prop}(w0:World)(args:Array Value)(fuel:Nat)(hos:w0.os=os)
  (hsh:(w0.forCall (fun _ _=>0) ⟨#[],args,[]⟩).Shaped C.prog)
  (hok:Input.okWideB C.prog (w0.forCall (fun _ _=>0) ⟨#[],args,[]⟩) f ⟨#[],args,[]⟩=true)
  {x:List (DataW H)×List (DataW H)×List MemPlace} (hx:DataW.whole enc C.prog (w0.forCall (fun _ _=>0) ⟨#[],args,[]⟩).memory fn.params.toList s.vars apart args.toList fuel=some x)
  (hkk:Rows.uptoSmall H (x.1++x.2.1)=true)
  (hsz:s.sizedB enc C.prog fn apart (w0.forCall (fun _ _=>0) ⟨#[],args,[]⟩).memory args fuel=true)
  (hX:X (w0.forCall (fun _ _=>0) ⟨#[],args,[]⟩).memory args):
  ∃(w:World) (tape:Tape) (i:Input),w.os=os/\(w.forCall tape i).Shaped C.prog/\i.vars=[]/\Input.okWide C.prog (w.forCall tape i) .any w.heap.size f i/\
   (((Rows.OpenSpec.upto s).pre enc C.prog fn [] apart (w.forCall tape i).memory i.args/\X (w.forCall tape i).memory i.args)/\sizedMet enc C.prog fn (Rows.OpenSpec.upto s) apart (w.forCall tape i).memory i.args)/\({}:Assume).holds C.prog (lone (Frame.enter C.prog f i.args .normal) [] (w.forCall tape i)):=
 ⟨w0,fun _ _=>0,⟨#[],args,[]⟩,hos,hsh,(Input.okWide_of_okWideB (base:=0) hok).1,(Input.okWide_of_okWideB hok).2,
  ⟨⟨(OpenSpec.pre_some (s:=Rows.OpenSpec.upto s) (k:=Rows.uptoSmall) rfl [] apart _ _).2 ⟨x.1,x.2.1,x.2.2,DataW.Whole_of_whole hx,rfl,hkk⟩,hX⟩,sizedMet_of_sizedB hsz⟩,by
  simp only[Assume.holds]
  exact⟨by simp,by simp,fun _=>Modest.zero,by simp,by simp⟩⟩
theorem ai5{H:Type}(d:DataW H):1<=Rows.uptoBulk d:=by
 cases d with
 | lit l=>cases l<;>simp[Rows.uptoBulk]
 | _=>simp[Rows.uptoBulk]
theorem agU{H:Type}:∀ (l:List (DataW H)),l.length<=Rows.uptoBulkAll l:=by
 intro l
 induction l with
 | nil=>simp[Rows.uptoBulkAll]
 | cons d l ih=>have:=ai5 d;simp[Rows.uptoBulkAll];omega
theorem ab5{H:Type}:∀ {l:List (DataW H)} {i:Nat} {d:DataW H},l[i]?=some d->Rows.uptoBulk d<=Rows.uptoBulkAll l:=by
 intro l
 induction l with
 | nil=>intro i d h;cases h
 | cons x l ih=>
  intro i d h
  cases i with
  | zero=>cases h;simp[Rows.uptoBulkAll]
  | succ i=>have:=ih (by simpa using h);simp only[Rows.uptoBulkAll];omega
theorem agp{H:Type}{l:List (DataW H)}{i:Nat}{d:DataW H}(h:Rows.uptoSmall H l=true)(hi:l[i]?=some d):Rows.uptoBulk d<=1048576:=by
 unfold Rows.uptoSmall at h
 have:=ab5 hi
 simp only[decide_eq_true_eq]at h
 omega
end SL
namespace G
open Go SL
variable{B:World}{ro I:AH}
theorem _root_.Go.Proofs.Tryz.mixed:prog.follows .mixedOrders=true:=by kernel_rfl
theorem ty3:qp prog 3 (.int .i64 0) 1 8:=qp.of (by kernel_rfl)
theorem ty4:qp prog 4 (.bool false) 1 1:=qp.of (by kernel_rfl)
theorem ty5:qp prog 5 (.int .u8 0) 1 1:=qp.of (by kernel_rfl)
theorem ty9:qp prog 9 (.string ByteArray.empty) 1 16:=qp.of (by kernel_rfl)
theorem ab6:qp prog 22 (.int .i64 0) 1 8:=qp.of (by kernel_rfl)
theorem alK:qp prog 23 (.slice none 0 0) 1 24:=qp.of (by kernel_rfl)
theorem qV:qp prog 24 (.slice none 0 0) 1 24:=qp.of (by kernel_rfl)
theorem jS:qp prog 26 (.agg #[.int .i64 0,.int .i64 0,.int .i64 0,.int .i64 0]) 4 32:=qp.of (by kernel_rfl)
theorem alL:qp prog 27 (.slice none 0 0) 1 24:=qp.of (by kernel_rfl)
theorem alM:qp prog 28 (.slice none 0 0) 1 24:=qp.of (by kernel_rfl)
theorem jd:qp prog 30 (.agg #[.int .i64 0,.int .i64 0,.slice none 0 0,.int .i64 0,.slice none 0 0,.int .i64 0,.int .i64 0,.int .i64 0,.int .i64 0,.slice none 0 0,.slice none 0 0,.int .i64 0]) 12 160:=qp.of (by kernel_rfl)
theorem adt:qp prog 54 (.slice none 0 0) 1 24:=qp.of (by kernel_rfl)
theorem xR:qp prog 55 (.slice none 0 0) 1 24:=qp.of (by kernel_rfl)
theorem zK:qp prog 57 (.agg #[.int .i64 0,.string ByteArray.empty,.int .i64 0,.int .i64 0,.int .i64 0,.int .i64 0,.int .i64 0,.int .i64 0,.slice none 0 0,.string ByteArray.empty,.bool false,.int .i64 0,.slice none 0 0]) 13 152:=qp.of (by kernel_rfl)
theorem ai6:qp prog 61 (.pointer none) 1 8:=qp.of (by kernel_rfl)
theorem je:qp prog 72 (.agg #[.int .i64 0,.string ByteArray.empty,.slice none 0 0,.int .i64 0,.bool false,.bool false]) 6 64:=qp.of (by kernel_rfl)
theorem akA:qp prog 81 (.agg #[.string ByteArray.empty,.int .i64 0]) 2 24:=qp.of (by kernel_rfl)
theorem alN:qp prog 83 (.agg #[.string ByteArray.empty,.int .i64 0,.int .i64 0,.int .i64 0,.int .i64 0,.int .i64 0,.slice none 0 0]) 7 80:=qp.of (by kernel_rfl)
theorem ae8:qp prog 86 (.slice none 0 0) 1 24:=qp.of (by kernel_rfl)
theorem jT:qp prog 88 (.agg #[.int .i64 0,.string ByteArray.empty,.int .i64 0,.int .i64 0,.int .i64 0,.int .i64 0,.int .i64 0,.int .i64 0,.slice none 0 0,.string ByteArray.empty,.bool false,.int .i64 0,.slice none 0 0]) 13 152:=qp.of (by kernel_rfl)
theorem ut:qp prog 96 (.agg #[.int .i64 0,.string ByteArray.empty,.slice none 0 0]) 3 48:=qp.of (by kernel_rfl)
theorem ajS:qp prog 147 (.agg #[.slice none 0 0,.int .i64 0,.int .i64 0]) 3 40:=qp.of (by kernel_rfl)
theorem af9:qp prog 149 (.agg #[.int .i64 0,.slice none 0 0]) 2 32:=qp.of (by kernel_rfl)
theorem ahZ:qp prog 150 (.pointer none) 1 8:=qp.of (by kernel_rfl)
theorem ak9:qp prog 151 (.pointer none) 1 8:=qp.of (by kernel_rfl)
theorem ala:qp prog 153 (.agg #[.int .i64 0,.slice none 0 0,.pointer none,.pointer none,.pointer none]) 5 56:=qp.of (by kernel_rfl)
theorem ajT:qp prog 168 (.agg #[.int .i64 0,.int .i64 0,.int .i64 0,.int .i64 0,.slice none 0 0]) 5 56:=qp.of (by kernel_rfl)
theorem aga:qp prog 215 (.int .i8 0) 1 1:=qp.of (by kernel_rfl)
theorem agb:qp prog 217 (.agg #[.slice none 0 0,.int .i64 0,.int .i8 0]) 3 40:=qp.of (by kernel_rfl)
theorem abS:qp prog 219 (.agg #[.slice none 0 0,.int .i64 0,.int .i8 0,.bool false]) 4 48:=qp.of (by kernel_rfl)
theorem alb:qp prog 221 (.agg #[.slice none 0 0,.int .i64 0,.int .i8 0,.bool false]) 4 48:=qp.of (by kernel_rfl)
theorem alc:qp prog 231 (.agg #[.slice none 0 0,.int .i64 0]) 2 32:=qp.of (by kernel_rfl)
theorem aeR:qp prog 237 (.map none) 1 8:=qp.of (by kernel_rfl)
theorem ald:qp prog 239 (.agg #[.map none]) 1 8:=qp.of (by kernel_rfl)
theorem ah0:qp prog 240 (.map none) 1 8:=qp.of (by kernel_rfl)
theorem ale:qp prog 242 (.agg #[.map none]) 1 8:=qp.of (by kernel_rfl)
theorem alf:qp prog 243 (.map none) 1 8:=qp.of (by kernel_rfl)
theorem alg:qp prog 245 (.agg #[.map none]) 1 8:=qp.of (by kernel_rfl)
theorem agc:qp prog 252 (.map none) 1 8:=qp.of (by kernel_rfl)
theorem alh:qp prog 254 (.agg #[.int .i64 0,.map none]) 2 16:=qp.of (by kernel_rfl)
theorem vW:qp prog 276 (.agg #[.int .i64 0,.string ByteArray.empty,.slice none 0 0,.int .i64 0,.bool false,.bool false]) 6 64:=qp.of (by kernel_rfl)
theorem akB:wz prog [{name:= "Version",type:=3,offset:=0,embedded:=false,tag:= "",pkgPath:= "",byteOffset:=0},{name:= "Counter",type:=3,offset:=1,embedded:=false,tag:= "",pkgPath:= "",byteOffset:=8},{name:= "Owner",type:=3,offset:=2,embedded:=false,tag:= "",pkgPath:= "",byteOffset:=16},{name:= "Children",type:=3,offset:=3,embedded:=false,tag:= "",pkgPath:= "",byteOffset:=24}] [(0,1),(1,1),(2,1),(3,1)]:=⟨⟨rfl,_,_,ty3⟩,⟨⟨rfl,_,_,ty3⟩,⟨⟨rfl,_,_,ty3⟩,⟨⟨rfl,_,_,ty3⟩,trivial⟩⟩⟩⟩
theorem akC:wz prog [{name:= "Code",type:=22,offset:=0,embedded:=false,tag:= "",pkgPath:= "",byteOffset:=0},{name:= "Session",type:=3,offset:=1,embedded:=false,tag:= "",pkgPath:= "",byteOffset:=8},{name:= "Results",type:=23,offset:=2,embedded:=false,tag:= "",pkgPath:= "",byteOffset:=16},{name:= "Bad",type:=3,offset:=3,embedded:=false,tag:= "",pkgPath:= "",byteOffset:=40},{name:= "Data",type:=24,offset:=4,embedded:=false,tag:= "",pkgPath:= "",byteOffset:=48},{name:= "Stat",type:=26,offset:=5,embedded:=false,tag:= "",pkgPath:= "",byteOffset:=72},{name:= "Names",type:=27,offset:=9,embedded:=false,tag:= "",pkgPath:= "",byteOffset:=104},{name:= "Events",type:=28,offset:=10,embedded:=false,tag:= "",pkgPath:= "",byteOffset:=128},{name:= "Epoch",type:=3,offset:=11,embedded:=false,tag:= "",pkgPath:= "",byteOffset:=152}] [(0,1),(1,1),(2,1),(3,1),(4,1),(5,4),(9,1),(10,1),(11,1)]:=⟨⟨rfl,_,_,ab6⟩,⟨⟨rfl,_,_,ty3⟩,⟨⟨rfl,_,_,alK⟩,⟨⟨rfl,_,_,ty3⟩,⟨⟨rfl,_,_,qV⟩,⟨⟨rfl,_,_,jS⟩,⟨⟨rfl,_,_,alL⟩,⟨⟨rfl,_,_,alM⟩,⟨⟨rfl,_,_,ty3⟩,trivial⟩⟩⟩⟩⟩⟩⟩⟩⟩
theorem ai7:wz prog [{name:= "Kind",type:=3,offset:=0,embedded:=false,tag:= "",pkgPath:= "",byteOffset:=0},{name:= "Home",type:=9,offset:=1,embedded:=false,tag:= "",pkgPath:= "",byteOffset:=8},{name:= "Session",type:=3,offset:=2,embedded:=false,tag:= "",pkgPath:= "",byteOffset:=24},{name:= "Req",type:=3,offset:=3,embedded:=false,tag:= "",pkgPath:= "",byteOffset:=32},{name:= "Nonce",type:=3,offset:=4,embedded:=false,tag:= "",pkgPath:= "",byteOffset:=40},{name:= "Lease",type:=3,offset:=5,embedded:=false,tag:= "",pkgPath:= "",byteOffset:=48},{name:= "Beats",type:=3,offset:=6,embedded:=false,tag:= "",pkgPath:= "",byteOffset:=56},{name:= "Ack",type:=3,offset:=7,embedded:=false,tag:= "",pkgPath:= "",byteOffset:=64},{name:= "Ops",type:=54,offset:=8,embedded:=false,tag:= "",pkgPath:= "",byteOffset:=72},{name:= "Path",type:=9,offset:=9,embedded:=false,tag:= "",pkgPath:= "",byteOffset:=96},{name:= "Watch",type:=4,offset:=10,embedded:=false,tag:= "",pkgPath:= "",byteOffset:=112},{name:= "Epoch",type:=3,offset:=11,embedded:=false,tag:= "",pkgPath:= "",byteOffset:=120},{name:= "Members",type:=55,offset:=12,embedded:=false,tag:= "",pkgPath:= "",byteOffset:=128}] [(0,1),(1,1),(2,1),(3,1),(4,1),(5,1),(6,1),(7,1),(8,1),(9,1),(10,1),(11,1),(12,1)]:=⟨⟨rfl,_,_,ty3⟩,⟨⟨rfl,_,_,ty9⟩,⟨⟨rfl,_,_,ty3⟩,⟨⟨rfl,_,_,ty3⟩,⟨⟨rfl,_,_,ty3⟩,⟨⟨rfl,_,_,ty3⟩,⟨⟨rfl,_,_,ty3⟩,⟨⟨rfl,_,_,ty3⟩,⟨⟨rfl,_,_,adt⟩,⟨⟨rfl,_,_,ty9⟩,⟨⟨rfl,_,_,ty4⟩,⟨⟨rfl,_,_,ty3⟩,⟨⟨rfl,_,_,xR⟩,trivial⟩⟩⟩⟩⟩⟩⟩⟩⟩⟩⟩⟩⟩
theorem alO:wz prog [{name:= "Kind",type:=3,offset:=0,embedded:=false,tag:= "",pkgPath:= "",byteOffset:=0},{name:= "Path",type:=9,offset:=1,embedded:=false,tag:= "",pkgPath:= "",byteOffset:=8},{name:= "Data",type:=24,offset:=2,embedded:=false,tag:= "",pkgPath:= "",byteOffset:=24},{name:= "Version",type:=3,offset:=3,embedded:=false,tag:= "",pkgPath:= "",byteOffset:=48},{name:= "Ephemeral",type:=4,offset:=4,embedded:=false,tag:= "",pkgPath:= "",byteOffset:=56},{name:= "Sequential",type:=4,offset:=5,embedded:=false,tag:= "",pkgPath:= "",byteOffset:=57}] [(0,1),(1,1),(2,1),(3,1),(4,1),(5,1)]:=⟨⟨rfl,_,_,ty3⟩,⟨⟨rfl,_,_,ty9⟩,⟨⟨rfl,_,_,qV⟩,⟨⟨rfl,_,_,ty3⟩,⟨⟨rfl,_,_,ty4⟩,⟨⟨rfl,_,_,ty4⟩,trivial⟩⟩⟩⟩⟩⟩
theorem alP:wz prog [{name:= "Home",type:=9,offset:=0,embedded:=false,tag:= "",pkgPath:= "",byteOffset:=0},{name:= "N",type:=3,offset:=1,embedded:=false,tag:= "",pkgPath:= "",byteOffset:=16}] [(0,1),(1,1)]:=⟨⟨rfl,_,_,ty9⟩,⟨⟨rfl,_,_,ty3⟩,trivial⟩⟩
theorem alQ:wz prog [{name:= "Key",type:=81,offset:=0,embedded:=true,tag:= "",pkgPath:= "",byteOffset:=0},{name:= "Nonce",type:=3,offset:=2,embedded:=false,tag:= "",pkgPath:= "",byteOffset:=24},{name:= "Lease",type:=3,offset:=3,embedded:=false,tag:= "",pkgPath:= "",byteOffset:=32},{name:= "Beats",type:=3,offset:=4,embedded:=false,tag:= "",pkgPath:= "",byteOffset:=40},{name:= "Req",type:=3,offset:=5,embedded:=false,tag:= "",pkgPath:= "",byteOffset:=48},{name:= "Reply",type:=24,offset:=6,embedded:=false,tag:= "",pkgPath:= "",byteOffset:=56}] [(0,2),(2,1),(3,1),(4,1),(5,1),(6,1)]:=⟨⟨rfl,_,_,akA⟩,⟨⟨rfl,_,_,ty3⟩,⟨⟨rfl,_,_,ty3⟩,⟨⟨rfl,_,_,ty3⟩,⟨⟨rfl,_,_,ty3⟩,⟨⟨rfl,_,_,qV⟩,trivial⟩⟩⟩⟩⟩⟩
theorem ai8:wz prog [{name:= "Kind",type:=3,offset:=0,embedded:=false,tag:= "",pkgPath:= "",byteOffset:=0},{name:= "Home",type:=9,offset:=1,embedded:=false,tag:= "",pkgPath:= "",byteOffset:=8},{name:= "Session",type:=3,offset:=2,embedded:=false,tag:= "",pkgPath:= "",byteOffset:=24},{name:= "Req",type:=3,offset:=3,embedded:=false,tag:= "",pkgPath:= "",byteOffset:=32},{name:= "Nonce",type:=3,offset:=4,embedded:=false,tag:= "",pkgPath:= "",byteOffset:=40},{name:= "Lease",type:=3,offset:=5,embedded:=false,tag:= "",pkgPath:= "",byteOffset:=48},{name:= "Beats",type:=3,offset:=6,embedded:=false,tag:= "",pkgPath:= "",byteOffset:=56},{name:= "Ack",type:=3,offset:=7,embedded:=false,tag:= "",pkgPath:= "",byteOffset:=64},{name:= "Ops",type:=86,offset:=8,embedded:=false,tag:= "",pkgPath:= "",byteOffset:=72},{name:= "Path",type:=9,offset:=9,embedded:=false,tag:= "",pkgPath:= "",byteOffset:=96},{name:= "Watch",type:=4,offset:=10,embedded:=false,tag:= "",pkgPath:= "",byteOffset:=112},{name:= "Epoch",type:=3,offset:=11,embedded:=false,tag:= "",pkgPath:= "",byteOffset:=120},{name:= "Members",type:=55,offset:=12,embedded:=false,tag:= "",pkgPath:= "",byteOffset:=128}] [(0,1),(1,1),(2,1),(3,1),(4,1),(5,1),(6,1),(7,1),(8,1),(9,1),(10,1),(11,1),(12,1)]:=⟨⟨rfl,_,_,ty3⟩,⟨⟨rfl,_,_,ty9⟩,⟨⟨rfl,_,_,ty3⟩,⟨⟨rfl,_,_,ty3⟩,⟨⟨rfl,_,_,ty3⟩,⟨⟨rfl,_,_,ty3⟩,⟨⟨rfl,_,_,ty3⟩,⟨⟨rfl,_,_,ty3⟩,⟨⟨rfl,_,_,ae8⟩,⟨⟨rfl,_,_,ty9⟩,⟨⟨rfl,_,_,ty4⟩,⟨⟨rfl,_,_,ty3⟩,⟨⟨rfl,_,_,xR⟩,trivial⟩⟩⟩⟩⟩⟩⟩⟩⟩⟩⟩⟩⟩
theorem ah1:wz prog [{name:= "Kind",type:=3,offset:=0,embedded:=false,tag:= "",pkgPath:= "",byteOffset:=0},{name:= "Home",type:=9,offset:=1,embedded:=false,tag:= "",pkgPath:= "",byteOffset:=8},{name:= "Data",type:=24,offset:=2,embedded:=false,tag:= "",pkgPath:= "",byteOffset:=24}] [(0,1),(1,1),(2,1)]:=⟨⟨rfl,_,_,ty3⟩,⟨⟨rfl,_,_,ty9⟩,⟨⟨rfl,_,_,qV⟩,trivial⟩⟩⟩
theorem ajU:wz prog [{name:= "B",type:=24,offset:=0,embedded:=false,tag:= "",pkgPath:= "",byteOffset:=0},{name:= "At",type:=3,offset:=1,embedded:=false,tag:= "",pkgPath:= "",byteOffset:=24},{name:= "Err",type:=3,offset:=2,embedded:=false,tag:= "",pkgPath:= "",byteOffset:=32}] [(0,1),(1,1),(2,1)]:=⟨⟨rfl,_,_,qV⟩,⟨⟨rfl,_,_,ty3⟩,⟨⟨rfl,_,_,ty3⟩,trivial⟩⟩⟩
theorem ali:wz prog [{name:= "epoch",type:=3,offset:=0,embedded:=false,tag:= "",pkgPath:= "althing/store",byteOffset:=0},{name:= "members",type:=55,offset:=1,embedded:=false,tag:= "",pkgPath:= "althing/store",byteOffset:=8}] [(0,1),(1,1)]:=⟨⟨rfl,_,_,ty3⟩,⟨⟨rfl,_,_,xR⟩,trivial⟩⟩
theorem alj:wz prog [{name:= "quorum",type:=149,offset:=0,embedded:=true,tag:= "",pkgPath:= "althing/store",byteOffset:=0},{name:= "tree",type:=61,offset:=2,embedded:=false,tag:= "",pkgPath:= "althing/store",byteOffset:=32},{name:= "table",type:=150,offset:=3,embedded:=false,tag:= "",pkgPath:= "althing/store",byteOffset:=40},{name:= "hub",type:=151,offset:=4,embedded:=false,tag:= "",pkgPath:= "althing/store",byteOffset:=48}] [(0,2),(2,1),(3,1),(4,1)]:=⟨⟨rfl,_,_,af9⟩,⟨⟨rfl,_,_,ai6⟩,⟨⟨rfl,_,_,ahZ⟩,⟨⟨rfl,_,_,ak9⟩,trivial⟩⟩⟩⟩
theorem ajV:wz prog [{name:= "Stat",type:=26,offset:=0,embedded:=true,tag:= "",pkgPath:= "",byteOffset:=0},{name:= "data",type:=24,offset:=4,embedded:=false,tag:= "",pkgPath:= "althing/ztree",byteOffset:=32}] [(0,4),(4,1)]:=⟨⟨rfl,_,_,jS⟩,⟨⟨rfl,_,_,qV⟩,trivial⟩⟩
theorem alk:wz prog [{name:= "buffer",type:=219,offset:=0,embedded:=true,tag:= "",pkgPath:= "althing/wire",byteOffset:=0}] [(0,4)]:=⟨⟨rfl,_,_,abS⟩,trivial⟩
theorem alm:wz prog [{name:= "b",type:=24,offset:=0,embedded:=false,tag:= "",pkgPath:= "althing/wire",byteOffset:=0},{name:= "err",type:=22,offset:=1,embedded:=false,tag:= "",pkgPath:= "althing/wire",byteOffset:=24}] [(0,1),(1,1)]:=⟨⟨rfl,_,_,qV⟩,⟨⟨rfl,_,_,ab6⟩,trivial⟩⟩
theorem aln:wz prog [{name:= "nodes",type:=237,offset:=0,embedded:=false,tag:= "",pkgPath:= "althing/ztree",byteOffset:=0}] [(0,1)]:=⟨⟨rfl,_,_,aeR⟩,trivial⟩
theorem alo:wz prog [{name:= "houses",type:=240,offset:=0,embedded:=false,tag:= "",pkgPath:= "althing/session",byteOffset:=0}] [(0,1)]:=⟨⟨rfl,_,_,ah0⟩,trivial⟩
theorem alp:wz prog [{name:= "desks",type:=243,offset:=0,embedded:=false,tag:= "",pkgPath:= "althing/watch",byteOffset:=0}] [(0,1)]:=⟨⟨rfl,_,_,alf⟩,trivial⟩
theorem alq:wz prog [{name:= "last",type:=3,offset:=0,embedded:=false,tag:= "",pkgPath:= "althing/session",byteOffset:=0},{name:= "live",type:=252,offset:=1,embedded:=false,tag:= "",pkgPath:= "althing/session",byteOffset:=8}] [(0,1),(1,1)]:=⟨⟨rfl,_,_,ty3⟩,⟨⟨rfl,_,_,agc⟩,trivial⟩⟩
theorem ajW:wz prog [{name:= "Kind",type:=3,offset:=0,embedded:=false,tag:= "",pkgPath:= "",byteOffset:=0},{name:= "Path",type:=9,offset:=1,embedded:=false,tag:= "",pkgPath:= "",byteOffset:=8},{name:= "Data",type:=24,offset:=2,embedded:=false,tag:= "",pkgPath:= "",byteOffset:=24},{name:= "Version",type:=3,offset:=3,embedded:=false,tag:= "",pkgPath:= "",byteOffset:=48},{name:= "Eph",type:=4,offset:=4,embedded:=false,tag:= "",pkgPath:= "",byteOffset:=56},{name:= "Seq",type:=4,offset:=5,embedded:=false,tag:= "",pkgPath:= "",byteOffset:=57}] [(0,1),(1,1),(2,1),(3,1),(4,1),(5,1)]:=⟨⟨rfl,_,_,ty3⟩,⟨⟨rfl,_,_,ty9⟩,⟨⟨rfl,_,_,qV⟩,⟨⟨rfl,_,_,ty3⟩,⟨⟨rfl,_,_,ty4⟩,⟨⟨rfl,_,_,ty4⟩,trivial⟩⟩⟩⟩⟩⟩
def aaQ(B:World)(ro:AH)(a0_0:Int)(a0_1:ByteArray)(a0_2 a0_3 a0_4 a0_5 a0_6 a0_7:Int)(a0_8:Sl)(a0_9:ByteArray)(a0_10:Bool)(a0_11:Int)(a0_12 a1:Sl)(I:AH)(Q:Bool->AH->Prop):=
 qb prog B ro 8 #[.agg #[.int .i64 a0_0,.string a0_1,.int .i64 a0_2,.int .i64 a0_3,.int .i64 a0_4,.int .i64 a0_5,.int .i64 a0_6,.int .i64 a0_7,Sl.v a0_8,.string a0_9,.bool a0_10,.int .i64 a0_11,Sl.v a0_12],Sl.v a1] I fun v I=> ∃(r0:Bool),v= .bool r0/\Q r0 I
def jU(B:World)(ro:AH)(a0:Sl)(I:AH)(Q:Sl->AH->Prop):=
 qb prog B ro 16 #[Sl.v a0] I fun v I=> ∃(r0:Sl),v=Sl.v r0/\Q r0 I
def pr(B:World)(ro:AH)(a0 a1:Sl)(I:AH)(Q:Bool->AH->Prop):=
 qb prog B ro 18 #[Sl.v a0,Sl.v a1] I fun v I=> ∃(r0:Bool),v= .bool r0/\Q r0 I
def uo(B:World)(ro I:AH)(Q:Bool->AH->Prop):Prop:=
 qb prog B ro 20 #[] I fun v I=> ∃(r0:Bool),v= .bool r0/\Q r0 I
def ab7(B:World)(ro:AH)(a0:Sl)(I:AH)(Q:Option Addr->Int->AH->Prop):=
 qb prog B ro 21 #[Sl.v a0] I fun v I=> ∃(r0:Option Addr) (r1:Int),v= .tuple #[.pointer r0,.int .i64 r1]/\Q r0 r1 I
def yP(B:World)(ro:AH)(a0:Option Addr)(a1_0:Int)(a1_1:ByteArray)(a1_2 a1_3 a1_4 a1_5 a1_6 a1_7:Int)(a1_8:Sl)(a1_9:ByteArray)(a1_10:Bool)(a1_11:Int)(a1_12:Sl)(I:AH)(Q:Int->Int->Sl->Int->Sl->Int->Int->Int->Int->Sl->Sl->Int->AH->Prop):=
 qb prog B ro 22 #[.pointer a0,.agg #[.int .i64 a1_0,.string a1_1,.int .i64 a1_2,.int .i64 a1_3,.int .i64 a1_4,.int .i64 a1_5,.int .i64 a1_6,.int .i64 a1_7,Sl.v a1_8,.string a1_9,.bool a1_10,.int .i64 a1_11,Sl.v a1_12]] I fun v I=> ∃(r0_0:Int) (r0_1:Int) (r0_2:Sl) (r0_3:Int) (r0_4:Sl) (r0_5:Int) (r0_6:Int) (r0_7:Int) (r0_8:Int) (r0_9:Sl) (r0_10:Sl) (r0_11:Int),v= .agg #[.int .i64 r0_0,.int .i64 r0_1,Sl.v r0_2,.int .i64 r0_3,Sl.v r0_4,.int .i64 r0_5,.int .i64 r0_6,.int .i64 r0_7,.int .i64 r0_8,Sl.v r0_9,Sl.v r0_10,.int .i64 r0_11]/\Q r0_0 r0_1 r0_2 r0_3 r0_4 r0_5 r0_6 r0_7 r0_8 r0_9 r0_10 r0_11 I
def pP(B:World)(ro:AH)(a0_0:Int)(a0_1:ByteArray)(a0_2 a0_3 a0_4 a0_5 a0_6 a0_7:Int)(a0_8:Sl)(a0_9:ByteArray)(a0_10:Bool)(a0_11:Int)(a0_12:Sl)(I:AH)(Q:Int->ByteArray->Int->Int->Int->Int->Int->Int->Sl->ByteArray->Bool->Int->Sl->AH->Prop):=
 qb prog B ro 23 #[.agg #[.int .i64 a0_0,.string a0_1,.int .i64 a0_2,.int .i64 a0_3,.int .i64 a0_4,.int .i64 a0_5,.int .i64 a0_6,.int .i64 a0_7,Sl.v a0_8,.string a0_9,.bool a0_10,.int .i64 a0_11,Sl.v a0_12]] I fun v I=> ∃(r0_0:Int) (r0_1:ByteArray) (r0_2:Int) (r0_3:Int) (r0_4:Int) (r0_5:Int) (r0_6:Int) (r0_7:Int) (r0_8:Sl) (r0_9:ByteArray) (r0_10:Bool) (r0_11:Int) (r0_12:Sl),v= .agg #[.int .i64 r0_0,.string r0_1,.int .i64 r0_2,.int .i64 r0_3,.int .i64 r0_4,.int .i64 r0_5,.int .i64 r0_6,.int .i64 r0_7,Sl.v r0_8,.string r0_9,.bool r0_10,.int .i64 r0_11,Sl.v r0_12]/\Q r0_0 r0_1 r0_2 r0_3 r0_4 r0_5 r0_6 r0_7 r0_8 r0_9 r0_10 r0_11 r0_12 I
def uu(B:World)(ro:AH)(a0:Option Addr)(a1:ByteArray)(I:AH)(Q:Sl->Int->Int->Int->Int->Int->AH->Prop):=
 qb prog B ro 25 #[.pointer a0,.string a1] I fun v I=> ∃(r0:Sl) (r1_0:Int) (r1_1:Int) (r1_2:Int) (r1_3:Int) (r2:Int),v= .tuple #[Sl.v r0,.agg #[.int .i64 r1_0,.int .i64 r1_1,.int .i64 r1_2,.int .i64 r1_3],.int .i64 r2]/\Q r0 r1_0 r1_1 r1_2 r1_3 r2 I
def kz(B:World)(ro:AH)(a0_0:Int)(a0_1:ByteArray)(a0_2 a0_3 a0_4 a0_5 a0_6 a0_7:Int)(a0_8:Sl)(a0_9:ByteArray)(a0_10:Bool)(a0_11:Int)(a0_12:Sl)(I:AH)(Q:Sl->Int->AH->Prop):=
 qb prog B ro 30 #[.agg #[.int .i64 a0_0,.string a0_1,.int .i64 a0_2,.int .i64 a0_3,.int .i64 a0_4,.int .i64 a0_5,.int .i64 a0_6,.int .i64 a0_7,Sl.v a0_8,.string a0_9,.bool a0_10,.int .i64 a0_11,Sl.v a0_12]] I fun v I=> ∃(r0:Sl) (r1:Int),v= .tuple #[Sl.v r0,.int .i64 r1]/\Q r0 r1 I
def pd(B:World)(ro:AH)(a0_0:Int)(a0_1:ByteArray)(a0_2 a0_3 a0_4 a0_5 a0_6 a0_7:Int)(a0_8:Sl)(a0_9:ByteArray)(a0_10:Bool)(a0_11:Int)(a0_12:Sl)(I:AH)(Q:Sl->Bool->AH->Prop):=
 qb prog B ro 31 #[.agg #[.int .i64 a0_0,.string a0_1,.int .i64 a0_2,.int .i64 a0_3,.int .i64 a0_4,.int .i64 a0_5,.int .i64 a0_6,.int .i64 a0_7,Sl.v a0_8,.string a0_9,.bool a0_10,.int .i64 a0_11,Sl.v a0_12]] I fun v I=> ∃(r0:Sl) (r1:Bool),v= .tuple #[Sl.v r0,.bool r1]/\Q r0 r1 I
def vc(B:World)(ro:AH)(a0_0:Int)(a0_1:ByteArray)(a0_2 a0_3 a0_4 a0_5 a0_6 a0_7:Int)(a0_8:Sl)(a0_9:ByteArray)(a0_10:Bool)(a0_11:Int)(a0_12:Sl)(I:AH)(Q:Int->ByteArray->Int->Int->Int->Int->Int->Int->Sl->ByteArray->Bool->Int->Sl->AH->Prop):=
 qb prog B ro 32 #[.agg #[.int .i64 a0_0,.string a0_1,.int .i64 a0_2,.int .i64 a0_3,.int .i64 a0_4,.int .i64 a0_5,.int .i64 a0_6,.int .i64 a0_7,Sl.v a0_8,.string a0_9,.bool a0_10,.int .i64 a0_11,Sl.v a0_12]] I fun v I=> ∃(r0_0:Int) (r0_1:ByteArray) (r0_2:Int) (r0_3:Int) (r0_4:Int) (r0_5:Int) (r0_6:Int) (r0_7:Int) (r0_8:Sl) (r0_9:ByteArray) (r0_10:Bool) (r0_11:Int) (r0_12:Sl),v= .agg #[.int .i64 r0_0,.string r0_1,.int .i64 r0_2,.int .i64 r0_3,.int .i64 r0_4,.int .i64 r0_5,.int .i64 r0_6,.int .i64 r0_7,Sl.v r0_8,.string r0_9,.bool r0_10,.int .i64 r0_11,Sl.v r0_12]/\Q r0_0 r0_1 r0_2 r0_3 r0_4 r0_5 r0_6 r0_7 r0_8 r0_9 r0_10 r0_11 r0_12 I
def kG(B:World)(ro:AH)(a0:Sl)(I:AH)(Q:Int->ByteArray->Int->Int->Int->Int->Int->Int->Sl->ByteArray->Bool->Int->Sl->Int->AH->Prop):=
 qb prog B ro 33 #[Sl.v a0] I fun v I=> ∃(r0_0:Int) (r0_1:ByteArray) (r0_2:Int) (r0_3:Int) (r0_4:Int) (r0_5:Int) (r0_6:Int) (r0_7:Int) (r0_8:Sl) (r0_9:ByteArray) (r0_10:Bool) (r0_11:Int) (r0_12:Sl) (r1:Int),v= .tuple #[.agg #[.int .i64 r0_0,.string r0_1,.int .i64 r0_2,.int .i64 r0_3,.int .i64 r0_4,.int .i64 r0_5,.int .i64 r0_6,.int .i64 r0_7,Sl.v r0_8,.string r0_9,.bool r0_10,.int .i64 r0_11,Sl.v r0_12],.int .i64 r1]/\Q r0_0 r0_1 r0_2 r0_3 r0_4 r0_5 r0_6 r0_7 r0_8 r0_9 r0_10 r0_11 r0_12 r1 I
def uM(B:World)(ro:AH)(a0:Sl)(I:AH)(Q:Int->ByteArray->Int->Int->Int->Int->Int->Int->Sl->ByteArray->Bool->Int->Sl->Bool->AH->Prop):=
 qb prog B ro 34 #[Sl.v a0] I fun v I=> ∃(r0_0:Int) (r0_1:ByteArray) (r0_2:Int) (r0_3:Int) (r0_4:Int) (r0_5:Int) (r0_6:Int) (r0_7:Int) (r0_8:Sl) (r0_9:ByteArray) (r0_10:Bool) (r0_11:Int) (r0_12:Sl) (r1:Bool),v= .tuple #[.agg #[.int .i64 r0_0,.string r0_1,.int .i64 r0_2,.int .i64 r0_3,.int .i64 r0_4,.int .i64 r0_5,.int .i64 r0_6,.int .i64 r0_7,Sl.v r0_8,.string r0_9,.bool r0_10,.int .i64 r0_11,Sl.v r0_12],.bool r1]/\Q r0_0 r0_1 r0_2 r0_3 r0_4 r0_5 r0_6 r0_7 r0_8 r0_9 r0_10 r0_11 r0_12 r1 I
def zE(B:World)(ro:AH)(a0_0:Int)(a0_1:ByteArray)(a0_2 a0_3 a0_4 a0_5 a0_6 a0_7:Int)(a0_8:Sl)(a0_9:ByteArray)(a0_10:Bool)(a0_11:Int)(a0_12:Sl)(a1_0:Int)(a1_1:ByteArray)(a1_2 a1_3 a1_4 a1_5 a1_6 a1_7:Int)(a1_8:Sl)(a1_9:ByteArray)(a1_10:Bool)(a1_11:Int)(a1_12:Sl)(I:AH)(Q:Bool->AH->Prop):=
 qb prog B ro 35 #[.agg #[.int .i64 a0_0,.string a0_1,.int .i64 a0_2,.int .i64 a0_3,.int .i64 a0_4,.int .i64 a0_5,.int .i64 a0_6,.int .i64 a0_7,Sl.v a0_8,.string a0_9,.bool a0_10,.int .i64 a0_11,Sl.v a0_12],.agg #[.int .i64 a1_0,.string a1_1,.int .i64 a1_2,.int .i64 a1_3,.int .i64 a1_4,.int .i64 a1_5,.int .i64 a1_6,.int .i64 a1_7,Sl.v a1_8,.string a1_9,.bool a1_10,.int .i64 a1_11,Sl.v a1_12]] I fun v I=> ∃(r0:Bool),v= .bool r0/\Q r0 I
def uN(B:World)(ro:AH)(a0_0:Int)(a0_1:ByteArray)(a0_2 a0_3 a0_4 a0_5 a0_6 a0_7:Int)(a0_8:Sl)(a0_9:ByteArray)(a0_10:Bool)(a0_11:Int)(a0_12:Sl)(I:AH)(Q:Int->ByteArray->Sl->Int->AH->Prop):=
 qb prog B ro 36 #[.agg #[.int .i64 a0_0,.string a0_1,.int .i64 a0_2,.int .i64 a0_3,.int .i64 a0_4,.int .i64 a0_5,.int .i64 a0_6,.int .i64 a0_7,Sl.v a0_8,.string a0_9,.bool a0_10,.int .i64 a0_11,Sl.v a0_12]] I fun v I=> ∃(r0_0:Int) (r0_1:ByteArray) (r0_2:Sl) (r1:Int),v= .tuple #[.agg #[.int .i64 r0_0,.string r0_1,Sl.v r0_2],.int .i64 r1]/\Q r0_0 r0_1 r0_2 r1 I
def abq(B:World)(ro:AH)(a0:ByteArray)(I:AH)(Q:Bool->AH->Prop):=
 qb prog B ro 37 #[.string a0] I fun v I=> ∃(r0:Bool),v= .bool r0/\Q r0 I
def yp(B:World)(ro I:AH)(Q:Option Addr->AH->Prop):Prop:=
 qb prog B ro 43 #[] I fun v I=> ∃(r0:Option Addr),v= .pointer r0/\Q r0 I
def wb(B:World)(ro:AH)(a0:Option Addr)(a1:Sl)(I:AH)(Q:AH->Prop):=
 qb prog B ro 44 #[.pointer a0,Sl.v a1] I fun v I=>v= .tuple #[]/\Q I
def zY(B:World)(ro:AH)(a0:Option Addr)(a1:Sl)(I:AH)(Q:AH->Prop):=
 qb prog B ro 45 #[.pointer a0,Sl.v a1] I fun v I=>v= .tuple #[]/\Q I
def vM(B:World)(ro:AH)(a0:Option Addr)(a1:Sl)(I:AH)(Q:AH->Prop):=
 qb prog B ro 46 #[.pointer a0,Sl.v a1] I fun v I=>v= .tuple #[]/\Q I
def xt(B:World)(ro:AH)(a0:Option Addr)(I:AH)(Q:Sl->Int->AH->Prop):=
 qb prog B ro 47 #[.pointer a0] I fun v I=> ∃(r0:Sl) (r1:Int),v= .tuple #[Sl.v r0,.int .i64 r1]/\Q r0 r1 I
def aaI(B:World)(ro:AH)(a0:Sl)(I:AH)(Q:Bool->AH->Prop):=
 qb prog B ro 48 #[Sl.v a0] I fun v I=> ∃(r0:Bool),v= .bool r0/\Q r0 I
def pt(B:World)(ro:AH)(a0:Sl)(I:AH)(Q:Sl->AH->Prop):=
 qb prog B ro 49 #[Sl.v a0] I fun v I=> ∃(r0:Sl),v=Sl.v r0/\Q r0 I
def jV(B:World)(ro:AH)(a0:Sl)(I:AH)(Q:Sl->AH->Prop):=
 qb prog B ro 50 #[Sl.v a0] I fun v I=> ∃(r0:Sl),v=Sl.v r0/\Q r0 I
def xS(B:World)(ro:AH)(a0:Sl)(I:AH)(Q:Sl->AH->Prop):=
 qb prog B ro 51 #[Sl.v a0] I fun v I=> ∃(r0:Sl),v=Sl.v r0/\Q r0 I
def vX(B:World)(ro:AH)(a0:Int)(I:AH)(Q:Sl->AH->Prop):=
 qb prog B ro 52 #[.int .i64 a0] I fun v I=> ∃(r0:Sl),v=Sl.v r0/\Q r0 I
def yq(B:World)(ro:AH)(a0:Sl)(I:AH)(Q:Option Addr->AH->Prop):=
 qb prog B ro 53 #[Sl.v a0] I fun v I=> ∃(r0:Option Addr),v= .pointer r0/\Q r0 I
def qL(B:World)(ro:AH)(a0:Option Addr)(I:AH)(Q:Int->AH->Prop):=
 qb prog B ro 54 #[.pointer a0] I fun v I=> ∃(r0:Int),v= .int .i64 r0/\Q r0 I
def kf(B:World)(ro:AH)(a0:Option Addr)(I:AH)(Q:ByteArray->AH->Prop):=
 qb prog B ro 55 #[.pointer a0] I fun v I=> ∃(r0:ByteArray),v= .string r0/\Q r0 I
def kh(B:World)(ro:AH)(a0:Option Addr)(I:AH)(Q:Sl->AH->Prop):=
 qb prog B ro 56 #[.pointer a0] I fun v I=> ∃(r0:Sl),v=Sl.v r0/\Q r0 I
def xu(B:World)(ro:AH)(a0:Option Addr)(I:AH)(Q:Int->AH->Prop):=
 qb prog B ro 57 #[.pointer a0] I fun v I=> ∃(r0:Int),v= .int .i64 r0/\Q r0 I
def js(B:World)(ro:AH)(a0:Option Addr)(I:AH)(Q:Int->AH->Prop):=
 qb prog B ro 58 #[.pointer a0] I fun v I=> ∃(r0:Int),v= .int .i64 r0/\Q r0 I
def qG(B:World)(ro:AH)(a0:Option Addr)(I:AH)(Q:Int->AH->Prop):=
 qb prog B ro 59 #[.pointer a0] I fun v I=> ∃(r0:Int),v= .int .i64 r0/\Q r0 I
def zt(B:World)(ro:AH)(a0:Option Addr)(I:AH)(Q:Sl->AH->Prop):=
 qb prog B ro 60 #[.pointer a0] I fun v I=> ∃(r0:Sl),v=Sl.v r0/\Q r0 I
def zZ(B:World)(ro:AH)(a0:Option Addr)(I:AH)(Q:Int->AH->Prop):=
 qb prog B ro 61 #[.pointer a0] I fun v I=> ∃(r0:Int),v= .int .i64 r0/\Q r0 I
def uO(B:World)(ro:AH)(a0:Option Addr)(I:AH)(Q:Int->AH->Prop):=
 qb prog B ro 62 #[.pointer a0] I fun v I=> ∃(r0:Int),v= .int .i64 r0/\Q r0 I
def uf(B:World)(ro:AH)(a0:Option Addr)(I:AH)(Q:Sl->AH->Prop):=
 qb prog B ro 63 #[.pointer a0] I fun v I=> ∃(r0:Sl),v=Sl.v r0/\Q r0 I
def yr(B:World)(ro:AH)(a0:Sl)(I:AH)(Q:Bool->AH->Prop):=
 qb prog B ro 64 #[Sl.v a0] I fun v I=> ∃(r0:Bool),v= .bool r0/\Q r0 I
def vY(B:World)(ro:AH)(a0:Sl)(I:AH)(Q:Sl->AH->Prop):=
 qb prog B ro 65 #[Sl.v a0] I fun v I=> ∃(r0:Sl),v=Sl.v r0/\Q r0 I
def ab8(B:World)(ro I:AH)(Q:Option Addr->AH->Prop):Prop:=
 qb prog B ro 66 #[] I fun v I=> ∃(r0:Option Addr),v= .pointer r0/\Q r0 I
def adb(B:World)(ro I:AH)(Q:Option Addr->AH->Prop):Prop:=
 qb prog B ro 67 #[] I fun v I=> ∃(r0:Option Addr),v= .pointer r0/\Q r0 I
def aea(B:World)(ro I:AH)(Q:Option Addr->AH->Prop):Prop:=
 qb prog B ro 68 #[] I fun v I=> ∃(r0:Option Addr),v= .pointer r0/\Q r0 I
def pu(B:World)(ro:AH)(a0:Option Addr)(a1_0:Int)(a1_1:ByteArray)(a1_2 a1_3 a1_4 a1_5 a1_6 a1_7:Int)(a1_8:Sl)(a1_9:ByteArray)(a1_10:Bool)(a1_11:Int)(a1_12:Sl)(I:AH)(Q:Int->Int->Sl->Int->Sl->Int->Int->Int->Int->Sl->Sl->Int->AH->Prop):=
 qb prog B ro 69 #[.pointer a0,.agg #[.int .i64 a1_0,.string a1_1,.int .i64 a1_2,.int .i64 a1_3,.int .i64 a1_4,.int .i64 a1_5,.int .i64 a1_6,.int .i64 a1_7,Sl.v a1_8,.string a1_9,.bool a1_10,.int .i64 a1_11,Sl.v a1_12]] I fun v I=> ∃(r0_0:Int) (r0_1:Int) (r0_2:Sl) (r0_3:Int) (r0_4:Sl) (r0_5:Int) (r0_6:Int) (r0_7:Int) (r0_8:Int) (r0_9:Sl) (r0_10:Sl) (r0_11:Int),v= .agg #[.int .i64 r0_0,.int .i64 r0_1,Sl.v r0_2,.int .i64 r0_3,Sl.v r0_4,.int .i64 r0_5,.int .i64 r0_6,.int .i64 r0_7,.int .i64 r0_8,Sl.v r0_9,Sl.v r0_10,.int .i64 r0_11]/\Q r0_0 r0_1 r0_2 r0_3 r0_4 r0_5 r0_6 r0_7 r0_8 r0_9 r0_10 r0_11 I
def ab9(B:World)(ro:AH)(a0:Option Addr)(a1_0:ByteArray)(a1_1 a2:Int)(I:AH)(Q:Bool->AH->Prop):=
 qb prog B ro 70 #[.pointer a0,.agg #[.string a1_0,.int .i64 a1_1],.int .i64 a2] I fun v I=> ∃(r0:Bool),v= .bool r0/\Q r0 I
def abr(B:World)(ro:AH)(a0_0:Int)(a0_1:ByteArray)(a0_2 a0_3 a0_4 a0_5 a0_6 a0_7:Int)(a0_8:Sl)(a0_9:ByteArray)(a0_10:Bool)(a0_11:Int)(a0_12:Sl)(I:AH)(Q:ByteArray->Int->AH->Prop):=
 qb prog B ro 71 #[.agg #[.int .i64 a0_0,.string a0_1,.int .i64 a0_2,.int .i64 a0_3,.int .i64 a0_4,.int .i64 a0_5,.int .i64 a0_6,.int .i64 a0_7,Sl.v a0_8,.string a0_9,.bool a0_10,.int .i64 a0_11,Sl.v a0_12]] I fun v I=> ∃(r0_0:ByteArray) (r0_1:Int),v= .agg #[.string r0_0,.int .i64 r0_1]/\Q r0_0 r0_1 I
def aaY(B:World)(ro:AH)(a0:Int)(I:AH)(Q:Int->Int->Sl->Int->Sl->Int->Int->Int->Int->Sl->Sl->Int->AH->Prop):=
 qb prog B ro 72 #[.int .i64 a0] I fun v I=> ∃(r0_0:Int) (r0_1:Int) (r0_2:Sl) (r0_3:Int) (r0_4:Sl) (r0_5:Int) (r0_6:Int) (r0_7:Int) (r0_8:Int) (r0_9:Sl) (r0_10:Sl) (r0_11:Int),v= .agg #[.int .i64 r0_0,.int .i64 r0_1,Sl.v r0_2,.int .i64 r0_3,Sl.v r0_4,.int .i64 r0_5,.int .i64 r0_6,.int .i64 r0_7,.int .i64 r0_8,Sl.v r0_9,Sl.v r0_10,.int .i64 r0_11]/\Q r0_0 r0_1 r0_2 r0_3 r0_4 r0_5 r0_6 r0_7 r0_8 r0_9 r0_10 r0_11 I
def ade(B:World)(ro:AH)(a0:Option Addr)(a1_0:ByteArray)(a1_1:Int)(I:AH)(Q:AH->Prop):=
 qb prog B ro 73 #[.pointer a0,.agg #[.string a1_0,.int .i64 a1_1]] I fun v I=>v= .tuple #[]/\Q I
def acN(B:World)(ro:AH)(a0:Option Addr)(a1_0:Int)(a1_1:ByteArray)(a1_2 a1_3 a1_4 a1_5 a1_6 a1_7:Int)(a1_8:Sl)(a1_9:ByteArray)(a1_10:Bool)(a1_11:Int)(a1_12:Sl)(I:AH)(Q:Int->Int->Sl->Int->Sl->Int->Int->Int->Int->Sl->Sl->Int->AH->Prop):=
 qb prog B ro 74 #[.pointer a0,.agg #[.int .i64 a1_0,.string a1_1,.int .i64 a1_2,.int .i64 a1_3,.int .i64 a1_4,.int .i64 a1_5,.int .i64 a1_6,.int .i64 a1_7,Sl.v a1_8,.string a1_9,.bool a1_10,.int .i64 a1_11,Sl.v a1_12]] I fun v I=> ∃(r0_0:Int) (r0_1:Int) (r0_2:Sl) (r0_3:Int) (r0_4:Sl) (r0_5:Int) (r0_6:Int) (r0_7:Int) (r0_8:Int) (r0_9:Sl) (r0_10:Sl) (r0_11:Int),v= .agg #[.int .i64 r0_0,.int .i64 r0_1,Sl.v r0_2,.int .i64 r0_3,Sl.v r0_4,.int .i64 r0_5,.int .i64 r0_6,.int .i64 r0_7,.int .i64 r0_8,Sl.v r0_9,Sl.v r0_10,.int .i64 r0_11]/\Q r0_0 r0_1 r0_2 r0_3 r0_4 r0_5 r0_6 r0_7 r0_8 r0_9 r0_10 r0_11 I
def acO(B:World)(ro:AH)(a0:Option Addr)(a1_0:Int)(a1_1:ByteArray)(a1_2 a1_3 a1_4 a1_5 a1_6 a1_7:Int)(a1_8:Sl)(a1_9:ByteArray)(a1_10:Bool)(a1_11:Int)(a1_12:Sl)(I:AH)(Q:Int->Int->Sl->Int->Sl->Int->Int->Int->Int->Sl->Sl->Int->AH->Prop):=
 qb prog B ro 75 #[.pointer a0,.agg #[.int .i64 a1_0,.string a1_1,.int .i64 a1_2,.int .i64 a1_3,.int .i64 a1_4,.int .i64 a1_5,.int .i64 a1_6,.int .i64 a1_7,Sl.v a1_8,.string a1_9,.bool a1_10,.int .i64 a1_11,Sl.v a1_12]] I fun v I=> ∃(r0_0:Int) (r0_1:Int) (r0_2:Sl) (r0_3:Int) (r0_4:Sl) (r0_5:Int) (r0_6:Int) (r0_7:Int) (r0_8:Int) (r0_9:Sl) (r0_10:Sl) (r0_11:Int),v= .agg #[.int .i64 r0_0,.int .i64 r0_1,Sl.v r0_2,.int .i64 r0_3,Sl.v r0_4,.int .i64 r0_5,.int .i64 r0_6,.int .i64 r0_7,.int .i64 r0_8,Sl.v r0_9,Sl.v r0_10,.int .i64 r0_11]/\Q r0_0 r0_1 r0_2 r0_3 r0_4 r0_5 r0_6 r0_7 r0_8 r0_9 r0_10 r0_11 I
def uv(B:World)(ro:AH)(a0:Sl)(I:AH)(Q:Sl->AH->Prop):=
 qb prog B ro 76 #[Sl.v a0] I fun v I=> ∃(r0:Sl),v=Sl.v r0/\Q r0 I
def pU(B:World)(ro:AH)(a0:Option Addr)(a1:ByteArray)(I:AH)(Q:Option Addr->Int->AH->Prop):=
 qb prog B ro 79 #[.pointer a0,.string a1] I fun v I=> ∃(r0:Option Addr) (r1:Int),v= .tuple #[.pointer r0,.int .i64 r1]/\Q r0 r1 I
def kO(B:World)(ro:AH)(a0:Sl)(I:AH)(Q:Sl->AH->Prop):=
 qb prog B ro 80 #[Sl.v a0] I fun v I=> ∃(r0:Sl),v=Sl.v r0/\Q r0 I
def xT(B:World)(ro:AH)(a0:ByteArray)(I:AH)(Q:Int->AH->Prop):=
 qb prog B ro 82 #[.string a0] I fun v I=> ∃(r0:Int),v= .int .i64 r0/\Q r0 I
def aca(B:World)(ro:AH)(a0:Sl)(I:AH)(Q:Sl->Int->AH->Prop):=
 qb prog B ro 90 #[Sl.v a0] I fun v I=> ∃(r0:Sl) (r1:Int),v= .tuple #[Sl.v r0,.int .i64 r1]/\Q r0 r1 I
def aeb(B:World)(ro:AH)(a0:Bool)(I:AH)(Q:Int->AH->Prop):=
 qb prog B ro 91 #[.bool a0] I fun v I=> ∃(r0:Int),v= .int .i64 r0/\Q r0 I
def acb(B:World)(ro:AH)(a0:Sl)(I:AH)(Q:Sl->Int->AH->Prop):=
 qb prog B ro 92 #[Sl.v a0] I fun v I=> ∃(r0:Sl) (r1:Int),v= .tuple #[Sl.v r0,.int .i64 r1]/\Q r0 r1 I
def acd(B:World)(ro:AH)(a0:Sl)(I:AH)(Q:Sl->AH->Prop):=
 qb prog B ro 93 #[Sl.v a0] I fun v I=> ∃(r0:Sl),v=Sl.v r0/\Q r0 I
def aaJ(B:World)(ro:AH)(a0:Sl)(I:AH)(Q:Sl->Int->AH->Prop):=
 qb prog B ro 94 #[Sl.v a0] I fun v I=> ∃(r0:Sl) (r1:Int),v= .tuple #[Sl.v r0,.int .i64 r1]/\Q r0 r1 I
def uP(B:World)(ro:AH)(a0:Option Addr)(I:AH)(Q:Sl->AH->Prop):=
 qb prog B ro 95 #[.pointer a0] I fun v I=> ∃(r0:Sl),v=Sl.v r0/\Q r0 I
def ug(B:World)(ro:AH)(a0:Sl)(I:AH)(Q:Sl->Bool->AH->Prop):=
 qb prog B ro 96 #[Sl.v a0] I fun v I=> ∃(r0:Sl) (r1:Bool),v= .tuple #[Sl.v r0,.bool r1]/\Q r0 r1 I
def uQ(B:World)(ro:AH)(a0 a1:Sl)(I:AH)(Q:Bool->AH->Prop):=
 qb prog B ro 97 #[Sl.v a0,Sl.v a1] I fun v I=> ∃(r0:Bool),v= .bool r0/\Q r0 I
def uw(B:World)(ro:AH)(a0 a1:Sl)(I:AH)(Q:Bool->AH->Prop):=
 qb prog B ro 98 #[Sl.v a0,Sl.v a1] I fun v I=> ∃(r0:Bool),v= .bool r0/\Q r0 I
def jB(B:World)(ro:AH)(a0:ByteArray)(I:AH)(Q:Bool->AH->Prop):=
 qb prog B ro 99 #[.string a0] I fun v I=> ∃(r0:Bool),v= .bool r0/\Q r0 I
def xv(B:World)(ro:AH)(a0:Option Addr)(a1:Int)(I:AH)(Q:AH->Prop):=
 qb prog B ro 114 #[.pointer a0,.int .i64 a1] I fun v I=>v= .tuple #[]/\Q I
def kP(B:World)(ro:AH)(a0:Option Addr)(a1:ByteArray)(I:AH)(Q:Int->Value->AH->Prop):=
 qb prog B ro 115 #[.pointer a0,.string a1] I fun v I=> ∃(r0:Int) (r1:Value),v= .tuple #[.int .i64 r0,r1]/\Q r0 r1 I
def xG(B:World)(ro:AH)(a0:Option Addr)(a1:Sl)(I:AH)(Q:Int->Value->AH->Prop):=
 qb prog B ro 116 #[.pointer a0,Sl.v a1] I fun v I=> ∃(r0:Int) (r1:Value),v= .tuple #[.int .i64 r0,r1]/\Q r0 r1 I
def uR(B:World)(ro:AH)(a0:Option Addr)(I:AH)(Q:Sl->AH->Prop):=
 qb prog B ro 117 #[.pointer a0] I fun v I=> ∃(r0:Sl),v=Sl.v r0/\Q r0 I
def aec(B:World)(ro:AH)(a0:Int)(I:AH)(Q:Bool->AH->Prop):=
 qb prog B ro 118 #[.int .i64 a0] I fun v I=> ∃(r0:Bool),v= .bool r0/\Q r0 I
def aaZ(B:World)(ro:AH)(a0:Sl)(a1:Int)(I:AH)(Q:Int->Int->Int->AH->Prop):=
 qb prog B ro 119 #[Sl.v a0,.int .i64 a1] I fun v I=> ∃(r0:Int) (r1:Int) (r2:Int),v= .tuple #[.int .i64 r0,.int .i64 r1,.int .i64 r2]/\Q r0 r1 r2 I
def aay(B:World)(ro:AH)(a0:Sl)(a1:Int)(I:AH)(Q:Int->Int->Int->AH->Prop):=
 qb prog B ro 120 #[Sl.v a0,.int .i64 a1] I fun v I=> ∃(r0:Int) (r1:Int) (r2:Int),v= .tuple #[.int .i64 r0,.int .i64 r1,.int .i64 r2]/\Q r0 r1 r2 I
def ys(B:World)(ro:AH)(a0:Option Addr)(a1:ByteArray)(a2 a3:Int)(I:AH)(Q:Int->Bool->Int->AH->Prop):=
 qb prog B ro 121 #[.pointer a0,.string a1,.int .i64 a2,.int .i64 a3] I fun v I=> ∃(r0:Int) (r1:Bool) (r2:Int),v= .tuple #[.int .i64 r0,.bool r1,.int .i64 r2]/\Q r0 r1 r2 I
def yQ(B:World)(ro:AH)(a0:Option Addr)(a1:ByteArray)(a2:Sl)(a3:Int)(a4:Bool)(I:AH)(Q:ByteArray->Int->AH->Prop):=
 qb prog B ro 122 #[.pointer a0,.string a1,Sl.v a2,.int .i64 a3,.bool a4] I fun v I=> ∃(r0:ByteArray) (r1:Int),v= .tuple #[.string r0,.int .i64 r1]/\Q r0 r1 I
def uS(B:World)(ro:AH)(a0:ByteArray)(I:AH)(Q:Sl->Int->AH->Prop):=
 qb prog B ro 134 #[.string a0] I fun v I=> ∃(r0:Sl) (r1:Int),v= .tuple #[Sl.v r0,.int .i64 r1]/\Q r0 r1 I
def yR(B:World)(ro:AH)(a0 a1:ByteArray)(I:AH)(Q:Bool->AH->Prop):=
 qb prog B ro 138 #[.string a0,.string a1] I fun v I=> ∃(r0:Bool),v= .bool r0/\Q r0 I
def aa0(B:World)(ro:AH)(a0_0:Int)(a0_1:ByteArray)(a0_2:Sl)(a0_3:Int)(a0_4 a0_5:Bool)(I:AH)(Q:Int->AH->Prop):=
 qb prog B ro 142 #[.agg #[.int .i64 a0_0,.string a0_1,Sl.v a0_2,.int .i64 a0_3,.bool a0_4,.bool a0_5]] I fun v I=> ∃(r0:Int),v= .int .i64 r0/\Q r0 I
def uT(B:World)(ro:AH)(a0:Int)(I:AH)(Q:Bool->AH->Prop):=
 qb prog B ro 174 #[.int .i64 a0] I fun v I=> ∃(r0:Bool),v= .bool r0/\Q r0 I
def acP(B:World)(ro:AH)(a0:Sl)(a1:Int)(I:AH)(Q:Sl->AH->Prop):=
 qb prog B ro 175 #[Sl.v a0,.int .i64 a1] I fun v I=> ∃(r0:Sl),v=Sl.v r0/\Q r0 I
def wC(B:World)(ro:AH)(a0:Option Addr)(a1:Int)(I:AH)(Q:Int->Bool->AH->Prop):=
 qb prog B ro 176 #[.pointer a0,.int .i64 a1] I fun v I=> ∃(r0:Int) (r1:Bool),v= .tuple #[.int .i64 r0,.bool r1]/\Q r0 r1 I
def jc(B:World)(ro:AH)(a0:Option Addr)(a1:Int)(I:AH)(Q:Int->AH->Prop):=
 qb prog B ro 177 #[.pointer a0,.int .i64 a1] I fun v I=> ∃(r0:Int),v= .int .i64 r0/\Q r0 I
def abs(B:World)(ro:AH)(a0:Int)(I:AH)(Q:Bool->AH->Prop):=
 qb prog B ro 178 #[.int .i64 a0] I fun v I=> ∃(r0:Bool),v= .bool r0/\Q r0 I
def aa1(B:World)(ro:AH)(a0:ByteArray)(I:AH)(Q:ByteArray->Int->AH->Prop):=
 qb prog B ro 179 #[.string a0] I fun v I=> ∃(r0:ByteArray) (r1:Int),v= .tuple #[.string r0,.int .i64 r1]/\Q r0 r1 I
def aa2(B:World)(ro:AH)(a0:ByteArray)(a1:Int)(I:AH)(Q:ByteArray->Int->AH->Prop):=
 qb prog B ro 180 #[.string a0,.int .i64 a1] I fun v I=> ∃(r0:ByteArray) (r1:Int),v= .tuple #[.string r0,.int .i64 r1]/\Q r0 r1 I
def abT(B:World)(ro:AH)(a0 a1:ByteArray)(I:AH)(Q:Sl->AH->Prop):=
 qb prog B ro 193 #[.string a0,.string a1] I fun v I=> ∃(r0:Sl),v=Sl.v r0/\Q r0 I
def pS(B:World)(ro:AH)(a0 a1:ByteArray)(I:AH)(Q:Bool->AH->Prop):=
 qb prog B ro 197 #[.string a0,.string a1] I fun v I=> ∃(r0:Bool),v= .bool r0/\Q r0 I
def aaR(B:World)(ro:AH)(a0:Option Addr)(I:AH)(Q:Int->AH->Prop):=
 qb prog B ro 224 #[.pointer a0] I fun v I=> ∃(r0:Int),v= .int .i64 r0/\Q r0 I
def acQ(B:World)(ro:AH)(a0:Option Addr)(I:AH)(Q:AH->Prop):=
 qb prog B ro 225 #[.pointer a0] I fun v I=>v= .tuple #[]/\Q I
def abb(B:World)(ro:AH)(a0:Sl)(a1:Int)(I:AH)(Q:Sl->AH->Prop):=
 qb prog B ro 226 #[Sl.v a0,.int .i64 a1] I fun v I=> ∃(r0:Sl),v=Sl.v r0/\Q r0 I
def jf(B:World)(ro:AH)(a0:ByteArray)(a1:Int)(I:AH)(Q:Int->AH->Prop):=
 qb prog B ro 227 #[.string a0,.int .u8 a1] I fun v I=> ∃(r0:Int),v= .int .i64 r0/\Q r0 I
def acw(B:World)(ro:AH)(a0:Int)(I:AH)(Q:ByteArray->AH->Prop):=
 qb prog B ro 228 #[.int .i64 a0] I fun v I=> ∃(r0:ByteArray),v= .string r0/\Q r0 I
def abt(B:World)(ro:AH)(a0:ByteArray)(a1:Int)(I:AH)(Q:ByteArray->AH->Prop):=
 qb prog B ro 229 #[.string a0,.int .i64 a1] I fun v I=> ∃(r0:ByteArray),v= .string r0/\Q r0 I
def jG(B:World)(ro:AH)(a0:ByteArray)(a1:Int)(I:AH)(Q:Int->AH->Prop):=
 qb prog B ro 264 #[.string a0,.int .u8 a1] I fun v I=> ∃(r0:Int),v= .int .i64 r0/\Q r0 I