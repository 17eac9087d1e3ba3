import Derived.Calls
import Derived.Below
import Derived.Scope
import Derived.Orders
import Derived.RangeFuncBox
import Derived.Shelf.Abstract
import Derived.WalkKit
import Derived.OwnWalkIn
import Derived.TacticsInMore
import Derived.LoopNIn
import Derived.LoopIn
import Derived.Test.YtomdigihapdhnaaGreatDoorProg
set_option linter.all false
set_option maxRecDepth 99999
set_option maxHeartbeats 0
open Go.IntKind(i64)
namespace Go.Proofs.YtomdigihapdhnaaGreatDoor
theorem z6{p:Prop}(h:p:=by omega):p:=h
theorem z7{p:Prop}(h:p:=by simp):p:=h
theorem z8{p:Prop}(h:p:=by decide):p:=h
theorem y6{p:Prop}(h:p:=by simp;omega):p:=h
theorem j0{p:Prop}(h:p:=by decide+kernel):p:=h
theorem j1{p q:Prop}(h:p)(g:p->q:=by intro h;simpa using h):q:=g h
abbrev mc:=@if_neg
abbrev me:=@if_pos
abbrev mg:=@decide_eq_true_iff
abbrev mh:=@List.getElem?_eq_getElem
abbrev mi:=@congrArg
abbrev ml:=@List.length_map
abbrev mp:=@Nat.zero_add
abbrev mq:=@List.getElem?_map
abbrev mr:=@Int.toNat_natCast
abbrev mt:=@List.mem_append
abbrev mv:=@Bool.and_eq_true
abbrev mw:=@List.getElem?_eq_none
abbrev my:=@List.mem_map
abbrev mz:=@List.all_eq_true
abbrev mA:=@List.length_cons
abbrev mB:=@Nat.lt_or_ge
abbrev mC:=@absurd
abbrev mD:=@List.mem_cons
abbrev mE:=@Classical.not_not
abbrev mF:=@decide_eq_true
abbrev mG:=@List.eq_nil_of_length_eq_zero
abbrev mH:=@Nat.le_refl
abbrev mI:=@List.append_assoc
abbrev mJ:=@List.map_append
abbrev mK:=@List.mem_singleton
abbrev mL:=@decide_eq_false
abbrev mM:=@List.getElem?_append_left
abbrev mO:=@List.getElem_mem
abbrev mQ:=@Option.some.inj
abbrev mT:=@List.take_of_length_le
abbrev mU:=@List.length_append
abbrev mV:=@decide_eq_true_eq
abbrev mW:=@List.getElem?_append_right
abbrev mX:=@Nat.mul_one
abbrev mY:=@Array.getD_eq_getD_getElem?
abbrev mZ:=@List.length_nil
abbrev na:=@List.flatMap_cons
abbrev nj:=@List.foldl_cons
abbrev np:=@List.take_add_one
abbrev nq:=@List.cons_append
abbrev nr:=@List.length_pos_iff
abbrev nv:=@List.getElem_of_mem
abbrev nx:=@List.map_cons
abbrev nz:=@Nat.eq_zero_or_pos
abbrev nA:=@List.lookup_cons
abbrev nC:=@decide_eq_false_iff_not
abbrev nE:=@Bool.not_eq_true
abbrev nJ:=@of_decide_eq_true
abbrev nL:=@Classical.byContradiction
abbrev nM:=@Nat.mul_le_mul_left
abbrev nN:=@List.append_nil
abbrev nT:=@List.pairwise_cons
abbrev nU:=@List.length_take
abbrev nY:=@List.mem_of_getElem?
abbrev nZ:=@List.nil_append
abbrev La:=@List.getElem?_take
abbrev Lb:=@List.foldl_nil
abbrev Lc:=@List.nodup_cons
abbrev Ld:=@List.ext_getElem?
abbrev Lf:=@Nat.mod_eq_of_lt
abbrev Lg:=@List.length_drop
abbrev Lh:=@decide_eq_decide
abbrev Li:=@Option.map_eq_some_iff
abbrev Lj:=@List.map_map
abbrev Lk:=@Nat.mul_comm
abbrev Ll:=@Nat.min_eq_left
abbrev Lx:=@List.getElem?_set
abbrev Lz:=@List.take_zero
abbrev LA:=@List.pairwise_map
abbrev LB:=@Nat.zero_mul
abbrev LD:=@List.mem_append_left
abbrev LE:=@List.not_mem_nil
abbrev LF:=@List.mem_of_mem_take
abbrev LJ:=@Nat.add_mul
abbrev LK:=@List.length_zipWith
abbrev LL:=@Nat.le_trans
abbrev LM:=@List.getElem?_drop
abbrev LP:=@List.ext_getElem
abbrev LQ:=@Nat.mod_lt
abbrev LZ:=@List.all_cons
abbrev Pe:=@List.flatten_cons
abbrev Pg:=@Nat.min_self
namespace SL
open Go
variable{α:Type}{ops:Array Oper}{args:Array Value}{c x y:Code}{f:FuncId}{b i id:Nat}{o:Obj}{v:Value}{w:World}
abbrev AH:=Nat->Option Obj
structure Own(B:World)(ro φ I:AH)(w:World):Prop where
 os:w.os=B.os/\B.drawn<=w.drawn
 tape:w.tape=B.tape
 output:w.output=B.output
 own:∀ b o,I b=some o->w.heap[b]?=some o/\φ b=none/\ro b=none
 fr:∀ b o,φ b=some o->w.heap[b]?=some o
 ro:∀ b o,ro b=some o->w.heap[b]?=some o
abbrev Zd(B:World):Prop:=Nonempty (PLift (B.drawn=0))
theorem Zd.le{B:World}[h:Zd B](n:Nat):B.drawn<=n:=by
 obtain⟨⟨h⟩⟩:=h
 rw[h];exact Nat.zero_le _
def upd(I:AH)(b:Nat)(o:Obj):AH:=fun i=>if i=b then some o else I i
def rd(ro I:AH)(b:Nat):Option Obj:=match ro b with | some o=>some o | none=>I b
def wM(a:Addr):Option Obj->Option Value
 | some (.cells c _ _)=>if a.spot.isSome then none else c[a.off]?
 | _=>none
def qb(ro I:AH)(a:Addr):Option Value:=wM a (rd ro I a.block)
def amN:Obj->Option (TypeId×Nat)
 | .cells c e _=>some (e,c.size)
 | _=>none
def alN(off:Nat):Obj->Bool
 | .cells _ _ (lo,hi)=>lo<=off && off<hi
 | _=>false
def amO:Obj->Bool
 | .cells .. =>true
 | _=>false
def qk:Value->Bool
 | .agg _=>false
 | .tuple _=>false
 | _=>true
def akH(off n:Nat):Obj->Obj
 | .cells c elem (lo,hi)=> .cells c elem (if lo == hi then(off,off+n)else(min lo off,max hi (off+n)))
 | o=>o
theorem Own.rd{B:World}{ro φ I:AH}(h:Own B ro φ I w)(hr:rd ro I b=some o):w.heap[b]?=some o:=by
 unfold SL.rd at hr
 split at hr
 .rename_i x hb;cases hr;exact h.ro b _ hb
 .exact(h.own b o hr).1
theorem cell?_eq(w:World)(a:Addr):w.cell? a=wM a w.heap[a.block]?:=by
 unfold World.cell? wM;rfl
theorem Own.cell{B:World}{ro φ I:AH}(h:Own B ro φ I w){a:Addr}(hr:qb ro I a=some v):w.cell? a=some v:=by
 unfold qb at hr
 rw[cell?_eq]
 cases hb:SL.rd ro I a.block with
 | none=>rw[hb]at hr;simp[wM]at hr
 | some o=>rw[h.rd hb,<-hb];exact hr
theorem qw(h:w.heap[b]?=some o):b<w.heap.size:=by
 rcases mB b w.heap.size with h' | h'
 .exact h'
 .rw[Array.getElem?_eq_none h']at h;cases h
theorem Own.lt{B:World}{ro φ I:AH}(h:Own B ro φ I w)(hs:I b=some o):b<w.heap.size:=qw (h.own b o hs).1
theorem Own.drop{B:World}{ro φ I I':AH}(h:Own B ro φ I w)(hs:∀ b o,I' b=some o->I b=some o):Own B ro φ I' w:=
 ⟨h.os,h.tape,h.output,fun b o e=>h.own b o (hs b o e),h.fr,h.ro⟩
theorem Own.to_new{B:World}{ro φ I:AH}(h:Own B ro φ I w):I w.heap.size=none/\φ w.heap.size=none/\ro w.heap.size=none:=by
 refine⟨?_,?_,?_⟩
 .cases hs:I w.heap.size with
  | none=>rfl
  | some o=>have:=h.lt hs;omega
 .cases hs:φ w.heap.size with
  | none=>rfl
  | some o=>have:=qw (h.fr w.heap.size o hs);omega
 .cases hs:ro w.heap.size with
  | none=>rfl
  | some o=>have:=qw (h.ro w.heap.size o hs);omega
theorem Own.newObj{B:World}{ro φ I:AH}(h:Own B ro φ I w)(o:Obj):Own B ro φ (upd I w.heap.size o) {w with heap:=w.heap.push o}:=by
 obtain⟨n1,n2,n3⟩:=h.to_new
 have keep:∀ (b:Nat) (o':Obj),w.heap[b]?=some o'->(w.heap.push o)[b]?=some o':=by
  intro b o' hb
  have:=qw hb
  rw[Array.getElem?_push,mc z6];exact hb
 refine⟨h.os,h.tape,h.output,?_,fun b o' hs=>keep b o' (h.fr b o' hs),fun b o' hs=>keep b o' (h.ro b o' hs)⟩
 intro b o' hs
 unfold upd at hs
 split at hs
 .rename_i e;subst e;cases hs
  exact⟨z7,n2,n3⟩
 .obtain⟨h1,h2,h3⟩:=h.own b o' hs
  exact⟨keep b o' h1,h2,h3⟩
theorem Own.setObj{B:World}{ro φ I:AH}(h:Own B ro φ I w)(o':Obj)(hs:I b=some o){H:Array Obj}
  (hb:H[b]?=some o') (hn:∀ i,i≠b->H[i]?=w.heap[i]?):Own B ro φ (upd I b o') {w with heap:=H}:=by
 obtain⟨_,h2,h3⟩:=h.own b o hs
 refine⟨h.os,h.tape,h.output,?_,?_,?_⟩
 .intro i x hx
  unfold upd at hx
  split at hx
  .rename_i e;subst e;cases hx;exact⟨hb,h2,h3⟩
  .rename_i ne;obtain⟨g1,g2,g3⟩:=h.own i x hx;exact⟨by show H[i]?=_;rw[hn i ne];exact g1,g2,g3⟩
 .intro i x hx
  have:i≠b:=by intro e;subst e;rw[h2]at hx;cases hx
  show H[i]?=_;rw[hn i this];exact h.fr i x hx
 .intro i x hx
  have:i≠b:=by intro e;subst e;rw[h3]at hx;cases hx
  show H[i]?=_;rw[hn i this];exact h.ro i x hx
theorem Own.drawn{B:World}{ro φ I:AH}(h:Own B ro φ I w)(n:Nat)(hn:w.drawn<=n):Own B ro φ I {w with drawn:=n}:=
 ⟨⟨h.os.1,LL h.os.2 hn⟩,h.tape,h.output,h.own,h.fr,h.ro⟩
def awp{α:Type}(P:Program)(ro:AH):Sem α->(α->AH->Prop)->AH->Prop
 | .pure a,Q,I=>Q a I
 | .load _ a k,Q,I=> ∃v,qb ro I a=some v/\awp P ro (k v) Q I
 | .store _ a v k,Q,I=>qk v=true/\a.spot=none/\∃ c e fz,I a.block=some (.cells c e fz)/\a.off<c.size/\¬ (fz.1<=a.off/\a.off<fz.2)/\
   awp P ro k Q (upd I a.block (.cells (c.setIfInBounds a.off v) e fz))
 | .new o k,Q,I=> ∀b,ro b=none->I b=none->awp P ro (k b) Q (upd I b o)
 | .shape r k,Q,I=> ∃o,rd ro I r=some o/\awp P ro (k (amN o)) Q I
 | .freeze a n k,Q,I=>n≠0/\∃ o,I a.block=some o/\awp P ro k Q (upd I a.block (akH a.off n o))
 | .frozen a k,Q,I=> ∃o,rd ro I a.block=some o/\awp P ro (k (alN a.off o)) Q I
 | .getObj r k,Q,I=> ∃o,rd ro I r=some o/\amO o=false/\awp P ro (k o) Q I
 | .setObj r o k,Q,I=> ∃o',I r=some o'/\amO o'=false/\awp P ro k Q (upd I r o)
 | .choose q k,Q,I=>if q.forced then awp P ro (k 0) Q I else∀n,awp P ro (k (q.cut n)) Q I
 | .sys _ _,_,_=>False
 | .program k,Q,I=>awp P ro (k P) Q I
 | .mark _ k,Q,I=>awp P ro k Q I
 | .halt _,_,_=>False
theorem ahy{P:Program}{B:World}{ro φ:AH}(s:Sem α):∀ {Q:α->AH->Prop} {I:AH} {w:World},awp P ro s Q I->Own B ro φ I w->
  ∃a w' I',s.run P w= .ok a w'/\Q a I'/\Own B ro φ I' w':=by
 induction s with
 | pure a=>intro Q I w h ho;exact⟨a,w,I,rfl,h,ho⟩
 | load m a k ih=>
  intro Q I w h ho
  obtain⟨v,hc,h⟩:=h
  obtain⟨x,w',I',h1,h2,h3⟩:=ih v h ho
  exact⟨x,w',I',by simp only[Sem.run,ho.cell hc];exact h1,h2,h3⟩
 | store m a v k ih=>
  intro Q I w h ho
  obtain⟨hv,hsp,c,e,fz,hs,hoff,hfz,h⟩:=h
  have hb:=(ho.own _ _ hs).1
  have hcell:∃ x,w.cell? a=some x:=by
   rw[cell?_eq,hb];simp[wM,hsp,hoff]
  obtain⟨x,hx⟩:=hcell
  have hfr:w.frozen? a=false:=by
   unfold World.frozen?;rw[hb];obtain⟨f1,f2⟩:=fz
   simp only[Bool.and_eq_false_iff,nC]at*
   simp only[not_and]at hfz
   by_cases h1:f1<=a.off
   .exact .inr (hfz h1)
   .exact .inl h1
  have hlt:=ho.lt hs
  have ho':Own B ro φ (upd I a.block (.cells (c.setIfInBounds a.off v) e fz)) (w.setCell a v):=by
   unfold World.setCell
   refine ho.setObj _ hs ?_ ?_
   .rw[Array.getElem?_modify,me rfl,hb];simp[hsp]
   .intro i hi;rw[Array.getElem?_modify,mc z6]
  obtain⟨y,w',I',h1,h2,h3⟩:=ih h ho'
  refine⟨y,w',I',?_,h2,h3⟩
  cases v<;>simp only[qk]at hv<;>first | (simp only[Sem.run,hx,hfr];exact h1) | cases hv
 | new o k ih=>
  intro Q I w h ho
  obtain⟨y,w',I',h1,h2,h3⟩:=ih w.heap.size (h _ ho.to_new.2.2 ho.to_new.1) (ho.newObj o)
  exact⟨y,w',I',h1,h2,h3⟩
 | shape r k ih=>
  intro Q I w h ho
  obtain⟨o,hr,h⟩:=h
  obtain⟨y,w',I',h1,h2,h3⟩:=ih _ h ho
  refine⟨y,w',I',?_,h2,h3⟩
  have:w.shape? r=amN o:=by unfold World.shape?;rw[ho.rd hr];cases o<;>rfl
  simp only[Sem.run,this];exact h1
 | freeze a n k ih=>
  intro Q I w h ho
  obtain⟨hn,o,hs,h⟩:=h
  have hb:=(ho.own _ _ hs).1
  have ho':Own B ro φ (upd I a.block (akH a.off n o)) (w.freeze a n):=by
   unfold World.freeze;rw[mc hn]
   refine ho.setObj _ hs ?_ ?_
   .rw[Array.getElem?_modify,me rfl,hb];simp only[Option.map_some];cases o<;>rfl
   .intro i hi;rw[Array.getElem?_modify,mc z6]
  obtain⟨y,w',I',h1,h2,h3⟩:=ih h ho'
  exact⟨y,w',I',h1,h2,h3⟩
 | frozen a k ih=>
  intro Q I w h ho
  obtain⟨o,hr,h⟩:=h
  obtain⟨y,w',I',h1,h2,h3⟩:=ih _ h ho
  refine⟨y,w',I',?_,h2,h3⟩
  have:w.frozen? a=alN a.off o:=by unfold World.frozen?;rw[ho.rd hr];cases o<;>rfl
  simp only[Sem.run,this];exact h1
 | getObj r k ih=>
  intro Q I w h ho
  obtain⟨o,hr,hi,h⟩:=h
  obtain⟨y,w',I',h1,h2,h3⟩:=ih _ h ho
  refine⟨y,w',I',?_,h2,h3⟩
  have hb:=ho.rd hr
  cases o<;>first | (simp only[Sem.run,hb];exact h1) | cases hi
 | setObj r o k ih=>
  intro Q I w h ho
  obtain⟨o',hs,hi,h⟩:=h
  have hb:=(ho.own _ _ hs).1
  have hlt:=ho.lt hs
  have ho':Own B ro φ (upd I r o) {w with heap:=w.heap.setIfInBounds r o}:=by
   refine ho.setObj _ hs ?_ ?_
   .simp[hlt]
   .intro i hi;rw[Array.getElem?_setIfInBounds,mc z6]
  obtain⟨y,w',I',h1,h2,h3⟩:=ih h ho'
  refine⟨y,w',I',?_,h2,h3⟩
  cases o'<;>first | (simp only[Sem.run,hb];exact h1) | cases hi
 | choose q k ih=>
  intro Q I w h ho
  simp only[awp]at h
  by_cases hq:q.forced=true
  .rw[me hq]at h
   obtain⟨y,w',I',h1,h2,h3⟩:=ih _ h ho
   exact⟨y,w',I',by simp only[Sem.run,hq,if_true];exact h1,h2,h3⟩
  .rw[mc hq]at h
   obtain⟨y,w',I',h1,h2,h3⟩:=ih _ (h (w.tape w.drawn q)) (ho.drawn (w.drawn+1) (Nat.le_succ _))
   exact⟨y,w',I',by simp only[Sem.run];rw[mc hq];exact h1,h2,h3⟩
 | sys c k ih=>intro Q I w h;exact h.elim
 | program k ih=>
  intro Q I w h ho
  obtain⟨y,w',I',h1,h2,h3⟩:=ih _ h ho
  exact⟨y,w',I',h1,h2,h3⟩
 | mark m k ih=>
  intro Q I w h ho
  obtain⟨y,w',I',h1,h2,h3⟩:=ih h ho
  exact⟨y,w',I',h1,h2,h3⟩
 | halt e=>intro Q I w h;exact h.elim
theorem qj{P:Program}{ro:AH}(s:Sem α):∀ {Q Q':α->AH->Prop} {I:AH},awp P ro s Q I->(∀a I,Q a I->Q' a I)->awp P ro s Q' I:=by
 induction s with
 | pure a=>intro Q Q' I h hq;exact hq _ _ h
 | load m a k ih=>intro Q Q' I h hq;obtain⟨v,hc,h⟩:=h;exact⟨v,hc,ih v h hq⟩
 | store m a v k ih=>intro Q Q' I h hq;obtain⟨hv,hsp,c,e,fz,hs,hoff,hfz,h⟩:=h;exact⟨hv,hsp,c,e,fz,hs,hoff,hfz,ih h hq⟩
 | new o k ih=>intro Q Q' I h hq b hb hs;exact ih b (h b hb hs) hq
 | shape r k ih=>intro Q Q' I h hq;obtain⟨o,hr,h⟩:=h;exact⟨o,hr,ih _ h hq⟩
 | freeze a n k ih=>intro Q Q' I h hq;obtain⟨hn,o,hr,h⟩:=h;exact⟨hn,o,hr,ih h hq⟩
 | frozen a k ih=>intro Q Q' I h hq;obtain⟨o,hr,h⟩:=h;exact⟨o,hr,ih _ h hq⟩
 | getObj r k ih=>intro Q Q' I h hq;obtain⟨o,hr,hi,h⟩:=h;exact⟨o,hr,hi,ih _ h hq⟩
 | setObj r o k ih=>intro Q Q' I h hq;obtain⟨o',hr,hi,h⟩:=h;exact⟨o',hr,hi,ih h hq⟩
 | choose q k ih=>
  intro Q Q' I h hq
  simp only[awp]at h⊢
  split
  .rename_i e;rw[me e]at h;exact ih _ h hq
  .rename_i e;rw[mc e]at h;intro n;exact ih _ (h n) hq
 | sys c k ih=>intro Q Q' I h;exact h.elim
 | program k ih=>intro Q Q' I h hq;exact ih _ h hq
 | mark m k ih=>intro Q Q' I h hq;exact ih h hq
 | halt e=>intro Q Q' I h;exact h.elim
theorem vC{β:Type}{P:Program}{ro:AH}(s:Sem α)(f:α->Sem β):∀ {Q:β->AH->Prop} {I:AH},awp P ro (s >>= f) Q I↔awp P ro s (fun a I=>awp P ro (f a) Q I) I:=by
 show∀{Q:β->AH->Prop} {I:AH},awp P ro (s.bind f) Q I↔_
 induction s with
 | pure a=>intro Q I;rfl
 | load m a k ih=>intro Q I;simp only[Sem.bind,awp,ih]
 | store m a v k ih=>intro Q I;simp only[Sem.bind,awp,ih]
 | new o k ih=>intro Q I;simp only[Sem.bind,awp,ih]
 | shape r k ih=>intro Q I;simp only[Sem.bind,awp,ih]
 | freeze a n k ih=>intro Q I;simp only[Sem.bind,awp,ih]
 | frozen a k ih=>intro Q I;simp only[Sem.bind,awp,ih]
 | getObj r k ih=>intro Q I;simp only[Sem.bind,awp,ih]
 | setObj r o k ih=>intro Q I;simp only[Sem.bind,awp,ih]
 | choose q k ih=>intro Q I;simp only[Sem.bind,awp,ih]
 | sys c k ih=>intro Q I;simp only[Sem.bind,awp]
 | program k ih=>intro Q I;simp only[Sem.bind,awp,ih]
 | mark m k ih=>intro Q I;simp only[Sem.bind,awp,ih]
 | halt e=>intro Q I;simp only[Sem.bind,awp]
abbrev Fr:=List (Nat×Value)
def look:Fr->Nat->Option Value
 | [],_=>none
 | (j,v)::r,i=>bif Nat.beq i j then some v else look r i
structure vZ(N:Nat)(fr:Fr)(a:Act):Prop where
 size:a.tmps.size=N
 defers:a.defers=[]
 has:∀ i v,look fr i=some v->a.tmps[i]?=some v
def qh(fr:Fr):Operand->Option Value
 | .tmp t=>look fr t
 | .const v=>some v
 | .global g=>some (.pointer (some ⟨g,0,none⟩))
 | .func f=>some (.func (.func f) #[] #[])
def qu(d:Option Tmp)(v:Value)(fr:Fr):Fr:=
 match d with
 | some d=>(d,v)::fr
 | none=>fr
def we(N:Nat):Option Tmp->Bool
 | some d=>d<N
 | none=>true
def vr(O:Operand->Value)(fr:Fr):Prop:= ∀x v,qh fr x=some v->O x=v
theorem vZ.agrees{N:Nat}{fr:Fr}{a:Act}(h:vZ N fr a):vr a.eval fr:=by
 intro x v hx
 cases x with
 | tmp t=>have:=h.has t v hx;simp[Act.eval,mY,this]
 | const c=>simpa [qh,Act.eval]using hx
 | global g=>simpa [qh,Act.eval]using hx
 | func f=>simpa [qh,Act.eval]using hx
theorem vZ.put{N:Nat}{fr:Fr}{a:Act}(h:vZ N fr a){d:Option Tmp}(hd:we N d=true)(v:Value):vZ N (qu d v fr) (a.put d v):=by
 cases d with
 | none=>exact h
 | some d=>
  have hd':d<a.tmps.size:=by simpa [we,h.size]using hd
  refine⟨by simp[Act.put,h.size],by simp[Act.put,h.defers],?_⟩
  intro i u hi
  simp only[qu,look]at hi
  simp only[Act.put]
  cases hb:Nat.beq i d with
  | true=>
   rw[hb]at hi
   have:=Nat.eq_of_beq_eq_true hb
   subst this
   simp at hi;subst hi
   simp[hd']
  | false=>
   rw[hb]at hi
   have hne:i≠d:=by intro e;subst e;simp at hb
   have:=h.has i u hi
   rw[Array.getElem?_setIfInBounds,mc z6];exact this
def qg(fr fr':Fr):Prop:= ∀i v,look fr i=some v->look fr' i=some v
theorem vZ.weaken{N:Nat}{fr fr':Fr}{a:Act}(h:vZ N fr' a)(hl:qg fr fr'):vZ N fr a:=⟨h.size,h.defers,fun i v e=>h.has i v (hl i v e)⟩
theorem qg.nil(fr:Fr):qg [] fr:=fun _ _ h=>by simp[look]at h
theorem qg.cons{fr fr':Fr}(h:look fr' i=some v)(hl:qg fr fr'):qg ((i,v)::fr) fr':=by
 intro j u hj
 simp only[look]at hj
 cases hb:Nat.beq j i with
 | true=>rw[hb]at hj;have:=Nat.eq_of_beq_eq_true hb;subst this;simp at hj;subst hj;exact h
 | false=>rw[hb]at hj;exact hl j u hj
theorem qg.refl(fr:Fr):qg fr fr:=fun _ _ h=>h
def HLe(I I':AH):Prop:= ∀b o,I b=some o->I' b=some o
theorem HLe.refl(I:AH):HLe I I:=fun _ _ h=>h
def qc(P:Program)(B:World)(ro:AH)(f:FuncId)(args:Array Value)(I:AH)(Q:Value->AH->Prop):Prop:=
 ∀φ w,Own B ro φ I w->Calls P f args w fun e w'=> ∃v I',e= .returned v/\Q v I'/\Own B ro φ I' w'
theorem qc.mono{P:Program}{B:World}{ro:AH}{I:AH}{Q Q':Value->AH->Prop}(h:qc P B ro f args I Q)(hq:∀ v I,Q v I->Q' v I):qc P B ro f args I Q':=
 fun φ w ho=>(h φ w ho).mono fun _ _ ⟨v,I',e,q,o⟩=>⟨v,I',e,hq _ _ q,o⟩
theorem qc.drop{P:Program}{B:World}{ro:AH}{I:AH}{Q Q':Value->AH->Prop}(h:qc P B ro f args I Q)(hq:∀ v I,Q v I->∃ I',HLe I' I/\Q' v I'):qc P B ro f args I Q':=
 fun φ w ho=>(h φ w ho).mono fun _ _ ⟨v,_,e,q,o⟩=>let ⟨I'',hl,q'⟩:=hq _ _ q;⟨v,I'',e,q',o.drop hl⟩
def qI(I ψ:AH):Prop:= ∀b o,I b=some o->ψ b=none
def join(I ψ:AH):AH:=fun b=>match I b with | some o=>some o | none=>ψ b
theorem pJ{I ψ:AH}(h:join I ψ b=some o):I b=some o\/(I b=none/\ψ b=some o):=by
 unfold join at h
 cases e:I b with
 | some x=>rw[e]at h;exact .inl h
 | none=>rw[e]at h;exact .inr ⟨rfl,h⟩
theorem jD{I ψ:AH}(h:join I ψ b=none):I b=none/\ψ b=none:=by
 unfold join at h
 cases e:I b with
 | some x=>rw[e]at h;cases h
 | none=>rw[e]at h;exact⟨rfl,h⟩
theorem wX{I ψ:AH}(h:I b=some o):join I ψ b=some o:=by simp[join,h]
theorem xu{I ψ:AH}(hd:qI I ψ)(h:ψ b=some o):join I ψ b=some o:=by
 unfold join
 cases e:I b with
 | some x=>have:=hd b x e;rw[this]at h;cases h
 | none=>exact h
theorem qI.symm{I ψ:AH}(hd:qI I ψ):qI ψ I:=by
 intro b o hs
 cases e:I b with
 | none=>rfl
 | some x=>have:=hd b x e;rw[this]at hs;cases hs
theorem Own.frame_in{B:World}{ro φ I ψ:AH}(h:Own B ro φ (join I ψ) w)(hd:qI I ψ):Own B ro (join φ ψ) I w:=by
 refine⟨h.os,h.tape,h.output,?_,?_,h.ro⟩
 .intro b o hs
  have:=h.own b o (wX hs)
  exact⟨this.1,by simp[join,this.2.1,hd b o hs],this.2.2⟩
 .intro b o hs
  rcases pJ hs with h1 | ⟨h1,h2⟩
  .exact h.fr b _ h1
  .exact(h.own b o (xu hd h2)).1
theorem Own.frame_out{B:World}{ro φ I ψ:AH}(h:Own B ro (join φ ψ) I w)(hd:qI φ ψ)(hr:qI ψ ro):Own B ro φ (join I ψ) w/\qI I ψ:=by
 have hd2:qI I ψ:=fun b o hs=>(jD (h.own b o hs).2.1).2
 refine⟨⟨h.os,h.tape,h.output,?_,fun b o hs=>h.fr b o (wX hs),h.ro⟩,hd2⟩
 intro b o hs
 rcases pJ hs with h1 | ⟨h1,h2⟩
 .have:=h.own b _ h1
  exact⟨this.1,(jD this.2.1).1,this.2.2⟩
 .exact⟨h.fr b o (xu hd h2),hd.symm b o h2,hr b o h2⟩
theorem Own.frame_disj{B:World}{ro φ I ψ:AH}(ho:Own B ro φ (join I ψ) w)(hd:qI I ψ):qI φ ψ/\qI ψ ro:=
 ⟨qI.symm fun b o hs=>(ho.own b o (xu hd hs)).2.1,fun b o hs=>(ho.own b o (xu hd hs)).2.2⟩
theorem qc.frame{P:Program}{B:World}{ro:AH}{I ψ:AH}{Q:Value->AH->Prop}(h:qc P B ro f args I Q)(hd:qI I ψ):
  qc P B ro f args (join I ψ) fun v I'=> ∃τ,I'=join τ ψ/\qI τ ψ/\Q v τ:=by
 intro φ w ho
 obtain⟨hfp,hpr⟩:=ho.frame_disj hd
 refine(h _ w (ho.frame_in hd)).mono ?_
 rintro e w' ⟨v,I',he,hq,ho'⟩
 obtain⟨h1,h2⟩:=ho'.frame_out hfp hpr
 exact⟨v,_,he,⟨I',rfl,h2,hq⟩,h1⟩
theorem Own.lend{B:World}{ro φ I ψ:AH}(h:Own B ro φ (join ψ I) w)(hd:qI ψ I):Own B (join ro ψ) φ I w:=by
 refine⟨h.os,h.tape,h.output,?_,h.fr,?_⟩
 .intro b o hs
  have:=h.own b o (xu hd hs)
  exact⟨this.1,this.2.1,by simp[join,this.2.2,hd.symm b o hs]⟩
 .intro b o hs
  rcases pJ hs with h1 | ⟨_,h2⟩
  .exact h.ro b o h1
  .exact(h.own b o (wX h2)).1
theorem Own.unlend{B:World}{ro φ I ψ:AH}(h:Own B (join ro ψ) φ I w)(hp:∀ b o,ψ b=some o->φ b=none/\ro b=none):Own B ro φ (join ψ I) w/\qI ψ I:=by
 have hd:qI ψ I:=qI.symm fun b o hs=>(jD (h.own b o hs).2.2).2
 refine⟨⟨h.os,h.tape,h.output,?_,h.fr,fun b o hs=>h.ro b o (wX hs)⟩,hd⟩
 intro b o hs
 rcases pJ hs with h1 | ⟨_,h2⟩
 .have:=hp b o h1
  exact⟨h.ro b o (by simp[join,this.2,h1]),this⟩
 .have:=h.own b o h2
  exact⟨this.1,this.2.1,(jD this.2.2).1⟩
theorem qc.lend{P:Program}{B:World}{ro:AH}{I ψ:AH}{Q:Value->AH->Prop}(h:qc P B (join ro ψ) f args I Q)(hd:qI ψ I):
  qc P B ro f args (join ψ I) fun v I'=> ∃τ,I'=join ψ τ/\qI ψ τ/\Q v τ:=by
 intro φ w ho
 have hp:∀ b o,ψ b=some o->φ b=none/\ro b=none:=fun b o hs=>(ho.own b o (wX hs)).2
 refine(h φ w (ho.lend hd)).mono ?_
 rintro e w' ⟨v,I',he,hq,ho'⟩
 obtain⟨h1,h2⟩:=ho'.unlend hp
 exact⟨v,_,he,⟨I',rfl,h2,hq⟩,h1⟩
def anA(P:Program)(B:World)(ro:AH)(dst:Option Tmp)(fr:Fr)(K:Fr->AH->Prop):Next->AH->Prop
 | .value v,I=>K (qu dst v fr) I
 | .skip,I=>K (qu dst undef fr) I
 | .enter f args,I=>qc P B ro f args I fun v I'=>K (qu dst v fr) I'
 | _,_=>False
def qZ(P:Program)(B:World)(ro:AH)(o:Oper)(K:Fr->AH->Prop)(fr:Fr)(I:AH):Prop:=
 ∀O,vr O fr->awp P ro (execOp O o) (anA P B ro o.dst fr K) I
def ve(P:Program)(B:World)(ro:AH)(N:Nat)(ops:Array Oper)(o:Oper)(K:Fr->AH->Prop)(fr:Fr)(I:AH):Prop:=
 we N o.dst=true/\match o.guard with
  | none=>qZ P B ro o K fr I
  | some (j,want)=> ∃t v,(ops[j]?).bind (·.dst)=some t/\look fr t=some v/\((v= .bool want/\qZ P B ro o K fr I)\/(v≠ .bool want/\K (qu o.dst undef fr) I))
def acR(P:Program)(B:World)(ro:AH)(N:Nat)(ops:Array Oper)(K:Fr->AH->Prop):List Nat->Fr->AH->Prop
 | [],fr,I=>K fr I
 | i::rest,fr,I=>match ops[i]? with
  | none=>acR P B ro N ops K rest fr I
  | some o=>ve P B ro N ops o (acR P B ro N ops K rest) fr I
def agw(B:World)(ro:AH)(N:Nat)(φ:AH)(Q:Exit->Fr->AH->Prop)(e:Exit)(a:Act)(w:World):= ∃fr I,Q e fr I/\Own B ro φ I w/\vZ N fr a
theorem qZ.sound{P:Program}{B:World}{ro:AH}{N:Nat}{o:Oper}{K:Fr->AH->Prop}{fr:Fr}{I φ:AH}{a:Act}{next:Act->World->Prop}{Q:Exit->Act->World->Prop}
  (h:qZ P B ro o K fr I) (hd:we N o.dst=true) (ho:Own B ro φ I w) (hf:vZ N fr a)
  (hk:∀ fr I a w,K fr I->Own B ro φ I w->vZ N fr a->next a w):o.wp P a w next Q:=by
 obtain⟨x,w',I',hr,hq,ho'⟩:=ahy _ (h _ hf.agrees) ho
 unfold Oper.wp
 rw[hr]
 cases x with
 | value v=>exact hk _ _ _ _ hq ho' (hf.put hd v)
 | skip=>exact hk _ _ _ _ hq ho' (hf.put hd undef)
 | enter f args=>
  show Calls P f args w' _
  refine(hq φ w' ho').mono ?_
  rintro e w2 ⟨v,I2,rfl,hq2,ho2⟩
  exact hk _ _ _ _ hq2 ho2 (hf.put hd v)
 | _=>exact hq.elim
theorem yielded_eq{N:Nat}{fr:Fr}{a:Act}(hf:vZ N fr a){j t:Nat}(ht:(ops[j]?).bind (·.dst)=some t)(hl:look fr t=some v):
  yielded ops a.tmps j=match v with | .bool b=>some b | _=>none:=by
 unfold yielded
 rw[ht]
 simp only[Option.bind_some,hf.has t v hl]
 cases v<;>rfl
theorem acR.sound{P:Program}{B:World}{ro:AH}{N:Nat}{Q:Exit->Fr->AH->Prop}{φ:AH}(l:List Nat):∀ {fr:Fr} {I:AH} {a:Act} {w:World},
  acR P B ro N ops (Q .normal) l fr I->Own B ro φ I w->vZ N fr a->wpOps P ops (agw B ro N φ Q) l a w:=by
 induction l with
 | nil=>intro fr I a w h ho hf;exact⟨fr,I,h,ho,hf⟩
 | cons i rest ih=>
  intro fr I a w h ho hf
  simp only[acR]at h
  simp only[wpOps]
  cases hi:ops[i]? with
  | none=>rw[hi]at h;exact ih h ho hf
  | some o=>
   rw[hi]at h
   obtain⟨hd,h⟩:=h
   dsimp only
   cases hg:o.guard with
   | none=>
    rw[hg]at h
    have hw:Region.wanted o (yielded ops a.tmps)=true:=by simp[Region.wanted,hg]
    rw[me hw]
    exact .inl (qZ.sound h hd ho hf fun fr I a w hk ho hf=>ih hk ho hf)
   | some g=>
    obtain⟨j,want⟩:=g
    rw[hg]at h
    obtain⟨t,v,ht,hl,h⟩:=h
    have hy:=yielded_eq hf ht hl
    rcases h with⟨rfl,h⟩ | ⟨hv,h⟩
    .have hw:Region.wanted o (yielded ops a.tmps)=true:=by simp[Region.wanted,hg,hy]
     rw[me hw]
     exact .inl (qZ.sound h hd ho hf fun fr I a w hk ho hf=>ih hk ho hf)
    .have hw:¬ Region.wanted o (yielded ops a.tmps)=true:=by
      simp only[Region.wanted,hg,hy]
      cases v<;>simp
      rename_i b;intro e;subst e;exact hv rfl
     rw[mc hw]
     exact ih h ho (hf.put hd undef)
def AW(P:Program)(B:World)(ro:AH)(N:Nat)(c:Code)(Q:Exit->Fr->AH->Prop)(fr:Fr)(I:AH):Prop:=
 ∀φ w a,Own B ro φ I w->vZ N fr a->c.wp P (agw B ro N φ Q) a w
def ach(next:Fr->AH->Prop)(Q:Exit->Fr->AH->Prop):Exit->Fr->AH->Prop
 | .normal,fr,I=>next fr I
 | e,fr,I=>Q e fr I
def adY(id:Nat)(Q:Exit->Fr->AH->Prop):Exit->Fr->AH->Prop
 | .exit id',fr,I=>if id'=id then Q .normal fr I else Q (.exit id') fr I
 | e,fr,I=>Q e fr I
section
variable{P:Program}{B:World}{ro:AH}{N:Nat}{Q:Exit->Fr->AH->Prop}{fr:Fr}{I:AH}
theorem AW.weaken{fr':Fr}{I':AH}(h:AW P B ro N c Q fr' I')(hf:qg fr' fr)(hl:HLe I' I):AW P B ro N c Q fr I:=
 fun φ w a ho ha=>h φ w a (ho.drop hl) (ha.weaken hf)
theorem AW.skip(h:Q .normal fr I):AW P B ro N .skip Q fr I:=fun _ _ _ ho hf=>wp_skip ⟨fr,I,h,ho,hf⟩
theorem AW.ret(h:Q .ret fr I):AW P B ro N .ret Q fr I:=fun _ _ _ ho hf=>wp_ret ⟨fr,I,h,ho,hf⟩
theorem AW.exit(h:Q (.exit id) fr I):AW P B ro N (.exit id) Q fr I:=fun _ _ _ ho hf=>wp_exit ⟨fr,I,h,ho,hf⟩
theorem AW.seq(h:AW P B ro N x (ach (AW P B ro N y Q) Q) fr I):AW P B ro N (.seq x y) Q fr I:=by
 intro φ w a ho hf
 refine wp_seq (wp_mono (h φ w a ho hf) ?_)
 rintro e a' w' ⟨fr',I',hq,ho',hf'⟩
 cases e with
 | normal=>exact hq φ w' a' ho' hf'
 | _=>exact⟨fr',I',hq,ho',hf'⟩
theorem AW.cond{c:Operand}{b:Bool}(hc:qh fr c=some (.bool b))(ht:b=true->AW P B ro N x Q fr I)(hn:b=false->AW P B ro N y Q fr I):AW P B ro N (.cond c x y) Q fr I:=
 fun φ w a ho hf=>wp_cond_split (hf.agrees _ _ hc) (fun e=>ht e φ w a ho hf) (fun e=>hn e φ w a ho hf)
theorem AW.block(h:AW P B ro N c (adY id Q) fr I):AW P B ro N (.block id c) Q fr I:=by
 intro φ w a ho hf
 refine wp_block (wp_mono (h φ w a ho hf) ?_)
 rintro e a' w' ⟨fr',I',hq,ho',hf'⟩
 cases e with
 | exit id'=>
  simp only[adY]at hq
  simp only[Exit.inBlock]
  split
  .rename_i e;rw[me e]at hq;exact⟨fr',I',hq,ho',hf'⟩
  .rename_i e;rw[mc e]at hq;exact⟨fr',I',hq,ho',hf'⟩
 | _=>exact⟨fr',I',hq,ho',hf'⟩
theorem AW.region(h:acR P B ro N ops (Q .normal) (List.range ops.size) fr I):AW P B ro N (.region id ops false) Q fr I:=
 fun _ _ _ ho hf=>wp_region (acR.sound _ h ho hf)
end
def agf(P:Program)(c:Code)(Q:Exit->Act->World->Prop)(a:Act)(w:World):Prop:=
 ∀(b:Frame) (k:List Item) (cs:List Frame),∃e a' w',Q e a' w'/\Arrives P (lone (b.at a (.inLoop c::k)) cs w) b k cs e a' w'
theorem aix{P:Program}{Q:Exit->Act->World->Prop}{a:Act}(h:c.wp P (Exit.then (agf P c Q) Q) a w)(b:Frame)(k:List Item)(cs:List Frame):
  ∃e a' w',Q e a' w'/\Arrives P (lone (b.at a (.code c:: .inLoop c::k)) cs w) b k cs e a' w':=by
 obtain⟨e,a₁,w₁,hq,harr⟩:=h b (.inLoop c::k) cs
 cases e with
 | normal=>
  obtain⟨e₂,a₂,w₂,hq₂,harr₂⟩:=hq b k cs
  exact⟨e₂,a₂,w₂,hq₂,.of_steps harr harr₂⟩
 | exit id=>exact⟨_,a₁,w₁,hq,.pass (x:= .inLoop c) rfl (fun _ _=> .inl z7) harr⟩
 | goto l=>exact⟨_,a₁,w₁,hq,.pass (x:= .inLoop c) rfl (fun _ _=> .inl z7) harr⟩
 | ret=>exact⟨_,a₁,w₁,hq,.pass (x:= .inLoop c) rfl (fun _ _=> .inl z7) harr⟩
 | panic ch=>exact⟨_,a₁,w₁,hq,.pass (x:= .inLoop c) rfl (fun _ _=> .inl z7) harr⟩
 | outgrown=>exact⟨_,a₁,w₁,hq,.pass (x:= .inLoop c) rfl (fun _ _=> .inl z7) harr⟩
theorem aoB{P:Program}{Q:Exit->Act->World->Prop}{a:Act}(h:c.wp P (Exit.then (agf P c Q) Q) a w):agf P c Q a w:=by
 intro b k cs
 obtain⟨e,a',w',hq,harr⟩:=aix h b k cs
 exact⟨e,a',w',hq,.of_steps (.one step_inLoop) harr⟩
theorem aoC{P:Program}{Q:Exit->Act->World->Prop}{a:Act}(h:c.wp P (Exit.then (agf P c Q) Q) a w):(Code.loop c).wp P Q a w:=by
 intro b k cs
 obtain⟨e,a',w',hq,harr⟩:=aix h b k cs
 exact⟨e,a',w',hq,.of_steps (.one step_loop) harr⟩
def aq1(P:Program)(B:World)(ro:AH)(N:Nat)(c:Code)(Q:Exit->Fr->AH->Prop)(fr:Fr)(I:AH):Prop:=
 ∀φ w a,Own B ro φ I w->vZ N fr a->agf P c (agw B ro N φ Q) a w
def qf(P:Program)(B:World)(ro:AH)(N:Nat)(c:Code)(Q:Exit->Fr->AH->Prop)(fr:Fr)(I:AH):Prop:=AW P B ro N c (ach (aq1 P B ro N c Q) Q) fr I
section
variable{P:Program}{B:World}{ro:AH}{N:Nat}{Q:Exit->Fr->AH->Prop}{fr:Fr}{I:AH}
theorem qf.wp(h:qf P B ro N c Q fr I){φ:AH}{a:Act}(ho:Own B ro φ I w)(hf:vZ N fr a):c.wp P (Exit.then (agf P c (agw B ro N φ Q)) (agw B ro N φ Q)) a w:=by
 refine wp_mono (h φ w a ho hf) ?_
 rintro e a' w' ⟨fr',I',hq,ho',hf'⟩
 cases e with
 | normal=>exact hq φ w' a' ho' hf'
 | _=>exact⟨fr',I',hq,ho',hf'⟩
theorem qf.head{fr':Fr}(h:qf P B ro N c Q fr' I)(hl:qg fr' fr):aq1 P B ro N c Q fr I:=
 fun _ _ _ ho hf=>aoB (h.wp ho (hf.weaken hl))
theorem qf.loop{fr':Fr}(h:qf P B ro N c Q fr' I)(hl:qg fr' fr):AW P B ro N (.loop c) Q fr I:=
 fun _ _ _ ho hf=>aoC (h.wp ho (hf.weaken hl))
end
def qe{α:Type}(P:Program)(ro:AH):Sem α->AH->Option α
 | .pure a,_=>some a
 | .load _ a k,I=>match qb ro I a with
  | some v=>qe P ro (k v) I
  | none=>none
 | .program k,I=>qe P ro (k P) I
 | .mark _ k,I=>qe P ro k I
 | _,_=>none
theorem afW{P:Program}{B:World}{ro φ:AH}(s:Sem α):∀ {I:AH} {w:World} {a:α},qe P ro s I=some a->Own B ro φ I w->s.run P w= .ok a w:=by
 induction s with
 | pure a=>intro I w x h ho;cases h;rfl
 | load m a k ih=>
  intro I w x h ho
  simp only[qe]at h
  cases hc:qb ro I a with
  | none=>rw[hc]at h;cases h
  | some v=>rw[hc]at h;simp only[Sem.run,ho.cell hc];exact ih v h ho
 | program k ih=>intro I w x h ho;exact ih _ h ho
 | mark m k ih=>intro I w x h ho;exact ih h ho
 | _=>intro I w x h;cases h
def acS(P:Program)(ro:AH)(fn:Func)(R:Value->AH->Prop):Exit->Fr->AH->Prop
 | .normal,fr,I | .ret,fr,I=> ∃v,(∀tmps:Array Value,(∀i u,look fr i=some u->tmps[i]?=some u)->qe P ro (results fn tmps) I=some v)/\R v I
 | _,_,_=>False
def adZ:List Value->Nat->Fr
 | [],_=>[]
 | v::r,i=>(i,v)::adZ r (i+1)
theorem aiy(l:List Value):∀ (n i:Nat) (v:Value),look (adZ l n) i=some v->n<=i/\l[i - n]?=some v:=by
 induction l with
 | nil=>intro n i v h;simp[adZ,look]at h
 | cons x r ih=>
  intro n i v h
  simp only[adZ,look]at h
  cases hb:Nat.beq i n with
  | true=>rw[hb]at h;have:=Nat.eq_of_beq_eq_true hb;subst this;simpa using h
  | false=>
   rw[hb]at h
   obtain⟨h1,h2⟩:=ih (n+1) i v h
   have:i - n=(i - (n+1))+1:=by omega
   exact⟨z6,by rw[this];simpa using h2⟩
theorem qc.of_body{P:Program}{B:World}{ro:AH}{fn:Func}{args:List Value}{I:AH}{Q:Value->AH->Prop}(hf:P.funcs[f]?=some fn)(hb:fn.body=some c)
  (hn:args.length<=fn.ntmps) (h:AW P B ro fn.ntmps c (acS P ro fn Q) (adZ args 0) I):qc P B ro f args.toArray I Q:=by
 intro φ w ho
 refine calls_of_wp hf hb ?_
 have hfits:vZ fn.ntmps (adZ args 0) {tmps:=args.toArray++Array.replicate (fn.ntmps - args.toArray.size) undef,defers:=[]}:=by
  refine⟨y6,rfl,?_⟩
  intro i v hi
  obtain⟨_,h2⟩:=aiy args 0 i v hi
  simp only[Nat.sub_zero]at h2
  have hlt:i<args.length:=by
   rcases mB i args.length with h' | h'
   .exact h'
   .rw[mw h']at h2;cases h2
  simp[Array.getElem?_append,hlt]
  simpa [mh hlt]using h2
 refine wp_mono (h φ w _ ho hfits) ?_
 rintro e a' w' ⟨fr',I',hq,ho',hf'⟩
 cases e with
 | normal=>
  obtain⟨v,hr,hR⟩:=hq
  exact⟨hf'.defers,v,afW _ (hr _ hf'.has) ho',v,I',rfl,hR,ho'⟩
 | ret=>
  obtain⟨v,hr,hR⟩:=hq
  exact⟨hf'.defers,v,afW _ (hr _ hf'.has) ho',v,I',rfl,hR,ho'⟩
 | _=>exact hq.elim
end SL
namespace SL
open Go
variable{α:Type}{I τ ψ:AH}{a:Addr}{args:Array Value}{fr fr':Fr}{K K':Fr->AH->Prop}{f:FuncId}{b d i:Nat}{cl:Nat->Nat}{o:Oper}{O:Operand->Value}{u v:Value}{Q:Value->AH->Prop}
theorem aib{ro:AH}{o:Obj}(h:rd ro I b=some o):rd ro (join I ψ) b=some o:=by
 unfold rd at h⊢
 split
 .rename_i x e;rw[e]at h;exact h
 .rename_i e;rw[e]at h;exact wX h
theorem anB{ro:AH}(h:qb ro I a=some v):qb ro (join I ψ) a=some v:=by
 unfold qb at h⊢
 cases hb:rd ro I a.block with
 | none=>rw[hb]at h;simp[wM]at h
 | some o=>rw[aib hb,<-hb];exact h
theorem agx(b:Nat)(o:Obj):upd (join I ψ) b o=join (upd I b o) ψ:=by
 funext i
 by_cases h:i=b<;>simp[upd,join,h]
theorem qI.upd(hd:qI I ψ)(h:ψ b=none)(o:Obj):qI (SL.upd I b o) ψ:=by
 intro i x hx
 unfold SL.upd at hx
 split at hx
 .rename_i e;subst e;exact h
 .exact hd i x hx
theorem aoD{P:Program}{ro:AH}(s:Sem α):∀ {Q:α->AH->Prop} {I:AH},awp P ro s Q I->qI I ψ->
  awp P ro s (fun a I'=> ∃τ,I'=join τ ψ/\qI τ ψ/\Q a τ) (join I ψ):=by
 induction s with
 | pure a=>intro Q I h hd;exact⟨I,rfl,hd,h⟩
 | load m a k ih=>intro Q I h hd;obtain⟨v,hc,h⟩:=h;exact⟨v,anB hc,ih v h hd⟩
 | store m a v k ih=>
  intro Q I h hd
  obtain⟨hv,hsp,c,e,fz,hs,hoff,hfz,h⟩:=h
  refine⟨hv,hsp,c,e,fz,wX hs,hoff,hfz,?_⟩
  rw[agx];exact ih h (hd.upd (hd _ _ hs) _)
 | new o k ih=>
  intro Q I h hd b hb hs
  obtain⟨h1,h2⟩:=jD hs
  rw[agx];exact ih b (h b hb h1) (hd.upd h2 _)
 | shape r k ih=>intro Q I h hd;obtain⟨o,hr,h⟩:=h;exact⟨o,aib hr,ih _ h hd⟩
 | freeze a n k ih=>
  intro Q I h hd
  obtain⟨hn,o,hs,h⟩:=h
  refine⟨hn,o,wX hs,?_⟩
  rw[agx];exact ih h (hd.upd (hd _ _ hs) _)
 | frozen a k ih=>intro Q I h hd;obtain⟨o,hr,h⟩:=h;exact⟨o,aib hr,ih _ h hd⟩
 | getObj r k ih=>intro Q I h hd;obtain⟨o,hr,hi,h⟩:=h;exact⟨o,aib hr,hi,ih _ h hd⟩
 | setObj r o k ih=>
  intro Q I h hd
  obtain⟨o',hs,hi,h⟩:=h
  refine⟨o',wX hs,hi,?_⟩
  rw[agx];exact ih h (hd.upd (hd _ _ hs) _)
 | choose q k ih=>
  intro Q I h hd
  simp only[awp]at h⊢
  split
  .rename_i e;rw[me e]at h;exact ih _ h hd
  .rename_i e;rw[mc e]at h;intro n;exact ih _ (h n) hd
 | sys c k ih=>intro Q I h;exact h.elim
 | program k ih=>intro Q I h hd;exact ih _ h hd
 | mark m k ih=>intro Q I h hd;exact ih h hd
 | halt e=>intro Q I h;exact h.elim
def jj(B:World)(ro I:AH):Prop:= ∃φ w,Own B ro φ I w
theorem asR(H:Array Obj)(b:Nat)(o:Obj):∃ H':Array Obj,H'[b]?=some o/\∀ i,i≠b->i<H.size->H'[i]?=H[i]?:=by
 by_cases h:b<H.size
 .exact⟨H.setIfInBounds b o,by simp[h],fun i hi _=>by rw[Array.getElem?_setIfInBounds,mc z6]⟩
 .refine⟨(H++Array.replicate (b - H.size) o).push o,?_,?_⟩
  .have:(H++Array.replicate (b - H.size) o).size=b:=by simp;omega
   rw[Array.getElem?_push,me this.symm]
  .intro i hi hlt
   have:(H++Array.replicate (b - H.size) o).size=b:=by simp;omega
   rw[Array.getElem?_push,mc z6,Array.getElem?_append,me hlt]
theorem jj.upd{B:World}{ro:AH}(h:jj B ro I)(hr:ro b=none)(o:Obj):jj B ro (SL.upd I b o):=by
 obtain⟨φ,w,h⟩:=h
 obtain⟨H',h1,h2⟩:=asR w.heap b o
 refine⟨fun _=>none,{w with heap:=H'},h.os,h.tape,h.output,?_,fun _ _ e=>(by cases e),?_⟩
 .intro i x hx
  unfold SL.upd at hx
  split at hx
  .rename_i e;subst e;cases hx;exact⟨h1,rfl,hr⟩
  .rename_i ne
   obtain⟨g1,_,g3⟩:=h.own i x hx
   exact⟨by show H'[i]?=_;rw[h2 i ne (qw g1)];exact g1,rfl,g3⟩
 .intro i x hx
  have g:=h.ro i x hx
  have:i≠b:=by intro e;subst e;rw[hr]at hx;cases hx
  show H'[i]?=_;rw[h2 i this (qw g)];exact g
theorem jj.ro_of{B:World}{ro:AH}(h:jj B ro I){o:Obj}(hs:I b=some o):ro b=none:=by
 obtain⟨φ,w,h⟩:=h;exact(h.own b o hs).2.2
theorem apY{P:Program}{B:World}{ro:AH}(s:Sem α):∀ {Q:α->AH->Prop} {I:AH},awp P ro s Q I->jj B ro I->awp P ro s (fun a I'=>Q a I'/\jj B ro I') I:=by
 induction s with
 | pure a=>intro Q I h hl;exact⟨h,hl⟩
 | load m a k ih=>intro Q I h hl;obtain⟨v,hc,h⟩:=h;exact⟨v,hc,ih v h hl⟩
 | store m a v k ih=>intro Q I h hl;obtain⟨hv,hsp,c,e,fz,hs,hoff,hfz,h⟩:=h;exact⟨hv,hsp,c,e,fz,hs,hoff,hfz,ih h (hl.upd (hl.ro_of hs) _)⟩
 | new o k ih=>intro Q I h hl b hb hs;exact ih b (h b hb hs) (hl.upd hb _)
 | shape r k ih=>intro Q I h hl;obtain⟨o,hr,h⟩:=h;exact⟨o,hr,ih _ h hl⟩
 | freeze a n k ih=>intro Q I h hl;obtain⟨hn,o,hr,h⟩:=h;exact⟨hn,o,hr,ih h (hl.upd (hl.ro_of hr) _)⟩
 | frozen a k ih=>intro Q I h hl;obtain⟨o,hr,h⟩:=h;exact⟨o,hr,ih _ h hl⟩
 | getObj r k ih=>intro Q I h hl;obtain⟨o,hr,hi,h⟩:=h;exact⟨o,hr,hi,ih _ h hl⟩
 | setObj r o k ih=>intro Q I h hl;obtain⟨o',hr,hi,h⟩:=h;exact⟨o',hr,hi,ih h (hl.upd (hl.ro_of hr) _)⟩
 | choose q k ih=>
  intro Q I h hl
  simp only[awp]at h⊢
  split
  .rename_i e;rw[me e]at h;exact ih _ h hl
  .rename_i e;rw[mc e]at h;intro n;exact ih _ (h n) hl
 | sys c k ih=>intro Q I h;exact h.elim
 | program k ih=>intro Q I h hl;exact ih _ h hl
 | mark m k ih=>intro Q I h hl;exact ih h hl
 | halt e=>intro Q I h;exact h.elim
theorem qc.live{P:Program}{B:World}{ro:AH}(h:qc P B ro f args I Q):qc P B ro f args I fun v I'=>Q v I'/\jj B ro I':=
 fun φ w ho=>(h φ w ho).mono fun _ _ ⟨v,I',e,q,o⟩=>⟨v,I',e,⟨q,φ,_,o⟩,o⟩
theorem qc.nonempty{P:Program}{B:World}{ro:AH}(h:qc P B ro f args I Q)(hl:jj B ro I):∃ v I',Q v I':=by
 obtain⟨φ,w,ho⟩:=hl
 obtain⟨_,_,_,⟨v,I',_,q,_⟩,_⟩:=h φ w ho []
 exact⟨v,I',q⟩
def zz(fr fr':Fr):Prop:= ∀i,look fr i=look fr' i
def abi(K:Fr->AH->Prop):Prop:= ∀fr fr' I,zz fr fr'->K fr I->K fr' I
theorem zz.symm(h:zz fr fr'):zz fr' fr:=fun i=>(h i).symm
theorem zz.refl(fr:Fr):zz fr fr:=fun _=>rfl
theorem agy{d:Tmp}:look (qu (some d) v fr) i=if i=d then some v else look fr i:=by
 simp only[qu,look]
 cases hb:Nat.beq i d with
 | true=>have:=Nat.eq_of_beq_eq_true hb;subst this;simp
 | false=>
  have hne:i≠d:=by intro e;subst e;simp at hb
  simp[hne]
theorem zz.put(h:zz fr fr')(d:Option Tmp)(v:Value):zz (qu d v fr) (qu d v fr'):=by
 cases d with
 | none=>exact h
 | some d=>intro i;simp only[agy,h i]
theorem zz.comm{x y:Option Tmp}(h:∀ d,x=some d->y≠some d)(v u:Value)(fr:Fr):zz (qu x v (qu y u fr)) (qu y u (qu x v fr)):=by
 cases x with
 | none=>exact zz.refl _
 | some d=>
  cases y with
  | none=>exact zz.refl _
  | some e=>
   have hne:e≠d:=fun q=>h d rfl (by rw[q])
   intro i
   simp only[agy]
   by_cases h1:i=d
   .subst h1;rw[me rfl,mc (fun q=>hne q.symm),me rfl]
   .rw[mc h1,mc h1]
theorem apZ(h:zz fr fr')(x:Operand):qh fr x=qh fr' x:=by
 cases x<;>simp[qh]
 exact h _
theorem vr.eq(h:vr O fr)(he:zz fr fr'):vr O fr':=fun x v hx=>h x v (by rw[apZ he];exact hx)
def ar5(fr:Fr):Operand->Value:=fun x=>(qh fr x).getD undef
theorem ab4(fr:Fr):vr (ar5 fr) fr:=fun x v h=>by simp[ar5,h]
def jE(P:Program)(ro τ:AH)(o:Oper)(fr:Fr)(u:Value):Prop:= ∀O,vr O fr->qe P ro (execOp O o) τ=some (.value u)
def vm(P:Program)(ro τ:AH)(ops:Array Oper)(o:Oper)(fr:Fr)(u:Value):Prop:=
 match o.guard with
 | none=>jE P ro τ o fr u
 | some (j,want)=> ∃t v,(ops[j]?).bind (·.dst)=some t/\look fr t=some v/\((v= .bool want/\jE P ro τ o fr u)\/(v≠ .bool want/\u=undef))
abbrev adJ:AH:=fun _=>none
def qz(P:Program)(ro:AH)(o:Oper)(fr:Fr)(u:Value):Prop:= ∀O,vr O fr->qe P ro (execOp O o) (fun _=>none)=some (.value u)
def aic(P:Program):Sem Next->Option (Obj×(Nat->Sem Next))
 | .new o k=>some (o,k)
 | .program k=>aic P (k P)
 | .mark _ k=>aic P k
 | _=>none
def acT(P:Program)(ro:AH)(o:Oper)(fr:Fr)(ob:Obj)(mk:Nat->Value):Prop:= ∀O,vr O fr->∃ k,aic P (execOp O o)=some (ob,k)/\∀ b,qe P ro (k b) (fun _=>none)=some (.value (mk b))
abbrev Fam:=Option (Nat->Obj×(Nat->Value))
def NQ(ro:AH)(F:Fam)(I:AH)(A:Value->AH->Prop):Prop:=match F with
 | none=>A undef I
 | some G=> ∀n b,ro b=none->I b=none->A ((G n).2 b) (upd I b (G n).1)
def adK(P:Program)(ro:AH)(o:Oper)(fr:Fr)(G:Nat->Obj×(Nat->Value)):Prop:= ∀O,vr O fr->∀ (Q:Next->AH->Prop) (I:AH),awp P ro (execOp O o) Q I↔∀ n b,ro b=none->I b=none->Q (.value ((G n).2 b)) (upd I b (G n).1)
def pA(P:Program)(ro:AH)(ops:Array Oper)(o:Oper)(fr:Fr)(F:Fam):Prop:=
 match o.guard with
 | none=> ∃G,F=some G/\adK P ro o fr G
 | some (j,want)=> ∃t v,(ops[j]?).bind (·.dst)=some t/\look fr t=some v/\((v= .bool want/\∃ G,F=some G/\adK P ro o fr G)\/(v≠ .bool want/\F=none))
section
variable{P:Program}{B:World}{ro:AH}{N:Nat}{ops:Array Oper}
theorem arr{ro:AH}{o:Obj}(h:rd ro (fun _=>none) b=some o):rd ro I b=some o:=by
 unfold rd at h⊢
 split
 .rename_i x e;rw[e]at h;exact h
 .rename_i e;rw[e]at h;cases h
theorem aja{ro:AH}(h:qb ro (fun _=>none) a=some v):qb ro I a=some v:=by
 unfold qb at h⊢
 cases hb:rd ro (fun _=>none) a.block with
 | none=>rw[hb]at h;simp[wM]at h
 | some o=>rw[arr hb,<-hb];exact h
theorem acU(s:Sem α):∀ {a:α} {Q:α->AH->Prop} {I:AH},qe P ro s (fun _=>none)=some a->(awp P ro s Q I↔Q a I):=by
 induction s with
 | pure x=>intro a Q I h;cases h;exact Iff.rfl
 | load m x k ih=>
  intro a Q I h
  simp only[qe]at h
  cases hc:qb ro (fun _=>none) x with
  | none=>rw[hc]at h;cases h
  | some v=>
   rw[hc]at h
   constructor
   .rintro⟨v',hc',h'⟩
    rw[aja hc]at hc';cases hc'
    exact(ih v h).1 h'
   .intro hq;exact⟨v,aja hc,(ih v h).2 hq⟩
 | program k ih=>intro a Q I h;exact ih _ h
 | mark m k ih=>intro a Q I h;exact ih h
 | _=>intro a Q I h;cases h
theorem ajb(s:Sem α):∀ {a:α} {I I':AH},HLe I I'->qe P ro s I=some a->qe P ro s I'=some a:=by
 induction s with
 | pure x=>intro a I I' _ h;exact h
 | load m x k ih=>
  intro a I I' hl h
  simp only[qe]at h⊢
  cases hc:qb ro I x with
  | none=>rw[hc]at h;cases h
  | some v=>
   rw[hc]at h
   have:qb ro I' x=some v:=by
    unfold qb at hc⊢
    cases hb:rd ro I x.block with
    | none=>rw[hb]at hc;simp[wM]at hc
    | some o=>
     have h2:rd ro I' x.block=some o:=by
      unfold rd at hb⊢
      split
      .rename_i y e;rw[e]at hb;exact hb
      .rename_i e;rw[e]at hb;exact hl _ _ hb
     rw[h2,<-hb];exact hc
   rw[this];exact ih v hl h
 | program k ih=>intro a I I' hl h;exact ih _ hl h
 | mark m k ih=>intro a I I' hl h;exact ih hl h
 | _=>intro a I I' hl h;cases h
theorem ae1(s:Sem α):∀ {a:α} {Q:α->AH->Prop} {I:AH},qe P ro s I=some a->Q a I->awp P ro s Q I:=by
 induction s with
 | pure x=>intro a Q I h hq;cases h;exact hq
 | load m x k ih=>
  intro a Q I h hq
  simp only[qe]at h
  cases hc:qb ro I x with
  | none=>rw[hc]at h;cases h
  | some v=>rw[hc]at h;exact⟨v,hc,ih v h hq⟩
 | program k ih=>intro a Q I h hq;exact ih _ h hq
 | mark m k ih=>intro a Q I h hq;exact ih h hq
 | _=>intro a Q I h hq;cases h
theorem ahz(s:Sem Next):∀ {ob:Obj} {k:Nat->Sem Next} {Q:Next->AH->Prop} {I:AH},aic P s=some (ob,k)->(awp P ro s Q I↔∀ b,ro b=none->I b=none->awp P ro (k b) Q (upd I b ob)):=by
 induction s with
 | new o k ih=>intro ob k' Q I h;simp only[aic,Option.some.injEq,Prod.mk.injEq]at h;obtain⟨rfl,rfl⟩:=h;exact Iff.rfl
 | program k ih=>intro ob k' Q I h;exact ih _ h
 | mark m k ih=>intro ob k' Q I h;exact ih h
 | _=>intro ob k' Q I h;cases h
def D1(P:Program)(B:World)(ro:AH)(N:Nat)(ops:Array Oper)(cl:Nat->Nat)(i:Nat)(K:Fr->AH->Prop)(fr:Fr)(I:AH):Prop:=
 match ops[i]? with
 | none=>False
 | some o=>match cl i with
  | 0=>we N o.dst=true/\∃ u,vm P ro adJ ops o fr u/\K (qu o.dst u fr) I
  | 3=>we N o.dst=true/\∃ u,vm P ro I ops o fr u/\K (qu o.dst u fr) I
  | 1=>we N o.dst=true/\∃ F,pA P ro ops o fr F/\NQ ro F I fun v I'=>K (qu o.dst v fr) I'
  | _=>ve P B ro N ops o K fr I
def qR(P:Program)(B:World)(ro:AH)(N:Nat)(ops:Array Oper)(cl:Nat->Nat)(K:Fr->AH->Prop):List Nat->Fr->AH->Prop
 | [],fr,I=>K fr I
 | i::rest,fr,I=>D1 P B ro N ops cl i (qR P B ro N ops cl K rest) fr I
theorem anC{dst:Option Tmp}(h:∀ fr I,K fr I->K' fr I){x:Next}(hq:anA P B ro dst fr K x I):anA P B ro dst fr K' x I:=by
 cases x<;>first | exact h _ _ hq | exact qc.mono hq fun _ _=>h _ _ | exact hq
theorem qZ.mono(h:∀ fr I,K fr I->K' fr I)(hx:qZ P B ro o K fr I):qZ P B ro o K' fr I:=
 fun O hρ=>qj _ (hx O hρ) fun _ _=>anC h
theorem ve.mono(h:∀ fr I,K fr I->K' fr I)(hx:ve P B ro N ops o K fr I):ve P B ro N ops o K' fr I:=by
 obtain⟨hd,hx⟩:=hx
 refine⟨hd,?_⟩
 split at hx
 .exact hx.mono h
 .obtain⟨t,v,h1,h2,h3⟩:=hx
  exact⟨t,v,h1,h2,h3.imp (fun⟨a,b⟩=>⟨a,b.mono h⟩) (fun⟨a,b⟩=>⟨a,h _ _ b⟩)⟩
theorem qZ.live(hx:qZ P B ro o K fr I)(hl:jj B ro I):qZ P B ro o (fun fr I=>K fr I/\jj B ro I) fr I:=by
 intro O hρ
 refine qj _ (apY _ (hx O hρ) hl) ?_
 rintro x I' ⟨h1,h2⟩
 cases x<;>first | exact⟨h1,h2⟩ | exact(qc.live h1).mono fun _ _ h=>h | exact h1
theorem ve.live(hx:ve P B ro N ops o K fr I)(hl:jj B ro I):ve P B ro N ops o (fun fr I=>K fr I/\jj B ro I) fr I:=by
 obtain⟨hd,hx⟩:=hx
 refine⟨hd,?_⟩
 split at hx
 .exact hx.live hl
 .obtain⟨t,v,h1,h2,h3⟩:=hx
  exact⟨t,v,h1,h2,h3.imp (fun⟨a,b⟩=>⟨a,b.live hl⟩) (fun⟨a,b⟩=>⟨a,b,hl⟩)⟩
theorem ve.nonempty(hx:ve P B ro N ops o K fr I)(hl:jj B ro I):∃ v I',K (qu o.dst v fr) I':=by
 have go:∀ (hx:qZ P B ro o K fr I),∃v I',K (qu o.dst v fr) I':=by
  intro hx
  obtain⟨φ,w,ho⟩:=hl
  obtain⟨x,w',I',_,hq,ho'⟩:=ahy _ (hx _ (ab4 fr)) ho
  cases x with
  | value v=>exact⟨v,I',hq⟩
  | skip=>exact⟨_,I',hq⟩
  | enter f args=>obtain⟨v,I2,h⟩:=qc.nonempty hq ⟨φ,w',ho'⟩;exact⟨v,I2,h⟩
  | _=>exact hq.elim
 obtain⟨_,hx⟩:=hx
 split at hx
 .exact go hx
 .obtain⟨t,v,h1,h2,h3⟩:=hx
  rcases h3 with⟨_,b⟩ | ⟨_,b⟩
  .exact go b
  .exact⟨_,I,b⟩
theorem qZ.frame(hx:qZ P B ro o K fr I)(hd:qI I ψ):qZ P B ro o (fun fr I'=> ∃τ,I'=join τ ψ/\qI τ ψ/\K fr τ) fr (join I ψ):=by
 intro O hρ
 refine qj _ (aoD _ (hx O hρ) hd) ?_
 rintro x I' ⟨τ,rfl,h1,h2⟩
 cases x<;>first | exact⟨τ,rfl,h1,h2⟩ | exact qc.frame h2 h1 | exact h2
theorem ve.frame(hx:ve P B ro N ops o K fr I)(hd:qI I ψ):ve P B ro N ops o (fun fr I'=> ∃τ,I'=join τ ψ/\qI τ ψ/\K fr τ) fr (join I ψ):=by
 obtain⟨h0,hx⟩:=hx
 refine⟨h0,?_⟩
 split at hx
 .exact hx.frame hd
 .obtain⟨t,v,h1,h2,h3⟩:=hx
  exact⟨t,v,h1,h2,h3.imp (fun⟨a,b⟩=>⟨a,b.frame hd⟩) (fun⟨a,b⟩=>⟨a,I,rfl,hd,b⟩)⟩
theorem vm.uniq{u':Value}(h:vm P ro τ ops o fr u)(h':vm P ro τ ops o fr u'):u=u':=by
 have pe:∀ {u u'},jE P ro τ o fr u->jE P ro τ o fr u'->u=u':=by
  intro u u' a b
  have:=(a _ (ab4 fr)).symm.trans (b _ (ab4 fr))
  simpa using this
 unfold vm at h h'
 split at h
 .rename_i hg;rw[hg]at h';exact pe h h'
 .rename_i j want hg
  rw[hg]at h'
  obtain⟨t,v,h1,h2,h3⟩:=h
  obtain⟨t',v',h1',h2',h3'⟩:=h'
  rw[h1]at h1';cases h1'
  rw[h2]at h2';cases h2'
  rcases h3 with⟨a,b⟩ | ⟨a,b⟩<;>rcases h3' with⟨a',b'⟩ | ⟨a',b'⟩
  .exact pe b b'
  .exact mC a a'
  .exact mC a' a
  .rw[b,b']
theorem vm.mono{τ':AH}(hl:HLe τ τ')(h:vm P ro τ ops o fr u):vm P ro τ' ops o fr u:=by
 have pe:jE P ro τ o fr u->jE P ro τ' o fr u:=fun a O hρ=>ajb _ hl (a O hρ)
 unfold vm at h⊢
 split at h
 .exact pe h
 .obtain⟨t,v,h1,h2,h3⟩:=h
  exact⟨t,v,h1,h2,h3.imp (fun⟨a,b⟩=>⟨a,pe b⟩) id⟩
def uk(o:Oper):Bool:=match o.op with | .select .. =>false | _=>true
theorem anD(h:uk o=true):∀ cs b,o.op≠ .select cs b:=by
 intro cs b e;simp[uk,e]at h
def anE(O:Operand->Value)(fr:Fr)(d:Nat):Operand->Value
 | .tmp t=>if t=d then(look fr d).getD (O (.tmp d))else O (.tmp t)
 | x=>O x
theorem agz(hs:uk o=true)(hd:d∉o.looksAt ops):execOp (anE O fr d) o=execOp O o:=by
 refine execOp_congr o (anD hs) fun x hx=>?_
 cases x with
 | tmp t=>
  have:t≠d:=by
   intro e;subst e;apply hd
   unfold Oper.looksAt
   refine mt.2 (.inl (List.mem_filterMap.2 ⟨.tmp t,j1 hx,rfl⟩))
  simp[anE,this]
 | _=>rfl
theorem afX(h:vr O fr')(he:∀ i,i≠d->look fr i=look fr' i):vr (anE O fr d) fr:=by
 intro x v hx
 cases x with
 | tmp t=>
  simp only[qh]at hx
  simp only[anE]
  by_cases e:t=d
  .subst e;simp[hx]
  .rw[mc e];exact h (.tmp t) v (by simp only[qh];rw[<-he t e];exact hx)
 | _=>exact h _ v hx
theorem aeU:∀ i,i≠d->look (qu (some d) v fr) i=look fr i:=by
 intro i hi;rw[agy,mc hi]
theorem ahA{j t:Nat}{want:Bool}(hg:o.guard=some (j,want))(ht:(ops[j]?).bind (·.dst)=some t)(hd:d∉o.looksAt ops):t≠d:=by
 intro e;subst e;apply hd
 unfold Oper.looksAt
 rw[hg]
 exact mt.2 (.inr (by simp[ht]))
theorem jE.off(hs:uk o=true)(hd:d∉o.looksAt ops)(he:∀ i,i≠d->look fr i=look fr' i)(h:jE P ro τ o fr u):jE P ro τ o fr' u:=by
 intro O hρ
 rw[<-agz (O:=O) (fr:=fr) hs hd]
 exact h _ (afX hρ he)
theorem vm.off(hs:uk o=true)(hd:d∉o.looksAt ops)(he:∀ i,i≠d->look fr i=look fr' i)(h:vm P ro τ ops o fr u):vm P ro τ ops o fr' u:=by
 unfold vm at h⊢
 split at h
 .exact h.off hs hd he
 .rename_i j want hg
  obtain⟨t,v,h1,h2,h3⟩:=h
  exact⟨t,v,h1,by rw[<-he t (ahA hg h1 hd)];exact h2,h3.imp (fun⟨a,b⟩=>⟨a,b.off hs hd he⟩) id⟩
theorem adK.off(hs:uk o=true)(hd:d∉o.looksAt ops)(he:∀ i,i≠d->look fr i=look fr' i){G:Nat->Obj×(Nat->Value)}(h:adK P ro o fr G):adK P ro o fr' G:=by
 intro O hρ
 rw[<-agz (O:=O) (fr:=fr) hs hd]
 exact h _ (afX hρ he)
theorem pA.off(hs:uk o=true)(hd:d∉o.looksAt ops)(he:∀ i,i≠d->look fr i=look fr' i){F:Fam}(h:pA P ro ops o fr F):pA P ro ops o fr' F:=by
 unfold pA at h⊢
 split at h
 .obtain⟨G,rfl,h⟩:=h
  exact⟨G,rfl,h.off hs hd he⟩
 .rename_i j want hg
  obtain⟨t,v,h1,h2,h3⟩:=h
  exact⟨t,v,h1,by rw[<-he t (ahA hg h1 hd)];exact h2,h3.imp (fun⟨a,G,e,b⟩=>⟨a,G,e,b.off hs hd he⟩) id⟩
theorem ve.off(hs:uk o=true)(hd:d∉o.looksAt ops)(he:∀ i,i≠d->look fr i=look fr' i)
  (hk:∀ v I,K (qu o.dst v fr) I->K' (qu o.dst v fr') I) (h:ve P B ro N ops o K fr I):ve P B ro N ops o K' fr' I:=by
 have go:qZ P B ro o K fr I->qZ P B ro o K' fr' I:=by
  intro h O hρ
  rw[<-agz (O:=O) (fr:=fr) hs hd]
  refine qj _ (h _ (afX hρ he)) ?_
  intro x I' hx
  cases x<;>first | exact hk _ _ hx | exact qc.mono hx fun v I h=>hk _ _ h | exact hx
 obtain⟨h0,h⟩:=h
 refine⟨h0,?_⟩
 split at h
 .exact go h
 .rename_i j want hg
  obtain⟨t,v,h1,h2,h3⟩:=h
  exact⟨t,v,h1,by rw[<-he t (ahA hg h1 hd)];exact h2,h3.imp (fun⟨a,b⟩=>⟨a,go b⟩) (fun⟨a,b⟩=>⟨a,hk _ _ b⟩)⟩
theorem jE.eq(he:zz fr fr')(h:jE P ro τ o fr u):jE P ro τ o fr' u:=fun O hρ=>h O (hρ.eq he.symm)
theorem vm.eq(he:zz fr fr')(h:vm P ro τ ops o fr u):vm P ro τ ops o fr' u:=by
 unfold vm at h⊢
 split at h
 .exact h.eq he
 .obtain⟨t,v,h1,h2,h3⟩:=h
  exact⟨t,v,h1,by rw[<-he t];exact h2,h3.imp (fun⟨a,b⟩=>⟨a,b.eq he⟩) id⟩
theorem pA.eq(he:zz fr fr'){F:Fam}(h:pA P ro ops o fr F):pA P ro ops o fr' F:=by
 unfold pA at h⊢
 split at h
 .obtain⟨G,rfl,h⟩:=h
  exact⟨G,rfl,fun O hρ=>h O (hρ.eq he.symm)⟩
 .obtain⟨t,v,h1,h2,h3⟩:=h
  exact⟨t,v,h1,by rw[<-he t];exact h2,h3.imp (fun⟨a,G,e,b⟩=>⟨a,G,e,fun O hρ=>b O (hρ.eq he.symm)⟩) id⟩
theorem NQ.map{F:Fam}{A A':Value->AH->Prop}(h:∀ v I,A v I->A' v I)(k:NQ ro F I A):NQ ro F I A':=by
 cases F with
 | none=>exact h _ _ k
 | some G=>exact fun n b hb hs=>h _ _ (k n b hb hs)
theorem ve.eq(he:zz fr fr')(hk:∀ v I,K (qu o.dst v fr) I->K' (qu o.dst v fr') I)(h:ve P B ro N ops o K fr I):ve P B ro N ops o K' fr' I:=by
 have go:qZ P B ro o K fr I->qZ P B ro o K' fr' I:=by
  intro h O hρ
  refine qj _ (h O (hρ.eq he.symm)) ?_
  intro x I' hx
  cases x<;>first | exact hk _ _ hx | exact qc.mono hx fun v I h=>hk _ _ h | exact hx
 obtain⟨h0,h⟩:=h
 refine⟨h0,?_⟩
 split at h
 .exact go h
 .obtain⟨t,v,h1,h2,h3⟩:=h
  exact⟨t,v,h1,by rw[<-he t];exact h2,h3.imp (fun⟨a,b⟩=>⟨a,go b⟩) (fun⟨a,b⟩=>⟨a,hk _ _ b⟩)⟩
theorem D1.closed(hK:abi K):abi (D1 P B ro N ops cl i K):=by
 intro fr fr' I he h
 unfold D1 at h⊢
 split at h
 .exact h
 .rename_i o ho
  split at h
  .obtain⟨h0,u,h1,h2⟩:=h
   exact⟨h0,u,h1.eq he,hK _ _ _ (he.put _ _) h2⟩
  .obtain⟨h0,u,h1,h2⟩:=h
   exact⟨h0,u,h1.eq he,hK _ _ _ (he.put _ _) h2⟩
  .obtain⟨h0,F,h1,h2⟩:=h
   exact⟨h0,F,h1.eq he,h2.map fun v I hk=>hK _ _ _ (he.put _ _) hk⟩
  .exact h.eq he fun v I hk=>hK _ _ _ (he.put _ _) hk
theorem qR.closed(hK:abi K)(l:List Nat):abi (qR P B ro N ops cl K l):=by
 induction l with
 | nil=>exact hK
 | cons i rest ih=>exact D1.closed ih
theorem D1.mono(hl:jj B ro I)(h:∀ fr I,jj B ro I->K fr I->K' fr I)(hx:D1 P B ro N ops cl i K fr I):D1 P B ro N ops cl i K' fr I:=by
 unfold D1 at hx⊢
 split at hx
 .exact hx
 .split at hx
  .obtain⟨h0,u,h1,h2⟩:=hx
   exact⟨h0,u,h1,h _ _ hl h2⟩
  .obtain⟨h0,u,h1,h2⟩:=hx
   exact⟨h0,u,h1,h _ _ hl h2⟩
  .obtain⟨h0,F,h1,h2⟩:=hx
   refine⟨h0,F,h1,?_⟩
   cases F with
   | none=>exact h _ _ hl h2
   | some G=>exact fun n b hb hs=>h _ _ (hl.upd hb _) (h2 n b hb hs)
  .exact(hx.live hl).mono fun fr I ⟨a,b⟩=>h fr I b a
end
end SL
namespace SL
open Go
section
variable{P:Program}{B:World}{ro:AH}{N:Nat}{ops:Array Oper}
def ahB(b:Nat)(o:Obj):AH:=fun i=>if i=b then some o else none
theorem ajc{I:AH}{b:Nat}(h:I b=none)(o:Obj):upd I b o=join I (ahB b o):=by
 funext i
 unfold upd join ahB
 by_cases e:i=b
 .subst e;rw[me rfl,h];simp
 .rw[mc e,mc e];cases I i<;>rfl
theorem qI.single{I:AH}{b:Nat}(h:I b=none)(o:Obj):qI I (ahB b o):=by
 intro i x hx
 unfold SL.ahB
 by_cases e:i=b
 .subst e;rw[h]at hx;cases hx
 .rw[mc e]
theorem ap0{I:AH}{b c:Nat}(h:b≠c)(o p:Obj):upd (upd I b o) c p=upd (upd I c p) b o:=by
 funext i
 unfold upd
 by_cases e:i=c
 .subst e;rw[me rfl,mc (fun q=>h q.symm),me rfl]
 .rw[mc e,mc e]
theorem ap1{I:AH}{b c:Nat}{o:Obj}(h:upd I b o c=none):c≠b/\I c=none:=by
 unfold upd at h
 split at h
 .cases h
 .rename_i e;exact⟨e,h⟩
theorem aoE{I:AH}{b c:Nat}{o:Obj}(h:c≠b)(hs:I c=none):upd I b o c=none:=by unfold upd;rw[mc h];exact hs
def abj(ops:Array Oper)(cl:Nat->Nat)(x i:Nat):Bool:=
 match ops[x]?,ops[i]? with
 | some ox,some oi=>ox.apart ops oi && uk ox && uk oi && (cl x == 0 || cl i == 0 || cl i == 1 || (cl x == 3 && cl i == 3))
 | _,_=>false
theorem ap2{ox oi:Oper}(ha:ox.apart ops oi=true)(v u:Value)(fr:Fr):zz (qu oi.dst u (qu ox.dst v fr)) (qu ox.dst v (qu oi.dst u fr)):=
 (zz.comm (Oper.apart_spec ha).2.1 v u fr).symm
theorem vm.past{τ:AH}{o:Oper}(hs:uk o=true){d:Option Tmp}(hd:∀ t,d=some t->t∉o.looksAt ops){v:Value}{fr:Fr}{u:Value}(h:vm P ro τ ops o (qu d v fr) u):vm P ro τ ops o fr u:=by
 cases d with
 | none=>exact h
 | some t=>exact h.off hs (hd t rfl) (aeU)
theorem vm.under{τ:AH}{o:Oper}(hs:uk o=true){d:Option Tmp}(hd:∀ t,d=some t->t∉o.looksAt ops){v:Value}{fr:Fr}{u:Value}(h:vm P ro τ ops o fr u):vm P ro τ ops o (qu d v fr) u:=by
 cases d with
 | none=>exact h
 | some t=>exact h.off hs (hd t rfl) (fun i hi=>(aeU i hi).symm)
theorem pA.past{o:Oper}(hs:uk o=true){d:Option Tmp}(hd:∀ t,d=some t->t∉o.looksAt ops){v:Value}{fr:Fr}{F:Fam}(h:pA P ro ops o (qu d v fr) F):pA P ro ops o fr F:=by
 cases d with
 | none=>exact h
 | some t=>exact h.off hs (hd t rfl) (aeU)
theorem pA.under{o:Oper}(hs:uk o=true){d:Option Tmp}(hd:∀ t,d=some t->t∉o.looksAt ops){v:Value}{fr:Fr}{F:Fam}(h:pA P ro ops o fr F):pA P ro ops o (qu d v fr) F:=by
 cases d with
 | none=>exact h
 | some t=>exact h.off hs (hd t rfl) (fun i hi=>(aeU i hi).symm)
theorem pA.trans{o:Oper}{fr:Fr}{F F':Fam}(h:pA P ro ops o fr F)(h':pA P ro ops o fr F'){I:AH}{A:Value->AH->Prop}(k:NQ ro F I A):NQ ro F' I A:=by
 have fam:∀ G G',adK P ro o fr G->adK P ro o fr G'->NQ ro (some G) I A->NQ ro (some G') I A:=by
  intro G G' g g' k n b hb hs
  have h1:=(g _ (ab4 fr) (fun x I'=> ∃v,x= .value v/\A v I') I).2 fun n b hb hs=>⟨_,rfl,k n b hb hs⟩
  obtain⟨v,e,ha⟩:=(g' _ (ab4 fr) _ I).1 h1 n b hb hs
  cases e
  exact ha
 unfold pA at h h'
 split at h
 .rename_i hg
  rw[hg]at h'
  obtain⟨G,rfl,h⟩:=h
  obtain⟨G',rfl,h'⟩:=h'
  exact fam G G' h h' k
 .rename_i j want hg
  rw[hg]at h'
  obtain⟨t,v,h1,h2,h3⟩:=h
  obtain⟨t',v',h1',h2',h3'⟩:=h'
  rw[h1]at h1';cases h1'
  rw[h2]at h2';cases h2'
  rcases h3 with⟨a,G,rfl,b⟩ | ⟨a,rfl⟩<;>rcases h3' with⟨a',G',rfl,b'⟩ | ⟨a',rfl⟩
  .exact fam G G' b b' k
  .exact mC a a'
  .exact mC a' a
  .exact k
theorem ve.past{o:Oper}(hs:uk o=true){d:Option Tmp}(hd:∀ t,d=some t->t∉o.looksAt ops){w:Value}{fr:Fr}{K K':Fr->AH->Prop}{I:AH}
  (hk:∀ v I,K (qu o.dst v (qu d w fr)) I->K' (qu o.dst v fr) I) (h:ve P B ro N ops o K (qu d w fr) I):ve P B ro N ops o K' fr I:=by
 cases d with
 | none=>exact h.eq (zz.refl _) hk
 | some t=>exact h.off hs (hd t rfl) (aeU) hk
theorem ve.under{o:Oper}(hs:uk o=true){d:Option Tmp}(hd:∀ t,d=some t->t∉o.looksAt ops){w:Value}{fr:Fr}{K K':Fr->AH->Prop}{I:AH}
  (hk:∀ v I,K (qu o.dst v fr) I->K' (qu o.dst v (qu d w fr)) I) (h:ve P B ro N ops o K fr I):ve P B ro N ops o K' (qu d w fr) I:=by
 cases d with
 | none=>exact h.eq (zz.refl _) hk
 | some t=>exact h.off hs (hd t rfl) (fun i hi=>(aeU i hi).symm) hk
theorem jj.fresh{I:AH}(h:jj B ro I):∃ b,ro b=none/\I b=none:=by
 obtain⟨φ,w,h⟩:=h;exact⟨_,h.to_new.2.2,h.to_new.1⟩
def alx(cl:Nat->Nat)(i:Nat):Prop:=cl i=0\/cl i=3
def adL(cl:Nat->Nat)(i:Nat)(I:AH):AH:=if cl i=0 then adJ else I
theorem aav{cl:Nat->Nat}{i:Nat}{o:Oper}{K:Fr->AH->Prop}{fr:Fr}{I:AH}(ho:ops[i]?=some o)(hc:alx cl i):
  D1 P B ro N ops cl i K fr I↔we N o.dst=true/\∃ u,vm P ro (adL cl i I) ops o fr u/\K (qu o.dst u fr) I:=by
 unfold D1 adL;rw[ho];dsimp only
 rcases hc with hc | hc<;>rw[hc]<;>simp
theorem ut{cl:Nat->Nat}{i:Nat}{o:Oper}{K:Fr->AH->Prop}{fr:Fr}{I:AH}(ho:ops[i]?=some o)(hc:cl i=1):
  D1 P B ro N ops cl i K fr I↔we N o.dst=true/\∃ F,pA P ro ops o fr F/\NQ ro F I fun v I'=>K (qu o.dst v fr) I':=by
 unfold D1;rw[ho];dsimp only;rw[hc];exact Iff.rfl
theorem ae2{cl:Nat->Nat}{i:Nat}{o:Oper}{K:Fr->AH->Prop}{fr:Fr}{I:AH}(ho:ops[i]?=some o)(h0:cl i≠0)(h1:cl i≠1)(h3:cl i≠3):
  D1 P B ro N ops cl i K fr I↔ve P B ro N ops o K fr I:=by
 unfold D1;rw[ho];dsimp only
 split
 .rename_i e;exact mC e h0
 .rename_i e;exact mC e h3
 .rename_i e;exact mC e h1
 .exact Iff.rfl
theorem anF{cl:Nat->Nat}{i:Nat}{I I':AH}(h:HLe I I'):HLe (adL cl i I) (adL cl i I'):=by
 unfold adL;split
 .exact HLe.refl _
 .exact h
theorem HLe.upd'{I:AH}{b:Nat}(hb:I b=none)(o:Obj):HLe I (upd I b o):=by
 intro i x hx
 unfold upd
 rw[mc (by intro e;subst e;rw[hb]at hx;cases hx)];exact hx
theorem NQ.mono{F:Fam}{I:AH}{A A':Value->AH->Prop}(k:NQ ro F I A)(h:∀ v I',HLe I I'->A v I'->A' v I'):NQ ro F I A':=by
 cases F with
 | none=>exact h _ _ (HLe.refl _) k
 | some G=>exact fun n b hb hs=>h _ _ (HLe.upd' hs _) (k n b hb hs)
theorem NQ.nonempty{F:Fam}{I:AH}{A:Value->AH->Prop}(hl:jj B ro I)(k:NQ ro F I A):∃ v I',A v I':=by
 cases F with
 | none=>exact⟨_,_,k⟩
 | some G=>
  obtain⟨b,hb,hs⟩:=hl.fresh
  exact⟨_,_,k 0 b hb hs⟩
theorem NQ.comm{F F':Fam}{I:AH}{A:Value->Value->AH->Prop}(k:NQ ro F I fun v I1=>NQ ro F' I1 fun u I2=>A v u I2):NQ ro F' I fun u I1=>NQ ro F I1 fun v I2=>A v u I2:=by
 cases F with
 | none=>cases F' with
  | none=>exact k
  | some G'=>exact fun n b hb hs=>k n b hb hs
 | some G=>cases F' with
  | none=>exact fun n b hb hs=>k n b hb hs
  | some G'=>
   intro n b hb hs m c hc hsc
   obtain⟨hcb,hsc'⟩:=ap1 hsc
   have:=k m c hc hsc' n b hb (aoE (fun q=>hcb q.symm) hs)
   rw[ap0 (fun q=>hcb q.symm)]
   exact this
theorem atp{cl:Nat->Nat}{x i:Nat}(hsw:abj ops cl x i=true){K:Fr->AH->Prop}(hK:abi K){fr:Fr}{I:AH}(hl:jj B ro I)
  (h:D1 P B ro N ops cl x (D1 P B ro N ops cl i K) fr I):D1 P B ro N ops cl i (D1 P B ro N ops cl x K) fr I:=by
 unfold abj at hsw
 split at hsw
 case h_2=>cases hsw
 rename_i ox oi hx hi
 simp only[mv,Bool.or_eq_true,beq_iff_eq]at hsw
 obtain⟨⟨⟨ha,hsx⟩,hsi⟩,hcl⟩:=hsw
 obtain⟨hxi,hne,hix⟩:=Oper.apart_spec ha
 have flip:∀ v u fr I,K (qu oi.dst u (qu ox.dst v fr)) I->K (qu ox.dst v (qu oi.dst u fr)) I:=fun v u fr I hk=>hK _ _ _ (ap2 ha v u fr) hk
 by_cases vx:alx cl x
 .-- x gives a value and turns nothing
  obtain⟨h0,u,h1,h2⟩:=(aav hx vx).1 h
  by_cases vi:alx cl i
  .obtain⟨k0,u',k1,k2⟩:=(aav hi vi).1 h2
   exact(aav hi vi).2 ⟨k0,u',k1.past hsi hxi,(aav hx vx).2 ⟨h0,u,h1.under hsx hix,flip _ _ _ _ k2⟩⟩
  .by_cases c1:cl i=1
   .obtain⟨k0,F,k1,k2⟩:=(ut hi c1).1 h2
    exact(ut hi c1).2 ⟨k0,F,k1.past hsi hxi,k2.mono fun v I' hle hk=>(aav hx vx).2 ⟨h0,u,(h1.under hsx hix).mono (anF hle),flip _ _ _ _ hk⟩⟩
   .have e0:cl i≠0:=fun e=>vi (.inl e)
    have e3:cl i≠3:=fun e=>vi (.inr e)
    have cx:cl x=0:=by
     rcases hcl with((h | h) | h) | h
     .exact h
     .exact mC h e0
     .exact mC h c1
     .exact mC h.2 e3
    refine(ae2 hi e0 c1 e3).2 ?_
    refine ve.past hsi hxi (fun v I' hk=>?_) ((ae2 hi e0 c1 e3).1 h2)
    refine(aav hx vx).2 ⟨h0,u,?_,flip _ _ _ _ hk⟩
    have:adL cl x I'=adL cl x I:=by simp[adL,cx]
    rw[this];exact h1.under hsx hix
 .have x0:cl x≠0:=fun e=>vx (.inl e)
  have x3:cl x≠3:=fun e=>vx (.inr e)
  by_cases c0:cl i=0
  .-- i only computes
   have vi:alx cl i:= .inl c0
   have src:∀ I,adL cl i I=adJ:=fun I=>by simp[adL,c0]
   by_cases cx:cl x=1
   .obtain⟨h0,F,h1,h2⟩:=(ut hx cx).1 h
    obtain⟨v0,s0,e0⟩:=h2.nonempty hl
    obtain⟨k0,u',k1,_⟩:=(aav hi vi).1 e0
    rw[src]at k1
    have k1':=k1.past hsi hxi
    refine(aav hi vi).2 ⟨k0,u',by rw[src];exact k1',(ut hx cx).2 ⟨h0,F,h1.under hsx hix,h2.mono fun v I' _ e1=>?_⟩⟩
    obtain⟨_,u2,m1,m2⟩:=(aav hi vi).1 e1
    rw[src]at m1
    obtain rfl:=(m1.past hsi hxi).uniq k1'
    exact flip _ _ _ _ m2
   .have hg:=(ae2 hx x0 cx x3).1 h
    obtain⟨v,I',e0⟩:=hg.nonempty hl
    obtain⟨k0,u',k1,_⟩:=(aav hi vi).1 e0
    rw[src]at k1
    have k1':=k1.past hsi hxi
    refine(aav hi vi).2 ⟨k0,u',by rw[src];exact k1',(ae2 hx x0 cx x3).2 ?_⟩
    refine hg.under hsx hix fun v I' e1=>?_
    obtain⟨_,u2,m1,m2⟩:=(aav hi vi).1 e1
    rw[src]at m1
    obtain rfl:=(m1.past hsi hxi).uniq k1'
    exact flip _ _ _ _ m2
  .have c1:cl i=1:=by
    rcases hcl with((h | h) | h) | h
    .exact mC h x0
    .exact mC h c0
    .exact h
    .exact mC h.1 x3
   by_cases cx:cl x=1
   .obtain⟨h0,F,h1,h2⟩:=(ut hx cx).1 h
    obtain⟨v0,s0,e0⟩:=h2.nonempty hl
    obtain⟨k0,F',k1,_⟩:=(ut hi c1).1 e0
    have k1':=k1.past hsi hxi
    have h3:NQ ro F I fun v I1=>NQ ro F' I1 fun u I2=>K (qu ox.dst v (qu oi.dst u fr)) I2:=h2.mono fun v I1 _ e1=>by
     obtain⟨_,F2,m1,m2⟩:=(ut hi c1).1 e1
     exact((m1.past hsi hxi).trans k1' m2).map fun u I2 hk=>flip _ _ _ _ hk
    exact(ut hi c1).2 ⟨k0,F',k1',(NQ.comm h3).map fun u I1 hk=>(ut hx cx).2 ⟨h0,F,h1.under hsx hix,hk⟩⟩
   .have hg:=(ae2 hx x0 cx x3).1 h
    obtain⟨v,I',e0⟩:=hg.nonempty hl
    obtain⟨k0,F',k1,_⟩:=(ut hi c1).1 e0
    have k1':=k1.past hsi hxi
    refine(ut hi c1).2 ⟨k0,F',k1',?_⟩
    cases F' with
    | none=>
     refine(ae2 hx x0 cx x3).2 (hg.under hsx hix fun v I2 e1=>?_)
     obtain⟨_,F2,m1,m2⟩:=(ut hi c1).1 e1
     exact flip _ _ _ _ ((m1.past hsi hxi).trans k1' m2)
    | some G=>
     intro n b hb hs
     refine(ae2 hx x0 cx x3).2 ?_
     rw[ajc hs]
     refine(hg.frame (qI.single hs (G n).1)).under hsx hix fun v I2 e1=>?_
     obtain⟨τ,rfl,hdj,e1⟩:=e1
     obtain⟨_,F2,m1,m2⟩:=(ut hi c1).1 e1
     have m3:=(m1.past hsi hxi).trans k1' m2
     have hτ:τ b=none:=by
      cases e:τ b with
      | none=>rfl
      | some y=>have:=hdj b y e;simp[ahB]at this
     rw[<-ajc hτ]
     exact flip _ _ _ _ (m3 n b hb hτ)
theorem adp{cl:Nat->Nat}{K:Fr->AH->Prop}(hK:abi K){i:Nat}(post:List Nat):∀ (pre:List Nat) {fr:Fr} {I:AH},(∀x∈pre,abj ops cl x i=true)->jj B ro I->
  qR P B ro N ops cl K (pre++i::post) fr I->qR P B ro N ops cl K (i::(pre++post)) fr I:=by
 intro pre
 induction pre with
 | nil=>intro fr I _ _ h;exact h
 | cons x pre ih=>
  intro fr I hs hl h
  have h2:D1 P B ro N ops cl x (qR P B ro N ops cl K (i::(pre++post))) fr I:=D1.mono hl (fun fr I hl h=>ih (fun y hy=>hs y (List.mem_cons_of_mem _ hy)) hl h) h
  exact atp (hs x (List.mem_cons_self ..)) (qR.closed hK _) hl h2
def ajd(o:Oper):List Nat:=(o.after.toList.filter fun e=>Region.binds .any e).map (·.on)
def wj(ops:Array Oper)(i:Nat):List Nat:=match ops[i]? with | some o=>ajd o | none=>[]
def agA(ops:Array Oper)(anc:List (Nat×Nat)):Bool:=anc.all fun p=>(wj ops p.2).any fun e=>e == p.1 || anc.contains (p.1,e)
def chk(ops:Array Oper)(cl:Nat->Nat)(anc:List (Nat×Nat)):List Nat->Bool
 | []=>true
 | x::rest=>(wj ops x).all (fun e=>e<x && !(x::rest).contains e) && !rest.contains x && decide (x<ops.size) &&
   rest.all (fun i=>abj ops cl x i || (wj ops i).contains x || anc.contains (x,i)) && chk ops cl anc rest
def anG(n:Nat)(l:List Nat):Bool:=(List.range n).all fun i=>l.contains i
theorem ad0{listed:Array Bool}{i:Nat}:i∈Region.ready .any ops listed↔i<ops.size/\listed.getD i true=false/\∃ o,ops[i]?=some o/\∀ e∈ajd o,listed.getD e false=true:=by
 unfold Region.ready ajd
 simp only[List.mem_filter,List.mem_range,mv,Bool.not_eq_true',my,forall_exists_index,and_imp]
 constructor
 .rintro⟨h1,h2,h3⟩
  cases ho:ops[i]? with
  | none=>rw[ho]at h3;simp at h3
  | some o=>
   rw[ho]at h3
   simp only[Option.map_some,Option.getD_some,Array.all_eq_true',Bool.or_eq_true,Bool.not_eq_true']at h3
   refine⟨h1,h2,o,rfl,?_⟩
   rintro x e he hb rfl
   rcases h3 e (by simpa using he)with h | h
   .rw[hb]at h;cases h
   .exact h
 .rintro⟨h1,h2,o,ho,h3⟩
  refine⟨h1,h2,?_⟩
  rw[ho]
  simp only[Option.map_some,Option.getD_some,Array.all_eq_true',Bool.or_eq_true,Bool.not_eq_true']
  intro e he
  cases hb:Region.binds .any e with
  | false=>exact .inl rfl
  | true=>exact .inr (h3 e.on e (j1 he) hb rfl)
theorem aje{anc:List (Nat×Nat)}(ha:agA ops anc=true)(hlt:∀ i,∀e∈wj ops i,e<i){L:Nat->Prop}(hc:∀ i,L i->∀ e∈wj ops i,L e)(x:Nat):
  ∀i,(∀e∈wj ops i,L e)->(x,i)∈anc->L x:=by
 intro i
 induction i using Nat.strongRecOn with
 | _ i ih=>
  intro hi hm
  have:=mz.1 ha _ hm
  obtain⟨e,he,h⟩:=List.any_eq_true.1 this
  simp only[Bool.or_eq_true,beq_iff_eq,List.contains_iff_mem]at h
  have hle:=hi e he
  rcases h with h | h
  .rw[<-h];exact hle
  .exact ih e (hlt i e he) (hc e hle) h
theorem ad1{cl:Nat->Nat}{anc:List (Nat×Nat)}{l:List Nat}(h:chk ops cl anc l=true):∀ i∈l,i<ops.size/\∀ e∈wj ops i,e<i:=by
 induction l with
 | nil=>intro i hi;cases hi
 | cons x rest ih=>
  simp only[chk,mv,mV]at h
  obtain⟨⟨⟨⟨h1,h2⟩,h3⟩,h4⟩,h5⟩:=h
  intro i hi
  rcases mD.1 hi with rfl | hi
  .refine⟨h3,fun e he=>?_⟩
   have:=mz.1 h1 e he
   simp only[mv,mV]at this
   exact this.1
  .exact ih h5 i hi
theorem ab5{cl:Nat->Nat}{anc:List (Nat×Nat)}(ha:agA ops anc=true)(hlt:∀ i,∀e∈wj ops i,e<i){Q:Exit->Fr->AH->Prop}(hK:abi (Q .normal)){φ:AH}:
  ∀(n:Nat) (l:List Nat) (listed:Array Bool) {fr:Fr} {I:AH} {a:Act} {w:World},l.length=n->listed.size=ops.size->chk ops cl anc l=true->
   (∀i,i<ops.size->(listed.getD i true=false↔i∈l))->(∀i,i<ops.size->i∉l->∀ e∈wj ops i,e∉l)->
   qR P B ro N ops cl (Q .normal) l fr I->Own B ro φ I w->vZ N fr a->wpAny P .any ops (agw B ro N φ Q) n listed a w:=by
 intro n
 induction n with
 | zero=>
  intro l listed fr I a w hn hsz hc hli hcl h ho hf
  obtain rfl:l=[]:=List.length_eq_zero_iff.1 hn
  refine⟨?_,fr,I,h,ho,hf⟩
  cases hr:Region.ready .any ops listed with
  | nil=>rfl
  | cons i r=>
   have hm:i∈Region.ready .any ops listed:=by rw[hr];exact List.mem_cons_self ..
   obtain⟨h1,h2,_⟩:=ad0.1 hm
   exact mC ((hli i h1).1 h2) z7
 | succ n ih=>
  intro l listed fr I a w hn hsz hc hli hcl h ho hf
  have hlist:∀ e,e<ops.size->e∉l->listed.getD e false=true:=by
   intro e he hne
   have h1:¬ listed.getD e true=false:=fun q=>hne ((hli e he).1 q)
   have hlt':e<listed.size:=by omega
   simp only[mY,Array.getElem?_eq_getElem hlt',Option.getD_some]at h1⊢
   simpa using h1
  refine⟨?_,?_⟩
  .intro hr
   exfalso
   cases l with
   | nil=>simp at hn
   | cons x rest=>
    have hx:=ad1 hc x (List.mem_cons_self ..)
    have:x∈Region.ready .any ops listed:=by
     refine ad0.2 ⟨hx.1,(hli x hx.1).2 (List.mem_cons_self ..),ops[x],by simp[hx.1],?_⟩
     intro e he
     have he':e∈wj ops x:=by simp[wj,hx.1];exact he
     simp only[chk,mv]at hc
     have h1:=mz.1 hc.1.1.1.1 e he'
     simp only[mv,mV,Bool.not_eq_true',List.contains_iff_mem,<-nE]at h1
     exact hlist e (by have:=h1.1;omega) h1.2
    rw[hr]at this;cases this
  .intro i hi
   obtain⟨h1,h2,o,hoi,h3⟩:=ad0.1 hi
   have hil:=(hli i h1).1 h2
   obtain⟨pre,post,rfl⟩:=List.append_of_mem hil
   have hedge:∀ e∈wj ops i,e∉pre++i::post:=by
    intro e he hm
    have he2:e∈ajd o:=by simpa [wj,hoi]using he
    have h4:=h3 e he2
    have hlt':=(ad1 hc e hm).1
    have:=(hli e hlt').2 hm
    have hs:e<listed.size:=by omega
    simp only[mY,Array.getElem?_eq_getElem hs,Option.getD_some]at this h4
    rw[this]at h4;cases h4
   have hpass:∀ x∈pre,abj ops cl x i=true:=by
    have gen:∀ (p:List Nat),chk ops cl anc (p++i::post)=true->∀ x∈p,abj ops cl x i=true\/x∈wj ops i\/(x,i)∈anc:=by
     intro p
     induction p with
     | nil=>intro _ x hx;cases hx
     | cons y p ihp=>
      intro hc x hx
      simp only[nq,chk,mv]at hc
      rcases mD.1 hx with rfl | hx
      .have:=mz.1 hc.1.2 i z7
       simp only[Bool.or_eq_true,List.contains_iff_mem]at this
       rcases this with(h | h) | h
       .exact .inl h
       .exact .inr (.inl h)
       .exact .inr (.inr h)
      .exact ihp hc.2 x hx
    intro x hx
    have hxm:x∈pre++i::post:=LD _ hx
    rcases gen pre hc x hx with h | h | h
    .exact h
    .exact mC hxm (hedge x h)
    .have hcl':∀ j,(j<ops.size->j∉pre++i::post)->∀ e∈wj ops j,(e<ops.size->e∉pre++i::post):=by
      intro j hj e he hes
      by_cases hjs:j<ops.size
      .exact hcl j hjs (hj hjs) e he
      .simp[wj,Array.getElem?_eq_none (Nat.le_of_not_lt hjs)]at he
     exact mC hxm (aje (L:=fun j=>j<ops.size->j∉pre++i::post) ha hlt hcl' x i (fun e he _=>hedge e he) h (ad1 hc x hxm).1)
   have hd:=adp (P:=P) (B:=B) (N:=N) hK post pre hpass ⟨φ,w,ho⟩ h
   have hnd:i∉pre++post:=by
    have:(pre++i::post).Nodup:=by
     have gen:∀ l:List Nat,chk ops cl anc l=true->l.Nodup:=by
      intro l
      induction l with
      | nil=>intro _;exact List.nodup_nil
      | cons y r ihr=>
       intro hc
       simp only[chk,mv,Bool.not_eq_true']at hc
       refine Lc.2 ⟨?_,ihr hc.2⟩
       have:=hc.1.1.1.2
       intro hm;rw[List.contains_iff_mem.2 hm]at this;cases this
     exact gen _ hc
    have:=(List.perm_middle (a:=i) (l₁:=pre) (l₂:=post)).nodup_iff.1 this
    exact(Lc.1 this).1
   have hc':chk ops cl anc (pre++post)=true:=by
    have gen:∀ (p:List Nat),chk ops cl anc (p++i::post)=true->chk ops cl anc (p++post)=true:=by
     intro p
     induction p with
     | nil=>intro hc;simp only[nZ,chk,mv]at hc;exact hc.2
     | cons y p ihp=>
      intro hc
      simp only[nq,chk,mv]at hc⊢
      obtain⟨⟨⟨⟨c1,c2⟩,c3⟩,c4⟩,c5⟩:=hc
      refine⟨⟨⟨⟨?_,?_⟩,c3⟩,?_⟩,ihp c5⟩
      .refine mz.2 fun e he=>?_
       have:=mz.1 c1 e he
       simp only[mv,Bool.not_eq_true',<-nE,List.contains_iff_mem]at this⊢
       refine⟨this.1,fun hm=>this.2 ?_⟩
       simp only[mD,mt]at hm⊢
       rcases hm with h | h | h
       .exact .inl h
       .exact .inr (.inl h)
       .exact .inr (.inr (.inr h))
      .simp only[Bool.not_eq_true',<-nE,List.contains_iff_mem]at c2⊢
       intro hm;apply c2
       simp only[mt,mD]at hm⊢
       exact hm.imp id .inr
      .refine mz.2 fun j hj=>mz.1 c4 j ?_
       simp only[mt,mD]at hj⊢
       exact hj.imp id .inr
    exact gen pre hc
   have hmem:∀ j,j∈pre++post↔j∈pre++i::post/\j≠i:=by
    intro j
    simp only[mt,mD]
    constructor
    .intro(hh:j∈pre\/j∈post)
     refine⟨hh.imp id .inr,fun e=>?_⟩
     subst e;exact hnd (mt.2 hh)
    .rintro⟨h | h | h,hne⟩
     .exact .inl h
     .exact mC h hne
     .exact .inr h
   have hlen:(pre++post).length=n:=by simp at hn ⊢;omega
   have hset:∀ j,j<ops.size->((listed.setIfInBounds i true).getD j true=false↔j∈pre++post):=by
    intro j hj
    rw[hmem]
    by_cases e:j=i
    .subst e
     have:j<listed.size:=by omega
     simp[mY,this]
    .rw[Region_getD_set e]
     constructor
     .intro h;exact⟨(hli j hj).1 h,e⟩
     .intro h;exact(hli j hj).2 h.1
   have hcl2:∀ j,j<ops.size->j∉pre++post->∀ e∈wj ops j,e∉pre++post:=by
    intro j hj hjn e he hm
    have hm':=((hmem e).1 hm).1
    by_cases e':j=i
    .subst e';exact hedge e he hm'
    .exact hcl j hj (fun hh=>hjn ((hmem j).2 ⟨hh,e'⟩)) e he hm'
   have kont:∀ fr I a w,qR P B ro N ops cl (Q .normal) (pre++post) fr I->Own B ro φ I w->vZ N fr a->wpAny P .any ops (agw B ro N φ Q) n (listed.setIfInBounds i true) a w:=
    fun fr I a w hk ho hf=>ih (pre++post) _ hlen (j1 hsz) hc' hset hcl2 hk ho hf
   exact D1.sound hoi hd ho hf kont
where
 Region_getD_set {listed:Array Bool} {i j:Nat} (h:j≠i):(listed.setIfInBounds i true).getD j true=listed.getD j true:=by
  simp only[mY]
  rw[Array.getElem?_setIfInBounds,mc (fun q=>h q.symm)]
 D1.sound {cl:Nat->Nat} {i:Nat} {o:Oper} (hoi:ops[i]?=some o) {K:Fr->AH->Prop} {fr:Fr} {I φ:AH} {a:Act} {w:World} {Q':Exit->Act->World->Prop} {next:Act->World->Prop}
   (h:D1 P B ro N ops cl i K fr I) (ho:Own B ro φ I w) (hf:vZ N fr a) (hk:∀ fr I a w,K fr I->Own B ro φ I w->vZ N fr a->next a w):wpOp P ops Q' i next a w:=by
  have step:ve P B ro N ops o K fr I->wpOp P ops Q' i next a w:=by
   rintro⟨hd,h⟩
   unfold wpOp
   rw[hoi]
   dsimp only
   cases hg:o.guard with
   | none=>
    rw[hg]at h
    rw[me (by simp[Region.wanted,hg])]
    exact .inl (qZ.sound h hd ho hf hk)
   | some g=>
    obtain⟨j,want⟩:=g
    rw[hg]at h
    obtain⟨t,v,ht,hl,h⟩:=h
    have hy:=yielded_eq hf ht hl
    rcases h with⟨rfl,h⟩ | ⟨hv,h⟩
    .rw[me (by simp[Region.wanted,hg,hy])]
     exact .inl (qZ.sound h hd ho hf hk)
    .rw[mc (by
      simp only[Region.wanted,hg,hy]
      cases v<;>simp
      rename_i b;intro e;subst e;exact hv rfl)]
     exact hk _ _ _ _ h ho (hf.put hd undef)
  have val:∀ τ,HLe τ I->we N o.dst=true->∀ u,vm P ro τ ops o fr u->K (qu o.dst u fr) I->wpOp P ops Q' i next a w:=by
   intro τ hle h0 u h1 h2
   refine step ⟨h0,?_⟩
   have pe:jE P ro τ o fr u->qZ P B ro o K fr I:=fun he O hρ=>ae1 _ (ajb _ hle (he O hρ)) h2
   unfold vm at h1
   split at h1
   .rename_i hg;try rw[hg]
    exact pe h1
   .rename_i hg
    try rw[hg]
    obtain⟨t,v,g1,g2,g3⟩:=h1
    refine⟨t,v,g1,g2,g3.imp (fun⟨a,b⟩=>⟨a,pe b⟩) ?_⟩
    rintro⟨a,rfl⟩;exact⟨a,h2⟩
  unfold D1 at h
  rw[hoi]at h
  dsimp only at h
  split at h
  .obtain⟨h0,u,h1,h2⟩:=h
   exact val adJ (fun _ _ e=>by cases e) h0 u h1 h2
  .obtain⟨h0,u,h1,h2⟩:=h
   exact val I (HLe.refl _) h0 u h1 h2
  .obtain⟨h0,F,h1,h2⟩:=h
   refine step ⟨h0,?_⟩
   unfold pA at h1
   split at h1
   .rename_i hg;try rw[hg]
    obtain⟨G,rfl,h1⟩:=h1
    exact fun O hρ=>(h1 O hρ _ I).2 h2
   .rename_i hg
    try rw[hg]
    obtain⟨t,v,g1,g2,g3⟩:=h1
    refine⟨t,v,g1,g2,?_⟩
    rcases g3 with⟨a,G,rfl,b⟩ | ⟨a,rfl⟩
    .exact .inl ⟨a,fun O hρ=>(b O hρ _ I).2 h2⟩
    .exact .inr ⟨a,h2⟩
  .exact step h
theorem AW.drawn{id:Nat}{Q:Exit->Fr->AH->Prop}{fr:Fr}{ψ I:AH}(cl:Nat->Nat)(anc:List (Nat×Nat))(l:List Nat)(hm:P.follows .mixedOrders=true)(hd:qI ψ I)
  (hc:(chk ops cl anc l && agA ops anc && anG ops.size l && (l.length == ops.size))=true)
  (h:qR P B (join ro ψ) N ops cl (fun fr I=> ∃fr',zz fr' fr/\(qI ψ I->Q .normal fr' (join ψ I))) l fr I):AW P B ro N (.region id ops true) Q fr (join ψ I):=by
 simp only[mv,beq_iff_eq]at hc
 obtain⟨⟨⟨c1,c2⟩,c3⟩,c4⟩:=hc
 intro φ w a ho hf
 refine wp_region_any hm ?_
 have hp:∀ b o,ψ b=some o->φ b=none/\ro b=none:=fun b o hs=>(ho.own b o (wX hs)).2
 have hall:∀ i,i<ops.size->i∈l:=fun i hi=>List.contains_iff_mem.1 (mz.1 c3 i (List.mem_range.2 hi))
 have hlt:∀ i,∀e∈wj ops i,e<i:=by
  intro i e he
  by_cases hi:i<ops.size
  .exact(ad1 c1 i (hall i hi)).2 e he
  .simp[wj,Array.getElem?_eq_none (Nat.le_of_not_lt hi)]at he
 have hw:Own B (join ro ψ) φ I {w with drawn:=w.drawn+1}:=(ho.lend hd).drawn _ (Nat.le_succ _)
 have:=ab5 (P:=P) (B:=B) (ro:=join ro ψ) (N:=N) (ops:=ops) (cl:=cl) (anc:=anc) c2 hlt
  (Q:=fun e fr I=>e= .normal/\∃ fr',zz fr' fr/\(qI ψ I->Q .normal fr' (join ψ I)))
  (fun fr fr' I he ⟨h0,fr2,h1,h2⟩=>⟨h0,fr2,fun i=>(h1 i).trans (he i),h2⟩) (φ:=φ) ops.size l (Array.replicate ops.size false)
  (w:={w with drawn:=w.drawn+1}) (a:=a) (fr:=fr) (I:=I) c4 z7 c1
  (fun i hi=>⟨fun _=>hall i hi,fun _=>by simp[hi]⟩) (fun i hi hn=>mC (hall i hi) hn) ?_ hw hf
 .refine wpAny_post ?_ _ _ this
  rintro e a' w' ⟨fr',I',⟨rfl,fr2,he,hq⟩,ho',hf'⟩
  obtain⟨g1,g2⟩:=ho'.unlend hp
  exact⟨fr2,_,hq g2,g1,⟨hf'.size,hf'.defers,fun i v hi=>hf'.has i v (by rw[<-he i];exact hi)⟩⟩
 .refine DOps_post ?_ l h
  intro fr I hk;exact⟨rfl,hk⟩
where
 LetsOut_post {Q Q':Exit->Act->World->Prop} (h:∀ e a w,Q e a w->Q' e a w):LetsOut Q->LetsOut Q':=fun⟨a,w,q⟩=>⟨a,w,h _ _ _ q⟩
 wpOp_post {Q Q':Exit->Act->World->Prop} (h:∀ e a w,Q e a w->Q' e a w) {i:Nat} {K K':Act->World->Prop} (hk:∀ a w,K a w->K' a w) {a:Act} {w:World} (hx:wpOp P ops Q i K a w):wpOp P ops Q' i K' a w:=by
  unfold wpOp at*
  split
  .exact hk _ _ (by simpa [*]using hx)
  .rename_i o ho'
   simp only[ho']at hx
   split
   .rename_i hw';simp only[hw',if_true]at hx
    refine hx.imp ?_ (fun⟨p,q⟩=>⟨p,LetsOut_post h q⟩)
    intro hx
    unfold Oper.wp at*
    generalize (execOp a.eval o).run P w=r at*
    cases r with
    | ok n w'=>
     cases n<;>simp only[Oper.upon]at hx⊢ <;>
      first
       | exact hk _ _ hx
       | exact Calls.mono hx (fun e w'' he=>by cases e<;>first | exact hk _ _ he | exact h _ _ _ he | exact LetsOut_post h he)
       | exact Rows.mono hx (fun _ _ he=>hk _ _ he)
    | halt x w'=>cases x<;>simp only[Oper.upon]at hx⊢ <;>first | exact h _ _ _ hx | exact hx
   .rename_i hw';simp only[hw']at hx;exact hk _ _ hx
 wpAny_post {Q Q':Exit->Act->World->Prop} (h:∀ e a w,Q e a w->Q' e a w):∀ (n:Nat) (listed:Array Bool) {a:Act} {w:World},wpAny P .any ops Q n listed a w->wpAny P .any ops Q' n listed a w:=by
  intro n
  induction n with
  | zero=>intro listed a w hx;exact⟨hx.1,h _ _ _ hx.2⟩
  | succ n ih=>intro listed a w hx;exact⟨fun e=>h _ _ _ (hx.1 e),fun i hi=>wpOp_post h (fun a w=>ih _) (hx.2 i hi)⟩
 DOps_post {ro:AH} {cl:Nat->Nat} {K K':Fr->AH->Prop} (h:∀ fr I,K fr I->K' fr I):∀ (l:List Nat) {fr:Fr} {I:AH},qR P B ro N ops cl K l fr I->qR P B ro N ops cl K' l fr I:=by
  intro l
  induction l with
  | nil=>intro fr I hx;exact h _ _ hx
  | cons i r ih=>
   intro fr I hx
   unfold qR D1 at hx⊢
   split at hx
   .exact hx
   .split at hx
    .obtain⟨h0,u,h1,h2⟩:=hx;exact⟨h0,u,h1,ih h2⟩
    .obtain⟨h0,u,h1,h2⟩:=hx;exact⟨h0,u,h1,ih h2⟩
    .obtain⟨h0,F,h1,h2⟩:=hx;exact⟨h0,F,h1,h2.map fun v I hk=>ih hk⟩
    .exact hx.mono fun fr I=>ih
end