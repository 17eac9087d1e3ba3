import Derived.Calls
import Derived.Below
import Derived.Scope
import Derived.Orders
set_option linter.all false
set_option maxRecDepth 99999
set_option maxHeartbeats 0
open Go.IntKind(i64)
namespace Go.Proofs.YtomdigihapdhnaaGreatDoor
abbrev ZA:=ByteArray
abbrev ZO:=Option Go.Addr
abbrev ZB:=Go.World
abbrev ZC:=Go.Value
def z7{p:Prop}(h:p:=by omega):p:=h
def y0{p:Prop}(h:p:=by simp):p:=h
def y1{p:Prop}(h:p:=by decide):p:=h
def j2{p:Prop}(h:p:=by simp;omega):p:=h
def j3{p:Prop}(h:p:=by decide+kernel):p:=h
def j4{p q:Prop}(h:p)(g:p->q:=by intro h;simpa using h):q:=g h
abbrev ma:=@if_neg
abbrev mc:=@if_pos
abbrev md:=@List.getElem?_eq_getElem
abbrev me:=@decide_eq_true_iff
abbrev mg:=@List.length_map
abbrev mh:=@List.getElem?_map
abbrev mj:=@congrArg
abbrev ml:=@Nat.zero_add
abbrev mp:=@List.mem_cons
abbrev mq:=@Int.toNat_natCast
abbrev mr:=@List.mem_singleton
abbrev mt:=@absurd
abbrev mu:=@Bool.and_eq_true
abbrev mv:=@List.mem_append
abbrev my:=@List.map_append
abbrev mz:=@List.length_cons
abbrev mA:=@List.length_append
abbrev mB:=@Option.some.inj
abbrev mD:=@List.take_of_length_le
abbrev mF:=@List.map_cons
abbrev mG:=@List.getElem?_eq_none
abbrev mI:=@List.all_eq_true
abbrev mJ:=@List.getElem_mem
abbrev mK:=@List.take_add_one
abbrev mM:=@Nat.lt_or_ge
abbrev mN:=@List.mem_map
abbrev mQ:=@List.getElem?_append_left
abbrev mR:=@Nat.le_refl
abbrev mS:=@decide_eq_true_eq
abbrev mT:=@Array.getD_eq_getD_getElem?
abbrev mU:=@List.getElem?_append_right
abbrev mV:=@Nat.mul_one
abbrev mW:=@List.mem_of_getElem?
abbrev mY:=@List.foldl_cons
abbrev na:=@List.lookup_cons
abbrev nb:=@List.eq_nil_of_length_eq_zero
abbrev ng:=@List.cons_append
abbrev nh:=@Nat.eq_zero_or_pos
abbrev ni:=@List.getElem_of_mem
abbrev nj:=@List.not_mem_nil
abbrev nk:=@List.append_nil
abbrev nl:=@List.append_assoc
abbrev nm:=@Option.map_eq_some_iff
abbrev np:=@Classical.byContradiction
abbrev nt:=@List.mem_of_mem_take
abbrev nv:=@List.nodup_cons
abbrev nA:=@List.length_take
abbrev nE:=@List.flatMap_cons
abbrev nF:=@List.nil_append
abbrev nH:=@List.length_nil
abbrev nI:=@List.length_pos_iff
abbrev nJ:=@List.ext_getElem?
abbrev nN:=@Nat.mod_eq_of_lt
abbrev nO:=@Nat.mul_le_mul_left
abbrev nP:=@List.getElem?_set
abbrev nQ:=@List.flatten_cons
abbrev nV:=@Bool.not_eq_true
abbrev Lb:=@Nat.add_mul
abbrev Ld:=@Classical.not_not
abbrev Le:=@List.mem_filter
abbrev Lf:=@decide_eq_false
abbrev Lh:=@List.map_map
abbrev Lj:=@List.getElem?_take
abbrev Lk:=@decide_eq_true
abbrev Ll:=@List.mem_append_left
abbrev Lm:=@List.take_zero
abbrev Lz:=@of_decide_eq_true
abbrev LA:=@Nat.le_trans
abbrev LB:=@Nat.mul_comm
abbrev LC:=@List.getElem?_replicate
abbrev LD:=@List.filter_cons_of_pos
abbrev LE:=@List.filter_cons_of_neg
abbrev LI:=@List.drop_of_length_le
abbrev LJ:=@List.pairwise_map
abbrev LK:=@List.foldl_nil
abbrev LL:=@List.flatten_nil
abbrev LN:=@List.all_cons
abbrev LR:=@List.perm_ext_iff_of_nodup
abbrev LS:=@Int.toNat_of_nonneg
abbrev LT:=@List.filterMap_cons
abbrev LU:=@Option.isSome_iff_exists
abbrev LV:=@List.pairwise_cons
abbrev LX:=@Nat.mod_lt
abbrev LY:=@List.getElem?_cons_succ
abbrev Pd:=@List.Pairwise.sublist
abbrev Pe:=@List.map_nil
abbrev Pf:=@List.filter_sublist
abbrev Pj:=@List.Pairwise.imp
abbrev Pk:=@Nat.zero_mul
abbrev Pm:=@List.ext_getElem
abbrev Pn:=@decide_eq_decide
namespace SL
open Go
variable{α:Type}{ops:Array Oper}{args:Array Value}{c x y:Code}{f:FuncId}{b i id:Nat}{o:Obj}{v:ZC}{w:ZB}
abbrev AH:=Nat->Option Obj
structure Own(B:ZB)(ro φ I:AH)(w:ZB):Prop where
 os:w.os=B.os
 tape:w.tape=B.tape
 output:w.output=B.output
 own:∀ b o,I b=some o->w.heap[b]?=some o/\φ b=none/\ro b=none
 fr:∀ b o,φ b=some o->w.heap[b]?=some o
 ro:∀ b o,ro b=some o->w.heap[b]?=some o
def upd(I:AH)(b:Nat)(o:Obj):AH:=fun i=>if i=b then some o else I i
def rd(ro I:AH)(b:Nat):Option Obj:=match ro b with | some o=>some o | none=>I b
def zF(a:Addr):Option Obj->Option Value
 | some (.cells c _ _)=>if a.spot.isSome then none else c[a.off]?
 | _=>none
def qa(ro I:AH)(a:Addr):Option Value:=zF a (rd ro I a.block)
def apX:Obj->Option (TypeId×Nat)
 | .cells c e _=>some (e,c.size)
 | _=>none
def aox(off:Nat):Obj->Bool
 | .cells _ _ (lo,hi)=>lo<=off && off<hi
 | _=>false
def apY:Obj->Bool
 | .cells .. =>true
 | _=>false
def qg:ZC->Bool
 | .agg _=>false
 | .tuple _=>false
 | _=>true
def ajr(off n:Nat):Obj->Obj
 | .cells c elem (lo,hi)=> .cells c elem (if lo == hi then(off,off+n)else(min lo off,max hi (off+n)))
 | o=>o
def Own.rd{B:ZB}{ro φ I:AH}(h:Own B ro φ I w)(hr:rd ro I b=some o):w.heap[b]?=some o:=by
 unfold SL.rd at hr
 split at hr
 .rename_i x hb;cases hr;exact h.ro b _ hb
 .exact(h.own b o hr).1
def cell?_eq(w:ZB)(a:Addr):w.cell? a=zF a w.heap[a.block]?:=by
 unfold World.cell? zF;rfl
def Own.cell{B:ZB}{ro φ I:AH}(h:Own B ro φ I w){a:Addr}(hr:qa ro I a=some v):w.cell? a=some v:=by
 unfold qa at hr
 rw[cell?_eq]
 cases hb:SL.rd ro I a.block with
 | none=>rw[hb]at hr;simp[zF]at hr
 | some o=>rw[h.rd hb,<-hb];exact hr
def wV(h:w.heap[b]?=some o):b<w.heap.size:=by
 rcases mM b w.heap.size with h' | h'
 .exact h'
 .rw[Array.getElem?_eq_none h']at h;cases h
def Own.lt{B:ZB}{ro φ I:AH}(h:Own B ro φ I w)(hs:I b=some o):b<w.heap.size:=wV (h.own b o hs).1
def Own.drop{B:ZB}{ro φ I I':AH}(h:Own B ro φ I w)(hs:∀ b o,I' b=some o->I b=some o):Own B ro φ I' w:=
 ⟨h.os,h.tape,h.output,fun b o e=>h.own b o (hs b o e),h.fr,h.ro⟩
def Own.to_new{B:ZB}{ro φ I:AH}(h:Own B ro φ I w):I w.heap.size=none/\φ w.heap.size=none/\ro w.heap.size=none:=by
 refine⟨?_,?_,?_⟩
 .cases hs:I w.heap.size with
  | none=>rfl
  | some o=>have:=h.lt hs;omega
 .cases hs:φ w.heap.size with
  | none=>rfl
  | some o=>have:=wV (h.fr w.heap.size o hs);omega
 .cases hs:ro w.heap.size with
  | none=>rfl
  | some o=>have:=wV (h.ro w.heap.size o hs);omega
def Own.newObj{B:ZB}{ro φ I:AH}(h:Own B ro φ I w)(o:Obj):Own B ro φ (upd I w.heap.size o) {w with heap:=w.heap.push o}:=by
 obtain⟨n1,n2,n3⟩:=h.to_new
 have keep:∀ (b:Nat) (o':Obj),w.heap[b]?=some o'->(w.heap.push o)[b]?=some o':=by
  intro b o' hb
  have:=wV hb
  rw[Array.getElem?_push,ma z7];exact hb
 refine⟨h.os,h.tape,h.output,?_,fun b o' hs=>keep b o' (h.fr b o' hs),fun b o' hs=>keep b o' (h.ro b o' hs)⟩
 intro b o' hs
 unfold upd at hs
 split at hs
 .rename_i e;subst e;cases hs
  exact⟨y0,n2,n3⟩
 .obtain⟨h1,h2,h3⟩:=h.own b o' hs
  exact⟨keep b o' h1,h2,h3⟩
def Own.setObj{B:ZB}{ro φ I:AH}(h:Own B ro φ I w)(o':Obj)(hs:I b=some o){H:Array Obj}
  (hb:H[b]?=some o') (hn:∀ i,i≠b->H[i]?=w.heap[i]?):Own B ro φ (upd I b o') {w with heap:=H}:=by
 obtain⟨_,h2,h3⟩:=h.own b o hs
 refine⟨h.os,h.tape,h.output,?_,?_,?_⟩
 .intro i x hx
  unfold upd at hx
  split at hx
  .rename_i e;subst e;cases hx;exact⟨hb,h2,h3⟩
  .rename_i ne;obtain⟨g1,g2,g3⟩:=h.own i x hx;exact⟨by show H[i]?=_;rw[hn i ne];exact g1,g2,g3⟩
 .intro i x hx
  have:i≠b:=by intro e;subst e;rw[h2]at hx;cases hx
  show H[i]?=_;rw[hn i this];exact h.fr i x hx
 .intro i x hx
  have:i≠b:=by intro e;subst e;rw[h3]at hx;cases hx
  show H[i]?=_;rw[hn i this];exact h.ro i x hx
def Own.drawn{B:ZB}{ro φ I:AH}(h:Own B ro φ I w)(n:Nat):Own B ro φ I {w with drawn:=n}:=
 ⟨h.os,h.tape,h.output,h.own,h.fr,h.ro⟩
def awp{α:Type}(P:Program)(ro:AH):Sem α->(α->AH->Prop)->AH->Prop
 | .pure a,Q,I=>Q a I
 | .load _ a k,Q,I=> ∃v,qa ro I a=some v/\awp P ro (k v) Q I
 | .store _ a v k,Q,I=>qg v=true/\a.spot=none/\∃ c e fz,I a.block=some (.cells c e fz)/\a.off<c.size/\¬ (fz.1<=a.off/\a.off<fz.2)/\
   awp P ro k Q (upd I a.block (.cells (c.setIfInBounds a.off v) e fz))
 | .new o k,Q,I=> ∀b,ro b=none->I b=none->awp P ro (k b) Q (upd I b o)
 | .shape r k,Q,I=> ∃o,rd ro I r=some o/\awp P ro (k (apX o)) Q I
 | .freeze a n k,Q,I=>n≠0/\∃ o,I a.block=some o/\awp P ro k Q (upd I a.block (ajr a.off n o))
 | .frozen a k,Q,I=> ∃o,rd ro I a.block=some o/\awp P ro (k (aox a.off o)) Q I
 | .getObj r k,Q,I=> ∃o,rd ro I r=some o/\apY o=false/\awp P ro (k o) Q I
 | .setObj r o k,Q,I=> ∃o',I r=some o'/\apY o'=false/\awp P ro k Q (upd I r o)
 | .choose q k,Q,I=>if q.forced then awp P ro (k 0) Q I else∀n,awp P ro (k (q.cut n)) Q I
 | .sys _ _,_,_=>False
 | .program k,Q,I=>awp P ro (k P) Q I
 | .mark _ k,Q,I=>awp P ro k Q I
 | .halt _,_,_=>False
def ajs{P:Program}{B:ZB}{ro φ:AH}(s:Sem α):∀ {Q:α->AH->Prop} {I:AH} {w:ZB},awp P ro s Q I->Own B ro φ I w->
  ∃a w' I',s.run P w= .ok a w'/\Q a I'/\Own B ro φ I' w':=by
 induction s with
 | pure a=>intro Q I w h ho;exact⟨a,w,I,rfl,h,ho⟩
 | load m a k ih=>
  intro Q I w h ho
  obtain⟨v,hc,h⟩:=h
  obtain⟨x,w',I',h1,h2,h3⟩:=ih v h ho
  exact⟨x,w',I',by simp only[Sem.run,ho.cell hc];exact h1,h2,h3⟩
 | store m a v k ih=>
  intro Q I w h ho
  obtain⟨hv,hsp,c,e,fz,hs,hoff,hfz,h⟩:=h
  have hb:=(ho.own _ _ hs).1
  have hcell:∃ x,w.cell? a=some x:=by
   rw[cell?_eq,hb];simp[zF,hsp,hoff]
  obtain⟨x,hx⟩:=hcell
  have hfr:w.frozen? a=false:=by
   unfold World.frozen?;rw[hb];obtain⟨f1,f2⟩:=fz
   simp only[Bool.and_eq_false_iff,decide_eq_false_iff_not]at*
   simp only[not_and]at hfz
   by_cases h1:f1<=a.off
   .exact .inr (hfz h1)
   .exact .inl h1
  have hlt:=ho.lt hs
  have ho':Own B ro φ (upd I a.block (.cells (c.setIfInBounds a.off v) e fz)) (w.setCell a v):=by
   unfold World.setCell
   refine ho.setObj _ hs ?_ ?_
   .rw[Array.getElem?_modify,mc rfl,hb];simp[hsp]
   .intro i hi;rw[Array.getElem?_modify,ma z7]
  obtain⟨y,w',I',h1,h2,h3⟩:=ih h ho'
  refine⟨y,w',I',?_,h2,h3⟩
  cases v<;>simp only[qg]at hv<;>first | (simp only[Sem.run,hx,hfr];exact h1) | cases hv
 | new o k ih=>
  intro Q I w h ho
  obtain⟨y,w',I',h1,h2,h3⟩:=ih w.heap.size (h _ ho.to_new.2.2 ho.to_new.1) (ho.newObj o)
  exact⟨y,w',I',h1,h2,h3⟩
 | shape r k ih=>
  intro Q I w h ho
  obtain⟨o,hr,h⟩:=h
  obtain⟨y,w',I',h1,h2,h3⟩:=ih _ h ho
  refine⟨y,w',I',?_,h2,h3⟩
  have:w.shape? r=apX o:=by unfold World.shape?;rw[ho.rd hr];cases o<;>rfl
  simp only[Sem.run,this];exact h1
 | freeze a n k ih=>
  intro Q I w h ho
  obtain⟨hn,o,hs,h⟩:=h
  have hb:=(ho.own _ _ hs).1
  have ho':Own B ro φ (upd I a.block (ajr a.off n o)) (w.freeze a n):=by
   unfold World.freeze;rw[ma hn]
   refine ho.setObj _ hs ?_ ?_
   .rw[Array.getElem?_modify,mc rfl,hb];simp only[Option.map_some];cases o<;>rfl
   .intro i hi;rw[Array.getElem?_modify,ma z7]
  obtain⟨y,w',I',h1,h2,h3⟩:=ih h ho'
  exact⟨y,w',I',h1,h2,h3⟩
 | frozen a k ih=>
  intro Q I w h ho
  obtain⟨o,hr,h⟩:=h
  obtain⟨y,w',I',h1,h2,h3⟩:=ih _ h ho
  refine⟨y,w',I',?_,h2,h3⟩
  have:w.frozen? a=aox a.off o:=by unfold World.frozen?;rw[ho.rd hr];cases o<;>rfl
  simp only[Sem.run,this];exact h1
 | getObj r k ih=>
  intro Q I w h ho
  obtain⟨o,hr,hi,h⟩:=h
  obtain⟨y,w',I',h1,h2,h3⟩:=ih _ h ho
  refine⟨y,w',I',?_,h2,h3⟩
  have hb:=ho.rd hr
  cases o<;>first | (simp only[Sem.run,hb];exact h1) | cases hi
 | setObj r o k ih=>
  intro Q I w h ho
  obtain⟨o',hs,hi,h⟩:=h
  have hb:=(ho.own _ _ hs).1
  have hlt:=ho.lt hs
  have ho':Own B ro φ (upd I r o) {w with heap:=w.heap.setIfInBounds r o}:=by
   refine ho.setObj _ hs ?_ ?_
   .simp[hlt]
   .intro i hi;rw[Array.getElem?_setIfInBounds,ma z7]
  obtain⟨y,w',I',h1,h2,h3⟩:=ih h ho'
  refine⟨y,w',I',?_,h2,h3⟩
  cases o'<;>first | (simp only[Sem.run,hb];exact h1) | cases hi
 | choose q k ih=>
  intro Q I w h ho
  simp only[awp]at h
  by_cases hq:q.forced=true
  .rw[mc hq]at h
   obtain⟨y,w',I',h1,h2,h3⟩:=ih _ h ho
   exact⟨y,w',I',by simp only[Sem.run,hq,if_true];exact h1,h2,h3⟩
  .rw[ma hq]at h
   obtain⟨y,w',I',h1,h2,h3⟩:=ih _ (h (w.tape w.drawn q)) (ho.drawn (w.drawn+1))
   exact⟨y,w',I',by simp only[Sem.run];rw[ma hq];exact h1,h2,h3⟩
 | sys c k ih=>intro Q I w h;exact h.elim
 | program k ih=>
  intro Q I w h ho
  obtain⟨y,w',I',h1,h2,h3⟩:=ih _ h ho
  exact⟨y,w',I',h1,h2,h3⟩
 | mark m k ih=>
  intro Q I w h ho
  obtain⟨y,w',I',h1,h2,h3⟩:=ih h ho
  exact⟨y,w',I',h1,h2,h3⟩
 | halt e=>intro Q I w h;exact h.elim
def qk{P:Program}{ro:AH}(s:Sem α):∀ {Q Q':α->AH->Prop} {I:AH},awp P ro s Q I->(∀a I,Q a I->Q' a I)->awp P ro s Q' I:=by
 induction s with
 | pure a=>intro Q Q' I h hq;exact hq _ _ h
 | load m a k ih=>intro Q Q' I h hq;obtain⟨v,hc,h⟩:=h;exact⟨v,hc,ih v h hq⟩
 | store m a v k ih=>intro Q Q' I h hq;obtain⟨hv,hsp,c,e,fz,hs,hoff,hfz,h⟩:=h;exact⟨hv,hsp,c,e,fz,hs,hoff,hfz,ih h hq⟩
 | new o k ih=>intro Q Q' I h hq b hb hs;exact ih b (h b hb hs) hq
 | shape r k ih=>intro Q Q' I h hq;obtain⟨o,hr,h⟩:=h;exact⟨o,hr,ih _ h hq⟩
 | freeze a n k ih=>intro Q Q' I h hq;obtain⟨hn,o,hr,h⟩:=h;exact⟨hn,o,hr,ih h hq⟩
 | frozen a k ih=>intro Q Q' I h hq;obtain⟨o,hr,h⟩:=h;exact⟨o,hr,ih _ h hq⟩
 | getObj r k ih=>intro Q Q' I h hq;obtain⟨o,hr,hi,h⟩:=h;exact⟨o,hr,hi,ih _ h hq⟩
 | setObj r o k ih=>intro Q Q' I h hq;obtain⟨o',hr,hi,h⟩:=h;exact⟨o',hr,hi,ih h hq⟩
 | choose q k ih=>
  intro Q Q' I h hq
  simp only[awp]at h⊢
  split
  .rename_i e;rw[mc e]at h;exact ih _ h hq
  .rename_i e;rw[ma e]at h;intro n;exact ih _ (h n) hq
 | sys c k ih=>intro Q Q' I h;exact h.elim
 | program k ih=>intro Q Q' I h hq;exact ih _ h hq
 | mark m k ih=>intro Q Q' I h hq;exact ih h hq
 | halt e=>intro Q Q' I h;exact h.elim
def vL{β:Type}{P:Program}{ro:AH}(s:Sem α)(f:α->Sem β):∀ {Q:β->AH->Prop} {I:AH},awp P ro (s >>= f) Q I↔awp P ro s (fun a I=>awp P ro (f a) Q I) I:=by
 show∀{Q:β->AH->Prop} {I:AH},awp P ro (s.bind f) Q I↔_
 induction s with
 | pure a=>intro Q I;rfl
 | load m a k ih=>intro Q I;simp only[Sem.bind,awp,ih]
 | store m a v k ih=>intro Q I;simp only[Sem.bind,awp,ih]
 | new o k ih=>intro Q I;simp only[Sem.bind,awp,ih]
 | shape r k ih=>intro Q I;simp only[Sem.bind,awp,ih]
 | freeze a n k ih=>intro Q I;simp only[Sem.bind,awp,ih]
 | frozen a k ih=>intro Q I;simp only[Sem.bind,awp,ih]
 | getObj r k ih=>intro Q I;simp only[Sem.bind,awp,ih]
 | setObj r o k ih=>intro Q I;simp only[Sem.bind,awp,ih]
 | choose q k ih=>intro Q I;simp only[Sem.bind,awp,ih]
 | sys c k ih=>intro Q I;simp only[Sem.bind,awp]
 | program k ih=>intro Q I;simp only[Sem.bind,awp,ih]
 | mark m k ih=>intro Q I;simp only[Sem.bind,awp,ih]
 | halt e=>intro Q I;simp only[Sem.bind,awp]
abbrev Fr:=List (Nat×ZC)
def look:Fr->Nat->Option Value
 | [],_=>none
 | (j,v)::r,i=>bif Nat.beq i j then some v else look r i
structure xz(N:Nat)(fr:Fr)(a:Act):Prop where
 size:a.tmps.size=N
 defers:a.defers=[]
 has:∀ i v,look fr i=some v->a.tmps[i]?=some v
def qm(fr:Fr):Operand->Option Value
 | .tmp t=>look fr t
 | .const v=>some v
 | .global g=>some (.pointer (some ⟨g,0,none⟩))
 | .func f=>some (.func (.func f) #[] #[])
def qD(d:Option Tmp)(v:ZC)(fr:Fr):Fr:=
 match d with
 | some d=>(d,v)::fr
 | none=>fr
def wl(N:Nat):Option Tmp->Bool
 | some d=>d<N
 | none=>true
def vX(O:Operand->ZC)(fr:Fr):Prop:= ∀x v,qm fr x=some v->O x=v
def xz.agrees{N:Nat}{fr:Fr}{a:Act}(h:xz N fr a):vX a.eval fr:=by
 intro x v hx
 cases x with
 | tmp t=>have:=h.has t v hx;simp[Act.eval,mT,this]
 | const c=>simpa [qm,Act.eval]using hx
 | global g=>simpa [qm,Act.eval]using hx
 | func f=>simpa [qm,Act.eval]using hx
def xz.put{N:Nat}{fr:Fr}{a:Act}(h:xz N fr a){d:Option Tmp}(hd:wl N d=true)(v:ZC):xz N (qD d v fr) (a.put d v):=by
 cases d with
 | none=>exact h
 | some d=>
  have hd':d<a.tmps.size:=by simpa [wl,h.size]using hd
  refine⟨by simp[Act.put,h.size],by simp[Act.put,h.defers],?_⟩
  intro i u hi
  simp only[qD,look]at hi
  simp only[Act.put]
  cases hb:Nat.beq i d with
  | true=>
   rw[hb]at hi
   have:=Nat.eq_of_beq_eq_true hb
   subst this
   simp at hi;subst hi
   simp[hd']
  | false=>
   rw[hb]at hi
   have hne:i≠d:=by intro e;subst e;simp at hb
   have:=h.has i u hi
   rw[Array.getElem?_setIfInBounds,ma z7];exact this
def qo(fr fr':Fr):Prop:= ∀i v,look fr i=some v->look fr' i=some v
def xz.weaken{N:Nat}{fr fr':Fr}{a:Act}(h:xz N fr' a)(hl:qo fr fr'):xz N fr a:=⟨h.size,h.defers,fun i v e=>h.has i v (hl i v e)⟩
def qo.nil(fr:Fr):qo [] fr:=fun _ _ h=>by simp[look]at h
def qo.cons{fr fr':Fr}(h:look fr' i=some v)(hl:qo fr fr'):qo ((i,v)::fr) fr':=by
 intro j u hj
 simp only[look]at hj
 cases hb:Nat.beq j i with
 | true=>rw[hb]at hj;have:=Nat.eq_of_beq_eq_true hb;subst this;simp at hj;subst hj;exact h
 | false=>rw[hb]at hj;exact hl j u hj
def qo.refl(fr:Fr):qo fr fr:=fun _ _ h=>h
def HLe(I I':AH):Prop:= ∀b o,I b=some o->I' b=some o
def HLe.refl(I:AH):HLe I I:=fun _ _ h=>h
def qc(P:Program)(B:ZB)(ro:AH)(f:FuncId)(args:Array Value)(I:AH)(Q:ZC->AH->Prop):Prop:=
 ∀φ w,Own B ro φ I w->Calls P f args w fun e w'=> ∃v I',e= .returned v/\Q v I'/\Own B ro φ I' w'
def qc.mono{P:Program}{B:ZB}{ro:AH}{I:AH}{Q Q':ZC->AH->Prop}(h:qc P B ro f args I Q)(hq:∀ v I,Q v I->Q' v I):qc P B ro f args I Q':=
 fun φ w ho=>(h φ w ho).mono fun _ _ ⟨v,I',e,q,o⟩=>⟨v,I',e,hq _ _ q,o⟩
def qc.drop{P:Program}{B:ZB}{ro:AH}{I:AH}{Q Q':ZC->AH->Prop}(h:qc P B ro f args I Q)(hq:∀ v I,Q v I->∃ I',HLe I' I/\Q' v I'):qc P B ro f args I Q':=
 fun φ w ho=>(h φ w ho).mono fun _ _ ⟨v,_,e,q,o⟩=>let ⟨I'',hl,q'⟩:=hq _ _ q;⟨v,I'',e,q',o.drop hl⟩
def qL(I ψ:AH):Prop:= ∀b o,I b=some o->ψ b=none
def join(I ψ:AH):AH:=fun b=>match I b with | some o=>some o | none=>ψ b
def abV{I ψ:AH}(h:join I ψ b=some o):I b=some o\/(I b=none/\ψ b=some o):=by
 unfold join at h
 cases e:I b with
 | some x=>rw[e]at h;exact .inl h
 | none=>rw[e]at h;exact .inr ⟨rfl,h⟩
def uD{I ψ:AH}(h:join I ψ b=none):I b=none/\ψ b=none:=by
 unfold join at h
 cases e:I b with
 | some x=>rw[e]at h;cases h
 | none=>rw[e]at h;exact⟨rfl,h⟩
def vJ{I ψ:AH}(h:I b=some o):join I ψ b=some o:=by simp[join,h]
def uE{I ψ:AH}(hd:qL I ψ)(h:ψ b=some o):join I ψ b=some o:=by
 unfold join
 cases e:I b with
 | some x=>have:=hd b x e;rw[this]at h;cases h
 | none=>exact h
def qL.symm{I ψ:AH}(hd:qL I ψ):qL ψ I:=by
 intro b o hs
 cases e:I b with
 | none=>rfl
 | some x=>have:=hd b x e;rw[this]at hs;cases hs
def Own.frame_in{B:ZB}{ro φ I ψ:AH}(h:Own B ro φ (join I ψ) w)(hd:qL I ψ):Own B ro (join φ ψ) I w:=by
 refine⟨h.os,h.tape,h.output,?_,?_,h.ro⟩
 .intro b o hs
  have:=h.own b o (vJ hs)
  exact⟨this.1,by simp[join,this.2.1,hd b o hs],this.2.2⟩
 .intro b o hs
  rcases abV hs with h1 | ⟨h1,h2⟩
  .exact h.fr b _ h1
  .exact(h.own b o (uE hd h2)).1
def Own.frame_out{B:ZB}{ro φ I ψ:AH}(h:Own B ro (join φ ψ) I w)(hd:qL φ ψ)(hr:qL ψ ro):Own B ro φ (join I ψ) w/\qL I ψ:=by
 have hd2:qL I ψ:=fun b o hs=>(uD (h.own b o hs).2.1).2
 refine⟨⟨h.os,h.tape,h.output,?_,fun b o hs=>h.fr b o (vJ hs),h.ro⟩,hd2⟩
 intro b o hs
 rcases abV hs with h1 | ⟨h1,h2⟩
 .have:=h.own b _ h1
  exact⟨this.1,(uD this.2.1).1,this.2.2⟩
 .exact⟨h.fr b o (uE hd h2),hd.symm b o h2,hr b o h2⟩
def Own.frame_disj{B:ZB}{ro φ I ψ:AH}(ho:Own B ro φ (join I ψ) w)(hd:qL I ψ):qL φ ψ/\qL ψ ro:=
 ⟨qL.symm fun b o hs=>(ho.own b o (uE hd hs)).2.1,fun b o hs=>(ho.own b o (uE hd hs)).2.2⟩
def qc.frame{P:Program}{B:ZB}{ro:AH}{I ψ:AH}{Q:ZC->AH->Prop}(h:qc P B ro f args I Q)(hd:qL I ψ):
  qc P B ro f args (join I ψ) fun v I'=> ∃τ,I'=join τ ψ/\qL τ ψ/\Q v τ:=by
 intro φ w ho
 obtain⟨hfp,hpr⟩:=ho.frame_disj hd
 refine(h _ w (ho.frame_in hd)).mono ?_
 rintro e w' ⟨v,I',he,hq,ho'⟩
 obtain⟨h1,h2⟩:=ho'.frame_out hfp hpr
 exact⟨v,_,he,⟨I',rfl,h2,hq⟩,h1⟩
def Own.lend{B:ZB}{ro φ I ψ:AH}(h:Own B ro φ (join ψ I) w)(hd:qL ψ I):Own B (join ro ψ) φ I w:=by
 refine⟨h.os,h.tape,h.output,?_,h.fr,?_⟩
 .intro b o hs
  have:=h.own b o (uE hd hs)
  exact⟨this.1,this.2.1,by simp[join,this.2.2,hd.symm b o hs]⟩
 .intro b o hs
  rcases abV hs with h1 | ⟨_,h2⟩
  .exact h.ro b o h1
  .exact(h.own b o (vJ h2)).1
def Own.unlend{B:ZB}{ro φ I ψ:AH}(h:Own B (join ro ψ) φ I w)(hp:∀ b o,ψ b=some o->φ b=none/\ro b=none):Own B ro φ (join ψ I) w/\qL ψ I:=by
 have hd:qL ψ I:=qL.symm fun b o hs=>(uD (h.own b o hs).2.2).2
 refine⟨⟨h.os,h.tape,h.output,?_,h.fr,fun b o hs=>h.ro b o (vJ hs)⟩,hd⟩
 intro b o hs
 rcases abV hs with h1 | ⟨_,h2⟩
 .have:=hp b o h1
  exact⟨h.ro b o (by simp[join,this.2,h1]),this⟩
 .have:=h.own b o h2
  exact⟨this.1,this.2.1,(uD this.2.2).1⟩
def qc.lend{P:Program}{B:ZB}{ro:AH}{I ψ:AH}{Q:ZC->AH->Prop}(h:qc P B (join ro ψ) f args I Q)(hd:qL ψ I):
  qc P B ro f args (join ψ I) fun v I'=> ∃τ,I'=join ψ τ/\qL ψ τ/\Q v τ:=by
 intro φ w ho
 have hp:∀ b o,ψ b=some o->φ b=none/\ro b=none:=fun b o hs=>(ho.own b o (vJ hs)).2
 refine(h φ w (ho.lend hd)).mono ?_
 rintro e w' ⟨v,I',he,hq,ho'⟩
 obtain⟨h1,h2⟩:=ho'.unlend hp
 exact⟨v,_,he,⟨I',rfl,h2,hq⟩,h1⟩
def aqD(P:Program)(B:ZB)(ro:AH)(dst:Option Tmp)(fr:Fr)(K:Fr->AH->Prop):Next->AH->Prop
 | .value v,I=>K (qD dst v fr) I
 | .skip,I=>K (qD dst undef fr) I
 | .enter f args,I=>qc P B ro f args I fun v I'=>K (qD dst v fr) I'
 | _,_=>False
def wi(P:Program)(B:ZB)(ro:AH)(o:Oper)(K:Fr->AH->Prop)(fr:Fr)(I:AH):Prop:=
 ∀O,vX O fr->awp P ro (execOp O o) (aqD P B ro o.dst fr K) I
def ke(P:Program)(B:ZB)(ro:AH)(N:Nat)(ops:Array Oper)(o:Oper)(K:Fr->AH->Prop)(fr:Fr)(I:AH):Prop:=
 wl N o.dst=true/\match o.guard with
  | none=>wi P B ro o K fr I
  | some (j,want)=> ∃t v,(ops[j]?).bind (·.dst)=some t/\look fr t=some v/\((v= .bool want/\wi P B ro o K fr I)\/(v≠ .bool want/\K (qD o.dst undef fr) I))
def ad5(P:Program)(B:ZB)(ro:AH)(N:Nat)(ops:Array Oper)(K:Fr->AH->Prop):List Nat->Fr->AH->Prop
 | [],fr,I=>K fr I
 | i::rest,fr,I=>match ops[i]? with
  | none=>ad5 P B ro N ops K rest fr I
  | some o=>ke P B ro N ops o (ad5 P B ro N ops K rest) fr I
def aie(B:ZB)(ro:AH)(N:Nat)(φ:AH)(Q:Exit->Fr->AH->Prop)(e:Exit)(a:Act)(w:ZB):= ∃fr I,Q e fr I/\Own B ro φ I w/\xz N fr a
def wi.sound{P:Program}{B:ZB}{ro:AH}{N:Nat}{o:Oper}{K:Fr->AH->Prop}{fr:Fr}{I φ:AH}{a:Act}{next:Act->ZB->Prop}{Q:Exit->Act->ZB->Prop}
  (h:wi P B ro o K fr I) (hd:wl N o.dst=true) (ho:Own B ro φ I w) (hf:xz N fr a)
  (hk:∀ fr I a w,K fr I->Own B ro φ I w->xz N fr a->next a w):o.wp P a w next Q:=by
 obtain⟨x,w',I',hr,hq,ho'⟩:=ajs _ (h _ hf.agrees) ho
 unfold Oper.wp
 rw[hr]
 cases x with
 | value v=>exact hk _ _ _ _ hq ho' (hf.put hd v)
 | skip=>exact hk _ _ _ _ hq ho' (hf.put hd undef)
 | enter f args=>
  show Calls P f args w' _
  refine(hq φ w' ho').mono ?_
  rintro e w2 ⟨v,I2,rfl,hq2,ho2⟩
  exact hk _ _ _ _ hq2 ho2 (hf.put hd v)
 | _=>exact hq.elim
def yielded_eq{N:Nat}{fr:Fr}{a:Act}(hf:xz N fr a){j t:Nat}(ht:(ops[j]?).bind (·.dst)=some t)(hl:look fr t=some v):
  yielded ops a.tmps j=match v with | .bool b=>some b | _=>none:=by
 unfold yielded
 rw[ht]
 simp only[Option.bind_some,hf.has t v hl]
 cases v<;>rfl
def ad5.sound{P:Program}{B:ZB}{ro:AH}{N:Nat}{Q:Exit->Fr->AH->Prop}{φ:AH}(l:List Nat):∀ {fr:Fr} {I:AH} {a:Act} {w:ZB},
  ad5 P B ro N ops (Q .normal) l fr I->Own B ro φ I w->xz N fr a->wpOps P ops (aie B ro N φ Q) l a w:=by
 induction l with
 | nil=>intro fr I a w h ho hf;exact⟨fr,I,h,ho,hf⟩
 | cons i rest ih=>
  intro fr I a w h ho hf
  simp only[ad5]at h
  simp only[wpOps]
  cases hi:ops[i]? with
  | none=>rw[hi]at h;exact ih h ho hf
  | some o=>
   rw[hi]at h
   obtain⟨hd,h⟩:=h
   dsimp only
   cases hg:o.guard with
   | none=>
    rw[hg]at h
    have hw:Region.wanted o (yielded ops a.tmps)=true:=by simp[Region.wanted,hg]
    rw[mc hw]
    exact .inl (wi.sound h hd ho hf fun fr I a w hk ho hf=>ih hk ho hf)
   | some g=>
    obtain⟨j,want⟩:=g
    rw[hg]at h
    obtain⟨t,v,ht,hl,h⟩:=h
    have hy:=yielded_eq hf ht hl
    rcases h with⟨rfl,h⟩ | ⟨hv,h⟩
    .have hw:Region.wanted o (yielded ops a.tmps)=true:=by simp[Region.wanted,hg,hy]
     rw[mc hw]
     exact .inl (wi.sound h hd ho hf fun fr I a w hk ho hf=>ih hk ho hf)
    .have hw:¬ Region.wanted o (yielded ops a.tmps)=true:=by
      simp only[Region.wanted,hg,hy]
      cases v<;>simp
      rename_i b;intro e;subst e;exact hv rfl
     rw[ma hw]
     exact ih h ho (hf.put hd undef)
def AW(P:Program)(B:ZB)(ro:AH)(N:Nat)(c:Code)(Q:Exit->Fr->AH->Prop)(fr:Fr)(I:AH):Prop:=
 ∀φ w a,Own B ro φ I w->xz N fr a->c.wp P (aie B ro N φ Q) a w
def adi(next:Fr->AH->Prop)(Q:Exit->Fr->AH->Prop):Exit->Fr->AH->Prop
 | .normal,fr,I=>next fr I
 | e,fr,I=>Q e fr I
def afd(id:Nat)(Q:Exit->Fr->AH->Prop):Exit->Fr->AH->Prop
 | .exit id',fr,I=>if id'=id then Q .normal fr I else Q (.exit id') fr I
 | e,fr,I=>Q e fr I
section
variable{P:Program}{B:ZB}{ro:AH}{N:Nat}{Q:Exit->Fr->AH->Prop}{fr:Fr}{I:AH}
def AW.weaken{fr':Fr}{I':AH}(h:AW P B ro N c Q fr' I')(hf:qo fr' fr)(hl:HLe I' I):AW P B ro N c Q fr I:=
 fun φ w a ho ha=>h φ w a (ho.drop hl) (ha.weaken hf)
def AW.skip(h:Q .normal fr I):AW P B ro N .skip Q fr I:=fun _ _ _ ho hf=>wp_skip ⟨fr,I,h,ho,hf⟩
def AW.ret(h:Q .ret fr I):AW P B ro N .ret Q fr I:=fun _ _ _ ho hf=>wp_ret ⟨fr,I,h,ho,hf⟩
def AW.exit(h:Q (.exit id) fr I):AW P B ro N (.exit id) Q fr I:=fun _ _ _ ho hf=>wp_exit ⟨fr,I,h,ho,hf⟩
def AW.seq(h:AW P B ro N x (adi (AW P B ro N y Q) Q) fr I):AW P B ro N (.seq x y) Q fr I:=by
 intro φ w a ho hf
 refine wp_seq (wp_mono (h φ w a ho hf) ?_)
 rintro e a' w' ⟨fr',I',hq,ho',hf'⟩
 cases e with
 | normal=>exact hq φ w' a' ho' hf'
 | _=>exact⟨fr',I',hq,ho',hf'⟩
def AW.cond{c:Operand}{b:Bool}(hc:qm fr c=some (.bool b))(ht:b=true->AW P B ro N x Q fr I)(hn:b=false->AW P B ro N y Q fr I):AW P B ro N (.cond c x y) Q fr I:=
 fun φ w a ho hf=>wp_cond_split (hf.agrees _ _ hc) (fun e=>ht e φ w a ho hf) (fun e=>hn e φ w a ho hf)
def AW.block(h:AW P B ro N c (afd id Q) fr I):AW P B ro N (.block id c) Q fr I:=by
 intro φ w a ho hf
 refine wp_block (wp_mono (h φ w a ho hf) ?_)
 rintro e a' w' ⟨fr',I',hq,ho',hf'⟩
 cases e with
 | exit id'=>
  simp only[afd]at hq
  simp only[Exit.inBlock]
  split
  .rename_i e;rw[mc e]at hq;exact⟨fr',I',hq,ho',hf'⟩
  .rename_i e;rw[ma e]at hq;exact⟨fr',I',hq,ho',hf'⟩
 | _=>exact⟨fr',I',hq,ho',hf'⟩
def AW.region(h:ad5 P B ro N ops (Q .normal) (List.range ops.size) fr I):AW P B ro N (.region id ops false) Q fr I:=
 fun _ _ _ ho hf=>wp_region (ad5.sound _ h ho hf)
end
def ahL(P:Program)(c:Code)(Q:Exit->Act->ZB->Prop)(a:Act)(w:ZB):Prop:=
 ∀(b:Frame) (k:List Item) (cs:List Frame),∃e a' w',Q e a' w'/\Arrives P (lone (b.at a (.inLoop c::k)) cs w) b k cs e a' w'
def akN{P:Program}{Q:Exit->Act->ZB->Prop}{a:Act}(h:c.wp P (Exit.then (ahL P c Q) Q) a w)(b:Frame)(k:List Item)(cs:List Frame):
  ∃e a' w',Q e a' w'/\Arrives P (lone (b.at a (.code c:: .inLoop c::k)) cs w) b k cs e a' w':=by
 obtain⟨e,a₁,w₁,hq,harr⟩:=h b (.inLoop c::k) cs
 cases e with
 | normal=>
  obtain⟨e₂,a₂,w₂,hq₂,harr₂⟩:=hq b k cs
  exact⟨e₂,a₂,w₂,hq₂,.of_steps harr harr₂⟩
 | exit id=>exact⟨_,a₁,w₁,hq,.pass (x:= .inLoop c) rfl (fun _ _=> .inl y0) harr⟩
 | goto l=>exact⟨_,a₁,w₁,hq,.pass (x:= .inLoop c) rfl (fun _ _=> .inl y0) harr⟩
 | ret=>exact⟨_,a₁,w₁,hq,.pass (x:= .inLoop c) rfl (fun _ _=> .inl y0) harr⟩
 | panic ch=>exact⟨_,a₁,w₁,hq,.pass (x:= .inLoop c) rfl (fun _ _=> .inl y0) harr⟩
 | outgrown=>exact⟨_,a₁,w₁,hq,.pass (x:= .inLoop c) rfl (fun _ _=> .inl y0) harr⟩
def arK{P:Program}{Q:Exit->Act->ZB->Prop}{a:Act}(h:c.wp P (Exit.then (ahL P c Q) Q) a w):ahL P c Q a w:=by
 intro b k cs
 obtain⟨e,a',w',hq,harr⟩:=akN h b k cs
 exact⟨e,a',w',hq,.of_steps (.one step_inLoop) harr⟩
def arL{P:Program}{Q:Exit->Act->ZB->Prop}{a:Act}(h:c.wp P (Exit.then (ahL P c Q) Q) a w):(Code.loop c).wp P Q a w:=by
 intro b k cs
 obtain⟨e,a',w',hq,harr⟩:=akN h b k cs
 exact⟨e,a',w',hq,.of_steps (.one step_loop) harr⟩
def auK(P:Program)(B:ZB)(ro:AH)(N:Nat)(c:Code)(Q:Exit->Fr->AH->Prop)(fr:Fr)(I:AH):Prop:=
 ∀φ w a,Own B ro φ I w->xz N fr a->ahL P c (aie B ro N φ Q) a w
def qi(P:Program)(B:ZB)(ro:AH)(N:Nat)(c:Code)(Q:Exit->Fr->AH->Prop)(fr:Fr)(I:AH):Prop:=AW P B ro N c (adi (auK P B ro N c Q) Q) fr I
section
variable{P:Program}{B:ZB}{ro:AH}{N:Nat}{Q:Exit->Fr->AH->Prop}{fr:Fr}{I:AH}
def qi.wp(h:qi P B ro N c Q fr I){φ:AH}{a:Act}(ho:Own B ro φ I w)(hf:xz N fr a):c.wp P (Exit.then (ahL P c (aie B ro N φ Q)) (aie B ro N φ Q)) a w:=by
 refine wp_mono (h φ w a ho hf) ?_
 rintro e a' w' ⟨fr',I',hq,ho',hf'⟩
 cases e with
 | normal=>exact hq φ w' a' ho' hf'
 | _=>exact⟨fr',I',hq,ho',hf'⟩
def qi.head{fr':Fr}(h:qi P B ro N c Q fr' I)(hl:qo fr' fr):auK P B ro N c Q fr I:=
 fun _ _ _ ho hf=>arK (h.wp ho (hf.weaken hl))
def qi.loop{fr':Fr}(h:qi P B ro N c Q fr' I)(hl:qo fr' fr):AW P B ro N (.loop c) Q fr I:=
 fun _ _ _ ho hf=>arL (h.wp ho (hf.weaken hl))
end
def qh{α:Type}(P:Program)(ro:AH):Sem α->AH->Option α
 | .pure a,_=>some a
 | .load _ a k,I=>match qa ro I a with
  | some v=>qh P ro (k v) I
  | none=>none
 | .program k,I=>qh P ro (k P) I
 | .mark _ k,I=>qh P ro k I
 | _,_=>none
def ahf{P:Program}{B:ZB}{ro φ:AH}(s:Sem α):∀ {I:AH} {w:ZB} {a:α},qh P ro s I=some a->Own B ro φ I w->s.run P w= .ok a w:=by
 induction s with
 | pure a=>intro I w x h ho;cases h;rfl
 | load m a k ih=>
  intro I w x h ho
  simp only[qh]at h
  cases hc:qa ro I a with
  | none=>rw[hc]at h;cases h
  | some v=>rw[hc]at h;simp only[Sem.run,ho.cell hc];exact ih v h ho
 | program k ih=>intro I w x h ho;exact ih _ h ho
 | mark m k ih=>intro I w x h ho;exact ih h ho
 | _=>intro I w x h;cases h
def ad6(P:Program)(ro:AH)(fn:Func)(R:ZC->AH->Prop):Exit->Fr->AH->Prop
 | .normal,fr,I | .ret,fr,I=> ∃v,(∀tmps:Array Value,(∀i u,look fr i=some u->tmps[i]?=some u)->qh P ro (results fn tmps) I=some v)/\R v I
 | _,_,_=>False
def afe:List Value->Nat->Fr
 | [],_=>[]
 | v::r,i=>(i,v)::afe r (i+1)
def akO(l:List Value):∀ (n i:Nat) (v:ZC),look (afe l n) i=some v->n<=i/\l[i - n]?=some v:=by
 induction l with
 | nil=>intro n i v h;simp[afe,look]at h
 | cons x r ih=>
  intro n i v h
  simp only[afe,look]at h
  cases hb:Nat.beq i n with
  | true=>rw[hb]at h;have:=Nat.eq_of_beq_eq_true hb;subst this;simpa using h
  | false=>
   rw[hb]at h
   obtain⟨h1,h2⟩:=ih (n+1) i v h
   have:i - n=(i - (n+1))+1:=by omega
   exact⟨z7,by rw[this];simpa using h2⟩
def qc.of_body{P:Program}{B:ZB}{ro:AH}{fn:Func}{args:List Value}{I:AH}{Q:ZC->AH->Prop}(hf:P.funcs[f]?=some fn)(hb:fn.body=some c)
  (hn:args.length<=fn.ntmps) (h:AW P B ro fn.ntmps c (ad6 P ro fn Q) (afe args 0) I):qc P B ro f args.toArray I Q:=by
 intro φ w ho
 refine calls_of_wp hf hb ?_
 have hfits:xz fn.ntmps (afe args 0) {tmps:=args.toArray++Array.replicate (fn.ntmps - args.toArray.size) undef,defers:=[]}:=by
  refine⟨j2,rfl,?_⟩
  intro i v hi
  obtain⟨_,h2⟩:=akO args 0 i v hi
  simp only[Nat.sub_zero]at h2
  have hlt:i<args.length:=by
   rcases mM i args.length with h' | h'
   .exact h'
   .rw[mG h']at h2;cases h2
  simp[Array.getElem?_append,hlt]
  simpa [md hlt]using h2
 refine wp_mono (h φ w _ ho hfits) ?_
 rintro e a' w' ⟨fr',I',hq,ho',hf'⟩
 cases e with
 | normal=>
  obtain⟨v,hr,hR⟩:=hq
  exact⟨hf'.defers,v,ahf _ (hr _ hf'.has) ho',v,I',rfl,hR,ho'⟩
 | ret=>
  obtain⟨v,hr,hR⟩:=hq
  exact⟨hf'.defers,v,ahf _ (hr _ hf'.has) ho',v,I',rfl,hR,ho'⟩
 | _=>exact hq.elim
end SL
namespace SL
open Go
variable{α:Type}{I τ ψ:AH}{a:Addr}{args:Array Value}{fr fr':Fr}{K K':Fr->AH->Prop}{f:FuncId}{b d i:Nat}{cl:Nat->Nat}{o:Oper}{O:Operand->ZC}{u v:ZC}{Q:ZC->AH->Prop}
def akb{ro:AH}{o:Obj}(h:rd ro I b=some o):rd ro (join I ψ) b=some o:=by
 unfold rd at h⊢
 split
 .rename_i x e;rw[e]at h;exact h
 .rename_i e;rw[e]at h;exact vJ h
def aqE{ro:AH}(h:qa ro I a=some v):qa ro (join I ψ) a=some v:=by
 unfold qa at h⊢
 cases hb:rd ro I a.block with
 | none=>rw[hb]at h;simp[zF]at h
 | some o=>rw[akb hb,<-hb];exact h
def aif(b:Nat)(o:Obj):upd (join I ψ) b o=join (upd I b o) ψ:=by
 funext i
 by_cases h:i=b<;>simp[upd,join,h]
def qL.upd(hd:qL I ψ)(h:ψ b=none)(o:Obj):qL (SL.upd I b o) ψ:=by
 intro i x hx
 unfold SL.upd at hx
 split at hx
 .rename_i e;subst e;exact h
 .exact hd i x hx
def arM{P:Program}{ro:AH}(s:Sem α):∀ {Q:α->AH->Prop} {I:AH},awp P ro s Q I->qL I ψ->
  awp P ro s (fun a I'=> ∃τ,I'=join τ ψ/\qL τ ψ/\Q a τ) (join I ψ):=by
 induction s with
 | pure a=>intro Q I h hd;exact⟨I,rfl,hd,h⟩
 | load m a k ih=>intro Q I h hd;obtain⟨v,hc,h⟩:=h;exact⟨v,aqE hc,ih v h hd⟩
 | store m a v k ih=>
  intro Q I h hd
  obtain⟨hv,hsp,c,e,fz,hs,hoff,hfz,h⟩:=h
  refine⟨hv,hsp,c,e,fz,vJ hs,hoff,hfz,?_⟩
  rw[aif];exact ih h (hd.upd (hd _ _ hs) _)
 | new o k ih=>
  intro Q I h hd b hb hs
  obtain⟨h1,h2⟩:=uD hs
  rw[aif];exact ih b (h b hb h1) (hd.upd h2 _)
 | shape r k ih=>intro Q I h hd;obtain⟨o,hr,h⟩:=h;exact⟨o,akb hr,ih _ h hd⟩
 | freeze a n k ih=>
  intro Q I h hd
  obtain⟨hn,o,hs,h⟩:=h
  refine⟨hn,o,vJ hs,?_⟩
  rw[aif];exact ih h (hd.upd (hd _ _ hs) _)
 | frozen a k ih=>intro Q I h hd;obtain⟨o,hr,h⟩:=h;exact⟨o,akb hr,ih _ h hd⟩
 | getObj r k ih=>intro Q I h hd;obtain⟨o,hr,hi,h⟩:=h;exact⟨o,akb hr,hi,ih _ h hd⟩
 | setObj r o k ih=>
  intro Q I h hd
  obtain⟨o',hs,hi,h⟩:=h
  refine⟨o',vJ hs,hi,?_⟩
  rw[aif];exact ih h (hd.upd (hd _ _ hs) _)
 | choose q k ih=>
  intro Q I h hd
  simp only[awp]at h⊢
  split
  .rename_i e;rw[mc e]at h;exact ih _ h hd
  .rename_i e;rw[ma e]at h;intro n;exact ih _ (h n) hd
 | sys c k ih=>intro Q I h;exact h.elim
 | program k ih=>intro Q I h hd;exact ih _ h hd
 | mark m k ih=>intro Q I h hd;exact ih h hd
 | halt e=>intro Q I h;exact h.elim
def jW(B:ZB)(ro I:AH):Prop:= ∃φ w,Own B ro φ I w
def awC(H:Array Obj)(b:Nat)(o:Obj):∃ H':Array Obj,H'[b]?=some o/\∀ i,i≠b->i<H.size->H'[i]?=H[i]?:=by
 by_cases h:b<H.size
 .exact⟨H.setIfInBounds b o,by simp[h],fun i hi _=>by rw[Array.getElem?_setIfInBounds,ma z7]⟩
 .refine⟨(H++Array.replicate (b - H.size) o).push o,?_,?_⟩
  .have:(H++Array.replicate (b - H.size) o).size=b:=by simp;omega
   rw[Array.getElem?_push,mc this.symm]
  .intro i hi hlt
   have:(H++Array.replicate (b - H.size) o).size=b:=by simp;omega
   rw[Array.getElem?_push,ma z7,Array.getElem?_append,mc hlt]
def jW.upd{B:ZB}{ro:AH}(h:jW B ro I)(hr:ro b=none)(o:Obj):jW B ro (SL.upd I b o):=by
 obtain⟨φ,w,h⟩:=h
 obtain⟨H',h1,h2⟩:=awC w.heap b o
 refine⟨fun _=>none,{w with heap:=H'},h.os,h.tape,h.output,?_,fun _ _ e=>(by cases e),?_⟩
 .intro i x hx
  unfold SL.upd at hx
  split at hx
  .rename_i e;subst e;cases hx;exact⟨h1,rfl,hr⟩
  .rename_i ne
   obtain⟨g1,_,g3⟩:=h.own i x hx
   exact⟨by show H'[i]?=_;rw[h2 i ne (wV g1)];exact g1,rfl,g3⟩
 .intro i x hx
  have g:=h.ro i x hx
  have:i≠b:=by intro e;subst e;rw[hr]at hx;cases hx
  show H'[i]?=_;rw[h2 i this (wV g)];exact g
def jW.ro_of{B:ZB}{ro:AH}(h:jW B ro I){o:Obj}(hs:I b=some o):ro b=none:=by
 obtain⟨φ,w,h⟩:=h;exact(h.own b o hs).2.2
def atd{P:Program}{B:ZB}{ro:AH}(s:Sem α):∀ {Q:α->AH->Prop} {I:AH},awp P ro s Q I->jW B ro I->awp P ro s (fun a I'=>Q a I'/\jW B ro I') I:=by
 induction s with
 | pure a=>intro Q I h hl;exact⟨h,hl⟩
 | load m a k ih=>intro Q I h hl;obtain⟨v,hc,h⟩:=h;exact⟨v,hc,ih v h hl⟩
 | store m a v k ih=>intro Q I h hl;obtain⟨hv,hsp,c,e,fz,hs,hoff,hfz,h⟩:=h;exact⟨hv,hsp,c,e,fz,hs,hoff,hfz,ih h (hl.upd (hl.ro_of hs) _)⟩
 | new o k ih=>intro Q I h hl b hb hs;exact ih b (h b hb hs) (hl.upd hb _)
 | shape r k ih=>intro Q I h hl;obtain⟨o,hr,h⟩:=h;exact⟨o,hr,ih _ h hl⟩
 | freeze a n k ih=>intro Q I h hl;obtain⟨hn,o,hr,h⟩:=h;exact⟨hn,o,hr,ih h (hl.upd (hl.ro_of hr) _)⟩
 | frozen a k ih=>intro Q I h hl;obtain⟨o,hr,h⟩:=h;exact⟨o,hr,ih _ h hl⟩
 | getObj r k ih=>intro Q I h hl;obtain⟨o,hr,hi,h⟩:=h;exact⟨o,hr,hi,ih _ h hl⟩
 | setObj r o k ih=>intro Q I h hl;obtain⟨o',hr,hi,h⟩:=h;exact⟨o',hr,hi,ih h (hl.upd (hl.ro_of hr) _)⟩
 | choose q k ih=>
  intro Q I h hl
  simp only[awp]at h⊢
  split
  .rename_i e;rw[mc e]at h;exact ih _ h hl
  .rename_i e;rw[ma e]at h;intro n;exact ih _ (h n) hl
 | sys c k ih=>intro Q I h;exact h.elim
 | program k ih=>intro Q I h hl;exact ih _ h hl
 | mark m k ih=>intro Q I h hl;exact ih h hl
 | halt e=>intro Q I h;exact h.elim
def qc.live{P:Program}{B:ZB}{ro:AH}(h:qc P B ro f args I Q):qc P B ro f args I fun v I'=>Q v I'/\jW B ro I':=
 fun φ w ho=>(h φ w ho).mono fun _ _ ⟨v,I',e,q,o⟩=>⟨v,I',e,⟨q,φ,_,o⟩,o⟩
def qc.nonempty{P:Program}{B:ZB}{ro:AH}(h:qc P B ro f args I Q)(hl:jW B ro I):∃ v I',Q v I':=by
 obtain⟨φ,w,ho⟩:=hl
 obtain⟨_,_,_,⟨v,I',_,q,_⟩,_⟩:=h φ w ho []
 exact⟨v,I',q⟩
def wW(fr fr':Fr):Prop:= ∀i,look fr i=look fr' i
def abW(K:Fr->AH->Prop):Prop:= ∀fr fr' I,wW fr fr'->K fr I->K fr' I
def wW.symm(h:wW fr fr'):wW fr' fr:=fun i=>(h i).symm
def wW.refl(fr:Fr):wW fr fr:=fun _=>rfl
def aig{d:Tmp}:look (qD (some d) v fr) i=if i=d then some v else look fr i:=by
 simp only[qD,look]
 cases hb:Nat.beq i d with
 | true=>have:=Nat.eq_of_beq_eq_true hb;subst this;simp
 | false=>
  have hne:i≠d:=by intro e;subst e;simp at hb
  simp[hne]
def wW.put(h:wW fr fr')(d:Option Tmp)(v:ZC):wW (qD d v fr) (qD d v fr'):=by
 cases d with
 | none=>exact h
 | some d=>intro i;simp only[aig,h i]
def wW.comm{x y:Option Tmp}(h:∀ d,x=some d->y≠some d)(v u:ZC)(fr:Fr):wW (qD x v (qD y u fr)) (qD y u (qD x v fr)):=by
 cases x with
 | none=>exact wW.refl _
 | some d=>
  cases y with
  | none=>exact wW.refl _
  | some e=>
   have hne:e≠d:=fun q=>h d rfl (by rw[q])
   intro i
   simp only[aig]
   by_cases h1:i=d
   .subst h1;rw[mc rfl,ma (fun q=>hne q.symm),mc rfl]
   .rw[ma h1,ma h1]
def ate(h:wW fr fr')(x:Operand):qm fr x=qm fr' x:=by
 cases x<;>simp[qm]
 exact h _
def vX.eq(h:vX O fr)(he:wW fr fr'):vX O fr':=fun x v hx=>h x v (by rw[ate he];exact hx)
def avU(fr:Fr):Operand->ZC:=fun x=>(qm fr x).getD undef
def aac(fr:Fr):vX (avU fr) fr:=fun x v h=>by simp[avU,h]
def yt(P:Program)(ro τ:AH)(o:Oper)(fr:Fr)(u:ZC):Prop:= ∀O,vX O fr->qh P ro (execOp O o) τ=some (.value u)
def km(P:Program)(ro τ:AH)(ops:Array Oper)(o:Oper)(fr:Fr)(u:ZC):Prop:=
 match o.guard with
 | none=>yt P ro τ o fr u
 | some (j,want)=> ∃t v,(ops[j]?).bind (·.dst)=some t/\look fr t=some v/\((v= .bool want/\yt P ro τ o fr u)\/(v≠ .bool want/\u=undef))
abbrev ae0:AH:=fun _=>none
def qG(P:Program)(ro:AH)(o:Oper)(fr:Fr)(u:ZC):Prop:= ∀O,vX O fr->qh P ro (execOp O o) (fun _=>none)=some (.value u)
def akc(P:Program):Sem Next->Option (Obj×(Nat->Sem Next))
 | .new o k=>some (o,k)
 | .program k=>akc P (k P)
 | .mark _ k=>akc P k
 | _=>none
def ad7(P:Program)(ro:AH)(o:Oper)(fr:Fr)(ob:Obj)(mk:Nat->ZC):Prop:= ∀O,vX O fr->∃ k,akc P (execOp O o)=some (ob,k)/\∀ b,qh P ro (k b) (fun _=>none)=some (.value (mk b))
abbrev Fam:=Option (Nat->Obj×(Nat->ZC))
def NQ(ro:AH)(F:Fam)(I:AH)(A:ZC->AH->Prop):Prop:=match F with
 | none=>A undef I
 | some G=> ∀n b,ro b=none->I b=none->A ((G n).2 b) (upd I b (G n).1)
def adj(P:Program)(ro:AH)(o:Oper)(fr:Fr)(G:Nat->Obj×(Nat->ZC)):Prop:= ∀O,vX O fr->∀ (Q:Next->AH->Prop) (I:AH),awp P ro (execOp O o) Q I↔∀ n b,ro b=none->I b=none->Q (.value ((G n).2 b)) (upd I b (G n).1)
def pV(P:Program)(ro:AH)(ops:Array Oper)(o:Oper)(fr:Fr)(F:Fam):Prop:=
 match o.guard with
 | none=> ∃G,F=some G/\adj P ro o fr G
 | some (j,want)=> ∃t v,(ops[j]?).bind (·.dst)=some t/\look fr t=some v/\((v= .bool want/\∃ G,F=some G/\adj P ro o fr G)\/(v≠ .bool want/\F=none))
section
variable{P:Program}{B:ZB}{ro:AH}{N:Nat}{ops:Array Oper}
def au4{ro:AH}{o:Obj}(h:rd ro (fun _=>none) b=some o):rd ro I b=some o:=by
 unfold rd at h⊢
 split
 .rename_i x e;rw[e]at h;exact h
 .rename_i e;rw[e]at h;cases h
def alE{ro:AH}(h:qa ro (fun _=>none) a=some v):qa ro I a=some v:=by
 unfold qa at h⊢
 cases hb:rd ro (fun _=>none) a.block with
 | none=>rw[hb]at h;simp[zF]at h
 | some o=>rw[au4 hb,<-hb];exact h
def ad8(s:Sem α):∀ {a:α} {Q:α->AH->Prop} {I:AH},qh P ro s (fun _=>none)=some a->(awp P ro s Q I↔Q a I):=by
 induction s with
 | pure x=>intro a Q I h;cases h;exact Iff.rfl
 | load m x k ih=>
  intro a Q I h
  simp only[qh]at h
  cases hc:qa ro (fun _=>none) x with
  | none=>rw[hc]at h;cases h
  | some v=>
   rw[hc]at h
   constructor
   .rintro⟨v',hc',h'⟩
    rw[alE hc]at hc';cases hc'
    exact(ih v h).1 h'
   .intro hq;exact⟨v,alE hc,(ih v h).2 hq⟩
 | program k ih=>intro a Q I h;exact ih _ h
 | mark m k ih=>intro a Q I h;exact ih h
 | _=>intro a Q I h;cases h
def alF(s:Sem α):∀ {a:α} {I I':AH},HLe I I'->qh P ro s I=some a->qh P ro s I'=some a:=by
 induction s with
 | pure x=>intro a I I' _ h;exact h
 | load m x k ih=>
  intro a I I' hl h
  simp only[qh]at h⊢
  cases hc:qa ro I x with
  | none=>rw[hc]at h;cases h
  | some v=>
   rw[hc]at h
   have:qa ro I' x=some v:=by
    unfold qa at hc⊢
    cases hb:rd ro I x.block with
    | none=>rw[hb]at hc;simp[zF]at hc
    | some o=>
     have h2:rd ro I' x.block=some o:=by
      unfold rd at hb⊢
      split
      .rename_i y e;rw[e]at hb;exact hb
      .rename_i e;rw[e]at hb;exact hl _ _ hb
     rw[h2,<-hb];exact hc
   rw[this];exact ih v hl h
 | program k ih=>intro a I I' hl h;exact ih _ hl h
 | mark m k ih=>intro a I I' hl h;exact ih hl h
 | _=>intro a I I' hl h;cases h
def agh(s:Sem α):∀ {a:α} {Q:α->AH->Prop} {I:AH},qh P ro s I=some a->Q a I->awp P ro s Q I:=by
 induction s with
 | pure x=>intro a Q I h hq;cases h;exact hq
 | load m x k ih=>
  intro a Q I h hq
  simp only[qh]at h
  cases hc:qa ro I x with
  | none=>rw[hc]at h;cases h
  | some v=>rw[hc]at h;exact⟨v,hc,ih v h hq⟩
 | program k ih=>intro a Q I h hq;exact ih _ h hq
 | mark m k ih=>intro a Q I h hq;exact ih h hq
 | _=>intro a Q I h hq;cases h
def ajt(s:Sem Next):∀ {ob:Obj} {k:Nat->Sem Next} {Q:Next->AH->Prop} {I:AH},akc P s=some (ob,k)->(awp P ro s Q I↔∀ b,ro b=none->I b=none->awp P ro (k b) Q (upd I b ob)):=by
 induction s with
 | new o k ih=>intro ob k' Q I h;simp only[akc,Option.some.injEq,Prod.mk.injEq]at h;obtain⟨rfl,rfl⟩:=h;exact Iff.rfl
 | program k ih=>intro ob k' Q I h;exact ih _ h
 | mark m k ih=>intro ob k' Q I h;exact ih h
 | _=>intro ob k' Q I h;cases h
def D1(P:Program)(B:ZB)(ro:AH)(N:Nat)(ops:Array Oper)(cl:Nat->Nat)(i:Nat)(K:Fr->AH->Prop)(fr:Fr)(I:AH):Prop:=
 match ops[i]? with
 | none=>False
 | some o=>match cl i with
  | 0=>wl N o.dst=true/\∃ u,km P ro ae0 ops o fr u/\K (qD o.dst u fr) I
  | 3=>wl N o.dst=true/\∃ u,km P ro I ops o fr u/\K (qD o.dst u fr) I
  | 1=>wl N o.dst=true/\∃ F,pV P ro ops o fr F/\NQ ro F I fun v I'=>K (qD o.dst v fr) I'
  | _=>ke P B ro N ops o K fr I
def qV(P:Program)(B:ZB)(ro:AH)(N:Nat)(ops:Array Oper)(cl:Nat->Nat)(K:Fr->AH->Prop):List Nat->Fr->AH->Prop
 | [],fr,I=>K fr I
 | i::rest,fr,I=>D1 P B ro N ops cl i (qV P B ro N ops cl K rest) fr I
def aqF{dst:Option Tmp}(h:∀ fr I,K fr I->K' fr I){x:Next}(hq:aqD P B ro dst fr K x I):aqD P B ro dst fr K' x I:=by
 cases x<;>first | exact h _ _ hq | exact qc.mono hq fun _ _=>h _ _ | exact hq
def wi.mono(h:∀ fr I,K fr I->K' fr I)(hx:wi P B ro o K fr I):wi P B ro o K' fr I:=
 fun O hρ=>qk _ (hx O hρ) fun _ _=>aqF h
def ke.mono(h:∀ fr I,K fr I->K' fr I)(hx:ke P B ro N ops o K fr I):ke P B ro N ops o K' fr I:=by
 obtain⟨hd,hx⟩:=hx
 refine⟨hd,?_⟩
 split at hx
 .exact hx.mono h
 .obtain⟨t,v,h1,h2,h3⟩:=hx
  exact⟨t,v,h1,h2,h3.imp (fun⟨a,b⟩=>⟨a,b.mono h⟩) (fun⟨a,b⟩=>⟨a,h _ _ b⟩)⟩
def wi.live(hx:wi P B ro o K fr I)(hl:jW B ro I):wi P B ro o (fun fr I=>K fr I/\jW B ro I) fr I:=by
 intro O hρ
 refine qk _ (atd _ (hx O hρ) hl) ?_
 rintro x I' ⟨h1,h2⟩
 cases x<;>first | exact⟨h1,h2⟩ | exact(qc.live h1).mono fun _ _ h=>h | exact h1
def ke.live(hx:ke P B ro N ops o K fr I)(hl:jW B ro I):ke P B ro N ops o (fun fr I=>K fr I/\jW B ro I) fr I:=by
 obtain⟨hd,hx⟩:=hx
 refine⟨hd,?_⟩
 split at hx
 .exact hx.live hl
 .obtain⟨t,v,h1,h2,h3⟩:=hx
  exact⟨t,v,h1,h2,h3.imp (fun⟨a,b⟩=>⟨a,b.live hl⟩) (fun⟨a,b⟩=>⟨a,b,hl⟩)⟩
def ke.nonempty(hx:ke P B ro N ops o K fr I)(hl:jW B ro I):∃ v I',K (qD o.dst v fr) I':=by
 have go:∀ (hx:wi P B ro o K fr I),∃v I',K (qD o.dst v fr) I':=by
  intro hx
  obtain⟨φ,w,ho⟩:=hl
  obtain⟨x,w',I',_,hq,ho'⟩:=ajs _ (hx _ (aac fr)) ho
  cases x with
  | value v=>exact⟨v,I',hq⟩
  | skip=>exact⟨_,I',hq⟩
  | enter f args=>obtain⟨v,I2,h⟩:=qc.nonempty hq ⟨φ,w',ho'⟩;exact⟨v,I2,h⟩
  | _=>exact hq.elim
 obtain⟨_,hx⟩:=hx
 split at hx
 .exact go hx
 .obtain⟨t,v,h1,h2,h3⟩:=hx
  rcases h3 with⟨_,b⟩ | ⟨_,b⟩
  .exact go b
  .exact⟨_,I,b⟩
def wi.frame(hx:wi P B ro o K fr I)(hd:qL I ψ):wi P B ro o (fun fr I'=> ∃τ,I'=join τ ψ/\qL τ ψ/\K fr τ) fr (join I ψ):=by
 intro O hρ
 refine qk _ (arM _ (hx O hρ) hd) ?_
 rintro x I' ⟨τ,rfl,h1,h2⟩
 cases x<;>first | exact⟨τ,rfl,h1,h2⟩ | exact qc.frame h2 h1 | exact h2
def ke.frame(hx:ke P B ro N ops o K fr I)(hd:qL I ψ):ke P B ro N ops o (fun fr I'=> ∃τ,I'=join τ ψ/\qL τ ψ/\K fr τ) fr (join I ψ):=by
 obtain⟨h0,hx⟩:=hx
 refine⟨h0,?_⟩
 split at hx
 .exact hx.frame hd
 .obtain⟨t,v,h1,h2,h3⟩:=hx
  exact⟨t,v,h1,h2,h3.imp (fun⟨a,b⟩=>⟨a,b.frame hd⟩) (fun⟨a,b⟩=>⟨a,I,rfl,hd,b⟩)⟩
def km.uniq{u':ZC}(h:km P ro τ ops o fr u)(h':km P ro τ ops o fr u'):u=u':=by
 have pe:∀ {u u'},yt P ro τ o fr u->yt P ro τ o fr u'->u=u':=by
  intro u u' a b
  have:=(a _ (aac fr)).symm.trans (b _ (aac fr))
  simpa using this
 unfold km at h h'
 split at h
 .rename_i hg;rw[hg]at h';exact pe h h'
 .rename_i j want hg
  rw[hg]at h'
  obtain⟨t,v,h1,h2,h3⟩:=h
  obtain⟨t',v',h1',h2',h3'⟩:=h'
  rw[h1]at h1';cases h1'
  rw[h2]at h2';cases h2'
  rcases h3 with⟨a,b⟩ | ⟨a,b⟩<;>rcases h3' with⟨a',b'⟩ | ⟨a',b'⟩
  .exact pe b b'
  .exact mt a a'
  .exact mt a' a
  .rw[b,b']
def km.mono{τ':AH}(hl:HLe τ τ')(h:km P ro τ ops o fr u):km P ro τ' ops o fr u:=by
 have pe:yt P ro τ o fr u->yt P ro τ' o fr u:=fun a O hρ=>alF _ hl (a O hρ)
 unfold km at h⊢
 split at h
 .exact pe h
 .obtain⟨t,v,h1,h2,h3⟩:=h
  exact⟨t,v,h1,h2,h3.imp (fun⟨a,b⟩=>⟨a,pe b⟩) id⟩
def aaq(o:Oper):Bool:=match o.op with | .select .. =>false | _=>true
def aqG(h:aaq o=true):∀ cs b,o.op≠ .select cs b:=by
 intro cs b e;simp[aaq,e]at h
def aqH(O:Operand->ZC)(fr:Fr)(d:Nat):Operand->Value
 | .tmp t=>if t=d then(look fr d).getD (O (.tmp d))else O (.tmp t)
 | x=>O x
def aih(hs:aaq o=true)(hd:d∉o.looksAt ops):execOp (aqH O fr d) o=execOp O o:=by
 refine execOp_congr o (aqG hs) fun x hx=>?_
 cases x with
 | tmp t=>
  have:t≠d:=by
   intro e;subst e;apply hd
   unfold Oper.looksAt
   refine mv.2 (.inl (List.mem_filterMap.2 ⟨.tmp t,j4 hx,rfl⟩))
  simp[aqH,this]
 | _=>rfl
def ahg(h:vX O fr')(he:∀ i,i≠d->look fr i=look fr' i):vX (aqH O fr d) fr:=by
 intro x v hx
 cases x with
 | tmp t=>
  simp only[qm]at hx
  simp only[aqH]
  by_cases e:t=d
  .subst e;simp[hx]
  .rw[ma e];exact h (.tmp t) v (by simp only[qm];rw[<-he t e];exact hx)
 | _=>exact h _ v hx
def agd:∀ i,i≠d->look (qD (some d) v fr) i=look fr i:=by
 intro i hi;rw[aig,ma hi]
def aju{j t:Nat}{want:Bool}(hg:o.guard=some (j,want))(ht:(ops[j]?).bind (·.dst)=some t)(hd:d∉o.looksAt ops):t≠d:=by
 intro e;subst e;apply hd
 unfold Oper.looksAt
 rw[hg]
 exact mv.2 (.inr (by simp[ht]))
def yt.off(hs:aaq o=true)(hd:d∉o.looksAt ops)(he:∀ i,i≠d->look fr i=look fr' i)(h:yt P ro τ o fr u):yt P ro τ o fr' u:=by
 intro O hρ
 rw[<-aih (O:=O) (fr:=fr) hs hd]
 exact h _ (ahg hρ he)
def km.off(hs:aaq o=true)(hd:d∉o.looksAt ops)(he:∀ i,i≠d->look fr i=look fr' i)(h:km P ro τ ops o fr u):km P ro τ ops o fr' u:=by
 unfold km at h⊢
 split at h
 .exact h.off hs hd he
 .rename_i j want hg
  obtain⟨t,v,h1,h2,h3⟩:=h
  exact⟨t,v,h1,by rw[<-he t (aju hg h1 hd)];exact h2,h3.imp (fun⟨a,b⟩=>⟨a,b.off hs hd he⟩) id⟩
def adj.off(hs:aaq o=true)(hd:d∉o.looksAt ops)(he:∀ i,i≠d->look fr i=look fr' i){G:Nat->Obj×(Nat->ZC)}(h:adj P ro o fr G):adj P ro o fr' G:=by
 intro O hρ
 rw[<-aih (O:=O) (fr:=fr) hs hd]
 exact h _ (ahg hρ he)
def pV.off(hs:aaq o=true)(hd:d∉o.looksAt ops)(he:∀ i,i≠d->look fr i=look fr' i){F:Fam}(h:pV P ro ops o fr F):pV P ro ops o fr' F:=by
 unfold pV at h⊢
 split at h
 .obtain⟨G,rfl,h⟩:=h
  exact⟨G,rfl,h.off hs hd he⟩
 .rename_i j want hg
  obtain⟨t,v,h1,h2,h3⟩:=h
  exact⟨t,v,h1,by rw[<-he t (aju hg h1 hd)];exact h2,h3.imp (fun⟨a,G,e,b⟩=>⟨a,G,e,b.off hs hd he⟩) id⟩
def ke.off(hs:aaq o=true)(hd:d∉o.looksAt ops)(he:∀ i,i≠d->look fr i=look fr' i)
  (hk:∀ v I,K (qD o.dst v fr) I->K' (qD o.dst v fr') I) (h:ke P B ro N ops o K fr I):ke P B ro N ops o K' fr' I:=by
 have go:wi P B ro o K fr I->wi P B ro o K' fr' I:=by
  intro h O hρ
  rw[<-aih (O:=O) (fr:=fr) hs hd]
  refine qk _ (h _ (ahg hρ he)) ?_
  intro x I' hx
  cases x<;>first | exact hk _ _ hx | exact qc.mono hx fun v I h=>hk _ _ h | exact hx
 obtain⟨h0,h⟩:=h
 refine⟨h0,?_⟩
 split at h
 .exact go h
 .rename_i j want hg
  obtain⟨t,v,h1,h2,h3⟩:=h
  exact⟨t,v,h1,by rw[<-he t (aju hg h1 hd)];exact h2,h3.imp (fun⟨a,b⟩=>⟨a,go b⟩) (fun⟨a,b⟩=>⟨a,hk _ _ b⟩)⟩
def yt.eq(he:wW fr fr')(h:yt P ro τ o fr u):yt P ro τ o fr' u:=fun O hρ=>h O (hρ.eq he.symm)
def km.eq(he:wW fr fr')(h:km P ro τ ops o fr u):km P ro τ ops o fr' u:=by
 unfold km at h⊢
 split at h
 .exact h.eq he
 .obtain⟨t,v,h1,h2,h3⟩:=h
  exact⟨t,v,h1,by rw[<-he t];exact h2,h3.imp (fun⟨a,b⟩=>⟨a,b.eq he⟩) id⟩
def pV.eq(he:wW fr fr'){F:Fam}(h:pV P ro ops o fr F):pV P ro ops o fr' F:=by
 unfold pV at h⊢
 split at h
 .obtain⟨G,rfl,h⟩:=h
  exact⟨G,rfl,fun O hρ=>h O (hρ.eq he.symm)⟩
 .obtain⟨t,v,h1,h2,h3⟩:=h
  exact⟨t,v,h1,by rw[<-he t];exact h2,h3.imp (fun⟨a,G,e,b⟩=>⟨a,G,e,fun O hρ=>b O (hρ.eq he.symm)⟩) id⟩
def NQ.map{F:Fam}{A A':ZC->AH->Prop}(h:∀ v I,A v I->A' v I)(k:NQ ro F I A):NQ ro F I A':=by
 cases F with
 | none=>exact h _ _ k
 | some G=>exact fun n b hb hs=>h _ _ (k n b hb hs)
def ke.eq(he:wW fr fr')(hk:∀ v I,K (qD o.dst v fr) I->K' (qD o.dst v fr') I)(h:ke P B ro N ops o K fr I):ke P B ro N ops o K' fr' I:=by
 have go:wi P B ro o K fr I->wi P B ro o K' fr' I:=by
  intro h O hρ
  refine qk _ (h O (hρ.eq he.symm)) ?_
  intro x I' hx
  cases x<;>first | exact hk _ _ hx | exact qc.mono hx fun v I h=>hk _ _ h | exact hx
 obtain⟨h0,h⟩:=h
 refine⟨h0,?_⟩
 split at h
 .exact go h
 .obtain⟨t,v,h1,h2,h3⟩:=h
  exact⟨t,v,h1,by rw[<-he t];exact h2,h3.imp (fun⟨a,b⟩=>⟨a,go b⟩) (fun⟨a,b⟩=>⟨a,hk _ _ b⟩)⟩
def D1.closed(hK:abW K):abW (D1 P B ro N ops cl i K):=by
 intro fr fr' I he h
 unfold D1 at h⊢
 split at h
 .exact h
 .rename_i o ho
  split at h
  .obtain⟨h0,u,h1,h2⟩:=h
   exact⟨h0,u,h1.eq he,hK _ _ _ (he.put _ _) h2⟩
  .obtain⟨h0,u,h1,h2⟩:=h
   exact⟨h0,u,h1.eq he,hK _ _ _ (he.put _ _) h2⟩
  .obtain⟨h0,F,h1,h2⟩:=h
   exact⟨h0,F,h1.eq he,h2.map fun v I hk=>hK _ _ _ (he.put _ _) hk⟩
  .exact h.eq he fun v I hk=>hK _ _ _ (he.put _ _) hk
def qV.closed(hK:abW K)(l:List Nat):abW (qV P B ro N ops cl K l):=by
 induction l with
 | nil=>exact hK
 | cons i rest ih=>exact D1.closed ih
def D1.mono(hl:jW B ro I)(h:∀ fr I,jW B ro I->K fr I->K' fr I)(hx:D1 P B ro N ops cl i K fr I):D1 P B ro N ops cl i K' fr I:=by
 unfold D1 at hx⊢
 split at hx
 .exact hx
 .split at hx
  .obtain⟨h0,u,h1,h2⟩:=hx
   exact⟨h0,u,h1,h _ _ hl h2⟩
  .obtain⟨h0,u,h1,h2⟩:=hx
   exact⟨h0,u,h1,h _ _ hl h2⟩
  .obtain⟨h0,F,h1,h2⟩:=hx
   refine⟨h0,F,h1,?_⟩
   cases F with
   | none=>exact h _ _ hl h2
   | some G=>exact fun n b hb hs=>h _ _ (hl.upd hb _) (h2 n b hb hs)
  .exact(hx.live hl).mono fun fr I ⟨a,b⟩=>h fr I b a
end
end SL
namespace SL
open Go
section
variable{P:Program}{B:ZB}{ro:AH}{N:Nat}{ops:Array Oper}
def ajv(b:Nat)(o:Obj):AH:=fun i=>if i=b then some o else none
def alG{I:AH}{b:Nat}(h:I b=none)(o:Obj):upd I b o=join I (ajv b o):=by
 funext i
 unfold upd join ajv
 by_cases e:i=b
 .subst e;rw[mc rfl,h];simp
 .rw[ma e,ma e];cases I i<;>rfl
def qL.single{I:AH}{b:Nat}(h:I b=none)(o:Obj):qL I (ajv b o):=by
 intro i x hx
 unfold SL.ajv
 by_cases e:i=b
 .subst e;rw[h]at hx;cases hx
 .rw[ma e]
def atf{I:AH}{b c:Nat}(h:b≠c)(o p:Obj):upd (upd I b o) c p=upd (upd I c p) b o:=by
 funext i
 unfold upd
 by_cases e:i=c
 .subst e;rw[mc rfl,ma (fun q=>h q.symm),mc rfl]
 .rw[ma e,ma e]
def atg{I:AH}{b c:Nat}{o:Obj}(h:upd I b o c=none):c≠b/\I c=none:=by
 unfold upd at h
 split at h
 .cases h
 .rename_i e;exact⟨e,h⟩
def arN{I:AH}{b c:Nat}{o:Obj}(h:c≠b)(hs:I c=none):upd I b o c=none:=by unfold upd;rw[ma h];exact hs
def abX(ops:Array Oper)(cl:Nat->Nat)(x i:Nat):Bool:=
 match ops[x]?,ops[i]? with
 | some ox,some oi=>ox.apart ops oi && aaq ox && aaq oi && (cl x == 0 || cl i == 0 || cl i == 1 || (cl x == 3 && cl i == 3))
 | _,_=>false
def ath{ox oi:Oper}(ha:ox.apart ops oi=true)(v u:ZC)(fr:Fr):wW (qD oi.dst u (qD ox.dst v fr)) (qD ox.dst v (qD oi.dst u fr)):=
 (wW.comm (Oper.apart_spec ha).2.1 v u fr).symm
def km.past{τ:AH}{o:Oper}(hs:aaq o=true){d:Option Tmp}(hd:∀ t,d=some t->t∉o.looksAt ops){v:ZC}{fr:Fr}{u:ZC}(h:km P ro τ ops o (qD d v fr) u):km P ro τ ops o fr u:=by
 cases d with
 | none=>exact h
 | some t=>exact h.off hs (hd t rfl) (agd)
def km.under{τ:AH}{o:Oper}(hs:aaq o=true){d:Option Tmp}(hd:∀ t,d=some t->t∉o.looksAt ops){v:ZC}{fr:Fr}{u:ZC}(h:km P ro τ ops o fr u):km P ro τ ops o (qD d v fr) u:=by
 cases d with
 | none=>exact h
 | some t=>exact h.off hs (hd t rfl) (fun i hi=>(agd i hi).symm)
def pV.past{o:Oper}(hs:aaq o=true){d:Option Tmp}(hd:∀ t,d=some t->t∉o.looksAt ops){v:ZC}{fr:Fr}{F:Fam}(h:pV P ro ops o (qD d v fr) F):pV P ro ops o fr F:=by
 cases d with
 | none=>exact h
 | some t=>exact h.off hs (hd t rfl) (agd)
def pV.under{o:Oper}(hs:aaq o=true){d:Option Tmp}(hd:∀ t,d=some t->t∉o.looksAt ops){v:ZC}{fr:Fr}{F:Fam}(h:pV P ro ops o fr F):pV P ro ops o (qD d v fr) F:=by
 cases d with
 | none=>exact h
 | some t=>exact h.off hs (hd t rfl) (fun i hi=>(agd i hi).symm)
def pV.trans{o:Oper}{fr:Fr}{F F':Fam}(h:pV P ro ops o fr F)(h':pV P ro ops o fr F'){I:AH}{A:ZC->AH->Prop}(k:NQ ro F I A):NQ ro F' I A:=by
 have fam:∀ G G',adj P ro o fr G->adj P ro o fr G'->NQ ro (some G) I A->NQ ro (some G') I A:=by
  intro G G' g g' k n b hb hs
  have h1:=(g _ (aac fr) (fun x I'=> ∃v,x= .value v/\A v I') I).2 fun n b hb hs=>⟨_,rfl,k n b hb hs⟩
  obtain⟨v,e,ha⟩:=(g' _ (aac fr) _ I).1 h1 n b hb hs
  cases e
  exact ha
 unfold pV at h h'
 split at h
 .rename_i hg
  rw[hg]at h'
  obtain⟨G,rfl,h⟩:=h
  obtain⟨G',rfl,h'⟩:=h'
  exact fam G G' h h' k
 .rename_i j want hg
  rw[hg]at h'
  obtain⟨t,v,h1,h2,h3⟩:=h
  obtain⟨t',v',h1',h2',h3'⟩:=h'
  rw[h1]at h1';cases h1'
  rw[h2]at h2';cases h2'
  rcases h3 with⟨a,G,rfl,b⟩ | ⟨a,rfl⟩<;>rcases h3' with⟨a',G',rfl,b'⟩ | ⟨a',rfl⟩
  .exact fam G G' b b' k
  .exact mt a a'
  .exact mt a' a
  .exact k
def ke.past{o:Oper}(hs:aaq o=true){d:Option Tmp}(hd:∀ t,d=some t->t∉o.looksAt ops){w:ZC}{fr:Fr}{K K':Fr->AH->Prop}{I:AH}
  (hk:∀ v I,K (qD o.dst v (qD d w fr)) I->K' (qD o.dst v fr) I) (h:ke P B ro N ops o K (qD d w fr) I):ke P B ro N ops o K' fr I:=by
 cases d with
 | none=>exact h.eq (wW.refl _) hk
 | some t=>exact h.off hs (hd t rfl) (agd) hk
def ke.under{o:Oper}(hs:aaq o=true){d:Option Tmp}(hd:∀ t,d=some t->t∉o.looksAt ops){w:ZC}{fr:Fr}{K K':Fr->AH->Prop}{I:AH}
  (hk:∀ v I,K (qD o.dst v fr) I->K' (qD o.dst v (qD d w fr)) I) (h:ke P B ro N ops o K fr I):ke P B ro N ops o K' (qD d w fr) I:=by
 cases d with
 | none=>exact h.eq (wW.refl _) hk
 | some t=>exact h.off hs (hd t rfl) (fun i hi=>(agd i hi).symm) hk
def jW.fresh{I:AH}(h:jW B ro I):∃ b,ro b=none/\I b=none:=by
 obtain⟨φ,w,h⟩:=h;exact⟨_,h.to_new.2.2,h.to_new.1⟩
def aof(cl:Nat->Nat)(i:Nat):Prop:=cl i=0\/cl i=3
def ae1(cl:Nat->Nat)(i:Nat)(I:AH):AH:=if cl i=0 then ae0 else I
def abh{cl:Nat->Nat}{i:Nat}{o:Oper}{K:Fr->AH->Prop}{fr:Fr}{I:AH}(ho:ops[i]?=some o)(hc:aof cl i):
  D1 P B ro N ops cl i K fr I↔wl N o.dst=true/\∃ u,km P ro (ae1 cl i I) ops o fr u/\K (qD o.dst u fr) I:=by
 unfold D1 ae1;rw[ho];dsimp only
 rcases hc with hc | hc<;>rw[hc]<;>simp
def aay{cl:Nat->Nat}{i:Nat}{o:Oper}{K:Fr->AH->Prop}{fr:Fr}{I:AH}(ho:ops[i]?=some o)(hc:cl i=1):
  D1 P B ro N ops cl i K fr I↔wl N o.dst=true/\∃ F,pV P ro ops o fr F/\NQ ro F I fun v I'=>K (qD o.dst v fr) I':=by
 unfold D1;rw[ho];dsimp only;rw[hc];exact Iff.rfl
def agi{cl:Nat->Nat}{i:Nat}{o:Oper}{K:Fr->AH->Prop}{fr:Fr}{I:AH}(ho:ops[i]?=some o)(h0:cl i≠0)(h1:cl i≠1)(h3:cl i≠3):
  D1 P B ro N ops cl i K fr I↔ke P B ro N ops o K fr I:=by
 unfold D1;rw[ho];dsimp only
 split
 .rename_i e;exact mt e h0
 .rename_i e;exact mt e h3
 .rename_i e;exact mt e h1
 .exact Iff.rfl
def aqI{cl:Nat->Nat}{i:Nat}{I I':AH}(h:HLe I I'):HLe (ae1 cl i I) (ae1 cl i I'):=by
 unfold ae1;split
 .exact HLe.refl _
 .exact h
def HLe.upd'{I:AH}{b:Nat}(hb:I b=none)(o:Obj):HLe I (upd I b o):=by
 intro i x hx
 unfold upd
 rw[ma (by intro e;subst e;rw[hb]at hx;cases hx)];exact hx
def NQ.mono{F:Fam}{I:AH}{A A':ZC->AH->Prop}(k:NQ ro F I A)(h:∀ v I',HLe I I'->A v I'->A' v I'):NQ ro F I A':=by
 cases F with
 | none=>exact h _ _ (HLe.refl _) k
 | some G=>exact fun n b hb hs=>h _ _ (HLe.upd' hs _) (k n b hb hs)
def NQ.nonempty{F:Fam}{I:AH}{A:ZC->AH->Prop}(hl:jW B ro I)(k:NQ ro F I A):∃ v I',A v I':=by
 cases F with
 | none=>exact⟨_,_,k⟩
 | some G=>
  obtain⟨b,hb,hs⟩:=hl.fresh
  exact⟨_,_,k 0 b hb hs⟩
def NQ.comm{F F':Fam}{I:AH}{A:ZC->ZC->AH->Prop}(k:NQ ro F I fun v I1=>NQ ro F' I1 fun u I2=>A v u I2):NQ ro F' I fun u I1=>NQ ro F I1 fun v I2=>A v u I2:=by
 cases F with
 | none=>cases F' with
  | none=>exact k
  | some G'=>exact fun n b hb hs=>k n b hb hs
 | some G=>cases F' with
  | none=>exact fun n b hb hs=>k n b hb hs
  | some G'=>
   intro n b hb hs m c hc hsc
   obtain⟨hcb,hsc'⟩:=atg hsc
   have:=k m c hc hsc' n b hb (arN (fun q=>hcb q.symm) hs)
   rw[atf (fun q=>hcb q.symm)]
   exact this
def swap{cl:Nat->Nat}{x i:Nat}(hsw:abX ops cl x i=true){K:Fr->AH->Prop}(hK:abW K){fr:Fr}{I:AH}(hl:jW B ro I)
  (h:D1 P B ro N ops cl x (D1 P B ro N ops cl i K) fr I):D1 P B ro N ops cl i (D1 P B ro N ops cl x K) fr I:=by
 unfold abX at hsw
 split at hsw
 case h_2=>cases hsw
 rename_i ox oi hx hi
 simp only[mu,Bool.or_eq_true,beq_iff_eq]at hsw
 obtain⟨⟨⟨ha,hsx⟩,hsi⟩,hcl⟩:=hsw
 obtain⟨hxi,hne,hix⟩:=Oper.apart_spec ha
 have flip:∀ v u fr I,K (qD oi.dst u (qD ox.dst v fr)) I->K (qD ox.dst v (qD oi.dst u fr)) I:=fun v u fr I hk=>hK _ _ _ (ath ha v u fr) hk
 by_cases vx:aof cl x
 .-- x gives a value and turns nothing
  obtain⟨h0,u,h1,h2⟩:=(abh hx vx).1 h
  by_cases vi:aof cl i
  .obtain⟨k0,u',k1,k2⟩:=(abh hi vi).1 h2
   exact(abh hi vi).2 ⟨k0,u',k1.past hsi hxi,(abh hx vx).2 ⟨h0,u,h1.under hsx hix,flip _ _ _ _ k2⟩⟩
  .by_cases c1:cl i=1
   .obtain⟨k0,F,k1,k2⟩:=(aay hi c1).1 h2
    exact(aay hi c1).2 ⟨k0,F,k1.past hsi hxi,k2.mono fun v I' hle hk=>(abh hx vx).2 ⟨h0,u,(h1.under hsx hix).mono (aqI hle),flip _ _ _ _ hk⟩⟩
   .have e0:cl i≠0:=fun e=>vi (.inl e)
    have e3:cl i≠3:=fun e=>vi (.inr e)
    have cx:cl x=0:=by
     rcases hcl with((h | h) | h) | h
     .exact h
     .exact mt h e0
     .exact mt h c1
     .exact mt h.2 e3
    refine(agi hi e0 c1 e3).2 ?_
    refine ke.past hsi hxi (fun v I' hk=>?_) ((agi hi e0 c1 e3).1 h2)
    refine(abh hx vx).2 ⟨h0,u,?_,flip _ _ _ _ hk⟩
    have:ae1 cl x I'=ae1 cl x I:=by simp[ae1,cx]
    rw[this];exact h1.under hsx hix
 .have x0:cl x≠0:=fun e=>vx (.inl e)
  have x3:cl x≠3:=fun e=>vx (.inr e)
  by_cases c0:cl i=0
  .-- i only computes
   have vi:aof cl i:= .inl c0
   have src:∀ I,ae1 cl i I=ae0:=fun I=>by simp[ae1,c0]
   by_cases cx:cl x=1
   .obtain⟨h0,F,h1,h2⟩:=(aay hx cx).1 h
    obtain⟨v0,s0,e0⟩:=h2.nonempty hl
    obtain⟨k0,u',k1,_⟩:=(abh hi vi).1 e0
    rw[src]at k1
    have k1':=k1.past hsi hxi
    refine(abh hi vi).2 ⟨k0,u',by rw[src];exact k1',(aay hx cx).2 ⟨h0,F,h1.under hsx hix,h2.mono fun v I' _ e1=>?_⟩⟩
    obtain⟨_,u2,m1,m2⟩:=(abh hi vi).1 e1
    rw[src]at m1
    obtain rfl:=(m1.past hsi hxi).uniq k1'
    exact flip _ _ _ _ m2
   .have hg:=(agi hx x0 cx x3).1 h
    obtain⟨v,I',e0⟩:=hg.nonempty hl
    obtain⟨k0,u',k1,_⟩:=(abh hi vi).1 e0
    rw[src]at k1
    have k1':=k1.past hsi hxi
    refine(abh hi vi).2 ⟨k0,u',by rw[src];exact k1',(agi hx x0 cx x3).2 ?_⟩
    refine hg.under hsx hix fun v I' e1=>?_
    obtain⟨_,u2,m1,m2⟩:=(abh hi vi).1 e1
    rw[src]at m1
    obtain rfl:=(m1.past hsi hxi).uniq k1'
    exact flip _ _ _ _ m2
  .have c1:cl i=1:=by
    rcases hcl with((h | h) | h) | h
    .exact mt h x0
    .exact mt h c0
    .exact h
    .exact mt h.1 x3
   by_cases cx:cl x=1
   .obtain⟨h0,F,h1,h2⟩:=(aay hx cx).1 h
    obtain⟨v0,s0,e0⟩:=h2.nonempty hl
    obtain⟨k0,F',k1,_⟩:=(aay hi c1).1 e0
    have k1':=k1.past hsi hxi
    have h3:NQ ro F I fun v I1=>NQ ro F' I1 fun u I2=>K (qD ox.dst v (qD oi.dst u fr)) I2:=h2.mono fun v I1 _ e1=>by
     obtain⟨_,F2,m1,m2⟩:=(aay hi c1).1 e1
     exact((m1.past hsi hxi).trans k1' m2).map fun u I2 hk=>flip _ _ _ _ hk
    exact(aay hi c1).2 ⟨k0,F',k1',(NQ.comm h3).map fun u I1 hk=>(aay hx cx).2 ⟨h0,F,h1.under hsx hix,hk⟩⟩
   .have hg:=(agi hx x0 cx x3).1 h
    obtain⟨v,I',e0⟩:=hg.nonempty hl
    obtain⟨k0,F',k1,_⟩:=(aay hi c1).1 e0
    have k1':=k1.past hsi hxi
    refine(aay hi c1).2 ⟨k0,F',k1',?_⟩
    cases F' with
    | none=>
     refine(agi hx x0 cx x3).2 (hg.under hsx hix fun v I2 e1=>?_)
     obtain⟨_,F2,m1,m2⟩:=(aay hi c1).1 e1
     exact flip _ _ _ _ ((m1.past hsi hxi).trans k1' m2)
    | some G=>
     intro n b hb hs
     refine(agi hx x0 cx x3).2 ?_
     rw[alG hs]
     refine(hg.frame (qL.single hs (G n).1)).under hsx hix fun v I2 e1=>?_
     obtain⟨τ,rfl,hdj,e1⟩:=e1
     obtain⟨_,F2,m1,m2⟩:=(aay hi c1).1 e1
     have m3:=(m1.past hsi hxi).trans k1' m2
     have hτ:τ b=none:=by
      cases e:τ b with
      | none=>rfl
      | some y=>have:=hdj b y e;simp[ajv]at this
     rw[<-alG hτ]
     exact flip _ _ _ _ (m3 n b hb hτ)
def aeF{cl:Nat->Nat}{K:Fr->AH->Prop}(hK:abW K){i:Nat}(post:List Nat):∀ (pre:List Nat) {fr:Fr} {I:AH},(∀x∈pre,abX ops cl x i=true)->jW B ro I->
  qV P B ro N ops cl K (pre++i::post) fr I->qV P B ro N ops cl K (i::(pre++post)) fr I:=by
 intro pre
 induction pre with
 | nil=>intro fr I _ _ h;exact h
 | cons x pre ih=>
  intro fr I hs hl h
  have h2:D1 P B ro N ops cl x (qV P B ro N ops cl K (i::(pre++post))) fr I:=D1.mono hl (fun fr I hl h=>ih (fun y hy=>hs y (List.mem_cons_of_mem _ hy)) hl h) h
  exact swap (hs x (List.mem_cons_self ..)) (qV.closed hK _) hl h2
def alH(o:Oper):List Nat:=(o.after.toList.filter fun e=>Region.binds .any e).map (·.on)
def ww(ops:Array Oper)(i:Nat):List Nat:=match ops[i]? with | some o=>alH o | none=>[]
def aii(ops:Array Oper)(anc:List (Nat×Nat)):Bool:=anc.all fun p=>(ww ops p.2).any fun e=>e == p.1 || anc.contains (p.1,e)
def chk(ops:Array Oper)(cl:Nat->Nat)(anc:List (Nat×Nat)):List Nat->Bool
 | []=>true
 | x::rest=>(ww ops x).all (fun e=>e<x && !(x::rest).contains e) && !rest.contains x && decide (x<ops.size) &&
   rest.all (fun i=>abX ops cl x i || (ww ops i).contains x || anc.contains (x,i)) && chk ops cl anc rest
def full(n:Nat)(l:List Nat):Bool:=(List.range n).all fun i=>l.contains i
def aff{listed:Array Bool}{i:Nat}:i∈Region.ready .any ops listed↔i<ops.size/\listed.getD i true=false/\∃ o,ops[i]?=some o/\∀ e∈alH o,listed.getD e false=true:=by
 unfold Region.ready alH
 simp only[Le,List.mem_range,mu,Bool.not_eq_true',mN,forall_exists_index,and_imp]
 constructor
 .rintro⟨h1,h2,h3⟩
  cases ho:ops[i]? with
  | none=>rw[ho]at h3;simp at h3
  | some o=>
   rw[ho]at h3
   simp only[Option.map_some,Option.getD_some,Array.all_eq_true',Bool.or_eq_true,Bool.not_eq_true']at h3
   refine⟨h1,h2,o,rfl,?_⟩
   rintro x e he hb rfl
   rcases h3 e (by simpa using he)with h | h
   .rw[hb]at h;cases h
   .exact h
 .rintro⟨h1,h2,o,ho,h3⟩
  refine⟨h1,h2,?_⟩
  rw[ho]
  simp only[Option.map_some,Option.getD_some,Array.all_eq_true',Bool.or_eq_true,Bool.not_eq_true']
  intro e he
  cases hb:Region.binds .any e with
  | false=>exact .inl rfl
  | true=>exact .inr (h3 e.on e (j4 he) hb rfl)
def alI{anc:List (Nat×Nat)}(ha:aii ops anc=true)(hlt:∀ i,∀e∈ww ops i,e<i){L:Nat->Prop}(hc:∀ i,L i->∀ e∈ww ops i,L e)(x:Nat):
  ∀i,(∀e∈ww ops i,L e)->(x,i)∈anc->L x:=by
 intro i
 induction i using Nat.strongRecOn with
 | _ i ih=>
  intro hi hm
  have:=mI.1 ha _ hm
  obtain⟨e,he,h⟩:=List.any_eq_true.1 this
  simp only[Bool.or_eq_true,beq_iff_eq,List.contains_iff_mem]at h
  have hle:=hi e he
  rcases h with h | h
  .rw[<-h];exact hle
  .exact ih e (hlt i e he) (hc e hle) h
def afg{cl:Nat->Nat}{anc:List (Nat×Nat)}{l:List Nat}(h:chk ops cl anc l=true):∀ i∈l,i<ops.size/\∀ e∈ww ops i,e<i:=by
 induction l with
 | nil=>intro i hi;cases hi
 | cons x rest ih=>
  simp only[chk,mu,mS]at h
  obtain⟨⟨⟨⟨h1,h2⟩,h3⟩,h4⟩,h5⟩:=h
  intro i hi
  rcases mp.1 hi with rfl | hi
  .refine⟨h3,fun e he=>?_⟩
   have:=mI.1 h1 e he
   simp only[mu,mS]at this
   exact this.1
  .exact ih h5 i hi
def ac0{cl:Nat->Nat}{anc:List (Nat×Nat)}(ha:aii ops anc=true)(hlt:∀ i,∀e∈ww ops i,e<i){Q:Exit->Fr->AH->Prop}(hK:abW (Q .normal)){φ:AH}:
  ∀(n:Nat) (l:List Nat) (listed:Array Bool) {fr:Fr} {I:AH} {a:Act} {w:ZB},l.length=n->listed.size=ops.size->chk ops cl anc l=true->
   (∀i,i<ops.size->(listed.getD i true=false↔i∈l))->(∀i,i<ops.size->i∉l->∀ e∈ww ops i,e∉l)->
   qV P B ro N ops cl (Q .normal) l fr I->Own B ro φ I w->xz N fr a->wpAny P .any ops (aie B ro N φ Q) n listed a w:=by
 intro n
 induction n with
 | zero=>
  intro l listed fr I a w hn hsz hc hli hcl h ho hf
  obtain rfl:l=[]:=List.length_eq_zero_iff.1 hn
  refine⟨?_,fr,I,h,ho,hf⟩
  cases hr:Region.ready .any ops listed with
  | nil=>rfl
  | cons i r=>
   have hm:i∈Region.ready .any ops listed:=by rw[hr];exact List.mem_cons_self ..
   obtain⟨h1,h2,_⟩:=aff.1 hm
   exact mt ((hli i h1).1 h2) y0
 | succ n ih=>
  intro l listed fr I a w hn hsz hc hli hcl h ho hf
  have hlist:∀ e,e<ops.size->e∉l->listed.getD e false=true:=by
   intro e he hne
   have h1:¬ listed.getD e true=false:=fun q=>hne ((hli e he).1 q)
   have hlt':e<listed.size:=by omega
   simp only[mT,Array.getElem?_eq_getElem hlt',Option.getD_some]at h1⊢
   simpa using h1
  refine⟨?_,?_⟩
  .intro hr
   exfalso
   cases l with
   | nil=>simp at hn
   | cons x rest=>
    have hx:=afg hc x (List.mem_cons_self ..)
    have:x∈Region.ready .any ops listed:=by
     refine aff.2 ⟨hx.1,(hli x hx.1).2 (List.mem_cons_self ..),ops[x],by simp[hx.1],?_⟩
     intro e he
     have he':e∈ww ops x:=by simp[ww,hx.1];exact he
     simp only[chk,mu]at hc
     have h1:=mI.1 hc.1.1.1.1 e he'
     simp only[mu,mS,Bool.not_eq_true',List.contains_iff_mem,<-nV]at h1
     exact hlist e (by have:=h1.1;omega) h1.2
    rw[hr]at this;cases this
  .intro i hi
   obtain⟨h1,h2,o,hoi,h3⟩:=aff.1 hi
   have hil:=(hli i h1).1 h2
   obtain⟨pre,post,rfl⟩:=List.append_of_mem hil
   have hedge:∀ e∈ww ops i,e∉pre++i::post:=by
    intro e he hm
    have he2:e∈alH o:=by simpa [ww,hoi]using he
    have h4:=h3 e he2
    have hlt':=(afg hc e hm).1
    have:=(hli e hlt').2 hm
    have hs:e<listed.size:=by omega
    simp only[mT,Array.getElem?_eq_getElem hs,Option.getD_some]at this h4
    rw[this]at h4;cases h4
   have hpass:∀ x∈pre,abX ops cl x i=true:=by
    have gen:∀ (p:List Nat),chk ops cl anc (p++i::post)=true->∀ x∈p,abX ops cl x i=true\/x∈ww ops i\/(x,i)∈anc:=by
     intro p
     induction p with
     | nil=>intro _ x hx;cases hx
     | cons y p ihp=>
      intro hc x hx
      simp only[ng,chk,mu]at hc
      rcases mp.1 hx with rfl | hx
      .have:=mI.1 hc.1.2 i y0
       simp only[Bool.or_eq_true,List.contains_iff_mem]at this
       rcases this with(h | h) | h
       .exact .inl h
       .exact .inr (.inl h)
       .exact .inr (.inr h)
      .exact ihp hc.2 x hx
    intro x hx
    have hxm:x∈pre++i::post:=Ll _ hx
    rcases gen pre hc x hx with h | h | h
    .exact h
    .exact mt hxm (hedge x h)
    .have hcl':∀ j,(j<ops.size->j∉pre++i::post)->∀ e∈ww ops j,(e<ops.size->e∉pre++i::post):=by
      intro j hj e he hes
      by_cases hjs:j<ops.size
      .exact hcl j hjs (hj hjs) e he
      .simp[ww,Array.getElem?_eq_none (Nat.le_of_not_lt hjs)]at he
     exact mt hxm (alI (L:=fun j=>j<ops.size->j∉pre++i::post) ha hlt hcl' x i (fun e he _=>hedge e he) h (afg hc x hxm).1)
   have hd:=aeF (P:=P) (B:=B) (N:=N) hK post pre hpass ⟨φ,w,ho⟩ h
   have hnd:i∉pre++post:=by
    have:(pre++i::post).Nodup:=by
     have gen:∀ l:List Nat,chk ops cl anc l=true->l.Nodup:=by
      intro l
      induction l with
      | nil=>intro _;exact List.nodup_nil
      | cons y r ihr=>
       intro hc
       simp only[chk,mu,Bool.not_eq_true']at hc
       refine nv.2 ⟨?_,ihr hc.2⟩
       have:=hc.1.1.1.2
       intro hm;rw[List.contains_iff_mem.2 hm]at this;cases this
     exact gen _ hc
    have:=(List.perm_middle (a:=i) (l₁:=pre) (l₂:=post)).nodup_iff.1 this
    exact(nv.1 this).1
   have hc':chk ops cl anc (pre++post)=true:=by
    have gen:∀ (p:List Nat),chk ops cl anc (p++i::post)=true->chk ops cl anc (p++post)=true:=by
     intro p
     induction p with
     | nil=>intro hc;simp only[nF,chk,mu]at hc;exact hc.2
     | cons y p ihp=>
      intro hc
      simp only[ng,chk,mu]at hc⊢
      obtain⟨⟨⟨⟨c1,c2⟩,c3⟩,c4⟩,c5⟩:=hc
      refine⟨⟨⟨⟨?_,?_⟩,c3⟩,?_⟩,ihp c5⟩
      .refine mI.2 fun e he=>?_
       have:=mI.1 c1 e he
       simp only[mu,Bool.not_eq_true',<-nV,List.contains_iff_mem]at this⊢
       refine⟨this.1,fun hm=>this.2 ?_⟩
       simp only[mp,mv]at hm⊢
       rcases hm with h | h | h
       .exact .inl h
       .exact .inr (.inl h)
       .exact .inr (.inr (.inr h))
      .simp only[Bool.not_eq_true',<-nV,List.contains_iff_mem]at c2⊢
       intro hm;apply c2
       simp only[mv,mp]at hm⊢
       exact hm.imp id .inr
      .refine mI.2 fun j hj=>mI.1 c4 j ?_
       simp only[mv,mp]at hj⊢
       exact hj.imp id .inr
    exact gen pre hc
   have hmem:∀ j,j∈pre++post↔j∈pre++i::post/\j≠i:=by
    intro j
    simp only[mv,mp]
    constructor
    .intro(hh:j∈pre\/j∈post)
     refine⟨hh.imp id .inr,fun e=>?_⟩
     subst e;exact hnd (mv.2 hh)
    .rintro⟨h | h | h,hne⟩
     .exact .inl h
     .exact mt h hne
     .exact .inr h
   have hlen:(pre++post).length=n:=by simp at hn ⊢;omega
   have hset:∀ j,j<ops.size->((listed.setIfInBounds i true).getD j true=false↔j∈pre++post):=by
    intro j hj
    rw[hmem]
    by_cases e:j=i
    .subst e
     have:j<listed.size:=by omega
     simp[mT,this]
    .rw[Region_getD_set e]
     constructor
     .intro h;exact⟨(hli j hj).1 h,e⟩
     .intro h;exact(hli j hj).2 h.1
   have hcl2:∀ j,j<ops.size->j∉pre++post->∀ e∈ww ops j,e∉pre++post:=by
    intro j hj hjn e he hm
    have hm':=((hmem e).1 hm).1
    by_cases e':j=i
    .subst e';exact hedge e he hm'
    .exact hcl j hj (fun hh=>hjn ((hmem j).2 ⟨hh,e'⟩)) e he hm'
   have kont:∀ fr I a w,qV P B ro N ops cl (Q .normal) (pre++post) fr I->Own B ro φ I w->xz N fr a->wpAny P .any ops (aie B ro N φ Q) n (listed.setIfInBounds i true) a w:=
    fun fr I a w hk ho hf=>ih (pre++post) _ hlen (j4 hsz) hc' hset hcl2 hk ho hf
   exact D1.sound hoi hd ho hf kont
where
 Region_getD_set {listed:Array Bool} {i j:Nat} (h:j≠i):(listed.setIfInBounds i true).getD j true=listed.getD j true:=by
  simp only[mT]
  rw[Array.getElem?_setIfInBounds,ma (fun q=>h q.symm)]
 D1.sound {cl:Nat->Nat} {i:Nat} {o:Oper} (hoi:ops[i]?=some o) {K:Fr->AH->Prop} {fr:Fr} {I φ:AH} {a:Act} {w:ZB} {Q':Exit->Act->ZB->Prop} {next:Act->ZB->Prop}
   (h:D1 P B ro N ops cl i K fr I) (ho:Own B ro φ I w) (hf:xz N fr a) (hk:∀ fr I a w,K fr I->Own B ro φ I w->xz N fr a->next a w):wpOp P ops Q' i next a w:=by
  have step:ke P B ro N ops o K fr I->wpOp P ops Q' i next a w:=by
   rintro⟨hd,h⟩
   unfold wpOp
   rw[hoi]
   dsimp only
   cases hg:o.guard with
   | none=>
    rw[hg]at h
    rw[mc (by simp[Region.wanted,hg])]
    exact .inl (wi.sound h hd ho hf hk)
   | some g=>
    obtain⟨j,want⟩:=g
    rw[hg]at h
    obtain⟨t,v,ht,hl,h⟩:=h
    have hy:=yielded_eq hf ht hl
    rcases h with⟨rfl,h⟩ | ⟨hv,h⟩
    .rw[mc (by simp[Region.wanted,hg,hy])]
     exact .inl (wi.sound h hd ho hf hk)
    .rw[ma (by
      simp only[Region.wanted,hg,hy]
      cases v<;>simp
      rename_i b;intro e;subst e;exact hv rfl)]
     exact hk _ _ _ _ h ho (hf.put hd undef)
  have val:∀ τ,HLe τ I->wl N o.dst=true->∀ u,km P ro τ ops o fr u->K (qD o.dst u fr) I->wpOp P ops Q' i next a w:=by
   intro τ hle h0 u h1 h2
   refine step ⟨h0,?_⟩
   have pe:yt P ro τ o fr u->wi P B ro o K fr I:=fun he O hρ=>agh _ (alF _ hle (he O hρ)) h2
   unfold km at h1
   split at h1
   .rename_i hg;try rw[hg]
    exact pe h1
   .rename_i hg
    try rw[hg]
    obtain⟨t,v,g1,g2,g3⟩:=h1
    refine⟨t,v,g1,g2,g3.imp (fun⟨a,b⟩=>⟨a,pe b⟩) ?_⟩
    rintro⟨a,rfl⟩;exact⟨a,h2⟩
  unfold D1 at h
  rw[hoi]at h
  dsimp only at h
  split at h
  .obtain⟨h0,u,h1,h2⟩:=h
   exact val ae0 (fun _ _ e=>by cases e) h0 u h1 h2
  .obtain⟨h0,u,h1,h2⟩:=h
   exact val I (HLe.refl _) h0 u h1 h2
  .obtain⟨h0,F,h1,h2⟩:=h
   refine step ⟨h0,?_⟩
   unfold pV at h1
   split at h1
   .rename_i hg;try rw[hg]
    obtain⟨G,rfl,h1⟩:=h1
    exact fun O hρ=>(h1 O hρ _ I).2 h2
   .rename_i hg
    try rw[hg]
    obtain⟨t,v,g1,g2,g3⟩:=h1
    refine⟨t,v,g1,g2,?_⟩
    rcases g3 with⟨a,G,rfl,b⟩ | ⟨a,rfl⟩
    .exact .inl ⟨a,fun O hρ=>(b O hρ _ I).2 h2⟩
    .exact .inr ⟨a,h2⟩
  .exact step h
def AW.drawn{id:Nat}{Q:Exit->Fr->AH->Prop}{fr:Fr}{ψ I:AH}(cl:Nat->Nat)(anc:List (Nat×Nat))(l:List Nat)(hm:P.follows .mixedOrders=true)(hd:qL ψ I)
  (hc:(chk ops cl anc l && aii ops anc && full ops.size l && (l.length == ops.size))=true)
  (h:qV P B (join ro ψ) N ops cl (fun fr I=> ∃fr',wW fr' fr/\(qL ψ I->Q .normal fr' (join ψ I))) l fr I):AW P B ro N (.region id ops true) Q fr (join ψ I):=by
 simp only[mu,beq_iff_eq]at hc
 obtain⟨⟨⟨c1,c2⟩,c3⟩,c4⟩:=hc
 intro φ w a ho hf
 refine wp_region_any hm ?_
 have hp:∀ b o,ψ b=some o->φ b=none/\ro b=none:=fun b o hs=>(ho.own b o (vJ hs)).2
 have hall:∀ i,i<ops.size->i∈l:=fun i hi=>List.contains_iff_mem.1 (mI.1 c3 i (List.mem_range.2 hi))
 have hlt:∀ i,∀e∈ww ops i,e<i:=by
  intro i e he
  by_cases hi:i<ops.size
  .exact(afg c1 i (hall i hi)).2 e he
  .simp[ww,Array.getElem?_eq_none (Nat.le_of_not_lt hi)]at he
 have hw:Own B (join ro ψ) φ I {w with drawn:=w.drawn+1}:=(ho.lend hd).drawn _
 have:=ac0 (P:=P) (B:=B) (ro:=join ro ψ) (N:=N) (ops:=ops) (cl:=cl) (anc:=anc) c2 hlt
  (Q:=fun e fr I=>e= .normal/\∃ fr',wW fr' fr/\(qL ψ I->Q .normal fr' (join ψ I)))
  (fun fr fr' I he ⟨h0,fr2,h1,h2⟩=>⟨h0,fr2,fun i=>(h1 i).trans (he i),h2⟩) (φ:=φ) ops.size l (Array.replicate ops.size false)
  (w:={w with drawn:=w.drawn+1}) (a:=a) (fr:=fr) (I:=I) c4 y0 c1
  (fun i hi=>⟨fun _=>hall i hi,fun _=>by simp[hi]⟩) (fun i hi hn=>mt (hall i hi) hn) ?_ hw hf
 .refine wpAny_post ?_ _ _ this
  rintro e a' w' ⟨fr',I',⟨rfl,fr2,he,hq⟩,ho',hf'⟩
  obtain⟨g1,g2⟩:=ho'.unlend hp
  exact⟨fr2,_,hq g2,g1,⟨hf'.size,hf'.defers,fun i v hi=>hf'.has i v (by rw[<-he i];exact hi)⟩⟩
 .refine DOps_post ?_ l h
  intro fr I hk;exact⟨rfl,hk⟩
where
 LetsOut_post {Q Q':Exit->Act->ZB->Prop} (h:∀ e a w,Q e a w->Q' e a w):LetsOut Q->LetsOut Q':=fun⟨a,w,q⟩=>⟨a,w,h _ _ _ q⟩
 wpOp_post {Q Q':Exit->Act->ZB->Prop} (h:∀ e a w,Q e a w->Q' e a w) {i:Nat} {K K':Act->ZB->Prop} (hk:∀ a w,K a w->K' a w) {a:Act} {w:ZB} (hx:wpOp P ops Q i K a w):wpOp P ops Q' i K' a w:=by
  unfold wpOp at*
  split
  .exact hk _ _ (by simpa [*]using hx)
  .rename_i o ho'
   simp only[ho']at hx
   split
   .rename_i hw';simp only[hw',if_true]at hx
    refine hx.imp ?_ (fun⟨p,q⟩=>⟨p,LetsOut_post h q⟩)
    intro hx
    unfold Oper.wp at*
    generalize (execOp a.eval o).run P w=r at*
    cases r with
    | ok n w'=>
     cases n<;>simp only[Oper.upon]at hx⊢ <;>
      first
       | exact hk _ _ hx
       | exact Calls.mono hx (fun e w'' he=>by cases e<;>first | exact hk _ _ he | exact h _ _ _ he | exact LetsOut_post h he)
       | exact Rows.mono hx (fun _ _ he=>hk _ _ he)
    | halt x w'=>cases x<;>simp only[Oper.upon]at hx⊢ <;>first | exact h _ _ _ hx | exact hx
   .rename_i hw';simp only[hw']at hx;exact hk _ _ hx
 wpAny_post {Q Q':Exit->Act->ZB->Prop} (h:∀ e a w,Q e a w->Q' e a w):∀ (n:Nat) (listed:Array Bool) {a:Act} {w:ZB},wpAny P .any ops Q n listed a w->wpAny P .any ops Q' n listed a w:=by
  intro n
  induction n with
  | zero=>intro listed a w hx;exact⟨hx.1,h _ _ _ hx.2⟩
  | succ n ih=>intro listed a w hx;exact⟨fun e=>h _ _ _ (hx.1 e),fun i hi=>wpOp_post h (fun a w=>ih _) (hx.2 i hi)⟩
 DOps_post {ro:AH} {cl:Nat->Nat} {K K':Fr->AH->Prop} (h:∀ fr I,K fr I->K' fr I):∀ (l:List Nat) {fr:Fr} {I:AH},qV P B ro N ops cl K l fr I->qV P B ro N ops cl K' l fr I:=by
  intro l
  induction l with
  | nil=>intro fr I hx;exact h _ _ hx
  | cons i r ih=>
   intro fr I hx
   unfold qV D1 at hx⊢
   split at hx
   .exact hx
   .split at hx
    .obtain⟨h0,u,h1,h2⟩:=hx;exact⟨h0,u,h1,ih h2⟩
    .obtain⟨h0,u,h1,h2⟩:=hx;exact⟨h0,u,h1,ih h2⟩
    .obtain⟨h0,F,h1,h2⟩:=hx;exact⟨h0,F,h1,h2.map fun v I hk=>ih hk⟩
    .exact hx.mono fun fr I=>ih
end